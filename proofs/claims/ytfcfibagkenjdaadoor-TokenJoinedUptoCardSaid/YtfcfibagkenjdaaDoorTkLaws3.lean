/-
  The walks of the laws on words, 3.
-/
import Derived.Test.YtfcfibagkenjdaaDoorTkLaws
import Derived.Deep.RegionHeld3
import Derived.Deep.DrawnRows
set_option linter.unusedVariables false
namespace Go.Proofs.YtfcfibagkenjdaaDoor
open Go.RowKit
attribute [local go_sem ↓] Go.wp_at_zero Go.wp_at_succ

theorem Tk.from_len : ∀ (n : Nat) (l cur : List UInt8), l.length ≤ n → ∀ w ∈ Tk.from' l cur, w.length ≤ cur.length + l.length
  | n, [], cur, _, w, hw => by
    rw [Tk.from_nil] at hw; unfold Tk.flush at hw
    split at hw
    · simp at hw
    · obtain rfl : w = Tk.fold cur := by simpa using hw
      rw [Tk.fold_length]; omega
  | 0, x :: a, cur, h, _, _ => by simp at h
  | n + 1, x :: a, cur, h, w, hw => by
    have hne : x :: a ≠ [] := by simp
    have hd := Tk.drop_ne (x :: a) hne
    have hz := Tk.sz_le (x :: a) hne
    rw [Tk.from_step (x :: a) _ hne] at hw
    by_cases hl : Tk.isL (x :: a) = true
    · rw [if_pos hl] at hw
      have := Tk.from_len n _ _ (by simp at hd h ⊢; omega) w hw
      simp at this hz ⊢; omega
    · rw [if_neg hl] at hw
      rcases List.mem_append.1 hw with hw | hw
      · have := Tk.from_len n [] cur (by simp) w (by rw [Tk.from_nil]; exact hw)
        simp at this ⊢; omega
      · have := Tk.from_len n _ [] (by simp at hd h ⊢; omega) w hw
        simp at this ⊢; omega
theorem words_len (l w : List UInt8) (h : w ∈ Tk.words l) : w.length ≤ l.length := by
  have := Tk.from_len l.length l [] (Nat.le_refl _) w h
  simpa using this

theorem Feeds.own {P : Program} {w : World} {base : Nat} {v : Value} {l : List (List UInt8)} (h : Own w base 1 v l.length (l.map sv)) : Feeds P w 1 v l.length (l.map sv) := by
  rcases h.2 with ⟨rfl, h0⟩ | ⟨g, cap, rfl, _, _, _, hc, _⟩
  · obtain rfl := List.eq_nil_of_length_eq_zero h0
    exact Feeds.nil
  · refine Feeds.slice (by simp) (fun j u hj => ?_) (fun u hu => ?_)
    · rw [Go.WideShapes.add_plain, Nat.zero_add]; exact hc j u hj
    · obtain ⟨x, _, rfl⟩ := List.mem_map.1 hu; rfl

set_option maxRecDepth 4000 in
set_option maxHeartbeats 800000 in
theorem joined_true (s : ByteArray) (hs : s.size ≤ 1048576) (t : ByteArray) (ht : t.size ≤ 1048576) (w : World) (hT : U8 w) :
    Calls Tryd.prog 7 #[.string s, .string t] w fun e w' => e = .returned (.bool true) ∧ Keeps w w' := by
  obtain ⟨i0, hi, hz0, hz1, hz2⟩ := info_parts info_str
  have hst := str_toList
  have hap := str_append
  have hsz := str_size
  have hn1 : (Tk.words s.data.toList).length ≤ 1048577 := by have := words_size s.data.toList; simp at this; omega
  have hn2 : (Tk.words t.data.toList).length ≤ 1048577 := by have := words_size t.data.toList; simp at this; omega
  have h1 := Lib.hid (fun w hT => tk_words s (by omega) (by omega) w hT)
  have h2 := Lib.hid (fun w hT => tk_words t (by omega) (by omega) w hT)
  have hss : s.data.toList.length = s.size := by simp
  have htt : t.data.toList.length = t.size := by simp
  have hj := Tk.words_joined s.data.toList t.data.toList
  have h3 := fun w hT => tk_words (str (s.data.toList ++ [32] ++ t.data.toList)) (by rw [str_size]; simp; omega) (by rw [str_list, hj]; simp; omega) w hT
  rw [str_list, hj] at h3
  have h3 := Lib.hid h3
  obtain ⟨A, rfl⟩ : ∃ A, s = str A := ⟨_, (str_of s).symm⟩
  obtain ⟨B, rfl⟩ : ∃ B, t = str B := ⟨_, (str_of t).symm⟩
  rw [str_list] at h1 hn1
  rw [str_list] at h2 hn2
  rw [str_list, str_list, show A ++ [32] ++ B = A ++ 32 :: B by simp] at h3
  obtain ⟨L, hL⟩ : ∃ L, Tk.words A = L := ⟨_, rfl⟩
  obtain ⟨M, hM⟩ : ∃ M, Tk.words B = M := ⟨_, rfl⟩
  rw [hL] at h1 hn1 h3
  rw [hM] at h2 hn2 h3
  have hc32 : ByteArray.mk #[32] = str [32] := rfl
  have HN1 := Lib.hid hn1
  have HN2 := Lib.hid hn2
  have HA := Lib.hid (show A.length ≤ 1048576 by rw [str_size] at hs; exact hs)
  have HB := Lib.hid (show B.length ≤ 1048576 by rw [str_size] at ht; exact ht)
  clear hs ht hn1 hn2 hj hL hM hss htt
  go_enter Tryd.func7, Tryd.ntmps7
  go_wp2_with fail
  refine (h1.out _ hT).mono ?_
  rintro e w1 ⟨v1, rfl, ho1, hk1⟩
  have hf1 := Lib.hid (Feeds.own (P := Tryd.prog) ho1)
  clear ho1
  go_wp2_with (at_builtin; refine wpList_append_any w1 rfl _ _ 25 25 rfl w.heap.size 9 i0 (.string ⟨#[]⟩) 1 16 Tryd.underlying25 ⟨_, Tryd.underlying25, fun _ h => by cases h⟩ hi hz0 hz1 hz2 rfl (by decide) (.slice none 0 0) 0 [] rfl (Own.nil _ _ _) v1 L.length (L.map sv) rfl hf1.out (by have := HN1.out; unfold maxLen; omega) (by have := HN1.out; omega) hk1.size ?_; intro va wa hoa hga; have hka := Lib.hid (hk1.grown hga (fun k h => by cases h)); rw [Nat.zero_add, List.nil_append] at hoa; have hoa := Lib.hid hoa; clear hga)
  refine (h2.out _ (hT.keeps hka.out)).mono ?_
  rintro e w2 ⟨v2, rfl, ho2, hk2⟩
  have hf2 := Lib.hid (Feeds.own (P := Tryd.prog) ho2)
  have hoa2 := Lib.hid (hoa.out.keeps hk2)
  have hka2 := Lib.hid (hka.out.trans hk2)
  have hcat1 : (9223372036854775807 < A.length + 1) = False := by have := HA.out; simp; omega
  have hcat2 : (9223372036854775807 < A.length + 1 + B.length) = False := by have := HA.out; have := HB.out; simp; omega
  clear ho2 hk2
  go_wp2_with (at_builtin; refine wpList_append_any w2 rfl _ _ 25 25 rfl w.heap.size 9 i0 (.string ⟨#[]⟩) 1 16 Tryd.underlying25 ⟨_, Tryd.underlying25, fun _ h => by cases h⟩ hi hz0 hz1 hz2 rfl (by decide) va L.length (L.map sv) rfl hoa2.out v2 M.length (M.map sv) rfl hf2.out (by have := HN1.out; have := HN2.out; unfold maxLen; omega) (by have := HN1.out; have := HN2.out; omega) hka2.out.size ?_; intro vb wb hob hgb; have hkb := Lib.hid (hka2.out.grown hgb (hoa2.out.base)); rw [← List.map_append, ← List.length_append] at hob; have hsb := Lib.hid (Strs.of_own hob); clear hgb hob)
  clear hcat1 hcat2
  refine (h3.out _ (hT.keeps hkb.out)).mono ?_
  rintro e w3 ⟨v3, rfl, ho3, hk3⟩
  have hs3 := Lib.hid (Strs.of_own ho3)
  clear ho3
  go_wp2_with fail
  refine (ref_same _ _ (L ++ M) (L ++ M) (by have := HN1.out; have := HN2.out; simp; omega) _ hs3.out (hsb.out.keeps hk3)).mono ?_
  rintro e w4 ⟨rfl, hk4⟩
  rw [show decide (L ++ M = L ++ M) = true by simp]
  have hk := (hkb.out.trans hk3).trans hk4
  go_wp2_with fail
  refine (tk_live _ (hT.keeps hk)).mono ?_
  rintro e w5 ⟨rfl, hk5⟩
  go_wp2_with fail
  go_ret
  exact ⟨rfl, hk.trans hk5⟩

set_option maxRecDepth 4000 in
set_option maxHeartbeats 1600000 in
theorem same_true (s : ByteArray) (hs : s.size ≤ 1048576) (w : World) (hT : U8 w) :
    Calls Tryd.prog 6 #[.string s] w fun e w' => e = .returned (.bool true) ∧ Keeps w w' := by
  obtain ⟨A, rfl⟩ : ∃ A, s = str A := ⟨_, (str_of s).symm⟩
  rw [str_size] at hs
  have hst := str_toList
  have hn1 : (Tk.words A).length ≤ 1048577 := by have := words_size A; omega
  have h1 := fun w hT => tk_words (str A) (by rw [str_size]; omega) (by rw [str_list]; omega) w hT
  have hF := fun w => tk_fold (str A) (by rw [str_size]; omega) w
  have h2 := fun w hT => tk_words (str (Tk.fold A)) (by rw [str_size, Tk.fold_length]; omega) (by rw [str_list, Tk.words_fold]; omega) w hT
  have hH := fun x hx w hT => tk_has (str A) (by rw [str_size]; omega) (str x) hx w hT
  rw [str_list] at h1
  rw [str_list, Tk.words_fold] at h2
  simp only [str_list] at hF hH
  have heach := fun x hx => Tk.words_each A x hx
  have hlen := fun x hx => words_len A x hx
  obtain ⟨L, hL⟩ : ∃ L, Tk.words A = L := ⟨_, rfl⟩
  obtain ⟨F, hFF⟩ : ∃ F, Tk.fold A = F := ⟨_, rfl⟩
  rw [hL] at h1 h2 hn1 heach hlen
  simp only [hL] at hH
  rw [hFF] at hF h2
  obtain ⟨n, hn⟩ : ∃ n, L.length = n := ⟨_, rfl⟩
  rw [hn] at hn1
  have HN := Lib.hid hn
  have H1 := Lib.hid h1
  have H2 := Lib.hid h2
  have HF := Lib.hid hF
  have HH := Lib.hid hH
  have HEA := Lib.hid heach
  have HLE := Lib.hid (fun x hx => Nat.le_trans (hlen x hx) hs)
  clear h1 h2 hF hH heach hlen hL hFF hs
  go_enter Tryd.func6, Tryd.ntmps6
  go_wp2_with fail
  refine (H1.out _ hT).mono ?_
  rintro e w1 ⟨v1, rfl, ho1, hk1⟩
  have hs1 := Strs.of_own ho1
  clear ho1
  go_wp2_with fail
  refine (HF.out _).mono ?_
  rintro e w2 ⟨rfl, hk2⟩
  go_wp2_with fail
  refine (H2.out _ (hT.keeps (hk1.trans hk2))).mono ?_
  rintro e w3 ⟨v3, rfl, ho3, hk3⟩
  have hs3 := Strs.of_own ho3
  clear ho3
  have hs1 := (hs1.keeps hk2).keeps hk3
  have hk13 := (hk1.trans hk2).trans hk3
  go_wp2_with fail
  refine (ref_same _ _ L L (by rw [hn]; omega) _ hs1 hs3).mono ?_
  rintro e w4 ⟨rfl, hk4⟩
  rw [show decide (L = L) = true by simp]
  obtain ⟨ad, cap, rfl, hc⟩ := hs1.keeps hk4
  have HC := Lib.hid hc
  have hk14 := hk13.trans hk4
  clear hs1 hs3 hc hk1 hk2 hk3 hk4 hk13
  rw [hn]
  clear hn
  go_wp2_with fail
  go_loopw [5] (fun i wr => ∃ j : Nat, j ≤ n ∧ i = .int .i64 j ∧ Keeps w4 wr) (fun i _ => n - (intOf i).toNat)
  case atStart => exact ⟨0, by omega, rfl, Keeps.refl _⟩
  case round =>
    obtain ⟨j, hj, rfl, hkr⟩ := hrel
    by_cases hlt : j < n
    · obtain ⟨x, hx⟩ : ∃ x, L[j]? = some x := ⟨_, List.getElem?_eq_getElem (by rw [HN.out]; exact hlt)⟩
      obtain ⟨g, rfl, hcs⟩ := HC.out (by intro e; rw [e] at hx; simp at hx)
      have hcx := hkr.cell (hcs j x hx)
      have hmem := List.mem_of_getElem? hx
      obtain ⟨e0, e1, e2⟩ := HEA.out x hmem
      have hxl := HLE.out x hmem
      have HW := fun w hT => tk_words (str x) (by rw [str_size]; omega) (by rw [str_list, e2]; simp) w hT
      rw [str_list, e2] at HW
      have HW := Lib.hid HW
      have HHX := Lib.hid (fun w hT => HH.out x (by rw [str_size]; omega) w hT)
      rw [e1, decide_eq_true hmem] at HHX
      have HFX := fun w => tk_fold (str x) (by rw [str_size]; omega) w
      rw [str_list, e1] at HFX
      have HFX := Lib.hid HFX
      unfold sv at hcx
      clear hx hcs hmem e0 e1 e2 hxl
      go_wp2_with fail
      refine (HW.out _ (hT.keeps (hk14.trans hkr))).mono ?_
      rintro e w5 ⟨v5, rfl, ho5, hk5⟩
      obtain ⟨ad5, cap5, rfl, hc5⟩ := Strs.of_own ho5
      obtain ⟨g5, rfl, hc6⟩ := hc5 (by simp)
      have hc50 := hc6 0 x rfl
      unfold sv at hc50
      have hcx5 := hk5.cell hcx
      have hk45 := hkr.trans hk5
      have hxx : (x == x) = true := beq_self_eq_true x
      clear ho5 hc5 hc6
      go_wp2_with fail
      go_region_held3 (fun w' => Keeps w5 w' ∧ w'.cell? ⟨g, j, none⟩ = some (.string (str x)) ∧ w'.cell? ⟨g5, 0, none⟩ = some (.string (str x))) ((refine (fun hq => ⟨hq, Keeps.cell hq hcx5, Keeps.cell hq hc50⟩) ?_; first | exact (Keeps.refl w5).drew | exact Keeps.trans (And.left ‹Keeps w5 _ ∧ _›) (by assumption))) ((first | (go_at_call 15; refine (HHX.out _ (hT.keeps (hk14.trans (hk45.trans (And.left ‹Keeps w5 _ ∧ _›))))).mono ?_; rintro e w' ⟨rfl, hkn⟩) | (go_at_call 9; refine (HFX.out _).mono ?_; rintro e w' ⟨rfl, hkn⟩)))
      have hS := (‹Keeps w5 _ ∧ _›).1
      go_wp2_with fail
      exact ⟨⟨j + 1, by omega, by go_num, hk45.trans hS⟩, by simp [intOf]; omega⟩
    · obtain rfl : j = n := by omega
      go_wp2_with fail
      refine (tk_live _ (hT.keeps (hk14.trans hkr))).mono ?_
      rintro e w6 ⟨rfl, hk6⟩
      go_wp2_with fail
      go_ret
      exact ⟨rfl, (hk14.trans hkr).trans hk6⟩
end Go.Proofs.YtfcfibagkenjdaaDoor
