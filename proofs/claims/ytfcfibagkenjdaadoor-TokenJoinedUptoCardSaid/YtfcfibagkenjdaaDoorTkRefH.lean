/-
  The document's Has: the walk.
-/
import Derived.Test.YtfcfibagkenjdaaDoorTkSame
set_option linter.unusedVariables false
namespace Go.Proofs.YtfcfibagkenjdaaDoor
open Go.RowKit

theorem strs_new (w : World) (t : TypeId) (l : List (List UInt8)) (c : Nat) : Strs (w.alloc (.cells (l.map sv).toArray t)) (.slice (some ⟨w.heap.size, 0, none⟩) l.length c) l :=
  ⟨_, _, rfl, fun _ => ⟨_, rfl, fun j x hj => by
    have h : (w.alloc (.cells (l.map sv).toArray t)).heap[w.heap.size]? = some (.cells (l.map sv).toArray t (0, 0)) := World.alloc_heap_new w _
    unfold World.cell?
    rw [h]
    show (l.map sv).toArray[j]? = _
    simp [hj]⟩⟩

set_option maxRecDepth 4000 in
set_option maxHeartbeats 800000 in
theorem ref_has (s : ByteArray) (hs : s.size ≤ 2 ^ 62) (hN : (Tk.words s.data.toList).length ≤ 2 ^ 40) (t : ByteArray) (ht : t.size ≤ 2 ^ 62) (w : World) (hT : U8 w) :
    Calls Tryd.prog 16 #[.string s, .string t] w fun e W' => e = .returned (.bool (decide (Tk.fold t.data.toList ∈ Tk.words s.data.toList))) ∧ Keeps w W' := by
  have hst := str_toList
  have hw := Lib.hid (ref_words s hs hN w hT)
  have hf := Lib.hid (fun w => ref_fold t ht w)
  obtain ⟨F, hF⟩ : ∃ F, Tk.fold t.data.toList = F := ⟨_, rfl⟩
  obtain ⟨L, hL⟩ : ∃ L, Tk.words s.data.toList = L := ⟨_, rfl⟩
  rw [hF] at hf ⊢
  rw [hL] at hw hN ⊢
  have HN := Lib.hid hN
  clear hF hL hN hs ht
  go_enter Tryd.func16, Tryd.ntmps16
  go_wp2_with fail
  refine hw.out.mono ?_
  rintro e w1 ⟨v, rfl, hown, hk1⟩
  obtain ⟨ad, cap, rfl, hcs⟩ := Strs.of_own hown
  clear hown hw
  have HCS := Lib.hid hcs
  clear hcs
  obtain ⟨n, hn⟩ : ∃ n, L.length = n := ⟨_, rfl⟩
  rw [hn] at HN ⊢
  have HLN := Lib.hid hn
  clear hn
  go_wp2_with fail
  refine (hf.out _).mono ?_
  rintro e w2 ⟨rfl, hk2⟩
  go_wp2_with fail
  go_loop [7] (fun i => ∃ k : Nat, k ≤ n ∧ i = .int .i64 k ∧ ∀ j x, j < k → L[j]? = some x → x ≠ F) (fun i => n - (intOf i).toNat)
  case atStart => exact ⟨0, by omega, rfl, fun j x hj => by omega⟩
  case round =>
    obtain ⟨k, hk, rfl, hno⟩ := hrel
    have HNO := Lib.hid hno
    have hNN := HN.out
    clear hno
    by_cases hlt : k < n
    · obtain ⟨x, hx⟩ : ∃ x, L[k]? = some x := ⟨_, List.getElem?_eq_getElem (by rw [HLN.out]; exact hlt)⟩
      obtain ⟨g, rfl, hc⟩ := HCS.out (by intro e; rw [e] at hx; simp at hx)
      have hcell := hk2.cell (hc k x hx)
      unfold sv at hcell
      have HX := Lib.hid hx
      clear hc hx
      by_cases hxf : x = F
      · have hb : (x == F) = true := by simp [hxf]
        have hm := Lib.hid (show decide (F ∈ L) = true by rw [← hxf]; exact decide_eq_true (List.mem_of_getElem? HX.out))
        clear hxf
        go_wp2_with fail
        go_ret
        exact ⟨by rw [hm.out]; rfl, hk1.trans hk2⟩
      · have hb : (x == F) = false := by simp [hxf]
        have HXF := Lib.hid hxf
        clear hxf
        go_wp2_with fail
        exact ⟨⟨k + 1, by omega, by go_num, fun j y hj hy => by
          by_cases hjk : j = k
          · subst hjk; rw [HX.out] at hy; cases hy; exact HXF.out
          · exact HNO.out j y (by omega) hy⟩, by simp [intOf]; omega⟩
    · obtain rfl : k = n := by omega
      have hm := Lib.hid (show decide (F ∈ L) = false by
        apply decide_eq_false; intro hmem
        obtain ⟨j, hj⟩ := List.getElem?_of_mem hmem
        exact HNO.out j F (by have := (List.getElem?_eq_some_iff.1 hj).1; have := HLN.out; omega) hj rfl)
      go_wp2_with fail
      go_ret
      exact ⟨by rw [hm.out]; rfl, hk1.trans hk2⟩

set_option maxRecDepth 4000 in
set_option maxHeartbeats 800000 in
theorem tk_live (w : World) (hT : U8 w) : Calls Tryd.prog 11 #[] w fun e w' => e = .returned (.bool true) ∧ Keeps w w' := by
  have hst := str_toList
  have hw := Lib.hid (tk_words ⟨#[70, 111, 111, 44, 32, 98, 97, 114, 57, 32, 70, 79, 79]⟩ (by decide) (by decide +kernel) w hT)
  rw [show Tk.words (ByteArray.mk #[70, 111, 111, 44, 32, 98, 97, 114, 57, 32, 70, 79, 79]).data.toList = [[102, 111, 111], [98, 97, 114, 57], [102, 111, 111]] by decide +kernel] at hw
  have h1 := fun w hT => tk_has ⟨#[70, 111, 111, 44, 32, 98, 97, 114, 57]⟩ (by decide) ⟨#[66, 97, 114, 57]⟩ (by decide) w hT
  rw [show decide (Tk.fold (ByteArray.mk #[66, 97, 114, 57]).data.toList ∈ Tk.words (ByteArray.mk #[70, 111, 111, 44, 32, 98, 97, 114, 57]).data.toList) = true by decide +kernel] at h1
  have h2 := fun w hT => tk_has ⟨#[98, 97, 114, 57]⟩ (by decide) ⟨#[98, 97]⟩ (by decide) w hT
  rw [show decide (Tk.fold (ByteArray.mk #[98, 97]).data.toList ∈ Tk.words (ByteArray.mk #[98, 97, 114, 57]).data.toList) = false by decide +kernel] at h2
  have h3 := fun w => tk_fold ⟨#[65, 98, 90, 91]⟩ (by decide) w
  rw [show Tk.fold (ByteArray.mk #[65, 98, 90, 91]).data.toList = [97, 98, 122, 91] by decide +kernel] at h3
  have h1 := Lib.hid h1; have h2 := Lib.hid h2; have h3 := Lib.hid h3
  go_enter Tryd.func11, Tryd.ntmps11
  go_wp2_with fail
  refine hw.out.mono ?_
  rintro e w1 ⟨v, rfl, hown, hk1⟩
  have hs1 := Strs.of_own hown
  clear hown
  go_wp2_with fail
  have hs2 := strs_new w1 9 [[102, 111, 111], [98, 97, 114, 57], [102, 111, 111]] 3
  have hk2 := hk1.alloc (.cells (([[102, 111, 111], [98, 97, 114, 57], [102, 111, 111]] : List (List UInt8)).map sv).toArray 9)
  refine (ref_same _ _ _ _ (by decide) _ (hs1.keeps ((Keeps.refl _).alloc _)) hs2).mono ?_
  rintro e w3 ⟨rfl, hk3⟩
  have hk3 := hk2.trans hk3
  rw [show decide (([[102, 111, 111], [98, 97, 114, 57], [102, 111, 111]] : List (List UInt8)) = [[102, 111, 111], [98, 97, 114, 57], [102, 111, 111]]) = true by decide]
  go_wp2_with fail
  refine (h1.out _ (hT.keeps hk3)).mono ?_
  rintro e w4 ⟨rfl, hk4⟩
  have hk4 := hk3.trans hk4
  go_wp2_with fail
  refine (h2.out _ (hT.keeps hk4)).mono ?_
  rintro e w5 ⟨rfl, hk5⟩
  have hk5 := hk4.trans hk5
  go_wp2_with fail
  refine (h3.out _).mono ?_
  rintro e w6 ⟨rfl, hk6⟩
  have hk6 := hk5.trans hk6
  rw [show str [97, 98, 122, 91] = ByteArray.mk #[97, 98, 122, 91] from rfl]
  go_wp2_with fail
  go_ret
  exact ⟨rfl, hk6⟩
end Go.Proofs.YtfcfibagkenjdaaDoor
