/-
  The walks of the laws on records, 2.
-/
import Derived.Test.YtkpeicleblcdaaaRcLaws
set_option linter.unusedVariables false
namespace Go.Proofs.Ytkpeicleblcdaaa
open Go.RowKit
attribute [local go_sem ↓] Go.wp_at_zero Go.wp_at_succ

theorem Rec.ok_hdrs {r : Rec} (h : r.ok = true) : r.hdrs.length ≤ 10 := by
  simp only [ok, ok2, Bool.and_eq_true, decide_eq_true_eq] at h; exact h.1.1.2.2
theorem dec_hdrs (l : List UInt8) (at_ : Int) : (Rec.dec l at_).1.hdrs.length ≤ 10 := by
  by_cases h : (Rec.dec l at_).2.2 = 0
  · exact Rec.ok_hdrs (Rec.dec_ok (l := l) (at_ := at_) (to := (Rec.dec l at_).2.1) (r := (Rec.dec l at_).1) (by rw [← h])).1
  · rw [Rec.dec_err l at_ h]; simp [Rec.none]

theorem same_self (r : Rec) (hv hv' : Value) (w : World) (hh : PairsAt w hv r.hdrs) (hh' : PairsAt w hv' r.hdrs) (hn : r.hdrs.length ≤ 2 ^ 50) :
    Calls Try.prog 17 #[recV r hv, recV r hv'] w fun e w' => e = .returned (.bool true) ∧ Keeps w w' :=
  (rec_same r r hv hv' w hh hh' hn).mono (by rintro e w' ⟨rfl, hk⟩; exact ⟨by rw [decide_eq_true rfl], hk⟩)

set_option maxRecDepth 4000 in
set_option maxHeartbeats 1600000 in
theorem decodes_true (s : ByteArray) (hs : s.size ≤ 140737488351232) (n : Int) (h0 : -9223372036854775808 ≤ n) (h1 : n ≤ 9223372036854775807) (w : World) :
    Calls Try.prog 4 #[.string s, .int .i64 n] w fun e w' => e = .returned (.bool true) ∧ Keeps w w' := by
  obtain ⟨S, rfl⟩ : ∃ S, s = str S := ⟨_, (str_of s).symm⟩
  rw [str_size] at hs
  have D1 := fun w => rc_decode S (by omega) n h0 h1 w
  have D2 := fun w => ref_decode S (by omega) n h0 h1 w
  have hh := dec_hdrs S n
  obtain ⟨⟨R, to, e⟩, hD⟩ : ∃ g, Rec.dec S n = g := ⟨_, rfl⟩
  rw [hD] at D1 D2 hh
  clear hD
  have HSM := Lib.hid (fun hv hv' w h1 h2 => same_self R hv hv' w h1 h2 (by simp at hh; omega))
  obtain ⟨a, t, b, k, g, v, hs'⟩ := R
  simp only [retR, recV] at D1 D2 HSM
  have D1 := Lib.hid D1
  have D2 := Lib.hid D2
  have HH := Lib.hid hh
  clear hh h0 h1 hs
  go_enter Try.func4, Try.ntmps4
  go_wp2_with fail
  refine (D1.out _).mono ?_
  rintro e1 w1 ⟨hv, rfl, hp, hk1⟩
  have HP := Lib.hid hp
  obtain ⟨ad, cap, rfl, -, -⟩ := hp
  go_wp2_with fail
  refine (D2.out _).mono ?_
  rintro e2 w2 ⟨hv2, rfl, hp2, hk2⟩
  have HP2 := Lib.hid hp2
  obtain ⟨ad2, cap2, rfl, -, -⟩ := hp2
  obtain ⟨⟨q0, q1, q2, q3, q4, q5, q6⟩, -⟩ := ((Blk.new w1 24 #[.int .i64 a, .int .i64 t, .bool b, .string (str k), .bool g, .string (str v), .slice ad hs'.length cap]).keeps hk2).seven
  have hl : w1.heap.size < w2.heap.size := by have := hk2.size; simp at this; omega
  have hne : ¬ w1.heap.size = w2.heap.size := by omega
  have hk1a := (Keeps.refl w1).alloc (.cells #[.int .i64 a, .int .i64 t, .bool b, .string (str k), .bool g, .string (str v), .slice ad hs'.length cap] 24)
  go_wp2_with fail
  refine (HSM.out _ _ _ (((HP.out.keeps hk1a).keeps hk2).keeps ((Keeps.refl _).alloc _)) (HP2.out.keeps ((Keeps.refl _).alloc _))).mono ?_
  rintro e3 w3 ⟨rfl, hk3⟩
  go_wp2_with fail
  refine (rec_live _).mono ?_
  rintro e4 w4 ⟨rfl, hk4⟩
  go_wp2_with fail
  go_ret
  exact ⟨rfl, ((hk1.trans (hk1a.trans hk2)).trans (((Keeps.refl _).alloc _).trans hk3)).trans hk4⟩

set_option maxRecDepth 4000 in
set_option maxHeartbeats 1600000 in
theorem forth_true (s : ByteArray) (hs : s.size ≤ 140737488351232) (n : Int) (h0 : -9223372036854775808 ≤ n) (h1 : n ≤ 9223372036854775807) (w : World) :
    Calls Try.prog 6 #[.string s, .int .i64 n] w fun e w' => e = .returned (.bool true) ∧ Keeps w w' := by
  have hsz := str_size
  obtain ⟨S, rfl⟩ : ∃ S, s = str S := ⟨_, (str_of s).symm⟩
  rw [str_size] at hs
  have D1 := fun w => rc_decode S (by omega) n h0 h1 w
  have hok := fun to r => Rec.dec_ok (l := S) (at_ := n) (to := to) (r := r)
  have herr := Rec.dec_err S n
  obtain ⟨⟨R, to, e⟩, hD⟩ : ∃ g, Rec.dec S n = g := ⟨_, rfl⟩
  rw [hD] at D1 hok herr
  clear hD
  by_cases he : e = 0
  · subst he
    obtain ⟨o1, o2, o3, o4, o5⟩ := hok to R rfl
    have hE := fun hv w hh => rc_encode R hv w hh
    rw [show R.enc = (R.bytes, 0) by unfold Rec.enc; rw [o1]; rfl, ← o2] at hE
    have d1 : decide (0 ≤ n) = true := by simpa using o3
    have d2 : decide (to ≤ (S.length : Int)) = true := by simpa using o5
    have d3 : decide (n ≤ to) = true := by simp; omega
    have hex : (str S).extract n.toNat to.toNat = str (seg S n to) := by
      unfold seg
      rw [← str_of ((str S).extract n.toNat to.toNat), Lib.extract_data, str_list, show to.toNat - n.toNat = (to - n).toNat by omega]
    obtain ⟨G, hG⟩ : ∃ G, seg S n to = G := ⟨_, rfl⟩
    rw [hG] at hE hex
    have hto0 : 0 ≤ to := by omega
    obtain ⟨a, t, b, k, g, v, hs'⟩ := R
    simp only [retR, recV, retS] at D1 hE
    have D1 := Lib.hid D1
    have HE := Lib.hid hE
    clear hok herr o1 o2 hG hE
    go_enter Try.func6, Try.ntmps6
    go_wp2_with fail
    refine (D1.out _).mono ?_
    rintro e1 w1 ⟨hv, rfl, hp, hk1⟩
    have HP := Lib.hid hp
    obtain ⟨ad, cap, rfl, -, -⟩ := hp
    have hk1a := (Keeps.refl w1).alloc (.cells #[.int .i64 a, .int .i64 t, .bool b, .string (str k), .bool g, .string (str v), .slice ad hs'.length cap] 24)
    go_wp2_with fail
    refine (HE.out _ _ (HP.out.keeps hk1a)).mono ?_
    rintro e2 w2 ⟨rfl, hk2⟩
    go_wp2_with fail
    refine (rec_live _).mono ?_
    rintro e4 w4 ⟨rfl, hk4⟩
    go_wp2_with fail
    go_ret
    exact ⟨rfl, (hk1.trans (hk1a.trans hk2)).trans hk4⟩
  · have hz := herr he
    cases hz
    have hd : (e != 0) = true := by simpa using he
    simp only [retR, recV, Rec.none] at D1
    have D1 := Lib.hid D1
    clear hok herr he
    go_enter Try.func6, Try.ntmps6
    go_wp2_with fail
    refine (D1.out _).mono ?_
    rintro e1 w1 ⟨hv, rfl, hp, hk1⟩
    obtain ⟨ad, cap, rfl, -, -⟩ := hp
    go_wp2_with fail
    refine (rec_live _).mono ?_
    rintro e4 w4 ⟨rfl, hk4⟩
    go_wp2_with fail
    go_ret
    exact ⟨rfl, (hk1.trans ((Keeps.refl _).alloc _)).trans hk4⟩

set_option maxRecDepth 4000 in
set_option maxHeartbeats 1600000 in
theorem headers_true (r : Rec) (hv : Value) (name : ByteArray) (w : World) (hh : PairsAt w hv r.hdrs) :
    Calls Try.prog 9 #[recV r hv, .string name] w fun e w' => e = .returned (.bool true) ∧ Keeps w w' := by
  obtain ⟨N, rfl⟩ : ∃ S, name = str S := ⟨_, (str_of name).symm⟩
  have hst := str_toList
  have HF := Lib.hid (fun w' (hk : Keeps w w') => rec_few r hv w' (hh.keeps hk))
  have H1 := fun hn w' (hk : Keeps w w') => rc_header r hv N w' (hh.keeps hk) hn
  have H2 := fun hn w' (hk : Keeps w w') => ref_header r hv N w' (hh.keeps hk) hn
  obtain ⟨⟨x, y⟩, hx⟩ : ∃ g, r.header N = g := ⟨_, rfl⟩
  rw [hx] at H1 H2
  have H1 := Lib.hid H1
  have H2 := Lib.hid H2
  clear hx
  obtain ⟨a, t, b, k, g, v, hs'⟩ := r
  obtain ⟨ad, cap, rfl, -, -⟩ := hh
  simp only [recV, retH] at *
  cases hf : decide (hs'.length ≤ 20)
  · rw [hf] at HF
    go_enter Try.func9, Try.ntmps9
    go_wp2_with fail
    refine (HF.out _ ((Keeps.refl _).alloc _)).mono ?_
    rintro e1 w1 ⟨rfl, hk1⟩
    go_wp2_with fail
    refine (rec_live _).mono ?_
    rintro e4 w4 ⟨rfl, hk4⟩
    go_wp2_with fail
    go_ret
    exact ⟨rfl, (((Keeps.refl _).alloc _).trans hk1).trans hk4⟩
  · rw [hf] at HF
    have hn : hs'.length ≤ 2 ^ 50 := by simp at hf; omega
    have H1 := Lib.hid (H1.out hn)
    have H2 := Lib.hid (H2.out hn)
    clear hn hf
    go_enter Try.func9, Try.ntmps9
    go_wp2_with fail
    refine (HF.out _ ((Keeps.refl _).alloc _)).mono ?_
    rintro e1 w1 ⟨rfl, hk1⟩
    have hkw := ((Keeps.refl w).alloc (.cells #[.int .i64 a, .int .i64 t, .bool b, .string (str k), .bool g, .string (str v), .slice ad hs'.length cap] 24)).trans hk1
    obtain ⟨⟨q0, q1, q2, q3, q4, q5, q6⟩, -⟩ := ((Blk.new w 24 #[.int .i64 a, .int .i64 t, .bool b, .string (str k), .bool g, .string (str v), .slice ad hs'.length cap]).keeps hk1).seven
    go_wp2_with fail
    refine (H1.out _ hkw).mono ?_
    rintro e2 w2 ⟨rfl, hk2⟩
    obtain ⟨⟨q0, q1, q2, q3, q4, q5, q6⟩, -⟩ := (((Blk.new w 24 #[.int .i64 a, .int .i64 t, .bool b, .string (str k), .bool g, .string (str v), .slice ad hs'.length cap]).keeps hk1).keeps hk2).seven
    go_wp2_with fail
    refine (H2.out _ (hkw.trans hk2)).mono ?_
    rintro e3 w3 ⟨rfl, hk3⟩
    go_wp2_with fail
    refine (rec_live _).mono ?_
    rintro e4 w4 ⟨rfl, hk4⟩
    go_wp2_with fail
    go_ret
    exact ⟨rfl, ((hkw.trans hk2).trans hk3).trans hk4⟩
end Go.Proofs.Ytkpeicleblcdaaa
