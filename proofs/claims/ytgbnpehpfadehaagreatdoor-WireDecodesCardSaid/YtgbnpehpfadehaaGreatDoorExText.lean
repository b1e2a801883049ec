/-
  The document's text of a filter, Print: the walks.
-/
import Derived.Test.YtgbnpehpfadehaaGreatDoorExWrite
import Derived.Test.YtgbnpehpfadehaaGreatDoorExRefC
import Derived.Test.YtgbnpehpfadehaaGreatDoorVfRead
import Derived.Deep.RegionHeld3
import Derived.Deep.DrawnRows
set_option linter.unusedVariables false
namespace Go.Proofs.YtgbnpehpfadehaaGreatDoor
open Go.RowKit

set_option maxRecDepth 4000 in
theorem ref_of (n : Int) (h0 : -9223372036854775808 ≤ n) (h1 : n ≤ 9223372036854775807) (m : Int) (w : World) :
    Calls Tryz.prog 77 #[.int .i64 n, .int .i64 m] w fun e w' => e = .returned (.string (str (Vi.fixed n m).1)) ∧ Keeps w w' := by
  have HF := Lib.hid (fun w => ref_fixed n h0 h1 m w)
  clear h0 h1
  go_enter Tryz.func77, Tryz.ntmps77
  go_wp2_with fail
  refine (HF.out _).mono ?_
  rintro e w1 ⟨rfl, hk1⟩
  simp only [retF]
  go_wp2_with fail
  go_ret
  exact ⟨rfl, hk1⟩
theorem ref_of1 (n : Int) (h0 : 0 ≤ n ∧ n < 256) (w : World) :
    Calls Tryz.prog 77 #[.int .i64 n, .int .i64 1] w fun e w' => e = .returned (.string (str [Tree.b1 n.toNat])) ∧ Keeps w w' := by
  have h := ref_of n (by omega) (by omega) 1 w
  have e : (Vi.fixed n 1).1 = [Tree.b1 n.toNat] := by
    unfold Vi.fixed
    rw [if_neg (by rw [show ((1 : Int).toNat) = 1 from rfl]; omega)]
    simp only [Int.toNat_one, Vi.be, List.nil_append]
    rw [show n.toNat % 256 = n.toNat by omega]; rfl
  rw [e] at h
  exact h
set_option maxRecDepth 4000 in
set_option maxHeartbeats 1600000 in
theorem ref_text1 (k : Nat) : ∀ (t : Tree) (kv : Value) (w : World), Tree.allp k t = true → KAt w kv t.kids → t.bytes.length ≤ 1099511627776 →
    Calls Tryz.prog 78 #[treeV t kv] w fun e w' => e = .returned (.string (str t.bytes)) ∧ Keeps w w' := by
  induction k with
  | zero => intro t kv w h; simp [Tree.allp] at h
  | succ k ih =>
    intro t kv w hall hk hlen
    simp only [Tree.allp, Bool.and_eq_true] at hall
    obtain ⟨hop, hnl, hvl, hkl⟩ := Tree.fits_bd hall.1
    rw [Tree.bytes_kids] at hlen ⊢
    have HALL := Lib.hid (show ∀ (j : Nat) x, t.kids[j]? = some x → Tree.allp k x = true from fun j x hx => List.all_eq_true.1 hall.2 x (List.mem_of_getElem? hx))
    have hxl := Tree.headb_len hall.1
    have hsz := str_size
    have hap := str_append
    obtain ⟨op, nm, vl, ks⟩ := t
    simp only [Tree.kids, treeV, Tree.op, Tree.name, Tree.value] at *
    obtain ⟨n, hn⟩ : ∃ n, ks.length = n := ⟨_, rfl⟩
    have HNN := Lib.hid hn
    have hNL := Vi.text_le hnl
    have hVL := Vi.text_le hvl
    have HNL := Lib.hid hnl
    have HVL := Lib.hid hvl
    obtain ⟨X, hX⟩ : ∃ X, Tree.headb (.node op nm vl ks) = X := ⟨_, rfl⟩
    rw [hX] at hlen hxl ⊢
    obtain ⟨N, hN⟩ : ∃ N, Vi.text nm = N := ⟨_, rfl⟩
    obtain ⟨V, hV⟩ : ∃ N, Vi.text vl = N := ⟨_, rfl⟩
    simp only [Tree.headb, hN, hV, hn] at hX
    have HX := Lib.hid hX
    have HXL := Lib.hid hxl
    rw [hN] at hNL
    rw [hV] at hVL
    have PN := Lib.hid hN
    have PV := Lib.hid hV
    have HLL := Lib.hid hlen
    have HNB := Lib.hid (show 0 ≤ (n : Int) ∧ (n : Int) < 256 by omega)
    have hs1 : ¬ 9223372036854775807 < 1 + 1 := by omega
    have hs2 : ¬ 9223372036854775807 < 1 + N.length := by omega
    have hs3 : ¬ 9223372036854775807 < 1 + V.length := by omega
    have hs4 : ¬ 9223372036854775807 < 1 + N.length + V.length := by omega
    have hs5 : ¬ 9223372036854775807 < 1 + (N.length + V.length) := by omega
    have hs6 : ¬ 9223372036854775807 < N.length + 1 := by omega
    have hs7 : ¬ 9223372036854775807 < V.length + 1 := by omega
    have hs8 : ¬ 9223372036854775807 < N.length + 1 + V.length := by omega
    cases hk with
    | mk ad cap l' kvs g o hll h0 ha hcs hk =>
    have HA := Lib.hid ha
    have HC := Lib.hid hcs
    have HK := Lib.hid hk
    have HIH := Lib.hid ih
    rw [hn] at hll ⊢
    have hkw := (Keeps.refl w).alloc (.cells #[.int .i64 op, .string (str nm), .string (str vl), .slice ad n cap] 28)
    have hbq := Blk.new w 28 #[.int .i64 op, .string (str nm), .string (str vl), .slice ad n cap]
    clear ha hcs hk ih h0 hX hxl hlen hn hkl hall hN hV hNL hVL hnl hvl
    rcases hop with rfl | rfl | rfl | rfl | rfl | rfl | rfl | rfl
    · go_enter Tryz.func78, Tryz.ntmps78
      go_wp2_with fail
      refine (ref_of1 _ (by decide) _).mono ?_
      rintro e wl ⟨rfl, hk1⟩
      have hbq := Blk.keeps (by assumption) hk1
      obtain ⟨q0, q1, q2, q3⟩ := hbq.four
      have hkw := hkw.trans hk1
      go_wp2_with fail
      go_loopw [3, 4] (fun u i wr => ∃ j : Nat, j ≤ n ∧ i = .int .i64 j ∧ u = .string (str (X ++ Tree.bytess (ks.take j))) ∧ Keeps wl wr) (fun _ i _ => n - (intOf i).toNat)
      case atStart => exact ⟨0, by omega, rfl, by (rw [← HX.out]; simp [Tree.bytess]), Keeps.refl _⟩
      case round =>
        obtain ⟨j, hj, rfl, rfl, hkr1⟩ := hrel
        have hkr := hkw.trans hkr1
        have hb3 := hkr1.cell q3
        have hsb : (X ++ Tree.bytess (ks.take j)).length ≤ 1099511627776 := by
          have e := Tree.bytess_append (ks.take j) (ks.drop j)
          rw [List.take_append_drop] at e
          have := HLL.out
          rw [e] at this
          simp only [List.length_append] at *
          omega
        have HSB := Lib.hid hsb
        clear hsb
        obtain ⟨S, hS⟩ : ∃ S, X ++ Tree.bytess (ks.take j) = S := ⟨_, rfl⟩
        have HS := Lib.hid hS
        rw [hS] at HSB ⊢
        clear hS
        by_cases hlt : j < n
        · obtain ⟨x, hx⟩ : ∃ x, ks[j]? = some x := ⟨_, List.getElem?_eq_getElem (by rw [HNN.out]; exact hlt)⟩
          obtain rfl := HA.out (by intro e; rw [e] at hx; simp at hx)
          obtain ⟨c0, c1, c2, c3⟩ := HC.out j x hx
          have c0 := hkr.cell c0
          have c1 := hkr.cell c1
          have c2 := hkr.cell c2
          have c3 := hkr.cell c3
          have hkx := HK.out j x hx
          obtain ⟨ad', cap', he'⟩ := hkx.form
          rw [he'] at c3 hkx
          have HKX := Lib.hid hkx
          have HX2 := Lib.hid hx
          have hxb : x.bytes.length ≤ 1099511627776 := by have := Tree.bytess_le hx; have := HLL.out; simp only [List.length_append] at *; omega
          have HXB := Lib.hid hxb
          have hsx : ¬ 9223372036854775807 < S.length + x.bytes.length := by have := HSB.out; omega
          clear he' hkx hx hxb
          go_wp2_with fail
          refine (HIH.out x _ _ (HALL.out j x HX2.out) (HKX.out.keeps hkr) HXB.out).mono ?_
          rintro e w2 ⟨rfl, hk2⟩
          go_wp2_with fail
          exact ⟨⟨j + 1, by omega, by go_num, by rw [← Tree.bytess_take HX2.out, ← List.append_assoc, HS.out], hkr1.trans hk2⟩, by simp [intOf]; omega⟩
        · obtain rfl : j = n := by omega
          have hfin := Lib.hid (show S = X ++ Tree.bytess ks by rw [← HS.out, List.take_of_length_le (by rw [HNN.out]; omega)])
          go_wp2_with fail
          go_ret
          exact ⟨by rw [hfin.out]; rfl, hkr⟩
    · go_enter Tryz.func78, Tryz.ntmps78
      go_wp2_with fail
      refine (ref_of1 _ (by decide) _).mono ?_
      rintro e wl ⟨rfl, hk1⟩
      have hbq := Blk.keeps (by assumption) hk1
      obtain ⟨q0, q1, q2, q3⟩ := hbq.four
      have hkw := hkw.trans hk1
      go_wp2_with fail
      refine (ref_of1 _ HNB.out _).mono ?_
      rintro e wl2 ⟨rfl, hk2⟩
      have hbq := Blk.keeps (by assumption) hk2
      obtain ⟨q0, q1, q2, q3⟩ := hbq.four
      have hkw := hkw.trans hk2
      rw [Int.toNat_natCast]
      go_wp2_with fail
      go_loopw [3, 4] (fun u i wr => ∃ j : Nat, j ≤ n ∧ i = .int .i64 j ∧ u = .string (str (X ++ Tree.bytess (ks.take j))) ∧ Keeps wl2 wr) (fun _ i _ => n - (intOf i).toNat)
      case atStart => exact ⟨0, by omega, rfl, by (rw [← HX.out]; simp [Tree.bytess]), Keeps.refl _⟩
      case round =>
        obtain ⟨j, hj, rfl, rfl, hkr1⟩ := hrel
        have hkr := hkw.trans hkr1
        have hb3 := hkr1.cell q3
        have hsb : (X ++ Tree.bytess (ks.take j)).length ≤ 1099511627776 := by
          have e := Tree.bytess_append (ks.take j) (ks.drop j)
          rw [List.take_append_drop] at e
          have := HLL.out
          rw [e] at this
          simp only [List.length_append] at *
          omega
        have HSB := Lib.hid hsb
        clear hsb
        obtain ⟨S, hS⟩ : ∃ S, X ++ Tree.bytess (ks.take j) = S := ⟨_, rfl⟩
        have HS := Lib.hid hS
        rw [hS] at HSB ⊢
        clear hS
        by_cases hlt : j < n
        · obtain ⟨x, hx⟩ : ∃ x, ks[j]? = some x := ⟨_, List.getElem?_eq_getElem (by rw [HNN.out]; exact hlt)⟩
          obtain rfl := HA.out (by intro e; rw [e] at hx; simp at hx)
          obtain ⟨c0, c1, c2, c3⟩ := HC.out j x hx
          have c0 := hkr.cell c0
          have c1 := hkr.cell c1
          have c2 := hkr.cell c2
          have c3 := hkr.cell c3
          have hkx := HK.out j x hx
          obtain ⟨ad', cap', he'⟩ := hkx.form
          rw [he'] at c3 hkx
          have HKX := Lib.hid hkx
          have HX2 := Lib.hid hx
          have hxb : x.bytes.length ≤ 1099511627776 := by have := Tree.bytess_le hx; have := HLL.out; simp only [List.length_append] at *; omega
          have HXB := Lib.hid hxb
          have hsx : ¬ 9223372036854775807 < S.length + x.bytes.length := by have := HSB.out; omega
          clear he' hkx hx hxb
          go_wp2_with fail
          refine (HIH.out x _ _ (HALL.out j x HX2.out) (HKX.out.keeps hkr) HXB.out).mono ?_
          rintro e w2 ⟨rfl, hk2⟩
          go_wp2_with fail
          exact ⟨⟨j + 1, by omega, by go_num, by rw [← Tree.bytess_take HX2.out, ← List.append_assoc, HS.out], hkr1.trans hk2⟩, by simp [intOf]; omega⟩
        · obtain rfl : j = n := by omega
          have hfin := Lib.hid (show S = X ++ Tree.bytess ks by rw [← HS.out, List.take_of_length_le (by rw [HNN.out]; omega)])
          go_wp2_with fail
          go_ret
          exact ⟨by rw [hfin.out]; rfl, hkr⟩
    · go_enter Tryz.func78, Tryz.ntmps78
      go_wp2_with fail
      refine (ref_of1 _ (by decide) _).mono ?_
      rintro e wl ⟨rfl, hk1⟩
      have hbq := Blk.keeps (by assumption) hk1
      obtain ⟨q0, q1, q2, q3⟩ := hbq.four
      have hkw := hkw.trans hk1
      go_wp2_with fail
      refine (ref_of1 _ HNB.out _).mono ?_
      rintro e wl2 ⟨rfl, hk2⟩
      have hbq := Blk.keeps (by assumption) hk2
      obtain ⟨q0, q1, q2, q3⟩ := hbq.four
      have hkw := hkw.trans hk2
      rw [Int.toNat_natCast]
      go_wp2_with fail
      go_loopw [3, 4] (fun u i wr => ∃ j : Nat, j ≤ n ∧ i = .int .i64 j ∧ u = .string (str (X ++ Tree.bytess (ks.take j))) ∧ Keeps wl2 wr) (fun _ i _ => n - (intOf i).toNat)
      case atStart => exact ⟨0, by omega, rfl, by (rw [← HX.out]; simp [Tree.bytess]), Keeps.refl _⟩
      case round =>
        obtain ⟨j, hj, rfl, rfl, hkr1⟩ := hrel
        have hkr := hkw.trans hkr1
        have hb3 := hkr1.cell q3
        have hsb : (X ++ Tree.bytess (ks.take j)).length ≤ 1099511627776 := by
          have e := Tree.bytess_append (ks.take j) (ks.drop j)
          rw [List.take_append_drop] at e
          have := HLL.out
          rw [e] at this
          simp only [List.length_append] at *
          omega
        have HSB := Lib.hid hsb
        clear hsb
        obtain ⟨S, hS⟩ : ∃ S, X ++ Tree.bytess (ks.take j) = S := ⟨_, rfl⟩
        have HS := Lib.hid hS
        rw [hS] at HSB ⊢
        clear hS
        by_cases hlt : j < n
        · obtain ⟨x, hx⟩ : ∃ x, ks[j]? = some x := ⟨_, List.getElem?_eq_getElem (by rw [HNN.out]; exact hlt)⟩
          obtain rfl := HA.out (by intro e; rw [e] at hx; simp at hx)
          obtain ⟨c0, c1, c2, c3⟩ := HC.out j x hx
          have c0 := hkr.cell c0
          have c1 := hkr.cell c1
          have c2 := hkr.cell c2
          have c3 := hkr.cell c3
          have hkx := HK.out j x hx
          obtain ⟨ad', cap', he'⟩ := hkx.form
          rw [he'] at c3 hkx
          have HKX := Lib.hid hkx
          have HX2 := Lib.hid hx
          have hxb : x.bytes.length ≤ 1099511627776 := by have := Tree.bytess_le hx; have := HLL.out; simp only [List.length_append] at *; omega
          have HXB := Lib.hid hxb
          have hsx : ¬ 9223372036854775807 < S.length + x.bytes.length := by have := HSB.out; omega
          clear he' hkx hx hxb
          go_wp2_with fail
          refine (HIH.out x _ _ (HALL.out j x HX2.out) (HKX.out.keeps hkr) HXB.out).mono ?_
          rintro e w2 ⟨rfl, hk2⟩
          go_wp2_with fail
          exact ⟨⟨j + 1, by omega, by go_num, by rw [← Tree.bytess_take HX2.out, ← List.append_assoc, HS.out], hkr1.trans hk2⟩, by simp [intOf]; omega⟩
        · obtain rfl : j = n := by omega
          have hfin := Lib.hid (show S = X ++ Tree.bytess ks by rw [← HS.out, List.take_of_length_le (by rw [HNN.out]; omega)])
          go_wp2_with fail
          go_ret
          exact ⟨by rw [hfin.out]; rfl, hkr⟩
    · go_enter Tryz.func78, Tryz.ntmps78
      go_wp2_with fail
      refine (ref_of1 _ (by decide) _).mono ?_
      rintro e wl ⟨rfl, hk1⟩
      have hbq := Blk.keeps (by assumption) hk1
      obtain ⟨q0, q1, q2, q3⟩ := hbq.four
      have hkw := hkw.trans hk1
      go_wp2_with fail
      go_loopw [3, 4] (fun u i wr => ∃ j : Nat, j ≤ n ∧ i = .int .i64 j ∧ u = .string (str (X ++ Tree.bytess (ks.take j))) ∧ Keeps wl wr) (fun _ i _ => n - (intOf i).toNat)
      case atStart => exact ⟨0, by omega, rfl, by (rw [← HX.out]; simp [Tree.bytess]), Keeps.refl _⟩
      case round =>
        obtain ⟨j, hj, rfl, rfl, hkr1⟩ := hrel
        have hkr := hkw.trans hkr1
        have hb3 := hkr1.cell q3
        have hsb : (X ++ Tree.bytess (ks.take j)).length ≤ 1099511627776 := by
          have e := Tree.bytess_append (ks.take j) (ks.drop j)
          rw [List.take_append_drop] at e
          have := HLL.out
          rw [e] at this
          simp only [List.length_append] at *
          omega
        have HSB := Lib.hid hsb
        clear hsb
        obtain ⟨S, hS⟩ : ∃ S, X ++ Tree.bytess (ks.take j) = S := ⟨_, rfl⟩
        have HS := Lib.hid hS
        rw [hS] at HSB ⊢
        clear hS
        by_cases hlt : j < n
        · obtain ⟨x, hx⟩ : ∃ x, ks[j]? = some x := ⟨_, List.getElem?_eq_getElem (by rw [HNN.out]; exact hlt)⟩
          obtain rfl := HA.out (by intro e; rw [e] at hx; simp at hx)
          obtain ⟨c0, c1, c2, c3⟩ := HC.out j x hx
          have c0 := hkr.cell c0
          have c1 := hkr.cell c1
          have c2 := hkr.cell c2
          have c3 := hkr.cell c3
          have hkx := HK.out j x hx
          obtain ⟨ad', cap', he'⟩ := hkx.form
          rw [he'] at c3 hkx
          have HKX := Lib.hid hkx
          have HX2 := Lib.hid hx
          have hxb : x.bytes.length ≤ 1099511627776 := by have := Tree.bytess_le hx; have := HLL.out; simp only [List.length_append] at *; omega
          have HXB := Lib.hid hxb
          have hsx : ¬ 9223372036854775807 < S.length + x.bytes.length := by have := HSB.out; omega
          clear he' hkx hx hxb
          go_wp2_with fail
          refine (HIH.out x _ _ (HALL.out j x HX2.out) (HKX.out.keeps hkr) HXB.out).mono ?_
          rintro e w2 ⟨rfl, hk2⟩
          go_wp2_with fail
          exact ⟨⟨j + 1, by omega, by go_num, by rw [← Tree.bytess_take HX2.out, ← List.append_assoc, HS.out], hkr1.trans hk2⟩, by simp [intOf]; omega⟩
        · obtain rfl : j = n := by omega
          have hfin := Lib.hid (show S = X ++ Tree.bytess ks by rw [← HS.out, List.take_of_length_le (by rw [HNN.out]; omega)])
          go_wp2_with fail
          go_ret
          exact ⟨by rw [hfin.out]; rfl, hkr⟩
    · go_enter Tryz.func78, Tryz.ntmps78
      go_wp2_with fail
      refine (ref_of1 _ (by decide) _).mono ?_
      rintro e wl ⟨rfl, hk1⟩
      have hbq := Blk.keeps (by assumption) hk1
      obtain ⟨q0, q1, q2, q3⟩ := hbq.four
      have hkw := hkw.trans hk1
      go_wp2_with fail
      refine (ref_text_len nm HNL.out _).mono ?_
      rintro e wl2 ⟨rfl, hk2⟩
      have hbq := Blk.keeps (by assumption) hk2
      obtain ⟨q0, q1, q2, q3⟩ := hbq.four
      have hkw := hkw.trans hk2
      rw [PN.out]
      go_wp2_with fail
      go_loopw [3, 4] (fun u i wr => ∃ j : Nat, j ≤ n ∧ i = .int .i64 j ∧ u = .string (str (X ++ Tree.bytess (ks.take j))) ∧ Keeps wl2 wr) (fun _ i _ => n - (intOf i).toNat)
      case atStart => exact ⟨0, by omega, rfl, by (rw [← HX.out]; simp [Tree.bytess]), Keeps.refl _⟩
      case round =>
        obtain ⟨j, hj, rfl, rfl, hkr1⟩ := hrel
        have hkr := hkw.trans hkr1
        have hb3 := hkr1.cell q3
        have hsb : (X ++ Tree.bytess (ks.take j)).length ≤ 1099511627776 := by
          have e := Tree.bytess_append (ks.take j) (ks.drop j)
          rw [List.take_append_drop] at e
          have := HLL.out
          rw [e] at this
          simp only [List.length_append] at *
          omega
        have HSB := Lib.hid hsb
        clear hsb
        obtain ⟨S, hS⟩ : ∃ S, X ++ Tree.bytess (ks.take j) = S := ⟨_, rfl⟩
        have HS := Lib.hid hS
        rw [hS] at HSB ⊢
        clear hS
        by_cases hlt : j < n
        · obtain ⟨x, hx⟩ : ∃ x, ks[j]? = some x := ⟨_, List.getElem?_eq_getElem (by rw [HNN.out]; exact hlt)⟩
          obtain rfl := HA.out (by intro e; rw [e] at hx; simp at hx)
          obtain ⟨c0, c1, c2, c3⟩ := HC.out j x hx
          have c0 := hkr.cell c0
          have c1 := hkr.cell c1
          have c2 := hkr.cell c2
          have c3 := hkr.cell c3
          have hkx := HK.out j x hx
          obtain ⟨ad', cap', he'⟩ := hkx.form
          rw [he'] at c3 hkx
          have HKX := Lib.hid hkx
          have HX2 := Lib.hid hx
          have hxb : x.bytes.length ≤ 1099511627776 := by have := Tree.bytess_le hx; have := HLL.out; simp only [List.length_append] at *; omega
          have HXB := Lib.hid hxb
          have hsx : ¬ 9223372036854775807 < S.length + x.bytes.length := by have := HSB.out; omega
          clear he' hkx hx hxb
          go_wp2_with fail
          refine (HIH.out x _ _ (HALL.out j x HX2.out) (HKX.out.keeps hkr) HXB.out).mono ?_
          rintro e w2 ⟨rfl, hk2⟩
          go_wp2_with fail
          exact ⟨⟨j + 1, by omega, by go_num, by rw [← Tree.bytess_take HX2.out, ← List.append_assoc, HS.out], hkr1.trans hk2⟩, by simp [intOf]; omega⟩
        · obtain rfl : j = n := by omega
          have hfin := Lib.hid (show S = X ++ Tree.bytess ks by rw [← HS.out, List.take_of_length_le (by rw [HNN.out]; omega)])
          go_wp2_with fail
          go_ret
          exact ⟨by rw [hfin.out]; rfl, hkr⟩
    · go_enter Tryz.func78, Tryz.ntmps78
      go_wp2_with fail
      refine (ref_of1 _ (by decide) _).mono ?_
      rintro e wl ⟨rfl, hk1⟩
      have hbq := Blk.keeps (by assumption) hk1
      obtain ⟨q0, q1, q2, q3⟩ := hbq.four
      have hkw := hkw.trans hk1
      go_wp2_with fail
      go_region_held3 (fun w' => Keeps wl w' ∧ w'.cell? ⟨w.heap.size, 1, none⟩ = some (.string (str nm)) ∧ w'.cell? ⟨w.heap.size, 2, none⟩ = some (.string (str vl))) ((refine (fun hq => ⟨hq, Keeps.cell hq q1, Keeps.cell hq q2⟩) ?_; first | exact (Keeps.refl wl).drew | exact Keeps.trans (And.left ‹Keeps wl _ ∧ _›) (by assumption))) ((go_at_call 50; (first | refine (ref_text_len nm HNL.out _).mono ?_ | refine (ref_text_len vl HVL.out _).mono ?_); rintro e w' ⟨rfl, hkn⟩; (first | rw [PN.out] | rw [PV.out])))
      have hS := (‹Keeps wl _ ∧ _›).1
      have q3 := hS.cell q3
      have hkw := hkw.trans hS
      go_wp2_with fail
      go_loopw [3, 4] (fun u i wr => ∃ j : Nat, j ≤ n ∧ i = .int .i64 j ∧ u = .string (str (X ++ Tree.bytess (ks.take j))) ∧ Keeps w' wr) (fun _ i _ => n - (intOf i).toNat)
      case atStart => exact ⟨0, by omega, rfl, by (rw [← HX.out]; simp [Tree.bytess]), Keeps.refl _⟩
      case round =>
        obtain ⟨j, hj, rfl, rfl, hkr1⟩ := hrel
        have hkr := hkw.trans hkr1
        have hb3 := hkr1.cell q3
        have hsb : (X ++ Tree.bytess (ks.take j)).length ≤ 1099511627776 := by
          have e := Tree.bytess_append (ks.take j) (ks.drop j)
          rw [List.take_append_drop] at e
          have := HLL.out
          rw [e] at this
          simp only [List.length_append] at *
          omega
        have HSB := Lib.hid hsb
        clear hsb
        obtain ⟨S, hS⟩ : ∃ S, X ++ Tree.bytess (ks.take j) = S := ⟨_, rfl⟩
        have HS := Lib.hid hS
        rw [hS] at HSB ⊢
        clear hS
        by_cases hlt : j < n
        · obtain ⟨x, hx⟩ : ∃ x, ks[j]? = some x := ⟨_, List.getElem?_eq_getElem (by rw [HNN.out]; exact hlt)⟩
          obtain rfl := HA.out (by intro e; rw [e] at hx; simp at hx)
          obtain ⟨c0, c1, c2, c3⟩ := HC.out j x hx
          have c0 := hkr.cell c0
          have c1 := hkr.cell c1
          have c2 := hkr.cell c2
          have c3 := hkr.cell c3
          have hkx := HK.out j x hx
          obtain ⟨ad', cap', he'⟩ := hkx.form
          rw [he'] at c3 hkx
          have HKX := Lib.hid hkx
          have HX2 := Lib.hid hx
          have hxb : x.bytes.length ≤ 1099511627776 := by have := Tree.bytess_le hx; have := HLL.out; simp only [List.length_append] at *; omega
          have HXB := Lib.hid hxb
          have hsx : ¬ 9223372036854775807 < S.length + x.bytes.length := by have := HSB.out; omega
          clear he' hkx hx hxb
          go_wp2_with fail
          refine (HIH.out x _ _ (HALL.out j x HX2.out) (HKX.out.keeps hkr) HXB.out).mono ?_
          rintro e w2 ⟨rfl, hk2⟩
          go_wp2_with fail
          exact ⟨⟨j + 1, by omega, by go_num, by rw [← Tree.bytess_take HX2.out, ← List.append_assoc, HS.out], hkr1.trans hk2⟩, by simp [intOf]; omega⟩
        · obtain rfl : j = n := by omega
          have hfin := Lib.hid (show S = X ++ Tree.bytess ks by rw [← HS.out, List.take_of_length_le (by rw [HNN.out]; omega)])
          go_wp2_with fail
          go_ret
          exact ⟨by rw [hfin.out]; rfl, hkr⟩
    · go_enter Tryz.func78, Tryz.ntmps78
      go_wp2_with fail
      refine (ref_of1 _ (by decide) _).mono ?_
      rintro e wl ⟨rfl, hk1⟩
      have hbq := Blk.keeps (by assumption) hk1
      obtain ⟨q0, q1, q2, q3⟩ := hbq.four
      have hkw := hkw.trans hk1
      go_wp2_with fail
      refine (ref_text_len vl HVL.out _).mono ?_
      rintro e wl2 ⟨rfl, hk2⟩
      have hbq := Blk.keeps (by assumption) hk2
      obtain ⟨q0, q1, q2, q3⟩ := hbq.four
      have hkw := hkw.trans hk2
      rw [PV.out]
      go_wp2_with fail
      go_loopw [3, 4] (fun u i wr => ∃ j : Nat, j ≤ n ∧ i = .int .i64 j ∧ u = .string (str (X ++ Tree.bytess (ks.take j))) ∧ Keeps wl2 wr) (fun _ i _ => n - (intOf i).toNat)
      case atStart => exact ⟨0, by omega, rfl, by (rw [← HX.out]; simp [Tree.bytess]), Keeps.refl _⟩
      case round =>
        obtain ⟨j, hj, rfl, rfl, hkr1⟩ := hrel
        have hkr := hkw.trans hkr1
        have hb3 := hkr1.cell q3
        have hsb : (X ++ Tree.bytess (ks.take j)).length ≤ 1099511627776 := by
          have e := Tree.bytess_append (ks.take j) (ks.drop j)
          rw [List.take_append_drop] at e
          have := HLL.out
          rw [e] at this
          simp only [List.length_append] at *
          omega
        have HSB := Lib.hid hsb
        clear hsb
        obtain ⟨S, hS⟩ : ∃ S, X ++ Tree.bytess (ks.take j) = S := ⟨_, rfl⟩
        have HS := Lib.hid hS
        rw [hS] at HSB ⊢
        clear hS
        by_cases hlt : j < n
        · obtain ⟨x, hx⟩ : ∃ x, ks[j]? = some x := ⟨_, List.getElem?_eq_getElem (by rw [HNN.out]; exact hlt)⟩
          obtain rfl := HA.out (by intro e; rw [e] at hx; simp at hx)
          obtain ⟨c0, c1, c2, c3⟩ := HC.out j x hx
          have c0 := hkr.cell c0
          have c1 := hkr.cell c1
          have c2 := hkr.cell c2
          have c3 := hkr.cell c3
          have hkx := HK.out j x hx
          obtain ⟨ad', cap', he'⟩ := hkx.form
          rw [he'] at c3 hkx
          have HKX := Lib.hid hkx
          have HX2 := Lib.hid hx
          have hxb : x.bytes.length ≤ 1099511627776 := by have := Tree.bytess_le hx; have := HLL.out; simp only [List.length_append] at *; omega
          have HXB := Lib.hid hxb
          have hsx : ¬ 9223372036854775807 < S.length + x.bytes.length := by have := HSB.out; omega
          clear he' hkx hx hxb
          go_wp2_with fail
          refine (HIH.out x _ _ (HALL.out j x HX2.out) (HKX.out.keeps hkr) HXB.out).mono ?_
          rintro e w2 ⟨rfl, hk2⟩
          go_wp2_with fail
          exact ⟨⟨j + 1, by omega, by go_num, by rw [← Tree.bytess_take HX2.out, ← List.append_assoc, HS.out], hkr1.trans hk2⟩, by simp [intOf]; omega⟩
        · obtain rfl : j = n := by omega
          have hfin := Lib.hid (show S = X ++ Tree.bytess ks by rw [← HS.out, List.take_of_length_le (by rw [HNN.out]; omega)])
          go_wp2_with fail
          go_ret
          exact ⟨by rw [hfin.out]; rfl, hkr⟩
    · go_enter Tryz.func78, Tryz.ntmps78
      go_wp2_with fail
      refine (ref_of1 _ (by decide) _).mono ?_
      rintro e wl ⟨rfl, hk1⟩
      have hbq := Blk.keeps (by assumption) hk1
      obtain ⟨q0, q1, q2, q3⟩ := hbq.four
      have hkw := hkw.trans hk1
      go_wp2_with fail
      refine (ref_text_len vl HVL.out _).mono ?_
      rintro e wl2 ⟨rfl, hk2⟩
      have hbq := Blk.keeps (by assumption) hk2
      obtain ⟨q0, q1, q2, q3⟩ := hbq.four
      have hkw := hkw.trans hk2
      rw [PV.out]
      go_wp2_with fail
      go_loopw [3, 4] (fun u i wr => ∃ j : Nat, j ≤ n ∧ i = .int .i64 j ∧ u = .string (str (X ++ Tree.bytess (ks.take j))) ∧ Keeps wl2 wr) (fun _ i _ => n - (intOf i).toNat)
      case atStart => exact ⟨0, by omega, rfl, by (rw [← HX.out]; simp [Tree.bytess]), Keeps.refl _⟩
      case round =>
        obtain ⟨j, hj, rfl, rfl, hkr1⟩ := hrel
        have hkr := hkw.trans hkr1
        have hb3 := hkr1.cell q3
        have hsb : (X ++ Tree.bytess (ks.take j)).length ≤ 1099511627776 := by
          have e := Tree.bytess_append (ks.take j) (ks.drop j)
          rw [List.take_append_drop] at e
          have := HLL.out
          rw [e] at this
          simp only [List.length_append] at *
          omega
        have HSB := Lib.hid hsb
        clear hsb
        obtain ⟨S, hS⟩ : ∃ S, X ++ Tree.bytess (ks.take j) = S := ⟨_, rfl⟩
        have HS := Lib.hid hS
        rw [hS] at HSB ⊢
        clear hS
        by_cases hlt : j < n
        · obtain ⟨x, hx⟩ : ∃ x, ks[j]? = some x := ⟨_, List.getElem?_eq_getElem (by rw [HNN.out]; exact hlt)⟩
          obtain rfl := HA.out (by intro e; rw [e] at hx; simp at hx)
          obtain ⟨c0, c1, c2, c3⟩ := HC.out j x hx
          have c0 := hkr.cell c0
          have c1 := hkr.cell c1
          have c2 := hkr.cell c2
          have c3 := hkr.cell c3
          have hkx := HK.out j x hx
          obtain ⟨ad', cap', he'⟩ := hkx.form
          rw [he'] at c3 hkx
          have HKX := Lib.hid hkx
          have HX2 := Lib.hid hx
          have hxb : x.bytes.length ≤ 1099511627776 := by have := Tree.bytess_le hx; have := HLL.out; simp only [List.length_append] at *; omega
          have HXB := Lib.hid hxb
          have hsx : ¬ 9223372036854775807 < S.length + x.bytes.length := by have := HSB.out; omega
          clear he' hkx hx hxb
          go_wp2_with fail
          refine (HIH.out x _ _ (HALL.out j x HX2.out) (HKX.out.keeps hkr) HXB.out).mono ?_
          rintro e w2 ⟨rfl, hk2⟩
          go_wp2_with fail
          exact ⟨⟨j + 1, by omega, by go_num, by rw [← Tree.bytess_take HX2.out, ← List.append_assoc, HS.out], hkr1.trans hk2⟩, by simp [intOf]; omega⟩
        · obtain rfl : j = n := by omega
          have hfin := Lib.hid (show S = X ++ Tree.bytess ks by rw [← HS.out, List.take_of_length_le (by rw [HNN.out]; omega)])
          go_wp2_with fail
          go_ret
          exact ⟨by rw [hfin.out]; rfl, hkr⟩
/-! PRINT -/

set_option maxRecDepth 4000 in
set_option maxHeartbeats 1600000 in
theorem ref_print (t : Tree) (kv : Value) (w : World) (hk : KAt w kv t.kids) :
    Calls Tryz.prog 48 #[treeV t kv] w fun e w' => e = retS t.print ∧ Keeps w w' := by
  have HCK := Lib.hid (fun w' (h : Keeps w w') => ref_xcheck t kv w' (hk.keeps h))
  have HWR := Lib.hid (fun (ho : t.ok = true) w' (h : Keeps w w') => ref_text1 6 t kv w' (by simp only [Tree.ok, Bool.and_eq_true] at ho; exact ho.2) (hk.keeps h)
    (by simp only [Tree.ok, Bool.and_eq_true, decide_eq_true_eq] at ho; have := Tree.bytes_len 6 t ho.2; omega))
  have HP := Lib.hid (show t.print = if t.ok then (t.bytes, 0) else ([], 1) from rfl)
  have HC := Lib.hid (show t.check = if t.ok then 0 else 1 from rfl)
  rw [HP.out]
  rw [HC.out] at HCK
  obtain ⟨ok, hok⟩ : ∃ b, t.ok = b := ⟨_, rfl⟩
  obtain ⟨B, hB⟩ : ∃ b, t.bytes = b := ⟨_, rfl⟩
  rw [hok] at HCK HWR ⊢
  rw [hB] at HWR ⊢
  obtain ⟨ad, cap, rfl⟩ := hk.form
  obtain ⟨op, nm, vl, ks⟩ := t
  simp only [Tree.kids, treeV, Tree.op, Tree.name, Tree.value] at *
  clear hk hok hB HP HC
  cases ok
  · go_enter Tryz.func48, Tryz.ntmps48
    go_wp2_with fail
    refine (HCK.out _ ((Keeps.refl w).alloc _)).mono ?_
    rintro e w1 ⟨rfl, hk1⟩
    go_wp2_with fail
    go_ret2
    exact ⟨rfl, ((Keeps.refl w).alloc _).trans hk1⟩
  · have HW2 := Lib.hid (fun w' h => HWR.out rfl w' h)
    clear HWR
    go_enter Tryz.func48, Tryz.ntmps48
    go_wp2_with fail
    refine (HCK.out _ ((Keeps.refl w).alloc _)).mono ?_
    rintro e w1 ⟨rfl, hk1⟩
    obtain ⟨hb0, hb1, hb2, hb3⟩ := ((Blk.new w 28 #[.int .i64 op, .string (str nm), .string (str vl), .slice ad ks.length cap]).keeps hk1).four
    have hk1 := ((Keeps.refl w).alloc (.cells #[.int .i64 op, .string (str nm), .string (str vl), .slice ad ks.length cap] 28)).trans hk1
    go_wp2_with fail
    refine (HW2.out _ hk1).mono ?_
    rintro e w2 ⟨rfl, hk2⟩
    go_wp2_with fail
    go_ret2
    exact ⟨rfl, hk1.trans hk2⟩
end Go.Proofs.YtgbnpehpfadehaaGreatDoor
