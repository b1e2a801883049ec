/-
  The document's body of a batch: the walk.
-/
import Derived.Test.YtlalhieccbfndaaDoorBtEnc
import Derived.Test.YtlalhieccbfndaaDoorRcEncR
import Derived.Test.YtlalhieccbfndaaDoorBtW
import Derived.Test.YtlalhieccbfndaaDoorBtSum
import Derived.Test.YtlalhieccbfndaaDoorBtLaw
import Derived.IntWalk
set_option linter.unusedVariables false
namespace Go.Proofs.YtlalhieccbfndaaDoor
open Go.RowKit
attribute [local go_sem ↓] Go.wp_at_zero Go.wp_at_succ

set_option maxRecDepth 4000 in
set_option maxHeartbeats 4000000 in
theorem ref_bbody (b : Bat) (lv : Value) (w : World) (hrs : RsAt w lv b.recs) (hnum : b.num = true) (hok : b.recs.all Rec.ok = true) :
    Calls Tryd.prog 26 #[batV b lv] w fun e w' => e = .returned (.string (str b.body)) ∧ Keeps w w' := by
  obtain ⟨hbd, h50⟩ := Bat.num_bd hnum
  have HRB := Lib.hid (fun (j : Nat) => Bat.rbs_bd (b.recs.take j) (by rw [List.all_eq_true] at hok ⊢; exact fun r hr => hok r (List.mem_of_mem_take hr)))
  have HOK := Lib.hid (fun (j : Nat) (r : Rec) (hj : b.recs[j]? = some r) => List.all_eq_true.1 hok r (List.mem_of_getElem? hj))
  obtain ⟨n, hn⟩ : ∃ n, b.recs.length = n := ⟨_, rfl⟩
  obtain ⟨A0, h0⟩ : ∃ A, Vi.put b.base = A := ⟨_, rfl⟩
  obtain ⟨A1, h1⟩ : ∃ A, Vi.put b.span = A := ⟨_, rfl⟩
  obtain ⟨A2, h2⟩ : ∃ A, Vi.put b.prod = A := ⟨_, rfl⟩
  obtain ⟨A3, h3⟩ : ∃ A, Vi.put b.epoch = A := ⟨_, rfl⟩
  obtain ⟨A4, h4⟩ : ∃ A, Vi.put b.seq = A := ⟨_, rfl⟩
  obtain ⟨A5, h5⟩ : ∃ A, Vi.put (n : Int) = A := ⟨_, rfl⟩
  have hbody : b.body = (A0 ++ (A1 ++ (A2 ++ (A3 ++ (A4 ++ A5))))) ++ Bat.rbs b.recs := by
    unfold Bat.body Bat.nums Bat.puts; rw [hn]; simp [h0, h1, h2, h3, h4, h5]
  have HAB := Lib.hid (show ∀ x : Int, x = b.base ∨ x = b.span ∨ x = b.prod ∨ x = b.epoch ∨ x = b.seq ∨ x = (n : Int) → -9223372036854775808 ≤ x ∧ x ≤ 9223372036854775807 by
    intro x hx; exact hbd x (by simp only [Bat.nums, List.mem_cons, List.not_mem_nil, or_false, hn]; exact hx))
  have l0 : A0.length ≤ 10 := by rw [← h0]; exact Vi.put_length _
  have l1 : A1.length ≤ 10 := by rw [← h1]; exact Vi.put_length _
  have l2 : A2.length ≤ 10 := by rw [← h2]; exact Vi.put_length _
  have l3 : A3.length ≤ 10 := by rw [← h3]; exact Vi.put_length _
  have l4 : A4.length ≤ 10 := by rw [← h4]; exact Vi.put_length _
  have l5 : A5.length ≤ 10 := by rw [← h5]; exact Vi.put_length _
  have P0 := Lib.hid h0; have P1 := Lib.hid h1; have P2 := Lib.hid h2; have P3 := Lib.hid h3; have P4 := Lib.hid h4; have P5 := Lib.hid h5
  have hs1 : ¬ 9223372036854775807 < A0.length + A1.length := by omega
  have hs2 : ¬ 9223372036854775807 < A0.length + A1.length + A2.length := by omega
  have hs3 : ¬ 9223372036854775807 < A0.length + (A1.length + A2.length) + A3.length := by omega
  have hs4 : ¬ 9223372036854775807 < A0.length + (A1.length + (A2.length + A3.length)) + A4.length := by omega
  have hs5 : ¬ 9223372036854775807 < A0.length + (A1.length + (A2.length + (A3.length + A4.length))) + A5.length := by omega
  obtain ⟨L0, hL0⟩ : ∃ L, A0 ++ (A1 ++ (A2 ++ (A3 ++ (A4 ++ A5)))) = L := ⟨_, rfl⟩
  rw [hL0] at hbody
  have HL0l := Lib.hid (show L0.length ≤ 60 by rw [← hL0]; simp; omega)
  have HL0 := Lib.hid hL0
  have HB := Lib.hid hbody
  have H50 := Lib.hid (show n ≤ 50 by omega)
  have hap := str_append
  have hsz := str_size
  obtain ⟨ad, cap, rfl, hll, -, g, o, hvs, hal, hcl⟩ := hrs
  rw [hn] at hll ⊢
  have HNN := Lib.hid hn; have HAL := Lib.hid hal; have HCL := Lib.hid hcl
  simp only [batV]
  have hb := Blk.new w 24 #[.int .i64 b.base, .int .i64 b.span, .int .i64 b.prod, .int .i64 b.epoch, .int .i64 b.seq, .slice ad n cap]
  have hkw := (Keeps.refl w).alloc (.cells #[.int .i64 b.base, .int .i64 b.span, .int .i64 b.prod, .int .i64 b.epoch, .int .i64 b.seq, .slice ad n cap] 24)
  obtain ⟨b0, b1, b2, b3, b4, b5⟩ := hb.six
  have HKW := Lib.hid hkw
  clear hbd h50 hok hnum h0 h1 h2 h3 h4 h5 hL0 hbody hn hal hcl hb hkw
  go_enter Tryd.func26, Tryd.ntmps26
  go_wp2_with fail
  go_region_held3 (fun w' => Keeps (w.alloc (.cells #[.int .i64 b.base, .int .i64 b.span, .int .i64 b.prod, .int .i64 b.epoch, .int .i64 b.seq, .slice ad n cap] 24)) w' ∧ w'.cell? ⟨w.heap.size, 0, none⟩ = some (.int .i64 b.base) ∧ w'.cell? ⟨w.heap.size, 1, none⟩ = some (.int .i64 b.span) ∧ w'.cell? ⟨w.heap.size, 2, none⟩ = some (.int .i64 b.prod) ∧ w'.cell? ⟨w.heap.size, 3, none⟩ = some (.int .i64 b.epoch) ∧ w'.cell? ⟨w.heap.size, 4, none⟩ = some (.int .i64 b.seq) ∧ w'.cell? ⟨w.heap.size, 5, none⟩ = some (.slice ad n cap)) ((refine (fun hq => ⟨hq, Keeps.cell hq b0, Keeps.cell hq b1, Keeps.cell hq b2, Keeps.cell hq b3, Keeps.cell hq b4, Keeps.cell hq b5⟩) ?_; first | exact (Keeps.refl _).drew | exact Keeps.trans (And.left ‹Keeps (w.alloc (.cells #[.int .i64 b.base, .int .i64 b.span, .int .i64 b.prod, .int .i64 b.epoch, .int .i64 b.seq, .slice ad n cap] 24)) _ ∧ _›) (by assumption))) ((go_at_call 42; refine (ref_put _ (HAB.out _ (by simp)).1 (HAB.out _ (by simp)).2 _).mono ?_; rintro e w' ⟨rfl, hkn⟩; (first | rw [P0.out] | rw [P1.out] | rw [P2.out] | rw [P3.out] | rw [P4.out] | rw [P5.out])))
  have hS := (‹Keeps (w.alloc (.cells #[.int .i64 b.base, .int .i64 b.span, .int .i64 b.prod, .int .i64 b.epoch, .int .i64 b.seq, .slice ad n cap] 24)) _ ∧ _›).1
  clear hs1 hs2 hs3 hs4 hs5 b0 b1 b2 b3 b4 l0 l1 l2 l3 l4 l5
  go_wp2_with fail
  rw [HL0.out]
  go_loopw [3, 4] (fun u i wr => ∃ (j : Nat), j ≤ n ∧ i = .int .i64 j ∧ u = .string (str (L0 ++ Bat.rbs (b.recs.take j))) ∧ Keeps (w.alloc (.cells #[.int .i64 b.base, .int .i64 b.span, .int .i64 b.prod, .int .i64 b.epoch, .int .i64 b.seq, .slice ad n cap] 24)) wr) (fun _ i _ => n - (intOf i).toNat)
  case atStart => exact ⟨0, by omega, rfl, by simp [Bat.rbs], hS⟩
  case round =>
    obtain ⟨j, hj, rfl, rfl, hkr⟩ := hrel
    have hbx := hkr.cell b5
    have hkr2 := HKW.out.trans hkr
    have hn50 := H50.out
    by_cases hlt : j < n
    · obtain ⟨r, hx⟩ : ∃ x, b.recs[j]? = some x := ⟨_, List.getElem?_eq_getElem (by rw [HNN.out]; exact hlt)⟩
      obtain rfl := HAL.out (by intro e; rw [e] at hx; simp at hx)
      obtain ⟨hrc, hrp⟩ := HCL.out j r hx
      obtain ⟨hv, hvd⟩ : ∃ v, hvs j = v := ⟨_, rfl⟩
      rw [hvd] at hrc hrp
      obtain ⟨adh, caph, rfl, -, -⟩ := id hrp
      obtain ⟨c0, c1, c2, c3, c4, c5, c6⟩ := hrc.of (fun _ _ => hkr2.cell)
      have hrok := HOK.out j r hx
      have HE := ref_encode r _ _ (hrp.keeps hkr2)
      have henc : r.enc = (r.bytes, 0) := by unfold Rec.enc; rw [hrok]; rfl
      rw [henc] at HE
      simp only [recV, retS] at HE
      have HE := Lib.hid HE
      have hX : (L0 ++ Bat.rbs (b.recs.take j)) ++ r.bytes = L0 ++ Bat.rbs (b.recs.take (j + 1)) := by rw [List.take_add_one, hx, Bat.rbs_append]; simp [Bat.rbs]
      have hXl : (L0 ++ Bat.rbs (b.recs.take j)).length ≤ 60 + 30000 * 50 := by
        have := HRB.out j; have := HL0l.out; simp only [List.length_append, List.length_take] at *; omega
      have hRl := (Rec.bytes_bd hrok).2
      generalize L0 ++ Bat.rbs (b.recs.take j) = X at hX hXl ⊢
      have hcat : (9223372036854775807 < X.length + r.bytes.length) = False := by simp; omega
      have HX := Lib.hid hX
      clear hX hXl hRl hrp hrc hx hvd henc hrok
      go_wp2_with fail
      refine HE.out.mono ?_
      rintro e w5 ⟨rfl, hk5⟩
      go_wp2_with fail
      exact ⟨⟨j + 1, by omega, by go_num, by rw [HX.out], hkr.trans hk5⟩, by simp [intOf]; omega⟩
    · obtain rfl : j = n := by omega
      have hT : b.recs.take j = b.recs := List.take_of_length_le (by rw [HNN.out]; omega)
      rw [hT, ← HB.out]
      clear hT
      go_wp2_with fail
      go_ret
      exact ⟨rfl, hkr2⟩

end Go.Proofs.YtlalhieccbfndaaDoor
