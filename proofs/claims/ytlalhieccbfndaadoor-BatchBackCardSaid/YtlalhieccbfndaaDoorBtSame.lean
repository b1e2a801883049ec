/-
  flotsamref05.Same, SameAll of batches that are the same: the walks.
-/
import Derived.Test.YtlalhieccbfndaaDoorBs
import Derived.Test.YtlalhieccbfndaaDoorRs
set_option linter.unusedVariables false
namespace Go.Proofs.YtlalhieccbfndaaDoor
open Go.RowKit

set_option maxRecDepth 4000 in
set_option maxHeartbeats 3200000 in
theorem bt_same (b : Bat) (v v' : Value) (w : World) (h : RsAt w v b.recs) (h' : RsAt w v' b.recs) (hb : ∀ r ∈ b.recs, r.hdrs.length ≤ 2 ^ 50) :
    Calls Tryd.prog 16 #[batV b v, batV b v'] w fun e w' => e = .returned (.bool true) ∧ Keeps w w' := by
  have HS := fun w' (k : Keeps w w') => rs_same b.recs v v' w' (h.keeps k) (h'.keeps k) hb
  obtain ⟨ad, cap, rfl⟩ := h.form
  obtain ⟨ad', cap', rfl⟩ := h'.form
  simp only [batV]
  have hk0 := ((Keeps.refl w).alloc (.cells #[.int .i64 b.base, .int .i64 b.span, .int .i64 b.prod, .int .i64 b.epoch, .int .i64 b.seq, .slice ad b.recs.length cap] 24)).alloc (.cells #[.int .i64 b.base, .int .i64 b.span, .int .i64 b.prod, .int .i64 b.epoch, .int .i64 b.seq, .slice ad' b.recs.length cap'] 24)
  have HS := Lib.hid HS
  clear h h' hb
  go_enter Tryd.func16, Tryd.ntmps16
  go_wp2_with fail
  refine (HS.out _ hk0).mono ?_
  rintro e w1 ⟨rfl, hk1⟩
  go_wp2_with fail
  go_ret
  exact ⟨rfl, hk0.trans hk1⟩

set_option maxRecDepth 4000 in
set_option maxHeartbeats 3200000 in
theorem bs_same (l : List Bat) (v v' : Value) (w : World) (h : BsAt w v l) (h' : BsAt w v' l) (hb : ∀ b ∈ l, ∀ r ∈ b.recs, r.hdrs.length ≤ 2 ^ 50) :
    Calls Tryd.prog 21 #[v, v'] w fun e w' => e = .returned (.bool true) ∧ Keeps w w' := by
  have HRS := Lib.hid (fun (b : Bat) v v' w' p p' q => bt_same b v v' w' p p' q)
  have HB := Lib.hid hb
  obtain ⟨n, hn⟩ : ∃ n, l.length = n := ⟨_, rfl⟩
  obtain ⟨al, capl, rfl, hll, h0l, g, o, hvs, hal, hcl⟩ := h
  obtain ⟨al', capl', rfl, -, h0l', g', o', hvs', hal', hcl'⟩ := h'
  rw [hn] at hll ⊢
  have HNN := Lib.hid hn
  have HAL := Lib.hid hal
  have HCL := Lib.hid hcl
  have HAL' := Lib.hid hal'
  have HCL' := Lib.hid hcl'
  clear hn h0l hal hcl h0l' hal' hcl' hb
  go_enter Tryd.func21, Tryd.ntmps21
  go_wp2_with fail
  go_loopw [5] (fun i wr => ∃ j : Nat, j ≤ n ∧ i = .int .i64 j ∧ Keeps w wr) (fun i _ => n - (intOf i).toNat)
  case atStart => exact ⟨0, by omega, rfl, Keeps.refl _⟩
  case round =>
    obtain ⟨j, hj, rfl, hkr⟩ := hrel
    by_cases hlt : j < n
    · obtain ⟨b, hx⟩ : ∃ x, l[j]? = some x := ⟨_, List.getElem?_eq_getElem (by rw [HNN.out]; exact hlt)⟩
      obtain rfl := HAL.out (by intro e; rw [e] at hx; simp at hx)
      obtain rfl := HAL'.out (by intro e; rw [e] at hx; simp at hx)
      obtain ⟨hrc, hrp⟩ := HCL.out j b hx
      obtain ⟨hrc', hrp'⟩ := HCL'.out j b hx
      obtain ⟨hv, hvd⟩ : ∃ v, hvs j = v := ⟨_, rfl⟩
      obtain ⟨hv', hvd'⟩ : ∃ v, hvs' j = v := ⟨_, rfl⟩
      rw [hvd] at hrc hrp
      rw [hvd'] at hrc' hrp'
      obtain ⟨adh, caph, rfl⟩ := hrp.form
      obtain ⟨adh', caph', rfl⟩ := hrp'.form
      obtain ⟨c0, c1, c2, c3, c4, c5⟩ := hrc.of (fun _ _ => hkr.cell)
      obtain ⟨d0, d1, d2, d3, d4, d5⟩ := hrc'.of (fun _ _ => hkr.cell)
      have HRP := Lib.hid hrp
      have HRP' := Lib.hid hrp'
      have HMR := fun w' (h : Keeps wr w') => HRS.out b _ _ w' (HRP.out.keeps (hkr.trans h)) (HRP'.out.keeps (hkr.trans h)) (HB.out b (List.mem_of_getElem? hx))
      simp only [batV] at HMR
      have HMR := Lib.hid HMR
      clear hrp hrp' hrc hrc' hx hvd hvd'
      go_wp2_with fail
      go_region_held3 (fun w' => Keeps wr w' ∧ w'.cell? ⟨g, o + j * 6, none⟩ = some (.int .i64 b.base) ∧ w'.cell? ⟨g, o + j * 6 + 1, none⟩ = some (.int .i64 b.span) ∧ w'.cell? ⟨g, o + j * 6 + 2, none⟩ = some (.int .i64 b.prod) ∧ w'.cell? ⟨g, o + j * 6 + 3, none⟩ = some (.int .i64 b.epoch) ∧ w'.cell? ⟨g, o + j * 6 + 4, none⟩ = some (.int .i64 b.seq) ∧ w'.cell? ⟨g, o + j * 6 + 5, none⟩ = some (.slice adh b.recs.length caph) ∧ w'.cell? ⟨g', o' + j * 6, none⟩ = some (.int .i64 b.base) ∧ w'.cell? ⟨g', o' + j * 6 + 1, none⟩ = some (.int .i64 b.span) ∧ w'.cell? ⟨g', o' + j * 6 + 2, none⟩ = some (.int .i64 b.prod) ∧ w'.cell? ⟨g', o' + j * 6 + 3, none⟩ = some (.int .i64 b.epoch) ∧ w'.cell? ⟨g', o' + j * 6 + 4, none⟩ = some (.int .i64 b.seq) ∧ w'.cell? ⟨g', o' + j * 6 + 5, none⟩ = some (.slice adh' b.recs.length caph')) ((refine (fun hq => ⟨hq, Keeps.cell hq c0, Keeps.cell hq c1, Keeps.cell hq c2, Keeps.cell hq c3, Keeps.cell hq c4, Keeps.cell hq c5, Keeps.cell hq d0, Keeps.cell hq d1, Keeps.cell hq d2, Keeps.cell hq d3, Keeps.cell hq d4, Keeps.cell hq d5⟩) ?_; first | exact (Keeps.refl wr).drew | exact Keeps.trans (And.left ‹Keeps wr _ ∧ _›) (by assumption))) ((go_at_call 16; refine (HMR.out _ (And.left ‹Keeps wr _ ∧ _›)).mono ?_; rintro e w' ⟨rfl, hkn⟩))
      have hS := (‹Keeps wr _ ∧ _›).1
      go_wp2_with fail
      exact ⟨⟨j + 1, by omega, by go_num, hkr.trans hS⟩, by simp [intOf]; omega⟩
    · obtain rfl : j = n := by omega
      go_wp2_with fail
      go_ret
      exact ⟨rfl, hkr⟩
end Go.Proofs.YtlalhieccbfndaaDoor
