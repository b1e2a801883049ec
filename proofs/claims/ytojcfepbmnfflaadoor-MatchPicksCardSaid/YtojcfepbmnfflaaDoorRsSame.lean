/-
  flotsamref04.SameAll of a list and itself: the walk.
-/
import Derived.Test.YtojcfepbmnfflaaDoorRs
import Derived.Test.YtojcfepbmnfflaaDoorRcSame
set_option linter.unusedVariables false
namespace Go.Proofs.YtojcfepbmnfflaaDoor
open Go.RowKit

set_option maxRecDepth 4000 in
set_option maxHeartbeats 3200000 in
theorem rs_same (l : List Rec) (v v' : Value) (w : World) (h : RsAt w v l) (h' : RsAt w v' l) (hb : ∀ r ∈ l, r.hdrs.length ≤ 2 ^ 50) :
    Calls Tryd.prog 15 #[v, v'] w fun e w' => e = .returned (.bool true) ∧ Keeps w w' := by
  have HRS := fun (r : Rec) hv hv' w' p p' q => rec_same r r hv hv' w' p p' q
  simp only [decide_true] at HRS
  have HRS := Lib.hid HRS
  have HB := Lib.hid hb
  obtain ⟨n, hn⟩ : ∃ n, l.length = n := ⟨_, rfl⟩
  obtain ⟨al, capl, rfl, hll, h0l, g, o, hvs, hal, hcl⟩ := h
  obtain ⟨al', capl', rfl, -, h0l', g', o', hvs', hal', hcl'⟩ := h'
  rw [hn] at hll ⊢
  have HNN := Lib.hid hn
  have HAL := Lib.hid hal
  have HCL := Lib.hid hcl
  have HAL' := Lib.hid hal'
  have HCL' := Lib.hid hcl'
  clear hn h0l hal hcl h0l' hal' hcl' hb
  go_enter Tryd.func15, Tryd.ntmps15
  go_wp2_with fail
  go_loopw [5] (fun i wr => ∃ j : Nat, j ≤ n ∧ i = .int .i64 j ∧ Keeps w wr) (fun i _ => n - (intOf i).toNat)
  case atStart => exact ⟨0, by omega, rfl, Keeps.refl _⟩
  case round =>
    obtain ⟨j, hj, rfl, hkr⟩ := hrel
    by_cases hlt : j < n
    · obtain ⟨r, hx⟩ : ∃ x, l[j]? = some x := ⟨_, List.getElem?_eq_getElem (by rw [HNN.out]; exact hlt)⟩
      obtain rfl := HAL.out (by intro e; rw [e] at hx; simp at hx)
      obtain rfl := HAL'.out (by intro e; rw [e] at hx; simp at hx)
      obtain ⟨hrc, hrp⟩ := HCL.out j r hx
      obtain ⟨hrc', hrp'⟩ := HCL'.out j r hx
      obtain ⟨hv, hvd⟩ : ∃ v, hvs j = v := ⟨_, rfl⟩
      obtain ⟨hv', hvd'⟩ : ∃ v, hvs' j = v := ⟨_, rfl⟩
      rw [hvd] at hrc hrp
      rw [hvd'] at hrc' hrp'
      obtain ⟨adh, caph, rfl, -, -⟩ := id hrp
      obtain ⟨adh', caph', rfl, -, -⟩ := id hrp'
      obtain ⟨c0, c1, c2, c3, c4, c5, c6⟩ := hrc.of (fun _ _ => hkr.cell)
      obtain ⟨d0, d1, d2, d3, d4, d5, d6⟩ := hrc'.of (fun _ _ => hkr.cell)
      have HRP := Lib.hid hrp
      have HRP' := Lib.hid hrp'
      have HMR := fun w' (h : Keeps wr w') => HRS.out r _ _ w' (HRP.out.keeps (hkr.trans h)) (HRP'.out.keeps (hkr.trans h)) (HB.out r (List.mem_of_getElem? hx))
      simp only [recV] at HMR
      have HMR := Lib.hid HMR
      clear hrp hrp' hrc hrc' hx hvd hvd'
      go_wp2_with fail
      go_region_held3 (fun w' => Keeps wr w' ∧ w'.cell? ⟨g, o + j * 7, none⟩ = some (.int .i64 r.at_) ∧ w'.cell? ⟨g, o + j * 7 + 1, none⟩ = some (.int .i64 r.time) ∧ w'.cell? ⟨g, o + j * 7 + 2, none⟩ = some (.bool r.bare) ∧ w'.cell? ⟨g, o + j * 7 + 3, none⟩ = some (.string (str r.key)) ∧ w'.cell? ⟨g, o + j * 7 + 4, none⟩ = some (.bool r.gone) ∧ w'.cell? ⟨g, o + j * 7 + 5, none⟩ = some (.string (str r.value)) ∧ w'.cell? ⟨g, o + j * 7 + 6, none⟩ = some (.slice adh r.hdrs.length caph) ∧ w'.cell? ⟨g', o' + j * 7, none⟩ = some (.int .i64 r.at_) ∧ w'.cell? ⟨g', o' + j * 7 + 1, none⟩ = some (.int .i64 r.time) ∧ w'.cell? ⟨g', o' + j * 7 + 2, none⟩ = some (.bool r.bare) ∧ w'.cell? ⟨g', o' + j * 7 + 3, none⟩ = some (.string (str r.key)) ∧ w'.cell? ⟨g', o' + j * 7 + 4, none⟩ = some (.bool r.gone) ∧ w'.cell? ⟨g', o' + j * 7 + 5, none⟩ = some (.string (str r.value)) ∧ w'.cell? ⟨g', o' + j * 7 + 6, none⟩ = some (.slice adh' r.hdrs.length caph')) ((refine (fun hq => ⟨hq, Keeps.cell hq c0, Keeps.cell hq c1, Keeps.cell hq c2, Keeps.cell hq c3, Keeps.cell hq c4, Keeps.cell hq c5, Keeps.cell hq c6, Keeps.cell hq d0, Keeps.cell hq d1, Keeps.cell hq d2, Keeps.cell hq d3, Keeps.cell hq d4, Keeps.cell hq d5, Keeps.cell hq d6⟩) ?_; first | exact (Keeps.refl wr).drew | exact Keeps.trans (And.left ‹Keeps wr _ ∧ _›) (by assumption))) ((go_at_call 26; refine (HMR.out _ (And.left ‹Keeps wr _ ∧ _›)).mono ?_; rintro e w' ⟨rfl, hkn⟩))
      have hS := (‹Keeps wr _ ∧ _›).1
      go_wp2_with fail
      exact ⟨⟨j + 1, by omega, by go_num, hkr.trans hS⟩, by simp [intOf]; omega⟩
    · obtain rfl : j = n := by omega
      go_wp2_with fail
      go_ret
      exact ⟨rfl, hkr⟩
end Go.Proofs.YtojcfepbmnfflaaDoor
