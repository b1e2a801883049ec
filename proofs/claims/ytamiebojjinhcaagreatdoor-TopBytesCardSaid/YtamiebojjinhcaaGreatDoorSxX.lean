/-
  works(): wherever crcc's table lies as it is laid, works() returns true, and what was there is as it was.
-/
import Derived.Test.YtamiebojjinhcaaGreatDoorSxWb
import Derived.Test.YtamiebojjinhcaaGreatDoorSxWc
import Derived.Test.YtamiebojjinhcaaGreatDoorSxWd
import Derived.Test.YtamiebojjinhcaaGreatDoorSxWe
set_option linter.unusedVariables false
set_option linter.unusedSimpArgs false
namespace Go.Proofs.YtamiebojjinhcaaGreatDoor.Sx
open Go.RowKit
variable {B : World}

theorem seq_step {c : Code} {t : List SV} {n : Nat} {l : List (Nat × SO)} {t' : List SV} {n' : Nat} {l' : List (Nat × SO)} {Q : Exit → Act → World → Prop} (hc : c = .seq (fstC c) (sndC c)) (hp : pieceOK (fstC c) t n l t' n' l' = true)
    (hrest : ∀ (ρ : Rho) (a : Act) (w : World), TR ρ t' a → WR B ρ ⟨build l', n'⟩ w → (sndC c).wp Tryz.prog Q a w) : ∀ (ρ : Rho) (a : Act) (w : World), TR ρ t a → WR B ρ ⟨build l, n⟩ w → c.wp Tryz.prog Q a w := by
  intro ρ a w ht hw
  rw [hc]
  refine wp_seq (wp_mono (pieceOK_spec hp ρ a w ht hw) ?_)
  rintro e a' w' ⟨rfl, ρ', hle, ht', hw'⟩
  exact hrest ρ' a' w' ht' hw'
set_option maxRecDepth 100000 in
theorem worksBody (ρ : Rho) (a : Act) (w : World) (ht : TR ρ initT a) (hw : WR B ρ ⟨build initL, 6⟩ w) :
    bodyW.wp Tryz.prog (fun e a' w' => e = .ret ∧ a'.defers = [] ∧ a'.tmps[0]? = some (.bool true) ∧ Below B.heap.size B w') a w := by
  refine seq_step (by kernel_rfl) piece0 ?_ ρ a w ht hw
  refine seq_step (by kernel_rfl) piece1 ?_
  refine seq_step (by kernel_rfl) piece2 ?_
  refine seq_step (by kernel_rfl) piece3 ?_
  refine seq_step (by kernel_rfl) piece4 ?_
  refine seq_step (by kernel_rfl) piece5 ?_
  refine seq_step (by kernel_rfl) piece6 ?_
  exact fun ρ a w ht hw => lastOK_spec piece7 ρ a w ht hw
def tabL : List Nat := [0, 0x105ec76f, 0x20bd8ede, 0x30e349b1, 0x417b1dbc, 0x5125dad3, 0x61c69362, 0x7198540d, 0x82f63b78, 0x92a8fc17, 0xa24bb5a6, 0xb21572c9, 0xc38d26c4, 0xd3d3e1ab, 0xe330a81a, 0xf36e6f75]
theorem tab_rel (ρ : Rho) : ∀ (l : List Nat) (vs : List Value), (∀ i, i < l.length → vs[i]? = some (.int .u32 ((l.getD i 0 : Nat) : Int))) → VRs ρ (l.map fun n => SV.int .u32 (.ofNat n)) (vs.take l.length)
  | [], vs, _ => by simp; exact .nil
  | n :: l, [], h => by
    have := h 0 (by simp)
    simp at this
  | n :: l, v :: vs, h => by
    have h0 := h 0 (by simp)
    simp at h0
    subst h0
    simp only [List.map_cons, List.length_cons, List.take_succ_cons]
    refine .cons (.int _ _) (tab_rel ρ l vs fun i hi => ?_)
    have := h (i + 1) (by simpa using hi)
    simpa using this
theorem works_true (w : World) (hT : ∀ i, i < 16 → w.cell? ⟨0, i, none⟩ = some (.int .u32 ((tabL.getD i 0 : Nat) : Int))) :
    Calls Tryz.prog 5 #[] w fun e w' => e = .returned (.bool true) ∧ Below w.heap.size w w' := by
  have hobj : ∃ ds e fr, w.heap[0]? = some (.cells ds e fr) := by
    have h0 := hT 0 (by omega)
    unfold World.cell? at h0
    split at h0
    · rename_i ds e fr hh
      exact ⟨ds, e, fr, hh⟩
    · cases h0
  obtain ⟨ds, e, fr, hh⟩ := hobj
  have hcell : ∀ i, i < 16 → ds[i]? = some (.int .u32 ((tabL.getD i 0 : Nat) : Int)) := fun i hi => by
    have := hT i hi
    unfold World.cell? at this
    simp only [hh] at this
    simpa using this
  have hsz : 16 ≤ ds.size := by
    have := hcell 15 (by omega)
    have := (Array.getElem?_eq_some_iff.1 this).1
    omega
  have hlt : 0 < w.heap.size := (Array.getElem?_eq_some_iff.1 hh).1
  let ρ : Rho := fun i => if i = 0 then some (0, ds.size) else none
  have hr0 : ρ 0 = some (0, ds.size) := rfl
  have hρ : ∀ i p, ρ i = some p → i = 0 ∧ p = (0, ds.size) := fun i p h => by
    simp only [ρ] at h
    split at h
    · rename_i hi; injection h with h; exact ⟨hi, h.symm⟩
    · cases h
  have hinit : ∀ i o, (build initL).get i = some o → i = 0 ∧ o = .tab (tabL.map fun n => .int .u32 (.ofNat n)) := fun i o h => by
    have := build_get h
    simp only [initL, List.mem_singleton] at this
    injection this with h1 h2
    exact ⟨h1, h2⟩
  have hw : WR w ρ ⟨build initL, 6⟩ w := by
    refine ⟨fun i p h => ?_, fun i g N h => ?_, fun i o h => ?_, fun i o h => ?_, fun i j o o' g N M h1 _ h2 _ _ _ => ?_, ⟨_, hr0⟩, Below.refl _ _, fun i o g N h hwr _ => ?_⟩
    · rw [(hρ i p h).1]; decide
    · have := (hρ i _ h).2
      injection this with h1 h2
      omega
    · rw [(hinit i o h).1]; decide
    · obtain ⟨rfl, rfl⟩ := hinit i o h
      refine ⟨0, ds.size, ds, e, fr, hr0, hh, by simpa [tabL] using hsz, ?_⟩
      rw [List.length_map]
      exact tab_rel ρ tabL ds.toList fun i hi => by
        have := hcell i (by simpa [tabL] using hi)
        simpa using this
    · rw [(hinit i o h1).1, (hinit j o' h2).1]
    · rw [(hinit i o h).2] at hwr; cases hwr
  have ht : TR ρ initT { tmps := (#[] : Array Value) ++ Array.replicate (Tryz.f5.ntmps - (#[] : Array Value).size) undef, defers := [] } := by
    refine ⟨?_, rfl⟩
    have : Tryz.f5.ntmps = 77 := by kernel_rfl
    rw [this]
    simp only [Array.toList_append, Array.toList_replicate]
    exact VRs.undefs 77
  have hb : Tryz.f5.body = some bodyW := by kernel_rfl
  refine calls_of_wp Tryz.func5 hb (wp_mono (worksBody ρ _ w ht hw) ?_)
  rintro e a' w' ⟨rfl, hd, h0, hbel⟩
  refine ⟨hd, .bool true, ?_, rfl, hbel⟩
  rw [results_tmp (t := 0) (by kernel_rfl)]
  congr 1
  have : a'.tmps.getD 0 undef = .bool true := by
    rw [Array.getD_eq_getD_getElem?, h0]
    rfl
  exact this
end Go.Proofs.YtamiebojjinhcaaGreatDoor.Sx
