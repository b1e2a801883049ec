/-
  The document's Copy of a record: the walk.
-/
import Derived.Test.YtlalhieccbfndaaDoorRs
set_option linter.unusedVariables false
namespace Go.Proofs.YtlalhieccbfndaaDoor
open Go.RowKit

set_option maxRecDepth 4000 in
set_option maxHeartbeats 1600000 in
theorem ref_copy (r : Rec) (hv : Value) (w : World) (hh : PairsAt w hv r.hdrs) (hn : r.hdrs.length ≤ 1000) :
    Calls Tryd.prog 36 #[recV r hv] w fun e w' => ∃ hv', e = .returned (recV r hv') ∧ PairsAt w' hv' r.hdrs ∧ Keeps w w' := by
  obtain ⟨i0, hi, hz0, hz1, hz2⟩ := info_parts info_hdr
  obtain ⟨a, t, b, k, g, v, hs⟩ := r
  have HF := Lib.hid (fun (w' : World) (hk : Keeps w w') => (hh.keeps hk).feeds (P := Tryd.prog))
  obtain ⟨ad, cap, rfl, h0, hc⟩ := hh
  obtain ⟨n, hnn⟩ : ∃ n, hs.length = n := ⟨_, rfl⟩
  have HNN := Lib.hid hnn
  rw [hnn] at HF hn
  simp only [recV]
  rw [hnn]
  clear hnn hc h0
  go_enter Tryd.func36, Tryd.ntmps36
  go_wp2_with (at_builtin; refine wpList_append_any _ rfl _ _ 47 47 rfl (w.heap.size + 3) 51 i0 (.agg #[.string ⟨#[]⟩, .string ⟨#[]⟩]) 2 32 Tryd.underlying47 ⟨_, Tryd.underlying47, fun _ h => by cases h⟩ hi hz0 hz1 hz2 rfl (by decide) (.slice none 0 0) 0 [] rfl (Own.nil _ _ _) (.slice ad n cap) n (pcells hs) rfl (HF.out _ ((((Keeps.refl w).alloc _).alloc _).alloc _)) (by unfold maxLen; omega) (by omega) (by first | (simp; done) | (simp; omega)) ?_; intro va wa hoa hga; obtain ⟨ada, capa, rfl, -⟩ := hoa.slice; rw [Nat.zero_add, List.nil_append] at hoa; rw [Nat.zero_add]; have hka := Lib.hid (((((Keeps.refl w).alloc _).alloc _).alloc _).grown hga (fun k h => by cases h)); have hq := Blk.grown (Blk.new _ _ _) hga (by simp [Value.ownBlock]); have hp := Blk.grown (Blk.keeps (Blk.new ((w.alloc _)) _ _) ((Keeps.refl _).alloc _)) hga (by simp [Value.ownBlock]); simp only [World.size_alloc] at hq hp; obtain ⟨⟨q0, q1, q2, q3, q4, q5, q6⟩, r0, r1, r2, r3, r4, r5, r6⟩ := hq.seven; obtain ⟨⟨p0, p1, p2, p3, p4, p5, p6⟩, o0, o1, o2, o3, o4, o5, o6⟩ := hp.seven; clear hga)
  refine bodyPost_ret (v := .agg #[.int .i64 a, .int .i64 t, .bool b, .string (str k), .bool g, .string (str v), .slice ada n capa]) (by simp [results, Tryd.f36, go_sem, *]) rfl ⟨_, rfl, PairsAt.of_own (base := w.heap.size + 3) ?_, ?_⟩
  · rw [HNN.out]
    exact (((((((hoa.other _ (by first | (simp; done) | (simp; omega)) _).other _ (by first | (simp; done) | (simp; omega)) _).other _ (by first | (simp; done) | (simp; omega)) _).other _ (by first | (simp; done) | (simp; omega)) _).other _ (by first | (simp; done) | (simp; omega)) _).other _ (by first | (simp; done) | (simp; omega)) _).other _ (by first | (simp; done) | (simp; omega)) _).other _ (by first | (simp; done) | (simp; omega)) _
  · exact (((((((hka.out.setCell (by first | (simp; done) | (simp; omega)) _).setCell (by first | (simp; done) | (simp; omega)) _).setCell (by first | (simp; done) | (simp; omega)) _).setCell (by first | (simp; done) | (simp; omega)) _).setCell (by first | (simp; done) | (simp; omega)) _).setCell (by first | (simp; done) | (simp; omega)) _).setCell (by first | (simp; done) | (simp; omega)) _).setCell (by first | (simp; done) | (simp; omega)) _
end Go.Proofs.YtlalhieccbfndaaDoor
