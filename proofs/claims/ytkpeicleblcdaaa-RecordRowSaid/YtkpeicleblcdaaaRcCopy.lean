/-
  The document's Copy of a record: the walk.
-/
import Derived.Test.YtkpeicleblcdaaaRcV
set_option linter.unusedVariables false
namespace Go.Proofs.Ytkpeicleblcdaaa
open Go.RowKit

theorem info_hdr : (Try.prog.info? 53).map (fun i => (i.zero, i.size, i.bytes)) = some (some (.agg #[.string ⟨#[]⟩, .string ⟨#[]⟩]), 2, 32) := by kernel_rfl
theorem pcells_cases : ∀ (l : List (List UInt8 × List UInt8)) (j : Nat) (u : Value), (pcells l)[j]? = some u → ∃ (i : Nat) (h : List UInt8 × List UInt8), l[i]? = some h ∧ ((j = i * 2 ∧ u = .string (str h.1)) ∨ (j = i * 2 + 1 ∧ u = .string (str h.2)))
  | [], j, u, h => by simp [pcells] at h
  | x :: l, 0, u, h => ⟨0, x, rfl, .inl ⟨rfl, by simpa [pcells] using h.symm⟩⟩
  | x :: l, 1, u, h => ⟨0, x, rfl, .inr ⟨rfl, by simpa [pcells] using h.symm⟩⟩
  | x :: l, j + 2, u, h => by
    obtain ⟨i, y, hi, hc⟩ := pcells_cases l j u (by simpa [pcells] using h)
    refine ⟨i + 1, y, by simpa using hi, ?_⟩
    rcases hc with ⟨rfl, hu⟩ | ⟨rfl, hu⟩
    · exact .inl ⟨by omega, hu⟩
    · exact .inr ⟨by omega, hu⟩
theorem PairsAt.feeds {P : Program} {w : World} {v : Value} {l : List (List UInt8 × List UInt8)} (h : PairsAt w v l) : Feeds P w 2 v l.length (pcells l) := by
  obtain ⟨ad, cap, rfl, h0, h⟩ := h
  by_cases hl : l = []
  · subst hl
    cases ad with
    | none => rw [h0 rfl]; exact Feeds.nil
    | some a => exact Feeds.slice (by simp [pcells]) (fun j u hj => by simp [pcells] at hj) (fun u hu => by simp [pcells] at hu)
  · obtain ⟨g, o, rfl, hc⟩ := h hl
    refine Feeds.slice (pcells_length l) (fun j u hj => ?_) (fun u hu => ?_)
    · obtain ⟨i, y, hi, hc2⟩ := pcells_cases l j u hj
      rw [Go.WideShapes.add_plain]
      rcases hc2 with ⟨rfl, rfl⟩ | ⟨rfl, rfl⟩
      · exact (hc i y hi).1
      · rw [← Nat.add_assoc]; exact (hc i y hi).2
    · obtain ⟨j, hj⟩ := List.getElem?_of_mem hu
      obtain ⟨i, y, hi, hc2⟩ := pcells_cases l j u hj
      rcases hc2 with ⟨_, rfl⟩ | ⟨_, rfl⟩ <;> rfl

set_option maxRecDepth 4000 in
set_option maxHeartbeats 1600000 in
theorem ref_copy (r : Rec) (hv : Value) (w : World) (hh : PairsAt w hv r.hdrs) (hn : r.hdrs.length ≤ 1000) :
    Calls Try.prog 12 #[recV r hv] w fun e w' => ∃ hv', e = .returned (recV r hv') ∧ PairsAt w' hv' r.hdrs ∧ Keeps w w' := by
  obtain ⟨i0, hi, hz0, hz1, hz2⟩ := info_parts info_hdr
  obtain ⟨a, t, b, k, g, v, hs⟩ := r
  have HF := Lib.hid (fun (w' : World) (hk : Keeps w w') => (hh.keeps hk).feeds (P := Try.prog))
  obtain ⟨ad, cap, rfl, h0, hc⟩ := hh
  obtain ⟨n, hnn⟩ : ∃ n, hs.length = n := ⟨_, rfl⟩
  have HNN := Lib.hid hnn
  rw [hnn] at HF hn
  simp only [recV]
  rw [hnn]
  clear hnn hc h0
  go_enter Try.func12, Try.ntmps12
  go_wp2_with (at_builtin; refine wpList_append_any _ rfl _ _ 22 22 rfl (w.heap.size + 3) 53 i0 (.agg #[.string ⟨#[]⟩, .string ⟨#[]⟩]) 2 32 Try.underlying22 ⟨_, Try.underlying22, fun _ h => by cases h⟩ hi hz0 hz1 hz2 rfl (by decide) (.slice none 0 0) 0 [] rfl (Own.nil _ _ _) (.slice ad n cap) n (pcells hs) rfl (HF.out _ ((((Keeps.refl w).alloc _).alloc _).alloc _)) (by unfold maxLen; omega) (by omega) (by first | (simp; done) | (simp; omega)) ?_; intro va wa hoa hga; obtain ⟨ada, capa, rfl, -⟩ := hoa.slice; rw [Nat.zero_add, List.nil_append] at hoa; rw [Nat.zero_add]; have hka := Lib.hid (((((Keeps.refl w).alloc _).alloc _).alloc _).grown hga (fun k h => by cases h)); have hq := Blk.grown (Blk.new _ _ _) hga (by simp [Value.ownBlock]); have hp := Blk.grown (Blk.keeps (Blk.new ((w.alloc _)) _ _) ((Keeps.refl _).alloc _)) hga (by simp [Value.ownBlock]); simp only [World.size_alloc] at hq hp; obtain ⟨⟨q0, q1, q2, q3, q4, q5, q6⟩, r0, r1, r2, r3, r4, r5, r6⟩ := hq.seven; obtain ⟨⟨p0, p1, p2, p3, p4, p5, p6⟩, o0, o1, o2, o3, o4, o5, o6⟩ := hp.seven; clear hga)
  refine bodyPost_ret (v := .agg #[.int .i64 a, .int .i64 t, .bool b, .string (str k), .bool g, .string (str v), .slice ada n capa]) (by simp [results, Try.f12, go_sem, *]) rfl ⟨_, rfl, PairsAt.of_own (base := w.heap.size + 3) ?_, ?_⟩
  · rw [HNN.out]
    exact (((((((hoa.other _ (by first | (simp; done) | (simp; omega)) _).other _ (by first | (simp; done) | (simp; omega)) _).other _ (by first | (simp; done) | (simp; omega)) _).other _ (by first | (simp; done) | (simp; omega)) _).other _ (by first | (simp; done) | (simp; omega)) _).other _ (by first | (simp; done) | (simp; omega)) _).other _ (by first | (simp; done) | (simp; omega)) _).other _ (by first | (simp; done) | (simp; omega)) _
  · exact (((((((hka.out.setCell (by first | (simp; done) | (simp; omega)) _).setCell (by first | (simp; done) | (simp; omega)) _).setCell (by first | (simp; done) | (simp; omega)) _).setCell (by first | (simp; done) | (simp; omega)) _).setCell (by first | (simp; done) | (simp; omega)) _).setCell (by first | (simp; done) | (simp; omega)) _).setCell (by first | (simp; done) | (simp; omega)) _).setCell (by first | (simp; done) | (simp; omega)) _
end Go.Proofs.Ytkpeicleblcdaaa
