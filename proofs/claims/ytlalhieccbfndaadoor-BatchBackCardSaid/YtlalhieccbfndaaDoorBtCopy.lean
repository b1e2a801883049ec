/-
  The document's CopyAll of records, Copy of a batch: the walks.
-/
import Derived.Test.YtlalhieccbfndaaDoorBs
import Derived.Test.YtlalhieccbfndaaDoorRs
import Derived.Test.YtlalhieccbfndaaDoorBtInPl
set_option linter.unusedVariables false
namespace Go.Proofs.YtlalhieccbfndaaDoor
open Go.RowKit

set_option maxRecDepth 4000 in
set_option maxHeartbeats 1600000 in
theorem ref_copy_in (r : Rec) (hv : Value) (w : World) (hh : PairsAt w hv r.hdrs) (hn : r.hdrs.length ≤ 1000) :
    Calls Tryd.prog 36 #[recV r hv] w fun e w' => ∃ hv', e = .returned (recV r hv') ∧ PairsIn (fun g => w.heap.size ≤ g) w' hv' r.hdrs ∧ Keeps w w' := by
  obtain ⟨i0, hi, hz0, hz1, hz2⟩ := info_parts info_hdr
  obtain ⟨a, t, b, k, g, v, hs⟩ := r
  have HF := Lib.hid (fun (w' : World) (hk : Keeps w w') => (hh.keeps hk).feeds (P := Tryd.prog))
  obtain ⟨ad, cap, rfl, h0, hc⟩ := hh
  obtain ⟨n, hnn⟩ : ∃ n, hs.length = n := ⟨_, rfl⟩
  have HNN := Lib.hid hnn
  rw [hnn] at HF hn
  simp only [recV]
  rw [hnn]
  clear hnn hc h0
  go_enter Tryd.func36, Tryd.ntmps36
  go_wp2_with (at_builtin; refine wpList_append_any _ rfl _ _ 47 47 rfl (w.heap.size + 3) 51 i0 (.agg #[.string ⟨#[]⟩, .string ⟨#[]⟩]) 2 32 Tryd.underlying47 ⟨_, Tryd.underlying47, fun _ h => by cases h⟩ hi hz0 hz1 hz2 rfl (by decide) (.slice none 0 0) 0 [] rfl (Own.nil _ _ _) (.slice ad n cap) n (pcells hs) rfl (HF.out _ ((((Keeps.refl w).alloc _).alloc _).alloc _)) (by unfold maxLen; omega) (by omega) (by first | (simp; done) | (simp; omega)) ?_; intro va wa hoa hga; obtain ⟨ada, capa, rfl, -⟩ := hoa.slice; rw [Nat.zero_add, List.nil_append] at hoa; rw [Nat.zero_add]; have hka := Lib.hid (((((Keeps.refl w).alloc _).alloc _).alloc _).grown hga (fun k h => by cases h)); have hq := Blk.grown (Blk.new _ _ _) hga (by simp [Value.ownBlock]); have hp := Blk.grown (Blk.keeps (Blk.new ((w.alloc _)) _ _) ((Keeps.refl _).alloc _)) hga (by simp [Value.ownBlock]); simp only [World.size_alloc] at hq hp; obtain ⟨⟨q0, q1, q2, q3, q4, q5, q6⟩, r0, r1, r2, r3, r4, r5, r6⟩ := hq.seven; obtain ⟨⟨p0, p1, p2, p3, p4, p5, p6⟩, o0, o1, o2, o3, o4, o5, o6⟩ := hp.seven; clear hga)
  refine bodyPost_ret (v := .agg #[.int .i64 a, .int .i64 t, .bool b, .string (str k), .bool g, .string (str v), .slice ada n capa]) (by simp [results, Tryd.f36, go_sem, *]) rfl ⟨_, rfl, ?_, ?_⟩
  · refine (PairsIn.of_own (base := w.heap.size + 3) (S := fun g => w.heap.size + 3 ≤ g) ?_ ?_).move fun g hg _ => ⟨by omega, rfl⟩
    · rw [HNN.out]
      exact (((((((hoa.other _ (by first | (simp; done) | (simp; omega)) _).other _ (by first | (simp; done) | (simp; omega)) _).other _ (by first | (simp; done) | (simp; omega)) _).other _ (by first | (simp; done) | (simp; omega)) _).other _ (by first | (simp; done) | (simp; omega)) _).other _ (by first | (simp; done) | (simp; omega)) _).other _ (by first | (simp; done) | (simp; omega)) _).other _ (by first | (simp; done) | (simp; omega)) _
    · exact fun g hg => hoa.base g hg
  · exact (((((((hka.out.setCell (by first | (simp; done) | (simp; omega)) _).setCell (by first | (simp; done) | (simp; omega)) _).setCell (by first | (simp; done) | (simp; omega)) _).setCell (by first | (simp; done) | (simp; omega)) _).setCell (by first | (simp; done) | (simp; omega)) _).setCell (by first | (simp; done) | (simp; omega)) _).setCell (by first | (simp; done) | (simp; omega)) _).setCell (by first | (simp; done) | (simp; omega)) _

set_option maxRecDepth 4000 in
set_option maxHeartbeats 3200000 in
theorem ref_copyall (l : List Rec) (lv : Value) (w : World) (hrs : RsAt w lv l) (hln : l.length ≤ 1000) (hb : ∀ r ∈ l, r.hdrs.length ≤ 1000) :
    Calls Tryd.prog 22 #[lv] w fun e w' => ∃ v, e = .returned v ∧ RsIn (fun g => w.heap.size ≤ g) w' v l ∧ Keeps w w' := by
  obtain ⟨i0, hi, hz0, hz1, hz2⟩ := info_parts info_rec
  have HCP := Lib.hid (fun (r : Rec) hv w hh hn => ref_copy_in r hv w hh hn)
  have HB := Lib.hid hb
  obtain ⟨n, hn⟩ : ∃ n, l.length = n := ⟨_, rfl⟩
  obtain ⟨al, capl, rfl, hll, -, g, o, hvs, hal, hcl⟩ := hrs
  rw [hn] at hll hln ⊢
  have HNN := Lib.hid hn
  have HAL := Lib.hid hal
  have HCL := Lib.hid hcl
  have HLN := Lib.hid hln
  clear hn hal hcl hb hln
  go_enter Tryd.func22, Tryd.ntmps22
  go_wp2_with fail
  go_loopw [3, 4] (fun vo i wr => ∃ (dl : List (Rec × Value)), i = .int .i64 (dl.length : Nat) ∧ dl.length ≤ n ∧ dl.map (·.1) = l.take dl.length ∧ JS w w.heap.size dl vo wr) (fun _ i _ => n - (intOf i).toNat)
  case atStart => exact ⟨[], rfl, by simp, by simp, JS.start (Keeps.refl _) (Nat.le_refl _) (Nat.le_refl _)⟩
  case round =>
    obtain ⟨dl, rfl, hle, heq, hjs⟩ := hrel
    obtain ⟨ao, capo, rfl, -⟩ := hjs.own.slice
    have HJS := Lib.hid hjs
    have HEQ := Lib.hid heq
    clear hjs heq
    obtain ⟨j, hj⟩ : ∃ j, dl.length = j := ⟨_, rfl⟩
    have HJ := Lib.hid hj
    rw [hj] at hle ⊢
    clear hj
    by_cases hlt : j < n
    · obtain ⟨r, hx⟩ : ∃ x, l[j]? = some x := ⟨_, List.getElem?_eq_getElem (by rw [HNN.out]; exact hlt)⟩
      obtain rfl := HAL.out (by intro e; rw [e] at hx; simp at hx)
      obtain ⟨hrc, hrp⟩ := HCL.out j r hx
      obtain ⟨hv, hvd⟩ : ∃ v, hvs j = v := ⟨_, rfl⟩
      rw [hvd] at hrc hrp
      obtain ⟨adh, caph, rfl, -, -⟩ := id hrp
      obtain ⟨c0, c1, c2, c3, c4, c5, c6⟩ := hrc.of (fun _ _ => HJS.out.keeps.cell)
      have HC := HCP.out r _ wr (hrp.keeps HJS.out.keeps) (HB.out r (List.mem_of_getElem? hx))
      simp only [recV] at HC
      have HC := Lib.hid HC
      have HMORE := Lib.hid (show dl.map (·.1) ++ [r] = l.take (j + 1) by rw [HEQ.out, HJ.out, List.take_add_one, hx]; rfl)
      have HJ1 := Lib.hid (show dl.length ≤ 1000 by rw [HJ.out]; have := HLN.out; omega)
      clear hrp hrc hx hvd
      go_wp2_with fail
      refine HC.out.mono ?_
      rintro e w1 ⟨hv', rfl, hpi, hk1⟩
      obtain ⟨adk, capk, rfl, -, -⟩ := id hpi
      have hkal := (Keeps.refl w1).alloc (.cells #[.int .i64 r.at_, .int .i64 r.time, .bool r.bare, .string (str r.key), .bool r.gone, .string (str r.value), .slice adk r.hdrs.length capk] 49)
      have hfd := Feeds.new7 (P := Tryd.prog) w1 49 [.int .i64 r.at_, .int .i64 r.time, .bool r.bare, .string (str r.key), .bool r.gone, .string (str r.value), .slice adk r.hdrs.length capk] rfl (by intro u hu; simp at hu; rcases hu with rfl | rfl | rfl | rfl | rfl | rfl | rfl <;> rfl) 1
      have hfd := Lib.hid hfd
      have hjs2 := Lib.hid (HJS.out.step (hk1.trans hkal))
      have hpi2 := Lib.hid (hpi.move (T := fun g => w.heap.size ≤ g ∧ (Value.slice ao dl.length capo).ownBlock ≠ some g) (w' := w1.alloc (.cells #[.int .i64 r.at_, .int .i64 r.time, .bool r.bare, .string (str r.key), .bool r.gone, .string (str r.value), .slice adk r.hdrs.length capk] 49)) fun g hg hlt => ⟨⟨by have := HJS.out.lt; omega, fun e => by have := HJS.out.old g e; omega⟩, hkal.block hlt⟩)
      have hb0 := Lib.hid hjs2.out.lt
      clear hpi hkal
      go_wp2_with (at_builtin; refine wpList_append_new _ rfl _ _ 22 22 rfl w.heap.size 49 i0 (.agg #[.int .i64 0, .int .i64 0, .bool false, .string ⟨#[]⟩, .bool false, .string ⟨#[]⟩, .slice none 0 0]) 7 88 Tryd.underlying22 ⟨_, Tryd.underlying22, fun _ h => by cases h⟩ hi hz0 hz1 hz2 rfl (by decide) (.slice ao dl.length capo) dl.length (rcellsL dl) (by rw [HJ.out]; rfl) hjs2.out.own (.slice (some ⟨w1.heap.size, 0, none⟩) 1 1) 1 [.int .i64 r.at_, .int .i64 r.time, .bool r.bare, .string (str r.key), .bool r.gone, .string (str r.value), .slice adk r.hdrs.length capk] rfl hfd.out (by have := HJ1.out; unfold maxLen; omega) (by have := HJ1.out; omega) hb0.out ?_; intro v' w' hown hg hnew; have hjs3 := Lib.hid (hjs2.out.more hpi2.out hown hg hnew); obtain ⟨ad2, cap2, rfl, -⟩ := hown.slice; clear hown hg hnew)
      exact ⟨⟨dl ++ [(r, .slice adk r.hdrs.length capk)], by rw [List.length_append, HJ.out]; rfl, by rw [List.length_append, HJ.out]; exact hlt, by rw [List.map_append, List.length_append, HJ.out]; exact HMORE.out, hjs3.out⟩, by simp [intOf]; omega⟩
    · obtain rfl : j = n := by omega
      have hT : dl.map (·.1) = l := by rw [HEQ.out, HJ.out]; exact List.take_of_length_le (by rw [HNN.out]; omega)
      have HRS := Lib.hid (HJS.out.finIn (by rw [HJ.out]; exact HLN.out))
      rw [hT, HJ.out] at HRS
      have HK := Lib.hid HJS.out.keeps
      clear hT
      go_wp2_with fail
      go_ret
      exact ⟨_, rfl, HRS.out, HK.out⟩

set_option maxRecDepth 4000 in
set_option maxHeartbeats 3200000 in
theorem bt_copy (b : Bat) (lv : Value) (w : World) (hrs : RsAt w lv b.recs) (hln : b.recs.length ≤ 1000) (hb : ∀ r ∈ b.recs, r.hdrs.length ≤ 1000) :
    Calls Tryd.prog 11 #[batV b lv] w fun e w' => ∃ v, e = .returned (batV b v) ∧ RsAt w' v b.recs ∧ Keeps w w' := by
  have HC := fun w' (k : Keeps w w') => ref_copyall b.recs lv w' (hrs.keeps k) hln hb
  obtain ⟨ad, cap, rfl⟩ := hrs.form
  obtain ⟨x0, x1, x2, x3, x4, l⟩ := b
  simp only [batV] at *
  obtain ⟨n, hn⟩ : ∃ n, l.length = n := ⟨_, rfl⟩
  rw [hn] at HC ⊢
  have hk3 := (((Keeps.refl w).alloc (.cells #[.int .i64 x0, .int .i64 x1, .int .i64 x2, .int .i64 x3, .int .i64 x4, .slice ad n cap] 24)).alloc (.cells #[.int .i64 0, .int .i64 0, .int .i64 0, .int .i64 0, .int .i64 0, .slice none 0 0] 24)).alloc (.cells #[.int .i64 x0, .int .i64 x1, .int .i64 x2, .int .i64 x3, .int .i64 x4, .slice ad n cap] 24)
  have HC := Lib.hid (HC _ hk3)
  have hbp := (Blk.new (w.alloc (.cells #[.int .i64 x0, .int .i64 x1, .int .i64 x2, .int .i64 x3, .int .i64 x4, .slice ad n cap] 24)) 24 #[.int .i64 0, .int .i64 0, .int .i64 0, .int .i64 0, .int .i64 0, .slice none 0 0]).keeps ((Keeps.refl _).alloc (.cells #[.int .i64 x0, .int .i64 x1, .int .i64 x2, .int .i64 x3, .int .i64 x4, .slice ad n cap] 24))
  have hbq := Blk.new ((w.alloc (.cells #[.int .i64 x0, .int .i64 x1, .int .i64 x2, .int .i64 x3, .int .i64 x4, .slice ad n cap] 24)).alloc (.cells #[.int .i64 0, .int .i64 0, .int .i64 0, .int .i64 0, .int .i64 0, .slice none 0 0] 24)) 24 #[.int .i64 x0, .int .i64 x1, .int .i64 x2, .int .i64 x3, .int .i64 x4, .slice ad n cap]
  simp only [World.size_alloc] at hbp hbq
  have HBP := Lib.hid hbp
  have HBQ := Lib.hid hbq
  have HK3 := Lib.hid hk3
  have HN := Lib.hid hn
  clear hbp hbq hk3 hrs hb hln hn
  go_enter Tryd.func11, Tryd.ntmps11
  go_wp2_with fail
  refine HC.out.mono ?_
  rintro e w1 ⟨v, rfl, hin, hk1⟩
  obtain ⟨q0, q1, q2, q3, q4, q5⟩ := (HBQ.out.keeps hk1).six
  obtain ⟨r0, r1, r2, r3, r4, r5⟩ := (HBQ.out.keeps hk1).frozen6
  obtain ⟨p0, p1, p2, p3, p4, p5⟩ := (HBP.out.keeps hk1).six
  obtain ⟨s0, s1, s2, s3, s4, s5⟩ := (HBP.out.keeps hk1).frozen6
  obtain ⟨adv, capv, rfl⟩ := hin.form
  have hk := HK3.out.trans hk1
  simp only [World.size_alloc] at hin
  rw [HN.out]
  have HIN := Lib.hid hin
  clear hin hk1
  go_wp2_with fail
  refine bodyPost_ret (v := .agg #[.int .i64 x0, .int .i64 x1, .int .i64 x2, .int .i64 x3, .int .i64 x4, .slice adv n capv]) (by simp [results, Tryd.f11, go_sem, *]) rfl ⟨_, rfl, ?_, ?_⟩
  · have hin := HIN.out
    rw [HN.out] at hin
    refine RsIn.at_ (S := fun g => w.heap.size + 1 + 1 + 1 ≤ g) ?_
    repeat' first | (with_reducible assumption) | (with_reducible refine RsIn.drew ?_) | (with_reducible refine RsIn.other ?_ _ (by first | (simp; done) | (simp; omega)) _)
  · repeat' first | (with_reducible assumption) | (with_reducible refine Keeps.drew ?_) | (with_reducible refine Keeps.setCell ?_ (by first | (simp; done) | (simp; omega)) _)
end Go.Proofs.YtlalhieccbfndaaDoor
