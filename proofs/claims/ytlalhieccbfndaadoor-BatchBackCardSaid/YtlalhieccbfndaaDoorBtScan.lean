/-
  batch.Scan, the document's Scan: the walks.
-/
import Derived.Test.YtlalhieccbfndaaDoorBs
import Derived.Test.YtlalhieccbfndaaDoorBtDec
import Derived.Test.YtlalhieccbfndaaDoorBtRefDec
import Derived.ScopeJumps
import Derived.WalkMore
set_option linter.unusedVariables false
namespace Go.Proofs.YtlalhieccbfndaaDoor
open Go.RowKit

/-- so far: the batches ds are read, the next stands at a -/
structure Bat.SP (l : List UInt8) (ds : List Bat) (a : Int) : Prop where
  lo : 0 ≤ a
  hi : a ≤ l.length
  cnt : (ds.length : Int) * 8 ≤ a
  eq : Bat.scanAll l = (ds ++ (Bat.scan (l.length + 1) l a).1, (Bat.scan (l.length + 1) l a).2)
theorem Bat.SP.start (l : List UInt8) : Bat.SP l [] 0 := ⟨Int.le_refl _, by omega, by simp, by unfold Bat.scanAll; simp⟩
theorem Bat.SP.next {l : List UInt8} {ds : List Bat} {a to : Int} {b : Bat} (h : Bat.SP l ds a) (hd : Bat.dec l a = (b, to, 0)) : Bat.SP l (ds ++ [b]) to ∧ a < to := by
  obtain ⟨_, _, h0, h1, h2⟩ := Bat.dec_ok hd
  refine ⟨⟨by omega, h2, by have := h.cnt; simp; omega, ?_⟩, by omega⟩
  rw [h.eq, Bat.scan, hd]
  simp only [if_true]
  rw [Bat.scan_fuel l l.length to (by omega) (by omega) (l.length + 1) (by omega)]
  simp
theorem Bat.SP.stop {l : List UInt8} {ds : List Bat} {a : Int} (h : Bat.SP l ds a) (hd : (Bat.dec l a).2.2 ≠ 0) : Bat.scanAll l = (ds, a) := by
  rw [h.eq, Bat.scan, if_neg hd]; simp
def retScan (g : List Bat × Int) (v : Value) : Ending := .returned (.tuple #[v, .int .i64 g.2])
/-- what a scan leaves -/
def ScanRet (g : List Bat × Int) (w : World) (e : Ending) (w' : World) : Prop := ∃ v, e = retScan g v ∧ BsAt w' v g.1 ∧ Keeps w w'


set_option maxRecDepth 4000 in
set_option maxHeartbeats 8000000 in
theorem bt_scan (l : List UInt8) (hl : l.length ≤ 2 ^ 30) (w : World) (ht : Tab w) :
    Calls Tryd.prog 19 #[.string (str l)] w (ScanRet (Bat.scanAll l) w) := by
  obtain ⟨i0, hi, hz0, hz1, hz2⟩ := info_parts info_bat
  have HD := Lib.hid (fun (a : Int) w ht => bt_decode l (by omega) a w ht)
  have HT := Lib.hid ht
  have HTL := Lib.hid (show l.length ≤ 2 ^ 30 from hl)
  clear ht
  go_enter Tryd.func19, Tryd.ntmps19
  go_wp2_with fail
  refine wp_scope_jumps 0 (fun a' wr => ∃ (dl : List (Bat × Value)) (a : Int) (vo : Value) (u1 u6 u7 u8 u9 u10 u11 u12 u13 u14 u15 u16 u17 u18 u19 u20 u21 u22 u23 u24 : Value), a' = { tmps := #[.string (str l), u1, .slice none 0 0, .int .i64 0, vo, .int .i64 a, u6, u7, u8, u9, u10, u11, u12, u13, u14, u15, u16, u17, u18, u19, u20, u21, u22, u23, u24], defers := [] } ∧ Bat.SP l (dl.map (·.1)) a ∧ SK w w.heap.size dl vo wr) (fun a' _ => l.length - (intOf (a'.tmps.getD 5 undef)).toNat) rfl ?_ ?_
  · go_wp2_with fail
    go_step3
    have hsk : SK w w.heap.size [] (.slice none 0 0) w := SK.start (Keeps.refl _) (Nat.le_refl _) (Nat.le_refl _)
    have hsp : Bat.SP l (([] : List (Bat × Value)).map (·.1)) 0 := Bat.SP.start l
    have HSK := Lib.hid hsk
    have HSP := Lib.hid hsp
    have HC := HD.out 0 w HT.out
    have hdec := Bat.SP.next (to := (Bat.dec l 0).2.1) (b := (Bat.dec l 0).1) hsp
    have hstop := Bat.SP.stop hsp
    have HLO := Lib.hid hsp.lo
    have HJ1 := Lib.hid (show 0 ≤ 2 ^ 30 by omega)
    clear hsk hsp
    obtain ⟨⟨b, to, e'⟩, hg⟩ : ∃ g, Bat.dec l 0 = g := ⟨_, rfl⟩
    rw [hg] at HC hdec hstop
    simp only at hdec hstop
    have HC := Lib.hid HC
    clear hg
    by_cases he : e' = 0
    · subst he
      have HNX := Lib.hid (hdec rfl)
      clear hdec hstop
      go_wp2_with fail
      refine HC.out.mono ?_
      rintro e w1 ⟨lv, rfl, hrs, hk1⟩
      obtain ⟨adb, capb, rfl⟩ := hrs.form
      simp only [retBt, batV]
      have hkal := (Keeps.refl w1).alloc (.cells #[.int .i64 b.base, .int .i64 b.span, .int .i64 b.prod, .int .i64 b.epoch, .int .i64 b.seq, .slice adb b.recs.length capb] 24)
      obtain ⟨z0, z1, z2, z3, z4, z5⟩ := (Blk.new w1 24 #[.int .i64 b.base, .int .i64 b.span, .int .i64 b.prod, .int .i64 b.epoch, .int .i64 b.seq, .slice adb b.recs.length capb]).six
      have hfd := Feeds.new6 (P := Tryd.prog) (w1.alloc (.cells #[.int .i64 b.base, .int .i64 b.span, .int .i64 b.prod, .int .i64 b.epoch, .int .i64 b.seq, .slice adb b.recs.length capb] 24)) 24 [.int .i64 b.base, .int .i64 b.span, .int .i64 b.prod, .int .i64 b.epoch, .int .i64 b.seq, .slice adb b.recs.length capb] rfl (by intro u hu; simp at hu; rcases hu with rfl | rfl | rfl | rfl | rfl | rfl <;> rfl) 1
      rw [World.size_alloc] at hfd
      have hfd := Lib.hid hfd
      have hk2 := (hk1.trans hkal).alloc (.cells #[.int .i64 b.base, .int .i64 b.span, .int .i64 b.prod, .int .i64 b.epoch, .int .i64 b.seq, .slice adb b.recs.length capb] 24)
      have hsk2 := Lib.hid (HSK.out.step hk2)
      have hrs2 := Lib.hid ((RsIn.fresh (v := .slice none 0 0) hrs HSK.out.old).keeps (hkal.alloc (.cells #[.int .i64 b.base, .int .i64 b.span, .int .i64 b.prod, .int .i64 b.epoch, .int .i64 b.seq, .slice adb b.recs.length capb] 24)))
      have hb0 := Lib.hid hsk2.out.lt
      clear hrs hk2 hkal
      go_wp2_with (at_builtin; refine wpList_append_new _ rfl _ _ 36 36 rfl w.heap.size 24 i0 (.agg #[.int .i64 0, .int .i64 0, .int .i64 0, .int .i64 0, .int .i64 0, .slice none 0 0]) 6 64 Tryd.underlying36 ⟨_, Tryd.underlying36, fun _ h => by cases h⟩ hi hz0 hz1 hz2 rfl (by decide) (.slice none 0 0) 0 (bcellsL []) rfl hsk2.out.own (.slice (some ⟨w1.heap.size + 1, 0, none⟩) 1 1) 1 [.int .i64 b.base, .int .i64 b.span, .int .i64 b.prod, .int .i64 b.epoch, .int .i64 b.seq, .slice adb b.recs.length capb] rfl hfd.out (by have := HJ1.out; unfold maxLen; omega) (by have := HJ1.out; omega) hb0.out ?_; intro v' w' hown hg hnew; have hsk3 := Lib.hid (hsk2.out.more hrs2.out hown hg hnew); obtain ⟨ad2, cap2, rfl, -⟩ := hown.slice; clear hown hg hnew)
      go_step3; exact ⟨rfl, [(b, .slice adb b.recs.length capb)], to, _, _, _, _, _, _, _, _, _, _, _, _, _, _, _, _, _, _, _, _, _, rfl, HNX.out.1, hsk3.out⟩
    · have hne : (e' != 0) = true := by simpa using he
      have HNO := Lib.hid (hstop he)
      clear hdec hstop he
      go_wp2_with fail
      refine HC.out.mono ?_
      rintro e w1 ⟨lv, rfl, hrs, hk1⟩
      obtain ⟨adb, capb, rfl⟩ := hrs.form
      simp only [retBt, batV]
      have hk2 := hk1.alloc (.cells #[.int .i64 b.base, .int .i64 b.span, .int .i64 b.prod, .int .i64 b.epoch, .int .i64 b.seq, .slice adb b.recs.length capb] 24)
      have HFIN := Lib.hid ((HSK.out.step hk2).fin (by simp))
      have HK := Lib.hid ((HSK.out.step hk2).keeps)
      clear hrs hk1 hk2
      go_wp2_with fail
      simp only [Exit.jump]; go_ret2; exact ⟨_, by rw [HNO.out]; rfl, by rw [HNO.out]; exact HFIN.out, HK.out⟩
  · rintro a' wr ⟨dl, a, vo, u1, u6, u7, u8, u9, u10, u11, u12, u13, u14, u15, u16, u17, u18, u19, u20, u21, u22, u23, u24, rfl, hsp, hsk⟩
    obtain ⟨ao, capo, rfl, -⟩ := hsk.own.slice
    have HSK := Lib.hid hsk
    have HSP := Lib.hid hsp
    have HC := HD.out a wr (HT.out.keeps hsk.keeps)
    have hdec := Bat.SP.next (to := (Bat.dec l a).2.1) (b := (Bat.dec l a).1) hsp
    have hstop := Bat.SP.stop hsp
    have HLO := Lib.hid hsp.lo
    have HJ1 := Lib.hid (show dl.length ≤ 2 ^ 30 by have h1 := hsp.cnt; have h2 := hsp.hi; simp at h1; omega)
    clear hsk hsp
    obtain ⟨⟨b, to, e'⟩, hg⟩ : ∃ g, Bat.dec l a = g := ⟨_, rfl⟩
    rw [hg] at HC hdec hstop
    simp only at hdec hstop
    have HC := Lib.hid HC
    clear hg
    by_cases he : e' = 0
    · subst he
      have HNX := Lib.hid (hdec rfl)
      clear hdec hstop
      go_wp2_with fail
      refine HC.out.mono ?_
      rintro e w1 ⟨lv, rfl, hrs, hk1⟩
      obtain ⟨adb, capb, rfl⟩ := hrs.form
      simp only [retBt, batV]
      have hkal := (Keeps.refl w1).alloc (.cells #[.int .i64 b.base, .int .i64 b.span, .int .i64 b.prod, .int .i64 b.epoch, .int .i64 b.seq, .slice adb b.recs.length capb] 24)
      obtain ⟨z0, z1, z2, z3, z4, z5⟩ := (Blk.new w1 24 #[.int .i64 b.base, .int .i64 b.span, .int .i64 b.prod, .int .i64 b.epoch, .int .i64 b.seq, .slice adb b.recs.length capb]).six
      have hfd := Feeds.new6 (P := Tryd.prog) (w1.alloc (.cells #[.int .i64 b.base, .int .i64 b.span, .int .i64 b.prod, .int .i64 b.epoch, .int .i64 b.seq, .slice adb b.recs.length capb] 24)) 24 [.int .i64 b.base, .int .i64 b.span, .int .i64 b.prod, .int .i64 b.epoch, .int .i64 b.seq, .slice adb b.recs.length capb] rfl (by intro u hu; simp at hu; rcases hu with rfl | rfl | rfl | rfl | rfl | rfl <;> rfl) 1
      rw [World.size_alloc] at hfd
      have hfd := Lib.hid hfd
      have hk2 := (hk1.trans hkal).alloc (.cells #[.int .i64 b.base, .int .i64 b.span, .int .i64 b.prod, .int .i64 b.epoch, .int .i64 b.seq, .slice adb b.recs.length capb] 24)
      have hsk2 := Lib.hid (HSK.out.step hk2)
      have hrs2 := Lib.hid ((RsIn.fresh (v := .slice ao dl.length capo) hrs HSK.out.old).keeps (hkal.alloc (.cells #[.int .i64 b.base, .int .i64 b.span, .int .i64 b.prod, .int .i64 b.epoch, .int .i64 b.seq, .slice adb b.recs.length capb] 24)))
      have hb0 := Lib.hid hsk2.out.lt
      clear hrs hk2 hkal
      go_wp2_with (at_builtin; refine wpList_append_new _ rfl _ _ 36 36 rfl w.heap.size 24 i0 (.agg #[.int .i64 0, .int .i64 0, .int .i64 0, .int .i64 0, .int .i64 0, .slice none 0 0]) 6 64 Tryd.underlying36 ⟨_, Tryd.underlying36, fun _ h => by cases h⟩ hi hz0 hz1 hz2 rfl (by decide) (.slice ao dl.length capo) dl.length (bcellsL dl) rfl hsk2.out.own (.slice (some ⟨w1.heap.size + 1, 0, none⟩) 1 1) 1 [.int .i64 b.base, .int .i64 b.span, .int .i64 b.prod, .int .i64 b.epoch, .int .i64 b.seq, .slice adb b.recs.length capb] rfl hfd.out (by have := HJ1.out; unfold maxLen; omega) (by have := HJ1.out; omega) hb0.out ?_; intro v' w' hown hg hnew; have hsk3 := Lib.hid (hsk2.out.more hrs2.out hown hg hnew); obtain ⟨ad2, cap2, rfl, -⟩ := hown.slice; clear hown hg hnew)
      go_step3; refine ⟨rfl, ⟨dl ++ [(b, .slice adb b.recs.length capb)], to, _, _, _, _, _, _, _, _, _, _, _, _, _, _, _, _, _, _, _, _, _, rfl, by rw [List.map_append]; exact HNX.out.1, hsk3.out⟩, ?_⟩; simp [intOf]; have := HNX.out.2; have := HNX.out.1.hi; have := HLO.out; omega
    · have hne : (e' != 0) = true := by simpa using he
      have HNO := Lib.hid (hstop he)
      clear hdec hstop he
      go_wp2_with fail
      refine HC.out.mono ?_
      rintro e w1 ⟨lv, rfl, hrs, hk1⟩
      obtain ⟨adb, capb, rfl⟩ := hrs.form
      simp only [retBt, batV]
      have hk2 := hk1.alloc (.cells #[.int .i64 b.base, .int .i64 b.span, .int .i64 b.prod, .int .i64 b.epoch, .int .i64 b.seq, .slice adb b.recs.length capb] 24)
      have HFIN := Lib.hid ((HSK.out.step hk2).fin (by have := HJ1.out; omega))
      have HK := Lib.hid ((HSK.out.step hk2).keeps)
      clear hrs hk1 hk2
      go_wp2_with fail
      simp only [Exit.jump]; go_ret2; exact ⟨_, by rw [HNO.out]; rfl, by rw [HNO.out]; exact HFIN.out, HK.out⟩

set_option maxRecDepth 4000 in
set_option maxHeartbeats 8000000 in
theorem ref_bscan (l : List UInt8) (hl : l.length ≤ 2 ^ 30) (w : World) :
    Calls Tryd.prog 20 #[.string (str l)] w (ScanRet (Bat.scanAll l) w) := by
  obtain ⟨i0, hi, hz0, hz1, hz2⟩ := info_parts info_bat
  have HD := Lib.hid (fun (a : Int) w => ref_bdecode l (by omega) a w)
  go_enter Tryd.func20, Tryd.ntmps20
  go_wp2_with fail
  go_loopw [4, 5] (fun vo i wr => ∃ (dl : List (Bat × Value)) (a : Int), i = .int .i64 a ∧ Bat.SP l (dl.map (·.1)) a ∧ SK w w.heap.size dl vo wr) (fun _ i _ => l.length - (intOf i).toNat)
  case atStart => exact ⟨[], 0, rfl, Bat.SP.start l, SK.start (Keeps.refl _) (Nat.le_refl _) (Nat.le_refl _)⟩
  case round =>
    obtain ⟨dl, a, rfl, hsp, hsk⟩ := hrel
    obtain ⟨ao, capo, rfl, -⟩ := hsk.own.slice
    have HSK := Lib.hid hsk
    have HSP := Lib.hid hsp
    have HC := HD.out a wr 
    have hdec := Bat.SP.next (to := (Bat.dec l a).2.1) (b := (Bat.dec l a).1) hsp
    have hstop := Bat.SP.stop hsp
    have HLO := Lib.hid hsp.lo
    have HJ1 := Lib.hid (show dl.length ≤ 2 ^ 30 by have h1 := hsp.cnt; have h2 := hsp.hi; simp at h1; omega)
    clear hsk hsp
    obtain ⟨⟨b, to, e'⟩, hg⟩ : ∃ g, Bat.dec l a = g := ⟨_, rfl⟩
    rw [hg] at HC hdec hstop
    simp only at hdec hstop
    have HC := Lib.hid HC
    clear hg
    by_cases he : e' = 0
    · subst he
      have HNX := Lib.hid (hdec rfl)
      clear hdec hstop
      go_wp2_with fail
      refine HC.out.mono ?_
      rintro e w1 ⟨lv, rfl, hrs, hk1⟩
      obtain ⟨adb, capb, rfl⟩ := hrs.form
      simp only [retBt, batV]
      have hkal := (Keeps.refl w1).alloc (.cells #[.int .i64 b.base, .int .i64 b.span, .int .i64 b.prod, .int .i64 b.epoch, .int .i64 b.seq, .slice adb b.recs.length capb] 24)
      obtain ⟨z0, z1, z2, z3, z4, z5⟩ := (Blk.new w1 24 #[.int .i64 b.base, .int .i64 b.span, .int .i64 b.prod, .int .i64 b.epoch, .int .i64 b.seq, .slice adb b.recs.length capb]).six
      have hfd := Feeds.new6 (P := Tryd.prog) (w1.alloc (.cells #[.int .i64 b.base, .int .i64 b.span, .int .i64 b.prod, .int .i64 b.epoch, .int .i64 b.seq, .slice adb b.recs.length capb] 24)) 24 [.int .i64 b.base, .int .i64 b.span, .int .i64 b.prod, .int .i64 b.epoch, .int .i64 b.seq, .slice adb b.recs.length capb] rfl (by intro u hu; simp at hu; rcases hu with rfl | rfl | rfl | rfl | rfl | rfl <;> rfl) 1
      rw [World.size_alloc] at hfd
      have hfd := Lib.hid hfd
      have hk2 := (hk1.trans hkal).alloc (.cells #[.int .i64 b.base, .int .i64 b.span, .int .i64 b.prod, .int .i64 b.epoch, .int .i64 b.seq, .slice adb b.recs.length capb] 24)
      have hsk2 := Lib.hid (HSK.out.step hk2)
      have hrs2 := Lib.hid ((RsIn.fresh (v := .slice ao dl.length capo) hrs HSK.out.old).keeps (hkal.alloc (.cells #[.int .i64 b.base, .int .i64 b.span, .int .i64 b.prod, .int .i64 b.epoch, .int .i64 b.seq, .slice adb b.recs.length capb] 24)))
      have hb0 := Lib.hid hsk2.out.lt
      clear hrs hk2 hkal
      go_wp2_with (at_builtin; refine wpList_append_new _ rfl _ _ 36 36 rfl w.heap.size 24 i0 (.agg #[.int .i64 0, .int .i64 0, .int .i64 0, .int .i64 0, .int .i64 0, .slice none 0 0]) 6 64 Tryd.underlying36 ⟨_, Tryd.underlying36, fun _ h => by cases h⟩ hi hz0 hz1 hz2 rfl (by decide) (.slice ao dl.length capo) dl.length (bcellsL dl) rfl hsk2.out.own (.slice (some ⟨w1.heap.size + 1, 0, none⟩) 1 1) 1 [.int .i64 b.base, .int .i64 b.span, .int .i64 b.prod, .int .i64 b.epoch, .int .i64 b.seq, .slice adb b.recs.length capb] rfl hfd.out (by have := HJ1.out; unfold maxLen; omega) (by have := HJ1.out; omega) hb0.out ?_; intro v' w' hown hg hnew; have hsk3 := Lib.hid (hsk2.out.more hrs2.out hown hg hnew); obtain ⟨ad2, cap2, rfl, -⟩ := hown.slice; clear hown hg hnew)
      exact ⟨⟨dl ++ [(b, .slice adb b.recs.length capb)], to, rfl, by rw [List.map_append]; exact HNX.out.1, hsk3.out⟩, by simp [intOf]; have := HNX.out.2; have := HNX.out.1.hi; have := HLO.out; omega⟩
    · have hne : (e' != 0) = true := by simpa using he
      have HNO := Lib.hid (hstop he)
      clear hdec hstop he
      go_wp2_with fail
      refine HC.out.mono ?_
      rintro e w1 ⟨lv, rfl, hrs, hk1⟩
      obtain ⟨adb, capb, rfl⟩ := hrs.form
      simp only [retBt, batV]
      have hk2 := hk1.alloc (.cells #[.int .i64 b.base, .int .i64 b.span, .int .i64 b.prod, .int .i64 b.epoch, .int .i64 b.seq, .slice adb b.recs.length capb] 24)
      have HFIN := Lib.hid ((HSK.out.step hk2).fin (by have := HJ1.out; omega))
      have HK := Lib.hid ((HSK.out.step hk2).keeps)
      clear hrs hk1 hk2
      go_wp2_with fail
      go_ret2
      exact ⟨_, by rw [HNO.out]; rfl, by rw [HNO.out]; exact HFIN.out, HK.out⟩
end Go.Proofs.YtlalhieccbfndaaDoor
