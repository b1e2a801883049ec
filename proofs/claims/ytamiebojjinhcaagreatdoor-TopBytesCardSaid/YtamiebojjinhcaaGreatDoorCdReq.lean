/-
  The codec's request: the walk.
  The codec's reply: the walk.
-/
import Derived.Test.YtamiebojjinhcaaGreatDoorLsPl
import Derived.Deep.Cut
import Derived.Deep.CutBlock
import Derived.Deep.DeepCutAuto
import Derived.Deep.RegionWith
set_option linter.unusedVariables false
namespace Go.Proofs.YtamiebojjinhcaaGreatDoor
open Go.RowKit

theorem cd_listS (B : Nat) (hB : B ≤ 2 ^ 57) (cs : Cs) (hf : cs.Fine B) (most : Nat) (hmost : most ≤ 500) (xs : List (List UInt8)) (hxs : ∀ x ∈ xs, x.length ≤ 2 ^ 48) (v : Value) (P : Nat → Prop) (c q o k : Nat) (hP : ∀ g, P g → g ≠ c ∧ g ≠ q) (Tq Tk : TypeId) (qs : Array Value) (ho : qs[o]? = some v) (hcq : c ≠ q) (hkc : k ≠ c) (hkq : k ≠ q) (w : World)
    (hv : Fl 1 tcell P w v xs) (hrd : cs.reads = true → xs = [] ∧ v = .slice none 0 0) (hc : Blk w c 97 cs.cells) (hq : Blk w q Tq qs) (hk : Blk w k Tk #[.pointer (some ⟨c, 0, none⟩)]) :
    Calls Tryz.prog 45 #[.pointer (some ⟨c, 0, none⟩), .pointer (some ⟨q, o, none⟩), .int .i64 (most : Nat), .func (.func 46) #[] #[.pointer (some ⟨k, 0, none⟩)]] w
      (ListDid 1 tcell Tq w c q P (cs.list (most : Int) (Cs.txt 100) [] xs).2 qs o (cs.list (most : Int) (Cs.txt 100) [] xs).1) := by
  cases cs with
  | rd l st =>
    obtain ⟨rfl, rfl⟩ := hrd rfl
    exact cd_listS_rd l st hf.1 hf.2 most hmost c q o k Tq Tk qs ho hcq hkc hkq w hc hq hk P
  | wr s bd => exact cd_listS_wr B hB s bd hf most hmost xs hxs v P c q o k hP Tq Tk qs ho hcq hkc hkq w hv hc hq hk

namespace Cs
theorem Fine.plain {B : Nat} {c : Cs} (h : Fine B c) (n : Int) : Fine (B + 10) (plain c n).2 := (h.num (-1) 2199023255552 n).1
theorem Fine.flag {B : Nat} {c : Cs} (h : Fine B c) (f : Bool) : Fine (B + 10) (flag c f).2 := (h.num 0 1 (flagI f)).1
theorem plain_reads (c : Cs) (n : Int) : (plain c n).2.reads = c.reads := num_reads _ _ c n
theorem flag_reads (c : Cs) (f : Bool) : (flag c f).2.reads = c.reads := num_reads _ _ c _
end Cs

/-- its cells -/
def reqCells (u : Req) (lv kv tv : Value) : Array Value := #[.int .i64 u.kind, .string (str u.name), .int .i64 u.index, .int .i64 u.count, .int .i64 u.from_, .bool u.flag, .int .i64 u.bat.base, .int .i64 u.bat.span, .int .i64 u.bat.prod, .int .i64 u.bat.epoch, .int .i64 u.bat.seq, lv, .int .i64 u.filter.op, .string (str u.filter.name), .string (str u.filter.value), kv, .string (str u.group), .int .i64 u.member, .int .i64 u.gen, tv]
/-- what the codec's req leaves -/
def reqDid (w : World) (c q : Nat) (P : Nat → Prop) (cs : Cs) (u : Req) (e : Ending) (w' : World) : Prop :=
  ∃ lv kv tv, e = .returned (.tuple #[]) ∧ CQ 36 w c q cs (reqCells u lv kv tv) w' ∧ RsIn (fun g => P g ∨ w.heap.size ≤ g) w' lv u.bat.recs ∧ KIn (fun g => P g ∨ w.heap.size ≤ g) w' kv u.filter.kids ∧ Fl 1 tcell (fun g => P g ∨ w.heap.size ≤ g) w' tv u.topics

set_option maxRecDepth 8000 in
set_option maxHeartbeats 2000000 in
theorem cd_req (B : Nat) (hB : B ≤ 2 ^ 55) (cs : Cs) (hf : cs.Fine B) (u : Req) (hb : ((-9223372036854775808 ≤ u.kind ∧ u.kind ≤ 9223372036854775807) ∧ (-9223372036854775808 ≤ u.index ∧ u.index ≤ 9223372036854775807) ∧ (-9223372036854775808 ≤ u.count ∧ u.count ≤ 9223372036854775807) ∧ (-9223372036854775808 ≤ u.from_ ∧ u.from_ ≤ 9223372036854775807) ∧ (-9223372036854775808 ≤ u.member ∧ u.member ≤ 9223372036854775807) ∧ (-9223372036854775808 ≤ u.gen ∧ u.gen ≤ 9223372036854775807)) ∧ u.name.length ≤ 2 ^ 48 ∧ u.group.length ≤ 2 ^ 48 ∧ ∀ x ∈ u.topics, x.length ≤ 2 ^ 48) (lv kv tv : Value) (P : Nat → Prop) (c q : Nat) (hP : ∀ g, P g → g ≠ c ∧ g ≠ q) (hcq : c ≠ q) (w : World)
    (hlv : RsIn P w lv u.bat.recs) (hkv : KIn P w kv u.filter.kids) (htv : Fl 1 tcell P w tv u.topics) (hrd : cs.reads = true → u = Req.none ∧ lv = .slice none 0 0 ∧ kv = .slice none 0 0 ∧ tv = .slice none 0 0) (ht : Tab w) (hcg : c ≠ 0) (hqg : q ≠ 0)
    (hc : Blk w c 97 cs.cells) (hq : Blk w q 36 (reqCells u lv kv tv)) :
    Calls Tryz.prog 21 #[.pointer (some ⟨c, 0, none⟩), .pointer (some ⟨q, 0, none⟩)] w (reqDid w c q P (cs.req u).2 (cs.req u).1) := by
  have hclt := hc.lt
  have hqlt := hq.lt
  have hP1 : ∀ g, (P g ∨ w.heap.size ≤ g) → g ≠ c ∧ g ≠ q := fun g h => by
    rcases h with h | h
    · exact hP g h
    · omega
  have HP1 := Lib.hid hP1
  have hqc : ¬ q = c := fun e => hcq e.symm
  have hkc : w.heap.size ≠ c := by omega
  have hkq : w.heap.size ≠ q := by omega
  have HAL := Lib.hid ((Keeps.refl w).alloc (.cells #[.pointer (some ⟨c, 0, none⟩)] 67))
  have HKB := Lib.hid (Blk.new w 67 #[.pointer (some ⟨c, 0, none⟩)])
  have HTAB := Lib.hid (ht.keeps HAL.out)
  have hcell0 := (Blk.new w 67 #[.pointer (some ⟨c, 0, none⟩)]).cell 0 _ rfl
  have Hlv0 := Lib.hid (show RsIn (fun g => P g ∨ w.heap.size ≤ g) (w.alloc (.cells #[.pointer (some ⟨c, 0, none⟩)] 67)) lv u.bat.recs from RsIn.move (fun g hg hlt => ⟨.inl hg, HAL.out.block hlt⟩) hlv)
  have Hkv0 := Lib.hid (show KIn (fun g => P g ∨ w.heap.size ≤ g) (w.alloc (.cells #[.pointer (some ⟨c, 0, none⟩)] 67)) kv u.filter.kids from KIn.move (fun g hg hlt => ⟨.inl hg, HAL.out.block hlt⟩) hkv)
  have Htv0 := Lib.hid (show Fl 1 tcell (fun g => P g ∨ w.heap.size ≤ g) (w.alloc (.cells #[.pointer (some ⟨c, 0, none⟩)] 67)) tv u.topics from Fl.move (fun g hg hlt => ⟨.inl hg, HAL.out.block hlt⟩) (fun x => ⟨_, rfl⟩) htv)
  obtain ⟨⟨k, dk⟩, ek⟩ : ∃ r, cs.num 1 14 u.kind = r := ⟨_, rfl⟩
  obtain ⟨⟨nm, dnm⟩, enm⟩ : ∃ r, dk.txt 100 u.name = r := ⟨_, rfl⟩
  obtain ⟨⟨i, di⟩, ei⟩ : ∃ r, dnm.plain u.index = r := ⟨_, rfl⟩
  obtain ⟨⟨n, dn⟩, en⟩ : ∃ r, di.plain u.count = r := ⟨_, rfl⟩
  obtain ⟨⟨f, df⟩, ef⟩ : ∃ r, dn.plain u.from_ = r := ⟨_, rfl⟩
  obtain ⟨⟨g, dg⟩, eg⟩ : ∃ r, df.flag u.flag = r := ⟨_, rfl⟩
  obtain ⟨⟨b, db⟩, eb⟩ : ∃ r, dg.bat true u.bat = r := ⟨_, rfl⟩
  obtain ⟨⟨x, dx⟩, ex⟩ : ∃ r, db.flt u.filter = r := ⟨_, rfl⟩
  obtain ⟨⟨gr, dgr⟩, egr⟩ : ∃ r, dx.txt 100 u.group = r := ⟨_, rfl⟩
  obtain ⟨⟨m, dm⟩, em⟩ : ∃ r, dgr.plain u.member = r := ⟨_, rfl⟩
  obtain ⟨⟨ge, dge⟩, ege⟩ : ∃ r, dm.plain u.gen = r := ⟨_, rfl⟩
  obtain ⟨⟨t, dt⟩, et⟩ : ∃ r, dge.list 20 (Cs.txt 100) [] u.topics = r := ⟨_, rfl⟩
  have hres : cs.req u = (⟨k, nm, i, n, f, g, b, x, gr, m, ge, t⟩, dt) := by unfold Cs.req; simp only [ek, enm, ei, en, ef, eg, eb, ex, egr, em, ege, et]
  rw [hres]
  have hfcs : cs.Fine (B + 0 * 1125899906842624) := hf.mono (by omega)
  have hrcs : cs.reads = cs.reads := rfl
  have hfdk : dk.Fine (B + 1 * 1125899906842624) := by
    have h := (hfcs.num 1 14 u.kind).1
    rw [ek] at h
    exact Cs.Fine.mono h (by omega)
  have hrdk : dk.reads = cs.reads := by
    have h := Cs.num_reads 1 14 cs u.kind
    rw [ek] at h
    exact h.trans hrcs
  have hfdnm : dnm.Fine (B + 2 * 1125899906842624) := by
    have h := hfdk.txt 100 u.name
    rw [enm] at h
    exact Cs.Fine.mono h (by have := hb.2.1; omega)
  have hrdnm : dnm.reads = cs.reads := by
    have h := Cs.txt_reads 100 dk u.name
    rw [enm] at h
    exact h.trans hrdk
  have hfdi : di.Fine (B + 3 * 1125899906842624) := by
    have h := hfdnm.plain u.index
    rw [ei] at h
    exact Cs.Fine.mono h (by omega)
  have hrdi : di.reads = cs.reads := by
    have h := Cs.plain_reads dnm u.index
    rw [ei] at h
    exact h.trans hrdnm
  have hfdn : dn.Fine (B + 4 * 1125899906842624) := by
    have h := hfdi.plain u.count
    rw [en] at h
    exact Cs.Fine.mono h (by omega)
  have hrdn : dn.reads = cs.reads := by
    have h := Cs.plain_reads di u.count
    rw [en] at h
    exact h.trans hrdi
  have hfdf : df.Fine (B + 5 * 1125899906842624) := by
    have h := hfdn.plain u.from_
    rw [ef] at h
    exact Cs.Fine.mono h (by omega)
  have hrdf : df.reads = cs.reads := by
    have h := Cs.plain_reads dn u.from_
    rw [ef] at h
    exact h.trans hrdn
  have hfdg : dg.Fine (B + 6 * 1125899906842624) := by
    have h := hfdf.flag u.flag
    rw [eg] at h
    exact Cs.Fine.mono h (by omega)
  have hrdg : dg.reads = cs.reads := by
    have h := Cs.flag_reads df u.flag
    rw [eg] at h
    exact h.trans hrdf
  have hfdb : db.Fine (B + 7 * 1125899906842624) := by
    have h := hfdg.bat true u.bat
    rw [eb] at h
    exact Cs.Fine.mono h (by omega)
  have hrdb : db.reads = cs.reads := by
    have h := Cs.bat_reads true dg u.bat
    rw [eb] at h
    exact h.trans hrdg
  have hfdx : dx.Fine (B + 8 * 1125899906842624) := by
    have h := hfdb.flt u.filter
    rw [ex] at h
    exact Cs.Fine.mono h (by omega)
  have hrdx : dx.reads = cs.reads := by
    have h := Cs.flt_reads db u.filter
    rw [ex] at h
    exact h.trans hrdb
  have hfdgr : dgr.Fine (B + 9 * 1125899906842624) := by
    have h := hfdx.txt 100 u.group
    rw [egr] at h
    exact Cs.Fine.mono h (by have := hb.2.2.1; omega)
  have hrdgr : dgr.reads = cs.reads := by
    have h := Cs.txt_reads 100 dx u.group
    rw [egr] at h
    exact h.trans hrdx
  have hfdm : dm.Fine (B + 10 * 1125899906842624) := by
    have h := hfdgr.plain u.member
    rw [em] at h
    exact Cs.Fine.mono h (by omega)
  have hrdm : dm.reads = cs.reads := by
    have h := Cs.plain_reads dgr u.member
    rw [em] at h
    exact h.trans hrdgr
  have hfdge : dge.Fine (B + 11 * 1125899906842624) := by
    have h := hfdm.plain u.gen
    rw [ege] at h
    exact Cs.Fine.mono h (by omega)
  have hrdge : dge.reads = cs.reads := by
    have h := Cs.plain_reads dm u.gen
    rw [ege] at h
    exact h.trans hrdm
  have K1 := fun w' hc hq => cd_num (B + 0 * 1125899906842624) (by omega) cs hfcs 1 14 u.kind hb.1.1 c q 0 36 #[.int .i64 u.kind, .string (str u.name), .int .i64 u.index, .int .i64 u.count, .int .i64 u.from_, .bool u.flag, .int .i64 u.bat.base, .int .i64 u.bat.span, .int .i64 u.bat.prod, .int .i64 u.bat.epoch, .int .i64 u.bat.seq, lv, .int .i64 u.filter.op, .string (str u.filter.name), .string (str u.filter.value), kv, .string (str u.group), .int .i64 u.member, .int .i64 u.gen, tv] rfl hcq w' hc hq
  simp only [ek] at K1
  have K1 := Lib.hid K1
  have K2 := fun w' hc hq => cd_txt (B + 1 * 1125899906842624) (by omega) dk hfdk 100 u.name (by have := hb.2.1; omega) c q 1 36 #[.int .i64 k, .string (str u.name), .int .i64 u.index, .int .i64 u.count, .int .i64 u.from_, .bool u.flag, .int .i64 u.bat.base, .int .i64 u.bat.span, .int .i64 u.bat.prod, .int .i64 u.bat.epoch, .int .i64 u.bat.seq, lv, .int .i64 u.filter.op, .string (str u.filter.name), .string (str u.filter.value), kv, .string (str u.group), .int .i64 u.member, .int .i64 u.gen, tv] rfl hcq w' hc hq
  simp only [enm] at K2
  have K2 := Lib.hid K2
  have K3 := fun pg w' h1 h2 hc hq hg => cd_plain (B + 2 * 1125899906842624) (by omega) dnm hfdnm [(2, u.index), (3, u.count), (4, u.from_)] (by simp) (fun y hy => by simp at hy; rcases hy with rfl | rfl | rfl; exact hb.1.2.1; exact hb.1.2.2.1; exact hb.1.2.2.2.1) (by simp) c q pg 36 100 #[.int .i64 k, .string (str nm), .int .i64 u.index, .int .i64 u.count, .int .i64 u.from_, .bool u.flag, .int .i64 u.bat.base, .int .i64 u.bat.span, .int .i64 u.bat.prod, .int .i64 u.bat.epoch, .int .i64 u.bat.seq, lv, .int .i64 u.filter.op, .string (str u.filter.name), .string (str u.filter.value), kv, .string (str u.group), .int .i64 u.member, .int .i64 u.gen, tv] (fun y hy => by simp at hy; rcases hy with rfl | rfl | rfl <;> rfl) hcq h1 h2 3 rfl w' hc hq hg
  simp only [plains, ei, en, ef] at K3
  have K3 := Lib.hid K3
  have K4 := fun w' hc hq => cd_flag (B + 5 * 1125899906842624) (by omega) df hfdf u.flag c q 5 36 #[.int .i64 k, .string (str nm), .int .i64 i, .int .i64 n, .int .i64 f, .bool u.flag, .int .i64 u.bat.base, .int .i64 u.bat.span, .int .i64 u.bat.prod, .int .i64 u.bat.epoch, .int .i64 u.bat.seq, lv, .int .i64 u.filter.op, .string (str u.filter.name), .string (str u.filter.value), kv, .string (str u.group), .int .i64 u.member, .int .i64 u.gen, tv] rfl hcq w' hc hq
  simp only [eg] at K4
  have K4 := Lib.hid K4
  have K5 := fun w' hr ht hc hq => cd_bat (B + 6 * 1125899906842624) (by omega) dg hfdg true u.bat lv (fun g => P g ∨ w.heap.size ≤ g) c q 6 HP1.out 36 #[.int .i64 k, .string (str nm), .int .i64 i, .int .i64 n, .int .i64 f, .bool g, .int .i64 u.bat.base, .int .i64 u.bat.span, .int .i64 u.bat.prod, .int .i64 u.bat.epoch, .int .i64 u.bat.seq, lv, .int .i64 u.filter.op, .string (str u.filter.name), .string (str u.filter.value), kv, .string (str u.group), .int .i64 u.member, .int .i64 u.gen, tv] ⟨rfl, rfl, rfl, rfl, rfl, rfl⟩ hcq w' hr (fun h => by obtain ⟨rfl, rfl, -⟩ := hrd (hrdg ▸ h); exact ⟨rfl, rfl⟩) ht hcg hqg hc hq
  simp only [eb] at K5
  have K5 := Lib.hid K5
  have K6 := fun lv1 w' hr hc hq => cd_flt (B + 7 * 1125899906842624) (by omega) db hfdb u.filter kv (fun g => P g ∨ w.heap.size ≤ g) c q 12 HP1.out 36 #[.int .i64 k, .string (str nm), .int .i64 i, .int .i64 n, .int .i64 f, .bool g, .int .i64 b.base, .int .i64 b.span, .int .i64 b.prod, .int .i64 b.epoch, .int .i64 b.seq, lv1, .int .i64 u.filter.op, .string (str u.filter.name), .string (str u.filter.value), kv, .string (str u.group), .int .i64 u.member, .int .i64 u.gen, tv] ⟨rfl, rfl, rfl, rfl⟩ hcq w' hr (fun h => by obtain ⟨rfl, -, rfl, -⟩ := hrd (hrdb ▸ h); exact ⟨rfl, rfl⟩) hc hq
  simp only [ex] at K6
  have K6 := Lib.hid K6
  have K7 := fun lv1 kv1 w' hc hq => cd_txt (B + 8 * 1125899906842624) (by omega) dx hfdx 100 u.group (by have := hb.2.2.1; omega) c q 16 36 #[.int .i64 k, .string (str nm), .int .i64 i, .int .i64 n, .int .i64 f, .bool g, .int .i64 b.base, .int .i64 b.span, .int .i64 b.prod, .int .i64 b.epoch, .int .i64 b.seq, lv1, .int .i64 x.op, .string (str x.name), .string (str x.value), kv1, .string (str u.group), .int .i64 u.member, .int .i64 u.gen, tv] rfl hcq w' hc hq
  simp only [egr] at K7
  have K7 := Lib.hid K7
  have K8 := fun lv1 kv1 pg w' h1 h2 hc hq hg => cd_plain (B + 9 * 1125899906842624) (by omega) dgr hfdgr [(17, u.member), (18, u.gen)] (by simp) (fun y hy => by simp at hy; rcases hy with rfl | rfl; exact hb.1.2.2.2.2.1; exact hb.1.2.2.2.2.2) (by simp) c q pg 36 100 #[.int .i64 k, .string (str nm), .int .i64 i, .int .i64 n, .int .i64 f, .bool g, .int .i64 b.base, .int .i64 b.span, .int .i64 b.prod, .int .i64 b.epoch, .int .i64 b.seq, lv1, .int .i64 x.op, .string (str x.name), .string (str x.value), kv1, .string (str gr), .int .i64 u.member, .int .i64 u.gen, tv] (fun y hy => by simp at hy; rcases hy with rfl | rfl <;> rfl) hcq h1 h2 2 rfl w' hc hq hg
  simp only [plains, em, ege] at K8
  have K8 := Lib.hid K8
  have K9 := fun lv1 kv1 w' hk hv hc hq => cd_listS (B + 11 * 1125899906842624) (by omega) dge hfdge 20 (by decide) u.topics hb.2.2.2 tv (fun g => P g ∨ w.heap.size ≤ g) c q 19 w.heap.size HP1.out 36 67 #[.int .i64 k, .string (str nm), .int .i64 i, .int .i64 n, .int .i64 f, .bool g, .int .i64 b.base, .int .i64 b.span, .int .i64 b.prod, .int .i64 b.epoch, .int .i64 b.seq, lv1, .int .i64 x.op, .string (str x.name), .string (str x.value), kv1, .string (str gr), .int .i64 m, .int .i64 ge, tv] rfl hcq hkc hkq w' hv (fun h => by obtain ⟨rfl, -, -, rfl⟩ := hrd (hrdge ▸ h); exact ⟨rfl, rfl⟩) hc hq hk
  simp only [show ((20 : Nat) : Int) = 20 from rfl, et] at K9
  have K9 := Lib.hid K9
  have HC := Lib.hid hc
  have HQ := Lib.hid hq
  have S0 := Lib.hid (show CQ 36 (w.alloc (.cells #[.pointer (some ⟨c, 0, none⟩)] 67)) c q cs (#[.int .i64 u.kind, .string (str u.name), .int .i64 u.index, .int .i64 u.count, .int .i64 u.from_, .bool u.flag, .int .i64 u.bat.base, .int .i64 u.bat.span, .int .i64 u.bat.prod, .int .i64 u.bat.epoch, .int .i64 u.bat.seq, lv, .int .i64 u.filter.op, .string (str u.filter.name), .string (str u.filter.value), kv, .string (str u.group), .int .i64 u.member, .int .i64 u.gen, tv] : Array Value) (w.alloc (.cells #[.pointer (some ⟨c, 0, none⟩)] 67)) from ⟨Two.refl _ _ _, hc.keeps HAL.out, hq.keeps HAL.out⟩)
  clear hres hfcs hrcs ek hfdk hrdk enm hfdnm hrdnm ei hfdi hrdi en hfdn hrdn ef hfdf hrdf eg hfdg hrdg eb hfdb hrdb ex hfdx hrdx egr hfdgr hrdgr em hfdm hrdm ege hfdge hrdge et hc hq hf hb hP hP1 hrd ht hB hlv hkv htv
  go_enter Tryz.func21, Tryz.ntmps21
  have hwn0 : w.heap.size < (w.alloc (.cells #[.pointer (some ⟨c, 0, none⟩)] 67)).heap.size := by simp
  go_wp2_with fail
  have hk0 := hcell0
  go_region_with (go_at_call 39; refine (K1.out _ (S0.out.cb.keeps (Keeps.refl _).drew) (S0.out.qb.keeps (Keeps.refl _).drew)).mono ?_; rintro e w1 ⟨rfl, hd⟩)
  have D1 := Lib.hid (show Two c q (w.alloc (.cells #[.pointer (some ⟨c, 0, none⟩)] 67)) w1 from (Two.of_keeps (Keeps.refl _).drew).trans hd.two)
  have S1 := Lib.hid (show CQ 36 (w.alloc (.cells #[.pointer (some ⟨c, 0, none⟩)] 67)) c q dk (#[.int .i64 k, .string (str u.name), .int .i64 u.index, .int .i64 u.count, .int .i64 u.from_, .bool u.flag, .int .i64 u.bat.base, .int .i64 u.bat.span, .int .i64 u.bat.prod, .int .i64 u.bat.epoch, .int .i64 u.bat.seq, lv, .int .i64 u.filter.op, .string (str u.filter.name), .string (str u.filter.value), kv, .string (str u.group), .int .i64 u.member, .int .i64 u.gen, tv] : Array Value) w1 from ⟨S0.out.two.trans D1.out, hd.cb, hd.qb⟩)
  have hk1 := (HKB.out.two S1.out.two hkc hkq).cell 0 _ rfl
  have hwn1 := (HKB.out.two S1.out.two hkc hkq).lt
  clear hd
  go_wp2_with fail
  go_region_with (go_at_call 40; refine (K2.out _ (S1.out.cb.keeps (Keeps.refl _).drew) (S1.out.qb.keeps (Keeps.refl _).drew)).mono ?_; rintro e w2 ⟨rfl, hd⟩)
  have D2 := Lib.hid (show Two c q w1 w2 from (Two.of_keeps (Keeps.refl _).drew).trans hd.two)
  have S2 := Lib.hid (show CQ 36 (w.alloc (.cells #[.pointer (some ⟨c, 0, none⟩)] 67)) c q dnm (#[.int .i64 k, .string (str nm), .int .i64 u.index, .int .i64 u.count, .int .i64 u.from_, .bool u.flag, .int .i64 u.bat.base, .int .i64 u.bat.span, .int .i64 u.bat.prod, .int .i64 u.bat.epoch, .int .i64 u.bat.seq, lv, .int .i64 u.filter.op, .string (str u.filter.name), .string (str u.filter.value), kv, .string (str u.group), .int .i64 u.member, .int .i64 u.gen, tv] : Array Value) w2 from ⟨S1.out.two.trans D2.out, hd.cb, hd.qb⟩)
  have hk2 := (HKB.out.two S2.out.two hkc hkq).cell 0 _ rfl
  have hwn2 := (HKB.out.two S2.out.two hkc hkq).lt
  clear hd
  go_upto_region 3 with fail
  go_cut [] from 3 (fun wx => ∃ wn, wn = wx ∧ Two c q w2 wn ∧ CQ 36 (w.alloc (.cells #[.pointer (some ⟨c, 0, none⟩)] 67)) c q df (#[.int .i64 k, .string (str nm), .int .i64 i, .int .i64 n, .int .i64 f, .bool u.flag, .int .i64 u.bat.base, .int .i64 u.bat.span, .int .i64 u.bat.prod, .int .i64 u.bat.epoch, .int .i64 u.bat.seq, lv, .int .i64 u.filter.op, .string (str u.filter.name), .string (str u.filter.value), kv, .string (str u.group), .int .i64 u.member, .int .i64 u.gen, tv] : Array Value) wn)
  case first =>
    have hka3 := ((Keeps.refl w2).alloc (.cells #[.pointer (some ⟨q, 2, none⟩), .pointer (some ⟨q, 3, none⟩), .pointer (some ⟨q, 4, none⟩)] 100)).cell hk2
    have hkn3 : ¬ w.heap.size = w2.heap.size := by omega
    have HKA3 := Lib.hid ((Keeps.refl w2).alloc (.cells #[.pointer (some ⟨q, 2, none⟩), .pointer (some ⟨q, 3, none⟩), .pointer (some ⟨q, 4, none⟩)] 100)).drew
    have HBG3 := Lib.hid ((Blk.new w2 100 #[.pointer (some ⟨q, 2, none⟩), .pointer (some ⟨q, 3, none⟩), .pointer (some ⟨q, 4, none⟩)]).keeps (Keeps.refl _).drew)
    have HPL3 := Lib.hid (K3.out w2.heap.size _ (by omega) (by omega) (S2.out.cb.keeps HKA3.out) (S2.out.qb.keeps HKA3.out) HBG3.out)
    go_region_with (go_at_call 41; refine HPL3.out.mono ?_; rintro e w3 ⟨rfl, hd⟩)
    all_goals
      go_wp2_with fail
      go_meet
      exact ⟨_, rfl, (Two.of_keeps HKA3.out).trans hd.two, S2.out.two.trans ((Two.of_keeps HKA3.out).trans hd.two), hd.cb, hd.qb⟩
  case rest =>
  obtain ⟨w3, rfl, hcd, hcs⟩ := hcut
  have D3 := Lib.hid hcd
  have S3 := Lib.hid hcs
  have hk3 := (HKB.out.two S3.out.two hkc hkq).cell 0 _ rfl
  have hwn3 := (HKB.out.two S3.out.two hkc hkq).lt
  clear hcd hcs
  go_wp2_with fail
  go_region_with (go_at_call 42; refine (K4.out _ (S3.out.cb.keeps (Keeps.refl _).drew) (S3.out.qb.keeps (Keeps.refl _).drew)).mono ?_; rintro e w4 ⟨rfl, hd⟩)
  have D4 := Lib.hid (show Two c q w3 w4 from (Two.of_keeps (Keeps.refl _).drew).trans hd.two)
  have S4 := Lib.hid (show CQ 36 (w.alloc (.cells #[.pointer (some ⟨c, 0, none⟩)] 67)) c q dg (#[.int .i64 k, .string (str nm), .int .i64 i, .int .i64 n, .int .i64 f, .bool g, .int .i64 u.bat.base, .int .i64 u.bat.span, .int .i64 u.bat.prod, .int .i64 u.bat.epoch, .int .i64 u.bat.seq, lv, .int .i64 u.filter.op, .string (str u.filter.name), .string (str u.filter.value), kv, .string (str u.group), .int .i64 u.member, .int .i64 u.gen, tv] : Array Value) w4 from ⟨S3.out.two.trans D4.out, hd.cb, hd.qb⟩)
  have hk4 := (HKB.out.two S4.out.two hkc hkq).cell 0 _ rfl
  have hwn4 := (HKB.out.two S4.out.two hkc hkq).lt
  clear hd
  go_wp2_with fail
  have HRB := Lib.hid (RsIn.move (fun g hg hlt => ⟨hg, S4.out.two.block g hlt (HP1.out g hg).1 (HP1.out g hg).2⟩) Hlv0.out).drew
  have HTB := Lib.hid ((HTAB.out.two S4.out.two hcg hqg).keeps (Keeps.refl _).drew)
  go_region_with (go_at_call 43; refine (K5.out _ HRB.out HTB.out (S4.out.cb.keeps (Keeps.refl _).drew) (S4.out.qb.keeps (Keeps.refl _).drew)).mono ?_; rintro e w5 ⟨lv1, rfl, hd, hr⟩)
  have HLV5 := Lib.hid (RsIn.mono hr (T := fun g => P g ∨ w.heap.size ≤ g) (fun g hg => by rcases hg with hg | hg; exact hg; simp at hg; exact .inr (by omega)))
  have D5 := Lib.hid (show Two c q w4 w5 from (Two.of_keeps (Keeps.refl _).drew).trans hd.two)
  have S5 := Lib.hid (show CQ 36 (w.alloc (.cells #[.pointer (some ⟨c, 0, none⟩)] 67)) c q db (#[.int .i64 k, .string (str nm), .int .i64 i, .int .i64 n, .int .i64 f, .bool g, .int .i64 b.base, .int .i64 b.span, .int .i64 b.prod, .int .i64 b.epoch, .int .i64 b.seq, lv1, .int .i64 u.filter.op, .string (str u.filter.name), .string (str u.filter.value), kv, .string (str u.group), .int .i64 u.member, .int .i64 u.gen, tv] : Array Value) w5 from ⟨S4.out.two.trans D5.out, hd.cb, hd.qb⟩)
  have hk5 := (HKB.out.two S5.out.two hkc hkq).cell 0 _ rfl
  have hwn5 := (HKB.out.two S5.out.two hkc hkq).lt
  clear hd hr
  go_wp2_with fail
  have HKX := Lib.hid (KIn.move (fun g hg hlt => ⟨hg, S5.out.two.block g hlt (HP1.out g hg).1 (HP1.out g hg).2⟩) Hkv0.out)
  have HKX2 := Lib.hid (show KIn (fun g => P g ∨ w.heap.size ≤ g) w5.drew kv u.filter.kids from KIn.move (fun g hg hlt => ⟨hg, ((Keeps.refl _).drew : Keeps w5 _).block hlt⟩) HKX.out)
  go_region_with (go_at_call 44; refine (K6.out lv1 _ HKX2.out (S5.out.cb.keeps (Keeps.refl _).drew) (S5.out.qb.keeps (Keeps.refl _).drew)).mono ?_; rintro e w6 ⟨kv1, rfl, hd, hr⟩)
  have HKV6 := Lib.hid (KIn.move (T := fun g => P g ∨ w.heap.size ≤ g) (w' := w6) (fun g hg _ => ⟨by rcases hg with hg | hg; exact hg; simp at hg; exact .inr (by omega), rfl⟩) hr)
  have D6 := Lib.hid (show Two c q w5 w6 from (Two.of_keeps (Keeps.refl _).drew).trans hd.two)
  have S6 := Lib.hid (show CQ 36 (w.alloc (.cells #[.pointer (some ⟨c, 0, none⟩)] 67)) c q dx (#[.int .i64 k, .string (str nm), .int .i64 i, .int .i64 n, .int .i64 f, .bool g, .int .i64 b.base, .int .i64 b.span, .int .i64 b.prod, .int .i64 b.epoch, .int .i64 b.seq, lv1, .int .i64 x.op, .string (str x.name), .string (str x.value), kv1, .string (str u.group), .int .i64 u.member, .int .i64 u.gen, tv] : Array Value) w6 from ⟨S5.out.two.trans D6.out, hd.cb, hd.qb⟩)
  have hk6 := (HKB.out.two S6.out.two hkc hkq).cell 0 _ rfl
  have hwn6 := (HKB.out.two S6.out.two hkc hkq).lt
  clear hd hr
  go_wp2_with fail
  go_region_with (go_at_call 40; refine (K7.out lv1 kv1 _ (S6.out.cb.keeps (Keeps.refl _).drew) (S6.out.qb.keeps (Keeps.refl _).drew)).mono ?_; rintro e w7 ⟨rfl, hd⟩)
  have D7 := Lib.hid (show Two c q w6 w7 from (Two.of_keeps (Keeps.refl _).drew).trans hd.two)
  have S7 := Lib.hid (show CQ 36 (w.alloc (.cells #[.pointer (some ⟨c, 0, none⟩)] 67)) c q dgr (#[.int .i64 k, .string (str nm), .int .i64 i, .int .i64 n, .int .i64 f, .bool g, .int .i64 b.base, .int .i64 b.span, .int .i64 b.prod, .int .i64 b.epoch, .int .i64 b.seq, lv1, .int .i64 x.op, .string (str x.name), .string (str x.value), kv1, .string (str gr), .int .i64 u.member, .int .i64 u.gen, tv] : Array Value) w7 from ⟨S6.out.two.trans D7.out, hd.cb, hd.qb⟩)
  have hk7 := (HKB.out.two S7.out.two hkc hkq).cell 0 _ rfl
  have hwn7 := (HKB.out.two S7.out.two hkc hkq).lt
  clear hd
  go_upto_region 8 with fail
  go_cut [] from 3 (fun wx => ∃ wn, wn = wx ∧ Two c q w7 wn ∧ CQ 36 (w.alloc (.cells #[.pointer (some ⟨c, 0, none⟩)] 67)) c q dge (#[.int .i64 k, .string (str nm), .int .i64 i, .int .i64 n, .int .i64 f, .bool g, .int .i64 b.base, .int .i64 b.span, .int .i64 b.prod, .int .i64 b.epoch, .int .i64 b.seq, lv1, .int .i64 x.op, .string (str x.name), .string (str x.value), kv1, .string (str gr), .int .i64 m, .int .i64 ge, tv] : Array Value) wn)
  case first =>
    have hka8 := ((Keeps.refl w7).alloc (.cells #[.pointer (some ⟨q, 17, none⟩), .pointer (some ⟨q, 18, none⟩)] 100)).cell hk7
    have hkn8 : ¬ w.heap.size = w7.heap.size := by omega
    have HKA8 := Lib.hid ((Keeps.refl w7).alloc (.cells #[.pointer (some ⟨q, 17, none⟩), .pointer (some ⟨q, 18, none⟩)] 100)).drew
    have HBG8 := Lib.hid ((Blk.new w7 100 #[.pointer (some ⟨q, 17, none⟩), .pointer (some ⟨q, 18, none⟩)]).keeps (Keeps.refl _).drew)
    have HPL8 := Lib.hid (K8.out lv1 kv1 w7.heap.size _ (by omega) (by omega) (S7.out.cb.keeps HKA8.out) (S7.out.qb.keeps HKA8.out) HBG8.out)
    go_region_with (go_at_call 41; refine HPL8.out.mono ?_; rintro e w8 ⟨rfl, hd⟩)
    all_goals
      go_wp2_with fail
      go_meet
      exact ⟨_, rfl, (Two.of_keeps HKA8.out).trans hd.two, S7.out.two.trans ((Two.of_keeps HKA8.out).trans hd.two), hd.cb, hd.qb⟩
  case rest =>
  obtain ⟨w8, rfl, hcd, hcs⟩ := hcut
  have D8 := Lib.hid hcd
  have S8 := Lib.hid hcs
  have hk8 := (HKB.out.two S8.out.two hkc hkq).cell 0 _ rfl
  have hwn8 := (HKB.out.two S8.out.two hkc hkq).lt
  clear hcd hcs
  go_wp2_with fail
  have HFT := Lib.hid (show Fl 1 tcell (fun g => P g ∨ w.heap.size ≤ g) w8.drew tv u.topics from Fl.move (fun g hg hlt => ⟨hg, (((Keeps.refl _).drew : Keeps w8 _).block (Nat.lt_of_lt_of_le hlt S8.out.two.size)).trans (S8.out.two.block g hlt (HP1.out g hg).1 (HP1.out g hg).2)⟩) (fun x => ⟨_, rfl⟩) Htv0.out)
  have HKB8 := Lib.hid ((HKB.out.two S8.out.two hkc hkq).keeps (Keeps.refl _).drew)
  go_region_with (go_at_call 45; refine (K9.out lv1 kv1 _ HKB8.out HFT.out (S8.out.cb.keeps (Keeps.refl _).drew) (S8.out.qb.keeps (Keeps.refl _).drew)).mono ?_; rintro e w9 ⟨tv1, rfl, hd, hr⟩)
  all_goals
    have HTV9 := Lib.hid (Fl.move (T := fun g => P g ∨ w.heap.size ≤ g) (w' := w9) (fun g hg _ => ⟨by rcases hg with hg | hg; exact hg; simp at hg; exact .inr (by omega), rfl⟩) (fun x => ⟨_, rfl⟩) hr)
    have D9 := Lib.hid (show Two c q w8 w9 from (Two.of_keeps (Keeps.refl _).drew).trans hd.two)
    have S9 := Lib.hid (show CQ 36 (w.alloc (.cells #[.pointer (some ⟨c, 0, none⟩)] 67)) c q dt (#[.int .i64 k, .string (str nm), .int .i64 i, .int .i64 n, .int .i64 f, .bool g, .int .i64 b.base, .int .i64 b.span, .int .i64 b.prod, .int .i64 b.epoch, .int .i64 b.seq, lv1, .int .i64 x.op, .string (str x.name), .string (str x.value), kv1, .string (str gr), .int .i64 m, .int .i64 ge, tv1] : Array Value) w9 from ⟨S8.out.two.trans D9.out, hd.cb, hd.qb⟩)
    have hk9 := (HKB.out.two S9.out.two hkc hkq).cell 0 _ rfl
    have hwn9 := (HKB.out.two S9.out.two hkc hkq).lt
    clear hd hr
    go_wp2_with fail
    go_end0
    exact ⟨lv1, kv1, tv1, rfl, ⟨(Two.of_keeps HAL.out).trans S9.out.two, S9.out.cb, S9.out.qb⟩, RsIn.move (fun g hg hlt => ⟨hg, (((D6.out.trans D7.out).trans D8.out).trans D9.out).block g hlt (HP1.out g hg).1 (HP1.out g hg).2⟩) HLV5.out, KIn.move (fun g hg hlt => ⟨hg, ((D7.out.trans D8.out).trans D9.out).block g hlt (HP1.out g hg).1 (HP1.out g hg).2⟩) HKV6.out, HTV9.out⟩
end Go.Proofs.YtamiebojjinhcaaGreatDoor

namespace Go.Proofs.YtamiebojjinhcaaGreatDoor
open Go.RowKit

namespace Cs
theorem Fine.eachW {α : Type} {f : Cs → α → α × Cs} {K : Nat} {Q : α → Prop} (hf : ∀ A c x, Q x → Fine A c → Fine (A + K) (f c x).2) : ∀ (xs : List α) {A : Nat} {c : Cs}, (∀ x ∈ xs, Q x) → Fine A c → Fine (A + xs.length * K) (Cs.eachW f c xs)
  | [], A, c, _, h => h.mono (by simp)
  | x :: xs, A, c, hq, h => by
    rw [Cs.eachW]
    split
    · exact h.mono (by omega)
    · exact (Fine.eachW hf xs (fun y hy => hq y (by simp [hy])) (hf A c x (hq x (by simp)) h)).mono (by rw [List.length_cons, Nat.add_mul]; omega)
theorem Fine.eachR {α : Type} {f : Cs → α → α × Cs} {z : α} {K : Nat} {Q : α → Prop} (hf : ∀ A c x, Q x → Fine A c → Fine (A + K) (f c x).2) (hr : ∀ c x, (f c x).2.reads = c.reads) (hz : Q z) {B : Nat} : ∀ (k : Nat) {A : Nat} {c : Cs}, c.reads = true → Fine A c → Fine B (Cs.eachR f z k c).2
  | 0, A, c, hc, h => h.of_reads hc
  | k + 1, A, c, hc, h => by
    rw [Cs.eachR]
    split
    · exact h.of_reads hc
    · exact Fine.eachR hf hr hz k (by rw [hr]; exact hc) (hf A c z hz h)
theorem Fine.list {α : Type} {f : Cs → α → α × Cs} {z : α} {K : Nat} {Q : α → Prop} (hf : ∀ A c x, Q x → Fine A c → Fine (A + K) (f c x).2) (hr : ∀ c x, (f c x).2.reads = c.reads) {A : Nat} {c : Cs} (h : Fine A c) (most : Nat) (xs : List α) (hz : Q z) (hq : ∀ x ∈ xs, Q x) :
    Fine (A + 10 + most * K) (Cs.list (most : Int) f z c xs).2 := by
  unfold Cs.list
  by_cases hc : c.reads = true
  · rw [if_pos hc]
    exact Fine.eachR hf hr hz _ (by rw [num_reads]; exact hc) (h.num 0 (most : Int) xs.length).1
  · rw [if_neg hc]
    have h1 := (h.num 0 (most : Int) xs.length).1
    by_cases hb : (Cs.num 0 (most : Int) c (xs.length : Int)).2.bad = true
    · show Fine _ (Cs.eachW f _ xs)
      rw [eachW_skip f hb]
      exact h1.mono (by omega)
    · have hl : xs.length ≤ most := by
        cases c with
        | rd l st => exact absurd rfl hc
        | wr s bd =>
          have hb : ¬ (bd || !(decide (0 ≤ (xs.length : Int)) && decide ((xs.length : Int) ≤ (most : Int)))) = true := hb
          simp at hb
          omega
      exact (Fine.eachW hf xs hq h1).mono (by have := Nat.mul_le_mul_right K hl; omega)
end Cs

/-- its cells -/
def repCells (u : Rep) (bv tv pv : Value) : Array Value := #[.int .i64 u.err, .int .i64 u.at_, .int .i64 u.start, .int .i64 u.end_, .int .i64 u.member, .int .i64 u.gen, .int .i64 u.leader, bv, tv, pv]
/-- what the codec's rep leaves -/
def repDid (w : World) (c q : Nat) (P : Nat → Prop) (cs : Cs) (u : Rep) (e : Ending) (w' : World) : Prop :=
  ∃ bv tv pv, e = .returned (.tuple #[]) ∧ CQ 61 w c q cs (repCells u bv tv pv) w' ∧ BsIn (fun g => P g ∨ w.heap.size ≤ g) w' bv u.bats ∧ Fl 2 ncell (fun g => P g ∨ w.heap.size ≤ g) w' tv u.topics ∧ Fl 2 ncell (fun g => P g ∨ w.heap.size ≤ g) w' pv u.parts

end Go.Proofs.YtamiebojjinhcaaGreatDoor
