/-
  The codec's reply: the walk.
-/
import Derived.Test.YtgbnpehpfadehaaGreatDoorCdLB
import Derived.Test.YtgbnpehpfadehaaGreatDoorCdReq
import Derived.Deep.Cut
import Derived.Deep.CutBlock
import Derived.Deep.DeepCutAuto
import Derived.Deep.RegionWith
set_option linter.unusedVariables false
namespace Go.Proofs.YtgbnpehpfadehaaGreatDoor
open Go.RowKit

theorem cd_listT (B : Nat) (hB : B ≤ 2 ^ 57) (cs : Cs) (hf : cs.Fine B) (most : Nat) (hmost : most ≤ 500) (xs : List (List UInt8 × Int)) (hxs : ∀ x ∈ xs, x.1.length ≤ 2 ^ 48 ∧ -9223372036854775808 ≤ x.2 ∧ x.2 ≤ 9223372036854775807) (v : Value) (P : Nat → Prop) (c q o k : Nat) (hP : ∀ g, P g → g ≠ c ∧ g ≠ q) (Tq Tk : TypeId) (qs : Array Value) (ho : qs[o]? = some v) (hcq : c ≠ q) (hkc : k ≠ c) (hkq : k ≠ q) (w : World)
    (hv : Fl 2 ncell P w v xs) (hrd : cs.reads = true → xs = [] ∧ v = .slice none 0 0) (hc : Blk w c 81 cs.cells) (hq : Blk w q Tq qs) (hk : Blk w k Tk #[.pointer (some ⟨c, 0, none⟩)]) :
    Calls Tryz.prog 55 #[.pointer (some ⟨c, 0, none⟩), .pointer (some ⟨q, o, none⟩), .int .i64 (most : Nat), .func (.func 56) #[] #[.pointer (some ⟨k, 0, none⟩)]] w
      (ListDid 2 ncell Tq w c q P (cs.list (most : Int) Cs.nt ([], 0) xs).2 qs o (cs.list (most : Int) Cs.nt ([], 0) xs).1) := by
  cases cs with
  | rd l st =>
    obtain ⟨rfl, rfl⟩ := hrd rfl
    exact cd_listT_rd l st hf.1 hf.2 most hmost c q o k Tq Tk qs ho hcq hkc hkq w hc hq hk P
  | wr s bd => exact cd_listT_wr B hB s bd hf most hmost xs hxs v P c q o k hP Tq Tk qs ho hcq hkc hkq w hv hc hq hk

theorem cd_listP (B : Nat) (hB : B ≤ 2 ^ 57) (cs : Cs) (hf : cs.Fine B) (most : Nat) (hmost : most ≤ 500) (xs : List (List UInt8 × Int)) (hxs : ∀ x ∈ xs, x.1.length ≤ 2 ^ 48 ∧ -9223372036854775808 ≤ x.2 ∧ x.2 ≤ 9223372036854775807) (v : Value) (P : Nat → Prop) (c q o k : Nat) (hP : ∀ g, P g → g ≠ c ∧ g ≠ q) (Tq Tk : TypeId) (qs : Array Value) (ho : qs[o]? = some v) (hcq : c ≠ q) (hkc : k ≠ c) (hkq : k ≠ q) (w : World)
    (hv : Fl 2 ncell P w v xs) (hrd : cs.reads = true → xs = [] ∧ v = .slice none 0 0) (hc : Blk w c 81 cs.cells) (hq : Blk w q Tq qs) (hk : Blk w k Tk #[.pointer (some ⟨c, 0, none⟩)]) :
    Calls Tryz.prog 57 #[.pointer (some ⟨c, 0, none⟩), .pointer (some ⟨q, o, none⟩), .int .i64 (most : Nat), .func (.func 58) #[] #[.pointer (some ⟨k, 0, none⟩)]] w
      (ListDid 2 ncell Tq w c q P (cs.list (most : Int) Cs.nt ([], 0) xs).2 qs o (cs.list (most : Int) Cs.nt ([], 0) xs).1) := by
  cases cs with
  | rd l st =>
    obtain ⟨rfl, rfl⟩ := hrd rfl
    exact cd_listP_rd l st hf.1 hf.2 most hmost c q o k Tq Tk qs ho hcq hkc hkq w hc hq hk P
  | wr s bd => exact cd_listP_wr B hB s bd hf most hmost xs hxs v P c q o k hP Tq Tk qs ho hcq hkc hkq w hv hc hq hk

theorem cd_listB (B : Nat) (hB : B ≤ 2 ^ 57) (cs : Cs) (hf : cs.Fine B) (most : Nat) (hmost : most ≤ 500) (xs : List Bat) (v : Value) (P : Nat → Prop) (c q o k : Nat) (hP : ∀ g, P g → g ≠ c ∧ g ≠ q) (Tq Tk : TypeId) (qs : Array Value) (ho : qs[o]? = some v) (hcq : c ≠ q) (hkc : k ≠ c) (hkq : k ≠ q) (w : World)
    (hv : BsIn P w v xs) (hrd : cs.reads = true → xs = [] ∧ v = .slice none 0 0) (hc : Blk w c 81 cs.cells) (hq : Blk w q Tq qs) (hk : Blk w k Tk #[.pointer (some ⟨c, 0, none⟩)]) (ht : Tab w) (hcg : c ≠ 0) (hqg : q ≠ 0) :
    Calls Tryz.prog 53 #[.pointer (some ⟨c, 0, none⟩), .pointer (some ⟨q, o, none⟩), .int .i64 (most : Nat), .func (.func 54) #[] #[.pointer (some ⟨k, 0, none⟩)]] w
      (ListDidB Tq w c q P (cs.list (most : Int) (Cs.bat false) Bat.none xs).2 qs o (cs.list (most : Int) (Cs.bat false) Bat.none xs).1) := by
  cases cs with
  | rd l st =>
    obtain ⟨rfl, rfl⟩ := hrd rfl
    exact cd_listB_rd l st hf.1 hf.2 most hmost c q o k Tq Tk qs ho hcq hkc hkq w hc hq hk ht hcg hqg P
  | wr s bd => exact cd_listB_wr B hB s bd hf most hmost xs v P c q o k hP Tq Tk qs ho hcq hkc hkq w hv hc hq hk ht hcg hqg

namespace Cs
theorem Fine.eachW {α : Type} {f : Cs → α → α × Cs} {K : Nat} {Q : α → Prop} (hf : ∀ A c x, Q x → Fine A c → Fine (A + K) (f c x).2) : ∀ (xs : List α) {A : Nat} {c : Cs}, (∀ x ∈ xs, Q x) → Fine A c → Fine (A + xs.length * K) (Cs.eachW f c xs)
  | [], A, c, _, h => h.mono (by simp)
  | x :: xs, A, c, hq, h => by
    rw [Cs.eachW]
    split
    · exact h.mono (by omega)
    · exact (Fine.eachW hf xs (fun y hy => hq y (by simp [hy])) (hf A c x (hq x (by simp)) h)).mono (by rw [List.length_cons, Nat.add_mul]; omega)
theorem Fine.eachR {α : Type} {f : Cs → α → α × Cs} {z : α} {K : Nat} {Q : α → Prop} (hf : ∀ A c x, Q x → Fine A c → Fine (A + K) (f c x).2) (hr : ∀ c x, (f c x).2.reads = c.reads) (hz : Q z) {B : Nat} : ∀ (k : Nat) {A : Nat} {c : Cs}, c.reads = true → Fine A c → Fine B (Cs.eachR f z k c).2
  | 0, A, c, hc, h => h.of_reads hc
  | k + 1, A, c, hc, h => by
    rw [Cs.eachR]
    split
    · exact h.of_reads hc
    · exact Fine.eachR hf hr hz k (by rw [hr]; exact hc) (hf A c z hz h)
theorem Fine.list {α : Type} {f : Cs → α → α × Cs} {z : α} {K : Nat} {Q : α → Prop} (hf : ∀ A c x, Q x → Fine A c → Fine (A + K) (f c x).2) (hr : ∀ c x, (f c x).2.reads = c.reads) {A : Nat} {c : Cs} (h : Fine A c) (most : Nat) (xs : List α) (hz : Q z) (hq : ∀ x ∈ xs, Q x) :
    Fine (A + 10 + most * K) (Cs.list (most : Int) f z c xs).2 := by
  unfold Cs.list
  by_cases hc : c.reads = true
  · rw [if_pos hc]
    exact Fine.eachR hf hr hz _ (by rw [num_reads]; exact hc) (h.num 0 (most : Int) xs.length).1
  · rw [if_neg hc]
    have h1 := (h.num 0 (most : Int) xs.length).1
    by_cases hb : (Cs.num 0 (most : Int) c (xs.length : Int)).2.bad = true
    · show Fine _ (Cs.eachW f _ xs)
      rw [eachW_skip f hb]
      exact h1.mono (by omega)
    · have hl : xs.length ≤ most := by
        cases c with
        | rd l st => exact absurd rfl hc
        | wr s bd =>
          have hb : ¬ (bd || !(decide (0 ≤ (xs.length : Int)) && decide ((xs.length : Int) ≤ (most : Int)))) = true := hb
          simp at hb
          omega
      exact (Fine.eachW hf xs hq h1).mono (by have := Nat.mul_le_mul_right K hl; omega)
theorem eachR_reads {α : Type} {f : Cs → α → α × Cs} {z : α} (hr : ∀ c x, (f c x).2.reads = c.reads) : ∀ (k : Nat) (c : Cs), (eachR f z k c).2.reads = c.reads
  | 0, c => rfl
  | k + 1, c => by
    rw [Cs.eachR]
    split
    · rfl
    · show (eachR f z k _).2.reads = _
      rw [eachR_reads hr k, hr]
theorem eachW_reads {α : Type} {f : Cs → α → α × Cs} (hr : ∀ c x, (f c x).2.reads = c.reads) : ∀ (xs : List α) (c : Cs), (eachW f c xs).reads = c.reads
  | [], c => rfl
  | x :: xs, c => by
    rw [Cs.eachW]
    split
    · rfl
    · rw [eachW_reads hr xs, hr]
theorem list_reads {α : Type} {f : Cs → α → α × Cs} {z : α} (hr : ∀ c x, (f c x).2.reads = c.reads) (most : Int) (c : Cs) (xs : List α) : (list most f z c xs).2.reads = c.reads := by
  unfold Cs.list
  split
  · rw [eachR_reads hr, num_reads]
  · show (eachW f _ xs).reads = _
    rw [eachW_reads hr, num_reads]
end Cs

/-- its cells -/
def repCells (u : Rep) (bv tv pv : Value) : Array Value := #[.int .i64 u.err, .int .i64 u.at_, .int .i64 u.start, .int .i64 u.end_, .int .i64 u.member, .int .i64 u.gen, .int .i64 u.leader, bv, tv, pv]
/-- what the codec's rep leaves -/
def repDid (w : World) (c q : Nat) (P : Nat → Prop) (cs : Cs) (u : Rep) (e : Ending) (w' : World) : Prop :=
  ∃ bv tv pv, e = .returned (.tuple #[]) ∧ CQ 51 w c q cs (repCells u bv tv pv) w' ∧ BsIn (fun g => P g ∨ w.heap.size ≤ g) w' bv u.bats ∧ Fl 2 ncell (fun g => P g ∨ w.heap.size ≤ g) w' tv u.topics ∧ Fl 2 ncell (fun g => P g ∨ w.heap.size ≤ g) w' pv u.parts

set_option maxRecDepth 8000 in
set_option maxHeartbeats 2000000 in
theorem cd_rep (B : Nat) (hB : B ≤ 2 ^ 55) (cs : Cs) (hf : cs.Fine B) (u : Rep) (hb : ((-9223372036854775808 ≤ u.err ∧ u.err ≤ 9223372036854775807) ∧ (-9223372036854775808 ≤ u.at_ ∧ u.at_ ≤ 9223372036854775807) ∧ (-9223372036854775808 ≤ u.start ∧ u.start ≤ 9223372036854775807) ∧ (-9223372036854775808 ≤ u.end_ ∧ u.end_ ≤ 9223372036854775807) ∧ (-9223372036854775808 ≤ u.member ∧ u.member ≤ 9223372036854775807) ∧ (-9223372036854775808 ≤ u.gen ∧ u.gen ≤ 9223372036854775807) ∧ (-9223372036854775808 ≤ u.leader ∧ u.leader ≤ 9223372036854775807)) ∧ (∀ x ∈ u.topics, x.1.length ≤ 2 ^ 48 ∧ -9223372036854775808 ≤ x.2 ∧ x.2 ≤ 9223372036854775807) ∧ ∀ x ∈ u.parts, x.1.length ≤ 2 ^ 48 ∧ -9223372036854775808 ≤ x.2 ∧ x.2 ≤ 9223372036854775807) (bv tv pv : Value) (P : Nat → Prop) (c q : Nat) (hP : ∀ g, P g → g ≠ c ∧ g ≠ q) (hcq : c ≠ q) (w : World)
    (hbv : BsIn P w bv u.bats) (htv : Fl 2 ncell P w tv u.topics) (hpv : Fl 2 ncell P w pv u.parts) (hrd : cs.reads = true → u = Rep.none ∧ bv = .slice none 0 0 ∧ tv = .slice none 0 0 ∧ pv = .slice none 0 0) (ht : Tab w) (hcg : c ≠ 0) (hqg : q ≠ 0)
    (hc : Blk w c 81 cs.cells) (hq : Blk w q 51 (repCells u bv tv pv)) :
    Calls Tryz.prog 28 #[.pointer (some ⟨c, 0, none⟩), .pointer (some ⟨q, 0, none⟩)] w (repDid w c q P (cs.rep u).2 (cs.rep u).1) := by
  have hclt := hc.lt
  have hqlt := hq.lt
  have hP1 : ∀ g, (P g ∨ w.heap.size ≤ g) → g ≠ c ∧ g ≠ q := fun g h => by
    rcases h with h | h
    · exact hP g h
    · omega
  have HP1 := Lib.hid hP1
  have hqc : ¬ q = c := fun e => hcq e.symm
  have hkc : w.heap.size ≠ c := by omega
  have hkq : w.heap.size ≠ q := by omega
  have HAL := Lib.hid ((Keeps.refl w).alloc (.cells #[.pointer (some ⟨c, 0, none⟩)] 57))
  have HKB := Lib.hid (Blk.new w 57 #[.pointer (some ⟨c, 0, none⟩)])
  have HTAB := Lib.hid (ht.keeps HAL.out)
  have hcell0 := (Blk.new w 57 #[.pointer (some ⟨c, 0, none⟩)]).cell 0 _ rfl
  have Hbv0 := Lib.hid (show BsIn (fun g => P g ∨ w.heap.size ≤ g) (w.alloc (.cells #[.pointer (some ⟨c, 0, none⟩)] 57)) bv u.bats from BsIn.move (fun g hg hlt => ⟨.inl hg, HAL.out.block hlt⟩) hbv)
  have Htv0 := Lib.hid (show Fl 2 ncell (fun g => P g ∨ w.heap.size ≤ g) (w.alloc (.cells #[.pointer (some ⟨c, 0, none⟩)] 57)) tv u.topics from Fl.move (fun g hg hlt => ⟨.inl hg, HAL.out.block hlt⟩) (fun x => ⟨_, rfl⟩) htv)
  have Hpv0 := Lib.hid (show Fl 2 ncell (fun g => P g ∨ w.heap.size ≤ g) (w.alloc (.cells #[.pointer (some ⟨c, 0, none⟩)] 57)) pv u.parts from Fl.move (fun g hg hlt => ⟨.inl hg, HAL.out.block hlt⟩) (fun x => ⟨_, rfl⟩) hpv)
  obtain ⟨⟨a, da⟩, ea⟩ : ∃ r, cs.num 0 14 u.err = r := ⟨_, rfl⟩
  obtain ⟨⟨b, db⟩, eb⟩ : ∃ r, da.plain u.at_ = r := ⟨_, rfl⟩
  obtain ⟨⟨s, ds⟩, es⟩ : ∃ r, db.plain u.start = r := ⟨_, rfl⟩
  obtain ⟨⟨d, dd⟩, ed⟩ : ∃ r, ds.plain u.end_ = r := ⟨_, rfl⟩
  obtain ⟨⟨m, dm⟩, em⟩ : ∃ r, dd.plain u.member = r := ⟨_, rfl⟩
  obtain ⟨⟨f, df⟩, ef⟩ : ∃ r, dm.plain u.gen = r := ⟨_, rfl⟩
  obtain ⟨⟨g, dg⟩, eg⟩ : ∃ r, df.plain u.leader = r := ⟨_, rfl⟩
  obtain ⟨⟨h, dh⟩, eh⟩ : ∃ r, dg.list 500 (Cs.bat false) Bat.none u.bats = r := ⟨_, rfl⟩
  obtain ⟨⟨i, di⟩, ei⟩ : ∃ r, dh.list 20 Cs.nt ([], 0) u.topics = r := ⟨_, rfl⟩
  obtain ⟨⟨j, dj⟩, ej⟩ : ∃ r, di.list 400 Cs.nt ([], 0) u.parts = r := ⟨_, rfl⟩
  have hres : cs.rep u = (⟨a, b, s, d, m, f, g, h, i, j⟩, dj) := by unfold Cs.rep; simp only [ea, eb, es, ed, em, ef, eg, eh, ei, ej]
  rw [hres]
  have hfcs : cs.Fine (B + 0) := hf.mono (by omega)
  have hrcs : cs.reads = cs.reads := rfl
  have hfda : da.Fine (B + 20) := by
    have h := (hfcs.num 0 14 u.err).1
    rw [ea] at h
    exact Cs.Fine.mono h (by omega)
  have hrda : da.reads = cs.reads := by
    have h := Cs.num_reads 0 14 cs u.err
    rw [ea] at h
    exact h.trans hrcs
  have hfdb : db.Fine (B + 40) := by
    have h := hfda.plain u.at_
    rw [eb] at h
    exact Cs.Fine.mono h (by omega)
  have hrdb : db.reads = cs.reads := by
    have h := Cs.plain_reads da u.at_
    rw [eb] at h
    exact h.trans hrda
  have hfds : ds.Fine (B + 60) := by
    have h := hfdb.plain u.start
    rw [es] at h
    exact Cs.Fine.mono h (by omega)
  have hrds : ds.reads = cs.reads := by
    have h := Cs.plain_reads db u.start
    rw [es] at h
    exact h.trans hrdb
  have hfdd : dd.Fine (B + 80) := by
    have h := hfds.plain u.end_
    rw [ed] at h
    exact Cs.Fine.mono h (by omega)
  have hrdd : dd.reads = cs.reads := by
    have h := Cs.plain_reads ds u.end_
    rw [ed] at h
    exact h.trans hrds
  have hfdm : dm.Fine (B + 100) := by
    have h := hfdd.plain u.member
    rw [em] at h
    exact Cs.Fine.mono h (by omega)
  have hrdm : dm.reads = cs.reads := by
    have h := Cs.plain_reads dd u.member
    rw [em] at h
    exact h.trans hrdd
  have hfdf : df.Fine (B + 120) := by
    have h := hfdm.plain u.gen
    rw [ef] at h
    exact Cs.Fine.mono h (by omega)
  have hrdf : df.reads = cs.reads := by
    have h := Cs.plain_reads dm u.gen
    rw [ef] at h
    exact h.trans hrdm
  have hfdg : dg.Fine (B + 140) := by
    have h := hfdf.plain u.leader
    rw [eg] at h
    exact Cs.Fine.mono h (by omega)
  have hrdg : dg.reads = cs.reads := by
    have h := Cs.plain_reads df u.leader
    rw [eg] at h
    exact h.trans hrdf
  have hfdh : dh.Fine (B + 64000000) := by
    have h := Cs.Fine.list (f := (Cs.bat false)) (z := Bat.none) (K := 60018) (Q := (fun _ => True)) (fun A c x hx h => (h.bat false x)) (fun c x => (Cs.bat_reads false c x)) hfdg 500 u.bats trivial (fun _ _ => trivial)
    rw [show ((500 : Nat) : Int) = 500 from rfl, eh] at h
    exact Cs.Fine.mono h (by omega)
  have hrdh : dh.reads = cs.reads := by
    have h := Cs.list_reads (f := (Cs.bat false)) (z := Bat.none) (fun c x => (Cs.bat_reads false c x)) 500 dg u.bats
    rw [eh] at h
    exact h.trans hrdg
  have hfdi : di.Fine (B + 9007199254740992) := by
    have h := Cs.Fine.list (f := Cs.nt) (z := ([], 0)) (K := 281474976710700) (Q := (fun x => x.1.length ≤ 2 ^ 48)) (fun A c x hx h => ((h.nt x).mono (by omega))) (fun c x => (Cs.nt_reads c x)) hfdh 20 u.topics (by simp) (fun x hx => (hb.2.1 x hx).1)
    rw [show ((20 : Nat) : Int) = 20 from rfl, ei] at h
    exact Cs.Fine.mono h (by omega)
  have hrdi : di.reads = cs.reads := by
    have h := Cs.list_reads (f := Cs.nt) (z := ([], 0)) (fun c x => (Cs.nt_reads c x)) 20 dh u.topics
    rw [ei] at h
    exact h.trans hrdh
  have K1 := fun w' hc hn => cd_num (B + 0) (by omega) cs hfcs 0 14 u.err hb.1.1 c (w.heap.size + 1) 0 3 #[.int .i64 u.err] rfl (by omega) w' hc hn
  simp only [ea] at K1
  have K1 := Lib.hid K1
  have K2 := fun pg w' h1 h2 hc hq hg => cd_plain (B + 20) (by omega) da hfda [(1, u.at_), (2, u.start), (3, u.end_), (4, u.member), (5, u.gen), (6, u.leader)] (by simp) (fun y hy => by simp at hy; rcases hy with rfl | rfl | rfl | rfl | rfl | rfl; exact hb.1.2.1; exact hb.1.2.2.1; exact hb.1.2.2.2.1; exact hb.1.2.2.2.2.1; exact hb.1.2.2.2.2.2.1; exact hb.1.2.2.2.2.2.2) (by simp) c q pg 51 84 #[.int .i64 a, .int .i64 u.at_, .int .i64 u.start, .int .i64 u.end_, .int .i64 u.member, .int .i64 u.gen, .int .i64 u.leader, bv, tv, pv] (fun y hy => by simp at hy; rcases hy with rfl | rfl | rfl | rfl | rfl | rfl <;> rfl) hcq h1 h2 6 rfl w' hc hq hg
  simp only [plains, eb, es, ed, em, ef, eg] at K2
  have K2 := Lib.hid K2
  have K3 := fun w' ht hk hv hc hq => cd_listB (B + 140) (by omega) dg hfdg 500 (by decide) u.bats bv (fun g => P g ∨ w.heap.size ≤ g) c q 7 w.heap.size HP1.out 51 57 #[.int .i64 a, .int .i64 b, .int .i64 s, .int .i64 d, .int .i64 m, .int .i64 f, .int .i64 g, bv, tv, pv] rfl hcq hkc hkq w' hv (fun h => by obtain ⟨rfl, rfl, -⟩ := hrd (hrdg ▸ h); exact ⟨rfl, rfl⟩) hc hq hk ht hcg hqg
  simp only [show ((500 : Nat) : Int) = 500 from rfl, eh] at K3
  have K3 := Lib.hid K3
  have K4 := fun bv1 w' hk hv hc hq => cd_listT (B + 64000000) (by omega) dh hfdh 20 (by decide) u.topics hb.2.1 tv (fun g => P g ∨ w.heap.size ≤ g) c q 8 w.heap.size HP1.out 51 57 #[.int .i64 a, .int .i64 b, .int .i64 s, .int .i64 d, .int .i64 m, .int .i64 f, .int .i64 g, bv1, tv, pv] rfl hcq hkc hkq w' hv (fun h => by obtain ⟨rfl, -, rfl, -⟩ := hrd (hrdh ▸ h); exact ⟨rfl, rfl⟩) hc hq hk
  simp only [show ((20 : Nat) : Int) = 20 from rfl, ei] at K4
  have K4 := Lib.hid K4
  have K5 := fun bv1 tv1 w' hk hv hc hq => cd_listP (B + 9007199254740992) (by omega) di hfdi 400 (by decide) u.parts hb.2.2 pv (fun g => P g ∨ w.heap.size ≤ g) c q 9 w.heap.size HP1.out 51 57 #[.int .i64 a, .int .i64 b, .int .i64 s, .int .i64 d, .int .i64 m, .int .i64 f, .int .i64 g, bv1, tv1, pv] rfl hcq hkc hkq w' hv (fun h => by obtain ⟨rfl, -, -, rfl⟩ := hrd (hrdi ▸ h); exact ⟨rfl, rfl⟩) hc hq hk
  simp only [show ((400 : Nat) : Int) = 400 from rfl, ej] at K5
  have K5 := Lib.hid K5
  have HC := Lib.hid hc
  have HQ := Lib.hid hq
  have S0 := Lib.hid (show CQ 51 (w.alloc (.cells #[.pointer (some ⟨c, 0, none⟩)] 57)) c q cs (#[.int .i64 u.err, .int .i64 u.at_, .int .i64 u.start, .int .i64 u.end_, .int .i64 u.member, .int .i64 u.gen, .int .i64 u.leader, bv, tv, pv] : Array Value) (w.alloc (.cells #[.pointer (some ⟨c, 0, none⟩)] 57)) from ⟨Two.refl _ _ _, hc.keeps HAL.out, hq.keeps HAL.out⟩)
  clear hres hfcs hrcs ea hfda hrda eb hfdb hrdb es hfds hrds ed hfdd hrdd em hfdm hrdm ef hfdf hrdf eg hfdg hrdg eh hfdh hrdh ei hfdi hrdi ej hc hq hf hb hP hP1 hrd ht hB hbv htv hpv
  go_enter Tryz.func28, Tryz.ntmps28
  have HWB := Lib.hid ((Keeps.refl (w.alloc (.cells #[.pointer (some ⟨c, 0, none⟩)] 57))).alloc (.cells #[.int .i64 u.err] 3))
  have HEB := Lib.hid (show Blk ((w.alloc (.cells #[.pointer (some ⟨c, 0, none⟩)] 57)).alloc (.cells #[.int .i64 u.err] 3)) (w.heap.size + 1) 3 #[.int .i64 u.err] from by have h := Blk.new (w.alloc (.cells #[.pointer (some ⟨c, 0, none⟩)] 57)) 3 #[.int .i64 u.err]; rw [World.size_alloc] at h; exact h)
  have hk0 := HWB.out.cell hcell0
  have hkn0 : ¬ w.heap.size = w.heap.size + 1 := by omega
  have hq00 := S0.out.qb.cell 0 _ rfl
  go_wp2_with fail
  refine (K1.out _ (S0.out.cb.keeps HWB.out) HEB.out).mono ?_
  rintro e w1 ⟨rfl, hd⟩
  have he1 : w1.cell? ⟨w.heap.size + 1, 0, none⟩ = some (.int .i64 a) := hd.qb.cell 0 _ rfl
  have hq1 := (S0.out.qb.keeps HWB.out).two hd.two hqc (by omega)
  have hqc1 := hq1.cell 0 _ rfl
  have hqf1 := hq1.frozen 0
  have hon := hd.two.only (Only.of_keeps (b := c) HWB.out) (by simp)
  have S1 := Lib.hid (show CQ 51 (w.alloc (.cells #[.pointer (some ⟨c, 0, none⟩)] 57)) c q da (#[.int .i64 a, .int .i64 u.at_, .int .i64 u.start, .int .i64 u.end_, .int .i64 u.member, .int .i64 u.gen, .int .i64 u.leader, bv, tv, pv] : Array Value) (w1.setCell ⟨q, 0, none⟩ (.int .i64 a)) from ⟨(Two.of_only hon).set2 0 _, hd.cb.other ⟨q, 0, none⟩ hcq _, hq1.set 0 (.int .i64 a)⟩)
  have hk1 := (HKB.out.two S1.out.two hkc hkq).cell 0 _ rfl
  have hwn1 := (HKB.out.two S1.out.two hkc hkq).lt
  clear hd hq1 hon hk0 hkn0 hq00
  go_upto_region 4 with fail
  go_cut [] from 3 (fun wx => ∃ wn, wn = wx ∧ CQ 51 (w.alloc (.cells #[.pointer (some ⟨c, 0, none⟩)] 57)) c q dg (#[.int .i64 a, .int .i64 b, .int .i64 s, .int .i64 d, .int .i64 m, .int .i64 f, .int .i64 g, bv, tv, pv] : Array Value) wn)
  case first =>
    have hka2 := ((Keeps.refl (w1.setCell ⟨q, 0, none⟩ (.int .i64 a))).alloc (.cells #[.pointer (some ⟨q, 1, none⟩), .pointer (some ⟨q, 2, none⟩), .pointer (some ⟨q, 3, none⟩), .pointer (some ⟨q, 4, none⟩), .pointer (some ⟨q, 5, none⟩), .pointer (some ⟨q, 6, none⟩)] 84)).cell hk1
    have hkn2 : ¬ w.heap.size = (w1.setCell ⟨q, 0, none⟩ (.int .i64 a)).heap.size := by omega
    have HKA2 := Lib.hid ((Keeps.refl (w1.setCell ⟨q, 0, none⟩ (.int .i64 a))).alloc (.cells #[.pointer (some ⟨q, 1, none⟩), .pointer (some ⟨q, 2, none⟩), .pointer (some ⟨q, 3, none⟩), .pointer (some ⟨q, 4, none⟩), .pointer (some ⟨q, 5, none⟩), .pointer (some ⟨q, 6, none⟩)] 84)).drew
    have HBG2 := Lib.hid ((Blk.new (w1.setCell ⟨q, 0, none⟩ (.int .i64 a)) 84 #[.pointer (some ⟨q, 1, none⟩), .pointer (some ⟨q, 2, none⟩), .pointer (some ⟨q, 3, none⟩), .pointer (some ⟨q, 4, none⟩), .pointer (some ⟨q, 5, none⟩), .pointer (some ⟨q, 6, none⟩)]).keeps (Keeps.refl _).drew)
    have HPL2 := Lib.hid (K2.out (w1.setCell ⟨q, 0, none⟩ (.int .i64 a)).heap.size _ (by omega) (by omega) (S1.out.cb.keeps HKA2.out) (S1.out.qb.keeps HKA2.out) HBG2.out)
    generalize (w1.setCell ⟨q, 0, none⟩ (.int .i64 a)) = wz at *
    go_region_with (go_at_call 32; refine HPL2.out.mono ?_; rintro e w2 ⟨rfl, hd⟩)
    all_goals
      go_wp2_with fail
      go_meet
      exact ⟨_, rfl, S1.out.two.trans ((Two.of_keeps HKA2.out).trans hd.two), hd.cb, hd.qb⟩
  case rest =>
  obtain ⟨w2, rfl, hcs⟩ := hcut
  have S2 := Lib.hid hcs
  have hk2 := (HKB.out.two S2.out.two hkc hkq).cell 0 _ rfl
  have hwn2 := (HKB.out.two S2.out.two hkc hkq).lt
  clear hcs
  go_upto_region 5 with fail
  go_cut [] from 3 (fun wx => ∃ (v1 : Value) (wn : World), wn = wx ∧ Two c q w2 wn ∧ CQ 51 (w.alloc (.cells #[.pointer (some ⟨c, 0, none⟩)] 57)) c q dh (#[.int .i64 a, .int .i64 b, .int .i64 s, .int .i64 d, .int .i64 m, .int .i64 f, .int .i64 g, v1, tv, pv] : Array Value) wn ∧ BsIn (fun g => P g ∨ w.heap.size ≤ g) wn v1 h)
  case first =>
    have HV := Lib.hid (show BsIn (fun g => P g ∨ w.heap.size ≤ g) w2.drew bv u.bats from BsIn.move (fun g hg hlt => ⟨hg, (((Keeps.refl _).drew : Keeps w2 _).block (Nat.lt_of_lt_of_le hlt S2.out.two.size)).trans (S2.out.two.block g hlt (HP1.out g hg).1 (HP1.out g hg).2)⟩) Hbv0.out)
    have HKB8 := Lib.hid ((HKB.out.two S2.out.two hkc hkq).keeps (Keeps.refl _).drew)
    have HTB := Lib.hid ((HTAB.out.two S2.out.two hcg hqg).keeps (Keeps.refl _).drew)
    go_region_with (go_at_call 53; refine (K3.out _ HTB.out HKB8.out HV.out (S2.out.cb.keeps (Keeps.refl _).drew) (S2.out.qb.keeps (Keeps.refl _).drew)).mono ?_; rintro e w3 ⟨v1, rfl, hd, hr⟩)
    all_goals
      have HV1 := Lib.hid (show BsIn (fun g => P g ∨ w.heap.size ≤ g) w3 v1 h from BsIn.move (fun g hg _ => ⟨by rcases hg with hg | hg; exact hg; simp at hg; exact .inr (by omega), rfl⟩) hr)
      have HD := Lib.hid hd
      clear hd hr
      go_wp2_with fail
      go_meet
      exact ⟨v1, _, rfl, (Two.of_keeps (Keeps.refl _).drew).trans HD.out.two, ⟨S2.out.two.trans ((Two.of_keeps (Keeps.refl _).drew).trans HD.out.two), HD.out.cb, HD.out.qb⟩, HV1.out⟩
  case rest =>
  obtain ⟨bv1, w3, rfl, hcd, hcs, hcv⟩ := hcut
  have D3 := Lib.hid hcd
  have S3 := Lib.hid hcs
  have V3 := Lib.hid hcv
  have hk3 := (HKB.out.two S3.out.two hkc hkq).cell 0 _ rfl
  have hwn3 := (HKB.out.two S3.out.two hkc hkq).lt
  clear hcd hcs hcv
  go_upto_region 6 with fail
  go_cut [] from 3 (fun wx => ∃ (v1 : Value) (wn : World), wn = wx ∧ Two c q w3 wn ∧ CQ 51 (w.alloc (.cells #[.pointer (some ⟨c, 0, none⟩)] 57)) c q di (#[.int .i64 a, .int .i64 b, .int .i64 s, .int .i64 d, .int .i64 m, .int .i64 f, .int .i64 g, bv1, v1, pv] : Array Value) wn ∧ Fl 2 ncell (fun g => P g ∨ w.heap.size ≤ g) wn v1 i)
  case first =>
    have HV := Lib.hid (show Fl 2 ncell (fun g => P g ∨ w.heap.size ≤ g) w3.drew tv u.topics from Fl.move (fun g hg hlt => ⟨hg, (((Keeps.refl _).drew : Keeps w3 _).block (Nat.lt_of_lt_of_le hlt S3.out.two.size)).trans (S3.out.two.block g hlt (HP1.out g hg).1 (HP1.out g hg).2)⟩) (fun x => ⟨_, rfl⟩) Htv0.out)
    have HKB8 := Lib.hid ((HKB.out.two S3.out.two hkc hkq).keeps (Keeps.refl _).drew)
    go_region_with (go_at_call 55; refine (K4.out bv1 _ HKB8.out HV.out (S3.out.cb.keeps (Keeps.refl _).drew) (S3.out.qb.keeps (Keeps.refl _).drew)).mono ?_; rintro e w4 ⟨v1, rfl, hd, hr⟩)
    all_goals
      have HV1 := Lib.hid (show Fl 2 ncell (fun g => P g ∨ w.heap.size ≤ g) w4 v1 i from Fl.move (fun g hg _ => ⟨by rcases hg with hg | hg; exact hg; simp at hg; exact .inr (by omega), rfl⟩) (fun x => ⟨_, rfl⟩) hr)
      have HD := Lib.hid hd
      clear hd hr
      go_wp2_with fail
      go_meet
      exact ⟨v1, _, rfl, (Two.of_keeps (Keeps.refl _).drew).trans HD.out.two, ⟨S3.out.two.trans ((Two.of_keeps (Keeps.refl _).drew).trans HD.out.two), HD.out.cb, HD.out.qb⟩, HV1.out⟩
  case rest =>
  obtain ⟨tv1, w4, rfl, hcd, hcs, hcv⟩ := hcut
  have D4 := Lib.hid hcd
  have S4 := Lib.hid hcs
  have V4 := Lib.hid hcv
  have hk4 := (HKB.out.two S4.out.two hkc hkq).cell 0 _ rfl
  have hwn4 := (HKB.out.two S4.out.two hkc hkq).lt
  clear hcd hcs hcv
  go_wp2_with fail
  have HV := Lib.hid (show Fl 2 ncell (fun g => P g ∨ w.heap.size ≤ g) w4.drew pv u.parts from Fl.move (fun g hg hlt => ⟨hg, (((Keeps.refl _).drew : Keeps w4 _).block (Nat.lt_of_lt_of_le hlt S4.out.two.size)).trans (S4.out.two.block g hlt (HP1.out g hg).1 (HP1.out g hg).2)⟩) (fun x => ⟨_, rfl⟩) Hpv0.out)
  have HKB8 := Lib.hid ((HKB.out.two S4.out.two hkc hkq).keeps (Keeps.refl _).drew)
  go_region_with (go_at_call 57; refine (K5.out bv1 tv1 _ HKB8.out HV.out (S4.out.cb.keeps (Keeps.refl _).drew) (S4.out.qb.keeps (Keeps.refl _).drew)).mono ?_; rintro e w5 ⟨pv1, rfl, hd, hr⟩)
  all_goals
    have HV5 := Lib.hid (Fl.move (T := fun g => P g ∨ w.heap.size ≤ g) (w' := w5) (fun g hg _ => ⟨by rcases hg with hg | hg; exact hg; simp at hg; exact .inr (by omega), rfl⟩) (fun x => ⟨_, rfl⟩) hr)
    have D5 := Lib.hid (show Two c q w4 w5 from (Two.of_keeps (Keeps.refl _).drew).trans hd.two)
    have S5 := Lib.hid (show CQ 51 (w.alloc (.cells #[.pointer (some ⟨c, 0, none⟩)] 57)) c q dj (#[.int .i64 a, .int .i64 b, .int .i64 s, .int .i64 d, .int .i64 m, .int .i64 f, .int .i64 g, bv1, tv1, pv1] : Array Value) w5 from ⟨S4.out.two.trans D5.out, hd.cb, hd.qb⟩)
    clear hd hr
    go_wp2_with fail
    go_end0
    exact ⟨bv1, tv1, pv1, rfl, ⟨(Two.of_keeps HAL.out).trans S5.out.two, S5.out.cb, S5.out.qb⟩, BsIn.move (fun g hg hlt => ⟨hg, (D4.out.trans D5.out).block g hlt (HP1.out g hg).1 (HP1.out g hg).2⟩) V3.out, Fl.move (fun g hg hlt => ⟨hg, D5.out.block g hlt (HP1.out g hg).1 (HP1.out g hg).2⟩) (fun x => ⟨_, rfl⟩) V4.out, HV5.out⟩
end Go.Proofs.YtgbnpehpfadehaaGreatDoor
