/-
  The closures that go through a list's things: the walks.
  The codec's lists: an append at a step of a drawn region; where the loops stand.
-/
import Derived.Test.YtgbnpehpfadehaaGreatDoorCdX
import Derived.Deep.AppendLies
import Derived.Deep.RegionLaw
set_option linter.unusedVariables false
namespace Go.Proofs.YtgbnpehpfadehaaGreatDoor
open Go.RowKit

set_option maxRecDepth 4000 in
set_option maxHeartbeats 800000 in
theorem cl_txt (B : Nat) (hB : B ≤ 2 ^ 60) (cs : Cs) (hf : cs.Fine B) (t : List UInt8) (ht : t.length ≤ 2 ^ 60) (c q k : Nat) (Tq Tk : TypeId) (hcq : c ≠ q) (w : World)
    (hc : Blk w c 81 cs.cells) (hq : Blk w q Tq #[.string (str t)]) (hk : Blk w k Tk #[.pointer (some ⟨c, 0, none⟩)]) :
    Calls Tryz.prog 37 #[.pointer (some ⟨q, 0, none⟩), .pointer (some ⟨k, 0, none⟩)] w (Did Tq w c q (cs.txt 100 t).2 #[.string (str (cs.txt 100 t).1)]) := by
  have hk0 := hk.cell 0 _ rfl
  have TX := Lib.hid (cd_txt B (by omega) cs hf 100 t ht c q 0 Tq #[.string (str t)] rfl hcq w hc hq)
  clear hc hq hk hf ht
  go_enter Tryz.func37, Tryz.ntmps37
  go_wp2_with fail
  refine TX.out.mono ?_
  rintro e w1 ⟨rfl, hd⟩
  go_wp2_with fail
  go_end0
  exact ⟨rfl, hd⟩

set_option maxRecDepth 4000 in
set_option maxHeartbeats 800000 in
theorem cl_bat (B : Nat) (hB : B ≤ 2 ^ 60) (cs : Cs) (hf : cs.Fine B) (b : Bat) (lv : Value) (P : Nat → Prop) (c q k : Nat) (Tk : TypeId) (hP : ∀ g, P g → g ≠ c ∧ g ≠ q) (Tq : TypeId) (hcq : c ≠ q) (w : World)
    (hrs : RsIn P w lv b.recs) (hrd : cs.reads = true → b = Bat.none ∧ lv = .slice none 0 0) (ht : Tab w) (hcg : c ≠ 0) (hqg : q ≠ 0)
    (hc : Blk w c 81 cs.cells) (hq : Blk w q Tq (bcell (b, lv)).toArray) (hk : Blk w k Tk #[.pointer (some ⟨c, 0, none⟩)]) :
    Calls Tryz.prog 54 #[.pointer (some ⟨q, 0, none⟩), .pointer (some ⟨k, 0, none⟩)] w (BatDid Tq w c q P (cs.bat false b).2 (bcell (b, lv)).toArray 0 (cs.bat false b).1) := by
  have hk0 := hk.cell 0 _ rfl
  have TX := Lib.hid (cd_bat B hB cs hf false b lv P c q 0 hP Tq (bcell (b, lv)).toArray ⟨rfl, rfl, rfl, rfl, rfl, rfl⟩ hcq w hrs hrd ht hcg hqg hc hq)
  clear hc hq hk hf ht hrs hP hrd
  go_enter Tryz.func54, Tryz.ntmps54
  go_wp2_with fail
  refine TX.out.mono ?_
  rintro e w1 ⟨lv', rfl, hd, hr⟩
  go_wp2_with fail
  go_end0
  exact ⟨lv', rfl, hd, hr⟩

set_option maxRecDepth 4000 in
set_option maxHeartbeats 800000 in
theorem cl_nt2 (B : Nat) (hB : B ≤ 2 ^ 59) (cs : Cs) (hf : cs.Fine B) (x : List UInt8 × Int) (ht : x.1.length ≤ 2 ^ 58) (hn : -9223372036854775808 ≤ x.2 ∧ x.2 ≤ 9223372036854775807) (c q k : Nat) (Tq Tk : TypeId) (hcq : c ≠ q) (w : World)
    (hc : Blk w c 81 cs.cells) (hq : Blk w q Tq (ncell x).toArray) (hk : Blk w k Tk #[.pointer (some ⟨c, 0, none⟩)]) (hkc : k ≠ c) (hkq : k ≠ q) :
    Calls Tryz.prog 56 #[.pointer (some ⟨q, 0, none⟩), .pointer (some ⟨k, 0, none⟩)] w (Did Tq w c q (cs.nt x).2 (ncell (cs.nt x).1).toArray) := by
  obtain ⟨t, n⟩ := x
  have ht : t.length ≤ 288230376151711744 := ht
  have hB' : B ≤ 576460752303423488 := hB
  have hn : -9223372036854775808 ≤ n ∧ n ≤ 9223372036854775807 := hn
  have hk0 := hk.cell 0 _ rfl
  have HK := Lib.hid hk
  have TX := Lib.hid (fun w' hc hq => cd_txt B (show B ≤ 2305843009213693952 by omega) cs hf 100 t (show t.length ≤ 1152921504606846976 by omega) c q 0 Tq #[.string (str t), .int .i64 n] rfl hcq w' hc hq)
  have hf2 := hf.txt 100 t
  have hclt := hc.lt
  have hqlt := hq.lt
  have hklt := hk.lt
  have PL := Lib.hid (fun g w' (h1 : g ≠ c) (h2 : g ≠ q) hc hq hg => cd_plain (B + 10 + t.length) (show B + 10 + t.length ≤ 1152921504606846976 by omega) (cs.txt 100 t).2 hf2 [(1, n)] (by simp) (fun y hy => by simp at hy; subst hy; exact hn) (by simp) c q g Tq 84 #[.string (str (cs.txt 100 t).1), .int .i64 n] (fun y hy => by simp at hy; subst hy; rfl) hcq h1 h2 1 rfl w' hc hq hg)
  have HC := Lib.hid hc
  have HQ := Lib.hid hq
  clear hc hq hk hf ht hf2 hn
  go_enter Tryz.func56, Tryz.ntmps56
  go_wp2_with fail
  go_region_with (go_at_call 31; refine (TX.out _ (HC.out.keeps (Keeps.refl _).drew) (HQ.out.keeps (Keeps.refl _).drew)).mono ?_; rintro e w1 ⟨rfl, hd⟩)
  all_goals
    have hk1 := ((HK.out.keeps (Keeps.refl _).drew).two hd.two hkc hkq).cell 0 _ rfl
    have HC1 := Lib.hid hd.cb
    have HQ1 := Lib.hid hd.qb
    have HT1 := Lib.hid ((Two.of_keeps (b := c) (q := q) (Keeps.refl w).drew).trans hd.two)
    have hs1 := hd.two.size
    have hs1' : w.heap.size ≤ w1.heap.size := by simpa using hs1
    have HKA := Lib.hid ((Keeps.refl w1).alloc (.cells #[.pointer (some ⟨q, 1, none⟩)] 84)).drew
    have HBG := Lib.hid ((Blk.new w1 84 #[.pointer (some ⟨q, 1, none⟩)]).keeps (Keeps.refl _).drew)
    have HPL := Lib.hid (PL.out w1.heap.size _ (by omega) (by omega) (HC1.out.keeps HKA.out) (HQ1.out.keeps HKA.out) HBG.out)
    have hk2 := ((Keeps.refl w1).alloc (.cells #[.pointer (some ⟨q, 1, none⟩)] 84)).cell hk1
    have hk3 : ¬ k = w1.heap.size := by omega
    clear hd hs1
    go_wp2_with fail
    go_region_with (go_at_call 32; refine HPL.out.mono ?_; rintro e w2 ⟨rfl, hd⟩)
    all_goals
      go_wp2_with fail
      go_end0
      exact ⟨rfl, (HT1.out.trans (Two.of_keeps HKA.out)).trans hd.two, hd.cb, hd.qb⟩

set_option maxRecDepth 4000 in
set_option maxHeartbeats 800000 in
theorem cl_nt3 (B : Nat) (hB : B ≤ 2 ^ 59) (cs : Cs) (hf : cs.Fine B) (x : List UInt8 × Int) (ht : x.1.length ≤ 2 ^ 58) (hn : -9223372036854775808 ≤ x.2 ∧ x.2 ≤ 9223372036854775807) (c q k : Nat) (Tq Tk : TypeId) (hcq : c ≠ q) (w : World)
    (hc : Blk w c 81 cs.cells) (hq : Blk w q Tq (ncell x).toArray) (hk : Blk w k Tk #[.pointer (some ⟨c, 0, none⟩)]) (hkc : k ≠ c) (hkq : k ≠ q) :
    Calls Tryz.prog 58 #[.pointer (some ⟨q, 0, none⟩), .pointer (some ⟨k, 0, none⟩)] w (Did Tq w c q (cs.nt x).2 (ncell (cs.nt x).1).toArray) := by
  obtain ⟨t, n⟩ := x
  have ht : t.length ≤ 288230376151711744 := ht
  have hB' : B ≤ 576460752303423488 := hB
  have hn : -9223372036854775808 ≤ n ∧ n ≤ 9223372036854775807 := hn
  have hk0 := hk.cell 0 _ rfl
  have HK := Lib.hid hk
  have TX := Lib.hid (fun w' hc hq => cd_txt B (show B ≤ 2305843009213693952 by omega) cs hf 100 t (show t.length ≤ 1152921504606846976 by omega) c q 0 Tq #[.string (str t), .int .i64 n] rfl hcq w' hc hq)
  have hf2 := hf.txt 100 t
  have hclt := hc.lt
  have hqlt := hq.lt
  have hklt := hk.lt
  have PL := Lib.hid (fun g w' (h1 : g ≠ c) (h2 : g ≠ q) hc hq hg => cd_plain (B + 10 + t.length) (show B + 10 + t.length ≤ 1152921504606846976 by omega) (cs.txt 100 t).2 hf2 [(1, n)] (by simp) (fun y hy => by simp at hy; subst hy; exact hn) (by simp) c q g Tq 84 #[.string (str (cs.txt 100 t).1), .int .i64 n] (fun y hy => by simp at hy; subst hy; rfl) hcq h1 h2 1 rfl w' hc hq hg)
  have HC := Lib.hid hc
  have HQ := Lib.hid hq
  clear hc hq hk hf ht hf2 hn
  go_enter Tryz.func58, Tryz.ntmps58
  go_wp2_with fail
  go_region_with (go_at_call 31; refine (TX.out _ (HC.out.keeps (Keeps.refl _).drew) (HQ.out.keeps (Keeps.refl _).drew)).mono ?_; rintro e w1 ⟨rfl, hd⟩)
  all_goals
    have hk1 := ((HK.out.keeps (Keeps.refl _).drew).two hd.two hkc hkq).cell 0 _ rfl
    have HC1 := Lib.hid hd.cb
    have HQ1 := Lib.hid hd.qb
    have HT1 := Lib.hid ((Two.of_keeps (b := c) (q := q) (Keeps.refl w).drew).trans hd.two)
    have hs1 := hd.two.size
    have hs1' : w.heap.size ≤ w1.heap.size := by simpa using hs1
    have HKA := Lib.hid ((Keeps.refl w1).alloc (.cells #[.pointer (some ⟨q, 1, none⟩)] 84)).drew
    have HBG := Lib.hid ((Blk.new w1 84 #[.pointer (some ⟨q, 1, none⟩)]).keeps (Keeps.refl _).drew)
    have HPL := Lib.hid (PL.out w1.heap.size _ (by omega) (by omega) (HC1.out.keeps HKA.out) (HQ1.out.keeps HKA.out) HBG.out)
    have hk2 := ((Keeps.refl w1).alloc (.cells #[.pointer (some ⟨q, 1, none⟩)] 84)).cell hk1
    have hk3 : ¬ k = w1.heap.size := by omega
    clear hd hs1
    go_wp2_with fail
    go_region_with (go_at_call 32; refine HPL.out.mono ?_; rintro e w2 ⟨rfl, hd⟩)
    all_goals
      go_wp2_with fail
      go_end0
      exact ⟨rfl, (HT1.out.trans (Two.of_keeps HKA.out)).trans hd.two, hd.cb, hd.qb⟩
end Go.Proofs.YtgbnpehpfadehaaGreatDoor

namespace Go.Proofs.YtgbnpehpfadehaaGreatDoor
open Go.RowKit

/-- an append to a slice of the call's own, at a step of a region that draws its order -/
theorem step_append_own {P : Program} {ops : Array Oper} {o : Oper} {a : Act} {w : World} {K : Act → World → Prop} {Q : Exit → Act → World → Prop} {E : Prop} (hgd : o.guard = none) (s x : Operand) (t xt : TypeId)
    (ho : o.op = .call { callee := .builtin .append, args := #[s, x], argTypes := #[t, xt] })
    (base : Nat) (e : TypeId) (i : TypeInfo) (z : Value) (size bytes : Nat) (ht : P.underlying t = some (.slice e)) (hxt : ∃ u, P.underlying xt = some u ∧ (∀ k, u ≠ .int k)) (hi : P.info? e = some i) (hz : i.zero = some z)
    (hsize : i.size = size) (hby : i.bytes = bytes) (hzs : z.cells.size = size) (hsz : 0 < size)
    (v : Value) (n : Nat) (xs : List Value) (hs : a.eval s = v) (hown : Own w base size v n xs)
    (xv : Value) (m : Nat) (news : List Value) (hx : a.eval x = xv) (hf : Feeds P w size xv m news)
    (h63 : n + m ≤ maxLen) (hbytes : (n + m) * bytes ≤ 140737488355328) (hbase : base ≤ w.heap.size)
    (h : ∀ v' w', Own w' base size v' (n + m) (xs ++ news) → w.grownBy w' v.ownBlock → (∀ k, v'.ownBlock = some k → v.ownBlock = some k ∨ w.heap.size ≤ k) → K (a.put o.dst v') w') :
    if Region.wanted o (yielded ops a.tmps) = true then Oper.wp P o a w K Q else E := by
  have hw : Region.wanted o (yielded ops a.tmps) = true := by simp [Region.wanted, hgd]
  rw [if_pos hw]
  obtain ⟨v', w', hr, h2, h3, h4⟩ := run_append_new (P := P) w base t xt o.type e i z size bytes ht hxt hi hz hsize hby hzs hsz v n xs hown xv m news hf h63 hbytes hbase
  unfold Oper.wp execOp
  simp only [ho, resolve, invoke, builtin, Sem.run_bind, Sem.run_pure, Result.andThen_ok, List.map_toArray, List.map_cons, List.map_nil, hs, hx, hr]
  exact h v' w' h2 h3 h4

theorem Cs.cells_eq (cs : Cs) : ∃ s a, cs.cells = cdc s a cs.reads cs.bad := by
  cases cs with
  | rd l st => exact ⟨_, _, rfl⟩
  | wr s b => exact ⟨_, _, rfl⟩
theorem Blk.cs {w : World} {c : Nat} {T : TypeId} {cs : Cs} (h : Blk w c T cs.cells) : w.cell? ⟨c, 2, none⟩ = some (.bool cs.reads) ∧ w.cell? ⟨c, 3, none⟩ = some (.bool cs.bad) := by
  obtain ⟨s, a, e⟩ := cs.cells_eq
  rw [e] at h
  exact ⟨h.cdc.1.2.2.1, h.cdc.1.2.2.2⟩
/-- what the things of a list point to -/
structure Kin (α : Type) where
  E : α → (Nat → Prop) → World → Prop
  mv : ∀ (x : α) (S T : Nat → Prop) (w w' : World), (∀ g, S g → g < w.heap.size → T g ∧ w'.heap[g]? = w.heap[g]?) → E x S w → E x T w'
def Kin.none (α : Type) : Kin α := ⟨fun _ _ _ => True, fun _ _ _ _ _ _ _ => trivial⟩
def Kin.bat : Kin (Bat × Value) := ⟨fun x S w => RsIn S w x.2 x.1.recs, fun x S T w w' hm h => h.move hm⟩
/-- where the reading loop stands -/
structure LR {α : Type} (size : Nat) (f : α → List Value) (K : Kin α) (Tq : TypeId) (w : World) (c q o : Nat) (m : Int) (qs : Array Value) (csj : Cs) (dl : List α) (vo : Value) (wr : World) : Prop where
  cq : CQ Tq w c q csj (qs.setIfInBounds o vo) wr
  own : Own wr (w.heap.size + 1) size vo dl.length (dl.flatMap f)
  old : ∀ g, vo.ownBlock = some g → g < wr.heap.size
  nb : Blk wr w.heap.size 3 #[.int .i64 m]
  kin : ∀ (i : Nat) (x : α), dl[i]? = some x → K.E x (fun g => w.heap.size + 1 ≤ g ∧ vo.ownBlock ≠ some g) wr
theorem setset (qs : Array Value) (o : Nat) (u v : Value) : (qs.setIfInBounds o u).setIfInBounds o v = qs.setIfInBounds o v := by
  apply Array.ext
  · simp
  · intro i h1 h2
    by_cases hij : o = i
    · subst hij
      rw [Array.getElem_setIfInBounds_self, Array.getElem_setIfInBounds_self]
    · rw [Array.getElem_setIfInBounds_ne _ hij, Array.getElem_setIfInBounds_ne _ hij, Array.getElem_setIfInBounds_ne _ hij]
      all_goals simpa using h2
theorem LR.next {α : Type} {size : Nat} {f : α → List Value} {K : Kin α} {Tq : TypeId} {w : World} {c q o : Nat} {m : Int} {qs : Array Value} {csj csj' : Cs} {dl : List α} {vo vo' : Value} {wr w2 w3 w4 : World} (hf : ∀ x, (f x).length = size) (hsz : 0 < size)
    (h : LR size f K Tq w c q o m qs csj dl vo wr) (hc : c < w.heap.size) (hq : q < w.heap.size) (hcq : c ≠ q) (ho : Only c wr w2) (hcb : Blk w2 c 81 csj'.cells) (hk : Keeps w2 w3) {x : α} (hE : K.E x (fun g => wr.heap.size + 1 ≤ g) w2)
    (hown : Own w4 (w.heap.size + 1) size vo' (dl.length + 1) (dl.flatMap f ++ f x)) (hg : w3.grownBy w4 vo.ownBlock) (hnew : ∀ k, vo'.ownBlock = some k → vo.ownBlock = some k ∨ w3.heap.size ≤ k) :
    LR size f K Tq w c q o m qs csj' (dl ++ [x]) vo' (w4.setCell ⟨q, o, none⟩ vo') := by
  have hbase : ∀ g, vo.ownBlock = some g → w.heap.size + 1 ≤ g := fun g hg => h.own.base g hg
  have hs0 := h.cq.two.size
  have hs1 := World.grownBy.size ho
  have hs2 := hk.size
  have hs3 := hg.size
  have hnlt := h.nb.lt
  have ho3 : Only c wr w3 := ho.trans (Only.of_keeps hk)
  have blk : ∀ i, i < wr.heap.size → i ≠ c → i ≠ q → vo.ownBlock ≠ some i → (w4.setCell ⟨q, o, none⟩ vo').heap[i]? = wr.heap[i]? := fun i hi hc hq ho' => by
    rw [Below.heap_setCell _ _ _ _ hq, hg.block i (by omega) (fun e => ho' e.symm)]
    exact World.grownBy.block ho3 i hi (fun e => hc (Option.some.inj e))
  have ncw : vo.ownBlock ≠ some c := fun e => by have := hbase c e; omega
  have nqw : vo.ownBlock ≠ some q := fun e => by have := hbase q e; omega
  refine ⟨⟨⟨?_, ?_, ?_, ?_, ?_⟩, ?_, ?_⟩, ?_, ?_, ?_, ?_⟩
  · exact (hg.os.trans (World.grownBy.os ho3)).trans h.cq.two.os
  · exact (hg.tape.trans (World.grownBy.tape ho3)).trans h.cq.two.tape
  · exact (hg.output.trans (World.grownBy.output ho3)).trans h.cq.two.output
  · simp only [World.setCell, Array.size_modify]; omega
  · intro i hi hc' hq'
    rw [blk i (by omega) hc' hq' (fun e => by have := hbase i e; omega)]
    exact h.cq.two.block i hi hc' hq'
  · exact ((hcb.keeps hk).grown hg (fun e => ncw e.symm)).other ⟨q, o, none⟩ hcq _
  · have h1 : Blk w4 q Tq (qs.setIfInBounds o vo) := ((h.cq.qb.grown ho (fun e => hcq (Option.some.inj e).symm)).keeps hk).grown hg (fun e => nqw e.symm)
    have h2 := h1.set o vo'
    rw [setset] at h2
    exact h2
  · have h1 := hown.other ⟨q, o, none⟩ (by show q < _; omega) vo'
    rw [List.length_append, List.flatMap_append]
    simpa using h1
  · intro g hg'
    obtain ⟨g', cap, rfl, _, hl, _⟩ := Own.form hown hsz (by omega)
    simp [Value.ownBlock] at hg'
    simp only [World.setCell, Array.size_modify]; omega
  · refine (((h.nb.grown ho (fun e => ?_)).keeps hk).grown hg (fun e => ?_)).other ⟨q, o, none⟩ (by show w.heap.size ≠ q; omega) _
    · have := Option.some.inj e; omega
    · have := hbase _ e.symm; omega
  · intro i y hi
    rw [List.getElem?_append] at hi
    have fresh : ∀ g, vo'.ownBlock = some g → vo.ownBlock ≠ some g → w3.heap.size ≤ g := fun g e1 e2 => (hnew g e1).resolve_left e2
    split at hi
    · refine K.mv y _ _ _ _ (fun g hg' hlt => ⟨⟨hg'.1, fun e => ?_⟩, blk g hlt (by omega) (by omega) hg'.2⟩) (h.kin i y hi)
      have := fresh g e hg'.2; omega
    · rename_i hil
      obtain ⟨h1, h2⟩ := List.getElem?_eq_some_iff.1 hi
      simp at h1
      simp [show i - dl.length = 0 by omega] at h2
      subst h2
      refine K.mv x _ _ _ _ (fun g hg' hlt => ?_) hE
      have n2 : vo.ownBlock ≠ some g := fun e => by have := h.old g e; omega
      refine ⟨⟨by omega, fun e => ?_⟩, ?_⟩
      · have := fresh g e n2; omega
      · rw [Below.heap_setCell _ _ _ _ (by show g ≠ q; omega), hg.block g (by omega) (fun e => n2 e.symm)]
        exact hk.block hlt
theorem LR.start {α : Type} {size : Nat} {f : α → List Value} {K : Kin α} {Tq : TypeId} {w wr : World} {c q o : Nat} {m : Int} {qs : Array Value} {cs : Cs} (h : CQ Tq w c q cs (qs.setIfInBounds o (.slice none 0 0)) wr) (hn : Blk wr w.heap.size 3 #[.int .i64 m]) :
    LR size f K Tq w c q o m qs cs [] (.slice none 0 0) wr :=
  ⟨h, Own.nil _ _ _, fun g hg => by simp [Value.ownBlock] at hg, hn, fun i x hi => by simp at hi⟩
/-- how far the reading is -/
structure Far {α β : Type} (F : Cs → β → β × Cs) (z : β) (π : α → β) (M : Nat) (cs1 csj : Cs) (dl : List α) : Prop where
  le : dl.length ≤ M
  eq : Cs.eachR F z M cs1 = (dl.map π ++ (Cs.eachR F z (M - dl.length) csj).1, (Cs.eachR F z (M - dl.length) csj).2)
theorem Far.start {α β : Type} (F : Cs → β → β × Cs) (z : β) (π : α → β) (M : Nat) (cs1 : Cs) : Far F z π M cs1 cs1 ([] : List α) := ⟨Nat.zero_le _, by simp⟩
theorem Far.next {α β : Type} {F : Cs → β → β × Cs} {z : β} {π : α → β} {M : Nat} {cs1 csj : Cs} {dl : List α} (h : Far F z π M cs1 csj dl) (hlt : dl.length < M) (hb : csj.bad = false) {x : α} (hx : π x = (F csj z).1) : Far F z π M cs1 (F csj z).2 (dl ++ [x]) := by
  refine ⟨by simp; omega, ?_⟩
  rw [h.eq]
  obtain ⟨k, hk⟩ : ∃ k, M - dl.length = k + 1 := ⟨M - dl.length - 1, by omega⟩
  rw [hk, Cs.eachR, if_neg (by rw [hb]; decide)]
  have : M - (dl ++ [x]).length = k := by simp; omega
  rw [this]
  simp [hx]
theorem Far.stop {α β : Type} {F : Cs → β → β × Cs} {z : β} {π : α → β} {M : Nat} {cs1 csj : Cs} {dl : List α} (h : Far F z π M cs1 csj dl) (hs : M ≤ dl.length ∨ csj.bad = true) : Cs.eachR F z M cs1 = (dl.map π, csj) := by
  rw [h.eq]
  rcases hs with hs | hs
  · rw [show M - dl.length = 0 by omega]; simp [Cs.eachR]
  · rw [Cs.eachR_skip F z _ hs]; simp
/-- where the writing loop stands -/
structure LW (w : World) (c : Nat) (m : Int) (csj : Cs) (wr : World) : Prop where
  only : Only c w wr
  cb : Blk wr c 81 csj.cells
  nb : Blk wr w.heap.size 3 #[.int .i64 m]
/-- what the codec's list leaves -/
def ListDid {α : Type} (size : Nat) (f : α → List Value) (Tq : TypeId) (w : World) (c q : Nat) (P : Nat → Prop) (cs : Cs) (qs : Array Value) (o : Nat) (xs : List α) (e : Ending) (w' : World) : Prop :=
  ∃ v, e = .returned (.tuple #[]) ∧ CQ Tq w c q cs (qs.setIfInBounds o v) w' ∧ Fl size f (fun g => P g ∨ w.heap.size ≤ g) w' v xs
theorem Own.grown_only {w w' : World} {base size : Nat} {v : Value} {n : Nat} {xs : List Value} {c : Nat} (h : Own w base size v n xs) (k : Only c w w') (hc : c < base) : Own w' base size v n xs :=
  h.kept (fun g hg hlt => World.grownBy.block k g hlt (fun e => by have := h.base g hg; have := Option.some.inj e; omega))
theorem Feeds.newL {P : Program} (w : World) (t : TypeId) (xs : List Value) (hx : ∀ u ∈ xs, u.oneCell' = true) (c : Nat) : Feeds P (w.alloc (.cells xs.toArray t)) xs.length (.slice (some ⟨w.heap.size, 0, none⟩) 1 c) 1 xs := by
  refine Feeds.slice (by simp) (fun j z hj => ?_) hx
  rw [Go.WideShapes.add_plain, Nat.zero_add]
  exact cell_new w _ t j z (by simpa using hj)
theorem Feeds.newD {P : Program} (w : World) (t : TypeId) (xs : List Value) (hx : ∀ u ∈ xs, u.oneCell' = true) (c : Nat) : Feeds P (w.alloc (.cells xs.toArray t)).drew xs.length (.slice (some ⟨w.heap.size, 0, none⟩) 1 c) 1 xs := by
  refine Feeds.slice (by simp) (fun j z hj => ?_) hx
  rw [Go.WideShapes.add_plain, Nat.zero_add]
  exact (Keeps.refl (w.alloc (.cells xs.toArray t))).drew.cell (cell_new w _ t j z (by simpa using hj))
namespace Cs
theorem num_reads (lo hi : Int) (c : Cs) (n : Int) : (num lo hi c n).2.reads = c.reads := by cases c <;> rfl
theorem txt_reads (most : Int) (c : Cs) (t : List UInt8) : (txt most c t).2.reads = c.reads := by cases c <;> rfl
theorem bat_reads (opt : Bool) (c : Cs) (b : Bat) : (bat opt c b).2.reads = c.reads := by cases c <;> rfl
theorem flt_reads (c : Cs) (x : Tree) : (flt c x).2.reads = c.reads := by cases c <;> rfl
theorem nt_reads (c : Cs) (x : List UInt8 × Int) : (nt c x).2.reads = c.reads := by
  unfold nt plain; rw [num_reads, txt_reads]
theorem Fine.of_reads {A B : Nat} {c : Cs} (h : Fine A c) (hr : c.reads = true) : Fine B c := by
  cases c with
  | rd l st => exact h
  | wr s b => cases hr
theorem Fine.nt {B : Nat} {c : Cs} (h : Fine B c) (x : List UInt8 × Int) : Fine (B + 20 + x.1.length) (Cs.nt c x).2 :=
  (((h.txt 100 x.1).num (-1) 2199023255552 x.2).1).mono (by omega)
theorem Fine.bat {B : Nat} {c : Cs} (h : Fine B c) (opt : Bool) (b : Bat) : Fine (B + 60018) (Cs.bat opt c b).2 := by
  cases c with
  | rd l st => exact ⟨h.1, h.2.rb (by have := h.1; omega) opt⟩
  | wr s bd =>
    have h : s.length ≤ B := h
    show (s ++ Vi.text (if opt && b.empty then [] else b.enc.1)).length ≤ _
    have henl : b.enc.1.length ≤ 60008 := by
      unfold Bat.enc
      cases hok : b.ok
      · simp
      · have := (Bat.ok_of hok).2.2
        have := Bat.bytes_length b
        simp; omega
    have h2 : (if opt && b.empty then [] else b.enc.1).length ≤ 60008 := by split <;> simp [henl]
    have := put_le (((if opt && b.empty then [] else b.enc.1).length : Nat) : Int)
    unfold Vi.text
    simp only [List.length_append]
    omega
theorem Fine.flt {B : Nat} {c : Cs} (h : Fine B c) (x : Tree) : Fine (B + 70000) (Cs.flt c x).2 := by
  cases c with
  | rd l st => exact ⟨h.1, h.2.rx (by have := h.1; omega)⟩
  | wr s bd =>
    have h : s.length ≤ B := h
    show (s ++ Vi.text x.print.1).length ≤ _
    have henl : x.print.1.length ≤ 60660 := by
      unfold Tree.print
      cases hok : x.ok
      · simp
      · simp only [Tree.ok, Bool.and_eq_true] at hok
        have := Tree.bytes_len 6 x hok.2
        have hsz : x.size ≤ 30 := by have := hok.1; simp only [decide_eq_true_eq] at this; omega
        simp; omega
    have := put_le ((x.print.1.length : Nat) : Int)
    unfold Vi.text
    simp only [List.length_append]
    omega
end Cs
end Go.Proofs.YtgbnpehpfadehaaGreatDoor
