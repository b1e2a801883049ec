/-
  The closures that go through a list's things: the walks.
  The codec's lists: an append at a step of a drawn region; where the loops stand.
  The codec's list of batches: the walks, reading and writing.
  The codec's list[string]: the walks, reading and writing.
-/
import Derived.Test.YtamiebojjinhcaaGreatDoorCdX
import Derived.Deep.AppendLies
import Derived.Deep.RegionLaw
set_option linter.unusedVariables false
namespace Go.Proofs.YtamiebojjinhcaaGreatDoor
open Go.RowKit

set_option maxRecDepth 4000 in
set_option maxHeartbeats 800000 in
theorem cl_txt (B : Nat) (hB : B ≤ 2 ^ 60) (cs : Cs) (hf : cs.Fine B) (t : List UInt8) (ht : t.length ≤ 2 ^ 60) (c q k : Nat) (Tq Tk : TypeId) (hcq : c ≠ q) (w : World)
    (hc : Blk w c 97 cs.cells) (hq : Blk w q Tq #[.string (str t)]) (hk : Blk w k Tk #[.pointer (some ⟨c, 0, none⟩)]) :
    Calls Tryz.prog 46 #[.pointer (some ⟨q, 0, none⟩), .pointer (some ⟨k, 0, none⟩)] w (Did Tq w c q (cs.txt 100 t).2 #[.string (str (cs.txt 100 t).1)]) := by
  have hk0 := hk.cell 0 _ rfl
  have TX := Lib.hid (cd_txt B (by omega) cs hf 100 t ht c q 0 Tq #[.string (str t)] rfl hcq w hc hq)
  clear hc hq hk hf ht
  go_enter Tryz.func46, Tryz.ntmps46
  go_wp2_with fail
  refine TX.out.mono ?_
  rintro e w1 ⟨rfl, hd⟩
  go_wp2_with fail
  go_end0
  exact ⟨rfl, hd⟩

end Go.Proofs.YtamiebojjinhcaaGreatDoor

namespace Go.Proofs.YtamiebojjinhcaaGreatDoor
open Go.RowKit

/-- an append to a slice of the call's own, at a step of a region that draws its order -/
theorem step_append_own {P : Program} {ops : Array Oper} {o : Oper} {a : Act} {w : World} {K : Act → World → Prop} {Q : Exit → Act → World → Prop} {E : Prop} (hgd : o.guard = none) (s x : Operand) (t xt : TypeId)
    (ho : o.op = .call { callee := .builtin .append, args := #[s, x], argTypes := #[t, xt] })
    (base : Nat) (e : TypeId) (i : TypeInfo) (z : Value) (size bytes : Nat) (ht : P.underlying t = some (.slice e)) (hxt : ∃ u, P.underlying xt = some u ∧ (∀ k, u ≠ .int k)) (hi : P.info? e = some i) (hz : i.zero = some z)
    (hsize : i.size = size) (hby : i.bytes = bytes) (hzs : z.cells.size = size) (hsz : 0 < size)
    (v : Value) (n : Nat) (xs : List Value) (hs : a.eval s = v) (hown : Own w base size v n xs)
    (xv : Value) (m : Nat) (news : List Value) (hx : a.eval x = xv) (hf : Feeds P w size xv m news)
    (h63 : n + m ≤ maxLen) (hbytes : (n + m) * bytes ≤ 140737488355328) (hbase : base ≤ w.heap.size)
    (h : ∀ v' w', Own w' base size v' (n + m) (xs ++ news) → w.grownBy w' v.ownBlock → (∀ k, v'.ownBlock = some k → v.ownBlock = some k ∨ w.heap.size ≤ k) → K (a.put o.dst v') w') :
    if Region.wanted o (yielded ops a.tmps) = true then Oper.wp P o a w K Q else E := by
  have hw : Region.wanted o (yielded ops a.tmps) = true := by simp [Region.wanted, hgd]
  rw [if_pos hw]
  obtain ⟨v', w', hr, h2, h3, h4⟩ := run_append_new (P := P) w base t xt o.type e i z size bytes ht hxt hi hz hsize hby hzs hsz v n xs hown xv m news hf h63 hbytes hbase
  unfold Oper.wp execOp
  simp only [ho, resolve, invoke, builtin, Sem.run_bind, Sem.run_pure, Result.andThen_ok, List.map_toArray, List.map_cons, List.map_nil, hs, hx, hr]
  exact h v' w' h2 h3 h4

theorem Cs.cells_eq (cs : Cs) : ∃ s a, cs.cells = cdc s a cs.reads cs.bad := by
  cases cs with
  | rd l st => exact ⟨_, _, rfl⟩
  | wr s b => exact ⟨_, _, rfl⟩
theorem Blk.cs {w : World} {c : Nat} {T : TypeId} {cs : Cs} (h : Blk w c T cs.cells) : w.cell? ⟨c, 2, none⟩ = some (.bool cs.reads) ∧ w.cell? ⟨c, 3, none⟩ = some (.bool cs.bad) := by
  obtain ⟨s, a, e⟩ := cs.cells_eq
  rw [e] at h
  exact ⟨h.cdc.1.2.2.1, h.cdc.1.2.2.2⟩
/-- what the things of a list point to -/
structure Kin (α : Type) where
  E : α → (Nat → Prop) → World → Prop
  mv : ∀ (x : α) (S T : Nat → Prop) (w w' : World), (∀ g, S g → g < w.heap.size → T g ∧ w'.heap[g]? = w.heap[g]?) → E x S w → E x T w'
def Kin.none (α : Type) : Kin α := ⟨fun _ _ _ => True, fun _ _ _ _ _ _ _ => trivial⟩
def Kin.bat : Kin (Bat × Value) := ⟨fun x S w => RsIn S w x.2 x.1.recs, fun x S T w w' hm h => h.move hm⟩
/-- where the reading loop stands -/
structure LR {α : Type} (size : Nat) (f : α → List Value) (K : Kin α) (Tq : TypeId) (w : World) (c q o : Nat) (m : Int) (qs : Array Value) (csj : Cs) (dl : List α) (vo : Value) (wr : World) : Prop where
  cq : CQ Tq w c q csj (qs.setIfInBounds o vo) wr
  own : Own wr (w.heap.size + 1) size vo dl.length (dl.flatMap f)
  old : ∀ g, vo.ownBlock = some g → g < wr.heap.size
  nb : Blk wr w.heap.size 3 #[.int .i64 m]
  kin : ∀ (i : Nat) (x : α), dl[i]? = some x → K.E x (fun g => w.heap.size + 1 ≤ g ∧ vo.ownBlock ≠ some g) wr
theorem setset (qs : Array Value) (o : Nat) (u v : Value) : (qs.setIfInBounds o u).setIfInBounds o v = qs.setIfInBounds o v := by
  apply Array.ext
  · simp
  · intro i h1 h2
    by_cases hij : o = i
    · subst hij
      rw [Array.getElem_setIfInBounds_self, Array.getElem_setIfInBounds_self]
    · rw [Array.getElem_setIfInBounds_ne _ hij, Array.getElem_setIfInBounds_ne _ hij, Array.getElem_setIfInBounds_ne _ hij]
      all_goals simpa using h2
theorem LR.next {α : Type} {size : Nat} {f : α → List Value} {K : Kin α} {Tq : TypeId} {w : World} {c q o : Nat} {m : Int} {qs : Array Value} {csj csj' : Cs} {dl : List α} {vo vo' : Value} {wr w2 w3 w4 : World} (hf : ∀ x, (f x).length = size) (hsz : 0 < size)
    (h : LR size f K Tq w c q o m qs csj dl vo wr) (hc : c < w.heap.size) (hq : q < w.heap.size) (hcq : c ≠ q) (ho : Only c wr w2) (hcb : Blk w2 c 97 csj'.cells) (hk : Keeps w2 w3) {x : α} (hE : K.E x (fun g => wr.heap.size + 1 ≤ g) w2)
    (hown : Own w4 (w.heap.size + 1) size vo' (dl.length + 1) (dl.flatMap f ++ f x)) (hg : w3.grownBy w4 vo.ownBlock) (hnew : ∀ k, vo'.ownBlock = some k → vo.ownBlock = some k ∨ w3.heap.size ≤ k) :
    LR size f K Tq w c q o m qs csj' (dl ++ [x]) vo' (w4.setCell ⟨q, o, none⟩ vo') := by
  have hbase : ∀ g, vo.ownBlock = some g → w.heap.size + 1 ≤ g := fun g hg => h.own.base g hg
  have hs0 := h.cq.two.size
  have hs1 := World.grownBy.size ho
  have hs2 := hk.size
  have hs3 := hg.size
  have hnlt := h.nb.lt
  have ho3 : Only c wr w3 := ho.trans (Only.of_keeps hk)
  have blk : ∀ i, i < wr.heap.size → i ≠ c → i ≠ q → vo.ownBlock ≠ some i → (w4.setCell ⟨q, o, none⟩ vo').heap[i]? = wr.heap[i]? := fun i hi hc hq ho' => by
    rw [Below.heap_setCell _ _ _ _ hq, hg.block i (by omega) (fun e => ho' e.symm)]
    exact World.grownBy.block ho3 i hi (fun e => hc (Option.some.inj e))
  have ncw : vo.ownBlock ≠ some c := fun e => by have := hbase c e; omega
  have nqw : vo.ownBlock ≠ some q := fun e => by have := hbase q e; omega
  refine ⟨⟨⟨?_, ?_, ?_, ?_, ?_⟩, ?_, ?_⟩, ?_, ?_, ?_, ?_⟩
  · exact (hg.os.trans (World.grownBy.os ho3)).trans h.cq.two.os
  · exact (hg.tape.trans (World.grownBy.tape ho3)).trans h.cq.two.tape
  · exact (hg.output.trans (World.grownBy.output ho3)).trans h.cq.two.output
  · simp only [World.setCell, Array.size_modify]; omega
  · intro i hi hc' hq'
    rw [blk i (by omega) hc' hq' (fun e => by have := hbase i e; omega)]
    exact h.cq.two.block i hi hc' hq'
  · exact ((hcb.keeps hk).grown hg (fun e => ncw e.symm)).other ⟨q, o, none⟩ hcq _
  · have h1 : Blk w4 q Tq (qs.setIfInBounds o vo) := ((h.cq.qb.grown ho (fun e => hcq (Option.some.inj e).symm)).keeps hk).grown hg (fun e => nqw e.symm)
    have h2 := h1.set o vo'
    rw [setset] at h2
    exact h2
  · have h1 := hown.other ⟨q, o, none⟩ (by show q < _; omega) vo'
    rw [List.length_append, List.flatMap_append]
    simpa using h1
  · intro g hg'
    obtain ⟨g', cap, rfl, _, hl, _⟩ := Own.form hown hsz (by omega)
    simp [Value.ownBlock] at hg'
    simp only [World.setCell, Array.size_modify]; omega
  · refine (((h.nb.grown ho (fun e => ?_)).keeps hk).grown hg (fun e => ?_)).other ⟨q, o, none⟩ (by show w.heap.size ≠ q; omega) _
    · have := Option.some.inj e; omega
    · have := hbase _ e.symm; omega
  · intro i y hi
    rw [List.getElem?_append] at hi
    have fresh : ∀ g, vo'.ownBlock = some g → vo.ownBlock ≠ some g → w3.heap.size ≤ g := fun g e1 e2 => (hnew g e1).resolve_left e2
    split at hi
    · refine K.mv y _ _ _ _ (fun g hg' hlt => ⟨⟨hg'.1, fun e => ?_⟩, blk g hlt (by omega) (by omega) hg'.2⟩) (h.kin i y hi)
      have := fresh g e hg'.2; omega
    · rename_i hil
      obtain ⟨h1, h2⟩ := List.getElem?_eq_some_iff.1 hi
      simp at h1
      simp [show i - dl.length = 0 by omega] at h2
      subst h2
      refine K.mv x _ _ _ _ (fun g hg' hlt => ?_) hE
      have n2 : vo.ownBlock ≠ some g := fun e => by have := h.old g e; omega
      refine ⟨⟨by omega, fun e => ?_⟩, ?_⟩
      · have := fresh g e n2; omega
      · rw [Below.heap_setCell _ _ _ _ (by show g ≠ q; omega), hg.block g (by omega) (fun e => n2 e.symm)]
        exact hk.block hlt
theorem LR.start {α : Type} {size : Nat} {f : α → List Value} {K : Kin α} {Tq : TypeId} {w wr : World} {c q o : Nat} {m : Int} {qs : Array Value} {cs : Cs} (h : CQ Tq w c q cs (qs.setIfInBounds o (.slice none 0 0)) wr) (hn : Blk wr w.heap.size 3 #[.int .i64 m]) :
    LR size f K Tq w c q o m qs cs [] (.slice none 0 0) wr :=
  ⟨h, Own.nil _ _ _, fun g hg => by simp [Value.ownBlock] at hg, hn, fun i x hi => by simp at hi⟩
/-- how far the reading is -/
structure Far {α β : Type} (F : Cs → β → β × Cs) (z : β) (π : α → β) (M : Nat) (cs1 csj : Cs) (dl : List α) : Prop where
  le : dl.length ≤ M
  eq : Cs.eachR F z M cs1 = (dl.map π ++ (Cs.eachR F z (M - dl.length) csj).1, (Cs.eachR F z (M - dl.length) csj).2)
theorem Far.start {α β : Type} (F : Cs → β → β × Cs) (z : β) (π : α → β) (M : Nat) (cs1 : Cs) : Far F z π M cs1 cs1 ([] : List α) := ⟨Nat.zero_le _, by simp⟩
theorem Far.next {α β : Type} {F : Cs → β → β × Cs} {z : β} {π : α → β} {M : Nat} {cs1 csj : Cs} {dl : List α} (h : Far F z π M cs1 csj dl) (hlt : dl.length < M) (hb : csj.bad = false) {x : α} (hx : π x = (F csj z).1) : Far F z π M cs1 (F csj z).2 (dl ++ [x]) := by
  refine ⟨by simp; omega, ?_⟩
  rw [h.eq]
  obtain ⟨k, hk⟩ : ∃ k, M - dl.length = k + 1 := ⟨M - dl.length - 1, by omega⟩
  rw [hk, Cs.eachR, if_neg (by rw [hb]; decide)]
  have : M - (dl ++ [x]).length = k := by simp; omega
  rw [this]
  simp [hx]
theorem Far.stop {α β : Type} {F : Cs → β → β × Cs} {z : β} {π : α → β} {M : Nat} {cs1 csj : Cs} {dl : List α} (h : Far F z π M cs1 csj dl) (hs : M ≤ dl.length ∨ csj.bad = true) : Cs.eachR F z M cs1 = (dl.map π, csj) := by
  rw [h.eq]
  rcases hs with hs | hs
  · rw [show M - dl.length = 0 by omega]; simp [Cs.eachR]
  · rw [Cs.eachR_skip F z _ hs]; simp
/-- where the writing loop stands -/
structure LW (w : World) (c : Nat) (m : Int) (csj : Cs) (wr : World) : Prop where
  only : Only c w wr
  cb : Blk wr c 97 csj.cells
  nb : Blk wr w.heap.size 3 #[.int .i64 m]
/-- what the codec's list leaves -/
def ListDid {α : Type} (size : Nat) (f : α → List Value) (Tq : TypeId) (w : World) (c q : Nat) (P : Nat → Prop) (cs : Cs) (qs : Array Value) (o : Nat) (xs : List α) (e : Ending) (w' : World) : Prop :=
  ∃ v, e = .returned (.tuple #[]) ∧ CQ Tq w c q cs (qs.setIfInBounds o v) w' ∧ Fl size f (fun g => P g ∨ w.heap.size ≤ g) w' v xs
theorem Own.grown_only {w w' : World} {base size : Nat} {v : Value} {n : Nat} {xs : List Value} {c : Nat} (h : Own w base size v n xs) (k : Only c w w') (hc : c < base) : Own w' base size v n xs :=
  h.kept (fun g hg hlt => World.grownBy.block k g hlt (fun e => by have := h.base g hg; have := Option.some.inj e; omega))
theorem Feeds.newD {P : Program} (w : World) (t : TypeId) (xs : List Value) (hx : ∀ u ∈ xs, u.oneCell' = true) (c : Nat) : Feeds P (w.alloc (.cells xs.toArray t)).drew xs.length (.slice (some ⟨w.heap.size, 0, none⟩) 1 c) 1 xs := by
  refine Feeds.slice (by simp) (fun j z hj => ?_) hx
  rw [Go.WideShapes.add_plain, Nat.zero_add]
  exact (Keeps.refl (w.alloc (.cells xs.toArray t))).drew.cell (cell_new w _ t j z (by simpa using hj))
namespace Cs
theorem num_reads (lo hi : Int) (c : Cs) (n : Int) : (num lo hi c n).2.reads = c.reads := by cases c <;> rfl
theorem txt_reads (most : Int) (c : Cs) (t : List UInt8) : (txt most c t).2.reads = c.reads := by cases c <;> rfl
theorem bat_reads (opt : Bool) (c : Cs) (b : Bat) : (bat opt c b).2.reads = c.reads := by cases c <;> rfl
theorem flt_reads (c : Cs) (x : Tree) : (flt c x).2.reads = c.reads := by cases c <;> rfl
theorem Fine.of_reads {A B : Nat} {c : Cs} (h : Fine A c) (hr : c.reads = true) : Fine B c := by
  cases c with
  | rd l st => exact h
  | wr s b => cases hr
theorem Fine.nt {B : Nat} {c : Cs} (h : Fine B c) (x : List UInt8 × Int) : Fine (B + 20 + x.1.length) (Cs.nt c x).2 :=
  (((h.txt 100 x.1).num (-1) 2199023255552 x.2).1).mono (by omega)
theorem Fine.bat {B : Nat} {c : Cs} (h : Fine B c) (opt : Bool) (b : Bat) : Fine (B + 60018) (Cs.bat opt c b).2 := by
  cases c with
  | rd l st => exact ⟨h.1, h.2.rb (by have := h.1; omega) opt⟩
  | wr s bd =>
    have h : s.length ≤ B := h
    show (s ++ Vi.text (if opt && b.empty then [] else b.enc.1)).length ≤ _
    have henl : b.enc.1.length ≤ 60008 := by
      unfold Bat.enc
      cases hok : b.ok
      · simp
      · have := (Bat.ok_of hok).2.2
        have := Bat.bytes_length b
        simp; omega
    have h2 : (if opt && b.empty then [] else b.enc.1).length ≤ 60008 := by split <;> simp [henl]
    have := put_le (((if opt && b.empty then [] else b.enc.1).length : Nat) : Int)
    unfold Vi.text
    simp only [List.length_append]
    omega
theorem Fine.flt {B : Nat} {c : Cs} (h : Fine B c) (x : Tree) : Fine (B + 70000) (Cs.flt c x).2 := by
  cases c with
  | rd l st => exact ⟨h.1, h.2.rx (by have := h.1; omega)⟩
  | wr s bd =>
    have h : s.length ≤ B := h
    show (s ++ Vi.text x.print.1).length ≤ _
    have henl : x.print.1.length ≤ 60660 := by
      unfold Tree.print
      cases hok : x.ok
      · simp
      · simp only [Tree.ok, Bool.and_eq_true] at hok
        have := Tree.bytes_len 6 x hok.2
        have hsz : x.size ≤ 30 := by have := hok.1; simp only [decide_eq_true_eq] at this; omega
        simp; omega
    have := put_le ((x.print.1.length : Nat) : Int)
    unfold Vi.text
    simp only [List.length_append]
    omega
end Cs
end Go.Proofs.YtamiebojjinhcaaGreatDoor

namespace Go.Proofs.YtamiebojjinhcaaGreatDoor
open Go.RowKit

/-- what the codec's list of batches leaves -/
def ListDidB (Tq : TypeId) (w : World) (c q : Nat) (P : Nat → Prop) (cs : Cs) (qs : Array Value) (o : Nat) (xs : List Bat) (e : Ending) (w' : World) : Prop :=
  ∃ v, e = .returned (.tuple #[]) ∧ CQ Tq w c q cs (qs.setIfInBounds o v) w' ∧ BsIn (fun g => P g ∨ w.heap.size ≤ g) w' v xs
theorem Tab.lt {w : World} (h : Tab w) : 0 < w.heap.size := World.block_lt_of_cell? w _ (h 0 (by decide))

end Go.Proofs.YtamiebojjinhcaaGreatDoor

namespace Go.Proofs.YtamiebojjinhcaaGreatDoor
open Go.RowKit

theorem info_lS : (Tryz.prog.info? 9).map (fun i => (i.zero, i.size, i.bytes)) = some (some (.string ⟨#[]⟩), 1, 16) := by kernel_rfl

set_option maxRecDepth 4000 in
set_option maxHeartbeats 1600000 in
theorem cd_listS_rd (l : List UInt8) (st : Rd.St) (hl : l.length ≤ 2 ^ 62) (hst : Rd.Fine l st) (most : Nat) (hmost : most ≤ 500) (c q o k : Nat) (Tq Tk : TypeId) (qs : Array Value) (ho : qs[o]? = some (.slice none 0 0)) (hcq : c ≠ q) (hkc : k ≠ c) (hkq : k ≠ q) (w : World)
    (hc : Blk w c 97 (Cs.rd l st).cells) (hq : Blk w q Tq qs) (hk : Blk w k Tk #[.pointer (some ⟨c, 0, none⟩)]) (P : Nat → Prop) :
    Calls Tryz.prog 45 #[.pointer (some ⟨c, 0, none⟩), .pointer (some ⟨q, o, none⟩), .int .i64 (most : Nat), .func (.func 46) #[] #[.pointer (some ⟨k, 0, none⟩)]] w
      (ListDid 1 tcell Tq w c q P ((Cs.rd l st).list (most : Int) (Cs.txt 100) [] []).2 qs o ((Cs.rd l st).list (most : Int) (Cs.txt 100) [] []).1) := by
  obtain ⟨i0, hi, hz0, hz1, hz2⟩ := info_parts info_lS
  have hclt := hc.lt
  have hqlt := hq.lt
  have hklt := hk.lt
  have hqc : ¬ q = c := fun e => hcq e.symm
  have hnc : c ≠ w.heap.size := by omega
  have hnq : q ≠ w.heap.size := by omega
  have hqn' : ¬ q = w.heap.size := hnq
  have HAL := Lib.hid ((Keeps.refl w).alloc (.cells #[.int .i64 0] 3))
  have HNB := Lib.hid (Blk.new w 3 #[.int .i64 0])
  have HC := Lib.hid (hc.keeps HAL.out)
  have HQ := Lib.hid (hq.keeps HAL.out)
  have HK := Lib.hid hk
  have hqo := hq.cell o _ ho
  have HO := Lib.hid ho
  have hosz : o < qs.size := (Array.getElem?_eq_some_iff.1 ho).1
  have NU := Lib.hid (fun w' hc hn => cd_num 0 (by decide) (Cs.rd l st) ⟨hl, hst⟩ 0 (most : Int) 0 (by decide) c w.heap.size 0 3 #[.int .i64 0] rfl hnc w' hc hn)
  have hfine := (show (Cs.rd l st).Fine 0 from ⟨hl, hst⟩).num 0 (most : Int) 0
  have hnum : (Cs.rd l st).num 0 (most : Int) 0 = ((Rd.rn 0 (most : Int) l st).1, Cs.rd l (Rd.rn 0 (most : Int) l st).2) := rfl
  have hlist : (Cs.rd l st).list (most : Int) (Cs.txt 100) [] [] = Cs.eachR (Cs.txt 100) [] (Rd.rn 0 (most : Int) l st).1.toNat (Cs.rd l (Rd.rn 0 (most : Int) l st).2) := by
    unfold Cs.list; rw [if_pos (show (Cs.rd l st).reads = true from rfl)]; rfl
  have hmm0 : (Rd.rn 0 (most : Int) l st).2.2 = 0 → 0 ≤ (Rd.rn 0 (most : Int) l st).1 ∧ (Rd.rn 0 (most : Int) l st).1 ≤ most := fun h => (Rd.rn_ok rfl h).2
  rw [hnum] at NU hfine
  obtain ⟨⟨m, st1⟩, hrn⟩ : ∃ r, Rd.rn 0 (most : Int) l st = r := ⟨_, rfl⟩
  rw [hrn] at NU hfine hlist hmm0
  rw [hlist]
  simp only at hfine hmm0
  obtain ⟨hf1, hm64⟩ := hfine
  have hm64 := hm64 rfl
  have HMM := Lib.hid (fun (h : (Cs.rd l st1).bad = false) => hmm0 (by simpa [Cs.bad] using h))
  have HF1 := Lib.hid hf1
  clear hrn hnum hlist hmm0 hf1 hc hq hk ho hst hl hnc
  go_enter Tryz.func45, Tryz.ntmps45
  go_wp2_with fail
  refine (NU.out _ HC.out HNB.out).mono ?_
  rintro e w1 ⟨rfl, hd⟩
  have hcs1 : w1.cell? ⟨c, 2, none⟩ = some (.bool true) := hd.cb.cs.1
  have hnb1 : Blk w1 w.heap.size 3 #[.int .i64 m] := hd.qb
  have hnc1 := hnb1.cell 0 _ rfl
  have hon := hd.two.only (Only.of_keeps (b := c) HAL.out) (Nat.le_refl _)
  have hq1 := HQ.out.two hd.two hqc hnq
  have hqc1 := hq1.cell o _ HO.out
  have hqf1 := hq1.frozen o
  have HLR := Lib.hid (LR.start (size := 1) (f := tcell) (K := Kin.none _) (m := m) (w := w) (o := o) ⟨(Two.of_only hon).set2 o (.slice none 0 0), hd.cb.other ⟨q, o, none⟩ hcq _, hq1.set o (.slice none 0 0)⟩ (hnb1.other ⟨q, o, none⟩ (by show w.heap.size ≠ q; omega) _))
  have hs1 := World.grownBy.size hon
  clear hd hon hq1
  go_wp2_with fail
  go_loopw [9] (fun i wr => ∃ (dl : List (List UInt8)) (csj : Cs) (vo : Value), i = .int .i64 (dl.length : Nat) ∧ Far (Cs.txt 100) [] id m.toNat (Cs.rd l st1) csj dl ∧ LR 1 tcell (Kin.none _) Tq w c q o m qs csj dl vo wr ∧ csj.reads = true ∧ csj.Fine 10 ∧ (csj.bad = false → 0 ≤ m ∧ m ≤ most)) (fun i _ => m.toNat - (intOf i).toNat)
  case atStart => exact ⟨[], Cs.rd l st1, .slice none 0 0, rfl, Far.start _ _ _ _ _, HLR.out, rfl, HF1.out, HMM.out⟩
  case round =>
    obtain ⟨dl, csj, vo, rfl, hfar, hlr, hrdj, hfj, hmj⟩ := hrel
    obtain ⟨ao, capo, rfl, -⟩ := hlr.own.slice
    have FAR := Lib.hid hfar
    have HL := Lib.hid hlr
    have HFJ := Lib.hid hfj
    have hnbj := hlr.nb.cell 0 _ rfl
    obtain ⟨j, hj⟩ : ∃ j, dl.length = j := ⟨_, rfl⟩
    have hjM : j ≤ m.toNat := by rw [← hj]; exact hfar.le
    obtain ⟨hcj1, hcj2⟩ := hlr.cq.cb.cs
    rw [hrdj] at hcj1
    have HMJ := Lib.hid hmj
    have HRJ := Lib.hid hrdj
    clear hfar hlr hfj hmj hrdj HLR hqc1 hqf1 hcs1 hnc1 hnb1 HMM HF1 HC HQ NU HNB
    have stop : (m.toNat ≤ j ∨ csj.bad = true) → ListDid 1 tcell Tq w c q P (Cs.eachR (Cs.txt 100) [] m.toNat (Cs.rd l st1)).2 qs o (Cs.eachR (Cs.txt 100) [] m.toNat (Cs.rd l st1)).1 (.returned (.tuple #[])) wr := by
      intro hs
      rw [FAR.out.stop (by rw [hj]; exact hs), List.map_id]
      refine ⟨_, rfl, HL.out.cq, Fl.of_own HL.out.own ?_ (fun x => rfl) (fun g hg => .inr (by have := HL.out.own.base g hg; omega))⟩
      have := FAR.out.le
      show dl.length ≤ 9223372036854775807
      omega
    have STOP := Lib.hid stop
    have HJ := Lib.hid hj
    rw [hj]
    clear stop hj
    by_cases hb : csj.bad = true
    · rw [hb] at hcj2
      by_cases hlt : (j : Int) < m
      · have hdl : decide ((j : Int) < m) = true := by simpa using hlt
        have HB := Lib.hid hb
        clear hlt hb
        go_wp2_with fail
        go_end0
        exact STOP.out (.inr HB.out)
      · have hdl : decide ((j : Int) < m) = false := by simpa using hlt
        have HB := Lib.hid hb
        clear hlt hb
        go_wp2_with fail
        go_end0
        exact STOP.out (.inr HB.out)
    · have hb : csj.bad = false := by simpa using hb
      rw [hb] at hcj2
      have HB := Lib.hid hb
      obtain ⟨hm0, hm1⟩ := HMJ.out hb
      by_cases hlt : (j : Int) < m
      · have hdl : decide ((j : Int) < m) = true := by simpa using hlt
        have hj500 : j < 500 := by omega
        have hjm : j < m.toNat := by omega
        have hsr := HL.out.nb.lt
        have hcr : c ≠ wr.heap.size := by omega
        have hqr : ¬ q = wr.heap.size := by omega
        have hkr := HK.out.two HL.out.cq.two hkc hkq
        have hklr := hkr.lt
        have CL := Lib.hid (fun w' hc hq hk => cl_txt 10 (by decide) csj HFJ.out [] (by simp) c wr.heap.size k 9 Tk hcr w' hc hq hk)
        have HXB := Lib.hid (Blk.new wr 9 #[.string ⟨#[]⟩])
        have HCA := Lib.hid (HL.out.cq.cb.keeps ((Keeps.refl wr).alloc (.cells #[.string ⟨#[]⟩] 9)))
        have HKA := Lib.hid (hkr.keeps ((Keeps.refl wr).alloc (.cells #[.string ⟨#[]⟩] 9)))
        have hcj1 := ((Keeps.refl wr).alloc (.cells #[.string ⟨#[]⟩] 9)).cell hcj1
        clear hlt hb hkr
        go_wp2_with fail
        refine (CL.out _ HCA.out HXB.out HKA.out).mono ?_
        rintro e w2 ⟨rfl, hd⟩
        obtain ⟨x, hx⟩ : ∃ x, ((Cs.txt 100) csj []).1 = x := ⟨_, rfl⟩
        rw [hx] at hd
        have ho2 := hd.two.only (Only.of_keeps (b := c) ((Keeps.refl wr).alloc (.cells #[.string ⟨#[]⟩] 9))) (Nat.le_refl _)
        have hqb2 := HL.out.cq.qb.grown ho2 (fun e => hcq (Option.some.inj e).symm)
        have hso := World.grownBy.size ho2
        have hqo2 : w2.cell? ⟨q, o, none⟩ = some (.slice ao dl.length capo) := hqb2.cell o _ (by rw [Array.getElem?_setIfInBounds]; simp [hosz])
        have hown2 := HL.out.own.grown_only ho2 (by omega)
        have x0 : w2.cell? ⟨wr.heap.size, 0, none⟩ = some (.string (str x)) := hd.qb.cell 0 _ rfl
        have HX := Lib.hid hx
        have HD := Lib.hid hd
        have HO2 := Lib.hid ho2
        have HQB2 := Lib.hid hqb2
        have HOWN := Lib.hid hown2
        have hw2 : w.heap.size + 1 ≤ w2.heap.size := by omega
        have hq2 : ¬ q = w2.heap.size := by omega
        have hx2 : ¬ wr.heap.size = w2.heap.size := by have := hd.qb.lt; omega
        have hqo3 := ((Keeps.refl w2).alloc (.cells #[.string (str x)] 9)).cell hqo2
        have hfd := Lib.hid (Feeds.newD (P := Tryz.prog) w2 9 (tcell x) (by simp [tcell, Value.oneCell']) 1)
        have HKA2 := Lib.hid ((Keeps.refl w2).alloc (.cells #[.string (str x)] 9)).drew
        have HE := Lib.hid (show (Kin.none (List UInt8)).E x (fun g => wr.heap.size + 1 ≤ g) w2 from trivial)
        have HRX := Lib.hid (show ((Cs.txt 100) csj []).2.reads = true by rw [Cs.txt_reads]; exact HRJ.out)
        have HFX := Lib.hid (Cs.Fine.of_reads (B := 10) (HFJ.out.txt 100 []) HRX.out)
        have HJ1 := Lib.hid (show dl.length + 1 ≤ 501 by rw [HJ.out]; omega)
        rw [HJ.out] at hqo2 hqo3
        clear hd ho2 hqb2 hown2 hx
        go_wp2_with fail
        go_region_law (first
          | (refine step_append_own rfl _ _ 28 28 rfl (w.heap.size + 1) 9 i0 (.string ⟨#[]⟩) 1 16 Tryz.underlying28 ⟨_, Tryz.underlying28, fun _ h => by cases h⟩ hi hz0 hz1 hz2 rfl (by decide) (.slice ao j capo) dl.length (dl.flatMap tcell) rfl (by have h := HOWN.out.keeps HKA2.out; rw [HJ.out] at h ⊢; exact h) (.slice (some ⟨w2.heap.size, 0, none⟩) 1 1) 1 (tcell x) rfl hfd.out (by have := HJ1.out; unfold maxLen; omega) (by have := HJ1.out; omega) (by simp; omega) ?_; intro v' w4 hown hg hnew; obtain ⟨ad2, cap2, rfl, -⟩ := hown.slice; have hqb4 := (HQB2.out.keeps HKA2.out).grown hg (fun e => by have := HOWN.out.base q (by rw [HJ.out]; exact e.symm); omega); have y0 := hqb4.cell o (.slice ao dl.length capo) (by rw [Array.getElem?_setIfInBounds]; simp [hosz]); have y1 := hqb4.frozen o; have HG := Lib.hid hg; have HOWN4 := Lib.hid hown; have HNEW := Lib.hid hnew; clear hqb4 hown hg hnew))
        all_goals
          go_wp2_with fail
          have hrel : ∃ (dl' : List (List UInt8)) (csj' : Cs) (vo' : Value), Value.int .i64 ((j : Int) + 1) = .int .i64 (dl'.length : Nat) ∧ Far (Cs.txt 100) [] id m.toNat (Cs.rd l st1) csj' dl' ∧ LR 1 tcell (Kin.none _) Tq w c q o m qs csj' dl' vo' (w4.setCell ⟨q, o, none⟩ (.slice ad2 (dl.length + 1) cap2)) ∧ csj'.reads = true ∧ csj'.Fine 10 ∧ (csj'.bad = false → 0 ≤ m ∧ m ≤ most) :=
            ⟨dl ++ [x], _, .slice ad2 (dl.length + 1) cap2, by rw [List.length_append, HJ.out]; rfl, FAR.out.next (by rw [HJ.out]; exact hjm) HB.out HX.out.symm, by have h := LR.next (vo' := .slice ad2 (dl.length + 1) cap2) (size := 1) (f := tcell) (fun _ => rfl) (by decide) HL.out hclt hqlt hcq HO2.out HD.out.cb HKA2.out HE.out HOWN4.out (by rw [HJ.out]; exact HG.out) (fun k' hk' => by have h := HNEW.out k' hk'; rw [HJ.out]; simpa using h); exact h, HRX.out, HFX.out, fun _ => ⟨hm0, hm1⟩⟩
          have hmeas : m.toNat - (j + 1) < m.toNat - j := by omega
          first
            | exact ⟨hrel, by simp [intOf]; omega⟩
            | (refine ⟨?_, by simp [intOf]; omega⟩; (repeat apply Exists.intro); exact ⟨hrel, rfl⟩)
      · have hdl : decide ((j : Int) < m) = false := by simpa using hlt
        have hjm : m.toNat ≤ j := by omega
        clear hlt hb
        go_wp2_with fail
        go_end0
        exact STOP.out (.inl hjm)

set_option maxRecDepth 4000 in
set_option maxHeartbeats 1600000 in
theorem cd_listS_wr (B : Nat) (hB : B ≤ 2 ^ 57) (s : List UInt8) (bd : Bool) (hf : s.length ≤ B) (most : Nat) (hmost : most ≤ 500) (xs : List (List UInt8)) (hxs : ∀ x ∈ xs, x.length ≤ 2 ^ 48) (v : Value) (P : Nat → Prop) (c q o k : Nat) (hP : ∀ g, P g → g ≠ c ∧ g ≠ q) (Tq Tk : TypeId) (qs : Array Value) (ho : qs[o]? = some v) (hcq : c ≠ q) (hkc : k ≠ c) (hkq : k ≠ q) (w : World)
    (hv : Fl 1 tcell P w v xs) (hc : Blk w c 97 (Cs.wr s bd).cells) (hq : Blk w q Tq qs) (hk : Blk w k Tk #[.pointer (some ⟨c, 0, none⟩)]) :
    Calls Tryz.prog 45 #[.pointer (some ⟨c, 0, none⟩), .pointer (some ⟨q, o, none⟩), .int .i64 (most : Nat), .func (.func 46) #[] #[.pointer (some ⟨k, 0, none⟩)]] w
      (ListDid 1 tcell Tq w c q P ((Cs.wr s bd).list (most : Int) (Cs.txt 100) [] xs).2 qs o ((Cs.wr s bd).list (most : Int) (Cs.txt 100) [] xs).1) := by
  have hclt := hc.lt
  have hqlt := hq.lt
  have hklt := hk.lt
  have hqc : ¬ q = c := fun e => hcq e.symm
  have hnc : c ≠ w.heap.size := by omega
  have hnq : q ≠ w.heap.size := by omega
  have hkn : k ≠ w.heap.size := by omega
  obtain ⟨n, hn⟩ : ∃ n, xs.length = n := ⟨_, rfl⟩
  have HV := Lib.hid hv
  obtain ⟨ad, cap, rfl, hnl, h0, g, oo, ha, hcell⟩ := hv
  rw [hn] at hnl ho
  have HAL := Lib.hid ((Keeps.refl w).alloc (.cells #[.int .i64 (n : Nat)] 3))
  have HNB := Lib.hid (Blk.new w 3 #[.int .i64 (n : Nat)])
  have HC := Lib.hid (hc.keeps HAL.out)
  have HQ := Lib.hid (hq.keeps HAL.out)
  have HQ0 := Lib.hid hq
  have HK := Lib.hid hk
  have hqo := hq.cell o _ ho
  have HO := Lib.hid ho
  have NU := Lib.hid (fun w' hc hn' => cd_num B (by omega) (Cs.wr s bd) hf 0 (most : Int) (n : Nat) (by omega) c w.heap.size 0 3 #[.int .i64 (n : Nat)] rfl hnc w' hc hn')
  have hfine := ((show (Cs.wr s bd).Fine B from hf).num 0 (most : Int) (n : Nat)).1
  have hrd0 := Cs.num_reads 0 (most : Int) (Cs.wr s bd) (n : Nat)
  have hnum1 : ((Cs.wr s bd).num 0 (most : Int) (n : Nat)).1 = (n : Nat) := rfl
  have hlist : (Cs.wr s bd).list (most : Int) (Cs.txt 100) [] xs = (xs, Cs.eachW (Cs.txt 100) ((Cs.wr s bd).num 0 (most : Int) (n : Nat)).2 xs) := by
    unfold Cs.list; rw [if_neg (show ¬ (Cs.wr s bd).reads = true from fun h => by cases h), hn]
  rw [hnum1] at NU
  obtain ⟨cs1, hcs⟩ : ∃ r, ((Cs.wr s bd).num 0 (most : Int) (n : Nat)).2 = r := ⟨_, rfl⟩
  rw [hcs] at NU hfine hlist hrd0
  rw [hlist]
  have HSM := Lib.hid (show cs1.bad = false → n ≤ 500 from fun h => by
    rw [← hcs] at h
    have h : (bd || !(decide (0 ≤ ((n : Nat) : Int)) && decide (((n : Nat) : Int) ≤ (most : Int)))) = false := h
    simp at h
    omega)
  have HF1 := Lib.hid hfine
  have HR1 := Lib.hid (show cs1.reads = false from hrd0)
  have HB57 := Lib.hid hB
  have HP := Lib.hid hP
  have HXS := Lib.hid hxs
  have HA := Lib.hid ha
  have HCELL := Lib.hid hcell
  have HN := Lib.hid hn
  clear hcs hnum1 hlist hfine hrd0 hc hq hk ho hf hnc hP hxs ha hcell hn hB
  go_enter Tryz.func45, Tryz.ntmps45
  go_wp2_with fail
  refine (NU.out _ HC.out HNB.out).mono ?_
  rintro e w1 ⟨rfl, hd⟩
  have hcs1 : w1.cell? ⟨c, 2, none⟩ = some (.bool false) := by have h := hd.cb.cs.1; rw [HR1.out] at h; exact h
  have hon := hd.two.only (Only.of_keeps (b := c) HAL.out) (Nat.le_refl _)
  have HLW := Lib.hid (show LW w c (n : Nat) cs1 w1 from ⟨hon, hd.cb, hd.qb⟩)
  clear hd hon
  go_wp2_with fail
  go_loopw [9] (fun i wr => ∃ (j : Nat) (csj : Cs), i = .int .i64 (j : Nat) ∧ j ≤ n ∧ Cs.eachW (Cs.txt 100) cs1 xs = Cs.eachW (Cs.txt 100) csj (xs.drop j) ∧ LW w c (n : Nat) csj wr ∧ csj.reads = false ∧ csj.Fine (B + 10 + j * 562949953421312) ∧ (j ≤ 500 ∨ csj.bad = true) ∧ (csj.bad = false → n ≤ 500)) (fun i _ => n - (intOf i).toNat)
  case atStart => exact ⟨0, cs1, rfl, Nat.zero_le _, rfl, HLW.out, HR1.out, by have := HF1.out; simpa using this, .inl (by decide), fun h => HSM.out h⟩
  case round =>
    obtain ⟨j, csj, rfl, hjn, heq, hlw, hrj, hfj, hj5, hn5⟩ := hrel
    have HEQ := Lib.hid heq
    have HL := Lib.hid hlw
    have HFJ := Lib.hid hfj
    have HRJ := Lib.hid hrj
    have hnbj := hlw.nb.cell 0 _ rfl
    have hcj1 : wr.cell? ⟨c, 2, none⟩ = some (.bool false) := by have h := hlw.cb.cs.1; rw [hrj] at h; exact h
    have hcj2 := hlw.cb.cs.2
    have hqr := HQ0.out.grown hlw.only (fun e => hcq (Option.some.inj e).symm)
    have hqor := hqr.cell o _ HO.out
    have HQR := Lib.hid hqr
    have STOP := Lib.hid (show (n ≤ j ∨ csj.bad = true) → ListDid 1 tcell Tq w c q P (Cs.eachW (Cs.txt 100) cs1 xs) qs o xs (.returned (.tuple #[])) wr from by
      intro hs
      have e : Cs.eachW (Cs.txt 100) cs1 xs = csj := by
        rw [HEQ.out]
        rcases hs with hs | hs
        · rw [List.drop_eq_nil_of_le (by rw [HN.out]; exact hs)]; rfl
        · exact Cs.eachW_skip _ hs _
      rw [e]
      refine ⟨.slice ad xs.length cap, rfl, ⟨Two.of_only HL.out.only, HL.out.cb, ?_⟩, ?_⟩
      · rw [HN.out, set_same HO.out]; exact HQR.out
      · exact HV.out.move (fun g hg hlt => ⟨.inl hg, World.grownBy.block HL.out.only g hlt (fun e => (HP.out g hg).1 (Option.some.inj e))⟩) (fun x => ⟨_, rfl⟩))
    clear heq hlw hfj hrj hqr HLW hcs1 HF1 HR1 NU HC HQ HNB hqo
    by_cases hb : csj.bad = true
    · rw [hb] at hcj2
      have HB := Lib.hid hb
      clear hb hj5 hn5
      by_cases hlt : j < n
      · go_wp2_with fail
        go_end0
        exact STOP.out (.inr HB.out)
      · go_wp2_with fail
        go_end0
        exact STOP.out (.inr HB.out)
    · have hb : csj.bad = false := by simpa using hb
      have hn500 := hn5 hb
      rw [hb] at hcj2
      have HB := Lib.hid hb
      clear hb hj5 hn5
      by_cases hlt : j < n
      · obtain ⟨x, hx⟩ : ∃ x, xs[j]? = some x := ⟨_, List.getElem?_eq_getElem (by rw [HN.out]; exact hlt)⟩
        have hmem : x ∈ xs := List.mem_of_getElem? hx
        obtain ⟨had, hPg⟩ := HA.out (fun e => by rw [e] at hx; simp at hx)
        subst had
        have hgne : g ≠ c ∧ g ≠ q := HP.out g hPg
        have x0 : wr.cell? ⟨g, oo + j, none⟩ = some (.string (str x)) := by have h := HCELL.out j x hx 0 _ rfl; simp only [Nat.mul_one, Nat.add_zero] at h; rw [World.cell?_of_block (World.grownBy.block HL.out.only g (World.block_lt_of_cell? w _ h) (fun e => hgne.1 (Option.some.inj e)))]; exact h
        have hdrop : xs.drop j = x :: xs.drop (j + 1) := by
          rw [List.drop_eq_getElem_cons (by rw [HN.out]; exact hlt)]
          congr 1
          rw [List.getElem?_eq_getElem (by rw [HN.out]; exact hlt)] at hx
          exact Option.some.inj hx
        have heq2 : Cs.eachW (Cs.txt 100) cs1 xs = Cs.eachW (Cs.txt 100) ((Cs.txt 100) csj x).2 (xs.drop (j + 1)) := by
          rw [HEQ.out, hdrop, Cs.eachW, if_neg (by rw [HB.out]; decide)]
        have HEQ2 := Lib.hid heq2
        have hbd := HXS.out x hmem
        have hsr := HL.out.nb.lt
        have hcr : c ≠ wr.heap.size := by omega
        have hqr : ¬ q = wr.heap.size := by omega
        have hkr := HK.out.grown HL.out.only (fun e => hkc (Option.some.inj e))
        have hBj : B + 10 + j * 562949953421312 ≤ 2 ^ 59 := by have := HB57.out; omega
        have CL := Lib.hid (fun w' hc hq hk => cl_txt (B + 10 + j * 562949953421312) (by omega) csj HFJ.out x (by omega) c wr.heap.size k 9 Tk hcr w' hc hq hk)
        have HXB := Lib.hid (Blk.new wr 9 #[.string (str x)])
        have HCA := Lib.hid (HL.out.cb.keeps ((Keeps.refl wr).alloc (.cells #[.string (str x)] 9)))
        have HKA := Lib.hid (hkr.keeps ((Keeps.refl wr).alloc (.cells #[.string (str x)] 9)))
        have HRX := Lib.hid (show ((Cs.txt 100) csj x).2.reads = false by rw [Cs.txt_reads]; exact HRJ.out)
        have HFX := Lib.hid (show ((Cs.txt 100) csj x).2.Fine (B + 10 + (j + 1) * 562949953421312) from (HFJ.out.txt 100 x).mono (by have := hbd; omega))
        have HMEM := Lib.hid hbd
        clear heq2 hdrop hx hmem hkr hbd hBj
        go_wp2_with fail
        refine (CL.out _ HCA.out HXB.out HKA.out).mono ?_
        rintro e w2 ⟨rfl, hd⟩
        have ho2 := hd.two.only (Only.of_keeps (b := c) ((Keeps.refl wr).alloc (.cells #[.string (str x)] 9))) (Nat.le_refl _)
        have HLW2 := Lib.hid (show LW w c (n : Nat) ((Cs.txt 100) csj x).2 w2 from ⟨HL.out.only.trans ho2, hd.cb, HL.out.nb.grown ho2 (fun e => by have := Option.some.inj e; omega)⟩)
        clear hd ho2
        go_wp2_with fail
        exact ⟨⟨j + 1, _, by go_num, by omega, HEQ2.out, HLW2.out, HRX.out, HFX.out, .inl (by omega), fun _ => hn500⟩, by simp [intOf]; omega⟩
      · go_wp2_with fail
        go_end0
        exact STOP.out (.inl (by omega))
end Go.Proofs.YtamiebojjinhcaaGreatDoor
