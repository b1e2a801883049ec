/-
  The document's readers of requests and replies: what they answer, in plain words; where their walks stand.
  The document's Decode of a request: the walk.
-/
import Derived.Test.YtgbnpehpfadehaaGreatDoorWrPl
import Derived.Test.YtgbnpehpfadehaaGreatDoorCdDec
import Derived.Test.YtgbnpehpfadehaaGreatDoorRcRd
import Derived.Test.YtgbnpehpfadehaaGreatDoorBtDecPl
import Derived.Test.YtgbnpehpfadehaaGreatDoorBs
import Derived.Test.YtgbnpehpfadehaaGreatDoorRqRef
import Derived.Test.YtgbnpehpfadehaaGreatDoorBtRefDec
import Derived.Test.YtgbnpehpfadehaaGreatDoorExParseR
import Derived.Test.YtgbnpehpfadehaaGreatDoorCdLB
import Derived.Deep.CutRange
import Derived.Deep.RegionLaw
set_option linter.unusedVariables false
namespace Go.Proofs.YtgbnpehpfadehaaGreatDoor
open Go.RowKit

/-- the reply of what was read -/
def repOf (a b c d e f g : Int) (h : List (List UInt8)) (i j : List (List UInt8 × Int)) : Rep := ⟨a, b, c, d, e, f, g, h.map (fun t => (Bat.dec t 0).1), i, j⟩
theorem dec_self {b : Bat} (h : b.ok = true) : Bat.dec b.bytes 0 = (b, (b.bytes.length : Int), 0) := by
  have hd := Bat.dec_bytes [] [] b h
  simp only [List.nil_append, List.append_nil, List.length_nil] at hd
  exact hd
theorem Rep.ref_bad {l : List UInt8} {a : Int} {s1 : Rd.St} {b : Int} {s2 : Rd.St} {c : Int} {s3 : Rd.St} {d : Int} {s4 : Rd.St} {e : Int} {s5 : Rd.St} {f : Int} {s6 : Rd.St} {g : Int} {s7 : Rd.St} {n : Int} {s8 : Rd.St} {h : List (List UInt8)} {s9 : Rd.St} {n2 : Int} {s10 : Rd.St} {i : List (List UInt8 × Int)} {s11 : Rd.St} {n3 : Int} {s12 : Rd.St} {j : List (List UInt8 × Int)} {s13 : Rd.St}
    (H : RefR l a s1 b s2 c s3 d s4 e s5 f s6 g s7 n s8 h s9 n2 s10 i s11 n3 s12 j s13)
    (hbad : ¬ ((∀ t ∈ h, (Bat.dec t 0).2.2 = 0) ∧ s13.2 = 0 ∧ (repOf a b c d e f g h i j).ok = true ∧ (repOf a b c d e f g h i j).body = l)) : Rep.dec l = (Rep.none, 3) := by
  have hcs : (Rep.dec l).2 = 0 ∨ Rep.dec l = (Rep.none, 3) := by
    unfold Rep.dec; split
    · exact .inl rfl
    · exact .inr rfl
  rcases hcs with h0 | h0
  · exfalso
    apply hbad
    have hd : Rep.dec l = ((Rep.dec l).1, 0) := Prod.ext rfl h0
    obtain ⟨r, hr⟩ : ∃ r, (Rep.dec l).1 = r := ⟨_, rfl⟩
    rw [hr] at hd
    obtain ⟨hs, e1, e2, e3, e4, e5, e6, e7, e8, e9, e10, e11, e12, e13⟩ := H.of_dec hd
    obtain ⟨hok, hl⟩ := Rep.dec_ok hd
    have hbs : ∀ b ∈ r.bats, b.ok = true := by
      have hk := hok
      unfold Rep.ok Rep.ok0 at hk
      simp only [Bool.and_eq_true, List.all_eq_true] at hk
      exact hk.1.1.1.2
    have hmap : h.map (fun t => (Bat.dec t 0).1) = r.bats := by
      rw [e9, List.map_map]
      have : r.bats.map ((fun t => (Bat.dec t 0).1) ∘ Bat.bytes) = r.bats.map id := List.map_congr_left (fun b hb => by simp only [Function.comp, id]; rw [dec_self (hbs b hb)])
      rw [this, List.map_id]
    have hr2 : repOf a b c d e f g h i j = r := by
      unfold repOf
      rw [hmap, e1, e2, e3, e4, e5, e6, e7, e11, e13]
    refine ⟨fun t ht => ?_, hs, by rw [hr2]; exact hok, by rw [hr2]; exact hl.symm⟩
    rw [e9] at ht
    obtain ⟨b, hb, rfl⟩ := List.mem_map.1 ht
    rw [dec_self (hbs b hb)]
  · exact h0
theorem Rep.ref_good {l : List UInt8} {r : Rep} (h : r.ok = true) (hl : r.body = l) : Rep.dec l = (r, 0) := by rw [← hl]; exact Rep.dec_body h

/-- the request of what was read -/
def reqOf (k : Int) (nm : List UInt8) (i c f g : Int) (b x gr : List UInt8) (m ge : Int) (t : List (List UInt8)) : Req := ⟨k, nm, i, c, f, g == 1, if b = [] then Bat.none else (Bat.dec b 0).1, (Tree.parse x).1, gr, m, ge, t⟩
theorem Req.ref_bad {l : List UInt8} {k : Int} {s1 : Rd.St} {nm : List UInt8} {s2 : Rd.St} {i : Int} {s3 : Rd.St} {c : Int} {s4 : Rd.St} {f : Int} {s5 : Rd.St} {g : Int} {s6 : Rd.St} {b : List UInt8} {s7 : Rd.St} {x : List UInt8} {s8 : Rd.St} {gr : List UInt8} {s9 : Rd.St} {m : Int} {s10 : Rd.St} {ge : Int} {s11 : Rd.St} {n : Int} {s12 : Rd.St} {t : List (List UInt8)} {s13 : Rd.St}
    (H : RefQ l k s1 nm s2 i s3 c s4 f s5 g s6 b s7 x s8 gr s9 m s10 ge s11 n s12 t s13)
    (hbad : ¬ (s13.2 = 0 ∧ (b ≠ [] → (Bat.dec b 0).2.2 = 0) ∧ (Tree.parse x).2 = 0 ∧ (reqOf k nm i c f g b x gr m ge t).ok = true ∧ (reqOf k nm i c f g b x gr m ge t).body = l)) : Req.dec l = (Req.none, 3) := by
  rcases Req.dec_cases l with h0 | h0
  · exfalso
    apply hbad
    have hd : Req.dec l = ((Req.dec l).1, 0) := Prod.ext rfl h0
    obtain ⟨q, hr⟩ : ∃ r, (Req.dec l).1 = r := ⟨_, rfl⟩
    rw [hr] at hd
    obtain ⟨hs, e1, e2, e3, e4, e5, e6, e7, e8, e9, e10, e11, e12, e13⟩ := H.of_dec hd
    obtain ⟨hok, hl⟩ := Req.dec_ok hd
    have hk := hok
    unfold Req.ok Req.ok0 at hk
    simp only [Bool.and_eq_true] at hk
    obtain ⟨⟨⟨⟨h1, h2⟩, h3⟩, h4⟩, h5⟩ := hk
    have hpx : Tree.parse x = (q.filter, 0) := by rw [e8]; exact Tree.parse_bytes _ h3
    have hfl : (g == 1) = q.flag := by rw [e6]; exact (flagI_bd q.flag).2.2
    have hb2 : (if b = [] then Bat.none else (Bat.dec b 0).1) = q.bat ∧ (b ≠ [] → (Bat.dec b 0).2.2 = 0) := by
      unfold Bat.opt at e7
      cases hem : q.bat.empty
      · rw [hem] at e7
        simp only [Bool.false_eq_true, if_false] at e7
        have hbo : q.bat.ok = true := by unfold Bat.optOk at h2; rw [hem] at h2; simpa using h2
        have hne : b ≠ [] := by rw [e7]; intro hn; have := Bat.bytes_length q.bat; rw [hn] at this; simp at this; omega
        rw [if_neg hne, e7, dec_self hbo]
        exact ⟨rfl, fun _ => rfl⟩
      · rw [hem] at e7
        simp only [if_true] at e7
        rw [if_pos e7, Bat.empty_eq hem]
        exact ⟨rfl, fun h => absurd e7 h⟩
    have hr2 : reqOf k nm i c f g b x gr m ge t = q := by
      unfold reqOf
      rw [hb2.1, hpx, hfl, e1, e2, e3, e4, e5, e9, e10, e11, e13]
    exact ⟨hs, hb2.2, by rw [hpx], by rw [hr2]; exact hok, by rw [hr2]; exact hl.symm⟩
  · exact h0
theorem Req.ref_good {l : List UInt8} {r : Req} (h : r.ok = true) (hl : r.body = l) : Req.dec l = (r, 0) := by rw [← hl]; exact Req.dec_body h

/-- a reading loop: so many are done -/
structure DL {α : Type} (f : Rd.St → α × Rd.St) (k0 : Nat) (s0 : Rd.St) (j : Nat) (done : List α) (st : Rd.St) : Prop where
  len : done.length = j
  le : j ≤ k0
  eq : Rd.loop f k0 s0 = (done ++ (Rd.loop f (k0 - j) st).1, (Rd.loop f (k0 - j) st).2)
theorem DL.start {α : Type} (f : Rd.St → α × Rd.St) (k0 : Nat) (s0 : Rd.St) : DL f k0 s0 0 [] s0 := ⟨rfl, Nat.zero_le _, by simp⟩
theorem DL.next {α : Type} {f : Rd.St → α × Rd.St} {k0 : Nat} {s0 : Rd.St} {j : Nat} {done : List α} {st : Rd.St} (h : DL f k0 s0 j done st) (hj : j < k0) (h0 : st.2 = 0) : DL f k0 s0 (j + 1) (done ++ [(f st).1]) (f st).2 := by
  refine ⟨by simp [h.len], hj, ?_⟩
  rw [h.eq, show k0 - j = (k0 - (j + 1)) + 1 by omega, Rd.loop, if_pos h0]
  simp
theorem DL.stop {α : Type} {f : Rd.St → α × Rd.St} {k0 : Nat} {s0 : Rd.St} {j : Nat} {done : List α} {st : Rd.St} (h : DL f k0 s0 j done st) (hj : k0 ≤ j ∨ st.2 ≠ 0) : Rd.loop f k0 s0 = (done, st) := by
  rw [h.eq]
  rcases hj with hj | hj
  · rw [show k0 - j = 0 by omega]; simp [Rd.loop]
  · rw [Rd.loop_skip f _ hj]; simp
theorem DL.mem {α : Type} {f : Rd.St → α × Rd.St} {k0 : Nat} {s0 : Rd.St} {j : Nat} {done : List α} {st : Rd.St} (h : DL f k0 s0 j done st) (hj : j < k0) (h0 : st.2 = 0) : (f st).1 ∈ (Rd.loop f k0 s0).1 := by
  rw [h.eq, show k0 - j = (k0 - (j + 1)) + 1 by omega, Rd.loop, if_pos h0]
  simp

/-- where the document's reading stands: the result's block, the reader's, the block of what is read -/
structure RS (TV : TypeId) (zc : Array Value) (w0 : World) (q : Nat) (l : List UInt8) (st : Rd.St) (cs : Array Value) (wr : World) : Prop where
  keeps : Keeps w0 wr
  zblk : Blk wr w0.heap.size TV zc
  rdr : Rdr wr (w0.heap.size + 1) 60 l st
  qblk : Blk wr q TV cs
  le : w0.heap.size + 2 ≤ q
section
variable {TV : TypeId} {zc : Array Value} {w0 wr w' : World} {q : Nat} {l : List UInt8} {st st' : Rd.St} {cs : Array Value}
theorem RS.call (h : RS TV zc w0 q l st cs wr) (hr : Rdr w' (w0.heap.size + 1) 60 l st') (ho : Only (w0.heap.size + 1) wr w') : RS TV zc w0 q l st' cs w' :=
  ⟨ho.keeps h.keeps (by omega), h.zblk.grown ho (by simp), hr, h.qblk.grown ho (by have := h.le; simp; omega), h.le⟩
theorem RS.step (h : RS TV zc w0 q l st cs wr) (k : Keeps wr w') : RS TV zc w0 q l st cs w' :=
  ⟨h.keeps.trans k, h.zblk.keeps k, h.rdr.keeps k, h.qblk.keeps k, h.le⟩
theorem RS.set (h : RS TV zc w0 q l st cs wr) (j : Nat) (u : Value) : RS TV zc w0 q l st (cs.setIfInBounds j u) (wr.setCell ⟨q, j, none⟩ u) :=
  ⟨h.keeps.setCell (by have := h.le; simp; omega) u, h.zblk.other _ (by have := h.le; simp; omega) u, Blk.other h.rdr _ (by have := h.le; simp; omega) u, h.qblk.set j u, h.le⟩
theorem RS.other (h : RS TV zc w0 q l st cs wr) (p : Addr) (hp : q < p.block) (u : Value) : RS TV zc w0 q l st cs (wr.setCell p u) :=
  ⟨h.keeps.setCell (by have := h.le; omega) u, h.zblk.other _ (by have := h.le; omega) u, Blk.other h.rdr _ (by have := h.le; omega) u, h.qblk.other _ (by omega) u, h.le⟩
theorem RS.grown {row : Option Nat} (h : RS TV zc w0 q l st cs wr) (g : wr.grownBy w' row) (hr : ∀ k, row = some k → q < k) : RS TV zc w0 q l st cs w' :=
  ⟨h.keeps.grown g (fun k hk => by have := hr k hk; have := h.le; omega), h.zblk.grown g (fun e => by have := hr _ e.symm; have := h.le; omega), Blk.grown h.rdr g (fun e => by have := hr _ e.symm; have := h.le; omega), h.qblk.grown g (fun e => by have := hr _ e.symm; omega), h.le⟩
end
/-- batches that were read -/
structure SQ (q : Nat) (dl : List (Bat × Value)) (vo : Value) (wr : World) : Prop where
  own : Own wr (q + 1) 6 vo dl.length (bcellsL dl)
  old : ∀ g, vo.ownBlock = some g → g < wr.heap.size
  kin : ∀ (i : Nat) (x : Bat × Value), dl[i]? = some x → RsIn (fun g => q < g ∧ vo.ownBlock ≠ some g) wr x.2 x.1.recs
theorem SQ.start (q : Nat) (wr : World) : SQ q [] (.slice none 0 0) wr := ⟨Own.nil _ _ _, fun g hg => by simp [Value.ownBlock] at hg, fun i x hx => by simp at hx⟩
theorem SQ.only {q b : Nat} {dl : List (Bat × Value)} {vo : Value} {w w' : World} (h : SQ q dl vo w) (ho : Only b w w') (hb : b ≤ q) : SQ q dl vo w' :=
  ⟨h.own.only ho (by omega), fun g hg => Nat.lt_of_lt_of_le (h.old g hg) ho.size, fun i x hx => (h.kin i x hx).move (fun g hg hlt => ⟨hg, World.grownBy.block ho g hlt (by simp; omega)⟩)⟩
theorem SQ.step {q : Nat} {dl : List (Bat × Value)} {vo : Value} {w w' : World} (h : SQ q dl vo w) (k : Keeps w w') : SQ q dl vo w' :=
  ⟨h.own.keeps k, fun g hg => Nat.lt_of_lt_of_le (h.old g hg) k.size, fun i x hx => (h.kin i x hx).keeps k⟩
theorem SQ.set {q : Nat} {dl : List (Bat × Value)} {vo : Value} {w : World} (h : SQ q dl vo w) (j : Nat) (u : Value) : SQ q dl vo (w.setCell ⟨q, j, none⟩ u) :=
  h.only ((Only.refl q w).set j u) (Nat.le_refl _)
theorem SQ.more {q : Nat} {dl : List (Bat × Value)} {vo vo' : Value} {w w' : World} (h : SQ q dl vo w) {b : Bat} {lv : Value}
    (hp : RsIn (fun g => q < g ∧ vo.ownBlock ≠ some g) w lv b.recs) (hown : Own w' (q + 1) 6 vo' (dl.length + 1) (bcellsL dl ++ bcell (b, lv))) (hg : w.grownBy w' vo.ownBlock) (hnew : ∀ g, vo'.ownBlock = some g → vo.ownBlock = some g ∨ w.heap.size ≤ g) :
    SQ q (dl ++ [(b, lv)]) vo' w' := by
  have hmv : ∀ {v : Value} {hs : List Rec}, RsIn (fun g => q < g ∧ vo.ownBlock ≠ some g) w v hs → RsIn (fun g => q < g ∧ vo'.ownBlock ≠ some g) w' v hs := fun hp => hp.move fun g hg' hlt =>
    ⟨⟨hg'.1, fun e => by
      rcases hnew g e with h1 | h1
      · exact hg'.2 h1
      · omega⟩, hg.block g hlt (fun e => hg'.2 e.symm)⟩
  refine ⟨?_, ?_, ?_⟩
  · rw [List.length_append, bcellsL_append]
    simpa [bcellsL] using hown
  · intro g hg'
    obtain ⟨g', cap, rfl, _, hl, _⟩ := Own.form hown (by decide) (by omega)
    simp [Value.ownBlock] at hg'; omega
  · intro i x hi
    rw [List.getElem?_append] at hi
    split at hi
    · exact hmv (h.kin i x hi)
    · rename_i hil
      obtain ⟨h1, h2⟩ := List.getElem?_eq_some_iff.1 hi
      simp at h1
      simp [show i - dl.length = 0 by omega] at h2
      subst h2
      exact hmv hp
theorem SQ.fin {q : Nat} {dl : List (Bat × Value)} {vo : Value} {w : World} (h : SQ q dl vo w) (hl : dl.length ≤ 9223372036854775807) : BsIn (fun g => q < g ∧ g < w.heap.size) w vo (dl.map (·.1)) :=
  BsIn.of_own h.own hl (fun g hg => ⟨by have := h.own.base g hg; omega, h.old g hg⟩) (fun i x hx => (h.kin i x hx).move (fun g hg hlt => ⟨⟨hg.1, hlt⟩, rfl⟩))
/-- what lies between is as it was -/
theorem BsIn.mid {q m : Nat} {w w' : World} {v : Value} {l : List Bat} (h : BsIn (fun g => q < g ∧ g < m) w v l) (k : ∀ g, q < g → g < m → w'.heap[g]? = w.heap[g]?) : BsIn (fun g => q < g ∧ g < m) w' v l :=
  BsIn.move (fun g hg _ => ⟨hg, k g hg.1 hg.2⟩) h
theorem Fl.mid {α : Type} {size : Nat} {f : α → List Value} {q m : Nat} {w w' : World} {v : Value} {l : List α} (hf : ∀ x, ∃ u, (f x)[0]? = some u) (h : Fl size f (fun g => q < g ∧ g < m) w v l) (k : ∀ g, q < g → g < m → w'.heap[g]? = w.heap[g]?) : Fl size f (fun g => q < g ∧ g < m) w' v l :=
  h.move (fun g hg _ => ⟨hg, k g hg.1 hg.2⟩) hf
/-- behind an append to a row that lies farther: what lies between is as it was -/
theorem far_app {q m b j : Nat} {u1 u2 w' : World} {o : Obj} {row : Option Nat} {v : Value} (hm : m ≤ u1.heap.size) (hb : b ≤ q) (ho : Only b u1.drew u2) (hg : (u2.alloc o).grownBy w' row) (hr : ∀ k, row = some k → m ≤ k) :
    ∀ g, q < g → g < m → (w'.setCell ⟨q, j, none⟩ v).heap[g]? = u1.heap[g]? := by
  intro g h1 h2
  have e1 : (w'.setCell ⟨q, j, none⟩ v).heap[g]? = w'.heap[g]? := Below.heap_setCell _ _ _ _ (by show g ≠ q; omega)
  have hs : u1.drew.heap.size = u1.heap.size := rfl
  have h3 : g < u2.heap.size := Nat.lt_of_lt_of_le (by omega : g < u1.drew.heap.size) ho.size
  have e2 : w'.heap[g]? = (u2.alloc o).heap[g]? := World.grownBy.block hg g (by rw [World.size_alloc]; omega) (fun e => by have := hr g e.symm; omega)
  have e3 : (u2.alloc o).heap[g]? = u2.heap[g]? := ((Keeps.refl u2).alloc o).block h3
  have e4 : u2.heap[g]? = u1.drew.heap[g]? := World.grownBy.block ho g (by omega) (by simp; omega)
  rw [e1, e2, e3, e4]
  rfl
end Go.Proofs.YtgbnpehpfadehaaGreatDoor

namespace Go.Proofs.YtgbnpehpfadehaaGreatDoor
open Go.RowKit

theorem Req.refB_ok (r : Req) : r.refB.2 = r.ok := by
  unfold Req.refB Req.ok
  cases h : r.ok0 <;> simp
theorem Req.refB_body {r : Req} (h : r.ok = true) : r.refB.1 = r.body := by
  unfold Req.ok at h
  simp only [Bool.and_eq_true] at h
  unfold Req.refB; rw [if_pos h.1]
theorem Feeds.new1 {P : Program} (w : World) (t : TypeId) (u : Value) (hu : u.oneCell' = true) (c : Nat) : Feeds P (w.alloc (.cells #[u] t)) 1 (.slice (some ⟨w.heap.size, 0, none⟩) 1 c) 1 [u] := by
  refine Feeds.slice rfl (fun j x hj => ?_) (fun x hx => ?_)
  · rw [Go.WideShapes.add_plain, Nat.zero_add]
    match j, hj with
    | 0, hj => simp at hj; subst hj; exact cell_new w _ t 0 _ rfl
    | j + 1, hj => simp at hj
  · simp at hx; subst hx; exact hu
theorem Blk.setMany {w : World} {q : Nat} {t : TypeId} {cs : Array Value} (h : Blk w q t cs) (o : Nat) (vs : List Value) : Blk (w.setCells q o vs) q t (setMany cs o vs) := Blk.setCells vs o cs h

set_option maxRecDepth 8000 in
set_option maxHeartbeats 40000000 in
theorem ref_reqDecode (l : List UInt8) (hl : l.length ≤ 2 ^ 62) (w : World) :
    Calls Tryz.prog 6 #[.string (str l)] w (ReqRet (Req.dec l) w) := by
  have hsz := str_size
  obtain ⟨i0, hi, hz0, hz1, hz2⟩ := info_parts info_lS
  have hll : l.length ≤ 9223372036854775807 := by omega
  have F0 : Rd.Fine l (0, 0) := ⟨by decide, by decide, by decide, by decide⟩
  have F1 := F0.num hll
  have C1 := fun b w hr => ref_number b l hl _ F0 w hr
  obtain ⟨⟨k, s1⟩, e1⟩ : ∃ x, Rd.num l (0, 0) = x := ⟨_, rfl⟩
  rw [e1] at C1 F1
  have F2 := F1.1.txt (most := 100) hll
  have C2 := fun b w hr => ref_rtext b l hl _ F1.1 100 w hr
  obtain ⟨⟨nm, s2⟩, e2⟩ : ∃ x, Rd.txt 100 l s1 = x := ⟨_, rfl⟩
  rw [e2] at C2 F2
  have F3 := F2.1.num hll
  have C3 := fun b w hr => ref_number b l hl _ F2.1 w hr
  obtain ⟨⟨i, s3⟩, e3⟩ : ∃ x, Rd.num l s2 = x := ⟨_, rfl⟩
  rw [e3] at C3 F3
  have F4 := F3.1.num hll
  have C4 := fun b w hr => ref_number b l hl _ F3.1 w hr
  obtain ⟨⟨c, s4⟩, e4⟩ : ∃ x, Rd.num l s3 = x := ⟨_, rfl⟩
  rw [e4] at C4 F4
  have F5 := F4.1.num hll
  have C5 := fun b w hr => ref_number b l hl _ F4.1 w hr
  obtain ⟨⟨f, s5⟩, e5⟩ : ∃ x, Rd.num l s4 = x := ⟨_, rfl⟩
  rw [e5] at C5 F5
  have F6 := F5.1.num hll
  have C6 := fun b w hr => ref_number b l hl _ F5.1 w hr
  obtain ⟨⟨g, s6⟩, e6⟩ : ∃ x, Rd.num l s5 = x := ⟨_, rfl⟩
  rw [e6] at C6 F6
  have F7 := F6.1.txt (most := 60000) hll
  have C7 := fun b w hr => ref_rtext b l hl _ F6.1 60000 w hr
  obtain ⟨⟨b, s7⟩, e7⟩ : ∃ x, Rd.txt 60000 l s6 = x := ⟨_, rfl⟩
  rw [e7] at C7 F7
  have F8 := F7.1.txt (most := 60000) hll
  have C8 := fun b w hr => ref_rtext b l hl _ F7.1 60000 w hr
  obtain ⟨⟨x, s8⟩, e8⟩ : ∃ x, Rd.txt 60000 l s7 = x := ⟨_, rfl⟩
  rw [e8] at C8 F8
  have F9 := F8.1.txt (most := 100) hll
  have C9 := fun b w hr => ref_rtext b l hl _ F8.1 100 w hr
  obtain ⟨⟨gr, s9⟩, e9⟩ : ∃ x, Rd.txt 100 l s8 = x := ⟨_, rfl⟩
  rw [e9] at C9 F9
  have F10 := F9.1.num hll
  have C10 := fun b w hr => ref_number b l hl _ F9.1 w hr
  obtain ⟨⟨m, s10⟩, e10⟩ : ∃ x, Rd.num l s9 = x := ⟨_, rfl⟩
  rw [e10] at C10 F10
  have F11 := F10.1.num hll
  have C11 := fun b w hr => ref_number b l hl _ F10.1 w hr
  obtain ⟨⟨ge, s11⟩, e11⟩ : ∃ x, Rd.num l s10 = x := ⟨_, rfl⟩
  rw [e11] at C11 F11
  have F12 := F11.1.num hll
  have C12 := fun b w hr => ref_number b l hl _ F11.1 w hr
  obtain ⟨⟨n, s12⟩, e12⟩ : ∃ x, Rd.num l s11 = x := ⟨_, rfl⟩
  rw [e12] at C12 F12
  have HE := Lib.hid (show Rd.num l (0, 0) = (k, s1) ∧ Rd.txt 100 l s1 = (nm, s2) ∧ Rd.num l s2 = (i, s3) ∧ Rd.num l s3 = (c, s4) ∧ Rd.num l s4 = (f, s5) ∧ Rd.num l s5 = (g, s6) ∧ Rd.txt 60000 l s6 = (b, s7) ∧ Rd.txt 60000 l s7 = (x, s8) ∧ Rd.txt 100 l s8 = (gr, s9) ∧ Rd.num l s9 = (m, s10) ∧ Rd.num l s10 = (ge, s11) ∧ Rd.num l s11 = (n, s12) from ⟨e1, e2, e3, e4, e5, e6, e7, e8, e9, e10, e11, e12⟩)
  have HC1 := Lib.hid C1
  have HC2 := Lib.hid C2
  have HC3 := Lib.hid C3
  have HC4 := Lib.hid C4
  have HC5 := Lib.hid C5
  have HC6 := Lib.hid C6
  have HC7 := Lib.hid C7
  have HC8 := Lib.hid C8
  have HC9 := Lib.hid C9
  have HC10 := Lib.hid C10
  have HC11 := Lib.hid C11
  have HC12 := Lib.hid C12
  have HF12 := Lib.hid F12.1
  have HBL := Lib.hid (show b.length ≤ 60000 by have := F7.2; simp only at this; omega)
  have HXL := Lib.hid (show x.length ≤ 60000 by have := F8.2; simp only at this; omega)
  clear C1 F1 e1 C2 F2 e2 C3 F3 e3 C4 F4 e4 C5 F5 e5 C6 F6 e6 C7 F7 e7 C8 F8 e8 C9 F9 e9 C10 F10 e10 C11 F11 e11 C12 F12 e12 F0
  obtain ⟨gb, hgb⟩ : ∃ y, (g == 1) = y := ⟨_, rfl⟩
  have HGB := Lib.hid hgb
  go_enter Tryz.func6, Tryz.ntmps6
  go_wp2_with fail
  have hd0 : RS 35 #[.int .i64 0, .string ⟨#[]⟩, .int .i64 0, .int .i64 0, .int .i64 0, .bool false, .int .i64 0, .int .i64 0, .int .i64 0, .int .i64 0, .int .i64 0, .slice none 0 0, .int .i64 0, .string ⟨#[]⟩, .string ⟨#[]⟩, .slice none 0 0, .string ⟨#[]⟩, .int .i64 0, .int .i64 0, .slice none 0 0] w (w.heap.size + 2) l (0, 0) #[.int .i64 0, .string ⟨#[]⟩, .int .i64 0, .int .i64 0, .int .i64 0, .bool false, .int .i64 0, .int .i64 0, .int .i64 0, .int .i64 0, .int .i64 0, .slice none 0 0, .int .i64 0, .string ⟨#[]⟩, .string ⟨#[]⟩, .slice none 0 0, .string ⟨#[]⟩, .int .i64 0, .int .i64 0, .slice none 0 0] (((w.alloc (.cells #[.int .i64 0, .string ⟨#[]⟩, .int .i64 0, .int .i64 0, .int .i64 0, .bool false, .int .i64 0, .int .i64 0, .int .i64 0, .int .i64 0, .int .i64 0, .slice none 0 0, .int .i64 0, .string ⟨#[]⟩, .string ⟨#[]⟩, .slice none 0 0, .string ⟨#[]⟩, .int .i64 0, .int .i64 0, .slice none 0 0] 35)).alloc (.cells #[.string (str l), .int .i64 0, .int .i64 0] 60)).alloc (.cells #[.int .i64 0, .string ⟨#[]⟩, .int .i64 0, .int .i64 0, .int .i64 0, .bool false, .int .i64 0, .int .i64 0, .int .i64 0, .int .i64 0, .int .i64 0, .slice none 0 0, .int .i64 0, .string ⟨#[]⟩, .string ⟨#[]⟩, .slice none 0 0, .string ⟨#[]⟩, .int .i64 0, .int .i64 0, .slice none 0 0] 35)) :=
    ⟨(((Keeps.refl w).alloc _).alloc _).alloc _, ((Blk.new w _ _).keeps ((Keeps.refl _).alloc _)).keeps ((Keeps.refl _).alloc _), Blk.keeps (heap_alloc2_new _ _ _) ((Keeps.refl _).alloc _), by have := Blk.new ((w.alloc (.cells #[.int .i64 0, .string ⟨#[]⟩, .int .i64 0, .int .i64 0, .int .i64 0, .bool false, .int .i64 0, .int .i64 0, .int .i64 0, .int .i64 0, .int .i64 0, .slice none 0 0, .int .i64 0, .string ⟨#[]⟩, .string ⟨#[]⟩, .slice none 0 0, .string ⟨#[]⟩, .int .i64 0, .int .i64 0, .slice none 0 0] 35)).alloc (.cells #[.string (str l), .int .i64 0, .int .i64 0] 60)) 35 #[.int .i64 0, .string ⟨#[]⟩, .int .i64 0, .int .i64 0, .int .i64 0, .bool false, .int .i64 0, .int .i64 0, .int .i64 0, .int .i64 0, .int .i64 0, .slice none 0 0, .int .i64 0, .string ⟨#[]⟩, .string ⟨#[]⟩, .slice none 0 0, .string ⟨#[]⟩, .int .i64 0, .int .i64 0, .slice none 0 0]; rwa [World.size_alloc, World.size_alloc] at this, Nat.le_refl _⟩
  obtain ⟨q, hq⟩ : ∃ q, w.heap.size + 2 = q := ⟨_, rfl⟩
  rw [hq] at hd0
  have hq' : w.heap.size + 1 + 1 = q := hq
  refine (HC1.out (w.heap.size + 1) _ hd0.rdr).mono ?_
  rintro e' w1 ⟨rfl, hr, ho⟩
  have hd1 := hd0.call hr ho
  clear hr ho hd0
  rw [hq']
  clear hq hq'
  have hd1 : RS 35 #[.int .i64 0, .string ⟨#[]⟩, .int .i64 0, .int .i64 0, .int .i64 0, .bool false, .int .i64 0, .int .i64 0, .int .i64 0, .int .i64 0, .int .i64 0, .slice none 0 0, .int .i64 0, .string ⟨#[]⟩, .string ⟨#[]⟩, .slice none 0 0, .string ⟨#[]⟩, .int .i64 0, .int .i64 0, .slice none 0 0] w q l s1 #[.int .i64 0, .string ⟨#[]⟩, .int .i64 0, .int .i64 0, .int .i64 0, .bool false, .int .i64 0, .int .i64 0, .int .i64 0, .int .i64 0, .int .i64 0, .slice none 0 0, .int .i64 0, .string ⟨#[]⟩, .string ⟨#[]⟩, .slice none 0 0, .string ⟨#[]⟩, .int .i64 0, .int .i64 0, .slice none 0 0] w1 := hd1
  have q0 := hd1.qblk.cell 0 _ rfl
  have r0 := hd1.qblk.frozen 0
  go_wp2_with fail
  have hd1 := hd1.set 0 (.int .i64 k)
  refine (HC2.out (w.heap.size + 1) _ hd1.rdr).mono ?_
  rintro e' w2 ⟨rfl, hr, ho⟩
  have hd2 := hd1.call hr ho
  clear hr ho hd1 q0 r0
  have hd2 : RS 35 #[.int .i64 0, .string ⟨#[]⟩, .int .i64 0, .int .i64 0, .int .i64 0, .bool false, .int .i64 0, .int .i64 0, .int .i64 0, .int .i64 0, .int .i64 0, .slice none 0 0, .int .i64 0, .string ⟨#[]⟩, .string ⟨#[]⟩, .slice none 0 0, .string ⟨#[]⟩, .int .i64 0, .int .i64 0, .slice none 0 0] w q l s2 #[.int .i64 k, .string ⟨#[]⟩, .int .i64 0, .int .i64 0, .int .i64 0, .bool false, .int .i64 0, .int .i64 0, .int .i64 0, .int .i64 0, .int .i64 0, .slice none 0 0, .int .i64 0, .string ⟨#[]⟩, .string ⟨#[]⟩, .slice none 0 0, .string ⟨#[]⟩, .int .i64 0, .int .i64 0, .slice none 0 0] w2 := hd2
  have q0 := hd2.qblk.cell 1 _ rfl
  have r0 := hd2.qblk.frozen 1
  go_wp2_with fail
  have hd2 := hd2.set 1 (.string (str nm))
  refine (HC3.out (w.heap.size + 1) _ hd2.rdr).mono ?_
  rintro e' w3 ⟨rfl, hr, ho⟩
  have hd3 := hd2.call hr ho
  clear hr ho hd2 q0 r0
  have hd3 : RS 35 #[.int .i64 0, .string ⟨#[]⟩, .int .i64 0, .int .i64 0, .int .i64 0, .bool false, .int .i64 0, .int .i64 0, .int .i64 0, .int .i64 0, .int .i64 0, .slice none 0 0, .int .i64 0, .string ⟨#[]⟩, .string ⟨#[]⟩, .slice none 0 0, .string ⟨#[]⟩, .int .i64 0, .int .i64 0, .slice none 0 0] w q l s3 #[.int .i64 k, .string (str nm), .int .i64 0, .int .i64 0, .int .i64 0, .bool false, .int .i64 0, .int .i64 0, .int .i64 0, .int .i64 0, .int .i64 0, .slice none 0 0, .int .i64 0, .string ⟨#[]⟩, .string ⟨#[]⟩, .slice none 0 0, .string ⟨#[]⟩, .int .i64 0, .int .i64 0, .slice none 0 0] w3 := hd3
  have q0 := hd3.qblk.cell 2 _ rfl
  have r0 := hd3.qblk.frozen 2
  go_wp2_with fail
  have hd3 := hd3.set 2 (.int .i64 i)
  refine (HC4.out (w.heap.size + 1) _ hd3.rdr).mono ?_
  rintro e' w4 ⟨rfl, hr, ho⟩
  have hd4 := hd3.call hr ho
  clear hr ho hd3 q0 r0
  have hd4 : RS 35 #[.int .i64 0, .string ⟨#[]⟩, .int .i64 0, .int .i64 0, .int .i64 0, .bool false, .int .i64 0, .int .i64 0, .int .i64 0, .int .i64 0, .int .i64 0, .slice none 0 0, .int .i64 0, .string ⟨#[]⟩, .string ⟨#[]⟩, .slice none 0 0, .string ⟨#[]⟩, .int .i64 0, .int .i64 0, .slice none 0 0] w q l s4 #[.int .i64 k, .string (str nm), .int .i64 i, .int .i64 0, .int .i64 0, .bool false, .int .i64 0, .int .i64 0, .int .i64 0, .int .i64 0, .int .i64 0, .slice none 0 0, .int .i64 0, .string ⟨#[]⟩, .string ⟨#[]⟩, .slice none 0 0, .string ⟨#[]⟩, .int .i64 0, .int .i64 0, .slice none 0 0] w4 := hd4
  have q0 := hd4.qblk.cell 3 _ rfl
  have r0 := hd4.qblk.frozen 3
  go_wp2_with fail
  have hd4 := hd4.set 3 (.int .i64 c)
  refine (HC5.out (w.heap.size + 1) _ hd4.rdr).mono ?_
  rintro e' w5 ⟨rfl, hr, ho⟩
  have hd5 := hd4.call hr ho
  clear hr ho hd4 q0 r0
  have hd5 : RS 35 #[.int .i64 0, .string ⟨#[]⟩, .int .i64 0, .int .i64 0, .int .i64 0, .bool false, .int .i64 0, .int .i64 0, .int .i64 0, .int .i64 0, .int .i64 0, .slice none 0 0, .int .i64 0, .string ⟨#[]⟩, .string ⟨#[]⟩, .slice none 0 0, .string ⟨#[]⟩, .int .i64 0, .int .i64 0, .slice none 0 0] w q l s5 #[.int .i64 k, .string (str nm), .int .i64 i, .int .i64 c, .int .i64 0, .bool false, .int .i64 0, .int .i64 0, .int .i64 0, .int .i64 0, .int .i64 0, .slice none 0 0, .int .i64 0, .string ⟨#[]⟩, .string ⟨#[]⟩, .slice none 0 0, .string ⟨#[]⟩, .int .i64 0, .int .i64 0, .slice none 0 0] w5 := hd5
  have q0 := hd5.qblk.cell 4 _ rfl
  have r0 := hd5.qblk.frozen 4
  go_wp2_with fail
  have hd5 := hd5.set 4 (.int .i64 f)
  refine (HC6.out (w.heap.size + 1) _ hd5.rdr).mono ?_
  rintro e' w6 ⟨rfl, hr, ho⟩
  have hd6 := hd5.call hr ho
  clear hr ho hd5 q0 r0
  have hd6 : RS 35 #[.int .i64 0, .string ⟨#[]⟩, .int .i64 0, .int .i64 0, .int .i64 0, .bool false, .int .i64 0, .int .i64 0, .int .i64 0, .int .i64 0, .int .i64 0, .slice none 0 0, .int .i64 0, .string ⟨#[]⟩, .string ⟨#[]⟩, .slice none 0 0, .string ⟨#[]⟩, .int .i64 0, .int .i64 0, .slice none 0 0] w q l s6 #[.int .i64 k, .string (str nm), .int .i64 i, .int .i64 c, .int .i64 f, .bool false, .int .i64 0, .int .i64 0, .int .i64 0, .int .i64 0, .int .i64 0, .slice none 0 0, .int .i64 0, .string ⟨#[]⟩, .string ⟨#[]⟩, .slice none 0 0, .string ⟨#[]⟩, .int .i64 0, .int .i64 0, .slice none 0 0] w6 := hd6
  have q0 := hd6.qblk.cell 5 _ rfl
  have r0 := hd6.qblk.frozen 5
  go_wp2_with fail
  have hd6 := hd6.set 5 (.bool gb)
  refine (HC7.out (w.heap.size + 1) _ hd6.rdr).mono ?_
  rintro e' w7 ⟨rfl, hr, ho⟩
  have hd7 := hd6.call hr ho
  clear hr ho hd6 q0 r0
  have hd7 : RS 35 #[.int .i64 0, .string ⟨#[]⟩, .int .i64 0, .int .i64 0, .int .i64 0, .bool false, .int .i64 0, .int .i64 0, .int .i64 0, .int .i64 0, .int .i64 0, .slice none 0 0, .int .i64 0, .string ⟨#[]⟩, .string ⟨#[]⟩, .slice none 0 0, .string ⟨#[]⟩, .int .i64 0, .int .i64 0, .slice none 0 0] w q l s7 #[.int .i64 k, .string (str nm), .int .i64 i, .int .i64 c, .int .i64 f, .bool gb, .int .i64 0, .int .i64 0, .int .i64 0, .int .i64 0, .int .i64 0, .slice none 0 0, .int .i64 0, .string ⟨#[]⟩, .string ⟨#[]⟩, .slice none 0 0, .string ⟨#[]⟩, .int .i64 0, .int .i64 0, .slice none 0 0] w7 := hd7
  go_wp2_with fail
  refine (HC8.out (w.heap.size + 1) _ hd7.rdr).mono ?_
  rintro e' w8 ⟨rfl, hr, ho⟩
  have hd8 := hd7.call hr ho
  clear hr ho hd7
  have hd8 : RS 35 #[.int .i64 0, .string ⟨#[]⟩, .int .i64 0, .int .i64 0, .int .i64 0, .bool false, .int .i64 0, .int .i64 0, .int .i64 0, .int .i64 0, .int .i64 0, .slice none 0 0, .int .i64 0, .string ⟨#[]⟩, .string ⟨#[]⟩, .slice none 0 0, .string ⟨#[]⟩, .int .i64 0, .int .i64 0, .slice none 0 0] w q l s8 #[.int .i64 k, .string (str nm), .int .i64 i, .int .i64 c, .int .i64 f, .bool gb, .int .i64 0, .int .i64 0, .int .i64 0, .int .i64 0, .int .i64 0, .slice none 0 0, .int .i64 0, .string ⟨#[]⟩, .string ⟨#[]⟩, .slice none 0 0, .string ⟨#[]⟩, .int .i64 0, .int .i64 0, .slice none 0 0] w8 := hd8
  go_wp2_with fail
  refine (HC9.out (w.heap.size + 1) _ hd8.rdr).mono ?_
  rintro e' w9 ⟨rfl, hr, ho⟩
  have hd9 := hd8.call hr ho
  clear hr ho hd8
  have hd9 : RS 35 #[.int .i64 0, .string ⟨#[]⟩, .int .i64 0, .int .i64 0, .int .i64 0, .bool false, .int .i64 0, .int .i64 0, .int .i64 0, .int .i64 0, .int .i64 0, .slice none 0 0, .int .i64 0, .string ⟨#[]⟩, .string ⟨#[]⟩, .slice none 0 0, .string ⟨#[]⟩, .int .i64 0, .int .i64 0, .slice none 0 0] w q l s9 #[.int .i64 k, .string (str nm), .int .i64 i, .int .i64 c, .int .i64 f, .bool gb, .int .i64 0, .int .i64 0, .int .i64 0, .int .i64 0, .int .i64 0, .slice none 0 0, .int .i64 0, .string ⟨#[]⟩, .string ⟨#[]⟩, .slice none 0 0, .string ⟨#[]⟩, .int .i64 0, .int .i64 0, .slice none 0 0] w9 := hd9
  have q0 := hd9.qblk.cell 16 _ rfl
  have r0 := hd9.qblk.frozen 16
  go_wp2_with fail
  have hd9 := hd9.set 16 (.string (str gr))
  refine (HC10.out (w.heap.size + 1) _ hd9.rdr).mono ?_
  rintro e' w10 ⟨rfl, hr, ho⟩
  have hd10 := hd9.call hr ho
  clear hr ho hd9 q0 r0
  have hd10 : RS 35 #[.int .i64 0, .string ⟨#[]⟩, .int .i64 0, .int .i64 0, .int .i64 0, .bool false, .int .i64 0, .int .i64 0, .int .i64 0, .int .i64 0, .int .i64 0, .slice none 0 0, .int .i64 0, .string ⟨#[]⟩, .string ⟨#[]⟩, .slice none 0 0, .string ⟨#[]⟩, .int .i64 0, .int .i64 0, .slice none 0 0] w q l s10 #[.int .i64 k, .string (str nm), .int .i64 i, .int .i64 c, .int .i64 f, .bool gb, .int .i64 0, .int .i64 0, .int .i64 0, .int .i64 0, .int .i64 0, .slice none 0 0, .int .i64 0, .string ⟨#[]⟩, .string ⟨#[]⟩, .slice none 0 0, .string (str gr), .int .i64 0, .int .i64 0, .slice none 0 0] w10 := hd10
  have q0 := hd10.qblk.cell 17 _ rfl
  have r0 := hd10.qblk.frozen 17
  go_wp2_with fail
  have hd10 := hd10.set 17 (.int .i64 m)
  refine (HC11.out (w.heap.size + 1) _ hd10.rdr).mono ?_
  rintro e' w11 ⟨rfl, hr, ho⟩
  have hd11 := hd10.call hr ho
  clear hr ho hd10 q0 r0
  have hd11 : RS 35 #[.int .i64 0, .string ⟨#[]⟩, .int .i64 0, .int .i64 0, .int .i64 0, .bool false, .int .i64 0, .int .i64 0, .int .i64 0, .int .i64 0, .int .i64 0, .slice none 0 0, .int .i64 0, .string ⟨#[]⟩, .string ⟨#[]⟩, .slice none 0 0, .string ⟨#[]⟩, .int .i64 0, .int .i64 0, .slice none 0 0] w q l s11 #[.int .i64 k, .string (str nm), .int .i64 i, .int .i64 c, .int .i64 f, .bool gb, .int .i64 0, .int .i64 0, .int .i64 0, .int .i64 0, .int .i64 0, .slice none 0 0, .int .i64 0, .string ⟨#[]⟩, .string ⟨#[]⟩, .slice none 0 0, .string (str gr), .int .i64 m, .int .i64 0, .slice none 0 0] w11 := hd11
  have q0 := hd11.qblk.cell 18 _ rfl
  have r0 := hd11.qblk.frozen 18
  go_wp2_with fail
  have hd11 := hd11.set 18 (.int .i64 ge)
  refine (HC12.out (w.heap.size + 1) _ hd11.rdr).mono ?_
  rintro e' w12 ⟨rfl, hr, ho⟩
  have hd12 := hd11.call hr ho
  clear hr ho hd11 q0 r0
  have hd12 : RS 35 #[.int .i64 0, .string ⟨#[]⟩, .int .i64 0, .int .i64 0, .int .i64 0, .bool false, .int .i64 0, .int .i64 0, .int .i64 0, .int .i64 0, .int .i64 0, .slice none 0 0, .int .i64 0, .string ⟨#[]⟩, .string ⟨#[]⟩, .slice none 0 0, .string ⟨#[]⟩, .int .i64 0, .int .i64 0, .slice none 0 0] w q l s12 #[.int .i64 k, .string (str nm), .int .i64 i, .int .i64 c, .int .i64 f, .bool gb, .int .i64 0, .int .i64 0, .int .i64 0, .int .i64 0, .int .i64 0, .slice none 0 0, .int .i64 0, .string ⟨#[]⟩, .string ⟨#[]⟩, .slice none 0 0, .string (str gr), .int .i64 m, .int .i64 ge, .slice none 0 0] w12 := hd12
  clear hgb
  obtain ⟨k1, hk1⟩ : ∃ k, min n.toNat 21 = k := ⟨_, rfl⟩
  have HK1 := Lib.hid hk1
  have HD12 := Lib.hid hd12
  clear hk1 hd12
  go_wp2_with fail
  go_loopw [9] (fun iv wr => ∃ (j : Nat) (done : List (List UInt8)) (st : Rd.St) (vo : Value), iv = .int .i64 j ∧ RS 35 #[.int .i64 0, .string ⟨#[]⟩, .int .i64 0, .int .i64 0, .int .i64 0, .bool false, .int .i64 0, .int .i64 0, .int .i64 0, .int .i64 0, .int .i64 0, .slice none 0 0, .int .i64 0, .string ⟨#[]⟩, .string ⟨#[]⟩, .slice none 0 0, .string ⟨#[]⟩, .int .i64 0, .int .i64 0, .slice none 0 0] w q l st #[.int .i64 k, .string (str nm), .int .i64 i, .int .i64 c, .int .i64 f, .bool gb, .int .i64 0, .int .i64 0, .int .i64 0, .int .i64 0, .int .i64 0, .slice none 0 0, .int .i64 0, .string ⟨#[]⟩, .string ⟨#[]⟩, .slice none 0 0, .string (str gr), .int .i64 m, .int .i64 ge, vo] wr ∧ Own wr (q + 1) 1 vo done.length (done.flatMap tcell) ∧ (∀ g, vo.ownBlock = some g → g < wr.heap.size) ∧ DL (Rd.txt 100 l) k1 s12 j done st ∧ Rd.Fine l st) (fun iv _ => k1 - (intOf iv).toNat)
  case atStart => exact ⟨0, [], s12, .slice none 0 0, rfl, HD12.out, Own.nil _ _ _, fun g hg => by simp [Value.ownBlock] at hg, DL.start _ _ _, HF12.out⟩
  case round =>
    obtain ⟨j, done, st, vo, rfl, hds, hown, hold, hdl, hfi⟩ := hrel
    obtain ⟨ao, capo, rfl, -⟩ := hown.slice
    obtain ⟨b0, b1, b2⟩ := hds.rdr.cells
    obtain ⟨x1, hx1⟩ : ∃ x, decide ((j : Int) < n) = x := ⟨_, rfl⟩
    obtain ⟨x2, hx2⟩ : ∃ x, decide ((j : Int) < 21) = x := ⟨_, rfl⟩
    obtain ⟨x3, hx3⟩ : ∃ x, (st.2 == 0) = x := ⟨_, rfl⟩
    have HX1 := Lib.hid hx1
    have HX2 := Lib.hid hx2
    have HX3 := Lib.hid hx3
    have HDS := Lib.hid hds
    have HOWN := Lib.hid hown
    have HOLD := Lib.hid hold
    have HDL := Lib.hid hdl
    have HFI := Lib.hid hfi
    have HDJ := Lib.hid hdl.len
    clear hds hown hold hdl hfi
    go_upto_region 16 with fail
    go_cut [67] from 54 to 76 (fun s67 wx => s67 = .bool (x1 && (x2 && x3)) ∧ wx = wr)
    case first =>
      cases x1
      · go_wp2_with fail
        go_meet
        exact ⟨rfl, rfl⟩
      · cases x2
        · go_wp2_with fail
          go_meet
          exact ⟨rfl, rfl⟩
        · cases x3
          · go_wp2_with fail
            go_meet
            exact ⟨rfl, rfl⟩
          · go_wp2_with fail
            go_meet
            exact ⟨rfl, rfl⟩
    case rest =>
    obtain ⟨rfl, rfl⟩ := hcut
    clear b0 b1 b2 hx1 hx2 hx3
    by_cases hgo : (x1 && (x2 && x3)) = true
    · rw [hgo]
      simp only [Bool.and_eq_true] at hgo
      obtain ⟨rfl, rfl, rfl⟩ := hgo
      have h1 := HX1.out
      have h2 := HX2.out
      have h3 := HX3.out
      simp only [decide_eq_true_eq, beq_iff_eq] at h1 h2 h3
      have hjk : j < k1 := by rw [← HK1.out]; omega
      have HJK := Lib.hid hjk
      have T1 := fun w' hr => ref_rtext (w.heap.size + 1) l hl st HFI.out 100 w' hr
      have HT := HFI.out.txt (most := 100) hll
      have HNX := HDL.out.next hjk h3
      obtain ⟨⟨X, t1⟩, g1⟩ : ∃ x, Rd.txt 100 l st = x := ⟨_, rfl⟩
      rw [g1] at T1 HT HNX
      have HFT := Lib.hid HT.1
      have T1 := Lib.hid T1
      have HNX := Lib.hid HNX
      have hdl5 := Lib.hid (show done.length ≤ 400 by rw [HDJ.out]; omega)
      have hqs := HDS.out.qblk.lt
      have hj5 : j ≤ 500 := by omega
      clear hjk h1 h2 h3 HT g1
      have hdr := (Keeps.refl wc).drew
      have p0 := HDS.out.qblk.cell 19 _ rfl
      go_wp2_with fail
      go_region_law (first
        | (refine step_append_new rfl (.tmp 71) (.tmp 74) 29 29 rfl (q + 1) 9 i0 (.string ⟨#[]⟩) 1 16 Tryz.underlying29 ⟨_, Tryz.underlying29, fun _ h => by cases h⟩ hi hz0 hz1 hz2 rfl (by decide) (.slice ao done.length capo) done.length (done.flatMap tcell) rfl hown3.out (.slice (some ⟨u2.heap.size, 0, none⟩) 1 1) 1 [.string (str X)] rfl hfd.out (by have := hdl5.out; unfold maxLen; omega) (by have := hdl5.out; omega) hszq.out ?_; intro v' w' hown hg hnew; have hds4 := Lib.hid ((hds2.out.step ((Keeps.refl u2).alloc (.cells #[.string (str X)] 9))).grown hg (fun k hk => by have := hown3.out.base k hk; omega)); have z0 := hds4.out.qblk.cell 19 _ rfl; have y0 := hds4.out.qblk.frozen 19; obtain ⟨ad2, cap2, rfl, -⟩ := hown.slice)
        | (go_simp; go_at_call 17; refine (T1.out _ (HDS.out.step hdr).rdr).mono ?_; rintro e' u2 ⟨rfl, hr2, ho2⟩; have hds2 := Lib.hid ((HDS.out.step hdr).call hr2 ho2); have q0' := hds2.out.qblk.cell 19 _ rfl; have r0' := hds2.out.qblk.frozen 19; have hlt2 := hds2.out.qblk.lt; have hfd := Lib.hid (Feeds.new1 (P := Tryz.prog) u2 9 (.string (str X)) rfl 1); have hown3 := Lib.hid (((HOWN.out.keeps hdr).only ho2 (by have := HDS.out.le; omega)).keeps ((Keeps.refl u2).alloc (.cells #[.string (str X)] 9))); have hszq := Lib.hid (show q + 1 ≤ (u2.alloc (.cells #[.string (str X)] 9)).heap.size by rw [World.size_alloc]; omega)))
      all_goals
        go_wp2_with fail
        refine ⟨⟨j + 1, done ++ [X], t1, .slice ad2 (done.length + 1) cap2, by go_num, hds4.out.set 19 _, ?_, ?_, HNX.out, HFT.out⟩, by have := HJK.out; simp [intOf]; omega⟩
        · rw [List.flatMap_append, List.length_append]
          exact Own.other (by simpa [tcell] using hown) _ (by show q < q + 1; omega) _
        · intro g hg'
          rw [World.size_setCell]
          rcases hnew g hg' with h1 | h1
          · have := HOLD.out g h1; have h2 := ho2.size; have h3 := hg.size; rw [World.size_alloc] at h3; have h4 : wc.drew.heap.size = wc.heap.size := rfl; omega
          · obtain ⟨g', cc, e1, _, h5, _⟩ := Own.form hown (by decide) (by omega)
            rw [e1] at hg'; simp [Value.ownBlock] at hg'; omega
    · simp only [Bool.not_eq_true] at hgo
      rw [hgo]
      have hstop : Rd.loop (Rd.txt 100 l) k1 s12 = (done, st) := HDL.out.stop (by
        have h1 := HX1.out; have h2 := HX2.out; have h3 := HX3.out
        have hk := HK1.out
        by_cases hst : st.2 = 0
        · refine .inl ?_
          have h3' : x3 = true := by rw [← h3]; simpa using hst
          rw [h3'] at hgo
          cases x1
          · simp at h1; omega
          · cases x2
            · simp at h2; omega
            · simp at hgo
        · exact .inr hst)
      have HS1 := Lib.hid hstop
      clear hgo hstop
      have HDT5 := Lib.hid (show done.length ≤ 21 by rw [HDL.out.len]; have := HDL.out.le; have := HK1.out; omega)
      obtain ⟨m2, hm2⟩ : ∃ m, wc.heap.size = m := ⟨_, rfl⟩
      have hfl : Fl 1 tcell (fun g => q < g ∧ g < m2) wc (.slice ao done.length capo) done := Fl.of_own HOWN.out (by have := HDT5.out; omega) (fun x => rfl) (fun g hg => ⟨by have := HOWN.out.base g hg; omega, by rw [← hm2]; exact HOLD.out g hg⟩)
      have HFL := Lib.hid hfl
      have HM2 := Lib.hid hm2
      have HQM := Lib.hid (show q < m2 by rw [← hm2]; exact HDS.out.qblk.lt)
      have HREF := Lib.hid (show RefQ l k s1 nm s2 i s3 c s4 f s5 g s6 b s7 x s8 gr s9 m s10 ge s11 n s12 done st from ⟨HE.out.1, HE.out.2.1, HE.out.2.2.1, HE.out.2.2.2.1, HE.out.2.2.2.2.1, HE.out.2.2.2.2.2.1, HE.out.2.2.2.2.2.2.1, HE.out.2.2.2.2.2.2.2.1, HE.out.2.2.2.2.2.2.2.2.1, HE.out.2.2.2.2.2.2.2.2.2.1, HE.out.2.2.2.2.2.2.2.2.2.2.1, HE.out.2.2.2.2.2.2.2.2.2.2.2, by rw [HK1.out]; exact HS1.out⟩)
      clear hfl hm2
      obtain ⟨b0, b1, b2⟩ := HDS.out.rdr.cells
      by_cases hst : st.2 = 0
      case neg =>
        have hst2 : (st.2 != 0) = true := by simpa using hst
        have HBD := Lib.hid (show Req.dec l = (Req.none, 3) from Req.ref_bad HREF.out (fun hc => hst hc.1))
        clear hst
        go_upto_region 20 with fail
        refine wp_region_lit ?_
        refine wpList_plain (by rfl) fun _ hK => ?_
        go_simp
        refine hK _ _ ?_
        clear hK
        try simp only [Act.put, List.setIfInBounds_toArray, List.set_cons_zero, List.set_cons_succ]
        have hzb : Blk _ w.heap.size 35 (reqCells Req.none (.slice none 0 0) (.slice none 0 0) (.slice none 0 0)) := HDS.out.zblk
        refine wpList_store_mid (by rfl) 35 (.tmp 2) (.tmp 82) (by rfl) w.heap.size 0 (reqCells Req.none (.slice none 0 0) (.slice none 0 0) (.slice none 0 0)) (by rfl) (by rfl) (there_req hzb) size_rq19' one_req ?_
        have hfb := setCells_req (q' := Req.none) (x := .slice none 0 0) (y := .slice none 0 0) (z := .slice none 0 0) hzb
        have hlv := run_loadVar_mid (P := Tryz.prog) _ w.heap.size 0 35 (reqList Req.none (.slice none 0 0) (.slice none 0 0) (.slice none 0 0)) _ (rng_of_blk hfb) Tryz.underlying35 rfl size_rq19
        have HKF := Lib.hid (Keeps.setCells (q := w.heap.size) (Nat.le_refl _) (reqCells Req.none (.slice none 0 0) (.slice none 0 0) (.slice none 0 0)).toList 0 HDS.out.keeps)
        generalize World.setCells _ w.heap.size 0 (reqCells Req.none (.slice none 0 0) (.slice none 0 0) (.slice none 0 0)).toList = wf at hlv HKF ⊢
        go_wp2_with fail
        refine bodyPost_ret (v := .tuple #[reqV Req.none (.slice none 0 0) (.slice none 0 0) (.slice none 0 0), .int .i64 3]) (results_cell2 rfl rfl rfl hlv) rfl ?_
        rw [HBD.out]
        exact ⟨_, _, _, rfl, ReqIn.nil _ _, HKF.out⟩
      have hst2 : (st.2 != 0) = false := by simpa using hst
      have HST := Lib.hid hst
      clear hst
      obtain ⟨be, hbe⟩ : ∃ e, (str b).toList.isEmpty = e := ⟨_, rfl⟩
      have HBE := Lib.hid hbe
      go_upto_if 84 with fail
      go_cut [] from 17 (fun wx => ∃ (wn : World) (Bt : Bat) (ab : Option Addr) (nb cb : Nat), wn = wx ∧ RS 35 #[.int .i64 0, .string ⟨#[]⟩, .int .i64 0, .int .i64 0, .int .i64 0, .bool false, .int .i64 0, .int .i64 0, .int .i64 0, .int .i64 0, .int .i64 0, .slice none 0 0, .int .i64 0, .string ⟨#[]⟩, .string ⟨#[]⟩, .slice none 0 0, .string ⟨#[]⟩, .int .i64 0, .int .i64 0, .slice none 0 0] w q l st #[.int .i64 k, .string (str nm), .int .i64 i, .int .i64 c, .int .i64 f, .bool gb, .int .i64 Bt.base, .int .i64 Bt.span, .int .i64 Bt.prod, .int .i64 Bt.epoch, .int .i64 Bt.seq, .slice ab nb cb, .int .i64 0, .string ⟨#[]⟩, .string ⟨#[]⟩, .slice none 0 0, .string (str gr), .int .i64 m, .int .i64 ge, .slice ao done.length capo] wn ∧ Fl 1 tcell (fun g => q < g ∧ g < m2) wn (.slice ao done.length capo) done ∧ RsIn (fun g => q < g ∧ g < wn.heap.size) wn (.slice ab nb cb) Bt.recs ∧ Bt = (if b = [] then Bat.none else (Bat.dec b 0).1) ∧ (b ≠ [] → (Bat.dec b 0).2.2 = 0) ∧ m2 ≤ wn.heap.size)
      case first =>
        clear hbe
        cases be
        rotate_left
        · have HB := Lib.hid (show b = [] by have h := HBE.out; rw [str_toList] at h; simpa using h)
          go_wp2_with fail
          go_meet
          exact ⟨_, Bat.none, none, 0, 0, rfl, HDS.out, HFL.out, RsIn.nil _ _, by rw [if_pos HB.out], fun h => absurd HB.out h, Nat.le_of_eq HM2.out.symm⟩
        · have hb : b ≠ [] := by have h := HBE.out; rw [str_toList] at h; simpa using h
          have HB := Lib.hid hb
          have D1 := fun w' => ref_bdecode b (by have := HBL.out; omega) 0 w'
          obtain ⟨⟨bt, tt, ee⟩, hg⟩ : ∃ g, Bat.dec b 0 = g := ⟨_, rfl⟩
          rw [hg] at D1
          have HG := Lib.hid hg
          have D1 := Lib.hid D1
          clear hb hg
          by_cases he : ee = 0
          · subst he
            go_wp2_with fail
            refine (D1.out _).mono ?_
            rintro e' u2 ⟨lv, rfl, hrs, hk2⟩
            obtain ⟨adb, capb, rfl⟩ := hrs.form
            simp only [retBt, batV]
            have hkal := (Keeps.refl u2).alloc (.cells #[.int .i64 bt.base, .int .i64 bt.span, .int .i64 bt.prod, .int .i64 bt.epoch, .int .i64 bt.seq, .slice adb bt.recs.length capb] 25)
            obtain ⟨z0, z1, z2, z3, z4, z5⟩ := (Blk.new u2 25 #[.int .i64 bt.base, .int .i64 bt.span, .int .i64 bt.prod, .int .i64 bt.epoch, .int .i64 bt.seq, .slice adb bt.recs.length capb]).six
            have hk3 := hk2.trans hkal
            have hds3 := Lib.hid (HDS.out.step hk3)
            have hfl3 := Lib.hid (HFL.out.mid (fun x => ⟨_, rfl⟩) (fun g h1 h2 => hk3.block (by rw [HM2.out]; exact h2)))
            have hsz3 := Lib.hid (show m2 ≤ (u2.alloc (.cells #[.int .i64 bt.base, .int .i64 bt.span, .int .i64 bt.prod, .int .i64 bt.epoch, .int .i64 bt.seq, .slice adb bt.recs.length capb] 25)).heap.size by rw [← HM2.out]; exact hk3.size)
            have hrs3 := Lib.hid ((hrs.mono (T := fun g => q < g) (fun g hg => by have := HDS.out.qblk.lt; omega)).keeps hkal)
            have q6 := hds3.out.qblk.cell 6 _ rfl
            have r6 := hds3.out.qblk.frozen 6
            have q7 := hds3.out.qblk.cell 7 _ rfl
            have r7 := hds3.out.qblk.frozen 7
            have q8 := hds3.out.qblk.cell 8 _ rfl
            have r8 := hds3.out.qblk.frozen 8
            have q9 := hds3.out.qblk.cell 9 _ rfl
            have r9 := hds3.out.qblk.frozen 9
            have q10 := hds3.out.qblk.cell 10 _ rfl
            have r10 := hds3.out.qblk.frozen 10
            have q11 := hds3.out.qblk.cell 11 _ rfl
            have r11 := hds3.out.qblk.frozen 11
            clear hrs hk2 hk3 hkal
            go_wp2_with fail
            go_meet
            refine ⟨_, bt, adb, bt.recs.length, capb, rfl, (((((hds3.out.set 6 _).set 7 _).set 8 _).set 9 _).set 10 _).set 11 _, ?_, ?_, by rw [if_neg HB.out, HG.out], fun _ => by rw [HG.out], ?_⟩
            · refine hfl3.out.mid (fun x => ⟨_, rfl⟩) (fun g h1 h2 => ?_)
              repeat rw [Below.heap_setCell _ _ _ _ (by show g ≠ q; omega)]
            · refine RsIn.move (S := fun g => q < g) (fun g hg hlt => ⟨⟨hg, by simpa [World.size_setCell] using hlt⟩, ?_⟩) hrs3.out
              repeat rw [Below.heap_setCell _ _ _ _ (by show g ≠ q; omega)]
            · simp only [World.size_setCell]; exact hsz3.out
          · have hne : (ee != 0) = true := by simpa using he
            have HBD := Lib.hid (show Req.dec l = (Req.none, 3) from Req.ref_bad HREF.out (fun hc => he (by have := hc.2.1 HB.out; rw [HG.out] at this; exact this)))
            clear he
            go_wp2_with fail
            refine (D1.out _).mono ?_
            rintro e' u2 ⟨lv, rfl, hrs, hk2⟩
            obtain ⟨adb, capb, rfl⟩ := hrs.form
            simp only [retBt, batV]
            have hk3 := hk2.alloc (.cells #[.int .i64 bt.base, .int .i64 bt.span, .int .i64 bt.prod, .int .i64 bt.epoch, .int .i64 bt.seq, .slice adb bt.recs.length capb] 25)
            have HDF := Lib.hid (HDS.out.step hk3)
            clear hrs hk2 hk3
            go_upto_region 24 with fail
            refine wp_region_lit ?_
            refine wpList_plain (by rfl) fun _ hK => ?_
            go_simp
            refine hK _ _ ?_
            clear hK
            try simp only [Act.put, List.setIfInBounds_toArray, List.set_cons_zero, List.set_cons_succ]
            have hzb : Blk _ w.heap.size 35 (reqCells Req.none (.slice none 0 0) (.slice none 0 0) (.slice none 0 0)) := HDF.out.zblk
            refine wpList_store_mid (by rfl) 35 (.tmp 2) (.tmp 93) (by rfl) w.heap.size 0 (reqCells Req.none (.slice none 0 0) (.slice none 0 0) (.slice none 0 0)) (by rfl) (by rfl) (there_req hzb) size_rq19' one_req ?_
            have hfb := setCells_req (q' := Req.none) (x := .slice none 0 0) (y := .slice none 0 0) (z := .slice none 0 0) hzb
            have hlv := run_loadVar_mid (P := Tryz.prog) _ w.heap.size 0 35 (reqList Req.none (.slice none 0 0) (.slice none 0 0) (.slice none 0 0)) _ (rng_of_blk hfb) Tryz.underlying35 rfl size_rq19
            have HKF := Lib.hid (Keeps.setCells (q := w.heap.size) (Nat.le_refl _) (reqCells Req.none (.slice none 0 0) (.slice none 0 0) (.slice none 0 0)).toList 0 HDF.out.keeps)
            generalize World.setCells _ w.heap.size 0 (reqCells Req.none (.slice none 0 0) (.slice none 0 0) (.slice none 0 0)).toList = wf at hlv HKF ⊢
            go_wp2_with fail
            refine bodyPost_ret (v := .tuple #[reqV Req.none (.slice none 0 0) (.slice none 0 0) (.slice none 0 0), .int .i64 3]) (results_cell2 rfl rfl rfl hlv) rfl ?_
            rw [HBD.out]
            exact ⟨_, _, _, rfl, ReqIn.nil _ _, HKF.out⟩
      case rest =>
      obtain ⟨w25, Bt, ab, nb, cb, rfl, hds5, hfl5, hrs5, hbt5, hbe5, hm5⟩ := hcut
      have HDS5 := Lib.hid hds5
      have HFL5 := Lib.hid hfl5
      have HRS5 := Lib.hid hrs5
      have HBT5 := Lib.hid hbt5
      have HBE5 := Lib.hid hbe5
      have HM5 := Lib.hid hm5
      clear hds5 hfl5 hrs5 hbt5 hbe5 hm5 b0 b1 b2
      have PX := fun w' => ref_parse x (by have := HXL.out; omega) w'
      obtain ⟨⟨tx, te⟩, hpx⟩ : ∃ r, Tree.parse x = r := ⟨_, rfl⟩
      rw [hpx] at PX
      have HPX := Lib.hid hpx
      have PX := Lib.hid PX
      clear hpx
      go_wp2_with fail
      refine (PX.out _).mono ?_
      rintro e' w26 ⟨kv, rfl, hkin, hk26⟩
      obtain ⟨ak, ck, rfl⟩ := hkin.at_.form
      simp only [retX, treeV]
      have hkal := (Keeps.refl w26).alloc (.cells #[.int .i64 tx.op, .string (str tx.name), .string (str tx.value), .slice ak tx.kids.length ck] 28)
      have hk27 := hk26.trans hkal
      have hds7 := Lib.hid (HDS5.out.step hk27)
      have hfl7 := Lib.hid (HFL5.out.mid (fun x => ⟨_, rfl⟩) (fun g h1 h2 => hk27.block (Nat.lt_of_lt_of_le h2 HM5.out)))
      have hrs7 := Lib.hid (HRS5.out.keeps hk27)
      have hkin7 := Lib.hid (hkin.move (T := fun g => q < g) (w' := (w26.alloc (.cells #[.int .i64 tx.op, .string (str tx.name), .string (str tx.value), .slice ak tx.kids.length ck] 28))) (fun g hg hlt => ⟨by have := HDS5.out.qblk.lt; omega, hkal.block hlt⟩))
      have hsl := Lib.hid (show w25.heap.size ≤ (w26.alloc (.cells #[.int .i64 tx.op, .string (str tx.name), .string (str tx.value), .slice ak tx.kids.length ck] 28)).heap.size from hk27.size)
      have hne7 : ¬ q = w26.heap.size := by have := (HDS5.out.step hk26).qblk.lt; omega
      have z0 := cell_new w26 #[.int .i64 tx.op, .string (str tx.name), .string (str tx.value), .slice ak tx.kids.length ck] 28 0 _ rfl
      have z1 := cell_new w26 #[.int .i64 tx.op, .string (str tx.name), .string (str tx.value), .slice ak tx.kids.length ck] 28 1 _ rfl
      have z2 := cell_new w26 #[.int .i64 tx.op, .string (str tx.name), .string (str tx.value), .slice ak tx.kids.length ck] 28 2 _ rfl
      have z3 := cell_new w26 #[.int .i64 tx.op, .string (str tx.name), .string (str tx.value), .slice ak tx.kids.length ck] 28 3 _ rfl
      clear hkin hk26 hk27 hkal
      by_cases hte : te = 0
      case neg =>
        have hte2 : (te != 0) = true := by simpa using hte
        have HBD := Lib.hid (show Req.dec l = (Req.none, 3) from Req.ref_bad HREF.out (fun hc => hte (by have := hc.2.2.1; rw [HPX.out] at this; exact this)))
        have HDF := hds7
        clear hte
        go_upto_region 28 with fail
        refine wp_region_lit ?_
        refine wpList_plain (by rfl) fun _ hK => ?_
        go_simp
        refine hK _ _ ?_
        clear hK
        try simp only [Act.put, List.setIfInBounds_toArray, List.set_cons_zero, List.set_cons_succ]
        have hzb : Blk _ w.heap.size 35 (reqCells Req.none (.slice none 0 0) (.slice none 0 0) (.slice none 0 0)) := HDF.out.zblk
        refine wpList_store_mid (by rfl) 35 (.tmp 2) (.tmp 103) (by rfl) w.heap.size 0 (reqCells Req.none (.slice none 0 0) (.slice none 0 0) (.slice none 0 0)) (by rfl) (by rfl) (there_req hzb) size_rq19' one_req ?_
        have hfb := setCells_req (q' := Req.none) (x := .slice none 0 0) (y := .slice none 0 0) (z := .slice none 0 0) hzb
        have hlv := run_loadVar_mid (P := Tryz.prog) _ w.heap.size 0 35 (reqList Req.none (.slice none 0 0) (.slice none 0 0) (.slice none 0 0)) _ (rng_of_blk hfb) Tryz.underlying35 rfl size_rq19
        have HKF := Lib.hid (Keeps.setCells (q := w.heap.size) (Nat.le_refl _) (reqCells Req.none (.slice none 0 0) (.slice none 0 0) (.slice none 0 0)).toList 0 HDF.out.keeps)
        generalize World.setCells _ w.heap.size 0 (reqCells Req.none (.slice none 0 0) (.slice none 0 0) (.slice none 0 0)).toList = wf at hlv HKF ⊢
        go_wp2_with fail
        refine bodyPost_ret (v := .tuple #[reqV Req.none (.slice none 0 0) (.slice none 0 0) (.slice none 0 0), .int .i64 3]) (results_cell2 rfl rfl rfl hlv) rfl ?_
        rw [HBD.out]
        exact ⟨_, _, _, rfl, ReqIn.nil _ _, HKF.out⟩
      subst hte
      have q12 := hds7.out.qblk.cell 12 _ rfl
      have r12 := hds7.out.qblk.frozen 12
      have q13 := hds7.out.qblk.cell 13 _ rfl
      have r13 := hds7.out.qblk.frozen 13
      have q14 := hds7.out.qblk.cell 14 _ rfl
      have r14 := hds7.out.qblk.frozen 14
      have q15 := hds7.out.qblk.cell 15 _ rfl
      have r15 := hds7.out.qblk.frozen 15
      have HRR := Lib.hid (show reqOf k nm i c f g b x gr m ge done = (Req.mk k nm i c f gb Bt tx gr m ge done) by unfold reqOf; rw [← HBT5.out, HPX.out, HGB.out])
      have hsame : ∀ y, q < y → ((((((w26.alloc (.cells #[.int .i64 tx.op, .string (str tx.name), .string (str tx.value), .slice ak tx.kids.length ck] 28)).setCell ⟨q, 12, none⟩ (.int .i64 tx.op)).setCell ⟨q, 13, none⟩ (.string (str tx.name))).setCell ⟨q, 14, none⟩ (.string (str tx.value))).setCell ⟨q, 15, none⟩ (.slice ak tx.kids.length ck))).heap[y]? = ((w26.alloc (.cells #[.int .i64 tx.op, .string (str tx.name), .string (str tx.value), .slice ak tx.kids.length ck] 28))).heap[y]? := fun y hy => by
        repeat rw [Below.heap_setCell _ _ _ _ (by show y ≠ q; omega)]
      have hsiz : ((((((w26.alloc (.cells #[.int .i64 tx.op, .string (str tx.name), .string (str tx.value), .slice ak tx.kids.length ck] 28)).setCell ⟨q, 12, none⟩ (.int .i64 tx.op)).setCell ⟨q, 13, none⟩ (.string (str tx.name))).setCell ⟨q, 14, none⟩ (.string (str tx.value))).setCell ⟨q, 15, none⟩ (.slice ak tx.kids.length ck))).heap.size = ((w26.alloc (.cells #[.int .i64 tx.op, .string (str tx.name), .string (str tx.value), .slice ak tx.kids.length ck] 28))).heap.size := by simp only [World.size_setCell]
      have hri : ReqIn (fun y => q < y ∧ y < ((((((w26.alloc (.cells #[.int .i64 tx.op, .string (str tx.name), .string (str tx.value), .slice ak tx.kids.length ck] 28)).setCell ⟨q, 12, none⟩ (.int .i64 tx.op)).setCell ⟨q, 13, none⟩ (.string (str tx.name))).setCell ⟨q, 14, none⟩ (.string (str tx.value))).setCell ⟨q, 15, none⟩ (.slice ak tx.kids.length ck))).heap.size) (((((w26.alloc (.cells #[.int .i64 tx.op, .string (str tx.name), .string (str tx.value), .slice ak tx.kids.length ck] 28)).setCell ⟨q, 12, none⟩ (.int .i64 tx.op)).setCell ⟨q, 13, none⟩ (.string (str tx.name))).setCell ⟨q, 14, none⟩ (.string (str tx.value))).setCell ⟨q, 15, none⟩ (.slice ak tx.kids.length ck)) (Req.mk k nm i c f gb Bt tx gr m ge done) (.slice ab nb cb) (.slice ak tx.kids.length ck) (.slice ao done.length capo) := by
        rw [hsiz]
        exact ⟨RsIn.move (fun y hy hlt => ⟨⟨hy.1, hlt⟩, hsame y hy.1⟩) hrs7.out, KIn.move (fun y hy hlt => ⟨⟨hy, hlt⟩, hsame y hy⟩) hkin7.out, Fl.move (fun y hy hlt => ⟨⟨hy.1, hlt⟩, hsame y hy.1⟩) (fun x => ⟨_, rfl⟩) hfl7.out⟩
      have hds8 : RS 35 #[.int .i64 0, .string ⟨#[]⟩, .int .i64 0, .int .i64 0, .int .i64 0, .bool false, .int .i64 0, .int .i64 0, .int .i64 0, .int .i64 0, .int .i64 0, .slice none 0 0, .int .i64 0, .string ⟨#[]⟩, .string ⟨#[]⟩, .slice none 0 0, .string ⟨#[]⟩, .int .i64 0, .int .i64 0, .slice none 0 0] w q l st (reqCells (Req.mk k nm i c f gb Bt tx gr m ge done) (.slice ab nb cb) (.slice ak tx.kids.length ck) (.slice ao done.length capo)) (((((w26.alloc (.cells #[.int .i64 tx.op, .string (str tx.name), .string (str tx.value), .slice ak tx.kids.length ck] 28)).setCell ⟨q, 12, none⟩ (.int .i64 tx.op)).setCell ⟨q, 13, none⟩ (.string (str tx.name))).setCell ⟨q, 14, none⟩ (.string (str tx.value))).setCell ⟨q, 15, none⟩ (.slice ak tx.kids.length ck)) := (((hds7.out.set 12 _).set 13 _).set 14 _).set 15 _
      have HRI := Lib.hid hri
      have HDS8 := Lib.hid hds8
      have HRP := ref_request (Req.mk k nm i c f gb Bt tx gr m ge done) _ _ _ _ _ hri
      have hRok := Req.refB_ok (Req.mk k nm i c f gb Bt tx gr m ge done)
      have hRbd := Req.refB_body (r := (Req.mk k nm i c f gb Bt tx gr m ge done))
      obtain ⟨R1, R2, hR⟩ : ∃ r1 r2, (Req.refB (Req.mk k nm i c f gb Bt tx gr m ge done)) = (r1, r2) := ⟨_, _, rfl⟩
      rw [hR] at HRP hRok hRbd
      simp only at HRP hRok hRbd
      have HRP := Lib.hid HRP
      have HROK := Lib.hid hRok
      have HRBD := Lib.hid hRbd
      clear hri hds8 hRok hRbd hR hsame hsiz
      go_upto_region 30 with fail
      go_cut [15, 16] from 17 (fun s15 s16 wx => ∃ (wn : World), wn = wx ∧ s15 = .string (str R1) ∧ s16 = .bool R2 ∧ RS 35 #[.int .i64 0, .string ⟨#[]⟩, .int .i64 0, .int .i64 0, .int .i64 0, .bool false, .int .i64 0, .int .i64 0, .int .i64 0, .int .i64 0, .int .i64 0, .slice none 0 0, .int .i64 0, .string ⟨#[]⟩, .string ⟨#[]⟩, .slice none 0 0, .string ⟨#[]⟩, .int .i64 0, .int .i64 0, .slice none 0 0] w q l st (reqCells (Req.mk k nm i c f gb Bt tx gr m ge done) (.slice ab nb cb) (.slice ak tx.kids.length ck) (.slice ao done.length capo)) wn ∧ ReqIn (fun y => q < y ∧ y < wn.heap.size) wn (Req.mk k nm i c f gb Bt tx gr m ge done) (.slice ab nb cb) (.slice ak tx.kids.length ck) (.slice ao done.length capo))
      case first =>
        refine wp_region_lit ?_
        refine wpList_load_mid (by rfl) 35 (.tmp 5) (by rfl) q 0 (by rfl) (reqList (Req.mk k nm i c f gb Bt tx gr m ge done) (.slice ab nb cb) (.slice ak tx.kids.length ck) (.slice ao done.length capo)) _ (rng_of_blk HDS8.out.qblk) Tryz.underlying35 (by rfl) size_rq19 ?_
        simp only [Act.put, List.setIfInBounds_toArray, List.set_cons_zero, List.set_cons_succ]
        go_wp2_with fail
        refine HRP.out.mono ?_
        rintro e' wd ⟨rfl, hkc⟩
        have HDC := Lib.hid (HDS8.out.step hkc)
        have HRC := Lib.hid (HRI.out.move (T := fun y => q < y ∧ y < wd.heap.size) (w' := wd) (fun y hy hlt => ⟨⟨hy.1, Nat.lt_of_lt_of_le hy.2 hkc.size⟩, hkc.block hlt⟩))
        clear hkc
        go_wp2_with fail
        go_meet
        exact ⟨_, rfl, rfl, rfl, HDC.out, HRC.out⟩
      case rest =>
      obtain ⟨w30, rfl, rfl, rfl, hd30, hr30⟩ := hcut
      have HDF := Lib.hid hd30
      have HRI2 := Lib.hid hr30
      clear hd30 hr30
      cases R2
      · have HBD := Lib.hid (show Req.dec l = (Req.none, 3) from Req.ref_bad HREF.out (fun hc => by have h1 := HROK.out; have h2 := hc.2.2.2.1; rw [HRR.out] at h2; rw [h2] at h1; cases h1))
        go_upto_region 32 with fail
        refine wp_region_lit ?_
        refine wpList_plain (by rfl) fun _ hK => ?_
        go_simp
        refine hK _ _ ?_
        clear hK
        try simp only [Act.put, List.setIfInBounds_toArray, List.set_cons_zero, List.set_cons_succ]
        have hzb : Blk _ w.heap.size 35 (reqCells Req.none (.slice none 0 0) (.slice none 0 0) (.slice none 0 0)) := HDF.out.zblk
        refine wpList_store_mid (by rfl) 35 (.tmp 2) (.tmp 118) (by rfl) w.heap.size 0 (reqCells Req.none (.slice none 0 0) (.slice none 0 0) (.slice none 0 0)) (by rfl) (by rfl) (there_req hzb) size_rq19' one_req ?_
        have hfb := setCells_req (q' := Req.none) (x := .slice none 0 0) (y := .slice none 0 0) (z := .slice none 0 0) hzb
        have hlv := run_loadVar_mid (P := Tryz.prog) _ w.heap.size 0 35 (reqList Req.none (.slice none 0 0) (.slice none 0 0) (.slice none 0 0)) _ (rng_of_blk hfb) Tryz.underlying35 rfl size_rq19
        have HKF := Lib.hid (Keeps.setCells (q := w.heap.size) (Nat.le_refl _) (reqCells Req.none (.slice none 0 0) (.slice none 0 0) (.slice none 0 0)).toList 0 HDF.out.keeps)
        generalize World.setCells _ w.heap.size 0 (reqCells Req.none (.slice none 0 0) (.slice none 0 0) (.slice none 0 0)).toList = wf at hlv HKF ⊢
        go_wp2_with fail
        refine bodyPost_ret (v := .tuple #[reqV Req.none (.slice none 0 0) (.slice none 0 0) (.slice none 0 0), .int .i64 3]) (results_cell2 rfl rfl rfl hlv) rfl ?_
        rw [HBD.out]
        exact ⟨_, _, _, rfl, ReqIn.nil _ _, HKF.out⟩
      · by_cases hteq : R1 = l
        · subst hteq
          have HGD := Lib.hid (show Req.dec R1 = ((Req.mk k nm i c f gb Bt tx gr m ge done), 0) from Req.ref_good HROK.out.symm (HRBD.out HROK.out.symm).symm)
          go_upto_region 33 with fail
          refine wp_region_lit ?_
          refine wpList_load_mid (by rfl) 35 (.tmp 5) (by rfl) q 0 (by rfl) (reqList (Req.mk k nm i c f gb Bt tx gr m ge done) (.slice ab nb cb) (.slice ak tx.kids.length ck) (.slice ao done.length capo)) _ (rng_of_blk HDF.out.qblk) Tryz.underlying35 (by rfl) size_rq19 ?_
          simp only [Act.put, List.setIfInBounds_toArray, List.set_cons_zero, List.set_cons_succ]
          have hzb : Blk _ w.heap.size 35 (reqCells Req.none (.slice none 0 0) (.slice none 0 0) (.slice none 0 0)) := HDF.out.zblk
          refine wpList_store_mid (by rfl) 35 (.tmp 2) (.tmp 119) (by rfl) w.heap.size 0 (reqCells (Req.mk k nm i c f gb Bt tx gr m ge done) (.slice ab nb cb) (.slice ak tx.kids.length ck) (.slice ao done.length capo)) (by rfl) (by rfl) (there_req hzb) size_rq19' one_req ?_
          have hfb := setCells_req (q' := (Req.mk k nm i c f gb Bt tx gr m ge done)) (x := .slice ab nb cb) (y := .slice ak tx.kids.length ck) (z := .slice ao done.length capo) hzb
          have hlv := run_loadVar_mid (P := Tryz.prog) _ w.heap.size 0 35 (reqList (Req.mk k nm i c f gb Bt tx gr m ge done) (.slice ab nb cb) (.slice ak tx.kids.length ck) (.slice ao done.length capo)) _ (rng_of_blk hfb) Tryz.underlying35 rfl size_rq19
          have HKF := Lib.hid (Keeps.setCells (q := w.heap.size) (Nat.le_refl _) (reqCells (Req.mk k nm i c f gb Bt tx gr m ge done) (.slice ab nb cb) (.slice ak tx.kids.length ck) (.slice ao done.length capo)).toList 0 HDF.out.keeps)
          have HRF := Lib.hid (HRI2.out.move (T := fun y => w.heap.size ≤ y) (w' := World.setCells w30 w.heap.size 0 (reqCells (Req.mk k nm i c f gb Bt tx gr m ge done) (.slice ab nb cb) (.slice ak tx.kids.length ck) (.slice ao done.length capo)).toList) (fun y hy hlt => ⟨by have := HDF.out.le; omega, (Two.setCells2 (c := w.heap.size) _ 0 (Two.refl w.heap.size w.heap.size w30)).block y hlt (by have := HDF.out.le; omega) (by have := HDF.out.le; omega)⟩))
          generalize World.setCells w30 w.heap.size 0 (reqCells (Req.mk k nm i c f gb Bt tx gr m ge done) (.slice ab nb cb) (.slice ak tx.kids.length ck) (.slice ao done.length capo)).toList = wf at hlv HKF HRF ⊢
          go_wp2_with fail
          refine bodyPost_ret (v := .tuple #[reqV (Req.mk k nm i c f gb Bt tx gr m ge done) (.slice ab nb cb) (.slice ak tx.kids.length ck) (.slice ao done.length capo), .int .i64 0]) (results_cell2 rfl rfl rfl hlv) rfl ?_
          rw [HGD.out]
          exact ⟨_, _, _, rfl, HRF.out, HKF.out⟩
        · have HBD := Lib.hid (show Req.dec l = (Req.none, 3) from Req.ref_bad HREF.out (fun hc => hteq ((HRBD.out (by have h2 := hc.2.2.2.1; rw [HRR.out] at h2; exact h2)).trans (by have h2 := hc.2.2.2.2; rw [HRR.out] at h2; exact h2))))
          have hsb : ((str R1).toList == (str l).toList) = false := by rw [str_toList, str_toList]; simpa using hteq
          clear hteq
          go_upto_region 32 with fail
          refine wp_region_lit ?_
          refine wpList_plain (by rfl) fun _ hK => ?_
          go_simp
          refine hK _ _ ?_
          clear hK
          try simp only [Act.put, List.setIfInBounds_toArray, List.set_cons_zero, List.set_cons_succ]
          have hzb : Blk _ w.heap.size 35 (reqCells Req.none (.slice none 0 0) (.slice none 0 0) (.slice none 0 0)) := HDF.out.zblk
          refine wpList_store_mid (by rfl) 35 (.tmp 2) (.tmp 118) (by rfl) w.heap.size 0 (reqCells Req.none (.slice none 0 0) (.slice none 0 0) (.slice none 0 0)) (by rfl) (by rfl) (there_req hzb) size_rq19' one_req ?_
          have hfb := setCells_req (q' := Req.none) (x := .slice none 0 0) (y := .slice none 0 0) (z := .slice none 0 0) hzb
          have hlv := run_loadVar_mid (P := Tryz.prog) _ w.heap.size 0 35 (reqList Req.none (.slice none 0 0) (.slice none 0 0) (.slice none 0 0)) _ (rng_of_blk hfb) Tryz.underlying35 rfl size_rq19
          have HKF := Lib.hid (Keeps.setCells (q := w.heap.size) (Nat.le_refl _) (reqCells Req.none (.slice none 0 0) (.slice none 0 0) (.slice none 0 0)).toList 0 HDF.out.keeps)
          generalize World.setCells _ w.heap.size 0 (reqCells Req.none (.slice none 0 0) (.slice none 0 0) (.slice none 0 0)).toList = wf at hlv HKF ⊢
          go_wp2_with fail
          refine bodyPost_ret (v := .tuple #[reqV Req.none (.slice none 0 0) (.slice none 0 0) (.slice none 0 0), .int .i64 3]) (results_cell2 rfl rfl rfl hlv) rfl ?_
          rw [HBD.out]
          exact ⟨_, _, _, rfl, ReqIn.nil _ _, HKF.out⟩
end Go.Proofs.YtgbnpehpfadehaaGreatDoor