/-
  The document's readers of requests and replies: what they answer, in plain words; where their walks stand.
  The document's Read of a reply: the walk.
-/
import Derived.Test.YtgbnpehpfadehaaDoorWrPl
import Derived.Test.YtgbnpehpfadehaaDoorCdDec
import Derived.Test.YtgbnpehpfadehaaDoorRcRd
import Derived.Test.YtgbnpehpfadehaaDoorBtDecPl
import Derived.Test.YtgbnpehpfadehaaDoorBs
import Derived.Test.YtgbnpehpfadehaaDoorRqRef
import Derived.Test.YtgbnpehpfadehaaDoorBtRefDec
import Derived.Test.YtgbnpehpfadehaaDoorCdLT
import Derived.Test.YtgbnpehpfadehaaDoorCdLP
import Derived.Deep.CutRange
import Derived.Deep.RegionLaw
set_option linter.unusedVariables false
namespace Go.Proofs.YtgbnpehpfadehaaDoor
open Go.RowKit

/-- the reply of what was read -/
def repOf (a b c d e f g : Int) (h : List (List UInt8)) (i j : List (List UInt8 × Int)) : Rep := ⟨a, b, c, d, e, f, g, h.map (fun t => (Bat.dec t 0).1), i, j⟩
theorem dec_self {b : Bat} (h : b.ok = true) : Bat.dec b.bytes 0 = (b, (b.bytes.length : Int), 0) := by
  have hd := Bat.dec_bytes [] [] b h
  simp only [List.nil_append, List.append_nil, List.length_nil] at hd
  exact hd
theorem Rep.ref_bad {l : List UInt8} {a : Int} {s1 : Rd.St} {b : Int} {s2 : Rd.St} {c : Int} {s3 : Rd.St} {d : Int} {s4 : Rd.St} {e : Int} {s5 : Rd.St} {f : Int} {s6 : Rd.St} {g : Int} {s7 : Rd.St} {n : Int} {s8 : Rd.St} {h : List (List UInt8)} {s9 : Rd.St} {n2 : Int} {s10 : Rd.St} {i : List (List UInt8 × Int)} {s11 : Rd.St} {n3 : Int} {s12 : Rd.St} {j : List (List UInt8 × Int)} {s13 : Rd.St}
    (H : RefR l a s1 b s2 c s3 d s4 e s5 f s6 g s7 n s8 h s9 n2 s10 i s11 n3 s12 j s13)
    (hbad : ¬ ((∀ t ∈ h, (Bat.dec t 0).2.2 = 0) ∧ s13.2 = 0 ∧ (repOf a b c d e f g h i j).ok = true ∧ (repOf a b c d e f g h i j).body = l)) : Rep.dec l = (Rep.none, 3) := by
  have hcs : (Rep.dec l).2 = 0 ∨ Rep.dec l = (Rep.none, 3) := by
    unfold Rep.dec; split
    · exact .inl rfl
    · exact .inr rfl
  rcases hcs with h0 | h0
  · exfalso
    apply hbad
    have hd : Rep.dec l = ((Rep.dec l).1, 0) := Prod.ext rfl h0
    obtain ⟨r, hr⟩ : ∃ r, (Rep.dec l).1 = r := ⟨_, rfl⟩
    rw [hr] at hd
    obtain ⟨hs, e1, e2, e3, e4, e5, e6, e7, e8, e9, e10, e11, e12, e13⟩ := H.of_dec hd
    obtain ⟨hok, hl⟩ := Rep.dec_ok hd
    have hbs : ∀ b ∈ r.bats, b.ok = true := by
      have hk := hok
      unfold Rep.ok Rep.ok0 at hk
      simp only [Bool.and_eq_true, List.all_eq_true] at hk
      exact hk.1.1.1.2
    have hmap : h.map (fun t => (Bat.dec t 0).1) = r.bats := by
      rw [e9, List.map_map]
      have : r.bats.map ((fun t => (Bat.dec t 0).1) ∘ Bat.bytes) = r.bats.map id := List.map_congr_left (fun b hb => by simp only [Function.comp, id]; rw [dec_self (hbs b hb)])
      rw [this, List.map_id]
    have hr2 : repOf a b c d e f g h i j = r := by
      unfold repOf
      rw [hmap, e1, e2, e3, e4, e5, e6, e7, e11, e13]
    refine ⟨fun t ht => ?_, hs, by rw [hr2]; exact hok, by rw [hr2]; exact hl.symm⟩
    rw [e9] at ht
    obtain ⟨b, hb, rfl⟩ := List.mem_map.1 ht
    rw [dec_self (hbs b hb)]
  · exact h0
theorem Rep.ref_good {l : List UInt8} {r : Rep} (h : r.ok = true) (hl : r.body = l) : Rep.dec l = (r, 0) := by rw [← hl]; exact Rep.dec_body h

/-- the request of what was read -/
def reqOf (k : Int) (nm : List UInt8) (i c f g : Int) (b x gr : List UInt8) (m ge : Int) (t : List (List UInt8)) : Req := ⟨k, nm, i, c, f, g == 1, if b = [] then Bat.none else (Bat.dec b 0).1, (Tree.parse x).1, gr, m, ge, t⟩
theorem Req.ref_bad {l : List UInt8} {k : Int} {s1 : Rd.St} {nm : List UInt8} {s2 : Rd.St} {i : Int} {s3 : Rd.St} {c : Int} {s4 : Rd.St} {f : Int} {s5 : Rd.St} {g : Int} {s6 : Rd.St} {b : List UInt8} {s7 : Rd.St} {x : List UInt8} {s8 : Rd.St} {gr : List UInt8} {s9 : Rd.St} {m : Int} {s10 : Rd.St} {ge : Int} {s11 : Rd.St} {n : Int} {s12 : Rd.St} {t : List (List UInt8)} {s13 : Rd.St}
    (H : RefQ l k s1 nm s2 i s3 c s4 f s5 g s6 b s7 x s8 gr s9 m s10 ge s11 n s12 t s13)
    (hbad : ¬ (s13.2 = 0 ∧ (b ≠ [] → (Bat.dec b 0).2.2 = 0) ∧ (Tree.parse x).2 = 0 ∧ (reqOf k nm i c f g b x gr m ge t).ok = true ∧ (reqOf k nm i c f g b x gr m ge t).body = l)) : Req.dec l = (Req.none, 3) := by
  rcases Req.dec_cases l with h0 | h0
  · exfalso
    apply hbad
    have hd : Req.dec l = ((Req.dec l).1, 0) := Prod.ext rfl h0
    obtain ⟨q, hr⟩ : ∃ r, (Req.dec l).1 = r := ⟨_, rfl⟩
    rw [hr] at hd
    obtain ⟨hs, e1, e2, e3, e4, e5, e6, e7, e8, e9, e10, e11, e12, e13⟩ := H.of_dec hd
    obtain ⟨hok, hl⟩ := Req.dec_ok hd
    have hk := hok
    unfold Req.ok Req.ok0 at hk
    simp only [Bool.and_eq_true] at hk
    obtain ⟨⟨⟨⟨h1, h2⟩, h3⟩, h4⟩, h5⟩ := hk
    have hpx : Tree.parse x = (q.filter, 0) := by rw [e8]; exact Tree.parse_bytes _ h3
    have hfl : (g == 1) = q.flag := by rw [e6]; exact (flagI_bd q.flag).2.2
    have hb2 : (if b = [] then Bat.none else (Bat.dec b 0).1) = q.bat ∧ (b ≠ [] → (Bat.dec b 0).2.2 = 0) := by
      unfold Bat.opt at e7
      cases hem : q.bat.empty
      · rw [hem] at e7
        simp only [Bool.false_eq_true, if_false] at e7
        have hbo : q.bat.ok = true := by unfold Bat.optOk at h2; rw [hem] at h2; simpa using h2
        have hne : b ≠ [] := by rw [e7]; intro hn; have := Bat.bytes_length q.bat; rw [hn] at this; simp at this; omega
        rw [if_neg hne, e7, dec_self hbo]
        exact ⟨rfl, fun _ => rfl⟩
      · rw [hem] at e7
        simp only [if_true] at e7
        rw [if_pos e7, Bat.empty_eq hem]
        exact ⟨rfl, fun h => absurd e7 h⟩
    have hr2 : reqOf k nm i c f g b x gr m ge t = q := by
      unfold reqOf
      rw [hb2.1, hpx, hfl, e1, e2, e3, e4, e5, e9, e10, e11, e13]
    exact ⟨hs, hb2.2, by rw [hpx], by rw [hr2]; exact hok, by rw [hr2]; exact hl.symm⟩
  · exact h0
theorem Req.ref_good {l : List UInt8} {r : Req} (h : r.ok = true) (hl : r.body = l) : Req.dec l = (r, 0) := by rw [← hl]; exact Req.dec_body h

/-- a reading loop: so many are done -/
structure DL {α : Type} (f : Rd.St → α × Rd.St) (k0 : Nat) (s0 : Rd.St) (j : Nat) (done : List α) (st : Rd.St) : Prop where
  len : done.length = j
  le : j ≤ k0
  eq : Rd.loop f k0 s0 = (done ++ (Rd.loop f (k0 - j) st).1, (Rd.loop f (k0 - j) st).2)
theorem DL.start {α : Type} (f : Rd.St → α × Rd.St) (k0 : Nat) (s0 : Rd.St) : DL f k0 s0 0 [] s0 := ⟨rfl, Nat.zero_le _, by simp⟩
theorem DL.next {α : Type} {f : Rd.St → α × Rd.St} {k0 : Nat} {s0 : Rd.St} {j : Nat} {done : List α} {st : Rd.St} (h : DL f k0 s0 j done st) (hj : j < k0) (h0 : st.2 = 0) : DL f k0 s0 (j + 1) (done ++ [(f st).1]) (f st).2 := by
  refine ⟨by simp [h.len], hj, ?_⟩
  rw [h.eq, show k0 - j = (k0 - (j + 1)) + 1 by omega, Rd.loop, if_pos h0]
  simp
theorem DL.stop {α : Type} {f : Rd.St → α × Rd.St} {k0 : Nat} {s0 : Rd.St} {j : Nat} {done : List α} {st : Rd.St} (h : DL f k0 s0 j done st) (hj : k0 ≤ j ∨ st.2 ≠ 0) : Rd.loop f k0 s0 = (done, st) := by
  rw [h.eq]
  rcases hj with hj | hj
  · rw [show k0 - j = 0 by omega]; simp [Rd.loop]
  · rw [Rd.loop_skip f _ hj]; simp
theorem DL.mem {α : Type} {f : Rd.St → α × Rd.St} {k0 : Nat} {s0 : Rd.St} {j : Nat} {done : List α} {st : Rd.St} (h : DL f k0 s0 j done st) (hj : j < k0) (h0 : st.2 = 0) : (f st).1 ∈ (Rd.loop f k0 s0).1 := by
  rw [h.eq, show k0 - j = (k0 - (j + 1)) + 1 by omega, Rd.loop, if_pos h0]
  simp

/-- where the document's reading stands: the result's block, the reader's, the block of what is read -/
structure RS (TV : TypeId) (zc : Array Value) (w0 : World) (q : Nat) (l : List UInt8) (st : Rd.St) (cs : Array Value) (wr : World) : Prop where
  keeps : Keeps w0 wr
  zblk : Blk wr w0.heap.size TV zc
  rdr : Rdr wr (w0.heap.size + 1) 90 l st
  qblk : Blk wr q TV cs
  le : w0.heap.size + 2 ≤ q
section
variable {TV : TypeId} {zc : Array Value} {w0 wr w' : World} {q : Nat} {l : List UInt8} {st st' : Rd.St} {cs : Array Value}
theorem RS.call (h : RS TV zc w0 q l st cs wr) (hr : Rdr w' (w0.heap.size + 1) 90 l st') (ho : Only (w0.heap.size + 1) wr w') : RS TV zc w0 q l st' cs w' :=
  ⟨ho.keeps h.keeps (by omega), h.zblk.grown ho (by simp), hr, h.qblk.grown ho (by have := h.le; simp; omega), h.le⟩
theorem RS.step (h : RS TV zc w0 q l st cs wr) (k : Keeps wr w') : RS TV zc w0 q l st cs w' :=
  ⟨h.keeps.trans k, h.zblk.keeps k, h.rdr.keeps k, h.qblk.keeps k, h.le⟩
theorem RS.set (h : RS TV zc w0 q l st cs wr) (j : Nat) (u : Value) : RS TV zc w0 q l st (cs.setIfInBounds j u) (wr.setCell ⟨q, j, none⟩ u) :=
  ⟨h.keeps.setCell (by have := h.le; simp; omega) u, h.zblk.other _ (by have := h.le; simp; omega) u, Blk.other h.rdr _ (by have := h.le; simp; omega) u, h.qblk.set j u, h.le⟩
theorem RS.other (h : RS TV zc w0 q l st cs wr) (p : Addr) (hp : q < p.block) (u : Value) : RS TV zc w0 q l st cs (wr.setCell p u) :=
  ⟨h.keeps.setCell (by have := h.le; omega) u, h.zblk.other _ (by have := h.le; omega) u, Blk.other h.rdr _ (by have := h.le; omega) u, h.qblk.other _ (by omega) u, h.le⟩
theorem RS.grown {row : Option Nat} (h : RS TV zc w0 q l st cs wr) (g : wr.grownBy w' row) (hr : ∀ k, row = some k → q < k) : RS TV zc w0 q l st cs w' :=
  ⟨h.keeps.grown g (fun k hk => by have := hr k hk; have := h.le; omega), h.zblk.grown g (fun e => by have := hr _ e.symm; have := h.le; omega), Blk.grown h.rdr g (fun e => by have := hr _ e.symm; have := h.le; omega), h.qblk.grown g (fun e => by have := hr _ e.symm; omega), h.le⟩
end
/-- batches that were read -/
structure SQ (q : Nat) (dl : List (Bat × Value)) (vo : Value) (wr : World) : Prop where
  own : Own wr (q + 1) 6 vo dl.length (bcellsL dl)
  old : ∀ g, vo.ownBlock = some g → g < wr.heap.size
  kin : ∀ (i : Nat) (x : Bat × Value), dl[i]? = some x → RsIn (fun g => q < g ∧ vo.ownBlock ≠ some g) wr x.2 x.1.recs
theorem SQ.start (q : Nat) (wr : World) : SQ q [] (.slice none 0 0) wr := ⟨Own.nil _ _ _, fun g hg => by simp [Value.ownBlock] at hg, fun i x hx => by simp at hx⟩
theorem SQ.only {q b : Nat} {dl : List (Bat × Value)} {vo : Value} {w w' : World} (h : SQ q dl vo w) (ho : Only b w w') (hb : b ≤ q) : SQ q dl vo w' :=
  ⟨h.own.only ho (by omega), fun g hg => Nat.lt_of_lt_of_le (h.old g hg) ho.size, fun i x hx => (h.kin i x hx).move (fun g hg hlt => ⟨hg, World.grownBy.block ho g hlt (by simp; omega)⟩)⟩
theorem SQ.step {q : Nat} {dl : List (Bat × Value)} {vo : Value} {w w' : World} (h : SQ q dl vo w) (k : Keeps w w') : SQ q dl vo w' :=
  ⟨h.own.keeps k, fun g hg => Nat.lt_of_lt_of_le (h.old g hg) k.size, fun i x hx => (h.kin i x hx).keeps k⟩
theorem SQ.set {q : Nat} {dl : List (Bat × Value)} {vo : Value} {w : World} (h : SQ q dl vo w) (j : Nat) (u : Value) : SQ q dl vo (w.setCell ⟨q, j, none⟩ u) :=
  h.only ((Only.refl q w).set j u) (Nat.le_refl _)
theorem SQ.more {q : Nat} {dl : List (Bat × Value)} {vo vo' : Value} {w w' : World} (h : SQ q dl vo w) {b : Bat} {lv : Value}
    (hp : RsIn (fun g => q < g ∧ vo.ownBlock ≠ some g) w lv b.recs) (hown : Own w' (q + 1) 6 vo' (dl.length + 1) (bcellsL dl ++ bcell (b, lv))) (hg : w.grownBy w' vo.ownBlock) (hnew : ∀ g, vo'.ownBlock = some g → vo.ownBlock = some g ∨ w.heap.size ≤ g) :
    SQ q (dl ++ [(b, lv)]) vo' w' := by
  have hmv : ∀ {v : Value} {hs : List Rec}, RsIn (fun g => q < g ∧ vo.ownBlock ≠ some g) w v hs → RsIn (fun g => q < g ∧ vo'.ownBlock ≠ some g) w' v hs := fun hp => hp.move fun g hg' hlt =>
    ⟨⟨hg'.1, fun e => by
      rcases hnew g e with h1 | h1
      · exact hg'.2 h1
      · omega⟩, hg.block g hlt (fun e => hg'.2 e.symm)⟩
  refine ⟨?_, ?_, ?_⟩
  · rw [List.length_append, bcellsL_append]
    simpa [bcellsL] using hown
  · intro g hg'
    obtain ⟨g', cap, rfl, _, hl, _⟩ := Own.form hown (by decide) (by omega)
    simp [Value.ownBlock] at hg'; omega
  · intro i x hi
    rw [List.getElem?_append] at hi
    split at hi
    · exact hmv (h.kin i x hi)
    · rename_i hil
      obtain ⟨h1, h2⟩ := List.getElem?_eq_some_iff.1 hi
      simp at h1
      simp [show i - dl.length = 0 by omega] at h2
      subst h2
      exact hmv hp
theorem SQ.fin {q : Nat} {dl : List (Bat × Value)} {vo : Value} {w : World} (h : SQ q dl vo w) (hl : dl.length ≤ 9223372036854775807) : BsIn (fun g => q < g ∧ g < w.heap.size) w vo (dl.map (·.1)) :=
  BsIn.of_own h.own hl (fun g hg => ⟨by have := h.own.base g hg; omega, h.old g hg⟩) (fun i x hx => (h.kin i x hx).move (fun g hg hlt => ⟨⟨hg.1, hlt⟩, rfl⟩))
/-- what lies between is as it was -/
theorem BsIn.mid {q m : Nat} {w w' : World} {v : Value} {l : List Bat} (h : BsIn (fun g => q < g ∧ g < m) w v l) (k : ∀ g, q < g → g < m → w'.heap[g]? = w.heap[g]?) : BsIn (fun g => q < g ∧ g < m) w' v l :=
  BsIn.move (fun g hg _ => ⟨hg, k g hg.1 hg.2⟩) h
theorem Fl.mid {α : Type} {size : Nat} {f : α → List Value} {q m : Nat} {w w' : World} {v : Value} {l : List α} (hf : ∀ x, ∃ u, (f x)[0]? = some u) (h : Fl size f (fun g => q < g ∧ g < m) w v l) (k : ∀ g, q < g → g < m → w'.heap[g]? = w.heap[g]?) : Fl size f (fun g => q < g ∧ g < m) w' v l :=
  h.move (fun g hg _ => ⟨hg, k g hg.1 hg.2⟩) hf
/-- behind an append to a row that lies farther: what lies between is as it was -/
theorem far_app {q m b j : Nat} {u1 u2 w' : World} {o : Obj} {row : Option Nat} {v : Value} (hm : m ≤ u1.heap.size) (hb : b ≤ q) (ho : Only b u1.drew u2) (hg : (u2.alloc o).grownBy w' row) (hr : ∀ k, row = some k → m ≤ k) :
    ∀ g, q < g → g < m → (w'.setCell ⟨q, j, none⟩ v).heap[g]? = u1.heap[g]? := by
  intro g h1 h2
  have e1 : (w'.setCell ⟨q, j, none⟩ v).heap[g]? = w'.heap[g]? := Below.heap_setCell _ _ _ _ (by show g ≠ q; omega)
  have hs : u1.drew.heap.size = u1.heap.size := rfl
  have h3 : g < u2.heap.size := Nat.lt_of_lt_of_le (by omega : g < u1.drew.heap.size) ho.size
  have e2 : w'.heap[g]? = (u2.alloc o).heap[g]? := World.grownBy.block hg g (by rw [World.size_alloc]; omega) (fun e => by have := hr g e.symm; omega)
  have e3 : (u2.alloc o).heap[g]? = u2.heap[g]? := ((Keeps.refl u2).alloc o).block h3
  have e4 : u2.heap[g]? = u1.drew.heap[g]? := World.grownBy.block ho g (by omega) (by simp; omega)
  rw [e1, e2, e3, e4]
  rfl
end Go.Proofs.YtgbnpehpfadehaaDoor

namespace Go.Proofs.YtgbnpehpfadehaaDoor
open Go.RowKit

theorem Rep.refB_ok (r : Rep) : r.refB.2 = r.ok := by
  unfold Rep.refB Rep.ok
  cases h : r.ok0 <;> simp
theorem Rep.refB_body {r : Rep} (h : r.ok = true) : r.refB.1 = r.body := by
  unfold Rep.ok at h
  simp only [Bool.and_eq_true] at h
  unfold Rep.refB; rw [if_pos h.1]
theorem Rep.ref_bad8 {l : List UInt8} {a : Int} {s1 : Rd.St} {b : Int} {s2 : Rd.St} {c : Int} {s3 : Rd.St} {d : Int} {s4 : Rd.St} {e : Int} {s5 : Rd.St} {f : Int} {s6 : Rd.St} {g : Int} {s7 : Rd.St} {n : Int} {s8 : Rd.St}
    (e1 : Rd.num l (0, 0) = (a, s1)) (e2 : Rd.num l s1 = (b, s2)) (e3 : Rd.num l s2 = (c, s3)) (e4 : Rd.num l s3 = (d, s4)) (e5 : Rd.num l s4 = (e, s5)) (e6 : Rd.num l s5 = (f, s6)) (e7 : Rd.num l s6 = (g, s7)) (e8 : Rd.num l s7 = (n, s8))
    {X : List UInt8} (hX : X ∈ (Rd.loop (Rd.txt 60008 l) (min n.toNat 501) s8).1) (hb : (Bat.dec X 0).2.2 ≠ 0) : Rep.dec l = (Rep.none, 3) :=
  Rep.ref_bad (h := (Rd.loop (Rd.txt 60008 l) (min n.toNat 501) s8).1) ⟨e1, e2, e3, e4, e5, e6, e7, e8, rfl, rfl, rfl, rfl, rfl⟩ (fun h => hb (h.1 X hX))

set_option maxRecDepth 8000 in
set_option maxHeartbeats 40000000 in
theorem ref_repRead (l : List UInt8) (hl : l.length ≤ 2 ^ 62) (w : World) :
    Calls Tryd.prog 27 #[.string (str l)] w (RepRet (Rep.dec l) w) := by
  have hsz := str_size
  obtain ⟨i0, hi, hz0, hz1, hz2⟩ := info_parts info_bat
  obtain ⟨i1, ti, tz0, tz1, tz2⟩ := info_parts info_lT
  obtain ⟨i2, pi, pz0, pz1, pz2⟩ := info_parts info_lP
  have hll : l.length ≤ 9223372036854775807 := by omega
  have F0 : Rd.Fine l (0, 0) := ⟨by decide, by decide, by decide, by decide⟩
  have F1 := F0.num hll
  have C1 := fun b w hr => ref_number b l hl _ F0 w hr
  obtain ⟨⟨a, s1⟩, e1⟩ : ∃ x, Rd.num l (0, 0) = x := ⟨_, rfl⟩
  rw [e1] at C1 F1
  have F2 := F1.1.num hll
  have C2 := fun b w hr => ref_number b l hl _ F1.1 w hr
  obtain ⟨⟨b, s2⟩, e2⟩ : ∃ x, Rd.num l s1 = x := ⟨_, rfl⟩
  rw [e2] at C2 F2
  have F3 := F2.1.num hll
  have C3 := fun b w hr => ref_number b l hl _ F2.1 w hr
  obtain ⟨⟨c, s3⟩, e3⟩ : ∃ x, Rd.num l s2 = x := ⟨_, rfl⟩
  rw [e3] at C3 F3
  have F4 := F3.1.num hll
  have C4 := fun b w hr => ref_number b l hl _ F3.1 w hr
  obtain ⟨⟨d, s4⟩, e4⟩ : ∃ x, Rd.num l s3 = x := ⟨_, rfl⟩
  rw [e4] at C4 F4
  have F5 := F4.1.num hll
  have C5 := fun b w hr => ref_number b l hl _ F4.1 w hr
  obtain ⟨⟨e, s5⟩, e5⟩ : ∃ x, Rd.num l s4 = x := ⟨_, rfl⟩
  rw [e5] at C5 F5
  have F6 := F5.1.num hll
  have C6 := fun b w hr => ref_number b l hl _ F5.1 w hr
  obtain ⟨⟨f, s6⟩, e6⟩ : ∃ x, Rd.num l s5 = x := ⟨_, rfl⟩
  rw [e6] at C6 F6
  have F7 := F6.1.num hll
  have C7 := fun b w hr => ref_number b l hl _ F6.1 w hr
  obtain ⟨⟨g, s7⟩, e7⟩ : ∃ x, Rd.num l s6 = x := ⟨_, rfl⟩
  rw [e7] at C7 F7
  have F8 := F7.1.num hll
  have C8 := fun b w hr => ref_number b l hl _ F7.1 w hr
  obtain ⟨⟨n, s8⟩, e8⟩ : ∃ x, Rd.num l s7 = x := ⟨_, rfl⟩
  rw [e8] at C8 F8
  have HE := Lib.hid (And.intro e1 (And.intro e2 (And.intro e3 (And.intro e4 (And.intro e5 (And.intro e6 (And.intro e7 e8)))))))
  have HC1 := Lib.hid C1
  have HC2 := Lib.hid C2
  have HC3 := Lib.hid C3
  have HC4 := Lib.hid C4
  have HC5 := Lib.hid C5
  have HC6 := Lib.hid C6
  have HC7 := Lib.hid C7
  have HC8 := Lib.hid C8
  have HF8 := Lib.hid F8.1
  have HNB := Lib.hid F8.2
  clear C1 F1 e1 C2 F2 e2 C3 F3 e3 C4 F4 e4 C5 F5 e5 C6 F6 e6 C7 F7 e7 C8 F8 e8 F0
  go_enter Tryd.func27, Tryd.ntmps27
  go_wp2_with fail
  have hd0 : RS 51 #[.int .i64 0, .int .i64 0, .int .i64 0, .int .i64 0, .int .i64 0, .int .i64 0, .int .i64 0, .slice none 0 0, .slice none 0 0, .slice none 0 0] w (w.heap.size + 2) l (0, 0) #[.int .i64 0, .int .i64 0, .int .i64 0, .int .i64 0, .int .i64 0, .int .i64 0, .int .i64 0, .slice none 0 0, .slice none 0 0, .slice none 0 0] (((w.alloc (.cells #[.int .i64 0, .int .i64 0, .int .i64 0, .int .i64 0, .int .i64 0, .int .i64 0, .int .i64 0, .slice none 0 0, .slice none 0 0, .slice none 0 0] 51)).alloc (.cells #[.string (str l), .int .i64 0, .int .i64 0] 90)).alloc (.cells #[.int .i64 0, .int .i64 0, .int .i64 0, .int .i64 0, .int .i64 0, .int .i64 0, .int .i64 0, .slice none 0 0, .slice none 0 0, .slice none 0 0] 51)) :=
    ⟨(((Keeps.refl w).alloc _).alloc _).alloc _, ((Blk.new w _ _).keeps ((Keeps.refl _).alloc _)).keeps ((Keeps.refl _).alloc _), Blk.keeps (heap_alloc2_new _ _ _) ((Keeps.refl _).alloc _), by have := Blk.new ((w.alloc (.cells #[.int .i64 0, .int .i64 0, .int .i64 0, .int .i64 0, .int .i64 0, .int .i64 0, .int .i64 0, .slice none 0 0, .slice none 0 0, .slice none 0 0] 51)).alloc (.cells #[.string (str l), .int .i64 0, .int .i64 0] 90)) 51 #[.int .i64 0, .int .i64 0, .int .i64 0, .int .i64 0, .int .i64 0, .int .i64 0, .int .i64 0, .slice none 0 0, .slice none 0 0, .slice none 0 0]; rwa [World.size_alloc, World.size_alloc] at this, Nat.le_refl _⟩
  obtain ⟨q, hq⟩ : ∃ q, w.heap.size + 2 = q := ⟨_, rfl⟩
  rw [hq] at hd0
  have hq' : w.heap.size + 1 + 1 = q := hq
  refine (HC1.out (w.heap.size + 1) _ hd0.rdr).mono ?_
  rintro e' w1 ⟨rfl, hr, ho⟩
  have hd1 := hd0.call hr ho
  clear hr ho hd0
  rw [hq']
  clear hq hq'
  have hd1 : RS 51 #[.int .i64 0, .int .i64 0, .int .i64 0, .int .i64 0, .int .i64 0, .int .i64 0, .int .i64 0, .slice none 0 0, .slice none 0 0, .slice none 0 0] w q l s1 #[.int .i64 0, .int .i64 0, .int .i64 0, .int .i64 0, .int .i64 0, .int .i64 0, .int .i64 0, .slice none 0 0, .slice none 0 0, .slice none 0 0] w1 := hd1
  have q0 := hd1.qblk.cell 0 _ rfl
  have r0 := hd1.qblk.frozen 0
  go_wp2_with fail
  have hd1 := hd1.set 0 (.int .i64 a)
  refine (HC2.out (w.heap.size + 1) _ hd1.rdr).mono ?_
  rintro e' w2 ⟨rfl, hr, ho⟩
  have hd2 := hd1.call hr ho
  clear hr ho hd1 q0 r0
  have hd2 : RS 51 #[.int .i64 0, .int .i64 0, .int .i64 0, .int .i64 0, .int .i64 0, .int .i64 0, .int .i64 0, .slice none 0 0, .slice none 0 0, .slice none 0 0] w q l s2 #[.int .i64 a, .int .i64 0, .int .i64 0, .int .i64 0, .int .i64 0, .int .i64 0, .int .i64 0, .slice none 0 0, .slice none 0 0, .slice none 0 0] w2 := hd2
  have q0 := hd2.qblk.cell 1 _ rfl
  have r0 := hd2.qblk.frozen 1
  go_wp2_with fail
  have hd2 := hd2.set 1 (.int .i64 b)
  refine (HC3.out (w.heap.size + 1) _ hd2.rdr).mono ?_
  rintro e' w3 ⟨rfl, hr, ho⟩
  have hd3 := hd2.call hr ho
  clear hr ho hd2 q0 r0
  have hd3 : RS 51 #[.int .i64 0, .int .i64 0, .int .i64 0, .int .i64 0, .int .i64 0, .int .i64 0, .int .i64 0, .slice none 0 0, .slice none 0 0, .slice none 0 0] w q l s3 #[.int .i64 a, .int .i64 b, .int .i64 0, .int .i64 0, .int .i64 0, .int .i64 0, .int .i64 0, .slice none 0 0, .slice none 0 0, .slice none 0 0] w3 := hd3
  have q0 := hd3.qblk.cell 2 _ rfl
  have r0 := hd3.qblk.frozen 2
  go_wp2_with fail
  have hd3 := hd3.set 2 (.int .i64 c)
  refine (HC4.out (w.heap.size + 1) _ hd3.rdr).mono ?_
  rintro e' w4 ⟨rfl, hr, ho⟩
  have hd4 := hd3.call hr ho
  clear hr ho hd3 q0 r0
  have hd4 : RS 51 #[.int .i64 0, .int .i64 0, .int .i64 0, .int .i64 0, .int .i64 0, .int .i64 0, .int .i64 0, .slice none 0 0, .slice none 0 0, .slice none 0 0] w q l s4 #[.int .i64 a, .int .i64 b, .int .i64 c, .int .i64 0, .int .i64 0, .int .i64 0, .int .i64 0, .slice none 0 0, .slice none 0 0, .slice none 0 0] w4 := hd4
  have q0 := hd4.qblk.cell 3 _ rfl
  have r0 := hd4.qblk.frozen 3
  go_wp2_with fail
  have hd4 := hd4.set 3 (.int .i64 d)
  refine (HC5.out (w.heap.size + 1) _ hd4.rdr).mono ?_
  rintro e' w5 ⟨rfl, hr, ho⟩
  have hd5 := hd4.call hr ho
  clear hr ho hd4 q0 r0
  have hd5 : RS 51 #[.int .i64 0, .int .i64 0, .int .i64 0, .int .i64 0, .int .i64 0, .int .i64 0, .int .i64 0, .slice none 0 0, .slice none 0 0, .slice none 0 0] w q l s5 #[.int .i64 a, .int .i64 b, .int .i64 c, .int .i64 d, .int .i64 0, .int .i64 0, .int .i64 0, .slice none 0 0, .slice none 0 0, .slice none 0 0] w5 := hd5
  have q0 := hd5.qblk.cell 4 _ rfl
  have r0 := hd5.qblk.frozen 4
  go_wp2_with fail
  have hd5 := hd5.set 4 (.int .i64 e)
  refine (HC6.out (w.heap.size + 1) _ hd5.rdr).mono ?_
  rintro e' w6 ⟨rfl, hr, ho⟩
  have hd6 := hd5.call hr ho
  clear hr ho hd5 q0 r0
  have hd6 : RS 51 #[.int .i64 0, .int .i64 0, .int .i64 0, .int .i64 0, .int .i64 0, .int .i64 0, .int .i64 0, .slice none 0 0, .slice none 0 0, .slice none 0 0] w q l s6 #[.int .i64 a, .int .i64 b, .int .i64 c, .int .i64 d, .int .i64 e, .int .i64 0, .int .i64 0, .slice none 0 0, .slice none 0 0, .slice none 0 0] w6 := hd6
  have q0 := hd6.qblk.cell 5 _ rfl
  have r0 := hd6.qblk.frozen 5
  go_wp2_with fail
  have hd6 := hd6.set 5 (.int .i64 f)
  refine (HC7.out (w.heap.size + 1) _ hd6.rdr).mono ?_
  rintro e' w7 ⟨rfl, hr, ho⟩
  have hd7 := hd6.call hr ho
  clear hr ho hd6 q0 r0
  have hd7 : RS 51 #[.int .i64 0, .int .i64 0, .int .i64 0, .int .i64 0, .int .i64 0, .int .i64 0, .int .i64 0, .slice none 0 0, .slice none 0 0, .slice none 0 0] w q l s7 #[.int .i64 a, .int .i64 b, .int .i64 c, .int .i64 d, .int .i64 e, .int .i64 f, .int .i64 0, .slice none 0 0, .slice none 0 0, .slice none 0 0] w7 := hd7
  have q0 := hd7.qblk.cell 6 _ rfl
  have r0 := hd7.qblk.frozen 6
  go_wp2_with fail
  have hd7 := hd7.set 6 (.int .i64 g)
  refine (HC8.out (w.heap.size + 1) _ hd7.rdr).mono ?_
  rintro e' w8 ⟨rfl, hr, ho⟩
  have hd8 := hd7.call hr ho
  clear hr ho hd7 q0 r0
  have hd8 : RS 51 #[.int .i64 0, .int .i64 0, .int .i64 0, .int .i64 0, .int .i64 0, .int .i64 0, .int .i64 0, .slice none 0 0, .slice none 0 0, .slice none 0 0] w q l s8 #[.int .i64 a, .int .i64 b, .int .i64 c, .int .i64 d, .int .i64 e, .int .i64 f, .int .i64 g, .slice none 0 0, .slice none 0 0, .slice none 0 0] w8 := hd8
  obtain ⟨k1, hk1⟩ : ∃ k, min n.toNat 501 = k := ⟨_, rfl⟩
  have HK1 := Lib.hid hk1
  have HD8 := Lib.hid hd8
  clear hk1 hd8
  go_wp2_with fail
  go_loopw [7] (fun i wr => ∃ (j : Nat) (doneB : List (List UInt8)) (dl : List (Bat × Value)) (stB : Rd.St) (vo : Value), i = .int .i64 j ∧ RS 51 #[.int .i64 0, .int .i64 0, .int .i64 0, .int .i64 0, .int .i64 0, .int .i64 0, .int .i64 0, .slice none 0 0, .slice none 0 0, .slice none 0 0] w q l stB #[.int .i64 a, .int .i64 b, .int .i64 c, .int .i64 d, .int .i64 e, .int .i64 f, .int .i64 g, vo, .slice none 0 0, .slice none 0 0] wr ∧ SQ q dl vo wr ∧ DL (Rd.txt 60008 l) k1 s8 j doneB stB ∧ Rd.Fine l stB ∧ dl.map (·.1) = doneB.map (fun t => (Bat.dec t 0).1) ∧ (∀ t ∈ doneB, (Bat.dec t 0).2.2 = 0)) (fun i _ => k1 - (intOf i).toNat)
  case atStart => exact ⟨0, [], [], s8, .slice none 0 0, rfl, HD8.out, SQ.start q _, DL.start _ _ _, HF8.out, rfl, fun t ht => by simp at ht⟩
  case round =>
    obtain ⟨j, doneB, dl, stB, vo, rfl, hds, hsq, hdl, hfi, hmap, hall⟩ := hrel
    obtain ⟨ao, capo, rfl, -⟩ := hsq.own.slice
    have hdj : dl.length = j := by have h1 := congrArg List.length hmap; simp at h1; rw [h1]; exact hdl.len
    obtain ⟨b0, b1, b2⟩ := hds.rdr.cells
    obtain ⟨x1, hx1⟩ : ∃ x, decide ((j : Int) < n) = x := ⟨_, rfl⟩
    obtain ⟨x2, hx2⟩ : ∃ x, decide ((j : Int) < 501) = x := ⟨_, rfl⟩
    obtain ⟨x3, hx3⟩ : ∃ x, (stB.2 == 0) = x := ⟨_, rfl⟩
    have HX1 := Lib.hid hx1
    have HX2 := Lib.hid hx2
    have HX3 := Lib.hid hx3
    have HDS := Lib.hid hds
    have HSQ := Lib.hid hsq
    have HDL := Lib.hid hdl
    have HFI := Lib.hid hfi
    have HMAP := Lib.hid hmap
    have HALL := Lib.hid hall
    have HDJ := Lib.hid hdj
    clear hds hsq hdl hfi hmap hall hdj
    go_upto_region 12 with fail
    go_cut [56] from 43 to 74 (fun s56 wx => s56 = .bool (x1 && (x2 && x3)) ∧ wx = wr)
    case first =>
      cases x1
      · go_wp2_with fail
        go_meet
        exact ⟨rfl, rfl⟩
      · cases x2
        · go_wp2_with fail
          go_meet
          exact ⟨rfl, rfl⟩
        · cases x3
          · go_wp2_with fail
            go_meet
            exact ⟨rfl, rfl⟩
          · go_wp2_with fail
            go_meet
            exact ⟨rfl, rfl⟩
    case rest =>
    obtain ⟨rfl, rfl⟩ := hcut
    clear b0 b1 b2 hx1 hx2 hx3
    by_cases hgo : (x1 && (x2 && x3)) = true
    · rw [hgo]
      simp only [Bool.and_eq_true] at hgo
      obtain ⟨rfl, rfl, rfl⟩ := hgo
      have h1 := HX1.out
      have h2 := HX2.out
      have h3 := HX3.out
      simp only [decide_eq_true_eq, beq_iff_eq] at h1 h2 h3
      have hjk : j < k1 := by rw [← HK1.out]; omega
      have HJK := Lib.hid hjk
      have T1 := fun w' hr => ref_rtext (w.heap.size + 1) l hl stB HFI.out 60008 w' hr
      have HT := HFI.out.txt (most := 60008) hll
      have HNX := HDL.out.next hjk h3
      have HME := HDL.out.mem hjk h3
      obtain ⟨⟨X, t1⟩, g1⟩ : ∃ x, Rd.txt 60008 l stB = x := ⟨_, rfl⟩
      rw [g1] at T1 HT HNX HME
      have HXL := Lib.hid (show X.length ≤ 60008 by have := HT.2; simp only at this; omega)
      have HFT := Lib.hid HT.1
      have T1 := Lib.hid T1
      have HNX := Lib.hid HNX
      have HME := Lib.hid HME
      have D1 := fun w' => ref_bdecode X (by have := HXL.out; omega) 0 w'
      obtain ⟨⟨bt, tt, ee⟩, hg⟩ : ∃ g, Bat.dec X 0 = g := ⟨_, rfl⟩
      rw [hg] at D1
      have HG := Lib.hid hg
      have D1 := Lib.hid D1
      have hj5 : j ≤ 500 := by omega
      clear hjk h1 h2 h3 HT g1 hg
      by_cases he : ee = 0
      · subst he
        go_wp2_with fail
        refine (T1.out _ HDS.out.rdr).mono ?_
        rintro e' u1 ⟨rfl, hr, ho⟩
        have hds1 := Lib.hid (HDS.out.call hr ho)
        have hsq1 := Lib.hid (HSQ.out.only ho (by have := HDS.out.le; omega))
        clear hr ho
        go_wp2_with fail
        refine (D1.out _).mono ?_
        rintro e' u2 ⟨lv, rfl, hrs, hk2⟩
        obtain ⟨adb, capb, rfl⟩ := hrs.form
        simp only [retBt, batV]
        have hkal := (Keeps.refl u2).alloc (.cells #[.int .i64 bt.base, .int .i64 bt.span, .int .i64 bt.prod, .int .i64 bt.epoch, .int .i64 bt.seq, .slice adb bt.recs.length capb] 24)
        obtain ⟨z0, z1, z2, z3, z4, z5⟩ := (Blk.new u2 24 #[.int .i64 bt.base, .int .i64 bt.span, .int .i64 bt.prod, .int .i64 bt.epoch, .int .i64 bt.seq, .slice adb bt.recs.length capb]).six
        have hfd := Feeds.new6 (P := Tryd.prog) (u2.alloc (.cells #[.int .i64 bt.base, .int .i64 bt.span, .int .i64 bt.prod, .int .i64 bt.epoch, .int .i64 bt.seq, .slice adb bt.recs.length capb] 24)) 24 [.int .i64 bt.base, .int .i64 bt.span, .int .i64 bt.prod, .int .i64 bt.epoch, .int .i64 bt.seq, .slice adb bt.recs.length capb] rfl (by intro u hu; simp at hu; rcases hu with rfl | rfl | rfl | rfl | rfl | rfl <;> rfl) 1
        rw [World.size_alloc] at hfd
        have hfd := Lib.hid hfd
        have hk3 := (hk2.trans hkal).alloc (.cells #[.int .i64 bt.base, .int .i64 bt.span, .int .i64 bt.prod, .int .i64 bt.epoch, .int .i64 bt.seq, .slice adb bt.recs.length capb] 24)
        have p7a := ((hds1.out.step hk2).step hkal).qblk.cell 7 _ rfl
        have hds3 := Lib.hid (hds1.out.step hk3)
        have p7 := hds3.out.qblk.cell 7 _ rfl
        have hsq3 := Lib.hid (hsq1.out.step hk3)
        have hrs3 := Lib.hid (RsIn.keeps (hrs.mono (T := fun g => q < g ∧ (Value.slice ao dl.length capo).ownBlock ≠ some g) (fun g hg => ⟨by have := hds1.out.qblk.lt; omega, fun e => by have := hsq1.out.old g e; omega⟩)) (hkal.alloc (.cells #[.int .i64 bt.base, .int .i64 bt.span, .int .i64 bt.prod, .int .i64 bt.epoch, .int .i64 bt.seq, .slice adb bt.recs.length capb] 24)))
        have hb3 := Lib.hid (show q + 1 ≤ ((u2.alloc (.cells #[.int .i64 bt.base, .int .i64 bt.span, .int .i64 bt.prod, .int .i64 bt.epoch, .int .i64 bt.seq, .slice adb bt.recs.length capb] 24)).alloc (.cells #[.int .i64 bt.base, .int .i64 bt.span, .int .i64 bt.prod, .int .i64 bt.epoch, .int .i64 bt.seq, .slice adb bt.recs.length capb] 24)).heap.size from hds3.out.qblk.lt)
        have hdl5 := Lib.hid (show dl.length ≤ 500 by rw [HDJ.out]; exact hj5)
        have hne7 : ¬ q = u2.heap.size := by have := (hds1.out.step hk2).qblk.lt; omega
        clear hrs hk2 hk3 hkal
        go_wp2_with (at_builtin; refine wpList_append_new _ rfl _ _ 47 47 rfl (q + 1) 24 i0 (.agg #[.int .i64 0, .int .i64 0, .int .i64 0, .int .i64 0, .int .i64 0, .slice none 0 0]) 6 64 Tryd.underlying47 ⟨_, Tryd.underlying47, fun _ h => by cases h⟩ hi hz0 hz1 hz2 rfl (by decide) (.slice ao dl.length capo) dl.length (bcellsL dl) rfl hsq3.out.own (.slice (some ⟨u2.heap.size + 1, 0, none⟩) 1 1) 1 [.int .i64 bt.base, .int .i64 bt.span, .int .i64 bt.prod, .int .i64 bt.epoch, .int .i64 bt.seq, .slice adb bt.recs.length capb] rfl hfd.out (by have := hdl5.out; unfold maxLen; omega) (by have := hdl5.out; omega) hb3.out ?_; intro v' w' hown hg hnew; have hds4 := Lib.hid (hds3.out.grown hg (fun k hk => by have := hsq3.out.own.base k hk; omega)); have hsq4 := Lib.hid (hsq3.out.more hrs3.out hown hg hnew); obtain ⟨ad2, cap2, rfl, -⟩ := hown.slice; have p7c := hds4.out.qblk.cell 7 _ rfl; have o7 := hds4.out.qblk.frozen 7; clear hown hg hnew)
        exact ⟨⟨j + 1, doneB ++ [X], dl ++ [(bt, .slice adb bt.recs.length capb)], t1, _, by go_num, hds4.out.set 7 _, hsq4.out.set 7 _, HNX.out, HFT.out, by rw [List.map_append, List.map_append, HMAP.out]; simp [HG.out], fun t ht => by
          rcases List.mem_append.1 ht with ht | ht
          · exact HALL.out t ht
          · simp at ht; subst ht; rw [HG.out]⟩, by have := HJK.out; simp [intOf]; omega⟩
      · have hne : (ee != 0) = true := by simpa using he
        have HBD := Lib.hid (show Rep.dec l = (Rep.none, 3) from Rep.ref_bad8 HE.out.1 HE.out.2.1 HE.out.2.2.1 HE.out.2.2.2.1 HE.out.2.2.2.2.1 HE.out.2.2.2.2.2.1 HE.out.2.2.2.2.2.2.1 HE.out.2.2.2.2.2.2.2 (by rw [HK1.out]; exact HME.out) (by rw [HG.out]; exact he))
        clear he
        go_wp2_with fail
        refine (T1.out _ HDS.out.rdr).mono ?_
        rintro e' u1 ⟨rfl, hr, ho⟩
        have hds1 := Lib.hid (HDS.out.call hr ho)
        clear hr ho
        go_wp2_with fail
        refine (D1.out _).mono ?_
        rintro e' u2 ⟨lv, rfl, hrs, hk2⟩
        obtain ⟨adb, capb, rfl⟩ := hrs.form
        simp only [retBt, batV]
        have hk3 := hk2.alloc (.cells #[.int .i64 bt.base, .int .i64 bt.span, .int .i64 bt.prod, .int .i64 bt.epoch, .int .i64 bt.seq, .slice adb bt.recs.length capb] 24)
        have HDF := Lib.hid (hds1.out.step hk3)
        clear hrs hk2 hk3
        go_upto_region 16 with fail
        refine wp_region_lit ?_
        refine wpList_plain (by rfl) fun _ hK => ?_
        go_simp
        refine hK _ _ ?_
        clear hK
        try simp only [Act.put, List.setIfInBounds_toArray, List.set_cons_zero, List.set_cons_succ]
        have hzb : Blk _ w.heap.size 51 (repCells Rep.none (.slice none 0 0) (.slice none 0 0) (.slice none 0 0)) := HDF.out.zblk
        refine wpList_store_mid (by rfl) 51 (.tmp 2) (.tmp 68) (by rfl) w.heap.size 0 (repCells Rep.none (.slice none 0 0) (.slice none 0 0) (.slice none 0 0)) (by rfl) (by rfl) (there_rep hzb) size_rp19' one_rep ?_
        have hfb := setCells_rep (q' := Rep.none) (x := .slice none 0 0) (y := .slice none 0 0) (z := .slice none 0 0) hzb
        have hlv := run_loadVar_mid (P := Tryd.prog) _ w.heap.size 0 51 (repList Rep.none (.slice none 0 0) (.slice none 0 0) (.slice none 0 0)) _ (rng_of_blk hfb) Tryd.underlying51 rfl size_rp19
        have HKF := Lib.hid (Keeps.setCells (q := w.heap.size) (Nat.le_refl _) (repCells Rep.none (.slice none 0 0) (.slice none 0 0) (.slice none 0 0)).toList 0 HDF.out.keeps)
        generalize World.setCells _ w.heap.size 0 (repCells Rep.none (.slice none 0 0) (.slice none 0 0) (.slice none 0 0)).toList = wf at hlv HKF ⊢
        go_wp2_with fail
        refine bodyPost_ret (v := .tuple #[repV Rep.none (.slice none 0 0) (.slice none 0 0) (.slice none 0 0), .int .i64 3]) (results_cell2 rfl rfl rfl hlv) rfl ?_
        rw [HBD.out]
        exact ⟨_, _, _, rfl, RepIn.nil _ _, HKF.out⟩
    · simp only [Bool.not_eq_true] at hgo
      rw [hgo]
      have hstop : Rd.loop (Rd.txt 60008 l) k1 s8 = (doneB, stB) := HDL.out.stop (by
        have h1 := HX1.out; have h2 := HX2.out; have h3 := HX3.out
        have hk := HK1.out
        by_cases hst : stB.2 = 0
        · refine .inl ?_
          have h3' : x3 = true := by rw [← h3]; simpa using hst
          rw [h3'] at hgo
          cases x1
          · simp at h1; omega
          · cases x2
            · simp at h2; omega
            · simp at hgo
        · exact .inr hst)
      have HS1 := Lib.hid hstop
      clear hgo hstop
      have C9 := fun b w hr => ref_number b l hl _ HFI.out w hr
      have F9 := HFI.out.num hll
      obtain ⟨⟨n2, t2⟩, e10⟩ : ∃ x, Rd.num l stB = x := ⟨_, rfl⟩
      rw [e10] at C9 F9
      have HE10 := Lib.hid e10
      have HC9 := Lib.hid C9
      have HF9 := Lib.hid F9.1
      have HNB2 := Lib.hid F9.2
      clear C9 F9 e10
      have HDJ5 := Lib.hid (show dl.length ≤ 501 by rw [HDJ.out]; have := HDL.out.le; have := HK1.out; omega)
      go_wp2_with fail
      refine (HC9.out (w.heap.size + 1) _ HDS.out.rdr).mono ?_
      rintro e' v1 ⟨rfl, hr, ho⟩
      have HDA := Lib.hid (HDS.out.call hr ho)
      have hsq1 := HSQ.out.only ho (by have := HDS.out.le; omega)
      have hin1 := hsq1.fin (by have := HDJ5.out; omega)
      rw [HMAP.out] at hin1
      obtain ⟨bts, hbts⟩ : ∃ x, doneB.map (fun t => (Bat.dec t 0).1) = x := ⟨_, rfl⟩
      rw [hbts] at hin1
      obtain ⟨m2, hm2⟩ : ∃ m, v1.heap.size = m := ⟨_, rfl⟩
      rw [hm2] at hin1
      have HIN1 := Lib.hid hin1
      have HM2 := Lib.hid hm2
      have HBTS := Lib.hid hbts
      have HQM := Lib.hid (show q < m2 by rw [← hm2]; exact HDA.out.qblk.lt)
      clear hr ho hsq1 hin1 hm2 hbts
      obtain ⟨lb, hlb⟩ : ∃ n, dl.length = n := ⟨_, rfl⟩
      rw [hlb] at HIN1 HDA
      clear hlb
      obtain ⟨k2, hk2⟩ : ∃ k, min n2.toNat 21 = k := ⟨_, rfl⟩
      have HK2 := Lib.hid hk2
      clear hk2
      go_wp2_with fail
      obtain ⟨ao0, hao0⟩ : ∃ x, ao = x := ⟨_, rfl⟩
      obtain ⟨capo0, hcapo0⟩ : ∃ x, capo = x := ⟨_, rfl⟩
      rw [hao0, hcapo0] at HIN1 HDA
      clear hao0 hcapo0
      go_loopw [11] (fun i wr => ∃ (j : Nat) (doneT : List (List UInt8 × Int)) (stT : Rd.St) (vo : Value), i = .int .i64 j ∧ RS 51 #[.int .i64 0, .int .i64 0, .int .i64 0, .int .i64 0, .int .i64 0, .int .i64 0, .int .i64 0, .slice none 0 0, .slice none 0 0, .slice none 0 0] w q l stT #[.int .i64 a, .int .i64 b, .int .i64 c, .int .i64 d, .int .i64 e, .int .i64 f, .int .i64 g, .slice ao0 lb capo0, vo, .slice none 0 0] wr ∧ BsIn (fun g => q < g ∧ g < m2) wr (.slice ao0 lb capo0) bts ∧ m2 ≤ wr.heap.size ∧ Own wr m2 2 vo doneT.length (doneT.flatMap ncell) ∧ (∀ g, vo.ownBlock = some g → g < wr.heap.size) ∧ DL (rn2 l) k2 t2 j doneT stT ∧ Rd.Fine l stT) (fun i _ => k2 - (intOf i).toNat)
      case atStart => exact ⟨0, [], t2, .slice none 0 0, rfl, HDA.out, HIN1.out, Nat.le_of_eq HM2.out.symm, Own.nil _ _ _, fun g hg => by simp [Value.ownBlock] at hg, DL.start _ _ _, HF9.out⟩
      case round =>
        obtain ⟨j, doneT, stT, vo, rfl, hds, hin, hm, hown, hold, hdl, hfi⟩ := hrel
        obtain ⟨aot, capot, rfl, -⟩ := hown.slice
        obtain ⟨b0, b1, b2⟩ := hds.rdr.cells
        obtain ⟨x1, hx1⟩ : ∃ x, decide ((j : Int) < n2) = x := ⟨_, rfl⟩
        obtain ⟨x2, hx2⟩ : ∃ x, decide ((j : Int) < 21) = x := ⟨_, rfl⟩
        obtain ⟨x3, hx3⟩ : ∃ x, (stT.2 == 0) = x := ⟨_, rfl⟩
        have HX1 := Lib.hid hx1
        have HX2 := Lib.hid hx2
        have HX3 := Lib.hid hx3
        have HDSt := Lib.hid hds
        have HOWNt := Lib.hid hown
        have HOLDt := Lib.hid hold
        have HMt := Lib.hid hm
        have HKIt := Lib.hid (hin)
        have HDLt := Lib.hid hdl
        have HFIt := Lib.hid hfi
        have HDJ := Lib.hid hdl.len
        clear hds hown hold hm hdl hfi hin
        go_upto_region 20 with fail
        go_cut [90] from 77 to 103 (fun s56 wx => s56 = .bool (x1 && (x2 && x3)) ∧ wx = wr)
        case first =>
          cases x1
          · go_wp2_with fail
            go_meet
            exact ⟨rfl, rfl⟩
          · cases x2
            · go_wp2_with fail
              go_meet
              exact ⟨rfl, rfl⟩
            · cases x3
              · go_wp2_with fail
                go_meet
                exact ⟨rfl, rfl⟩
              · go_wp2_with fail
                go_meet
                exact ⟨rfl, rfl⟩
        case rest =>
        obtain ⟨rfl, rfl⟩ := hcut
        clear b0 b1 b2 hx1 hx2 hx3
        by_cases hgo : (x1 && (x2 && x3)) = true
        · rw [hgo]
          simp only [Bool.and_eq_true] at hgo
          obtain ⟨rfl, rfl, rfl⟩ := hgo
          have h1 := HX1.out
          have h2 := HX2.out
          have h3 := HX3.out
          simp only [decide_eq_true_eq, beq_iff_eq] at h1 h2 h3
          have hjk : j < k2 := by rw [← HK2.out]; omega
          have HJK := Lib.hid hjk
          have T1 := fun w' hr => ref_rtext (w.heap.size + 1) l hl stT HFIt.out 100 w' hr
          have HT := HFIt.out.txt (most := 100) hll
          have T2 := fun w' hr => ref_number (w.heap.size + 1) l hl _ HT.1 w' hr
          have HT2 := HT.1.num hll
          have HNX := HDLt.out.next hjk h3
          unfold rn2 at HNX
          obtain ⟨⟨X, t1⟩, g1⟩ : ∃ x, Rd.txt 100 l stT = x := ⟨_, rfl⟩
          rw [g1] at T1 T2 HT2 HNX
          simp only at T2 HT2 HNX
          obtain ⟨⟨Y, tn⟩, g2⟩ : ∃ x, Rd.num l t1 = x := ⟨_, rfl⟩
          rw [g2] at T2 HT2 HNX
          simp only at HNX
          have HFT := Lib.hid HT2.1
          have T1 := Lib.hid T1
          have T2 := Lib.hid T2
          have HNX := Lib.hid HNX
          have hdl5 := Lib.hid (show doneT.length ≤ 400 by rw [HDJ.out]; omega)
          have hj5 : j ≤ 500 := by omega
          clear hjk h1 h2 h3 HT HT2 g1 g2
          go_wp2_with fail
          refine (T1.out _ HDSt.out.rdr).mono ?_
          rintro e' u1 ⟨rfl, hr, ho⟩
          have hds1 := Lib.hid (HDSt.out.call hr ho)
          have hown1 := Lib.hid (HOWNt.out.only ho (by have := HDSt.out.le; have := HQM.out; omega))
          have hold1 := Lib.hid (fun g hg => Nat.lt_of_lt_of_le (HOLDt.out g hg) ho.size)
          have hm1 := Lib.hid (Nat.le_trans HMt.out ho.size)
          have hki1 := Lib.hid (HKIt.out.mid (w' := u1) (fun g h1 h2 => World.grownBy.block ho g (Nat.lt_of_lt_of_le h2 HMt.out) (by have := HDSt.out.le; simp; omega)))
          clear hr ho
          have hdr := (Keeps.refl u1).drew
          have p0 := hds1.out.qblk.cell 8 _ rfl
          go_wp2_with fail
          go_region_law (first
            | (refine step_append_new rfl (.tmp 96) (.tmp 101) 48 48 rfl m2 96 i1 (.agg #[.string ⟨#[]⟩, .int .i64 0]) 2 24 Tryd.underlying48 ⟨_, Tryd.underlying48, fun _ h => by cases h⟩ ti tz0 tz1 tz2 rfl (by decide) (.slice aot doneT.length capot) doneT.length (doneT.flatMap ncell) rfl hown3.out (.slice (some ⟨u2.heap.size, 0, none⟩) 1 1) 1 [.string (str X), .int .i64 Y] rfl hfd.out (by have := hdl5.out; unfold maxLen; omega) (by have := hdl5.out; omega) hszq.out ?_; intro v' w' hown hg hnew; have hds4 := Lib.hid ((hds2.out.step ((Keeps.refl u2).alloc (.cells #[.string (str X), .int .i64 Y] 96))).grown hg (fun k hk => by have := hown3.out.base k hk; have := HQM.out; omega)); have z0 := hds4.out.qblk.cell 8 _ rfl; have y0 := hds4.out.qblk.frozen 8; obtain ⟨ad2, cap2, rfl, -⟩ := hown.slice)
            | (go_simp; go_at_call 49; refine (T2.out _ (hds1.out.step hdr).rdr).mono ?_; rintro e' u2 ⟨rfl, hr2, ho2⟩; have hds2 := Lib.hid ((hds1.out.step hdr).call hr2 ho2); have q0' := hds2.out.qblk.cell 8 _ rfl; have r0' := hds2.out.qblk.frozen 8; have hlt2 := hds2.out.qblk.lt; have hfd := Lib.hid (Feeds.new2 (P := Tryd.prog) u2 96 (.string (str X)) (.int .i64 Y) rfl rfl 1); have hown3 := Lib.hid (((hown1.out.keeps hdr).only ho2 (by have := hds1.out.le; have := HQM.out; omega)).keeps ((Keeps.refl u2).alloc (.cells #[.string (str X), .int .i64 Y] 96))); have hszq := Lib.hid (show m2 ≤ (u2.alloc (.cells #[.string (str X), .int .i64 Y] 96)).heap.size by have h1 := hm1.out; have h2 := ho2.size; rw [World.size_alloc]; exact Nat.le_succ_of_le (Nat.le_trans h1 h2))))
          all_goals
            go_wp2_with fail
            have hmm := Nat.le_trans hszq.out hg.size
            refine ⟨⟨j + 1, doneT ++ [(X, Y)], tn, .slice ad2 (doneT.length + 1) cap2, by go_num, hds4.out.set 8 _, ?_, by rw [World.size_setCell]; exact hmm, ?_, ?_, HNX.out, HFT.out⟩, by have := HJK.out; simp [intOf]; omega⟩
            · exact hki1.out.mid (far_app hm1.out (b := w.heap.size + 1) (by have := hds1.out.le; omega) ho2 hg (fun k hk => hown3.out.base k hk))
            · rw [List.flatMap_append, List.length_append]
              exact Own.other (by simpa [ncell] using hown) _ (by show q < m2; exact HQM.out) _
            · intro g hg'
              rw [World.size_setCell]
              rcases hnew g hg' with h1 | h1
              · have := hold1.out g h1; have h2 := ho2.size; have h3 := hg.size; rw [World.size_alloc] at h3; have h4 : u1.drew.heap.size = u1.heap.size := rfl; omega
              · obtain ⟨g', cc, e1, _, h5, _⟩ := Own.form hown (by decide) (by omega)
                rw [e1] at hg'; simp [Value.ownBlock] at hg'; omega
        · skip
          simp only [Bool.not_eq_true] at hgo
          rw [hgo]
          have hstop : Rd.loop (rn2 l) k2 t2 = (doneT, stT) := HDLt.out.stop (by
            have h1 := HX1.out; have h2 := HX2.out; have h3 := HX3.out
            have hk := HK2.out
            by_cases hst : stT.2 = 0
            · refine .inl ?_
              have h3' : x3 = true := by rw [← h3]; simpa using hst
              rw [h3'] at hgo
              cases x1
              · simp at h1; omega
              · cases x2
                · simp at h2; omega
                · simp at hgo
            · exact .inr hst)
          have HS2 := Lib.hid hstop
          clear hgo hstop
          have C9 := fun b w hr => ref_number b l hl _ HFIt.out w hr
          have F9 := HFIt.out.num hll
          obtain ⟨⟨n3, t3⟩, e12⟩ : ∃ x, Rd.num l stT = x := ⟨_, rfl⟩
          rw [e12] at C9 F9
          have HE12 := Lib.hid e12
          have HC11 := Lib.hid C9
          have HF11 := Lib.hid F9.1
          have HNB3 := Lib.hid F9.2
          clear C9 F9 e12
          have HDT5 := Lib.hid (show doneT.length ≤ 21 by rw [HDLt.out.len]; have := HDLt.out.le; have := HK2.out; omega)
          go_wp2_with fail
          refine (HC11.out (w.heap.size + 1) _ HDSt.out.rdr).mono ?_
          rintro e' v2 ⟨rfl, hr, ho⟩
          have HDB := Lib.hid (HDSt.out.call hr ho)
          obtain ⟨m3, hm3⟩ : ∃ m, v2.heap.size = m := ⟨_, rfl⟩
          have HM23 := Lib.hid (show m2 ≤ m3 by rw [← hm3]; exact Nat.le_trans HMt.out ho.size)
          have HQM3 := Lib.hid (show q < m3 by rw [← hm3]; exact HDB.out.qblk.lt)
          have HIN2 := Lib.hid (HKIt.out.mid (w' := v2) (fun g h1 h2 => World.grownBy.block ho g (Nat.lt_of_lt_of_le h2 HMt.out) (by have := HDSt.out.le; simp; omega)))
          have hown2 := HOWNt.out.only ho (by have := HDSt.out.le; have := HQM.out; omega)
          have hfl2 : Fl 2 ncell (fun g => q < g ∧ g < m3) v2 (.slice aot doneT.length capot) doneT := Fl.of_own hown2 (by have := HDT5.out; omega) (fun x => rfl) (fun g hg => ⟨by have := hown2.base g hg; have := HQM.out; omega, by rw [← hm3]; exact Nat.lt_of_lt_of_le (HOLDt.out g hg) ho.size⟩)
          have HFL2 := Lib.hid hfl2
          have HM3 := Lib.hid hm3
          clear hr ho hown2 hfl2 hm3
          obtain ⟨lt, hlt⟩ : ∃ n, doneT.length = n := ⟨_, rfl⟩
          rw [hlt] at HFL2 HDB
          clear hlt
          obtain ⟨k3, hk3⟩ : ∃ k, min n3.toNat 401 = k := ⟨_, rfl⟩
          have HK3 := Lib.hid hk3
          clear hk3
          go_wp2_with fail
          go_loopw [13] (fun i wr => ∃ (j : Nat) (doneP : List (List UInt8 × Int)) (stP : Rd.St) (vo : Value), i = .int .i64 j ∧ RS 51 #[.int .i64 0, .int .i64 0, .int .i64 0, .int .i64 0, .int .i64 0, .int .i64 0, .int .i64 0, .slice none 0 0, .slice none 0 0, .slice none 0 0] w q l stP #[.int .i64 a, .int .i64 b, .int .i64 c, .int .i64 d, .int .i64 e, .int .i64 f, .int .i64 g, .slice ao0 lb capo0, .slice aot lt capot, vo] wr ∧ (BsIn (fun g => q < g ∧ g < m2) wr (.slice ao0 lb capo0) bts ∧ Fl 2 ncell (fun g => q < g ∧ g < m3) wr (.slice aot lt capot) doneT) ∧ m3 ≤ wr.heap.size ∧ Own wr m3 2 vo doneP.length (doneP.flatMap ncell) ∧ (∀ g, vo.ownBlock = some g → g < wr.heap.size) ∧ DL (rn2 l) k3 t3 j doneP stP ∧ Rd.Fine l stP) (fun i _ => k3 - (intOf i).toNat)
          case atStart => exact ⟨0, [], t3, .slice none 0 0, rfl, HDB.out, ⟨HIN2.out, HFL2.out⟩, Nat.le_of_eq HM3.out.symm, Own.nil _ _ _, fun g hg => by simp [Value.ownBlock] at hg, DL.start _ _ _, HF11.out⟩
          case round =>
            obtain ⟨j, doneP, stP, vo, rfl, hds, ⟨hin, hfl⟩, hm, hown, hold, hdl, hfi⟩ := hrel
            obtain ⟨aop, capop, rfl, -⟩ := hown.slice
            obtain ⟨b0, b1, b2⟩ := hds.rdr.cells
            obtain ⟨x1, hx1⟩ : ∃ x, decide ((j : Int) < n3) = x := ⟨_, rfl⟩
            obtain ⟨x2, hx2⟩ : ∃ x, decide ((j : Int) < 401) = x := ⟨_, rfl⟩
            obtain ⟨x3, hx3⟩ : ∃ x, (stP.2 == 0) = x := ⟨_, rfl⟩
            have HX1 := Lib.hid hx1
            have HX2 := Lib.hid hx2
            have HX3 := Lib.hid hx3
            have HDSp := Lib.hid hds
            have HOWNp := Lib.hid hown
            have HOLDp := Lib.hid hold
            have HMp := Lib.hid hm
            have HKIp := Lib.hid (And.intro hin hfl)
            have HDLp := Lib.hid hdl
            have HFIp := Lib.hid hfi
            have HDJ := Lib.hid hdl.len
            clear hds hown hold hm hdl hfi hin hfl
            go_upto_region 26 with fail
            go_cut [119] from 106 to 132 (fun s56 wx => s56 = .bool (x1 && (x2 && x3)) ∧ wx = wr)
            case first =>
              cases x1
              · go_wp2_with fail
                go_meet
                exact ⟨rfl, rfl⟩
              · cases x2
                · go_wp2_with fail
                  go_meet
                  exact ⟨rfl, rfl⟩
                · cases x3
                  · go_wp2_with fail
                    go_meet
                    exact ⟨rfl, rfl⟩
                  · go_wp2_with fail
                    go_meet
                    exact ⟨rfl, rfl⟩
            case rest =>
            obtain ⟨rfl, rfl⟩ := hcut
            clear b0 b1 b2 hx1 hx2 hx3
            by_cases hgo : (x1 && (x2 && x3)) = true
            · rw [hgo]
              simp only [Bool.and_eq_true] at hgo
              obtain ⟨rfl, rfl, rfl⟩ := hgo
              have h1 := HX1.out
              have h2 := HX2.out
              have h3 := HX3.out
              simp only [decide_eq_true_eq, beq_iff_eq] at h1 h2 h3
              have hjk : j < k3 := by rw [← HK3.out]; omega
              have HJK := Lib.hid hjk
              have T1 := fun w' hr => ref_rtext (w.heap.size + 1) l hl stP HFIp.out 100 w' hr
              have HT := HFIp.out.txt (most := 100) hll
              have T2 := fun w' hr => ref_number (w.heap.size + 1) l hl _ HT.1 w' hr
              have HT2 := HT.1.num hll
              have HNX := HDLp.out.next hjk h3
              unfold rn2 at HNX
              obtain ⟨⟨X, t1⟩, g1⟩ : ∃ x, Rd.txt 100 l stP = x := ⟨_, rfl⟩
              rw [g1] at T1 T2 HT2 HNX
              simp only at T2 HT2 HNX
              obtain ⟨⟨Y, tn⟩, g2⟩ : ∃ x, Rd.num l t1 = x := ⟨_, rfl⟩
              rw [g2] at T2 HT2 HNX
              simp only at HNX
              have HFT := Lib.hid HT2.1
              have T1 := Lib.hid T1
              have T2 := Lib.hid T2
              have HNX := Lib.hid HNX
              have hdl5 := Lib.hid (show doneP.length ≤ 400 by rw [HDJ.out]; omega)
              have hj5 : j ≤ 500 := by omega
              clear hjk h1 h2 h3 HT HT2 g1 g2
              go_wp2_with fail
              refine (T1.out _ HDSp.out.rdr).mono ?_
              rintro e' u1 ⟨rfl, hr, ho⟩
              have hds1 := Lib.hid (HDSp.out.call hr ho)
              have hown1 := Lib.hid (HOWNp.out.only ho (by have := HDSp.out.le; have := HQM3.out; omega))
              have hold1 := Lib.hid (fun g hg => Nat.lt_of_lt_of_le (HOLDp.out g hg) ho.size)
              have hm1 := Lib.hid (Nat.le_trans HMp.out ho.size)
              have hki1 := Lib.hid (And.intro (HKIp.out.1.mid (w' := u1) (fun g h1 h2 => World.grownBy.block ho g (Nat.lt_of_lt_of_le h2 (Nat.le_trans HM23.out HMp.out)) (by have := HDSp.out.le; simp; omega))) (HKIp.out.2.mid (w' := u1) (fun x => ⟨_, rfl⟩) (fun g h1 h2 => World.grownBy.block ho g (Nat.lt_of_lt_of_le h2 HMp.out) (by have := HDSp.out.le; simp; omega))))
              clear hr ho
              have hdr := (Keeps.refl u1).drew
              have p0 := hds1.out.qblk.cell 9 _ rfl
              go_wp2_with fail
              go_region_law (first
                | (refine step_append_new rfl (.tmp 125) (.tmp 130) 49 49 rfl m3 98 i2 (.agg #[.string ⟨#[]⟩, .int .i64 0]) 2 24 Tryd.underlying49 ⟨_, Tryd.underlying49, fun _ h => by cases h⟩ pi pz0 pz1 pz2 rfl (by decide) (.slice aop doneP.length capop) doneP.length (doneP.flatMap ncell) rfl hown3.out (.slice (some ⟨u2.heap.size, 0, none⟩) 1 1) 1 [.string (str X), .int .i64 Y] rfl hfd.out (by have := hdl5.out; unfold maxLen; omega) (by have := hdl5.out; omega) hszq.out ?_; intro v' w' hown hg hnew; have hds4 := Lib.hid ((hds2.out.step ((Keeps.refl u2).alloc (.cells #[.string (str X), .int .i64 Y] 98))).grown hg (fun k hk => by have := hown3.out.base k hk; have := HQM3.out; omega)); have z0 := hds4.out.qblk.cell 9 _ rfl; have y0 := hds4.out.qblk.frozen 9; obtain ⟨ad2, cap2, rfl, -⟩ := hown.slice)
                | (go_simp; go_at_call 49; refine (T2.out _ (hds1.out.step hdr).rdr).mono ?_; rintro e' u2 ⟨rfl, hr2, ho2⟩; have hds2 := Lib.hid ((hds1.out.step hdr).call hr2 ho2); have q0' := hds2.out.qblk.cell 9 _ rfl; have r0' := hds2.out.qblk.frozen 9; have hlt2 := hds2.out.qblk.lt; have hfd := Lib.hid (Feeds.new2 (P := Tryd.prog) u2 98 (.string (str X)) (.int .i64 Y) rfl rfl 1); have hown3 := Lib.hid (((hown1.out.keeps hdr).only ho2 (by have := hds1.out.le; have := HQM3.out; omega)).keeps ((Keeps.refl u2).alloc (.cells #[.string (str X), .int .i64 Y] 98))); have hszq := Lib.hid (show m3 ≤ (u2.alloc (.cells #[.string (str X), .int .i64 Y] 98)).heap.size by have h1 := hm1.out; have h2 := ho2.size; rw [World.size_alloc]; exact Nat.le_succ_of_le (Nat.le_trans h1 h2))))
              all_goals
                go_wp2_with fail
                have hmm := Nat.le_trans hszq.out hg.size
                refine ⟨⟨j + 1, doneP ++ [(X, Y)], tn, .slice ad2 (doneP.length + 1) cap2, by go_num, hds4.out.set 9 _, ?_, by rw [World.size_setCell]; exact hmm, ?_, ?_, HNX.out, HFT.out⟩, by have := HJK.out; simp [intOf]; omega⟩
                · exact ⟨hki1.out.1.mid (far_app (Nat.le_trans HM23.out hm1.out) (b := w.heap.size + 1) (by have := hds1.out.le; omega) ho2 hg (fun k hk => Nat.le_trans HM23.out (hown3.out.base k hk))), hki1.out.2.mid (fun x => ⟨_, rfl⟩) (far_app hm1.out (b := w.heap.size + 1) (by have := hds1.out.le; omega) ho2 hg (fun k hk => hown3.out.base k hk))⟩
                · rw [List.flatMap_append, List.length_append]
                  exact Own.other (by simpa [ncell] using hown) _ (by show q < m3; exact HQM3.out) _
                · intro g hg'
                  rw [World.size_setCell]
                  rcases hnew g hg' with h1 | h1
                  · have := hold1.out g h1; have h2 := ho2.size; have h3 := hg.size; rw [World.size_alloc] at h3; have h4 : u1.drew.heap.size = u1.heap.size := rfl; omega
                  · obtain ⟨g', cc, e1, _, h5, _⟩ := Own.form hown (by decide) (by omega)
                    rw [e1] at hg'; simp [Value.ownBlock] at hg'; omega
            · skip
              simp only [Bool.not_eq_true] at hgo
              rw [hgo]
              have hstop : Rd.loop (rn2 l) k3 t3 = (doneP, stP) := HDLp.out.stop (by
                have h1 := HX1.out; have h2 := HX2.out; have h3 := HX3.out
                have hk := HK3.out
                by_cases hst : stP.2 = 0
                · refine .inl ?_
                  have h3' : x3 = true := by rw [← h3]; simpa using hst
                  rw [h3'] at hgo
                  cases x1
                  · simp at h1; omega
                  · cases x2
                    · simp at h2; omega
                    · simp at hgo
                · exact .inr hst)
              have HS3 := Lib.hid hstop
              clear hgo hstop
              have HDP5 := Lib.hid (show doneP.length ≤ 401 by rw [HDLp.out.len]; have := HDLp.out.le; have := HK3.out; omega)
              have hri : RepIn (fun g => q < g ∧ g < wc.heap.size) wc (repOf a b c d e f g doneB doneT doneP) (.slice ao0 lb capo0) (.slice aot lt capot) (.slice aop doneP.length capop) := by
                refine ⟨?_, HKIp.out.2.move (fun g hg hlt => ⟨⟨hg.1, hlt⟩, rfl⟩) (fun x => ⟨_, rfl⟩), Fl.of_own HOWNp.out (by have := HDP5.out; show doneP.length ≤ _; omega) (fun x => rfl) (fun g hg => ⟨by have := HOWNp.out.base g hg; have := HQM3.out; omega, HOLDp.out g hg⟩)⟩
                show BsIn _ wc _ (doneB.map (fun t => (Bat.dec t 0).1))
                rw [HBTS.out]
                exact HKIp.out.1.move (fun g hg hlt => ⟨⟨hg.1, hlt⟩, rfl⟩)
              have HRI := Lib.hid hri
              have HRP := ref_reply (repOf a b c d e f g doneB doneT doneP) _ (.slice ao0 lb capo0) (.slice aot lt capot) (.slice aop doneP.length capop) wc hri
              have hRok := Rep.refB_ok (repOf a b c d e f g doneB doneT doneP)
              have hRbd := Rep.refB_body (r := (repOf a b c d e f g doneB doneT doneP))
              obtain ⟨R1, R2, hR⟩ : ∃ r1 r2, (Rep.refB (repOf a b c d e f g doneB doneT doneP)) = (r1, r2) := ⟨_, _, rfl⟩
              rw [hR] at HRP hRok hRbd
              simp only at HRP hRok hRbd
              have HRP := Lib.hid HRP
              have HROK := Lib.hid hRok
              have HRBD := Lib.hid hRbd
              have HREF := Lib.hid (show RefR l a s1 b s2 c s3 d s4 e s5 f s6 g s7 n s8 doneB stB n2 t2 doneT stT n3 t3 doneP stP from ⟨HE.out.1, HE.out.2.1, HE.out.2.2.1, HE.out.2.2.2.1, HE.out.2.2.2.2.1, HE.out.2.2.2.2.2.1, HE.out.2.2.2.2.2.2.1, HE.out.2.2.2.2.2.2.2, by rw [HK1.out]; exact HS1.out, HE10.out, by rw [HK2.out]; exact HS2.out, HE12.out, by rw [HK3.out]; exact HS3.out⟩)
              clear hri hRok hRbd hR
              go_upto_region 30 with fail
              go_cut [15, 16] from 17 (fun s15 s16 wx => ∃ (wn : World), wn = wx ∧ s15 = .string (str R1) ∧ s16 = .bool R2 ∧ Keeps wc wn)
              case first =>
                refine wp_region_lit ?_
                refine wpList_load_mid (by rfl) 51 (.tmp 5) (by rfl) q 0 (by rfl) (repList (repOf a b c d e f g doneB doneT doneP) (.slice ao0 lb capo0) (.slice aot lt capot) (.slice aop doneP.length capop)) _ (rng_of_blk HDSp.out.qblk) Tryd.underlying51 (by rfl) size_rp19 ?_
                simp only [Act.put, List.setIfInBounds_toArray, List.set_cons_zero, List.set_cons_succ]
                go_wp2_with fail
                refine HRP.out.mono ?_
                rintro e' wd ⟨rfl, hkc⟩
                go_wp2_with fail
                go_meet
                exact ⟨_, rfl, rfl, rfl, hkc⟩
              case rest =>
              obtain ⟨w30, rfl, rfl, rfl, hk30⟩ := hcut
              have HDF := Lib.hid (HDSp.out.step hk30)
              have HRI2 := Lib.hid (HRI.out.move (T := fun g => q < g ∧ g < w30.heap.size) (w' := w30) (fun g hg hlt => ⟨⟨hg.1, Nat.lt_of_lt_of_le hg.2 hk30.size⟩, hk30.block hlt⟩))
              obtain ⟨b0, b1, b2⟩ := HDF.out.rdr.cells
              clear hk30
              by_cases hst : stP.2 = 0
              · have hst2 : (stP.2 != 0) = false := by simpa using hst
                cases R2
                · have HBD := Lib.hid (show Rep.dec l = (Rep.none, 3) from Rep.ref_bad HREF.out (fun hc => by have h1 := HROK.out; have h2 := hc.2.2.1; rw [h2] at h1; cases h1))
                  clear hst
                  go_upto_region 32 with fail
                  refine wp_region_lit ?_
                  refine wpList_plain (by rfl) fun _ hK => ?_
                  go_simp
                  refine hK _ _ ?_
                  clear hK
                  try simp only [Act.put, List.setIfInBounds_toArray, List.set_cons_zero, List.set_cons_succ]
                  have hzb : Blk _ w.heap.size 51 (repCells Rep.none (.slice none 0 0) (.slice none 0 0) (.slice none 0 0)) := HDF.out.zblk
                  refine wpList_store_mid (by rfl) 51 (.tmp 2) (.tmp 152) (by rfl) w.heap.size 0 (repCells Rep.none (.slice none 0 0) (.slice none 0 0) (.slice none 0 0)) (by rfl) (by rfl) (there_rep hzb) size_rp19' one_rep ?_
                  have hfb := setCells_rep (q' := Rep.none) (x := .slice none 0 0) (y := .slice none 0 0) (z := .slice none 0 0) hzb
                  have hlv := run_loadVar_mid (P := Tryd.prog) _ w.heap.size 0 51 (repList Rep.none (.slice none 0 0) (.slice none 0 0) (.slice none 0 0)) _ (rng_of_blk hfb) Tryd.underlying51 rfl size_rp19
                  have HKF := Lib.hid (Keeps.setCells (q := w.heap.size) (Nat.le_refl _) (repCells Rep.none (.slice none 0 0) (.slice none 0 0) (.slice none 0 0)).toList 0 HDF.out.keeps)
                  generalize World.setCells _ w.heap.size 0 (repCells Rep.none (.slice none 0 0) (.slice none 0 0) (.slice none 0 0)).toList = wf at hlv HKF ⊢
                  go_wp2_with fail
                  refine bodyPost_ret (v := .tuple #[repV Rep.none (.slice none 0 0) (.slice none 0 0) (.slice none 0 0), .int .i64 3]) (results_cell2 rfl rfl rfl hlv) rfl ?_
                  rw [HBD.out]
                  exact ⟨_, _, _, rfl, RepIn.nil _ _, HKF.out⟩
                · by_cases hteq : R1 = l
                  · subst hteq
                    have HGD := Lib.hid (show Rep.dec R1 = ((repOf a b c d e f g doneB doneT doneP), 0) from Rep.ref_good HROK.out.symm (HRBD.out HROK.out.symm).symm)
                    clear hst
                    go_upto_region 33 with fail
                    refine wp_region_lit ?_
                    refine wpList_load_mid (by rfl) 51 (.tmp 5) (by rfl) q 0 (by rfl) (repList (repOf a b c d e f g doneB doneT doneP) (.slice ao0 lb capo0) (.slice aot lt capot) (.slice aop doneP.length capop)) _ (rng_of_blk HDF.out.qblk) Tryd.underlying51 (by rfl) size_rp19 ?_
                    simp only [Act.put, List.setIfInBounds_toArray, List.set_cons_zero, List.set_cons_succ]
                    have hzb : Blk _ w.heap.size 51 (repCells Rep.none (.slice none 0 0) (.slice none 0 0) (.slice none 0 0)) := HDF.out.zblk
                    refine wpList_store_mid (by rfl) 51 (.tmp 2) (.tmp 153) (by rfl) w.heap.size 0 (repCells (repOf a b c d e f g doneB doneT doneP) (.slice ao0 lb capo0) (.slice aot lt capot) (.slice aop doneP.length capop)) (by rfl) (by rfl) (there_rep hzb) size_rp19' one_rep ?_
                    have hfb := setCells_rep (q' := (repOf a b c d e f g doneB doneT doneP)) (x := (.slice ao0 lb capo0)) (y := (.slice aot lt capot)) (z := (.slice aop doneP.length capop)) hzb
                    have hlv := run_loadVar_mid (P := Tryd.prog) _ w.heap.size 0 51 (repList (repOf a b c d e f g doneB doneT doneP) (.slice ao0 lb capo0) (.slice aot lt capot) (.slice aop doneP.length capop)) _ (rng_of_blk hfb) Tryd.underlying51 rfl size_rp19
                    have HKF := Lib.hid (Keeps.setCells (q := w.heap.size) (Nat.le_refl _) (repCells (repOf a b c d e f g doneB doneT doneP) (.slice ao0 lb capo0) (.slice aot lt capot) (.slice aop doneP.length capop)).toList 0 HDF.out.keeps)
                    have HRF := Lib.hid (HRI2.out.move (T := fun g => w.heap.size ≤ g) (w' := World.setCells w30 w.heap.size 0 (repCells (repOf a b c d e f g doneB doneT doneP) (.slice ao0 lb capo0) (.slice aot lt capot) (.slice aop doneP.length capop)).toList) (fun g hg hlt => ⟨by have := HDF.out.le; omega, (Two.setCells2 (c := w.heap.size) _ 0 (Two.refl w.heap.size w.heap.size w30)).block g hlt (by have := HDF.out.le; omega) (by have := HDF.out.le; omega)⟩))
                    generalize World.setCells w30 w.heap.size 0 (repCells (repOf a b c d e f g doneB doneT doneP) (.slice ao0 lb capo0) (.slice aot lt capot) (.slice aop doneP.length capop)).toList = wf at hlv HKF HRF ⊢
                    go_wp2_with fail
                    refine bodyPost_ret (v := .tuple #[repV (repOf a b c d e f g doneB doneT doneP) (.slice ao0 lb capo0) (.slice aot lt capot) (.slice aop doneP.length capop), .int .i64 0]) (results_cell2 rfl rfl rfl hlv) rfl ?_
                    rw [HGD.out]
                    exact ⟨_, _, _, rfl, HRF.out, HKF.out⟩
                  · have HBD := Lib.hid (show Rep.dec l = (Rep.none, 3) from Rep.ref_bad HREF.out (fun hc => hteq ((HRBD.out hc.2.2.1).trans hc.2.2.2)))
                    have hsb : ((str R1).toList == (str l).toList) = false := by rw [str_toList, str_toList]; simpa using hteq
                    clear hst hteq
                    go_upto_region 32 with fail
                    refine wp_region_lit ?_
                    refine wpList_plain (by rfl) fun _ hK => ?_
                    go_simp
                    refine hK _ _ ?_
                    clear hK
                    try simp only [Act.put, List.setIfInBounds_toArray, List.set_cons_zero, List.set_cons_succ]
                    have hzb : Blk _ w.heap.size 51 (repCells Rep.none (.slice none 0 0) (.slice none 0 0) (.slice none 0 0)) := HDF.out.zblk
                    refine wpList_store_mid (by rfl) 51 (.tmp 2) (.tmp 152) (by rfl) w.heap.size 0 (repCells Rep.none (.slice none 0 0) (.slice none 0 0) (.slice none 0 0)) (by rfl) (by rfl) (there_rep hzb) size_rp19' one_rep ?_
                    have hfb := setCells_rep (q' := Rep.none) (x := .slice none 0 0) (y := .slice none 0 0) (z := .slice none 0 0) hzb
                    have hlv := run_loadVar_mid (P := Tryd.prog) _ w.heap.size 0 51 (repList Rep.none (.slice none 0 0) (.slice none 0 0) (.slice none 0 0)) _ (rng_of_blk hfb) Tryd.underlying51 rfl size_rp19
                    have HKF := Lib.hid (Keeps.setCells (q := w.heap.size) (Nat.le_refl _) (repCells Rep.none (.slice none 0 0) (.slice none 0 0) (.slice none 0 0)).toList 0 HDF.out.keeps)
                    generalize World.setCells _ w.heap.size 0 (repCells Rep.none (.slice none 0 0) (.slice none 0 0) (.slice none 0 0)).toList = wf at hlv HKF ⊢
                    go_wp2_with fail
                    refine bodyPost_ret (v := .tuple #[repV Rep.none (.slice none 0 0) (.slice none 0 0) (.slice none 0 0), .int .i64 3]) (results_cell2 rfl rfl rfl hlv) rfl ?_
                    rw [HBD.out]
                    exact ⟨_, _, _, rfl, RepIn.nil _ _, HKF.out⟩
              · have hst2 : (stP.2 != 0) = true := by simpa using hst
                have HBD := Lib.hid (show Rep.dec l = (Rep.none, 3) from Rep.ref_bad HREF.out (fun hc => hst hc.2.1))
                clear hst
                go_upto_region 32 with fail
                refine wp_region_lit ?_
                refine wpList_plain (by rfl) fun _ hK => ?_
                go_simp
                refine hK _ _ ?_
                clear hK
                try simp only [Act.put, List.setIfInBounds_toArray, List.set_cons_zero, List.set_cons_succ]
                have hzb : Blk _ w.heap.size 51 (repCells Rep.none (.slice none 0 0) (.slice none 0 0) (.slice none 0 0)) := HDF.out.zblk
                refine wpList_store_mid (by rfl) 51 (.tmp 2) (.tmp 152) (by rfl) w.heap.size 0 (repCells Rep.none (.slice none 0 0) (.slice none 0 0) (.slice none 0 0)) (by rfl) (by rfl) (there_rep hzb) size_rp19' one_rep ?_
                have hfb := setCells_rep (q' := Rep.none) (x := .slice none 0 0) (y := .slice none 0 0) (z := .slice none 0 0) hzb
                have hlv := run_loadVar_mid (P := Tryd.prog) _ w.heap.size 0 51 (repList Rep.none (.slice none 0 0) (.slice none 0 0) (.slice none 0 0)) _ (rng_of_blk hfb) Tryd.underlying51 rfl size_rp19
                have HKF := Lib.hid (Keeps.setCells (q := w.heap.size) (Nat.le_refl _) (repCells Rep.none (.slice none 0 0) (.slice none 0 0) (.slice none 0 0)).toList 0 HDF.out.keeps)
                generalize World.setCells _ w.heap.size 0 (repCells Rep.none (.slice none 0 0) (.slice none 0 0) (.slice none 0 0)).toList = wf at hlv HKF ⊢
                go_wp2_with fail
                refine bodyPost_ret (v := .tuple #[repV Rep.none (.slice none 0 0) (.slice none 0 0) (.slice none 0 0), .int .i64 3]) (results_cell2 rfl rfl rfl hlv) rfl ?_
                rw [HBD.out]
                exact ⟨_, _, _, rfl, RepIn.nil _ _, HKF.out⟩
end Go.Proofs.YtgbnpehpfadehaaDoor
