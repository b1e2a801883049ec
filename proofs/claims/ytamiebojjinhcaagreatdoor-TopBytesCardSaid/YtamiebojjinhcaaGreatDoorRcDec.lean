/-
  record.Decode: the walk.
-/
import Derived.Test.YtamiebojjinhcaaGreatDoorRcCheck
import Derived.Test.YtamiebojjinhcaaGreatDoorRcRd
import Derived.Test.YtamiebojjinhcaaGreatDoorRs
set_option linter.unusedVariables false
namespace Go.Proofs.YtamiebojjinhcaaGreatDoor
open Go.RowKit

/-- the cells of a record -/
def rcells (a t : Int) (b : Bool) (k : List UInt8) (g : Bool) (v : List UInt8) (hv : Value) : Array Value := #[.int .i64 a, .int .i64 t, .bool b, .string (str k), .bool g, .string (str v), hv]
/-- where Decode stands: the result's block (w0's next), the reader's (the one behind), the record's -/
structure DS (R : TypeId) (w0 : World) (q : Nat) (l : List UInt8) (st : Rd.St) (cs : Array Value) (wr : World) : Prop where
  keeps : Keeps w0 wr
  pblk : Blk wr w0.heap.size 56 (rcells 0 0 false [] false [] (.slice none 0 0))
  rdr : Rdr wr (w0.heap.size + 1) R l st
  qblk : Blk wr q 56 cs
  le : w0.heap.size + 2 ≤ q
theorem DS.call {R : TypeId} {w0 wr w' : World} {q : Nat} {l : List UInt8} {st st' : Rd.St} {cs : Array Value} (h : DS R w0 q l st cs wr) (hr : Rdr w' (w0.heap.size + 1) R l st') (ho : Only (w0.heap.size + 1) wr w') : DS R w0 q l st' cs w' :=
  ⟨ho.keeps h.keeps (by omega), h.pblk.grown ho (by simp), hr, h.qblk.grown ho (by have := h.le; simp; omega), h.le⟩
theorem DS.step {R : TypeId} {w0 wr w' : World} {q : Nat} {l : List UInt8} {st : Rd.St} {cs : Array Value} (h : DS R w0 q l st cs wr) (k : Keeps wr w') : DS R w0 q l st cs w' :=
  ⟨h.keeps.trans k, h.pblk.keeps k, h.rdr.keeps k, h.qblk.keeps k, h.le⟩
theorem DS.set {R : TypeId} {w0 wr : World} {q : Nat} {l : List UInt8} {st : Rd.St} {cs : Array Value} (h : DS R w0 q l st cs wr) (j : Nat) (u : Value) : DS R w0 q l st (cs.setIfInBounds j u) (wr.setCell ⟨q, j, none⟩ u) :=
  ⟨h.keeps.setCell (by have := h.le; simp; omega) u, h.pblk.other _ (by have := h.le; simp; omega) u, Blk.other h.rdr _ (by have := h.le; simp; omega) u, h.qblk.set j u, h.le⟩
theorem DS.other {R : TypeId} {w0 wr : World} {q : Nat} {l : List UInt8} {st : Rd.St} {cs : Array Value} (h : DS R w0 q l st cs wr) (p : Addr) (hp : q < p.block) (u : Value) : DS R w0 q l st cs (wr.setCell p u) :=
  ⟨h.keeps.setCell (by have := h.le; omega) u, h.pblk.other _ (by have := h.le; omega) u, Blk.other h.rdr _ (by have := h.le; omega) u, h.qblk.other _ (by omega) u, h.le⟩
theorem DS.grown {R : TypeId} {w0 wr w' : World} {q : Nat} {l : List UInt8} {st : Rd.St} {cs : Array Value} {row : Option Nat} (h : DS R w0 q l st cs wr) (g : wr.grownBy w' row) (hr : ∀ k, row = some k → q < k) : DS R w0 q l st cs w' :=
  ⟨h.keeps.grown g (fun k hk => by have := hr k hk; have := h.le; omega), h.pblk.grown g (fun e => by have := hr _ e.symm; have := h.le; omega), Blk.grown h.rdr g (fun e => by have := hr _ e.symm; have := h.le; omega), h.qblk.grown g (fun e => by have := hr _ e.symm; omega), h.le⟩
theorem Feeds.new2 {P : Program} (w : World) (t : TypeId) (u v : Value) (hu : u.oneCell' = true) (hv : v.oneCell' = true) (c : Nat) : Feeds P (w.alloc (.cells #[u, v] t)) 2 (.slice (some ⟨w.heap.size, 0, none⟩) 1 c) 1 [u, v] := by
  refine Feeds.slice rfl (fun j x hj => ?_) (fun x hx => ?_)
  · rw [Go.WideShapes.add_plain, Nat.zero_add]
    match j, hj with
    | 0, hj => simp at hj; subst hj; exact cell_new w _ t 0 _ rfl
    | 1, hj => simp at hj; subst hj; exact cell_new w _ t 1 _ rfl
    | j + 2, hj => simp at hj
  · simp at hx; rcases hx with rfl | rfl <;> assumption
/-- the headers' loop -/
structure DI (l : List UInt8) (z : Nat) (s7 : Rd.St) (j : Nat) (done : List (List UInt8 × List UInt8)) (st : Rd.St) : Prop where
  len : done.length = j
  le : j ≤ z
  fine : Rd.Fine l st
  eq : Rec.hread l z s7 = (done ++ (Rec.hread l (z - j) st).1, (Rec.hread l (z - j) st).2)
  first : s7.2 ≠ 0 → st = s7
theorem DI.start (l : List UInt8) (z : Nat) {s7 : Rd.St} (h : Rd.Fine l s7) : DI l z s7 0 [] s7 := ⟨rfl, Nat.zero_le _, h, by simp, fun _ => rfl⟩
theorem DI.next {l : List UInt8} {z : Nat} {s7 : Rd.St} {j : Nat} {done : List (List UInt8 × List UInt8)} {st : Rd.St} (h : DI l z s7 j done st) (hj : j < z) (h0 : st.2 = 0) (hl : l.length ≤ 9223372036854775807) :
    DI l z s7 (j + 1) (done ++ [((Rd.txt 1000 l st).1, (Rd.txt 1000 l (Rd.txt 1000 l st).2).1)]) (Rd.txt 1000 l (Rd.txt 1000 l st).2).2 := by
  refine ⟨by simp [h.len], hj, ((h.fine.txt hl).1.txt hl).1, ?_, fun hs => ?_⟩
  · rw [h.eq, show z - j = (z - (j + 1)) + 1 by omega, Rec.hread, if_pos h0]
    simp
  · rw [h.first hs] at h0; exact absurd h0 hs
theorem DI.stop {l : List UInt8} {z : Nat} {s7 : Rd.St} {j : Nat} {done : List (List UInt8 × List UInt8)} {st : Rd.St} (h : DI l z s7 j done st) (hj : z ≤ j ∨ st.2 ≠ 0) : Rec.hread l z s7 = (done, st) := by
  rw [h.eq]
  rcases hj with hj | hj
  · rw [show z - j = 0 by omega]; simp [Rec.hread]
  · rw [Rec.hread_skip l _ hj]; simp
theorem own_round {u1 u2 : World} {b H base size : Nat} {v : Value} {n : Nat} {xs : List Value} (h : Own u1 base size v n xs) (hH : u1.heap.size = H) (o : Obj) (ho : Only b (u1.alloc o) u2) (hb : b < base) (Y : Value) (o' : Obj) :
    Own ((u2.setCell ⟨H, 1, none⟩ Y).alloc o') base size v n xs := h.kept fun g hg hlt => by
  have e1 := Below.heap_alloc u1 o g hlt
  have hs := World.grownBy.size ho
  rw [World.size_alloc] at hs
  have e2 := World.grownBy.block ho g (by rw [World.size_alloc]; omega) (fun e => by have := h.base g hg; cases e; omega)
  have e3 := Below.heap_setCell u2 ⟨H, 1, none⟩ Y g (by show g ≠ H; omega)
  have e4 := Below.heap_alloc (u2.setCell ⟨H, 1, none⟩ Y) o' g (by simp [World.setCell]; omega)
  rw [e4, e3, e2, e1]
/-- a record, a place, an error -/
def retR (g : Rec × Int × Int) (hv : Value) : Ending := .returned (.tuple #[recV g.1 hv, .int .i64 g.2.1, .int .i64 g.2.2])

theorem dec_fin {l : List UInt8} {at_ a t f n : Int} {k v : List UInt8} {s1 s2 s3 s4 s5 s6 s7 st : Rd.St} {done : List (List UInt8 × List UInt8)}
    (h : Rd.num l (at_, 0) = (a, s1) ∧ Rd.num l s1 = (t, s2) ∧ Rd.num l s2 = (f, s3) ∧ Rd.txt 1000 l s3 = (k, s4) ∧ Rd.txt 1000 l s4 = (v, s5) ∧ Rd.num l s5 = (n, s6) ∧ Rd.want (decide (0 ≤ n) && decide (n ≤ 10)) s6 = s7)
    (hh : Rec.hread l n.toNat s7 = (done, st)) :
    Rec.dec l at_ = if (Rd.want (decide (0 ≤ f) && decide (f ≤ 3) && (Rec.mk a t (decide (f = 1 ∨ f = 3)) k (decide (f = 2 ∨ f = 3)) v done).ok) st).2 = 0
      then (Rec.mk a t (decide (f = 1 ∨ f = 3)) k (decide (f = 2 ∨ f = 3)) v done, (Rd.want (decide (0 ≤ f) && decide (f ≤ 3) && (Rec.mk a t (decide (f = 1 ∨ f = 3)) k (decide (f = 2 ∨ f = 3)) v done).ok) st).1, 0)
      else (Rec.none, 0, (Rd.want (decide (0 ≤ f) && decide (f ≤ 3) && (Rec.mk a t (decide (f = 1 ∨ f = 3)) k (decide (f = 2 ∨ f = 3)) v done).ok) st).2) := by
  obtain ⟨e1, e2, e3, e4, e5, e6, e7⟩ := h
  have hr : Rec.read l at_ = (Rec.mk a t (decide (f = 1 ∨ f = 3)) k (decide (f = 2 ∨ f = 3)) v done, Rd.want (decide (0 ≤ f) && decide (f ≤ 3) && (Rec.mk a t (decide (f = 1 ∨ f = 3)) k (decide (f = 2 ∨ f = 3)) v done).ok) st) := by
    unfold Rec.read
    simp only [e1, e2, e3, e4, e5, e6, e7, hh]
  unfold Rec.dec
  rw [hr]
theorem want_false_ne (st : Rd.St) : (Rd.want false st).2 ≠ 0 := by
  unfold Rd.want
  by_cases h : st.2 = 0
  · rw [if_pos ⟨h, rfl⟩]; simp
  · rw [if_neg (by simp [h])]; exact h
theorem flag_bits (f : Int) (h0 : 0 ≤ f) (h3 : f ≤ 3) : (bits BinOp.and IntKind.i64 f 1 != 0) = decide (f = 1 ∨ f = 3) ∧ (bits BinOp.and IntKind.i64 f 2 != 0) = decide (f = 2 ∨ f = 3) := by
  rcases (show f = 0 ∨ f = 1 ∨ f = 2 ∨ f = 3 by omega) with rfl | rfl | rfl | rfl <;> decide

set_option maxRecDepth 4000 in
set_option maxHeartbeats 40000000 in
theorem rc_decode (l : List UInt8) (hl : l.length ≤ 2 ^ 62) (at_ : Int) (h0 : -9223372036854775808 ≤ at_) (h1 : at_ ≤ 9223372036854775807) (w : World) :
    Calls Tryz.prog 116 #[.string (str l), .int .i64 at_] w fun e w' => ∃ hv, e = retR (Rec.dec l at_) hv ∧ PairsIn (fun g => w.heap.size ≤ g) w' hv (Rec.dec l at_).1.hdrs ∧ Keeps w w' := by
  obtain ⟨i0, hi, hz0, hz1, hz2⟩ := info_parts info_hdr
  have hll : l.length ≤ 9223372036854775807 := by omega
  have F0 : Rd.Fine l (at_, 0) := ⟨h0, h1, Int.le_refl 0, by show (0 : Int) ≤ 3; decide⟩
  have F1 := F0.num hll
  have C1 := fun b w hr => rd_number b l hl _ F0 w hr
  obtain ⟨⟨a, s1⟩, e1⟩ : ∃ a, Rd.num l (at_, 0) = a := ⟨_, rfl⟩
  rw [e1] at C1 F1
  have F2 := F1.1.num hll
  have C2 := fun b w hr => rd_number b l hl _ F1.1 w hr
  obtain ⟨⟨t, s2⟩, e2⟩ : ∃ a, Rd.num l s1 = a := ⟨_, rfl⟩
  rw [e2] at C2 F2
  have F3 := F2.1.num hll
  have C3 := fun b w hr => rd_number b l hl _ F2.1 w hr
  obtain ⟨⟨f, s3⟩, e3⟩ : ∃ a, Rd.num l s2 = a := ⟨_, rfl⟩
  rw [e3] at C3 F3
  have F4 := F3.1.txt (most := 1000) hll
  have C4 := fun b w hr => rd_text b l hl _ F3.1 w hr
  obtain ⟨⟨k, s4⟩, e4⟩ : ∃ a, Rd.txt 1000 l s3 = a := ⟨_, rfl⟩
  rw [e4] at C4 F4
  have F5 := F4.1.txt (most := 1000) hll
  have C5 := fun b w hr => rd_text b l hl _ F4.1 w hr
  obtain ⟨⟨v, s5⟩, e5⟩ : ∃ a, Rd.txt 1000 l s4 = a := ⟨_, rfl⟩
  rw [e5] at C5 F5
  have F6 := F5.1.num hll
  have C6 := fun b w hr => rd_number b l hl _ F5.1 w hr
  obtain ⟨⟨n, s6⟩, e6⟩ : ∃ a, Rd.num l s5 = a := ⟨_, rfl⟩
  rw [e6] at C6 F6
  have F7 := Rd.Fine.want (l := l) (b := decide (0 ≤ n) && decide (n ≤ 10)) F6.1
  obtain ⟨s7, e7⟩ : ∃ s, Rd.want (decide (0 ≤ n) && decide (n ≤ 10)) s6 = s := ⟨_, rfl⟩
  have C7 := fun (b : Nat) (w : World) (x : Bool) (hx : x = (decide (0 ≤ n) && decide (n ≤ 10))) (hr : Rdr w b 277 l s6) => (by have := rd_want b l s6 x w hr; rw [hx, e7] at this; rw [hx]; exact this : Calls Tryz.prog 147 #[.pointer (some ⟨b, 0, none⟩), .bool x] w fun e w' => e = .returned (.tuple #[]) ∧ Rdr w' b 277 l s7 ∧ Only b w w')
  rw [e7] at F7
  have HN10 := Lib.hid (fun h => Rd.want_ok e7 h)
  obtain ⟨bb, hbb⟩ : ∃ x, (bits BinOp.and IntKind.i64 f 1 != 0) = x := ⟨_, rfl⟩
  obtain ⟨gg, hgg⟩ : ∃ x, (bits BinOp.and IntKind.i64 f 2 != 0) = x := ⟨_, rfl⟩
  have hnb : -9223372036854775808 ≤ n ∧ n ≤ 9223372036854775807 := F6.2
  have HC1 := Lib.hid C1
  have HC2 := Lib.hid C2
  have HC3 := Lib.hid C3
  have HC4 := Lib.hid C4
  have HC5 := Lib.hid C5
  have HC6 := Lib.hid C6
  have HC7 := Lib.hid C7
  have HF7 := Lib.hid F7
  have HE := Lib.hid (And.intro e1 (And.intro e2 (And.intro e3 (And.intro e4 (And.intro e5 (And.intro e6 e7))))))
  have HNB := Lib.hid hnb
  clear C1 C2 C3 C4 C5 C6 C7 F0 F1 F2 F3 F4 F5 F6 F7 e1 e2 e3 e4 e5 e6 e7 hnb
  go_enter Tryz.func116, Tryz.ntmps116
  go_wp2_with fail
  refine (HC1.out (w.heap.size + 1) _ (heap_alloc2_new _ _ _)).mono ?_
  rintro e w1 ⟨rfl, hr1, ho1⟩
  have hp1 := (Blk.new w 56 (rcells 0 0 false [] false [] (.slice none 0 0))).keeps ((Keeps.refl _).alloc (.cells #[.string (str l), .int .i64 at_, .int .i64 0] 277))
  have hk1 := ho1.keeps (((Keeps.refl w).alloc _).alloc _) (by omega)
  have hp1 := hp1.grown ho1 (by simp)
  go_wp2_with fail
  refine (HC2.out (w.heap.size + 1) _ hr1).mono ?_
  rintro e w2 ⟨rfl, hr2, ho2⟩
  have hp2 := hp1.grown ho2 (by simp)
  have hk2 := ho2.keeps hk1 (by omega)
  have hlt2 := hr2.lt
  have hd2 : DS 277 w w2.heap.size l s2 (rcells a t false [] false [] (.slice none 0 0)) (w2.alloc (.cells (rcells a t false [] false [] (.slice none 0 0)) 56)) :=
    ⟨hk2.alloc _, hp2.keeps ((Keeps.refl _).alloc _), hr2.keeps ((Keeps.refl _).alloc _), Blk.new w2 _ _, hlt2⟩
  clear hp1 hk1 hp2 hk2 hr1 ho1 hr2 ho2
  obtain ⟨q, hq⟩ : ∃ q, w2.heap.size = q := ⟨_, rfl⟩
  rw [hq] at hd2
  go_wp2_with fail
  refine (HC3.out (w.heap.size + 1) _ hd2.rdr).mono ?_
  rintro e w3 ⟨rfl, hr3, ho3⟩
  have hd3 := hd2.call hr3 ho3
  clear hd2 hr3 ho3 hq hlt2
  unfold rcells at hd3
  obtain ⟨⟨q0, q1, q2, q3, q4, q5, q6⟩, r0, r1, r2, r3, r4, r5, r6⟩ := hd3.qblk.seven
  go_wp2_with fail
  have hd3 := (hd3.set 2 (.bool bb)).set 4 (.bool gg)
  refine (HC4.out (w.heap.size + 1) _ hd3.rdr).mono ?_
  rintro e w4 ⟨rfl, hr4, ho4⟩
  have hd4 := hd3.call hr4 ho4
  clear hd3 hr4 ho4 q0 q1 q2 q3 q4 q5 q6 r0 r1 r2 r3 r4 r5 r6
  go_wp2_with fail
  refine (HC5.out (w.heap.size + 1) _ hd4.rdr).mono ?_
  rintro e w5 ⟨rfl, hr5, ho5⟩
  have hd5 := hd4.call hr5 ho5
  clear hd4 hr5 ho5
  have hd5 : DS 277 w q l s5 #[.int .i64 a, .int .i64 t, .bool bb, .string (str []), .bool gg, .string (str []), .slice none 0 0] w5 := hd5
  obtain ⟨⟨q0, q1, q2, q3, q4, q5, q6⟩, r0, r1, r2, r3, r4, r5, r6⟩ := hd5.qblk.seven
  go_wp2_with fail
  have hd5 := (hd5.set 3 (.string (str k))).set 5 (.string (str v))
  refine (HC6.out (w.heap.size + 1) _ hd5.rdr).mono ?_
  rintro e w6 ⟨rfl, hr6, ho6⟩
  have hd6 := hd5.call hr6 ho6
  clear hd5 hr6 ho6 q0 q1 q2 q3 q4 q5 q6 r0 r1 r2 r3 r4 r5 r6
  have hd6 : DS 277 w q l s6 #[.int .i64 a, .int .i64 t, .bool bb, .string (str k), .bool gg, .string (str v), .slice none 0 0] w6 := hd6
  have hcn : (decide (0 ≤ n) = false ∧ n < 0) ∨ (decide (0 ≤ n) = true ∧ 0 ≤ n) := by
    by_cases h : n < 0
    · exact .inl ⟨by simp; omega, h⟩
    · exact .inr ⟨by simp; omega, by omega⟩
  obtain ⟨z, hz⟩ : ∃ z, n.toNat = z := ⟨_, rfl⟩
  rcases hcn with ⟨hd, hnn⟩ | ⟨hd, hnn⟩
  all_goals
    have HNN := Lib.hid hnn
    clear hnn
    go_wp2_with fail
    refine (HC7.out (w.heap.size + 1) _ _ (by have := HNN.out; simp; omega) hd6.rdr).mono ?_
    rintro e w7 ⟨rfl, hr7, ho7⟩
    have hd7 := hd6.call hr7 ho7
    clear hd6 hr7 ho7
    go_wp2_with fail
    go_loopw [11] (fun i wr => ∃ (j : Nat) (done : List (List UInt8 × List UInt8)) (st : Rd.St) (hv : Value), i = .int .i64 j ∧ DS 277 w q l st #[.int .i64 a, .int .i64 t, .bool bb, .string (str k), .bool gg, .string (str v), hv] wr ∧ Own wr (q + 1) 2 hv done.length (pcells done) ∧ DI l z s7 j done st) (fun i _ => z - (intOf i).toNat)
    case atStart => exact ⟨0, [], s7, .slice none 0 0, rfl, hd7, Own.nil _ _ _, DI.start l z HF7.out⟩
    case round =>
      obtain ⟨j, done, st, hv, rfl, hds, hown, hdi⟩ := hrel
      obtain ⟨ad, cap, rfl, hcap⟩ := hown.slice
      obtain ⟨⟨q0, q1, q2, q3, q4, q5, q6⟩, r0, r1, r2, r3, r4, r5, r6⟩ := hds.qblk.seven
      obtain ⟨b0, b1, b2⟩ := hds.rdr.cells
      have HDS := Lib.hid hds
      have HOWN := Lib.hid hown
      have HDI := Lib.hid hdi
      clear hds hown hdi
      have hcase : (decide ((j : Int) < n) = true ∧ (st.2 == 0) = true ∧ st.2 = 0 ∧ j < z) ∨ (((decide ((j : Int) < n) = false) ∨ (decide ((j : Int) < n) = true ∧ (st.2 == 0) = false)) ∧ Rec.hread l z s7 = (done, st)) := by
        have hnn := HNN.out
        by_cases h : (j : Int) < n
        · by_cases h' : st.2 = 0
          · exact .inl ⟨by simpa using h, by simpa using h', h', by omega⟩
          · exact .inr ⟨.inr ⟨by simpa using h, by simpa using h'⟩, HDI.out.stop (.inr h')⟩
        · exact .inr ⟨.inl (by simpa using h), HDI.out.stop (.inl (by omega))⟩
      rcases hcase with ⟨d1, d2, h20, hjz⟩ | ⟨hex, hread⟩
      · have T1 := fun w' hr => rd_text (w.heap.size + 1) l hl st HDI.out.fine w' hr
        have T2 := fun w' hr => rd_text (w.heap.size + 1) l hl _ (HDI.out.fine.txt (most := 1000) hll).1 w' hr
        have HNX := Lib.hid (HDI.out.next hjz h20 hll)
        obtain ⟨⟨X, t1⟩, g1⟩ : ∃ a, Rd.txt 1000 l st = a := ⟨_, rfl⟩
        rw [g1] at T1 T2 HNX
        obtain ⟨⟨Y, t2⟩, g2⟩ : ∃ a, Rd.txt 1000 l t1 = a := ⟨_, rfl⟩
        simp only [g2] at T2 HNX
        have HT1 := Lib.hid T1
        have HT2 := Lib.hid T2
        have hj10 := Lib.hid (show j + 1 ≤ 10 by
          have h7 : s7.2 = 0 := by
            by_cases h : s7.2 = 0
            · exact h
            · have := HDI.out.first h; rw [this] at h20; exact absurd h20 h
          have := (HN10.out h7).2
          simp at this
          omega)
        have hjb : j ≤ 9 := by have := hj10.out; omega
        clear T1 T2 g1 g2 h20
        go_wp2_with fail
        refine (HT1.out _ HDS.out.rdr).mono ?_
        rintro e u1 ⟨rfl, hr1, ho1⟩
        have hd1 := HDS.out.call hr1 ho1
        have hq1 := hd1.qblk.lt
        have ho1' := HOWN.out.only ho1 (by have := HDS.out.le; omega)
        clear hr1 ho1 q0 q1 q2 q3 q4 q5 q6 r0 r1 r2 r3 r4 r5 r6 b0 b1 b2
        obtain ⟨H, hH⟩ : ∃ H, u1.heap.size = H := ⟨_, rfl⟩
        have hd1 := hd1.step ((Keeps.refl u1).alloc (.cells #[.string (str X), .string (str [])] 81))
        have hb1 := Blk.new u1 81 #[.string (str X), .string (str [])]
        rw [hH] at hb1 hq1
        go_wp2_with fail
        refine (HT2.out _ hd1.rdr).mono ?_
        rintro e u2 ⟨rfl, hr2, ho2⟩
        have hd2 := hd1.call hr2 ho2
        have hown3 := Lib.hid (own_round ho1' hH _ ho2 (by have := HDS.out.le; omega) (.string (str Y)) (.cells #[.string (str X), .string (str Y)] 81))
        have hb2 := hb1.grown ho2 (by have := hd1.le; simp; omega)
        clear hr2 ho2 hd1 hb1 ho1'
        have hneq : ¬ q = H := by omega
        have hneq2 : ¬ H = q := by omega
        obtain ⟨⟨q0, q1, q2, q3, q4, q5, q6⟩, r0, r1, r2, r3, r4, r5, r6⟩ := hd2.qblk.seven
        have hbc0 := hb2.cell 0 _ rfl
        have hbc1 := hb2.cell 1 _ rfl
        have hbf1 := hb2.frozen 1
        have hd3 := hd2.other ⟨H, 1, none⟩ hq1 (.string (str Y))
        have hu2 := hd2.qblk.lt
        have hd4 := Lib.hid (hd3.step ((Keeps.refl _).alloc (.cells #[.string (str X), .string (str Y)] 81)))
        have hfd := Feeds.new2 (P := Tryz.prog) (u2.setCell ⟨H, 1, none⟩ (.string (str Y))) 81 (.string (str X)) (.string (str Y)) rfl rfl 1
        rw [show (u2.setCell ⟨H, 1, none⟩ (.string (str Y))).heap.size = u2.heap.size by simp [World.setCell]] at hfd
        have hfd := Lib.hid hfd
        have hdl := Lib.hid (show done.length + 1 ≤ 10 by rw [HDI.out.len]; exact hj10.out)
        have hsz := Lib.hid (show q + 1 ≤ ((u2.setCell ⟨H, 1, none⟩ (.string (str Y))).alloc (.cells #[.string (str X), .string (str Y)] 81)).heap.size by simp [World.setCell]; omega)
        clear hd2 hb2 hd3 hu2 HDS HOWN
        go_wp2_with (at_builtin; refine wpList_append_any _ rfl _ _ 54 54 rfl (q + 1) 81 i0 (.agg #[.string ⟨#[]⟩, .string ⟨#[]⟩]) 2 32 Tryz.underlying54 ⟨_, Tryz.underlying54, fun _ h => by cases h⟩ hi hz0 hz1 hz2 rfl (by decide) (.slice ad done.length cap) done.length (pcells done) rfl hown3.out _ 1 [.string (str X), .string (str Y)] rfl hfd.out (by have := hdl.out; unfold maxLen; omega) (by have := hdl.out; omega) hsz.out ?_; intro va wa hoa hga; obtain ⟨ada, capa, rfl, -⟩ := hoa.slice; have hd5 := hd4.out.grown hga (fun k hk => by have := hown3.out.base k hk; omega); have hoa := Lib.hid hoa; obtain ⟨⟨p0, p1, p2, p3, p4, p5, p6⟩, o0, o1, o2, o3, o4, o5, o6⟩ := hd5.qblk.seven; have hd6 := Lib.hid (hd5.set 6 (.slice ada (done.length + 1) capa)); clear hga hd5)
        exact ⟨⟨j + 1, done ++ [(X, Y)], t2, _, by go_num, hd6.out, by (rw [List.length_append, pcells_append]; exact hoa.out.other _ (by show q < q + 1; omega) _), HNX.out⟩, by simp [intOf]; omega⟩
      · have HRD := Lib.hid hread
        clear hread
        have hrc := Lib.hid (fun (w' : World) (hk : Keeps w' w') (hp : PairsAt w' (.slice ad done.length cap) done) => rc_check ⟨a, t, bb, k, gg, v, done⟩ (.slice ad done.length cap) w' hp)
        have hfc : (decide (0 ≤ f) = false ∧ f < 0) ∨ (decide (0 ≤ f) = true ∧ decide (f ≤ 3) = false ∧ 3 < f) ∨ (decide (0 ≤ f) = true ∧ decide (f ≤ 3) = true ∧ 0 ≤ f ∧ f ≤ 3) := by
          by_cases h : f < 0
          · exact .inl ⟨by simp; omega, h⟩
          · by_cases h' : 3 < f
            · exact .inr (.inl ⟨by simp; omega, by simp; omega, h'⟩)
            · exact .inr (.inr ⟨by simp; omega, by simp; omega, by omega, by omega⟩)
        rcases hex with d1 | ⟨d1, d2⟩
        all_goals
          rcases hfc with ⟨df1, hf⟩ | ⟨df1, df2, hf⟩ | ⟨df1, df2, hf, hf'⟩
          · have HD := Lib.hid (show Rec.dec l at_ = (Rec.none, 0, (Rd.want false st).2) by
              rw [dec_fin (done := done) (st := st) HE.out (by rw [hz]; exact HRD.out), df1, Bool.false_and, Bool.false_and, if_neg (want_false_ne st)])
            have hne := want_false_ne st
            go_wp2_with fail
            refine (rd_want (w.heap.size + 1) l st false _ HDS.out.rdr).mono ?_
            rintro e w8 ⟨rfl, hr8, ho8⟩
            have hd8 := HDS.out.call hr8 ho8
            clear hr8 ho8 q0 q1 q2 q3 q4 q5 q6 r0 r1 r2 r3 r4 r5 r6 b0 b1 b2
            obtain ⟨s9, h9⟩ : ∃ s, Rd.want false st = s := ⟨_, rfl⟩
            rw [h9] at HD hne hd8
            obtain ⟨b0, b1, b2⟩ := hd8.rdr.cells
            have hd9 : (s9.2 != 0) = true := by simpa using hne
            obtain ⟨⟨p0, p1, p2, p3, p4, p5, p6⟩, o0, o1, o2, o3, o4, o5, o6⟩ := hd8.pblk.seven
            have hk8 := Lib.hid hd8.keeps
            clear hd8 h9 hne
            go_wp2_with fail
            go_region
            go_wp2_with fail
            refine bodyPost_ret (v := .tuple #[recV Rec.none (.slice none 0 0), .int .i64 0, .int .i64 s9.2]) (by simp [results, Tryz.f116, go_sem, recV, Rec.none, str, *]) rfl ⟨.slice none 0 0, by rw [HD.out]; rfl, by rw [HD.out]; exact PairsIn.nil _ _, ?_⟩
            have hk9 := hk8.out
            repeat' first | (with_reducible assumption) | (with_reducible refine Keeps.drew ?_) | (with_reducible refine Keeps.setCell ?_ (by simp) _)
          · have HD := Lib.hid (show Rec.dec l at_ = (Rec.none, 0, (Rd.want false st).2) by
              rw [dec_fin (done := done) (st := st) HE.out (by rw [hz]; exact HRD.out), df1, df2, Bool.and_false, Bool.false_and, if_neg (want_false_ne st)])
            have hne := want_false_ne st
            go_wp2_with fail
            refine (rd_want (w.heap.size + 1) l st false _ HDS.out.rdr).mono ?_
            rintro e w8 ⟨rfl, hr8, ho8⟩
            have hd8 := HDS.out.call hr8 ho8
            clear hr8 ho8 q0 q1 q2 q3 q4 q5 q6 r0 r1 r2 r3 r4 r5 r6 b0 b1 b2
            obtain ⟨s9, h9⟩ : ∃ s, Rd.want false st = s := ⟨_, rfl⟩
            rw [h9] at HD hne hd8
            obtain ⟨b0, b1, b2⟩ := hd8.rdr.cells
            have hd9 : (s9.2 != 0) = true := by simpa using hne
            obtain ⟨⟨p0, p1, p2, p3, p4, p5, p6⟩, o0, o1, o2, o3, o4, o5, o6⟩ := hd8.pblk.seven
            have hk8 := Lib.hid hd8.keeps
            clear hd8 h9 hne
            go_wp2_with fail
            go_region
            go_wp2_with fail
            refine bodyPost_ret (v := .tuple #[recV Rec.none (.slice none 0 0), .int .i64 0, .int .i64 s9.2]) (by simp [results, Tryz.f116, go_sem, recV, Rec.none, str, *]) rfl ⟨.slice none 0 0, by rw [HD.out]; rfl, by rw [HD.out]; exact PairsIn.nil _ _, ?_⟩
            have hk9 := hk8.out
            repeat' first | (with_reducible assumption) | (with_reducible refine Keeps.drew ?_) | (with_reducible refine Keeps.setCell ?_ (by simp) _)
          · obtain ⟨ebb, egg⟩ := flag_bits f hf hf'
            rw [hbb] at ebb
            rw [hgg] at egg
            have HD := Lib.hid (show Rec.dec l at_ = if (Rd.want (Rec.mk a t bb k gg v done).ok st).2 = 0 then (Rec.mk a t bb k gg v done, (Rd.want (Rec.mk a t bb k gg v done).ok st).1, 0) else (Rec.none, 0, (Rd.want (Rec.mk a t bb k gg v done).ok st).2) by
              rw [dec_fin (done := done) (st := st) HE.out (by rw [hz]; exact HRD.out), df1, df2, Bool.true_and, Bool.true_and, ← ebb, ← egg])
            have HCK := Lib.hid (show (((Rec.mk a t bb k gg v done).check == 0) = (Rec.mk a t bb k gg v done).ok) by unfold Rec.check; cases (Rec.mk a t bb k gg v done).ok <;> rfl)
            have HCC := Lib.hid (fun w' hp => rc_check (Rec.mk a t bb k gg v done) (.slice ad done.length cap) w' hp)
            obtain ⟨R, hR⟩ : ∃ R, Rec.mk a t bb k gg v done = R := ⟨_, rfl⟩
            simp only [recV] at HCC
            rw [hR] at HD HCK HCC
            have HR := Lib.hid hR
            clear ebb egg hR
            go_wp2_with fail
            refine (HCC.out _ (PairsAt.of_own HOWN.out)).mono ?_
            rintro e wc ⟨rfl, hkc⟩
            have hdc := HDS.out.step hkc
            have hoc := HOWN.out.keeps hkc
            obtain ⟨ok, hok⟩ : ∃ ok, R.ok = ok := ⟨_, rfl⟩
            have hck : (R.check == 0) = ok := HCK.out.trans hok
            rw [hok] at HD
            clear hok
            go_wp2_with fail
            refine (rd_want (w.heap.size + 1) l st ok _ hdc.rdr).mono ?_
            rintro e w8 ⟨rfl, hr8, ho8⟩
            have hd8 := hdc.call hr8 ho8
            have ho8' := hoc.only ho8 (by have := hdc.le; omega)
            clear hr8 ho8 q0 q1 q2 q3 q4 q5 q6 r0 r1 r2 r3 r4 r5 r6 b0 b1 b2 hdc hoc
            obtain ⟨s9, h9⟩ : ∃ s, Rd.want ok st = s := ⟨_, rfl⟩
            rw [h9] at HD hd8
            obtain ⟨b0, b1, b2⟩ := hd8.rdr.cells
            obtain ⟨⟨p0, p1, p2, p3, p4, p5, p6⟩, o0, o1, o2, o3, o4, o5, o6⟩ := hd8.pblk.seven
            obtain ⟨⟨q0, q1, q2, q3, q4, q5, q6⟩, r0, r1, r2, r3, r4, r5, r6⟩ := hd8.qblk.seven
            have hk8 := Lib.hid hd8.keeps
            have hqle := Lib.hid hd8.le
            have HO8 := Lib.hid ho8'
            clear hd8 h9 ho8'
            by_cases h0 : s9.2 = 0
            · have hd9 : (s9.2 != 0) = false := by simpa using h0
              have HD := Lib.hid (HD.out.trans (if_pos h0))
              clear h0
              go_wp2_with fail
              go_region
              go_wp2_with fail
              refine bodyPost_ret (v := .tuple #[.agg #[.int .i64 a, .int .i64 t, .bool bb, .string (str k), .bool gg, .string (str v), .slice ad done.length cap], .int .i64 s9.1, .int .i64 0]) (by simp [results, Tryz.f116, go_sem, *]) rfl ⟨.slice ad done.length cap, by rw [HD.out, ← HR.out]; rfl, ?_, ?_⟩
              · rw [HD.out, ← HR.out]
                refine PairsIn.of_own (base := q + 1) ?_ (fun g hg => by have := HO8.out.base g hg; have := hqle.out; omega)
                have ho9 := HO8.out
                have hq9 := hqle.out
                repeat' first | (with_reducible assumption) | (with_reducible refine Own.drew ?_) | (with_reducible refine Own.other ?_ _ (by simp; omega) _)
              · have hk9 := hk8.out
                repeat' first | (with_reducible assumption) | (with_reducible refine Keeps.drew ?_) | (with_reducible refine Keeps.setCell ?_ (by simp) _)
            · have hd9 : (s9.2 != 0) = true := by simpa using h0
              have HD := Lib.hid (HD.out.trans (if_neg h0))
              clear h0
              go_wp2_with fail
              go_region
              go_wp2_with fail
              refine bodyPost_ret (v := .tuple #[recV Rec.none (.slice none 0 0), .int .i64 0, .int .i64 s9.2]) (by simp [results, Tryz.f116, go_sem, recV, Rec.none, str, *]) rfl ⟨.slice none 0 0, by rw [HD.out]; rfl, by rw [HD.out]; exact PairsIn.nil _ _, ?_⟩
              have hk9 := hk8.out
              repeat' first | (with_reducible assumption) | (with_reducible refine Keeps.drew ?_) | (with_reducible refine Keeps.setCell ?_ (by simp) _)
end Go.Proofs.YtamiebojjinhcaaGreatDoor
