/-
  The codec's state in plain words, reading or writing; what each of its steps does.
  What the codec does in all: reading, it is the readers'; writing, it writes the bodies.
  Slices of plain things; slices of batches all of whose blocks lie in a set; the codec's block and another one.
-/
import Derived.Test.YtamiebojjinhcaaGreatDoorWrPl
import Derived.Test.YtamiebojjinhcaaGreatDoorRs
import Derived.Test.YtamiebojjinhcaaGreatDoorBs
import Derived.Test.YtamiebojjinhcaaGreatDoorExParse
set_option linter.unusedVariables false
namespace Go.Proofs.YtamiebojjinhcaaGreatDoor
open Go.RowKit

/-- a codec: it reads l, or has written s -/
inductive Cs
  | rd (l : List UInt8) (st : Rd.St)
  | wr (s : List UInt8) (bad : Bool)
namespace Cs
def cells : Cs → Array Value
  | rd l st => cdc l st.1 true (decide (st.2 ≠ 0))
  | wr s b => cdc s 0 false b
def bad : Cs → Bool
  | rd _ st => decide (st.2 ≠ 0)
  | wr _ b => b
def reads : Cs → Bool
  | rd _ _ => true
  | wr _ _ => false
def Fine (B : Nat) : Cs → Prop
  | rd l st => l.length ≤ 2 ^ 62 ∧ Rd.Fine l st
  | wr s _ => s.length ≤ B
theorem Fine.mono {A B : Nat} {c : Cs} (h : Fine A c) (hab : A ≤ B) : Fine B c := by
  cases c with
  | rd l st => exact h
  | wr s b => exact Nat.le_trans h hab
def num (lo hi : Int) : Cs → Int → Int × Cs
  | rd l st, _ => ((Rd.rn lo hi l st).1, rd l (Rd.rn lo hi l st).2)
  | wr s b, n => (n, wr (s ++ Vi.put n) (b || !(decide (lo ≤ n) && decide (n ≤ hi))))
def txt (most : Int) : Cs → List UInt8 → List UInt8 × Cs
  | rd l st, _ => ((Rd.txt most l st).1, rd l (Rd.txt most l st).2)
  | wr s b, t => (t, wr (s ++ Vi.text t) (b || !decide ((t.length : Int) ≤ most)))
def flag (c : Cs) (f : Bool) : Bool × Cs := ((num 0 1 c (flagI f)).1 == 1, (num 0 1 c (flagI f)).2)
def bat (opt : Bool) : Cs → Bat → Bat × Cs
  | rd l st, _ => ((Rd.rb opt l st).1, rd l (Rd.rb opt l st).2)
  | wr s b, x => (x, wr (s ++ Vi.text (if opt && x.empty then [] else x.enc.1)) (b || !((opt && x.empty) || x.ok)))
def flt : Cs → Tree → Tree × Cs
  | rd l st, _ => ((Rd.rx l st).1, rd l (Rd.rx l st).2)
  | wr s b, x => (x, wr (s ++ Vi.text x.print.1) (b || !(x.ok && decide ((x.print.1.length : Int) ≤ 60000))))
def plain (c : Cs) (n : Int) : Int × Cs := num (-1) 2199023255552 c n
section
variable {α : Type}
/-- so many things that are read -/
def eachR (f : Cs → α → α × Cs) (z : α) : Nat → Cs → List α × Cs
  | 0, c => ([], c)
  | k + 1, c => if c.bad then ([], c) else ((f c z).1 :: (eachR f z k (f c z).2).1, (eachR f z k (f c z).2).2)
def eachW (f : Cs → α → α × Cs) : Cs → List α → Cs
  | c, [] => c
  | c, x :: xs => if c.bad then c else eachW f (f c x).2 xs
def list (most : Int) (f : Cs → α → α × Cs) (z : α) (c : Cs) (xs : List α) : List α × Cs :=
  if c.reads then eachR f z (num 0 most c (xs.length : Int)).1.toNat (num 0 most c (xs.length : Int)).2
  else (xs, eachW f (num 0 most c (xs.length : Int)).2 xs)
theorem eachR_skip (f : Cs → α → α × Cs) (z : α) (k : Nat) {c : Cs} (h : c.bad = true) : eachR f z k c = ([], c) := by
  cases k with
  | zero => rfl
  | succ k => rw [eachR, if_pos h]
theorem eachW_skip (f : Cs → α → α × Cs) {c : Cs} (h : c.bad = true) : ∀ xs : List α, eachW f c xs = c
  | [] => rfl
  | x :: xs => by rw [eachW, if_pos h]
end
def nt (c : Cs) (x : List UInt8 × Int) : (List UInt8 × Int) × Cs := (((txt 100 c x.1).1, (plain (txt 100 c x.1).2 x.2).1), (plain (txt 100 c x.1).2 x.2).2)
def req (c : Cs) (q : Req) : Req × Cs :=
  let k := num 1 14 c q.kind
  let nm := txt 100 k.2 q.name
  let i := plain nm.2 q.index
  let n := plain i.2 q.count
  let f := plain n.2 q.from_
  let g := flag f.2 q.flag
  let b := bat true g.2 q.bat
  let x := flt b.2 q.filter
  let gr := txt 100 x.2 q.group
  let m := plain gr.2 q.member
  let ge := plain m.2 q.gen
  let t := list 20 (txt 100) [] ge.2 q.topics
  (⟨k.1, nm.1, i.1, n.1, f.1, g.1, b.1, x.1, gr.1, m.1, ge.1, t.1⟩, t.2)
def rep (c : Cs) (r : Rep) : Rep × Cs :=
  let a := num 0 14 c r.err
  let b := plain a.2 r.at_
  let s := plain b.2 r.start
  let d := plain s.2 r.end_
  let e := plain d.2 r.member
  let f := plain e.2 r.gen
  let g := plain f.2 r.leader
  let h := list 500 (bat false) Bat.none g.2 r.bats
  let i := list 20 nt ([], 0) h.2 r.topics
  let j := list 400 nt ([], 0) i.2 r.parts
  (⟨a.1, b.1, s.1, d.1, e.1, f.1, g.1, h.1, i.1, j.1⟩, j.2)

theorem put_le (n : Int) : (Vi.put n).length ≤ 10 := Vi.enc_length 10 _
theorem Fine.num {B : Nat} {c : Cs} (h : Fine B c) (lo hi n : Int) : Fine (B + 10) (num lo hi c n).2 ∧ (c.reads = true → -9223372036854775808 ≤ (num lo hi c n).1 ∧ (num lo hi c n).1 ≤ 9223372036854775807) := by
  cases c with
  | rd l st =>
    have := h.2.rn (lo := lo) (hi := hi) (by have := h.1; omega)
    exact ⟨⟨h.1, this.1⟩, fun _ => this.2⟩
  | wr s b =>
    refine ⟨?_, fun h => by cases h⟩
    show (s ++ Vi.put n).length ≤ B + 10
    have := put_le n
    have h : s.length ≤ B := h
    rw [List.length_append]; omega
theorem Fine.txt {B : Nat} {c : Cs} (h : Fine B c) (most : Int) (t : List UInt8) : Fine (B + 10 + t.length) (txt most c t).2 := by
  cases c with
  | rd l st => exact ⟨h.1, (h.2.txt (by have := h.1; omega)).1⟩
  | wr s b =>
    show (s ++ Vi.text t).length ≤ _
    have := put_le (t.length : Int)
    have h : s.length ≤ B := h
    unfold Vi.text
    simp only [List.length_append]; omega
theorem _root_.Go.Proofs.YtamiebojjinhcaaGreatDoor.Rd.Fine.rb {l : List UInt8} {st : Rd.St} (h : Rd.Fine l st) (hl : l.length ≤ 9223372036854775807) (opt : Bool) : Rd.Fine l (Rd.rb opt l st).2 := by
  unfold Rd.rb
  split
  · exact (h.txt hl).1
  · exact (h.txt hl).1.want
theorem _root_.Go.Proofs.YtamiebojjinhcaaGreatDoor.Rd.Fine.rx {l : List UInt8} {st : Rd.St} (h : Rd.Fine l st) (hl : l.length ≤ 9223372036854775807) : Rd.Fine l (Rd.rx l st).2 := by
  unfold Rd.rx
  split
  · exact (h.txt hl).1
  · exact (h.txt hl).1.want
end Cs
end Go.Proofs.YtamiebojjinhcaaGreatDoor

namespace Go.Proofs.YtamiebojjinhcaaGreatDoor
open Go.RowKit
namespace Cs
theorem eachR_rd {α : Type} {f : Cs → α → α × Cs} {z : α} {l : List UInt8} {g : Rd.St → α × Rd.St} (hf : ∀ st, f (rd l st) z = ((g st).1, rd l (g st).2)) :
    ∀ (k : Nat) (st : Rd.St), eachR f z k (rd l st) = ((Rd.loop g k st).1, rd l (Rd.loop g k st).2)
  | 0, st => rfl
  | k + 1, st => by
    rw [eachR, Rd.loop]
    by_cases h : st.2 = 0
    · rw [if_pos h, if_neg (by simp [bad, h]), hf]
      simp only
      rw [eachR_rd hf k]
    · rw [if_neg h, if_pos (by simp [bad, h])]
theorem list_rd {α : Type} {f : Cs → α → α × Cs} {z : α} {l : List UInt8} {g : Rd.St → α × Rd.St} (hf : ∀ st, f (rd l st) z = ((g st).1, rd l (g st).2)) (most : Int) (st : Rd.St) (xs : List α) :
    list most f z (rd l st) xs = ((Rd.rl most g l st).1, rd l (Rd.rl most g l st).2) := by
  unfold list Rd.rl
  rw [if_pos (show (rd l st).reads = true from rfl)]
  exact eachR_rd hf _ _
theorem req_rd (l : List UInt8) (q : Req) : req (rd l (0, 0)) q = ((Rd.rq l).1, rd l (Rd.rq l).2) := by
  unfold req Rd.rq
  simp only [num, txt, plain, flag, bat, flt]
  rw [list_rd (g := Rd.txt 100 l) (fun st => rfl)]
  rfl
theorem of_not_false {P : Bool} (h : (!P) = false) : P = true := by cases P <;> simp_all
/-- a codec that has written X, if all might be -/
def Wrote (c : Cs) (P : Bool) (X : List UInt8) : Prop := ∃ s, c = wr s (!P) ∧ (P = true → s = X)
theorem Wrote.reads {c : Cs} {P : Bool} {X : List UInt8} (h : Wrote c P X) : c.reads = false := by
  obtain ⟨s, rfl, _⟩ := h; rfl
theorem Wrote.start : Wrote (wr [] false) true [] := ⟨[], rfl, fun _ => rfl⟩
theorem Wrote.num {c : Cs} {P : Bool} {X : List UInt8} (h : Wrote c P X) (lo hi n : Int) : (num lo hi c n).1 = n ∧ Wrote (num lo hi c n).2 (P && (decide (lo ≤ n) && decide (n ≤ hi))) (X ++ Vi.put n) := by
  obtain ⟨s, rfl, hs⟩ := h
  refine ⟨rfl, s ++ Vi.put n, ?_, fun hp => ?_⟩
  · exact congrArg (wr _) (Bool.not_and _ _).symm
  · rw [Bool.and_eq_true] at hp
    rw [hs hp.1]
theorem Wrote.plain {c : Cs} {P : Bool} {X : List UInt8} (h : Wrote c P X) (n : Int) : (plain c n).1 = n ∧ Wrote (plain c n).2 (P && may n) (X ++ Vi.put n) := h.num _ _ n
theorem Wrote.txt {c : Cs} {P : Bool} {X : List UInt8} (h : Wrote c P X) (most : Int) (t : List UInt8) : (txt most c t).1 = t ∧ Wrote (txt most c t).2 (P && decide ((t.length : Int) ≤ most)) (X ++ Vi.text t) := by
  obtain ⟨s, rfl, hs⟩ := h
  refine ⟨rfl, s ++ Vi.text t, ?_, fun hp => ?_⟩
  · exact congrArg (wr _) (Bool.not_and _ _).symm
  · rw [Bool.and_eq_true] at hp
    rw [hs hp.1]
theorem Wrote.flag {c : Cs} {P : Bool} {X : List UInt8} (h : Wrote c P X) (f : Bool) : (flag c f).1 = f ∧ Wrote (flag c f).2 P (X ++ Vi.put (flagI f)) := by
  obtain ⟨h1, h2⟩ := h.num 0 1 (flagI f)
  obtain ⟨b0, b1, b2⟩ := flagI_bd f
  rw [show (decide (0 ≤ flagI f) && decide (flagI f ≤ 1)) = true by simp [b0, b1], Bool.and_true] at h2
  exact ⟨by unfold Cs.flag; rw [h1, b2], h2⟩
theorem Wrote.bat {c : Cs} {P : Bool} {X : List UInt8} (h : Wrote c P X) (opt : Bool) (x : Bat) : (bat opt c x).1 = x ∧ Wrote (bat opt c x).2 (P && (if opt then x.optOk else x.ok)) (X ++ Vi.text (if opt then x.opt else x.bytes)) := by
  obtain ⟨s, rfl, hs⟩ := h
  refine ⟨rfl, s ++ Vi.text (if opt && x.empty then [] else x.enc.1), ?_, fun hp => ?_⟩
  · show wr _ _ = wr _ _
    cases opt <;> simp [Bat.optOk]
  · rw [Bool.and_eq_true] at hp
    rw [hs hp.1]
    congr 2
    have hp := hp.2
    cases opt
    · have h : x.ok = true := hp
      simp [Bat.enc, h]
    · have h : (x.empty || x.ok) = true := hp
      unfold Bat.opt Bat.enc
      cases he : x.empty
      · rw [he, Bool.false_or] at h
        simp [h]
      · simp
theorem Wrote.flt {c : Cs} {P : Bool} {X : List UInt8} (h : Wrote c P X) (x : Tree) : (flt c x).1 = x ∧ Wrote (flt c x).2 (P && (x.ok && decide ((x.print.1.length : Int) ≤ 60000))) (X ++ Vi.text x.bytes) := by
  obtain ⟨s, rfl, hs⟩ := h
  refine ⟨rfl, s ++ Vi.text x.print.1, ?_, fun hp => ?_⟩
  · exact congrArg (wr _) (Bool.not_and _ _).symm
  · rw [Bool.and_eq_true, Bool.and_eq_true] at hp
    rw [hs hp.1]
    congr 2
    unfold Tree.print
    rw [if_pos hp.2.1]
theorem Wrote.nt {c : Cs} {P : Bool} {X : List UInt8} (h : Wrote c P X) (x : List UInt8 × Int) : (nt c x).1 = x ∧ Wrote (nt c x).2 (P && ntOk x) (X ++ ntb x) := by
  obtain ⟨h1, h2⟩ := h.txt 100 x.1
  obtain ⟨h3, h4⟩ := h2.plain x.2
  refine ⟨by unfold Cs.nt; rw [h1, h3], ?_⟩
  unfold ntOk ntb
  rw [show decide (x.1.length ≤ 100) = decide ((x.1.length : Int) ≤ 100) by rw [decide_eq_decide]; omega, ← Bool.and_assoc, ← List.append_assoc]
  exact h4
theorem Wrote.each {α : Type} {f : Cs → α → α × Cs} {fb : α → List UInt8} {Q : α → Bool} (hf : ∀ c P X x, Wrote c P X → Wrote (f c x).2 (P && Q x) (X ++ fb x)) :
    ∀ (xs : List α) {c : Cs} {P : Bool} {X : List UInt8}, Wrote c P X → Wrote (eachW f c xs) (P && xs.all Q) (X ++ xs.flatMap fb)
  | [], c, P, X, h => by simpa [eachW] using h
  | x :: xs, c, P, X, h => by
    rw [eachW]
    cases P with
    | false =>
      obtain ⟨s, rfl, hs⟩ := h
      rw [if_pos (show (wr s (!false)).bad = true from rfl)]
      exact ⟨s, by simp, fun h => by simp at h⟩
    | true =>
      have hb : c.bad = false := by obtain ⟨s, rfl, _⟩ := h; rfl
      rw [if_neg (by rw [hb]; decide)]
      have := Wrote.each hf xs (hf c true X x h)
      simpa [Bool.and_assoc] using this
theorem Wrote.list {α : Type} {f : Cs → α → α × Cs} {fb : α → List UInt8} {Q : α → Bool} {z : α} (hf : ∀ c P X x, Wrote c P X → Wrote (f c x).2 (P && Q x) (X ++ fb x)) {c : Cs} {P : Bool} {X : List UInt8} (h : Wrote c P X) (most : Int) (xs : List α) :
    (list most f z c xs).1 = xs ∧ Wrote (list most f z c xs).2 (P && (decide ((xs.length : Int) ≤ most) && xs.all Q)) (X ++ (Vi.put (xs.length : Int) ++ xs.flatMap fb)) := by
  have h2 := (h.num 0 most (xs.length : Int)).2
  unfold Cs.list
  rw [if_neg (by rw [h.reads]; decide)]
  refine ⟨rfl, ?_⟩
  have := Wrote.each hf xs h2
  rw [show decide (0 ≤ (xs.length : Int)) = true by simp, Bool.true_and, Bool.and_assoc, List.append_assoc] at this
  exact this
/-- a request that is written -/
theorem req_wr (q : Req) : ∃ s b, req (wr [] false) q = (q, wr s b) ∧ ((b = false ∧ s.length ≤ 60000) ↔ q.ok = true) ∧ (b = false → s = q.body) := by
  obtain ⟨a1, w1⟩ := Wrote.start.num 1 14 q.kind
  obtain ⟨a2, w2⟩ := w1.txt 100 q.name
  obtain ⟨a3, w3⟩ := w2.plain q.index
  obtain ⟨a4, w4⟩ := w3.plain q.count
  obtain ⟨a5, w5⟩ := w4.plain q.from_
  obtain ⟨a6, w6⟩ := w5.flag q.flag
  obtain ⟨a7, w7⟩ := w6.bat true q.bat
  obtain ⟨a8, w8⟩ := w7.flt q.filter
  obtain ⟨a9, w9⟩ := w8.txt 100 q.group
  obtain ⟨a10, w10⟩ := w9.plain q.member
  obtain ⟨a11, w11⟩ := w10.plain q.gen
  obtain ⟨a12, w12⟩ := w11.list (z := []) (fun c P X x h => (h.txt 100 x).2) 20 q.topics
  obtain ⟨s, e, hs⟩ := w12
  simp only [if_true] at hs e
  have hbody : q.body = [] ++ Vi.put q.kind ++ Vi.text q.name ++ Vi.put q.index ++ Vi.put q.count ++ Vi.put q.from_ ++ Vi.put (flagI q.flag) ++ Vi.text q.bat.opt ++ Vi.text q.filter.bytes ++ Vi.text q.group ++ Vi.put q.member ++ Vi.put q.gen ++ (Vi.put (q.topics.length : Int) ++ q.topics.flatMap Vi.text) := by
    unfold Req.body; simp only [List.append_assoc, List.nil_append]
  rw [← hbody] at hs
  refine ⟨s, _, Prod.ext ?_ e, ?_, fun h => hs (by simpa using h)⟩
  · show Req.mk _ _ _ _ _ _ _ _ _ _ _ _ = q
    rw [a1, a2, a3, a4, a5, a6, a7, a8, a9, a10, a11, a12]
  · have hx := text_long q.filter.bytes
    have hx2 : q.filter.ok = true → q.filter.print.1 = q.filter.bytes := fun h => by unfold Tree.print; rw [if_pos h]
    constructor
    · rintro ⟨h1, h2⟩
      have h1 := of_not_false h1
      rw [hs h1] at h2
      simp only [Bool.and_eq_true, decide_eq_true_eq, may_iff, List.all_eq_true, Bool.true_and] at h1
      unfold Req.ok Req.ok0 Req.ok1
      simp only [Bool.and_eq_true, decide_eq_true_eq, may_iff, List.all_eq_true]
      obtain ⟨⟨⟨⟨⟨⟨⟨⟨⟨⟨c1, c2⟩, c3⟩, c4⟩, c5⟩, c6⟩, c7, c8⟩, c9⟩, c10⟩, c11⟩, c12, c13⟩ := h1
      exact ⟨⟨⟨⟨⟨⟨⟨⟨⟨⟨⟨⟨⟨c1.1, c1.2⟩, c3⟩, c4⟩, c5⟩, c10⟩, c11⟩, by omega⟩, by omega⟩, by omega⟩, c6⟩, c7⟩, fun x hx => by have := c13 x hx; omega⟩, h2⟩
    · intro h
      unfold Req.ok Req.ok0 Req.ok1 at h
      simp only [Bool.and_eq_true, decide_eq_true_eq, may_iff, List.all_eq_true] at h
      obtain ⟨⟨⟨⟨⟨⟨⟨⟨⟨⟨⟨⟨⟨c1, c1'⟩, c3⟩, c4⟩, c5⟩, c10⟩, c11⟩, c2⟩, c9⟩, c12⟩, c6⟩, c7⟩, c13⟩, hl⟩ := h
      have hfl : q.filter.print.1.length ≤ 60000 := by
        rw [hx2 c7]
        unfold Req.body at hl
        simp only [List.length_append] at hl
        omega
      have hP : ((((((((((((true && (decide (1 ≤ q.kind) && decide (q.kind ≤ 14))) && decide ((q.name.length : Int) ≤ 100)) && may q.index) && may q.count) && may q.from_) && q.bat.optOk) && (q.filter.ok && decide ((q.filter.print.1.length : Int) ≤ 60000))) && decide ((q.group.length : Int) ≤ 100)) && may q.member) && may q.gen) && (decide ((q.topics.length : Int) ≤ 20) && q.topics.all fun x => decide ((x.length : Int) ≤ 100)))) = true := by
        simp only [Bool.and_eq_true, decide_eq_true_eq, may_iff, List.all_eq_true, Bool.true_and]
        exact ⟨⟨⟨⟨⟨⟨⟨⟨⟨⟨⟨c1, c1'⟩, by omega⟩, c3⟩, c4⟩, c5⟩, c6⟩, c7, by omega⟩, by omega⟩, c10⟩, c11⟩, by omega, fun x hx => by have := c13 x hx; omega⟩
      exact ⟨by rw [hP]; rfl, by rw [hs hP]; exact hl⟩
end Cs
end Go.Proofs.YtamiebojjinhcaaGreatDoor

namespace Go.Proofs.YtamiebojjinhcaaGreatDoor
open Go.RowKit

theorem flat_at {α : Type} {size : Nat} {f : α → List Value} (hf : ∀ x, (f x).length = size) : ∀ (l : List α) (j : Nat) (x : α) (i : Nat), l[j]? = some x → i < size → (l.flatMap f)[j * size + i]? = (f x)[i]?
  | [], j, x, i, h, _ => by simp at h
  | y :: l, 0, x, i, h, hi => by
    simp at h; subst h
    rw [List.flatMap_cons, Nat.zero_mul, Nat.zero_add, List.getElem?_append_left (by rw [hf]; exact hi)]
  | y :: l, j + 1, x, i, h, hi => by
    have ih := flat_at hf l j x i (by simpa using h) hi
    have e : (j + 1) * size + i = size + (j * size + i) := by rw [Nat.add_mul]; omega
    rw [List.flatMap_cons, List.getElem?_append_right (by rw [hf, e]; omega), ← ih, hf]
    congr 1
    omega
/-- a slice of plain things, each of so many cells; its block in S -/
def Fl {α : Type} (size : Nat) (f : α → List Value) (S : Nat → Prop) (w : World) (v : Value) (l : List α) : Prop :=
  ∃ ad cap, v = .slice ad l.length cap ∧ l.length ≤ 9223372036854775807 ∧ (ad = none → cap = 0) ∧ ∃ (g o : Nat), (l ≠ [] → ad = some ⟨g, o, none⟩ ∧ S g) ∧ ∀ (j : Nat) (x : α), l[j]? = some x → ∀ i u, (f x)[i]? = some u → w.cell? ⟨g, o + j * size + i, none⟩ = some u
section
variable {α : Type} {size : Nat} {f : α → List Value} {S T : Nat → Prop} {w w' : World} {v : Value} {l : List α}
theorem Fl.nil : Fl size f S w (.slice none 0 0) ([] : List α) := ⟨none, 0, rfl, by simp, fun _ => rfl, 0, 0, fun h => absurd rfl h, fun j r h => by simp at h⟩
theorem Fl.form (h : Fl size f S w v l) : ∃ ad cap, v = .slice ad l.length cap := by obtain ⟨ad, cap, rfl, _⟩ := h; exact ⟨ad, cap, rfl⟩
theorem Fl.move (hm : ∀ g, S g → g < w.heap.size → T g ∧ w'.heap[g]? = w.heap[g]?) (hf : ∀ x, ∃ u, (f x)[0]? = some u) (h : Fl size f S w v l) : Fl size f T w' v l := by
  obtain ⟨ad, cap, rfl, hl, h0, g, o, ha, hc⟩ := h
  by_cases hne : l = []
  · subst hne
    exact ⟨ad, cap, rfl, hl, h0, g, o, fun h => absurd rfl h, fun j r h => by simp at h⟩
  · obtain ⟨ha1, ha2⟩ := ha hne
    obtain ⟨x, hx⟩ : ∃ x, l[0]? = some x := ⟨_, List.getElem?_eq_getElem (List.length_pos_iff.2 hne)⟩
    obtain ⟨u, hu⟩ := hf x
    obtain ⟨h1, h2⟩ := hm g ha2 (World.block_lt_of_cell? w _ (hc 0 x hx 0 u hu))
    exact ⟨ad, cap, rfl, hl, h0, g, o, fun _ => ⟨ha1, h1⟩, fun j r hj i u hi => (World.cell?_of_block h2).trans (hc j r hj i u hi)⟩
theorem Fl.of_own {base : Nat} (h : Own w base size v l.length (l.flatMap f)) (hl : l.length ≤ 9223372036854775807) (hf : ∀ x, (f x).length = size) (hS : ∀ g, v.ownBlock = some g → S g) : Fl size f S w v l := by
  obtain ⟨h1, h2⟩ := h
  rcases h2 with ⟨rfl, h0⟩ | ⟨g, cap, rfl, _, _, _, hc, _⟩
  · obtain rfl := List.eq_nil_of_length_eq_zero h0
    exact Fl.nil
  · refine ⟨some ⟨g, 0, none⟩, cap, rfl, hl, (fun h => by cases h), g, 0, fun _ => ⟨rfl, hS g rfl⟩, fun j r hj i u hi => ?_⟩
    rw [Nat.zero_add]
    exact hc _ _ (by rw [flat_at hf l j r i hj (by have := (List.getElem?_eq_some_iff.1 hi).1; rw [hf] at this; exact this)]; exact hi)
end
/-- a text's cell; a name and number's cells -/
def tcell (t : List UInt8) : List Value := [.string (str t)]
def ncell (x : List UInt8 × Int) : List Value := [.string (str x.1), .int .i64 x.2]
/-- a slice of batches, all blocks in S -/
def BsIn (S : Nat → Prop) (w : World) (v : Value) (l : List Bat) : Prop :=
  ∃ ad cap, v = .slice ad l.length cap ∧ l.length ≤ 9223372036854775807 ∧ (ad = none → cap = 0) ∧ ∃ (g o : Nat) (lv : Nat → Value), (l ≠ [] → ad = some ⟨g, o, none⟩ ∧ S g) ∧ ∀ (j : Nat) (b : Bat), l[j]? = some b → BCells w g (o + j * 6) b (lv j) ∧ RsIn S w (lv j) b.recs
theorem BsIn.at_ {S : Nat → Prop} {w : World} {v : Value} {l : List Bat} (h : BsIn S w v l) : BsAt w v l := by
  obtain ⟨ad, cap, rfl, hl, h0, g, o, hv, ha, hc⟩ := h
  exact ⟨ad, cap, rfl, hl, h0, g, o, hv, fun h => (ha h).1, fun j r hj => ⟨(hc j r hj).1, (hc j r hj).2.at_⟩⟩
theorem BsIn.nil (S : Nat → Prop) (w : World) : BsIn S w (.slice none 0 0) [] := ⟨none, 0, rfl, by simp, fun _ => rfl, 0, 0, fun _ => undef, fun h => absurd rfl h, fun j r h => by simp at h⟩
theorem BsIn.move {S T : Nat → Prop} {w w' : World} (hm : ∀ g, S g → g < w.heap.size → T g ∧ w'.heap[g]? = w.heap[g]?) {v : Value} {l : List Bat} (h : BsIn S w v l) : BsIn T w' v l := by
  obtain ⟨ad, cap, rfl, hl, h0, g, o, hv, ha, hc⟩ := h
  by_cases hne : l = []
  · subst hne
    exact ⟨ad, cap, rfl, hl, h0, g, o, hv, fun h => absurd rfl h, fun j r h => by simp at h⟩
  · obtain ⟨ha1, ha2⟩ := ha hne
    obtain ⟨x, hx⟩ : ∃ x, l[0]? = some x := ⟨_, List.getElem?_eq_getElem (List.length_pos_iff.2 hne)⟩
    obtain ⟨h1, h2⟩ := hm g ha2 (World.block_lt_of_cell? w _ (hc 0 x hx).1.1)
    refine ⟨ad, cap, rfl, hl, h0, g, o, hv, fun _ => ⟨ha1, h1⟩, fun j r hj => ⟨?_, (hc j r hj).2.move hm⟩⟩
    obtain ⟨c0, c1, c2, c3, c4, c5⟩ := (hc j r hj).1
    exact ⟨(World.cell?_of_block h2).trans c0, (World.cell?_of_block h2).trans c1, (World.cell?_of_block h2).trans c2, (World.cell?_of_block h2).trans c3, (World.cell?_of_block h2).trans c4, (World.cell?_of_block h2).trans c5⟩
theorem BsAt.in_ {w : World} {v : Value} {l : List Bat} (h : BsAt w v l) : BsIn (fun g => g < w.heap.size) w v l := by
  obtain ⟨ad, cap, rfl, hl, h0, g, o, hv, ha, hc⟩ := h
  refine ⟨ad, cap, rfl, hl, h0, g, o, hv, fun hne => ⟨ha hne, ?_⟩, fun j r hj => ⟨(hc j r hj).1, (hc j r hj).2.in_⟩⟩
  obtain ⟨x, hx⟩ : ∃ x, l[0]? = some x := ⟨_, List.getElem?_eq_getElem (List.length_pos_iff.2 hne)⟩
  exact World.block_lt_of_cell? w _ (hc 0 x hx).1.1
theorem BsIn.of_own {S : Nat → Prop} {w : World} {base : Nat} {v : Value} {l : List (Bat × Value)} (h : Own w base 6 v l.length (bcellsL l)) (hl : l.length ≤ 9223372036854775807) (hS : ∀ g, v.ownBlock = some g → S g) (hk : ∀ (i : Nat) (x : Bat × Value), l[i]? = some x → RsIn S w x.2 x.1.recs) : BsIn S w v (l.map (·.1)) := by
  obtain ⟨h1, h2⟩ := h
  rcases h2 with ⟨rfl, h0⟩ | ⟨g, cap, rfl, _, _, _, hc, _⟩
  · obtain rfl := List.eq_nil_of_length_eq_zero h0
    exact BsIn.nil _ _
  · refine ⟨some ⟨g, 0, none⟩, cap, by simp, by simpa using hl, (fun h => by cases h), g, 0, fun j => ((l[j]?).map (·.2)).getD undef, fun _ => ⟨rfl, hS g rfl⟩, fun j r hj => ?_⟩
    rw [List.getElem?_map] at hj
    obtain ⟨⟨r', u⟩, hu, rfl⟩ := Option.map_eq_some_iff.1 hj
    simp only [hu, Option.map_some, Option.getD_some, Nat.zero_add]
    have ha := fun i hi => bcellsL_at l j (r', u) i hu hi
    refine ⟨⟨?_, ?_, ?_, ?_, ?_, ?_⟩, hk j _ hu⟩
    · exact hc _ _ (ha 0 (by decide))
    · exact hc _ _ (ha 1 (by decide))
    · exact hc _ _ (ha 2 (by decide))
    · exact hc _ _ (ha 3 (by decide))
    · exact hc _ _ (ha 4 (by decide))
    · exact hc _ _ (ha 5 (by decide))

/-- the codec's block c and its caller's block q; the others are as they were -/
structure CQ (Tq : TypeId) (w0 : World) (c q : Nat) (cs : Cs) (qs : Array Value) (w : World) : Prop where
  two : Two c q w0 w
  cb : Blk w c 97 cs.cells
  qb : Blk w q Tq qs
section
variable {Tq : TypeId} {w0 w w' : World} {c q : Nat} {cs cs' : Cs} {qs qs' : Array Value}
theorem CQ.trans (h : CQ Tq w0 c q cs qs w) (k : CQ Tq w c q cs' qs' w') : CQ Tq w0 c q cs' qs' w' := ⟨h.two.trans k.two, k.cb, k.qb⟩
theorem CQ.keeps (h : CQ Tq w0 c q cs qs w) (hcq : c ≠ q) (k : Keeps w w') : CQ Tq w0 c q cs qs w' := ⟨h.two.trans (Two.of_keeps k), h.cb.keeps k, h.qb.keeps k⟩
theorem KIn.at_in {w : World} {v : Value} {l : List Tree} (h : KAt w v l) : KIn (fun g => g < w.heap.size) w v l := by
  induction h with
  | mk ad cap l kv g o hl h0 ha hc hk ih =>
    refine .mk ad cap l kv g o hl h0 ha (fun hne => ?_) hc ih
    obtain ⟨x, hx⟩ : ∃ x, l[0]? = some x := ⟨_, List.getElem?_eq_getElem (List.length_pos_iff.2 hne)⟩
    exact World.block_lt_of_cell? w _ (hc 0 x hx).1
end
end Go.Proofs.YtamiebojjinhcaaGreatDoor
