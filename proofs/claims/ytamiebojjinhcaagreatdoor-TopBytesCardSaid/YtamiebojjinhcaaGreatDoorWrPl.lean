/-
  Requests and replies as bytes, in plain words: what is written, what is read.
  Requests as bytes, in plain words: what is read was written, what was written is read.
  Replies as bytes, in plain words: what is written, what is read; each is the other's way back.
  The document's readers of requests and replies, in plain words: where a text is a request's or a reply's, they find it.
-/
import Derived.Test.YtamiebojjinhcaaGreatDoorBtDecPl
import Derived.Test.YtamiebojjinhcaaGreatDoorExFits
set_option linter.unusedVariables false
namespace Go.Proofs.YtamiebojjinhcaaGreatDoor
namespace Rd
/-- read: from one place to another, these bytes -/
structure Took (l : List UInt8) (st : St) (X : List UInt8) (st' : St) : Prop where
  ok : st.2 = 0
  seg : seg l st.1 st'.1 = X
  lo : 0 ≤ st.1
  le : st.1 ≤ st'.1
  hi : st'.1 ≤ l.length
theorem Took.trans {l : List UInt8} {a b c : St} {X Y : List UInt8} (h : Took l a X b) (k : Took l b Y c) : Took l a (X ++ Y) c :=
  ⟨h.ok, by rw [← seg_append l h.lo h.le k.le, h.seg, k.seg], h.lo, Int.le_trans h.le k.le, k.hi⟩
theorem num_took {l : List UInt8} {st s : St} {n : Int} (h : num l st = (n, s)) (h0 : s.2 = 0) : Took l st (Vi.put n) s := by
  obtain ⟨a1, a2, a3, a4, a5, _⟩ := num_ok h h0
  exact ⟨a1, a2, a3, Int.le_of_lt a4, a5⟩
theorem txt_took {most : Int} {l : List UInt8} {st s : St} {t : List UInt8} (h : txt most l st = (t, s)) (h0 : s.2 = 0) : Took l st (Vi.text t) s ∧ (t.length : Int) ≤ most := by
  obtain ⟨a1, a2, a3, a4, a5, a6⟩ := txt_ok h h0
  exact ⟨⟨a1, a2, a3, Int.le_of_lt a4, a5⟩, a6⟩
/-- a number from one to another -/
def rn (lo hi : Int) (l : List UInt8) (st : St) : Int × St := ((num l st).1, want (decide (lo ≤ (num l st).1) && decide ((num l st).1 ≤ hi)) (num l st).2)
theorem rn_skip (lo hi : Int) (l : List UInt8) {st : St} (h : st.2 ≠ 0) : rn lo hi l st = (0, st) := by unfold rn; rw [num_skip l h, want_skip _ h]
theorem rn_ok {lo hi : Int} {l : List UInt8} {st s : St} {n : Int} (h : rn lo hi l st = (n, s)) (h0 : s.2 = 0) : num l st = (n, s) ∧ lo ≤ n ∧ n ≤ hi := by
  unfold rn at h
  obtain ⟨⟨m, t⟩, e⟩ : ∃ x, num l st = x := ⟨_, rfl⟩
  rw [e] at h ⊢
  simp only [Prod.mk.injEq] at h
  obtain ⟨rfl, h2⟩ := h
  obtain ⟨rfl, h3⟩ := want_ok h2 h0
  simp only [Bool.and_eq_true, decide_eq_true_eq] at h3
  exact ⟨rfl, h3.1, h3.2⟩
theorem rn_took {lo hi : Int} {l : List UInt8} {st s : St} {n : Int} (h : rn lo hi l st = (n, s)) (h0 : s.2 = 0) : Took l st (Vi.put n) s ∧ lo ≤ n ∧ n ≤ hi :=
  ⟨num_took (rn_ok h h0).1 h0, (rn_ok h h0).2⟩
theorem rn_put (A B : List UInt8) {lo hi n : Int} (h0 : lo ≤ n) (h1 : n ≤ hi) (hl : -9223372036854775808 ≤ lo) (hh : hi ≤ 9223372036854775807) : rn lo hi (A ++ (Vi.put n ++ B)) ((A.length : Int), 0) = (n, ((A ++ Vi.put n).length : Int), 0) := by
  unfold rn
  rw [num_put A B n (by omega) (by omega)]
  simp only [h0, h1, decide_true, Bool.and_self, want_true]
theorem Fine.rn {l : List UInt8} {st : St} {lo hi : Int} (h : Fine l st) (hl : l.length ≤ 9223372036854775807) : Fine l (rn lo hi l st).2 ∧ -9223372036854775808 ≤ (rn lo hi l st).1 ∧ (rn lo hi l st).1 ≤ 9223372036854775807 :=
  ⟨(h.num hl).1.want, (h.num hl).2⟩
/-- a number that may be -/
def rp (l : List UInt8) (st : St) : Int × St := rn (-1) 2199023255552 l st
/-- so many things -/
def loop {α : Type} (f : St → α × St) : Nat → St → List α × St
  | 0, st => ([], st)
  | k + 1, st => if st.2 = 0 then ((f st).1 :: (loop f k (f st).2).1, (loop f k (f st).2).2) else ([], st)
theorem loop_skip {α : Type} (f : St → α × St) (k : Nat) {st : St} (h : st.2 ≠ 0) : loop f k st = ([], st) := by
  cases k with
  | zero => rfl
  | succ k => rw [loop, if_neg h]
theorem loop_took {α : Type} (f : St → α × St) (fb : α → List UInt8) (P : α → Prop) {l : List UInt8} (hf : ∀ st x s, f st = (x, s) → s.2 = 0 → Took l st (fb x) s ∧ P x) :
    ∀ (k : Nat) {st s : St} {xs : List α}, loop f k st = (xs, s) → s.2 = 0 → 0 ≤ st.1 → st.1 ≤ l.length → Took l st (xs.flatMap fb) s ∧ xs.length = k ∧ ∀ x ∈ xs, P x
  | 0, st, s, xs, h, h0, h1, h2 => by
    cases h
    exact ⟨⟨h0, seg_nil _ _, h1, Int.le_refl _, h2⟩, rfl, fun x hx => by simp at hx⟩
  | k + 1, st, s, xs, h, h0, h1, h2 => by
    rw [loop] at h
    by_cases hst : st.2 = 0
    · rw [if_pos hst] at h
      obtain ⟨⟨x, s1⟩, e⟩ : ∃ y, f st = y := ⟨_, rfl⟩
      rw [e] at h
      obtain ⟨⟨ys, s2⟩, e2⟩ : ∃ y, loop f k s1 = y := ⟨_, rfl⟩
      simp only [e2, Prod.mk.injEq] at h
      obtain ⟨rfl, rfl⟩ := h
      have hs1 : s1.2 = 0 := by
        by_cases h' : s1.2 = 0
        · exact h'
        · rw [loop_skip f k h'] at e2; cases e2; exact absurd h0 h'
      obtain ⟨t1, p1⟩ := hf st x s1 e hs1
      obtain ⟨t2, l2, p2⟩ := loop_took f fb P hf k e2 h0 (Int.le_trans t1.lo t1.le) t1.hi
      refine ⟨by rw [List.flatMap_cons]; exact t1.trans t2, by simp [l2], fun y hy => ?_⟩
      simp at hy
      rcases hy with rfl | hy
      · exact p1
      · exact p2 y hy
    · rw [if_neg hst] at h
      cases h
      exact absurd h0 hst
theorem loop_put {α : Type} (f : List UInt8 → St → α × St) (fb : α → List UInt8) (P : α → Prop) (hf : ∀ A B x, P x → f (A ++ (fb x ++ B)) ((A.length : Int), 0) = (x, ((A ++ fb x).length : Int), 0)) (B : List UInt8) :
    ∀ (xs : List α) (A : List UInt8), (∀ x ∈ xs, P x) → loop (f (A ++ (xs.flatMap fb ++ B))) xs.length ((A.length : Int), 0) = (xs, ((A ++ xs.flatMap fb).length : Int), 0)
  | [], A, _ => by simp [loop]
  | x :: xs, A, h => by
    have e1 : A ++ ((x :: xs).flatMap fb ++ B) = A ++ (fb x ++ (xs.flatMap fb ++ B)) := by simp
    have e2 : A ++ (fb x ++ (xs.flatMap fb ++ B)) = (A ++ fb x) ++ (xs.flatMap fb ++ B) := by simp
    have e3 : A ++ (x :: xs).flatMap fb = (A ++ fb x) ++ xs.flatMap fb := by simp
    have h1 := hf A (xs.flatMap fb ++ B) x (h x (by simp))
    have ih := loop_put f fb P hf B xs (A ++ fb x) (fun y hy => h y (by simp [hy]))
    rw [← e2] at ih
    rw [e1, e3, List.length_cons, loop, if_pos rfl, h1]
    simp only [ih]
/-- a list of at most so many -/
def rl {α : Type} (most : Int) (f : St → α × St) (l : List UInt8) (st : St) : List α × St := loop f (rn 0 most l st).1.toNat (rn 0 most l st).2
theorem rl_took {α : Type} {most : Int} (f : St → α × St) (fb : α → List UInt8) (P : α → Prop) {l : List UInt8} (hf : ∀ st x s, f st = (x, s) → s.2 = 0 → Took l st (fb x) s ∧ P x)
    {st s : St} {xs : List α} (h : rl most f l st = (xs, s)) (h0 : s.2 = 0) : Took l st (Vi.put (xs.length : Int) ++ xs.flatMap fb) s ∧ (xs.length : Int) ≤ most ∧ ∀ x ∈ xs, P x := by
  unfold rl at h
  obtain ⟨⟨n, s1⟩, e⟩ : ∃ y, rn 0 most l st = y := ⟨_, rfl⟩
  rw [e] at h
  simp only at h
  have hs1 : s1.2 = 0 := by
    by_cases h' : s1.2 = 0
    · exact h'
    · rw [loop_skip f _ h'] at h; cases h; exact absurd h0 h'
  obtain ⟨t1, n0, n1⟩ := rn_took e hs1
  obtain ⟨t2, l2, p2⟩ := loop_took f fb P hf _ h h0 (Int.le_trans t1.lo t1.le) t1.hi
  have : ((xs.length : Nat) : Int) = n := by rw [l2]; omega
  rw [this]
  exact ⟨t1.trans t2, n1, p2⟩
theorem rl_put {α : Type} {most : Int} (f : List UInt8 → St → α × St) (fb : α → List UInt8) (P : α → Prop) (hf : ∀ A B x, P x → f (A ++ (fb x ++ B)) ((A.length : Int), 0) = (x, ((A ++ fb x).length : Int), 0)) (A B : List UInt8)
    (xs : List α) (hm : (xs.length : Int) ≤ most) (hmost : most ≤ 9223372036854775807) (h : ∀ x ∈ xs, P x) : rl most (f (A ++ ((Vi.put (xs.length : Int) ++ xs.flatMap fb) ++ B))) (A ++ ((Vi.put (xs.length : Int) ++ xs.flatMap fb) ++ B)) ((A.length : Int), 0) = (xs, ((A ++ (Vi.put (xs.length : Int) ++ xs.flatMap fb)).length : Int), 0) := by
  have e1 : A ++ ((Vi.put (xs.length : Int) ++ xs.flatMap fb) ++ B) = A ++ (Vi.put (xs.length : Int) ++ (xs.flatMap fb ++ B)) := by simp
  have e2 : A ++ (Vi.put (xs.length : Int) ++ (xs.flatMap fb ++ B)) = (A ++ Vi.put (xs.length : Int)) ++ (xs.flatMap fb ++ B) := by simp
  have h1 := rn_put A (xs.flatMap fb ++ B) (lo := 0) (hi := most) (n := (xs.length : Int)) (by omega) hm (by omega) hmost
  have h2 := loop_put f fb P hf B xs (A ++ Vi.put (xs.length : Int)) h
  unfold rl
  rw [e1, h1]
  simp only [Int.toNat_natCast]
  rw [e2, h2]
  simp
end Rd

/-- a request -/
structure Req where
  kind : Int
  name : List UInt8
  index : Int
  count : Int
  from_ : Int
  flag : Bool
  bat : Bat
  filter : Tree
  group : List UInt8
  member : Int
  gen : Int
  topics : List (List UInt8)
namespace Bat
/-- no batch at all -/
def empty (b : Bat) : Bool := decide (b.base = 0) && decide (b.span = 0) && decide (b.prod = 0) && decide (b.epoch = 0) && decide (b.seq = 0) && (b.recs == [])
theorem empty_eq {b : Bat} (h : b.empty = true) : b = Bat.none := by
  obtain ⟨a, s, p, e, q, rs⟩ := b
  simp only [empty, Bool.and_eq_true, decide_eq_true_eq, beq_iff_eq] at h
  obtain ⟨⟨⟨⟨⟨rfl, rfl⟩, rfl⟩, rfl⟩, rfl⟩, rfl⟩ := h
  rfl
theorem ok_nonempty {b : Bat} (h : b.ok = true) : b.empty = false := by
  cases he : b.empty
  · rfl
  · rw [empty_eq he] at h; exact absurd h (by decide)
/-- its bytes in a request: none, where there is no batch -/
def opt (b : Bat) : List UInt8 := if b.empty then [] else b.bytes
def optOk (b : Bat) : Bool := b.empty || b.ok
end Bat
def may (n : Int) : Bool := decide (-1 ≤ n) && decide (n ≤ 2199023255552)
def flagI (b : Bool) : Int := if b then 1 else 0
namespace Req
def none : Req := ⟨0, [], 0, 0, 0, false, Bat.none, Tree.none, [], 0, 0, []⟩
def body (q : Req) : List UInt8 :=
  Vi.put q.kind ++ (Vi.text q.name ++ (Vi.put q.index ++ (Vi.put q.count ++ (Vi.put q.from_ ++ (Vi.put (flagI q.flag) ++ (Vi.text q.bat.opt ++ (Vi.text q.filter.bytes ++ (Vi.text q.group ++ (Vi.put q.member ++ (Vi.put q.gen ++ (Vi.put (q.topics.length : Int) ++ q.topics.flatMap Vi.text)))))))))))
def ok1 (q : Req) : Bool := decide (1 ≤ q.kind) && decide (q.kind ≤ 14) && may q.index && may q.count && may q.from_ && may q.member && may q.gen && decide (q.name.length ≤ 100) && decide (q.group.length ≤ 100) && decide (q.topics.length ≤ 20)
def ok0 (q : Req) : Bool := q.ok1 && q.bat.optOk && q.filter.ok && q.topics.all (fun t => decide (t.length ≤ 100))
def ok (q : Req) : Bool := q.ok0 && decide (q.body.length ≤ 60000)
def enc (q : Req) : List UInt8 × Int := if q.ok then (q.body, 0) else ([], 1)
end Req
namespace Rd
/-- a batch behind its length; it may be lacking -/
def rb (opt : Bool) (l : List UInt8) (st : St) : Bat × St :=
  if (txt 60008 l st).2.2 ≠ 0 ∨ (opt = true ∧ (txt 60008 l st).1 = []) then (Bat.none, (txt 60008 l st).2)
  else ((Bat.dec (txt 60008 l st).1 0).1, want (decide ((Bat.dec (txt 60008 l st).1 0).2.2 = 0) && decide ((Bat.dec (txt 60008 l st).1 0).2.1 = ((txt 60008 l st).1.length : Int))) (txt 60008 l st).2)
/-- a filter behind its length -/
def rx (l : List UInt8) (st : St) : Tree × St :=
  if (txt 60000 l st).2.2 ≠ 0 then (Tree.none, (txt 60000 l st).2)
  else ((Tree.parse (txt 60000 l st).1).1, want (decide ((Tree.parse (txt 60000 l st).1).2 = 0)) (txt 60000 l st).2)
theorem rb_took {opt : Bool} {l : List UInt8} {st s : St} {b : Bat} (h : rb opt l st = (b, s)) (h0 : s.2 = 0) : Took l st (Vi.text (if opt then b.opt else b.bytes)) s ∧ (if opt then b.optOk else b.ok) = true := by
  unfold rb at h
  obtain ⟨⟨t, s1⟩, e⟩ : ∃ y, txt 60008 l st = y := ⟨_, rfl⟩
  rw [e] at h
  simp only at h
  split at h
  · rename_i hc
    simp only [Prod.mk.injEq] at h
    obtain ⟨rfl, rfl⟩ := h
    rcases hc with hc | ⟨rfl, rfl⟩
    · exact absurd h0 hc
    · exact ⟨(txt_took e h0).1, rfl⟩
  · rename_i hc
    simp only [Prod.mk.injEq] at h
    obtain ⟨rfl, h2⟩ := h
    obtain ⟨rfl, h3⟩ := want_ok h2 h0
    simp only [Bool.and_eq_true, decide_eq_true_eq] at h3
    obtain ⟨h4, h5⟩ := h3
    obtain ⟨hok, hseg, h6, h7, h8⟩ := Bat.dec_ok (show Bat.dec t 0 = ((Bat.dec t 0).1, (Bat.dec t 0).2.1, 0) from Prod.ext rfl (Prod.ext rfl h4))
    rw [h5] at hseg
    have ht : seg t 0 (t.length : Int) = t := by unfold seg; simp
    rw [ht] at hseg
    have hne := Bat.ok_nonempty hok
    have he : (if opt then (Bat.dec t 0).1.opt else (Bat.dec t 0).1.bytes) = t := by
      unfold Bat.opt; rw [hne]; cases opt <;> simp [← hseg]
    rw [he]
    exact ⟨(txt_took e h0).1, by unfold Bat.optOk; rw [hok]; cases opt <;> simp⟩
theorem rx_took {l : List UInt8} {st s : St} {x : Tree} (h : rx l st = (x, s)) (h0 : s.2 = 0) : Took l st (Vi.text x.bytes) s ∧ x.ok = true := by
  unfold rx at h
  obtain ⟨⟨t, s1⟩, e⟩ : ∃ y, txt 60000 l st = y := ⟨_, rfl⟩
  rw [e] at h
  simp only at h
  split at h
  · rename_i hc
    simp only [Prod.mk.injEq] at h
    obtain ⟨rfl, rfl⟩ := h
    exact absurd h0 hc
  · simp only [Prod.mk.injEq] at h
    obtain ⟨rfl, h2⟩ := h
    obtain ⟨rfl, h3⟩ := want_ok h2 h0
    simp only [decide_eq_true_eq] at h3
    obtain ⟨hok, hb⟩ := Tree.parse_ok (show Tree.parse t = ((Tree.parse t).1, 0) from Prod.ext rfl h3)
    rw [← hb]
    exact ⟨(txt_took e h0).1, hok⟩
theorem rb_put {opt : Bool} (A B : List UInt8) {b : Bat} (h : (if opt then b.optOk else b.ok) = true) : rb opt (A ++ (Vi.text (if opt then b.opt else b.bytes) ++ B)) ((A.length : Int), 0) = (b, ((A ++ Vi.text (if opt then b.opt else b.bytes)).length : Int), 0) := by
  by_cases hok : b.ok = true
  · have hl := (Bat.ok_of hok).2.2
    have hbl := Bat.bytes_length b
    have he : (if opt then b.opt else b.bytes) = b.bytes := by unfold Bat.opt; rw [Bat.ok_nonempty hok]; cases opt <;> rfl
    rw [he]
    have ht := txt_text 60008 A B b.bytes (by omega) (by decide)
    have hd := Bat.dec_bytes [] [] b hok
    simp only [List.nil_append, List.append_nil, List.length_nil] at hd
    have hd : Bat.dec b.bytes 0 = (b, (b.bytes.length : Int), 0) := hd
    unfold rb
    rw [ht]
    simp only
    rw [if_neg (by intro hc; rcases hc with hc | ⟨_, hc⟩; exact hc rfl; rw [hc] at hbl; simp at hbl; omega), hd]
    simp [want_true]
  · have ho : opt = true ∧ b.empty = true := by
      cases opt
      · exact absurd h hok
      · simp only [if_true, Bat.optOk, Bool.or_eq_true] at h
        rcases h with h | h
        · exact ⟨rfl, h⟩
        · exact absurd h hok
    obtain ⟨rfl, hem⟩ := ho
    obtain rfl := Bat.empty_eq hem
    have ht := txt_text 60008 A B [] (by simp) (by decide)
    have he : (if true = true then Bat.none.opt else Bat.none.bytes) = [] := rfl
    rw [he]
    unfold rb
    rw [ht]
    simp
theorem rx_put (A B : List UInt8) {x : Tree} (h : x.ok = true) (hl : x.bytes.length ≤ 60000) : rx (A ++ (Vi.text x.bytes ++ B)) ((A.length : Int), 0) = (x, ((A ++ Vi.text x.bytes).length : Int), 0) := by
  have ht := txt_text 60000 A B x.bytes (by omega) (by decide)
  unfold rx
  rw [ht]
  simp only
  rw [if_neg (by simp), Tree.parse_bytes x h]
  simp [want_true]
/-- a request -/
def rq (l : List UInt8) : Req × St :=
  let k := rn 1 14 l (0, 0)
  let nm := txt 100 l k.2
  let i := rp l nm.2
  let c := rp l i.2
  let f := rp l c.2
  let g := rn 0 1 l f.2
  let b := rb true l g.2
  let x := rx l b.2
  let gr := txt 100 l x.2
  let m := rp l gr.2
  let ge := rp l m.2
  let t := rl 20 (txt 100 l) l ge.2
  (⟨k.1, nm.1, i.1, c.1, f.1, g.1 == 1, b.1, x.1, gr.1, m.1, ge.1, t.1⟩, t.2)
end Rd
namespace Req
/-- the request of a text -/
def dec (l : List UInt8) : Req × Int := if (Rd.rq l).2.2 = 0 ∧ (Rd.rq l).2.1 = (l.length : Int) ∧ l.length ≤ 60000 then ((Rd.rq l).1, 0) else (Req.none, 3)
end Req
end Go.Proofs.YtamiebojjinhcaaGreatDoor

namespace Go.Proofs.YtamiebojjinhcaaGreatDoor
open Rd
theorem may_iff {n : Int} : may n = true ↔ -1 ≤ n ∧ n ≤ 2199023255552 := by unfold may; simp
theorem flagI_eq {g : Int} (h0 : 0 ≤ g) (h1 : g ≤ 1) : flagI (g == 1) = g := by
  have : g = 0 ∨ g = 1 := by omega
  rcases this with rfl | rfl <;> rfl
theorem flagI_bd (b : Bool) : 0 ≤ flagI b ∧ flagI b ≤ 1 ∧ (flagI b == 1) = b := by cases b <;> decide
theorem rq_parts (l : List UInt8) : ∃ k s1 nm s2 i s3 c s4 f s5 g s6 b s7 x s8 gr s9 m s10 ge s11 t s12, rn 1 14 l (0, 0) = (k, s1) ∧ txt 100 l s1 = (nm, s2) ∧ rp l s2 = (i, s3) ∧ rp l s3 = (c, s4) ∧ rp l s4 = (f, s5) ∧ rn 0 1 l s5 = (g, s6) ∧ rb true l s6 = (b, s7) ∧ rx l s7 = (x, s8) ∧ txt 100 l s8 = (gr, s9) ∧ rp l s9 = (m, s10) ∧ rp l s10 = (ge, s11) ∧ rl 20 (txt 100 l) l s11 = (t, s12) ∧ rq l = (⟨k, nm, i, c, f, g == 1, b, x, gr, m, ge, t⟩, s12) :=
  ⟨_, _, _, _, _, _, _, _, _, _, _, _, _, _, _, _, _, _, _, _, _, _, _, _, rfl, rfl, rfl, rfl, rfl, rfl, rfl, rfl, rfl, rfl, rfl, rfl, rfl⟩
theorem rq_took {l : List UInt8} (h0 : (rq l).2.2 = 0) : Took l (0, 0) (rq l).1.body (rq l).2 ∧ (rq l).1.ok0 = true := by
  obtain ⟨k, s1, nm, s2, i, s3, c, s4, f, s5, g, s6, b, s7, x, s8, gr, s9, m, s10, ge, s11, t, s12, e1, e2, e3, e4, e5, e6, e7, e8, e9, e10, e11, e12, eq⟩ := rq_parts l
  rw [eq] at h0 ⊢
  simp only at h0 ⊢
  obtain ⟨t12, b12, p12⟩ := rl_took (txt 100 l) Vi.text (fun t => t.length ≤ 100) (fun st x s h h0 => ⟨(txt_took h h0).1, by have := (txt_took h h0).2; omega⟩) e12 h0
  obtain ⟨t11, b11, c11⟩ := rn_took e11 t12.ok
  obtain ⟨t10, b10, c10⟩ := rn_took e10 t11.ok
  obtain ⟨t9, b9⟩ := txt_took e9 t10.ok
  obtain ⟨t8, b8⟩ := rx_took e8 t9.ok
  obtain ⟨t7, b7⟩ := rb_took e7 t8.ok
  obtain ⟨t6, b6, c6⟩ := rn_took e6 t7.ok
  obtain ⟨t5, b5, c5⟩ := rn_took e5 t6.ok
  obtain ⟨t4, b4, c4⟩ := rn_took e4 t5.ok
  obtain ⟨t3, b3, c3⟩ := rn_took e3 t4.ok
  obtain ⟨t2, b2⟩ := txt_took e2 t3.ok
  obtain ⟨t1, b1, c1⟩ := rn_took e1 t2.ok
  refine ⟨?_, ?_⟩
  · unfold Req.body
    simp only [flagI_eq b6 c6]
    exact t1.trans (t2.trans (t3.trans (t4.trans (t5.trans (t6.trans (t7.trans (t8.trans (t9.trans (t10.trans (t11.trans (t12)))))))))))
  · unfold Req.ok0 Req.ok1
    simp only [Bool.and_eq_true, decide_eq_true_eq, may_iff, List.all_eq_true]
    refine ⟨⟨⟨⟨⟨⟨⟨⟨⟨⟨⟨⟨b1, c1⟩, b3, c3⟩, b4, c4⟩, b5, c5⟩, b10, c10⟩, b11, c11⟩, by omega⟩, by omega⟩, by omega⟩, b7⟩, b8⟩, ?_⟩
    intro t ht
    exact p12 t ht
theorem text_long (t : List UInt8) : t.length ≤ (Vi.text t).length := by unfold Vi.text; simp
theorem rq_body {q : Req} (h : q.ok = true) : rq q.body = (q, (q.body.length : Int), 0) := by
  unfold Req.ok Req.ok0 Req.ok1 at h
  simp only [Bool.and_eq_true, decide_eq_true_eq, may_iff, List.all_eq_true] at h
  obtain ⟨⟨⟨⟨⟨⟨⟨⟨⟨⟨⟨⟨⟨hk0, hk1⟩, hi0, hi1⟩, hc0, hc1⟩, hf0, hf1⟩, hm0, hm1⟩, hg0, hg1⟩, hn⟩, hgr⟩, htl⟩, hb⟩, hx⟩, ht⟩, hlen⟩ := h
  obtain ⟨hfl0, hfl1, hfl2⟩ := flagI_bd q.flag
  have hxl : q.filter.bytes.length ≤ 60000 := by
    have h1 := text_long q.filter.bytes
    unfold Req.body at hlen
    simp only [List.length_append] at hlen
    omega
  obtain ⟨A1, hA1⟩ : ∃ A, A = ([] : List UInt8) := ⟨_, rfl⟩
  obtain ⟨B1, hB1⟩ : ∃ B, B = (Vi.text q.name ++ (Vi.put q.index ++ (Vi.put q.count ++ (Vi.put q.from_ ++ (Vi.put (flagI q.flag) ++ (Vi.text q.bat.opt ++ (Vi.text q.filter.bytes ++ (Vi.text q.group ++ (Vi.put q.member ++ (Vi.put q.gen ++ ((Vi.put (q.topics.length : Int) ++ q.topics.flatMap Vi.text))))))))))) : List UInt8) := ⟨_, rfl⟩
  have e1 : q.body = A1 ++ (Vi.put q.kind ++ B1) := by rw [hB1, hA1]; unfold Req.body; simp
  have h1 := rn_put A1 B1 (lo := 1) (hi := 14) hk0 hk1 (by decide) (by decide)
  rw [← e1] at h1
  obtain ⟨A2, hA2⟩ : ∃ A, A = A1 ++ Vi.put q.kind := ⟨_, rfl⟩
  obtain ⟨B2, hB2⟩ : ∃ B, B = (Vi.put q.index ++ (Vi.put q.count ++ (Vi.put q.from_ ++ (Vi.put (flagI q.flag) ++ (Vi.text q.bat.opt ++ (Vi.text q.filter.bytes ++ (Vi.text q.group ++ (Vi.put q.member ++ (Vi.put q.gen ++ ((Vi.put (q.topics.length : Int) ++ q.topics.flatMap Vi.text)))))))))) : List UInt8) := ⟨_, rfl⟩
  have e2 : q.body = A2 ++ (Vi.text q.name ++ B2) := by rw [hB2, hA2, hA1]; unfold Req.body; simp
  have h2 := txt_text 100 A2 B2 q.name (by omega) (by decide)
  rw [← e2] at h2
  obtain ⟨A3, hA3⟩ : ∃ A, A = A2 ++ Vi.text q.name := ⟨_, rfl⟩
  obtain ⟨B3, hB3⟩ : ∃ B, B = (Vi.put q.count ++ (Vi.put q.from_ ++ (Vi.put (flagI q.flag) ++ (Vi.text q.bat.opt ++ (Vi.text q.filter.bytes ++ (Vi.text q.group ++ (Vi.put q.member ++ (Vi.put q.gen ++ ((Vi.put (q.topics.length : Int) ++ q.topics.flatMap Vi.text))))))))) : List UInt8) := ⟨_, rfl⟩
  have e3 : q.body = A3 ++ (Vi.put q.index ++ B3) := by rw [hB3, hA3, hA2, hA1]; unfold Req.body; simp
  have h3 := rn_put A3 B3 (lo := -1) (hi := 2199023255552) hi0 hi1 (by decide) (by decide)
  rw [← e3] at h3
  obtain ⟨A4, hA4⟩ : ∃ A, A = A3 ++ Vi.put q.index := ⟨_, rfl⟩
  obtain ⟨B4, hB4⟩ : ∃ B, B = (Vi.put q.from_ ++ (Vi.put (flagI q.flag) ++ (Vi.text q.bat.opt ++ (Vi.text q.filter.bytes ++ (Vi.text q.group ++ (Vi.put q.member ++ (Vi.put q.gen ++ ((Vi.put (q.topics.length : Int) ++ q.topics.flatMap Vi.text)))))))) : List UInt8) := ⟨_, rfl⟩
  have e4 : q.body = A4 ++ (Vi.put q.count ++ B4) := by rw [hB4, hA4, hA3, hA2, hA1]; unfold Req.body; simp
  have h4 := rn_put A4 B4 (lo := -1) (hi := 2199023255552) hc0 hc1 (by decide) (by decide)
  rw [← e4] at h4
  obtain ⟨A5, hA5⟩ : ∃ A, A = A4 ++ Vi.put q.count := ⟨_, rfl⟩
  obtain ⟨B5, hB5⟩ : ∃ B, B = (Vi.put (flagI q.flag) ++ (Vi.text q.bat.opt ++ (Vi.text q.filter.bytes ++ (Vi.text q.group ++ (Vi.put q.member ++ (Vi.put q.gen ++ ((Vi.put (q.topics.length : Int) ++ q.topics.flatMap Vi.text))))))) : List UInt8) := ⟨_, rfl⟩
  have e5 : q.body = A5 ++ (Vi.put q.from_ ++ B5) := by rw [hB5, hA5, hA4, hA3, hA2, hA1]; unfold Req.body; simp
  have h5 := rn_put A5 B5 (lo := -1) (hi := 2199023255552) hf0 hf1 (by decide) (by decide)
  rw [← e5] at h5
  obtain ⟨A6, hA6⟩ : ∃ A, A = A5 ++ Vi.put q.from_ := ⟨_, rfl⟩
  obtain ⟨B6, hB6⟩ : ∃ B, B = (Vi.text q.bat.opt ++ (Vi.text q.filter.bytes ++ (Vi.text q.group ++ (Vi.put q.member ++ (Vi.put q.gen ++ ((Vi.put (q.topics.length : Int) ++ q.topics.flatMap Vi.text)))))) : List UInt8) := ⟨_, rfl⟩
  have e6 : q.body = A6 ++ (Vi.put (flagI q.flag) ++ B6) := by rw [hB6, hA6, hA5, hA4, hA3, hA2, hA1]; unfold Req.body; simp
  have h6 := rn_put A6 B6 (lo := 0) (hi := 1) hfl0 hfl1 (by decide) (by decide)
  rw [← e6] at h6
  obtain ⟨A7, hA7⟩ : ∃ A, A = A6 ++ Vi.put (flagI q.flag) := ⟨_, rfl⟩
  obtain ⟨B7, hB7⟩ : ∃ B, B = (Vi.text q.filter.bytes ++ (Vi.text q.group ++ (Vi.put q.member ++ (Vi.put q.gen ++ ((Vi.put (q.topics.length : Int) ++ q.topics.flatMap Vi.text))))) : List UInt8) := ⟨_, rfl⟩
  have e7 : q.body = A7 ++ (Vi.text q.bat.opt ++ B7) := by rw [hB7, hA7, hA6, hA5, hA4, hA3, hA2, hA1]; unfold Req.body; simp
  have h7 := rb_put (opt := true) A7 B7 (b := q.bat) hb
  simp only [if_true] at h7
  rw [← e7] at h7
  obtain ⟨A8, hA8⟩ : ∃ A, A = A7 ++ Vi.text q.bat.opt := ⟨_, rfl⟩
  obtain ⟨B8, hB8⟩ : ∃ B, B = (Vi.text q.group ++ (Vi.put q.member ++ (Vi.put q.gen ++ ((Vi.put (q.topics.length : Int) ++ q.topics.flatMap Vi.text)))) : List UInt8) := ⟨_, rfl⟩
  have e8 : q.body = A8 ++ (Vi.text q.filter.bytes ++ B8) := by rw [hB8, hA8, hA7, hA6, hA5, hA4, hA3, hA2, hA1]; unfold Req.body; simp
  have h8 := rx_put A8 B8 hx hxl
  rw [← e8] at h8
  obtain ⟨A9, hA9⟩ : ∃ A, A = A8 ++ Vi.text q.filter.bytes := ⟨_, rfl⟩
  obtain ⟨B9, hB9⟩ : ∃ B, B = (Vi.put q.member ++ (Vi.put q.gen ++ ((Vi.put (q.topics.length : Int) ++ q.topics.flatMap Vi.text))) : List UInt8) := ⟨_, rfl⟩
  have e9 : q.body = A9 ++ (Vi.text q.group ++ B9) := by rw [hB9, hA9, hA8, hA7, hA6, hA5, hA4, hA3, hA2, hA1]; unfold Req.body; simp
  have h9 := txt_text 100 A9 B9 q.group (by omega) (by decide)
  rw [← e9] at h9
  obtain ⟨A10, hA10⟩ : ∃ A, A = A9 ++ Vi.text q.group := ⟨_, rfl⟩
  obtain ⟨B10, hB10⟩ : ∃ B, B = (Vi.put q.gen ++ ((Vi.put (q.topics.length : Int) ++ q.topics.flatMap Vi.text)) : List UInt8) := ⟨_, rfl⟩
  have e10 : q.body = A10 ++ (Vi.put q.member ++ B10) := by rw [hB10, hA10, hA9, hA8, hA7, hA6, hA5, hA4, hA3, hA2, hA1]; unfold Req.body; simp
  have h10 := rn_put A10 B10 (lo := -1) (hi := 2199023255552) hm0 hm1 (by decide) (by decide)
  rw [← e10] at h10
  obtain ⟨A11, hA11⟩ : ∃ A, A = A10 ++ Vi.put q.member := ⟨_, rfl⟩
  obtain ⟨B11, hB11⟩ : ∃ B, B = ((Vi.put (q.topics.length : Int) ++ q.topics.flatMap Vi.text) : List UInt8) := ⟨_, rfl⟩
  have e11 : q.body = A11 ++ (Vi.put q.gen ++ B11) := by rw [hB11, hA11, hA10, hA9, hA8, hA7, hA6, hA5, hA4, hA3, hA2, hA1]; unfold Req.body; simp
  have h11 := rn_put A11 B11 (lo := -1) (hi := 2199023255552) hg0 hg1 (by decide) (by decide)
  rw [← e11] at h11
  obtain ⟨A12, hA12⟩ : ∃ A, A = A11 ++ Vi.put q.gen := ⟨_, rfl⟩
  obtain ⟨B12, hB12⟩ : ∃ B, B = (([] : List UInt8) : List UInt8) := ⟨_, rfl⟩
  have e12 : q.body = A12 ++ ((Vi.put (q.topics.length : Int) ++ q.topics.flatMap Vi.text) ++ B12) := by rw [hB12, hA12, hA11, hA10, hA9, hA8, hA7, hA6, hA5, hA4, hA3, hA2, hA1]; unfold Req.body; simp
  have h12 := rl_put (most := 20) (fun l => txt 100 l) Vi.text (fun t => t.length ≤ 100) (fun A B x hx => txt_text 100 A B x (by omega) (by decide)) A12 B12 q.topics (by omega) (by decide) ht
  rw [← e12] at h12
  obtain ⟨k, s1, nm, s2, i, s3, c, s4, f, s5, g, s6, b, s7, x, s8, gr, s9, m, s10, ge, s11, t, s12, f1, f2, f3, f4, f5, f6, f7, f8, f9, f10, f11, f12, eq⟩ := rq_parts q.body
  have z1 : ((0, 0) : St) = ((A1.length : Int), 0) := by rw [hA1]; rfl
  rw [z1, h1] at f1
  rw [show s1 = ((A2.length : Int), 0) by rw [hA2]; exact (Prod.mk.inj f1).2.symm, h2] at f2
  unfold rp at f3
  rw [show s2 = ((A3.length : Int), 0) by rw [hA3]; exact (Prod.mk.inj f2).2.symm, h3] at f3
  unfold rp at f4
  rw [show s3 = ((A4.length : Int), 0) by rw [hA4]; exact (Prod.mk.inj f3).2.symm, h4] at f4
  unfold rp at f5
  rw [show s4 = ((A5.length : Int), 0) by rw [hA5]; exact (Prod.mk.inj f4).2.symm, h5] at f5
  rw [show s5 = ((A6.length : Int), 0) by rw [hA6]; exact (Prod.mk.inj f5).2.symm, h6] at f6
  rw [show s6 = ((A7.length : Int), 0) by rw [hA7]; exact (Prod.mk.inj f6).2.symm, h7] at f7
  rw [show s7 = ((A8.length : Int), 0) by rw [hA8]; exact (Prod.mk.inj f7).2.symm, h8] at f8
  rw [show s8 = ((A9.length : Int), 0) by rw [hA9]; exact (Prod.mk.inj f8).2.symm, h9] at f9
  unfold rp at f10
  rw [show s9 = ((A10.length : Int), 0) by rw [hA10]; exact (Prod.mk.inj f9).2.symm, h10] at f10
  unfold rp at f11
  rw [show s10 = ((A11.length : Int), 0) by rw [hA11]; exact (Prod.mk.inj f10).2.symm, h11] at f11
  rw [show s11 = ((A12.length : Int), 0) by rw [hA12]; exact (Prod.mk.inj f11).2.symm, h12] at f12
  rw [eq]
  have hlast := (Prod.mk.inj f12).2
  rw [← (Prod.mk.inj f1).1, ← (Prod.mk.inj f2).1, ← (Prod.mk.inj f3).1, ← (Prod.mk.inj f4).1, ← (Prod.mk.inj f5).1, ← (Prod.mk.inj f6).1, ← (Prod.mk.inj f7).1, ← (Prod.mk.inj f8).1, ← (Prod.mk.inj f9).1, ← (Prod.mk.inj f10).1, ← (Prod.mk.inj f11).1, ← (Prod.mk.inj f12).1, ← hlast, hfl2]
  have : A12 ++ (Vi.put (q.topics.length : Int) ++ q.topics.flatMap Vi.text) = q.body := by rw [e12, hB12]; simp
  rw [this]
namespace Req
theorem dec_ok {l : List UInt8} {q : Req} (h : dec l = (q, 0)) : q.ok = true ∧ l = q.body := by
  unfold dec at h
  split at h
  · rename_i hc
    obtain ⟨h0, h1, h2⟩ := hc
    cases h
    obtain ⟨t, hok⟩ := rq_took h0
    have hs := t.seg
    rw [h1] at hs
    have hl : seg l 0 (l.length : Int) = l := by unfold seg; simp
    rw [hl] at hs
    refine ⟨?_, hs⟩
    unfold ok
    rw [hok, ← hs]
    simp [h2]
  · cases h
theorem dec_body {q : Req} (h : q.ok = true) : dec q.body = (q, 0) := by
  unfold dec
  rw [rq_body h]
  have : q.body.length ≤ 60000 := by unfold ok at h; simp only [Bool.and_eq_true, decide_eq_true_eq] at h; exact h.2
  rw [if_pos ⟨rfl, rfl, this⟩]
theorem dec_cases (l : List UInt8) : (dec l).2 = 0 ∨ dec l = (none, 3) := by
  unfold dec; split
  · exact .inl rfl
  · exact .inr rfl
end Req
end Go.Proofs.YtamiebojjinhcaaGreatDoor

namespace Go.Proofs.YtamiebojjinhcaaGreatDoor
open Rd
/-- a name and a number -/
def ntb (x : List UInt8 × Int) : List UInt8 := Vi.text x.1 ++ Vi.put x.2
def ntOk (x : List UInt8 × Int) : Bool := decide (x.1.length ≤ 100) && may x.2
structure Rep where
  err : Int
  at_ : Int
  start : Int
  end_ : Int
  member : Int
  gen : Int
  leader : Int
  bats : List Bat
  topics : List (List UInt8 × Int)
  parts : List (List UInt8 × Int)
def btb (b : Bat) : List UInt8 := Vi.text b.bytes
namespace Rep
def none : Rep := ⟨0, 0, 0, 0, 0, 0, 0, [], [], []⟩
def body (r : Rep) : List UInt8 :=
  Vi.put r.err ++ (Vi.put r.at_ ++ (Vi.put r.start ++ (Vi.put r.end_ ++ (Vi.put r.member ++ (Vi.put r.gen ++ (Vi.put r.leader ++ ((Vi.put (r.bats.length : Int) ++ r.bats.flatMap btb) ++ ((Vi.put (r.topics.length : Int) ++ r.topics.flatMap ntb) ++ (Vi.put (r.parts.length : Int) ++ r.parts.flatMap ntb)))))))))
def ok1 (r : Rep) : Bool := decide (0 ≤ r.err) && decide (r.err ≤ 14) && may r.at_ && may r.start && may r.end_ && may r.member && may r.gen && may r.leader && decide (r.bats.length ≤ 500) && decide (r.topics.length ≤ 20) && decide (r.parts.length ≤ 400)
def ok0 (r : Rep) : Bool := r.ok1 && r.bats.all Bat.ok && r.topics.all ntOk && r.parts.all ntOk
def ok (r : Rep) : Bool := r.ok0 && decide (r.body.length ≤ 60000)
def enc (r : Rep) : List UInt8 × Int := if r.ok then (r.body, 0) else ([], 1)
end Rep
namespace Rd
def rt (l : List UInt8) (st : St) : (List UInt8 × Int) × St := (((txt 100 l st).1, (rp l (txt 100 l st).2).1), (rp l (txt 100 l st).2).2)
theorem rt_took {l : List UInt8} {st s : St} {x : List UInt8 × Int} (h : rt l st = (x, s)) (h0 : s.2 = 0) : Took l st (ntb x) s ∧ ntOk x = true := by
  unfold rt at h
  obtain ⟨⟨t, s1⟩, e1⟩ : ∃ y, txt 100 l st = y := ⟨_, rfl⟩
  rw [e1] at h
  simp only at h
  obtain ⟨⟨n, s2⟩, e2⟩ : ∃ y, rp l s1 = y := ⟨_, rfl⟩
  rw [e2] at h
  cases h
  obtain ⟨t2, b2, c2⟩ := rn_took e2 h0
  obtain ⟨t1, b1⟩ := txt_took e1 t2.ok
  exact ⟨t1.trans t2, by simp only [ntOk, Bool.and_eq_true, decide_eq_true_eq, may_iff]; exact ⟨by omega, b2, c2⟩⟩
theorem rt_put (A B : List UInt8) (x : List UInt8 × Int) (h : ntOk x = true) : rt (A ++ (ntb x ++ B)) ((A.length : Int), 0) = (x, ((A ++ ntb x).length : Int), 0) := by
  simp only [ntOk, Bool.and_eq_true, decide_eq_true_eq, may_iff] at h
  have e1 : A ++ (ntb x ++ B) = A ++ (Vi.text x.1 ++ (Vi.put x.2 ++ B)) := by simp [ntb]
  have e2 : A ++ (ntb x ++ B) = (A ++ Vi.text x.1) ++ (Vi.put x.2 ++ B) := by simp [ntb]
  have h1 := txt_text 100 A (Vi.put x.2 ++ B) x.1 (by omega) (by decide)
  have h2 := rn_put (A ++ Vi.text x.1) B (lo := -1) (hi := 2199023255552) h.2.1 h.2.2 (by decide) (by decide)
  rw [← e1] at h1
  rw [← e2] at h2
  unfold rt rp
  rw [h1]
  simp only
  rw [h2]
  simp [ntb]
/-- a reply -/
def rr (l : List UInt8) : Rep × St :=
  let a := rn 0 14 l (0, 0)
  let b := rp l a.2
  let c := rp l b.2
  let d := rp l c.2
  let e := rp l d.2
  let f := rp l e.2
  let g := rp l f.2
  let h := rl 500 (rb false l) l g.2
  let i := rl 20 (rt l) l h.2
  let j := rl 400 (rt l) l i.2
  (⟨a.1, b.1, c.1, d.1, e.1, f.1, g.1, h.1, i.1, j.1⟩, j.2)
end Rd
theorem rr_parts (l : List UInt8) : ∃ a s1 b s2 c s3 d s4 e s5 f s6 g s7 h s8 i s9 j s10, rn 0 14 l (0, 0) = (a, s1) ∧ rp l s1 = (b, s2) ∧ rp l s2 = (c, s3) ∧ rp l s3 = (d, s4) ∧ rp l s4 = (e, s5) ∧ rp l s5 = (f, s6) ∧ rp l s6 = (g, s7) ∧ rl 500 (rb false l) l s7 = (h, s8) ∧ rl 20 (rt l) l s8 = (i, s9) ∧ rl 400 (rt l) l s9 = (j, s10) ∧ rr l = (⟨a, b, c, d, e, f, g, h, i, j⟩, s10) :=
  ⟨_, _, _, _, _, _, _, _, _, _, _, _, _, _, _, _, _, _, _, _, rfl, rfl, rfl, rfl, rfl, rfl, rfl, rfl, rfl, rfl, rfl⟩
theorem rr_took {l : List UInt8} (h0 : (rr l).2.2 = 0) : Took l (0, 0) (rr l).1.body (rr l).2 ∧ (rr l).1.ok0 = true := by
  obtain ⟨a, s1, b, s2, c, s3, d, s4, e, s5, f, s6, g, s7, h, s8, i, s9, j, s10, e1, e2, e3, e4, e5, e6, e7, e8, e9, e10, eq⟩ := rr_parts l
  rw [eq] at h0 ⊢
  simp only at h0 ⊢
  obtain ⟨t10, b10, p10⟩ := rl_took (rt l) ntb (fun x => ntOk x = true) (fun st x s h h0 => rt_took h h0) e10 h0
  obtain ⟨t9, b9, p9⟩ := rl_took (rt l) ntb (fun x => ntOk x = true) (fun st x s h h0 => rt_took h h0) e9 t10.ok
  obtain ⟨t8, b8, p8⟩ := rl_took (rb false l) btb (fun x => x.ok = true) (fun st x s h h0 => by have := rb_took h h0; simpa [btb] using this) e8 t9.ok
  obtain ⟨t7, b7, c7⟩ := rn_took e7 t8.ok
  obtain ⟨t6, b6, c6⟩ := rn_took e6 t7.ok
  obtain ⟨t5, b5, c5⟩ := rn_took e5 t6.ok
  obtain ⟨t4, b4, c4⟩ := rn_took e4 t5.ok
  obtain ⟨t3, b3, c3⟩ := rn_took e3 t4.ok
  obtain ⟨t2, b2, c2⟩ := rn_took e2 t3.ok
  obtain ⟨t1, b1, c1⟩ := rn_took e1 t2.ok
  refine ⟨?_, ?_⟩
  · unfold Rep.body
    exact t1.trans (t2.trans (t3.trans (t4.trans (t5.trans (t6.trans (t7.trans (t8.trans (t9.trans (t10)))))))))
  · unfold Rep.ok0 Rep.ok1
    simp only [Bool.and_eq_true, decide_eq_true_eq, may_iff, List.all_eq_true]
    refine ⟨⟨⟨⟨⟨⟨⟨⟨⟨⟨⟨⟨⟨b1, c1⟩, b2, c2⟩, b3, c3⟩, b4, c4⟩, b5, c5⟩, b6, c6⟩, b7, c7⟩, by omega⟩, by omega⟩, by omega⟩, p8⟩, p9⟩, p10⟩
theorem rr_body {r : Rep} (h : r.ok = true) : rr r.body = (r, (r.body.length : Int), 0) := by
  unfold Rep.ok Rep.ok0 Rep.ok1 at h
  simp only [Bool.and_eq_true, decide_eq_true_eq, may_iff, List.all_eq_true] at h
  obtain ⟨⟨⟨⟨⟨⟨⟨⟨⟨⟨⟨⟨⟨⟨ha0, ha1⟩, hb0, hb1⟩, hc0, hc1⟩, hd0, hd1⟩, he0, he1⟩, hf0, hf1⟩, hg0, hg1⟩, hbl⟩, htl⟩, hpl⟩, hbs⟩, hts⟩, hps⟩, hlen⟩ := h
  obtain ⟨A1, hA1⟩ : ∃ A, A = ([] : List UInt8) := ⟨_, rfl⟩
  obtain ⟨B1, hB1⟩ : ∃ B, B = (Vi.put r.at_ ++ (Vi.put r.start ++ (Vi.put r.end_ ++ (Vi.put r.member ++ (Vi.put r.gen ++ (Vi.put r.leader ++ ((Vi.put (r.bats.length : Int) ++ r.bats.flatMap btb) ++ ((Vi.put (r.topics.length : Int) ++ r.topics.flatMap ntb) ++ ((Vi.put (r.parts.length : Int) ++ r.parts.flatMap ntb))))))))) : List UInt8) := ⟨_, rfl⟩
  have e1 : r.body = A1 ++ (Vi.put r.err ++ B1) := by rw [hB1, hA1]; unfold Rep.body; simp
  have h1 := rn_put A1 B1 (lo := 0) (hi := 14) ha0 ha1 (by decide) (by decide)
  rw [← e1] at h1
  obtain ⟨A2, hA2⟩ : ∃ A, A = A1 ++ Vi.put r.err := ⟨_, rfl⟩
  obtain ⟨B2, hB2⟩ : ∃ B, B = (Vi.put r.start ++ (Vi.put r.end_ ++ (Vi.put r.member ++ (Vi.put r.gen ++ (Vi.put r.leader ++ ((Vi.put (r.bats.length : Int) ++ r.bats.flatMap btb) ++ ((Vi.put (r.topics.length : Int) ++ r.topics.flatMap ntb) ++ ((Vi.put (r.parts.length : Int) ++ r.parts.flatMap ntb)))))))) : List UInt8) := ⟨_, rfl⟩
  have e2 : r.body = A2 ++ (Vi.put r.at_ ++ B2) := by rw [hB2, hA2, hA1]; unfold Rep.body; simp
  have h2 := rn_put A2 B2 (lo := -1) (hi := 2199023255552) hb0 hb1 (by decide) (by decide)
  rw [← e2] at h2
  obtain ⟨A3, hA3⟩ : ∃ A, A = A2 ++ Vi.put r.at_ := ⟨_, rfl⟩
  obtain ⟨B3, hB3⟩ : ∃ B, B = (Vi.put r.end_ ++ (Vi.put r.member ++ (Vi.put r.gen ++ (Vi.put r.leader ++ ((Vi.put (r.bats.length : Int) ++ r.bats.flatMap btb) ++ ((Vi.put (r.topics.length : Int) ++ r.topics.flatMap ntb) ++ ((Vi.put (r.parts.length : Int) ++ r.parts.flatMap ntb))))))) : List UInt8) := ⟨_, rfl⟩
  have e3 : r.body = A3 ++ (Vi.put r.start ++ B3) := by rw [hB3, hA3, hA2, hA1]; unfold Rep.body; simp
  have h3 := rn_put A3 B3 (lo := -1) (hi := 2199023255552) hc0 hc1 (by decide) (by decide)
  rw [← e3] at h3
  obtain ⟨A4, hA4⟩ : ∃ A, A = A3 ++ Vi.put r.start := ⟨_, rfl⟩
  obtain ⟨B4, hB4⟩ : ∃ B, B = (Vi.put r.member ++ (Vi.put r.gen ++ (Vi.put r.leader ++ ((Vi.put (r.bats.length : Int) ++ r.bats.flatMap btb) ++ ((Vi.put (r.topics.length : Int) ++ r.topics.flatMap ntb) ++ ((Vi.put (r.parts.length : Int) ++ r.parts.flatMap ntb)))))) : List UInt8) := ⟨_, rfl⟩
  have e4 : r.body = A4 ++ (Vi.put r.end_ ++ B4) := by rw [hB4, hA4, hA3, hA2, hA1]; unfold Rep.body; simp
  have h4 := rn_put A4 B4 (lo := -1) (hi := 2199023255552) hd0 hd1 (by decide) (by decide)
  rw [← e4] at h4
  obtain ⟨A5, hA5⟩ : ∃ A, A = A4 ++ Vi.put r.end_ := ⟨_, rfl⟩
  obtain ⟨B5, hB5⟩ : ∃ B, B = (Vi.put r.gen ++ (Vi.put r.leader ++ ((Vi.put (r.bats.length : Int) ++ r.bats.flatMap btb) ++ ((Vi.put (r.topics.length : Int) ++ r.topics.flatMap ntb) ++ ((Vi.put (r.parts.length : Int) ++ r.parts.flatMap ntb))))) : List UInt8) := ⟨_, rfl⟩
  have e5 : r.body = A5 ++ (Vi.put r.member ++ B5) := by rw [hB5, hA5, hA4, hA3, hA2, hA1]; unfold Rep.body; simp
  have h5 := rn_put A5 B5 (lo := -1) (hi := 2199023255552) he0 he1 (by decide) (by decide)
  rw [← e5] at h5
  obtain ⟨A6, hA6⟩ : ∃ A, A = A5 ++ Vi.put r.member := ⟨_, rfl⟩
  obtain ⟨B6, hB6⟩ : ∃ B, B = (Vi.put r.leader ++ ((Vi.put (r.bats.length : Int) ++ r.bats.flatMap btb) ++ ((Vi.put (r.topics.length : Int) ++ r.topics.flatMap ntb) ++ ((Vi.put (r.parts.length : Int) ++ r.parts.flatMap ntb)))) : List UInt8) := ⟨_, rfl⟩
  have e6 : r.body = A6 ++ (Vi.put r.gen ++ B6) := by rw [hB6, hA6, hA5, hA4, hA3, hA2, hA1]; unfold Rep.body; simp
  have h6 := rn_put A6 B6 (lo := -1) (hi := 2199023255552) hf0 hf1 (by decide) (by decide)
  rw [← e6] at h6
  obtain ⟨A7, hA7⟩ : ∃ A, A = A6 ++ Vi.put r.gen := ⟨_, rfl⟩
  obtain ⟨B7, hB7⟩ : ∃ B, B = ((Vi.put (r.bats.length : Int) ++ r.bats.flatMap btb) ++ ((Vi.put (r.topics.length : Int) ++ r.topics.flatMap ntb) ++ ((Vi.put (r.parts.length : Int) ++ r.parts.flatMap ntb))) : List UInt8) := ⟨_, rfl⟩
  have e7 : r.body = A7 ++ (Vi.put r.leader ++ B7) := by rw [hB7, hA7, hA6, hA5, hA4, hA3, hA2, hA1]; unfold Rep.body; simp
  have h7 := rn_put A7 B7 (lo := -1) (hi := 2199023255552) hg0 hg1 (by decide) (by decide)
  rw [← e7] at h7
  obtain ⟨A8, hA8⟩ : ∃ A, A = A7 ++ Vi.put r.leader := ⟨_, rfl⟩
  obtain ⟨B8, hB8⟩ : ∃ B, B = ((Vi.put (r.topics.length : Int) ++ r.topics.flatMap ntb) ++ ((Vi.put (r.parts.length : Int) ++ r.parts.flatMap ntb)) : List UInt8) := ⟨_, rfl⟩
  have e8 : r.body = A8 ++ ((Vi.put (r.bats.length : Int) ++ r.bats.flatMap btb) ++ B8) := by rw [hB8, hA8, hA7, hA6, hA5, hA4, hA3, hA2, hA1]; unfold Rep.body; simp
  have h8 := rl_put (most := 500) (fun l => rb false l) btb (fun x => x.ok = true) (fun A B x hx => by have := rb_put (opt := false) A B (b := x) (by simpa using hx); simpa [btb] using this) A8 B8 r.bats (by omega) (by decide) hbs
  rw [← e8] at h8
  obtain ⟨A9, hA9⟩ : ∃ A, A = A8 ++ (Vi.put (r.bats.length : Int) ++ r.bats.flatMap btb) := ⟨_, rfl⟩
  obtain ⟨B9, hB9⟩ : ∃ B, B = ((Vi.put (r.parts.length : Int) ++ r.parts.flatMap ntb) : List UInt8) := ⟨_, rfl⟩
  have e9 : r.body = A9 ++ ((Vi.put (r.topics.length : Int) ++ r.topics.flatMap ntb) ++ B9) := by rw [hB9, hA9, hA8, hA7, hA6, hA5, hA4, hA3, hA2, hA1]; unfold Rep.body; simp
  have h9 := rl_put (most := 20) (fun l => rt l) ntb (fun x => ntOk x = true) (fun A B x hx => rt_put A B x hx) A9 B9 r.topics (by omega) (by decide) hts
  rw [← e9] at h9
  obtain ⟨A10, hA10⟩ : ∃ A, A = A9 ++ (Vi.put (r.topics.length : Int) ++ r.topics.flatMap ntb) := ⟨_, rfl⟩
  obtain ⟨B10, hB10⟩ : ∃ B, B = (([] : List UInt8) : List UInt8) := ⟨_, rfl⟩
  have e10 : r.body = A10 ++ ((Vi.put (r.parts.length : Int) ++ r.parts.flatMap ntb) ++ B10) := by rw [hB10, hA10, hA9, hA8, hA7, hA6, hA5, hA4, hA3, hA2, hA1]; unfold Rep.body; simp
  have h10 := rl_put (most := 400) (fun l => rt l) ntb (fun x => ntOk x = true) (fun A B x hx => rt_put A B x hx) A10 B10 r.parts (by omega) (by decide) hps
  rw [← e10] at h10
  obtain ⟨a, s1, b, s2, c, s3, d, s4, e, s5, f, s6, g, s7, h, s8, i, s9, j, s10, f1, f2, f3, f4, f5, f6, f7, f8, f9, f10, eq⟩ := rr_parts r.body
  have z1 : ((0, 0) : St) = ((A1.length : Int), 0) := by rw [hA1]; rfl
  rw [z1, h1] at f1
  unfold rp at f2
  rw [show s1 = ((A2.length : Int), 0) by rw [hA2]; exact (Prod.mk.inj f1).2.symm, h2] at f2
  unfold rp at f3
  rw [show s2 = ((A3.length : Int), 0) by rw [hA3]; exact (Prod.mk.inj f2).2.symm, h3] at f3
  unfold rp at f4
  rw [show s3 = ((A4.length : Int), 0) by rw [hA4]; exact (Prod.mk.inj f3).2.symm, h4] at f4
  unfold rp at f5
  rw [show s4 = ((A5.length : Int), 0) by rw [hA5]; exact (Prod.mk.inj f4).2.symm, h5] at f5
  unfold rp at f6
  rw [show s5 = ((A6.length : Int), 0) by rw [hA6]; exact (Prod.mk.inj f5).2.symm, h6] at f6
  unfold rp at f7
  rw [show s6 = ((A7.length : Int), 0) by rw [hA7]; exact (Prod.mk.inj f6).2.symm, h7] at f7
  rw [show s7 = ((A8.length : Int), 0) by rw [hA8]; exact (Prod.mk.inj f7).2.symm, h8] at f8
  rw [show s8 = ((A9.length : Int), 0) by rw [hA9]; exact (Prod.mk.inj f8).2.symm, h9] at f9
  rw [show s9 = ((A10.length : Int), 0) by rw [hA10]; exact (Prod.mk.inj f9).2.symm, h10] at f10
  rw [eq]
  have hlast := (Prod.mk.inj f10).2
  rw [← (Prod.mk.inj f1).1, ← (Prod.mk.inj f2).1, ← (Prod.mk.inj f3).1, ← (Prod.mk.inj f4).1, ← (Prod.mk.inj f5).1, ← (Prod.mk.inj f6).1, ← (Prod.mk.inj f7).1, ← (Prod.mk.inj f8).1, ← (Prod.mk.inj f9).1, ← (Prod.mk.inj f10).1, ← hlast]
  have : A10 ++ (Vi.put (r.parts.length : Int) ++ r.parts.flatMap ntb) = r.body := by rw [e10, hB10]; simp
  rw [this]
namespace Rep
/-- the reply of a text -/
def dec (l : List UInt8) : Rep × Int := if (rr l).2.2 = 0 ∧ (rr l).2.1 = (l.length : Int) ∧ l.length ≤ 60000 then ((rr l).1, 0) else (none, 3)
theorem dec_ok {l : List UInt8} {r : Rep} (h : dec l = (r, 0)) : r.ok = true ∧ l = r.body := by
  unfold dec at h
  split at h
  · rename_i hc
    obtain ⟨h0, h1, h2⟩ := hc
    cases h
    obtain ⟨t, hok⟩ := rr_took h0
    have hs := t.seg
    rw [h1] at hs
    have hl : seg l 0 (l.length : Int) = l := by unfold seg; simp
    rw [hl] at hs
    refine ⟨?_, hs⟩
    unfold ok
    rw [hok, ← hs]
    simp [h2]
  · cases h
theorem dec_body {r : Rep} (h : r.ok = true) : dec r.body = (r, 0) := by
  unfold dec
  rw [rr_body h]
  have : r.body.length ≤ 60000 := by unfold ok at h; simp only [Bool.and_eq_true, decide_eq_true_eq] at h; exact h.2
  rw [if_pos ⟨rfl, rfl, this⟩]
end Rep
end Go.Proofs.YtamiebojjinhcaaGreatDoor

namespace Go.Proofs.YtamiebojjinhcaaGreatDoor
open Rd
/-- the document's steps -/
structure RefQ (l : List UInt8) (k : Int) (s1 : St) (nm : List UInt8) (s2 : St) (i : Int) (s3 : St) (c : Int) (s4 : St) (f : Int) (s5 : St) (g : Int) (s6 : St) (b : List UInt8) (s7 : St) (x : List UInt8) (s8 : St) (gr : List UInt8) (s9 : St) (m : Int) (s10 : St) (ge : Int) (s11 : St) (n : Int) (s12 : St) (t : List (List UInt8)) (s13 : St) : Prop where
  e1 : num l (0, 0) = (k, s1)
  e2 : txt 100 l s1 = (nm, s2)
  e3 : num l s2 = (i, s3)
  e4 : num l s3 = (c, s4)
  e5 : num l s4 = (f, s5)
  e6 : num l s5 = (g, s6)
  e7 : txt 60000 l s6 = (b, s7)
  e8 : txt 60000 l s7 = (x, s8)
  e9 : txt 100 l s8 = (gr, s9)
  e10 : num l s9 = (m, s10)
  e11 : num l s10 = (ge, s11)
  e12 : num l s11 = (n, s12)
  e13 : loop (txt 100 l) (min n.toNat 21) s12 = (t, s13)
/-- a name and a number, whatever it is -/
def rn2 (l : List UInt8) (st : St) : (List UInt8 × Int) × St := (((txt 100 l st).1, (num l (txt 100 l st).2).1), (num l (txt 100 l st).2).2)
/-- the document's steps -/
structure RefR (l : List UInt8) (a : Int) (s1 : St) (b : Int) (s2 : St) (c : Int) (s3 : St) (d : Int) (s4 : St) (e : Int) (s5 : St) (f : Int) (s6 : St) (g : Int) (s7 : St) (n : Int) (s8 : St) (h : List (List UInt8)) (s9 : St) (n2 : Int) (s10 : St) (i : List (List UInt8 × Int)) (s11 : St) (n3 : Int) (s12 : St) (j : List (List UInt8 × Int)) (s13 : St) : Prop where
  e1 : num l (0, 0) = (a, s1)
  e2 : num l s1 = (b, s2)
  e3 : num l s2 = (c, s3)
  e4 : num l s3 = (d, s4)
  e5 : num l s4 = (e, s5)
  e6 : num l s5 = (f, s6)
  e7 : num l s6 = (g, s7)
  e8 : num l s7 = (n, s8)
  e9 : loop (txt 60008 l) (min n.toNat 501) s8 = (h, s9)
  e10 : num l s9 = (n2, s10)
  e11 : loop (rn2 l) (min n2.toNat 21) s10 = (i, s11)
  e12 : num l s11 = (n3, s12)
  e13 : loop (rn2 l) (min n3.toNat 401) s12 = (j, s13)
end Go.Proofs.YtamiebojjinhcaaGreatDoor
