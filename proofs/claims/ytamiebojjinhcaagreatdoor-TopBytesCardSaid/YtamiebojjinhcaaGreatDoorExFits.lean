/-
  Filters, in plain words: how deep, of how many parts, which may be, their text, what is parsed.
  Filters, in plain words, 2: what was parsed has these bytes; cut off it is none.
  Filters, in plain words, 3: a filter's text, cut off, is none; how deep, of how many, counted to 100.
  Filters: what a part that fits is bounded by.
  Filters in memory.
  expr.Size: the walk.
  expr.long, expr.fits: the walks.
-/
import Derived.Test.YtamiebojjinhcaaGreatDoorRc
import Derived.Test.YtamiebojjinhcaaGreatDoorOwn
import Derived.Test.YtamiebojjinhcaaGreatDoorRows
import Derived.Laws.EntriesVeiled
import Derived.Deep.RegionHeld3
set_option linter.unusedVariables false
namespace Go.Proofs.YtamiebojjinhcaaGreatDoor

inductive Tree where
  | node (op : Int) (name value : List UInt8) (kids : List Tree)

namespace Tree
def op : Tree → Int | .node o _ _ _ => o
def name : Tree → List UInt8 | .node _ n _ _ => n
def value : Tree → List UInt8 | .node _ _ v _ => v
def kids : Tree → List Tree | .node _ _ _ k => k
theorem eta (t : Tree) : t = .node t.op t.name t.value t.kids := by cases t; rfl
mutual
def size : Tree → Nat
  | .node _ _ _ ks => sizes ks + 1
def sizes : List Tree → Nat
  | [] => 0
  | t :: ts => size t + sizes ts
end
mutual
def height : Tree → Nat
  | .node _ _ _ ks => heights ks + 1
def heights : List Tree → Nat
  | [] => 0
  | t :: ts => max (height t) (heights ts)
end
theorem size_pos (t : Tree) : 0 < t.size := by cases t; simp [size]
theorem size_kids (t : Tree) : t.size = sizes t.kids + 1 := by cases t; simp [size, kids]
theorem height_kids (t : Tree) : t.height = heights t.kids + 1 := by cases t; simp [height, kids]
theorem sizes_append : ∀ (a b : List Tree), sizes (a ++ b) = sizes a + sizes b
  | [], b => by simp [sizes]
  | t :: a, b => by simp [sizes, sizes_append a b]; omega
theorem heights_append : ∀ (a b : List Tree), heights (a ++ b) = max (heights a) (heights b)
  | [], b => by simp [heights]
  | t :: a, b => by simp only [List.cons_append, heights, heights_append a b]; omega
theorem size_mem : ∀ {l : List Tree} {t : Tree}, t ∈ l → t.size ≤ sizes l
  | x :: l, t, h => by
    rcases List.mem_cons.1 h with rfl | h
    · simp [sizes]
    · have := size_mem h; simp [sizes]; omega
theorem heights_le_sizes_aux : ∀ (n : Nat) (t : Tree), t.size ≤ n → t.height ≤ t.size
  | 0, t, h => by have := size_pos t; omega
  | n + 1, t, h => by
    rw [height_kids, size_kids]
    have hk := size_kids t
    have : ∀ l : List Tree, (∀ k ∈ l, k.size ≤ n) → heights l ≤ sizes l := by
      intro l
      induction l with
      | nil => intro _; simp [heights]
      | cons x l ih =>
        intro hl
        have h1 := heights_le_sizes_aux n x (hl x (by simp))
        have h2 := ih (fun k hk => hl k (by simp [hk]))
        simp [heights, sizes]; omega
    have := this t.kids (fun k hk' => by have := size_mem hk'; omega)
    omega

def long (s : List UInt8) : Bool := !(s == []) && decide (s.length ≤ 1000)
/-- may one part be, but for its kids? -/
def fits : Tree → Bool
  | .node o n v ks =>
  if o = 0 then n == [] && v == [] && decide (ks.length = 0)
  else if o = 1 ∨ o = 2 then n == [] && v == [] && decide (2 ≤ ks.length) && decide (ks.length ≤ 30)
  else if o = 3 then n == [] && v == [] && decide (ks.length = 1)
  else if o = 4 then long n && v == [] && decide (ks.length = 0)
  else if o = 5 then long n && decide (v.length ≤ 1000) && decide (ks.length = 0)
  else if o = 6 ∨ o = 7 then n == [] && long v && decide (ks.length = 0)
  else false
def allp : Nat → Tree → Bool
  | 0, _ => false
  | k + 1, t => t.fits && t.kids.all (allp k)
def ok (t : Tree) : Bool := decide (t.size ≤ 30) && allp 6 t
def check (t : Tree) : Int := if t.ok then 0 else 1
def b1 (n : Nat) : UInt8 := UInt8.ofNat n
def headb : Tree → List UInt8
  | .node o n v ks => b1 o.toNat :: ((if o = 1 ∨ o = 2 then [b1 ks.length] else if o = 4 ∨ o = 5 then Vi.text n else []) ++ (if o = 5 ∨ o = 6 ∨ o = 7 then Vi.text v else []))
mutual
def bytes : Tree → List UInt8
  | .node o n v ks => headb (.node o n v ks) ++ bytess ks
def bytess : List Tree → List UInt8
  | [] => []
  | t :: ts => bytes t ++ bytess ts
end
theorem bytes_kids (t : Tree) : t.bytes = headb t ++ bytess t.kids := by cases t; simp [bytes, kids]
theorem bytess_append : ∀ (a b : List Tree), bytess (a ++ b) = bytess a ++ bytess b
  | [], b => by simp [bytess]
  | t :: a, b => by simp [bytess, bytess_append a b]
def print (t : Tree) : List UInt8 × Int := if t.ok then (t.bytes, 0) else ([], 1)

/-- place, how many parts there are, error -/
structure PS where
  at_ : Int
  n : Int
  e : Int
def one (l : List UInt8) (s : PS) : Int × PS :=
  if s.e ≠ 0 then (0, s)
  else if (l.length : Int) ≤ s.at_ then (0, { s with e := 2 })
  else (((l.getD s.at_.toNat 0).toNat : Int), { s with at_ := s.at_ + 1 })
def ptext (l : List UInt8) (s : PS) : List UInt8 × PS :=
  if s.e = 0 then ((Vi.take l s.at_ 1000).1, { s with at_ := (Vi.take l s.at_ 1000).2.1, e := (Vi.take l s.at_ 1000).2.2 }) else ([], s)
def want (b : Bool) (s : PS) : PS := if s.e = 0 ∧ b = false then { s with e := 3 } else s
/-- one part's own bytes: its kind, how many kids, name, value -/
structure PH where
  op : Int
  kids : Int
  name : List UInt8
  value : List UInt8
  s : PS
def phead (l : List UInt8) (lv : Bool) (s : PS) : PH :=
  let a := one l s
  let s1 := want (lv && decide (a.2.n + 1 ≤ 30) && decide (a.1 ≤ 7)) { a.2 with n := a.2.n + 1 }
  let k := if a.1 = 1 ∨ a.1 = 2 then one l s1 else (if a.1 = 3 then 1 else 0, s1)
  let s2 := if a.1 = 1 ∨ a.1 = 2 then want (decide (2 ≤ k.1) && decide (k.1 ≤ 30)) k.2 else s1
  let nm := if a.1 = 4 ∨ a.1 = 5 then ptext l s2 else ([], s2)
  let vl := if a.1 = 5 ∨ a.1 = 6 ∨ a.1 = 7 then ptext l nm.2 else ([], nm.2)
  ⟨a.1, k.1, nm.1, vl.1, vl.2⟩
def pkids (p : PS → Tree × PS) : Nat → PS → List Tree × PS
  | 0, s => ([], s)
  | m + 1, s => if s.e = 0 then ((p s).1 :: (pkids p m (p s).2).1, (pkids p m (p s).2).2) else ([], s)
def part (l : List UInt8) : Nat → PS → Tree × PS
  | 0, s => (.node (phead l false s).op (phead l false s).name (phead l false s).value [], (phead l false s).s)
  | k + 1, s =>
    (.node (phead l true s).op (phead l true s).name (phead l true s).value (pkids (part l k) (phead l true s).kids.toNat (phead l true s).s).1, (pkids (part l k) (phead l true s).kids.toNat (phead l true s).s).2)
def none : Tree := .node 0 [] [] []
def parse (l : List UInt8) : Tree × Int :=
  let r := part l 6 ⟨0, 0, 0⟩
  let e := (want (decide (r.2.at_ = l.length) && r.1.ok) r.2).e
  if e = 0 then (r.1, 0) else (none, e)

/-! ### There and back -/
theorem one_at (A : List UInt8) (b : UInt8) (B : List UInt8) (n : Int) : one (A ++ b :: B) ⟨(A.length : Int), n, 0⟩ = ((b.toNat : Int), ⟨((A ++ [b]).length : Int), n, 0⟩) := by
  unfold one
  simp only [ne_eq, not_true_eq_false, if_false]
  rw [if_neg (by simp; omega)]
  simp
theorem ptext_at (A t B : List UInt8) (n : Int) (h : t.length ≤ 1000) : ptext (A ++ (Vi.text t ++ B)) ⟨(A.length : Int), n, 0⟩ = (t, ⟨((A ++ Vi.text t).length : Int), n, 0⟩) := by
  unfold ptext
  rw [if_pos rfl, ← List.append_assoc, Vi.take_text A t B 1000 (by omega) (by omega)]
  simp
theorem b1_nat (n : Nat) (h : n < 256) : (b1 n).toNat = n := UInt8.toNat_ofNat_of_lt' (by simpa using h)
theorem want_ok (b : Bool) (s : PS) (h : b = true) : want b s = s := by unfold want; rw [if_neg (by simp [h])]
theorem want_skip (b : Bool) (s : PS) (h : s.e ≠ 0) : want b s = s := by unfold want; rw [if_neg (by simp [h])]
theorem one_skip (l : List UInt8) (s : PS) (h : s.e ≠ 0) : one l s = (0, s) := by unfold one; rw [if_pos h]
theorem ptext_skip (l : List UInt8) (s : PS) (h : s.e ≠ 0) : ptext l s = ([], s) := by unfold ptext; rw [if_neg h]
/-- what a part that fits is made of -/
inductive Form : Tree → Prop
  | all : Form (.node 0 [] [] [])
  | many (o : Int) (ks : List Tree) (ho : o = 1 ∨ o = 2) (h2 : 2 ≤ ks.length) (h30 : ks.length ≤ 30) : Form (.node o [] [] ks)
  | not (k : Tree) : Form (.node 3 [] [] [k])
  | has (n : List UInt8) (h0 : n ≠ []) (h : n.length ≤ 1000) : Form (.node 4 n [] [])
  | is (n v : List UInt8) (h0 : n ≠ []) (h : n.length ≤ 1000) (hv : v.length ≤ 1000) : Form (.node 5 n v [])
  | val (o : Int) (v : List UInt8) (ho : o = 6 ∨ o = 7) (h0 : v ≠ []) (hv : v.length ≤ 1000) : Form (.node o [] v [])
theorem fits_form {t : Tree} (h : t.fits = true) : Form t := by
  obtain ⟨o, n, v, ks⟩ := t
  simp only [fits, long] at h
  by_cases h0 : o = 0
  · rw [if_pos h0] at h
    simp at h
    obtain ⟨⟨rfl, rfl⟩, rfl⟩ := h
    subst h0; exact .all
  rw [if_neg h0] at h
  by_cases h1 : o = 1 ∨ o = 2
  · rw [if_pos h1] at h
    simp at h
    obtain ⟨⟨⟨rfl, rfl⟩, h2⟩, h30⟩ := h
    exact .many o ks h1 h2 h30
  rw [if_neg h1] at h
  by_cases h3 : o = 3
  · rw [if_pos h3] at h
    simp at h
    obtain ⟨⟨rfl, rfl⟩, hk⟩ := h
    subst h3
    obtain ⟨k, rfl⟩ := List.length_eq_one_iff.1 hk
    exact .not k
  rw [if_neg h3] at h
  by_cases h4 : o = 4
  · rw [if_pos h4] at h
    simp at h
    obtain ⟨⟨⟨hn, hn2⟩, rfl⟩, rfl⟩ := h
    subst h4; exact .has n hn hn2
  rw [if_neg h4] at h
  by_cases h5 : o = 5
  · rw [if_pos h5] at h
    simp at h
    obtain ⟨⟨⟨hn, hn2⟩, hv⟩, rfl⟩ := h
    subst h5; exact .is n v hn hn2 hv
  rw [if_neg h5] at h
  by_cases h6 : o = 6 ∨ o = 7
  · rw [if_pos h6] at h
    simp at h
    obtain ⟨⟨rfl, hv0, hv⟩, rfl⟩ := h
    exact .val o v h6 hv0 hv
  rw [if_neg h6] at h; cases h

theorem phead_at (A B : List UInt8) (t : Tree) (n : Int) (hn : n + 1 ≤ 30) (h : t.fits = true) :
    phead (A ++ (headb t ++ B)) true ⟨(A.length : Int), n, 0⟩ = ⟨t.op, (t.kids.length : Int), t.name, t.value, ⟨((A ++ headb t).length : Int), n + 1, 0⟩⟩ := by
  cases fits_form h with
  | all =>
    have h1 := one_at A 0 B n
    have e : A ++ (headb (.node 0 [] [] []) ++ B) = A ++ 0 :: B := by simp [headb]; rfl
    have e4 : A ++ headb (.node 0 [] [] []) = A ++ [0] := by simp [headb]; rfl
    rw [e, e4]
    unfold phead
    simp [h1, want_ok, hn, op, name, value, kids]
  | many o ks ho h2 h30 =>
    have hb : (b1 ks.length).toNat = ks.length := b1_nat _ (by omega)
    have ho2 : (b1 o.toNat).toNat = o.toNat := b1_nat _ (by omega)
    have h1 := one_at A (b1 o.toNat) (b1 ks.length :: B) n
    have h3 := one_at (A ++ [b1 o.toNat]) (b1 ks.length) B (n + 1)
    rw [ho2, show ((o.toNat : Nat) : Int) = o by omega] at h1
    rw [hb] at h3
    have e : A ++ (headb (.node o [] [] ks) ++ B) = A ++ b1 o.toNat :: b1 ks.length :: B := by
      simp only [headb, if_pos ho, if_neg (show ¬ (o = 5 ∨ o = 6 ∨ o = 7) by omega)]; simp
    have e3 : A ++ [b1 o.toNat] ++ b1 ks.length :: B = A ++ b1 o.toNat :: b1 ks.length :: B := by simp
    have e4 : A ++ headb (.node o [] [] ks) = A ++ [b1 o.toNat] ++ [b1 ks.length] := by
      simp only [headb, if_pos ho, if_neg (show ¬ (o = 5 ∨ o = 6 ∨ o = 7) by omega)]; simp
    rw [e3] at h3
    rw [e, e4]
    unfold phead
    simp only [h1, op, name, value, kids]
    have w1 : (true && decide (n + 1 ≤ 30) && decide (o ≤ 7)) = true := by simp; omega
    rw [want_ok _ _ w1]
    simp only [if_pos ho, h3]
    have w2 : (decide ((2 : Int) ≤ (ks.length : Int)) && decide ((ks.length : Int) ≤ 30)) = true := by simp; omega
    rw [want_ok _ _ w2, if_neg (show ¬ (o = 4 ∨ o = 5) by omega), if_neg (show ¬ (o = 5 ∨ o = 6 ∨ o = 7) by omega)]
  | not k =>
    have h1 := one_at A 3 B n
    have e : A ++ (headb (.node 3 [] [] [k]) ++ B) = A ++ 3 :: B := by simp [headb]; rfl
    have e4 : A ++ headb (.node 3 [] [] [k]) = A ++ [3] := by simp [headb]; rfl
    rw [e, e4]
    unfold phead
    simp [h1, want_ok, hn, op, name, value, kids]
  | has nm h0 hl =>
    have h1 := one_at A 4 (Vi.text nm ++ B) n
    have h3 := ptext_at (A ++ [4]) nm B (n + 1) hl
    have e : A ++ (headb (.node 4 nm [] []) ++ B) = A ++ 4 :: (Vi.text nm ++ B) := by simp [headb]; rfl
    have e4 : A ++ headb (.node 4 nm [] []) = A ++ [4] ++ Vi.text nm := by simp [headb]; rfl
    have e3 : A ++ [4] ++ (Vi.text nm ++ B) = A ++ 4 :: (Vi.text nm ++ B) := by simp
    rw [e3] at h3
    rw [e, e4]
    have w1 : (true && decide (n + 1 ≤ 30) && decide ((4 : Int) ≤ 7)) = true := by simp; omega
    have h1' : one (A ++ 4 :: (Vi.text nm ++ B)) ⟨(A.length : Int), n, 0⟩ = (4, ⟨((A ++ [4]).length : Int), n, 0⟩) := h1
    unfold phead
    simp only [h1', op, name, value, kids]
    rw [want_ok _ _ w1]
    simp only [Int.reduceEq, or_self, true_or, if_true, if_false, h3]
    simp
  | is nm v h0 hl hv =>
    have h1 := one_at A 5 (Vi.text nm ++ (Vi.text v ++ B)) n
    have h3 := ptext_at (A ++ [5]) nm (Vi.text v ++ B) (n + 1) hl
    have h5 := ptext_at (A ++ [5] ++ Vi.text nm) v B (n + 1) hv
    have e : A ++ (headb (.node 5 nm v []) ++ B) = A ++ 5 :: (Vi.text nm ++ (Vi.text v ++ B)) := by simp [headb]; rfl
    have e4 : A ++ headb (.node 5 nm v []) = A ++ [5] ++ Vi.text nm ++ Vi.text v := by simp [headb]; rfl
    have e3 : A ++ [5] ++ (Vi.text nm ++ (Vi.text v ++ B)) = A ++ 5 :: (Vi.text nm ++ (Vi.text v ++ B)) := by simp
    have e5 : A ++ [5] ++ Vi.text nm ++ (Vi.text v ++ B) = A ++ 5 :: (Vi.text nm ++ (Vi.text v ++ B)) := by simp
    rw [e3] at h3
    rw [e5] at h5
    rw [e, e4]
    have w1 : (true && decide (n + 1 ≤ 30) && decide ((5 : Int) ≤ 7)) = true := by simp; omega
    have h1' : one (A ++ 5 :: (Vi.text nm ++ (Vi.text v ++ B))) ⟨(A.length : Int), n, 0⟩ = (5, ⟨((A ++ [5]).length : Int), n, 0⟩) := h1
    unfold phead
    simp only [h1', op, name, value, kids]
    rw [want_ok _ _ w1]
    simp only [Int.reduceEq, or_self, or_true, true_or, if_true, if_false, h3, h5]
    simp
  | val o v ho h0 hv =>
    have ho2 : (b1 o.toNat).toNat = o.toNat := b1_nat _ (by omega)
    have h1 := one_at A (b1 o.toNat) (Vi.text v ++ B) n
    rw [ho2, show ((o.toNat : Nat) : Int) = o by omega] at h1
    have h3 := ptext_at (A ++ [b1 o.toNat]) v B (n + 1) hv
    have e : A ++ (headb (.node o [] v []) ++ B) = A ++ b1 o.toNat :: (Vi.text v ++ B) := by
      simp only [headb, if_neg (show ¬ (o = 1 ∨ o = 2) by omega), if_neg (show ¬ (o = 4 ∨ o = 5) by omega), if_pos (show (o = 5 ∨ o = 6 ∨ o = 7) by omega)]; simp
    have e4 : A ++ headb (.node o [] v []) = A ++ [b1 o.toNat] ++ Vi.text v := by
      simp only [headb, if_neg (show ¬ (o = 1 ∨ o = 2) by omega), if_neg (show ¬ (o = 4 ∨ o = 5) by omega), if_pos (show (o = 5 ∨ o = 6 ∨ o = 7) by omega)]; simp
    have e3 : A ++ [b1 o.toNat] ++ (Vi.text v ++ B) = A ++ b1 o.toNat :: (Vi.text v ++ B) := by simp
    rw [e3] at h3
    rw [e, e4]
    unfold phead
    simp only [h1, op, name, value, kids]
    have w1 : (true && decide (n + 1 ≤ 30) && decide (o ≤ 7)) = true := by simp; omega
    rw [want_ok _ _ w1]
    simp only [if_neg (show ¬ (o = 1 ∨ o = 2) by omega), if_neg (show ¬ o = 3 by omega), if_neg (show ¬ (o = 4 ∨ o = 5) by omega), if_pos (show (o = 5 ∨ o = 6 ∨ o = 7) by omega), h3]
    simp

theorem part_bytes : ∀ (k : Nat) (t : Tree) (A B : List UInt8) (n : Int), allp k t = true → n + t.size ≤ 30 →
    part (A ++ (t.bytes ++ B)) k ⟨(A.length : Int), n, 0⟩ = (t, ⟨((A ++ t.bytes).length : Int), n + t.size, 0⟩)
  | 0, t, A, B, n, h, _ => by simp [allp] at h
  | k + 1, t, A, B, n, h, hn => by
    simp only [allp, Bool.and_eq_true] at h
    have hsz := size_kids t
    have hp := phead_at A (bytess t.kids ++ B) t n (by have := size_pos t; omega) h.1
    have eb : A ++ (t.bytes ++ B) = A ++ (headb t ++ (bytess t.kids ++ B)) := by rw [bytes_kids]; simp
    have hk : ∀ (ts : List Tree) (A' : List UInt8) (m : Int), ts.all (allp k) = true → m + sizes ts ≤ 30 → ∀ l, l = A' ++ (bytess ts ++ B) →
        pkids (part l k) ts.length ⟨(A'.length : Int), m, 0⟩ = (ts, ⟨((A' ++ bytess ts).length : Int), m + sizes ts, 0⟩) := by
      intro ts
      induction ts with
      | nil => intro A' m _ _ l _; simp [pkids, bytess, sizes]
      | cons x ts ih =>
        intro A' m ha hm l hl
        simp only [List.all_cons, Bool.and_eq_true] at ha
        have hsx := size_pos x
        simp only [sizes] at hm ⊢
        have h1 := part_bytes k x A' (bytess ts ++ B) m ha.1 (by omega)
        have e1 : A' ++ (x.bytes ++ (bytess ts ++ B)) = l := by rw [hl]; simp [bytess]
        rw [e1] at h1
        have h2 := ih (A' ++ x.bytes) (m + x.size) ha.2 (by omega) l (by rw [hl]; simp [bytess])
        rw [List.length_cons, pkids, if_pos rfl, h1]
        simp only [h2]
        simp [bytess]
        omega
    rw [eb, part, hp]
    simp only [Int.toNat_natCast]
    have h2 := hk t.kids (A ++ headb t) (n + 1) h.2 (by omega) (A ++ (headb t ++ (bytess t.kids ++ B))) (by simp)
    rw [h2]
    simp only [← eta]
    rw [bytes_kids]
    simp
    omega
theorem parse_bytes (t : Tree) (h : t.ok = true) : parse t.bytes = (t, 0) := by
  have hk := h
  simp only [ok, Bool.and_eq_true, decide_eq_true_eq] at hk
  have hp := part_bytes 6 t [] [] 0 hk.2 (by omega)
  simp only [List.nil_append, List.append_nil, List.length_nil] at hp
  rw [show ((0 : Nat) : Int) = 0 from rfl] at hp
  unfold parse
  simp only [hp, h]
  simp [want_ok]
end Tree
end Go.Proofs.YtamiebojjinhcaaGreatDoor

namespace Go.Proofs.YtamiebojjinhcaaGreatDoor
namespace Tree

theorem one_ok {l : List UInt8} {s s1 : PS} {a : Int} (h : one l s = (a, s1)) (h0 : s1.e = 0) (hp : 0 ≤ s.at_) :
    s.e = 0 ∧ s1 = ⟨s.at_ + 1, s.n, 0⟩ ∧ 0 ≤ a ∧ a ≤ 255 ∧ s.at_ + 1 ≤ l.length ∧ seg l s.at_ (s.at_ + 1) = [b1 a.toNat] := by
  obtain ⟨p, n, e⟩ := s
  unfold one at h
  by_cases he : e = 0
  · subst he
    simp only [ne_eq, not_true_eq_false, if_false] at h
    by_cases hl : (l.length : Int) ≤ p
    · rw [if_pos hl] at h; cases h; simp at h0
    · rw [if_neg hl] at h
      cases h
      obtain ⟨q, rfl⟩ := Int.eq_ofNat_of_zero_le hp
      have hq : q < l.length := by omega
      have hlt := (l.getD q 0).toNat_lt
      refine ⟨rfl, rfl, by omega, by simp only [Int.toNat_natCast]; omega, by simp only; omega, ?_⟩
      unfold seg
      simp only [Int.toNat_natCast]
      rw [show ((q : Int) + 1 - q).toNat = 1 by omega, List.drop_eq_getElem_cons hq, List.take_succ_cons, List.take_zero]
      simp [b1, hq]
  · simp only [ne_eq, he, not_false_eq_true, if_true] at h
    cases h; exact absurd h0 he
theorem ptext_ok {l : List UInt8} {s s1 : PS} {t : List UInt8} (h : ptext l s = (t, s1)) (h0 : s1.e = 0) :
    s.e = 0 ∧ s1.n = s.n ∧ seg l s.at_ s1.at_ = Vi.text t ∧ 0 ≤ s.at_ ∧ s.at_ < s1.at_ ∧ s1.at_ ≤ l.length ∧ t.length ≤ 1000 := by
  unfold ptext at h
  by_cases he : s.e = 0
  · rw [if_pos he] at h
    cases h
    have h2 : Vi.take l s.at_ 1000 = ((Vi.take l s.at_ 1000).1, (Vi.take l s.at_ 1000).2.1, 0) := by simp only at h0; rw [← h0]
    obtain ⟨g1, g2, g3, g4, g5⟩ := Vi.take_seg h2
    exact ⟨he, rfl, g1, g2, g3, g4, by omega⟩
  · rw [if_neg he] at h; cases h; exact absurd h0 he
theorem want_ok2 {b : Bool} {s s1 : PS} (h : want b s = s1) (h0 : s1.e = 0) : s = s1 ∧ b = true := by
  unfold want at h
  split at h
  · subst h; simp at h0
  · rename_i hc
    subst h
    refine ⟨rfl, ?_⟩
    cases b
    · exact absurd ⟨h0, rfl⟩ hc
    · rfl
/-- what a part's own bytes are -/
structure HOk (l : List UInt8) (s : PS) (h : PH) : Prop where
  e0 : s.e = 0
  n1 : h.s.n = s.n + 1
  n30 : s.n + 1 ≤ 30
  lt : s.at_ < h.s.at_
  le : h.s.at_ ≤ l.length
  k0 : 0 ≤ h.kids ∧ h.kids ≤ 30
  bytes : ∀ ks : List Tree, (ks.length : Int) = h.kids → seg l s.at_ h.s.at_ = headb (.node h.op h.name h.value ks)
theorem phead_ok {l : List UInt8} {lv : Bool} {s : PS} (h0 : (phead l lv s).s.e = 0) (hp : 0 ≤ s.at_) : lv = true ∧ HOk l s (phead l lv s) := by
  unfold phead at h0 ⊢
  obtain ⟨a, s1, e1⟩ : ∃ a s1, one l s = (a, s1) := ⟨_, _, rfl⟩
  simp only [e1] at h0 ⊢
  obtain ⟨s2, e2⟩ : ∃ s2, want (lv && decide (s1.n + 1 ≤ 30) && decide (a ≤ 7)) { s1 with n := s1.n + 1 } = s2 := ⟨_, rfl⟩
  simp only [e2] at h0 ⊢
  have main : s2.e = 0 → lv = true ∧ s.e = 0 ∧ s2 = ⟨s.at_ + 1, s.n + 1, 0⟩ ∧ s.n + 1 ≤ 30 ∧ 0 ≤ a ∧ a ≤ 7 ∧ s.at_ + 1 ≤ l.length ∧ seg l s.at_ (s.at_ + 1) = [b1 a.toNat] := by
    intro hz
    obtain ⟨w1, w2⟩ := want_ok2 e2 hz
    obtain ⟨g1, g2, g3, g4, g5, g6⟩ := one_ok e1 (by rw [← w1] at hz; exact hz) hp
    simp only [Bool.and_eq_true, decide_eq_true_eq] at w2
    subst g2
    exact ⟨w2.1.1, g1, w1.symm, w2.1.2, g3, w2.2, g5, g6⟩
  by_cases h12 : a = 1 ∨ a = 2
  · have n4 : ¬ (a = 4 ∨ a = 5) := by omega
    have n5 : ¬ (a = 5 ∨ a = 6 ∨ a = 7) := by omega
    simp only [if_pos h12, if_neg n4, if_neg n5] at h0 ⊢
    obtain ⟨k, s3, e3⟩ : ∃ a s1, one l s2 = (a, s1) := ⟨_, _, rfl⟩
    simp only [e3] at h0 ⊢
    obtain ⟨w1, w2⟩ := want_ok2 rfl h0
    rw [← w1] at h0 ⊢
    have hz : s2.e = 0 := by
      by_cases h : s2.e = 0
      · exact h
      · rw [one_skip l s2 h] at e3; cases e3; exact h0
    obtain ⟨m1, m2, m3, m4, m5, m6, m7, m8⟩ := main hz
    obtain ⟨g1, g2, g3, g4, g5, g6⟩ := one_ok e3 h0 (by rw [m3]; simp only; omega)
    simp only [Bool.and_eq_true, decide_eq_true_eq] at w2
    subst m3
    simp only at g2 g5 g6
    subst g2
    refine ⟨m1, ⟨m2, rfl, m4, by simp only; omega, by simp only; omega, by simp only; omega, fun ks hk => ?_⟩⟩
    simp only at hk ⊢
    rw [← seg_append l hp (show s.at_ ≤ s.at_ + 1 by omega) (show s.at_ + 1 ≤ s.at_ + 1 + 1 by omega), m8, g6]
    simp only [headb, if_pos h12, if_neg n5, ← hk, Int.toNat_natCast]
    simp
  · simp only [if_neg h12] at h0 ⊢
    by_cases h4 : a = 4 ∨ a = 5
    · simp only [if_pos h4] at h0 ⊢
      obtain ⟨nm, s3, e3⟩ : ∃ a s1, ptext l s2 = (a, s1) := ⟨_, _, rfl⟩
      simp only [e3] at h0 ⊢
      by_cases h5 : a = 5 ∨ a = 6 ∨ a = 7
      · simp only [if_pos h5] at h0 ⊢
        obtain ⟨vl, s4, e4⟩ : ∃ a s1, ptext l s3 = (a, s1) := ⟨_, _, rfl⟩
        simp only [e4] at h0 ⊢
        obtain ⟨p1, p2, p3, p4, p5, p6, p7⟩ := ptext_ok e4 h0
        obtain ⟨q1, q2, q3, q4, q5, q6, q7⟩ := ptext_ok e3 p1
        obtain ⟨m1, m2, m3, m4, m5, m6, m7, m8⟩ := main q1
        subst m3
        simp only at q2 q3 q4 q5
        have n3 : ¬ a = 3 := by omega
        simp only [if_neg n3]
        refine ⟨m1, ⟨m2, by simp only; omega, m4, by simp only; omega, p6, by simp only; omega, fun ks hk => ?_⟩⟩
        simp only at hk ⊢
        rw [← seg_append l hp (show s.at_ ≤ s.at_ + 1 by omega) (show s.at_ + 1 ≤ s4.at_ by omega), ← seg_append l (show 0 ≤ s.at_ + 1 by omega) (Int.le_of_lt q5) (Int.le_of_lt p5), m8, q3, p3]
        simp only [headb, if_neg h12, if_pos h4, if_pos h5]
        simp
      · simp only [if_neg h5] at h0 ⊢
        obtain ⟨q1, q2, q3, q4, q5, q6, q7⟩ := ptext_ok e3 h0
        obtain ⟨m1, m2, m3, m4, m5, m6, m7, m8⟩ := main q1
        subst m3
        simp only at q2 q3 q4 q5
        have n3 : ¬ a = 3 := by omega
        simp only [if_neg n3]
        refine ⟨m1, ⟨m2, by simp only; omega, m4, by simp only; omega, q6, by simp only; omega, fun ks hk => ?_⟩⟩
        simp only at hk ⊢
        rw [← seg_append l hp (show s.at_ ≤ s.at_ + 1 by omega) (Int.le_of_lt q5), m8, q3]
        simp only [headb, if_neg h12, if_pos h4, if_neg h5]
        simp
    · simp only [if_neg h4] at h0 ⊢
      by_cases h5 : a = 5 ∨ a = 6 ∨ a = 7
      · simp only [if_pos h5] at h0 ⊢
        obtain ⟨vl, s4, e4⟩ : ∃ a s1, ptext l s2 = (a, s1) := ⟨_, _, rfl⟩
        simp only [e4] at h0 ⊢
        obtain ⟨p1, p2, p3, p4, p5, p6, p7⟩ := ptext_ok e4 h0
        obtain ⟨m1, m2, m3, m4, m5, m6, m7, m8⟩ := main p1
        subst m3
        simp only at p2 p3 p4 p5
        have n3 : ¬ a = 3 := by omega
        simp only [if_neg n3]
        refine ⟨m1, ⟨m2, by simp only; omega, m4, by simp only; omega, p6, by simp only; omega, fun ks hk => ?_⟩⟩
        simp only at hk ⊢
        rw [← seg_append l hp (show s.at_ ≤ s.at_ + 1 by omega) (Int.le_of_lt p5), m8, p3]
        simp only [headb, if_neg h12, if_neg h4, if_pos h5]
        simp
      · simp only [if_neg h5] at h0 ⊢
        obtain ⟨m1, m2, m3, m4, m5, m6, m7, m8⟩ := main h0
        subst m3
        refine ⟨m1, ⟨m2, rfl, m4, by simp only; omega, m7, by simp only; split <;> omega, fun ks hk => ?_⟩⟩
        simp only at hk ⊢
        rw [m8]
        simp only [headb, if_neg h12, if_neg h4, if_neg h5]
        simp
theorem pkids_skip (p : PS → Tree × PS) (m : Nat) {s : PS} (h : s.e ≠ 0) : pkids p m s = ([], s) := by cases m <;> simp [pkids, h]
theorem part_ok : ∀ (k : Nat) {l : List UInt8} {s s' : PS} {t : Tree}, part l k s = (t, s') → s'.e = 0 → 0 ≤ s.at_ → s.e = 0 ∧ seg l s.at_ s'.at_ = t.bytes ∧ s.at_ < s'.at_ ∧ s'.at_ ≤ l.length
  | 0, l, s, s', t, h, h0, hp => by
    rw [part] at h
    cases h
    have := (phead_ok h0 hp).1
    cases this
  | k + 1, l, s, s', t, h, h0, hp => by
    rw [part] at h
    obtain ⟨H, hH⟩ : ∃ H, phead l true s = H := ⟨_, rfl⟩
    rw [hH] at h
    have hk : ∀ (m : Nat) {s s' : PS} {ts : List Tree}, pkids (part l k) m s = (ts, s') → s'.e = 0 → 0 ≤ s.at_ → s.at_ ≤ l.length → s.e = 0 ∧ ts.length = m ∧ seg l s.at_ s'.at_ = bytess ts ∧ s.at_ ≤ s'.at_ ∧ s'.at_ ≤ l.length := by
      intro m
      induction m with
      | zero => intro s s' ts h h0 hp hle; simp [pkids] at h; obtain ⟨rfl, rfl⟩ := h; exact ⟨h0, rfl, seg_nil _ _, Int.le_refl _, hle⟩
      | succ m ih =>
        intro s s' ts h h0 hp hle
        by_cases he : s.e = 0
        · rw [pkids, if_pos he] at h
          obtain ⟨x, s1, e1⟩ : ∃ x s1, part l k s = (x, s1) := ⟨_, _, rfl⟩
          obtain ⟨xs, s2, e2⟩ : ∃ x y, pkids (part l k) m s1 = (x, y) := ⟨_, _, rfl⟩
          simp only [e1, e2] at h
          cases h
          have hz : s1.e = 0 := by
            by_cases hz : s1.e = 0
            · exact hz
            · rw [pkids_skip _ m hz] at e2; cases e2; exact h0
          obtain ⟨a1, a2, a3, a4⟩ := part_ok k e1 hz hp
          obtain ⟨b1, b2, b3, b4, b5⟩ := ih e2 h0 (by omega) a4
          refine ⟨he, by simp [b2], ?_, by omega, b5⟩
          rw [← seg_append l hp (Int.le_of_lt a3) b4, a2, b3]
          simp [bytess]
        · rw [pkids_skip _ _ he] at h; cases h; exact absurd h0 he
    obtain ⟨ts, s2, e2⟩ : ∃ x s1, pkids (part l k) H.kids.toNat H.s = (x, s1) := ⟨_, _, rfl⟩
    simp only [e2] at h
    cases h
    have hz : H.s.e = 0 := by
      by_cases hz : H.s.e = 0
      · exact hz
      · rw [pkids_skip _ _ hz] at e2; cases e2; exact h0
    have hok := (phead_ok (l := l) (lv := true) (s := s) (by rw [hH]; exact hz) hp).2
    rw [hH] at hok
    obtain ⟨a1, a2, a3, a4, a5⟩ := hk _ e2 h0 (by have := hok.lt; omega) hok.le
    have hb := hok.bytes ts (by rw [a2]; have := hok.k0; omega)
    refine ⟨hok.e0, ?_, by have := hok.lt; omega, a5⟩
    rw [bytes_kids, ← seg_append l hp (Int.le_of_lt hok.lt) a4, hb, a3]
    rfl
theorem parse_ok {l : List UInt8} {t : Tree} (h : parse l = (t, 0)) : t.ok = true ∧ l = t.bytes := by
  unfold parse at h
  obtain ⟨x, s, e⟩ : ∃ x s, part l 6 ⟨0, 0, 0⟩ = (x, s) := ⟨_, _, rfl⟩
  simp only [e] at h
  split at h
  · rename_i hz
    obtain ⟨w1, w2⟩ := want_ok2 rfl hz
    rw [← w1] at hz
    cases h
    obtain ⟨_, h2, h3, h4⟩ := part_ok 6 e hz (Int.le_refl 0)
    simp only [Bool.and_eq_true, decide_eq_true_eq] at w2
    refine ⟨w2.2, ?_⟩
    rw [← h2, w2.1]
    unfold seg
    simp
  · rename_i hz
    exact absurd (congrArg (·.2) h) hz
end Tree
end Go.Proofs.YtamiebojjinhcaaGreatDoor

namespace Go.Proofs.YtamiebojjinhcaaGreatDoor
namespace Tree

def PCut (c : Nat) (s s' : PS) : Prop := (s' = s ∧ s.at_ ≤ c) ∨ (s'.e = 2 ∧ (c : Int) < s.at_)
theorem PCut.err {c : Nat} {s s' : PS} (hc : PCut c s s') (h : s.e = 0) (h' : s'.e ≠ 0) : s'.e = 2 ∧ (c : Int) < s.at_ := by
  rcases hc with ⟨rfl, _⟩ | h2
  · exact absurd h h'
  · exact h2
end Tree
end Go.Proofs.YtamiebojjinhcaaGreatDoor

namespace Go.Proofs.YtamiebojjinhcaaGreatDoor
open Go.RowKit
namespace Tree
theorem fits_bd {t : Tree} (h : t.fits = true) : (t.op = 0 ∨ t.op = 1 ∨ t.op = 2 ∨ t.op = 3 ∨ t.op = 4 ∨ t.op = 5 ∨ t.op = 6 ∨ t.op = 7) ∧ t.name.length ≤ 1000 ∧ t.value.length ≤ 1000 ∧ t.kids.length ≤ 30 := by
  cases fits_form h with
  | all => simp [op, name, value, kids]
  | many o ks ho h2 h30 => simp [op, name, value, kids]; omega
  | not k => simp [op, name, value, kids]
  | has n h0 h => simp [op, name, value, kids]; omega
  | is n v h0 h hv => simp [op, name, value, kids]; omega
  | val o v ho h0 hv => simp [op, name, value, kids]; omega
end Tree
theorem Blk.four {w : World} {q : Nat} {t : TypeId} {a0 a1 a2 a3 : Value} (h : Blk w q t #[a0, a1, a2, a3]) : w.cell? ⟨q, 0, none⟩ = some a0 ∧ w.cell? ⟨q, 1, none⟩ = some a1 ∧ w.cell? ⟨q, 2, none⟩ = some a2 ∧ w.cell? ⟨q, 3, none⟩ = some a3 :=
  ⟨h.cell 0 _ rfl, h.cell 1 _ rfl, h.cell 2 _ rfl, h.cell 3 _ rfl⟩
end Go.Proofs.YtamiebojjinhcaaGreatDoor

namespace Go.Proofs.YtamiebojjinhcaaGreatDoor
open Go.RowKit

/-- a filter's value -/
def treeV (t : Tree) (kv : Value) : Value := .agg #[.int .i64 t.op, .string (str t.name), .string (str t.value), kv]
/-- a slice of filters -/
inductive KAt (w : World) : Value → List Tree → Prop
  | mk (ad : Option Addr) (cap : Nat) (l : List Tree) (kv : Nat → Value) (g o : Nat) (hl : l.length ≤ 9223372036854775807) (h0 : ad = none → cap = 0) (ha : l ≠ [] → ad = some ⟨g, o, none⟩)
      (hc : ∀ (j : Nat) (t : Tree), l[j]? = some t → w.cell? ⟨g, o + j * 4, none⟩ = some (.int .i64 t.op) ∧ w.cell? ⟨g, o + j * 4 + 1, none⟩ = some (.string (str t.name)) ∧ w.cell? ⟨g, o + j * 4 + 2, none⟩ = some (.string (str t.value)) ∧ w.cell? ⟨g, o + j * 4 + 3, none⟩ = some (kv j))
      (hk : ∀ (j : Nat) (t : Tree), l[j]? = some t → KAt w (kv j) t.kids) : KAt w (.slice ad l.length cap) l
theorem KAt.keeps {w w' : World} (k : Keeps w w') {v : Value} {l : List Tree} (h : KAt w v l) : KAt w' v l := by
  induction h with
  | mk ad cap l kv g o hl h0 ha hc hk ih =>
    exact .mk ad cap l kv g o hl h0 ha (fun j t hj => ⟨k.cell (hc j t hj).1, k.cell (hc j t hj).2.1, k.cell (hc j t hj).2.2.1, k.cell (hc j t hj).2.2.2⟩) ih
theorem KAt.nil (w : World) : KAt w (.slice none 0 0) [] := .mk none 0 [] (fun _ => undef) 0 0 (by simp) (fun _ => rfl) (fun h => absurd rfl h) (fun j t h => by simp at h) (fun j t h => by simp at h)
theorem KAt.form {w : World} {v : Value} {l : List Tree} (h : KAt w v l) : ∃ ad cap, v = .slice ad l.length cap := by
  cases h with
  | mk ad cap l kv g o hl h0 ha hc hk => exact ⟨ad, cap, rfl⟩
/-- how deep, counted to 100 -/
def dep (t : Tree) : Int := min 100 (t.height : Int)
end Go.Proofs.YtamiebojjinhcaaGreatDoor

namespace Go.Proofs.YtamiebojjinhcaaGreatDoor
open Go.RowKit

set_option maxRecDepth 4000 in
set_option maxHeartbeats 1600000 in
theorem size1 (N : Nat) : ∀ (t : Tree), t.size ≤ N → ∀ (kv : Value) (m : Nat) (c b : Nat) (w0 w : World), KAt w0 kv t.kids → Keeps w0 w → w0.heap.size ≤ c → b ≠ c → Blk w b 278 #[.func (.func 148) #[] #[.pointer (some ⟨c, 0, none⟩), .pointer (some ⟨b, 0, none⟩)]] → Blk w c 3 #[.int .i64 m] → m < 100 →
    Calls Tryz.prog 148 #[treeV t kv, .pointer (some ⟨c, 0, none⟩), .pointer (some ⟨b, 0, none⟩)] w fun e w' => e = .returned (.tuple #[]) ∧ Blk w' c 3 #[.int .i64 ((min 100 (m + t.size) : Nat) : Int)] ∧ Only c w w' := by
  induction N with
  | zero => intro t hN; have := Tree.size_pos t; omega
  | succ N ih =>
    intro t hN kv m c b w0 w hka hk0 hcb hbc hb hc hm
    have hsz := Tree.size_kids t
    have HSM := Lib.hid (show ∀ x ∈ t.kids, x.size ≤ N from fun x hx => by have := Tree.size_mem hx; omega)
    rw [hsz]
    obtain ⟨op, nm, vl, ks⟩ := t
    simp only [Tree.kids, treeV, Tree.op, Tree.name, Tree.value] at *
    obtain ⟨n, hn⟩ : ∃ n, ks.length = n := ⟨_, rfl⟩
    have HNN := Lib.hid hn
    cases hka with
    | mk ad cap l kvs g o hll h0 ha hcs hk =>
    have HA := Lib.hid ha
    have HC := Lib.hid hcs
    have HK := Lib.hid hk
    have HIH := Lib.hid ih
    have HM := Lib.hid hm
    rw [hn] at hll ⊢
    have hcc := hc.cell 0 _ rfl
    have hcf := hc.frozen 0
    have hcl := hc.lt
    have hne : ¬ c = w.heap.size := by omega
    clear ha hcs hk ih hN hsz hn h0
    go_enter Tryz.func148, Tryz.ntmps148
    go_wp2_with fail
    have hal0 := (Keeps.refl (w.setCell ⟨c, 0, none⟩ (.int .i64 ((m : Int) + 1)))).alloc (.cells #[.int .i64 op, .string (str nm), .string (str vl), .slice ad n cap] 27)
    have hc1 := (hc.set 0 (.int .i64 ((m : Int) + 1))).keeps hal0
    have hb1 := (hb.other ⟨c, 0, none⟩ hbc (.int .i64 ((m : Int) + 1))).keeps hal0
    have ho1 := ((Only.refl c w).set 0 (.int .i64 ((m : Int) + 1))).trans (Only.of_keeps hal0)
    go_loopw [11] (fun i wr => ∃ (j M : Nat), j ≤ n ∧ i = .int .i64 j ∧ Blk wr c 3 #[.int .i64 (M : Int)] ∧ M = min 100 (m + 1 + Tree.sizes (ks.take j)) ∧ Blk wr b 278 #[.func (.func 148) #[] #[.pointer (some ⟨c, 0, none⟩), .pointer (some ⟨b, 0, none⟩)]] ∧ Only c w wr) (fun i _ => n - (intOf i).toNat)
    case atStart => exact ⟨0, m + 1, by omega, rfl, by (rw [show ((m + 1 : Nat) : Int) = (m : Int) + 1 by omega]; exact hc1), by have := HM.out; simp [Tree.sizes]; omega, hb1, ho1⟩
    case round =>
      obtain ⟨j, M, hj, rfl, hcr, hM, hbr, hor⟩ := hrel
      have HMM := Lib.hid hM
      have hcm := hcr.cell 0 _ rfl
      have hbm := hbr.cell 0 _ rfl
      have HCR := Lib.hid hcr
      have HBR := Lib.hid hbr
      clear hM hcr hbr
      have hkr := hor.keeps hk0 hcb
      by_cases hlt : j < n
      · obtain ⟨x, hx⟩ : ∃ x, ks[j]? = some x := ⟨_, List.getElem?_eq_getElem (by rw [HNN.out]; exact hlt)⟩
        obtain rfl := HA.out (by intro e; rw [e] at hx; simp at hx)
        obtain ⟨c0, c1, c2, c3⟩ := HC.out j x hx
        have c0 := hkr.cell c0
        have c1 := hkr.cell c1
        have c2 := hkr.cell c2
        have c3 := hkr.cell c3
        have hkx := HK.out j x hx
        have HTK := Lib.hid (show Tree.sizes (ks.take (j + 1)) = Tree.sizes (ks.take j) + x.size by
          rw [List.take_add_one, hx, Option.toList, Tree.sizes_append]; simp [Tree.sizes])
        have HLE := Lib.hid (show Tree.sizes (ks.take j) ≤ Tree.sizes ks by
          have e := Tree.sizes_append (ks.take j) (ks.drop j)
          rw [List.take_append_drop] at e; omega)
        have HXS := Lib.hid (HSM.out x (List.mem_of_getElem? hx))
        obtain ⟨ad', cap', he'⟩ := hkx.form
        rw [he'] at c3 hkx
        have HKX := Lib.hid hkx
        have hcl2 := HCR.out.lt
        have hbl2 := HBR.out.lt
        have hne2 : ¬ c = wr.heap.size := by omega
        have hne3 : ¬ b = wr.heap.size := by omega
        clear he' hkx hx
        have hal := (Keeps.refl wr).alloc (.cells #[.int .i64 x.op, .string (str x.name), .string (str x.value), .slice ad' x.kids.length cap'] 27)
        by_cases h100 : 100 ≤ M
        · have hd : decide ((100 : Int) ≤ (M : Int)) = true := by simp; omega
          have hfin := Lib.hid (show M = min 100 (m + (Tree.sizes ks + 1)) by have := HMM.out; have := HLE.out; omega)
          clear h100
          go_wp2_with fail
          first | go_end0 | (refine bodyPost_ret (v := .tuple #[]) (by simp [results, Tryz.f148, go_sem]) rfl ?_)
          exact ⟨rfl, by rw [← hfin.out]; exact HCR.out.keeps hal, hor.trans (Only.of_keeps hal)⟩
        · have hd : decide ((100 : Int) ≤ (M : Int)) = false := by simp; omega
          have hM100 := Lib.hid (show M < 100 by omega)
          clear h100
          go_wp2_with fail
          refine (HIH.out x HXS.out _ M c b w0 _ HKX.out (hkr.trans hal) hcb hbc (HBR.out.keeps hal) (HCR.out.keeps hal) hM100.out).mono ?_
          rintro e w2 ⟨rfl, hc2, ho2⟩
          have hb2 := (HBR.out.keeps hal).grown ho2 (by simp; exact hbc)
          go_wp2_with fail
          exact ⟨⟨j + 1, _, by omega, by go_num, hc2, by rw [HTK.out]; have := HMM.out; have := hM100.out; omega, hb2, (hor.trans (Only.of_keeps hal)).trans ho2⟩, by simp [intOf]; omega⟩
      · obtain rfl : j = n := by omega
        have hfin := Lib.hid (show M = min 100 (m + (Tree.sizes ks + 1)) by
          have := HMM.out
          rw [List.take_of_length_le (by rw [HNN.out]; omega)] at this; omega)
        go_wp2_with fail
        go_end0
        exact ⟨rfl, by rw [← hfin.out]; exact HCR.out, hor⟩

/-- of how many parts, counted to 100 -/
def siz (t : Tree) : Int := ((min 100 t.size : Nat) : Int)
set_option maxRecDepth 4000 in
set_option maxHeartbeats 1600000 in
theorem ex_size (t : Tree) (kv : Value) (w : World) (hk : KAt w kv t.kids) :
    Calls Tryz.prog 118 #[treeV t kv] w fun e w' => e = .returned (.int .i64 (siz t)) ∧ Keeps w w' := by
  have HD := Lib.hid (fun c b w' (k : Keeps w w') hc hbc hb hcc => size1 t.size t (Nat.le_refl _) kv 0 c b w w' hk k hc hbc hb hcc (by decide))
  have hle : ((min 100 (0 + t.size) : Nat) : Int) ≤ 100 := by omega
  have hs0 : ((min 100 (0 + t.size) : Nat) : Int) = siz t := by unfold siz; congr 1; omega
  rw [hs0] at hle HD
  obtain ⟨sz, hsz⟩ : ∃ sz, siz t = sz := ⟨_, rfl⟩
  rw [hsz] at hle HD ⊢
  obtain ⟨ad, cap, rfl⟩ := hk.form
  obtain ⟨op, nm, vl, ks⟩ := t
  simp only [Tree.kids, treeV, Tree.op, Tree.name, Tree.value] at *
  clear hk hs0 hsz
  go_enter Tryz.func118, Tryz.ntmps118
  go_wp2_with fail
  have h1 := (Keeps.refl w).alloc (.cells #[.int .i64 op, .string (str nm), .string (str vl), .slice ad ks.length cap] 27)
  have h3 := (h1.alloc (.cells #[.int .i64 0] 3)).alloc (.cells #[.func (.func 148) #[] #[.pointer (some ⟨w.heap.size + 1, 0, none⟩), .pointer (some ⟨w.heap.size + 1 + 1, 0, none⟩)]] 278)
  have hbc := (Blk.new (w.alloc (.cells #[.int .i64 op, .string (str nm), .string (str vl), .slice ad ks.length cap] 27)) 3 #[.int .i64 0]).keeps ((Keeps.refl _).alloc (.cells #[.func (.func 148) #[] #[.pointer (some ⟨w.heap.size + 1, 0, none⟩), .pointer (some ⟨w.heap.size + 1 + 1, 0, none⟩)]] 278))
  have hbb := Blk.new ((w.alloc (.cells #[.int .i64 op, .string (str nm), .string (str vl), .slice ad ks.length cap] 27)).alloc (.cells #[.int .i64 0] 3)) 278 #[.func (.func 148) #[] #[.pointer (some ⟨w.heap.size + 1, 0, none⟩), .pointer (some ⟨w.heap.size + 1 + 1, 0, none⟩)]]
  rw [World.size_alloc] at hbc
  rw [World.size_alloc, World.size_alloc] at hbb
  refine (HD.out (w.heap.size + 1) (w.heap.size + 1 + 1) _ h3 (by omega) (by omega) hbb hbc).mono ?_
  rintro e w1 ⟨rfl, hc1, ho1⟩
  have hcc := hc1.cell 0 _ rfl
  go_wp2_with fail
  go_ret
  exact ⟨by first | rfl | (show Ending.returned (.int .i64 (min sz 100)) = _; rw [Int.min_eq_left hle]), ho1.keeps h3 (by omega)⟩
end Go.Proofs.YtamiebojjinhcaaGreatDoor

namespace Go.Proofs.YtamiebojjinhcaaGreatDoor
open Go.RowKit

set_option maxRecDepth 4000 in
theorem ex_long (s : List UInt8) (w : World) : Calls Tryz.prog 175 #[.string (str s)] w fun e w' => e = .returned (.bool (Tree.long s)) ∧ w = w' := by
  have hst := str_toList
  have hsz := str_size
  cases s with
  | nil =>
    go_enter Tryz.func175, Tryz.ntmps175
    go_wp2_with fail
    go_ret
    exact ⟨rfl, rfl⟩
  | cons x s =>
    obtain ⟨l, hl⟩ : ∃ l, x :: s = l := ⟨_, rfl⟩
    have hne : (l == []) = false := by subst hl; rfl
    have hne2 : l.isEmpty = false := by subst hl; rfl
    have HR := Lib.hid (show Tree.long l = decide ((l.length : Int) ≤ 1000) by unfold Tree.long; rw [hne, Bool.not_false, Bool.true_and]; exact decide_eq_decide.2 (by omega))
    rw [hl, HR.out]
    have hne3 : ¬ l = [] := by subst hl; simp
    clear hl
    go_enter Tryz.func175, Tryz.ntmps175
    go_wp2_with fail
    go_ret
    exact ⟨rfl, rfl⟩

set_option maxRecDepth 4000 in
set_option maxHeartbeats 1600000 in
theorem ex_fits (t : Tree) (kv : Value) (w : World) (hk : KAt w kv t.kids) :
    Calls Tryz.prog 149 #[treeV t kv] w fun e w' => e = .returned (.bool t.fits) ∧ Keeps w w' := by
  have hst := str_toList
  have hsz := str_size
  obtain ⟨ad, cap, rfl⟩ := hk.form
  obtain ⟨o, nm, vl, ks⟩ := t
  simp only [Tree.kids, treeV, Tree.op, Tree.name, Tree.value] at *
  clear hk
  go_enter Tryz.func149, Tryz.ntmps149
  go_wp2_with fail
  go_region
  go_wp2_with (go_at_call 175; refine (ex_long _ _).mono ?_; rintro e w1 ⟨rfl, rfl⟩)
  all_goals
    refine bodyPost_ret (results_tmp rfl _ _ _) rfl ⟨?_, ((Keeps.refl w).alloc _).drew⟩
    refine congrArg (fun b => Ending.returned (Value.bool b)) ?_
    simp_all [Tree.fits, Tree.long]
    try (first | omega | (intro g1 g2; exfalso; rename_i g; have := g g1; omega) | (rw [Bool.eq_iff_iff]; simp only [Bool.and_eq_true, decide_eq_true_eq]; omega))
end Go.Proofs.YtamiebojjinhcaaGreatDoor
