/-
  Filters, in plain words: how deep, of how many parts, which may be, their text, what is parsed.
-/
import Derived.Test.YtojcfepbmnfflaaDoorRd
set_option linter.unusedVariables false
namespace Go.Proofs.YtojcfepbmnfflaaDoor

inductive Tree where
  | node (op : Int) (name value : List UInt8) (kids : List Tree)

namespace Tree
def op : Tree → Int | .node o _ _ _ => o
def name : Tree → List UInt8 | .node _ n _ _ => n
def value : Tree → List UInt8 | .node _ _ v _ => v
def kids : Tree → List Tree | .node _ _ _ k => k
theorem eta (t : Tree) : t = .node t.op t.name t.value t.kids := by cases t; rfl
mutual
def size : Tree → Nat
  | .node _ _ _ ks => sizes ks + 1
def sizes : List Tree → Nat
  | [] => 0
  | t :: ts => size t + sizes ts
end
mutual
def height : Tree → Nat
  | .node _ _ _ ks => heights ks + 1
def heights : List Tree → Nat
  | [] => 0
  | t :: ts => max (height t) (heights ts)
end
theorem size_pos (t : Tree) : 0 < t.size := by cases t; simp [size]
theorem size_kids (t : Tree) : t.size = sizes t.kids + 1 := by cases t; simp [size, kids]
theorem height_kids (t : Tree) : t.height = heights t.kids + 1 := by cases t; simp [height, kids]
theorem sizes_append : ∀ (a b : List Tree), sizes (a ++ b) = sizes a + sizes b
  | [], b => by simp [sizes]
  | t :: a, b => by simp [sizes, sizes_append a b]; omega
theorem heights_append : ∀ (a b : List Tree), heights (a ++ b) = max (heights a) (heights b)
  | [], b => by simp [heights]
  | t :: a, b => by simp only [List.cons_append, heights, heights_append a b]; omega
theorem size_mem : ∀ {l : List Tree} {t : Tree}, t ∈ l → t.size ≤ sizes l
  | x :: l, t, h => by
    rcases List.mem_cons.1 h with rfl | h
    · simp [sizes]
    · have := size_mem h; simp [sizes]; omega
theorem height_mem : ∀ {l : List Tree} {t : Tree}, t ∈ l → t.height ≤ heights l
  | x :: l, t, h => by
    rcases List.mem_cons.1 h with rfl | h
    · simp [heights]; omega
    · have := height_mem h; simp [heights]; omega
theorem length_le_sizes : ∀ (l : List Tree), l.length ≤ sizes l
  | [] => by simp
  | t :: l => by have := length_le_sizes l; have := size_pos t; simp [sizes]; omega
theorem heights_le_sizes_aux : ∀ (n : Nat) (t : Tree), t.size ≤ n → t.height ≤ t.size
  | 0, t, h => by have := size_pos t; omega
  | n + 1, t, h => by
    rw [height_kids, size_kids]
    have hk := size_kids t
    have : ∀ l : List Tree, (∀ k ∈ l, k.size ≤ n) → heights l ≤ sizes l := by
      intro l
      induction l with
      | nil => intro _; simp [heights]
      | cons x l ih =>
        intro hl
        have h1 := heights_le_sizes_aux n x (hl x (by simp))
        have h2 := ih (fun k hk => hl k (by simp [hk]))
        simp [heights, sizes]; omega
    have := this t.kids (fun k hk' => by have := size_mem hk'; omega)
    omega

def long (s : List UInt8) : Bool := !(s == []) && decide (s.length ≤ 1000)
/-- may one part be, but for its kids? -/
def fits : Tree → Bool
  | .node o n v ks =>
  if o = 0 then n == [] && v == [] && decide (ks.length = 0)
  else if o = 1 ∨ o = 2 then n == [] && v == [] && decide (2 ≤ ks.length) && decide (ks.length ≤ 30)
  else if o = 3 then n == [] && v == [] && decide (ks.length = 1)
  else if o = 4 then long n && v == [] && decide (ks.length = 0)
  else if o = 5 then long n && decide (v.length ≤ 1000) && decide (ks.length = 0)
  else if o = 6 ∨ o = 7 then n == [] && long v && decide (ks.length = 0)
  else false
def allp : Nat → Tree → Bool
  | 0, _ => false
  | k + 1, t => t.fits && t.kids.all (allp k)
def ok (t : Tree) : Bool := decide (t.size ≤ 30) && allp 6 t
def check (t : Tree) : Int := if t.ok then 0 else 1
def b1 (n : Nat) : UInt8 := UInt8.ofNat n
def headb : Tree → List UInt8
  | .node o n v ks => b1 o.toNat :: ((if o = 1 ∨ o = 2 then [b1 ks.length] else if o = 4 ∨ o = 5 then Vi.text n else []) ++ (if o = 5 ∨ o = 6 ∨ o = 7 then Vi.text v else []))
mutual
def bytes : Tree → List UInt8
  | .node o n v ks => headb (.node o n v ks) ++ bytess ks
def bytess : List Tree → List UInt8
  | [] => []
  | t :: ts => bytes t ++ bytess ts
end
theorem bytes_kids (t : Tree) : t.bytes = headb t ++ bytess t.kids := by cases t; simp [bytes, kids]
theorem bytess_append : ∀ (a b : List Tree), bytess (a ++ b) = bytess a ++ bytess b
  | [], b => by simp [bytess]
  | t :: a, b => by simp [bytess, bytess_append a b]
def print (t : Tree) : List UInt8 × Int := if t.ok then (t.bytes, 0) else ([], 1)

/-- place, how many parts there are, error -/
structure PS where
  at_ : Int
  n : Int
  e : Int
def one (l : List UInt8) (s : PS) : Int × PS :=
  if s.e ≠ 0 then (0, s)
  else if (l.length : Int) ≤ s.at_ then (0, { s with e := 2 })
  else (((l.getD s.at_.toNat 0).toNat : Int), { s with at_ := s.at_ + 1 })
def ptext (l : List UInt8) (s : PS) : List UInt8 × PS :=
  if s.e = 0 then ((Vi.take l s.at_ 1000).1, { s with at_ := (Vi.take l s.at_ 1000).2.1, e := (Vi.take l s.at_ 1000).2.2 }) else ([], s)
def want (b : Bool) (s : PS) : PS := if s.e = 0 ∧ b = false then { s with e := 3 } else s
/-- one part's own bytes: its kind, how many kids, name, value -/
structure PH where
  op : Int
  kids : Int
  name : List UInt8
  value : List UInt8
  s : PS
def phead (l : List UInt8) (lv : Bool) (s : PS) : PH :=
  let a := one l s
  let s1 := want (lv && decide (a.2.n + 1 ≤ 30) && decide (a.1 ≤ 7)) { a.2 with n := a.2.n + 1 }
  let k := if a.1 = 1 ∨ a.1 = 2 then one l s1 else (if a.1 = 3 then 1 else 0, s1)
  let s2 := if a.1 = 1 ∨ a.1 = 2 then want (decide (2 ≤ k.1) && decide (k.1 ≤ 30)) k.2 else s1
  let nm := if a.1 = 4 ∨ a.1 = 5 then ptext l s2 else ([], s2)
  let vl := if a.1 = 5 ∨ a.1 = 6 ∨ a.1 = 7 then ptext l nm.2 else ([], nm.2)
  ⟨a.1, k.1, nm.1, vl.1, vl.2⟩
def pkids (p : PS → Tree × PS) : Nat → PS → List Tree × PS
  | 0, s => ([], s)
  | m + 1, s => if s.e = 0 then ((p s).1 :: (pkids p m (p s).2).1, (pkids p m (p s).2).2) else ([], s)
def part (l : List UInt8) : Nat → PS → Tree × PS
  | 0, s => (.node (phead l false s).op (phead l false s).name (phead l false s).value [], (phead l false s).s)
  | k + 1, s =>
    (.node (phead l true s).op (phead l true s).name (phead l true s).value (pkids (part l k) (phead l true s).kids.toNat (phead l true s).s).1, (pkids (part l k) (phead l true s).kids.toNat (phead l true s).s).2)
def none : Tree := .node 0 [] [] []
def parse (l : List UInt8) : Tree × Int :=
  let r := part l 6 ⟨0, 0, 0⟩
  let e := (want (decide (r.2.at_ = l.length) && r.1.ok) r.2).e
  if e = 0 then (r.1, 0) else (none, e)

/-! ### There and back -/
theorem one_at (A : List UInt8) (b : UInt8) (B : List UInt8) (n : Int) : one (A ++ b :: B) ⟨(A.length : Int), n, 0⟩ = ((b.toNat : Int), ⟨((A ++ [b]).length : Int), n, 0⟩) := by
  unfold one
  simp only [ne_eq, not_true_eq_false, if_false]
  rw [if_neg (by simp; omega)]
  simp
theorem ptext_at (A t B : List UInt8) (n : Int) (h : t.length ≤ 1000) : ptext (A ++ (Vi.text t ++ B)) ⟨(A.length : Int), n, 0⟩ = (t, ⟨((A ++ Vi.text t).length : Int), n, 0⟩) := by
  unfold ptext
  rw [if_pos rfl, ← List.append_assoc, Vi.take_text A t B 1000 (by omega) (by omega)]
  simp
theorem b1_nat (n : Nat) (h : n < 256) : (b1 n).toNat = n := UInt8.toNat_ofNat_of_lt' (by simpa using h)
theorem want_ok (b : Bool) (s : PS) (h : b = true) : want b s = s := by unfold want; rw [if_neg (by simp [h])]
theorem want_skip (b : Bool) (s : PS) (h : s.e ≠ 0) : want b s = s := by unfold want; rw [if_neg (by simp [h])]
theorem one_skip (l : List UInt8) (s : PS) (h : s.e ≠ 0) : one l s = (0, s) := by unfold one; rw [if_pos h]
theorem ptext_skip (l : List UInt8) (s : PS) (h : s.e ≠ 0) : ptext l s = ([], s) := by unfold ptext; rw [if_neg h]
/-- what a part that fits is made of -/
inductive Form : Tree → Prop
  | all : Form (.node 0 [] [] [])
  | many (o : Int) (ks : List Tree) (ho : o = 1 ∨ o = 2) (h2 : 2 ≤ ks.length) (h30 : ks.length ≤ 30) : Form (.node o [] [] ks)
  | not (k : Tree) : Form (.node 3 [] [] [k])
  | has (n : List UInt8) (h0 : n ≠ []) (h : n.length ≤ 1000) : Form (.node 4 n [] [])
  | is (n v : List UInt8) (h0 : n ≠ []) (h : n.length ≤ 1000) (hv : v.length ≤ 1000) : Form (.node 5 n v [])
  | val (o : Int) (v : List UInt8) (ho : o = 6 ∨ o = 7) (h0 : v ≠ []) (hv : v.length ≤ 1000) : Form (.node o [] v [])
theorem fits_form {t : Tree} (h : t.fits = true) : Form t := by
  obtain ⟨o, n, v, ks⟩ := t
  simp only [fits, long] at h
  by_cases h0 : o = 0
  · rw [if_pos h0] at h
    simp at h
    obtain ⟨⟨rfl, rfl⟩, rfl⟩ := h
    subst h0; exact .all
  rw [if_neg h0] at h
  by_cases h1 : o = 1 ∨ o = 2
  · rw [if_pos h1] at h
    simp at h
    obtain ⟨⟨⟨rfl, rfl⟩, h2⟩, h30⟩ := h
    exact .many o ks h1 h2 h30
  rw [if_neg h1] at h
  by_cases h3 : o = 3
  · rw [if_pos h3] at h
    simp at h
    obtain ⟨⟨rfl, rfl⟩, hk⟩ := h
    subst h3
    obtain ⟨k, rfl⟩ := List.length_eq_one_iff.1 hk
    exact .not k
  rw [if_neg h3] at h
  by_cases h4 : o = 4
  · rw [if_pos h4] at h
    simp at h
    obtain ⟨⟨⟨hn, hn2⟩, rfl⟩, rfl⟩ := h
    subst h4; exact .has n hn hn2
  rw [if_neg h4] at h
  by_cases h5 : o = 5
  · rw [if_pos h5] at h
    simp at h
    obtain ⟨⟨⟨hn, hn2⟩, hv⟩, rfl⟩ := h
    subst h5; exact .is n v hn hn2 hv
  rw [if_neg h5] at h
  by_cases h6 : o = 6 ∨ o = 7
  · rw [if_pos h6] at h
    simp at h
    obtain ⟨⟨rfl, hv0, hv⟩, rfl⟩ := h
    exact .val o v h6 hv0 hv
  rw [if_neg h6] at h; cases h

theorem phead_at (A B : List UInt8) (t : Tree) (n : Int) (hn : n + 1 ≤ 30) (h : t.fits = true) :
    phead (A ++ (headb t ++ B)) true ⟨(A.length : Int), n, 0⟩ = ⟨t.op, (t.kids.length : Int), t.name, t.value, ⟨((A ++ headb t).length : Int), n + 1, 0⟩⟩ := by
  cases fits_form h with
  | all =>
    have h1 := one_at A 0 B n
    have e : A ++ (headb (.node 0 [] [] []) ++ B) = A ++ 0 :: B := by simp [headb]; rfl
    have e4 : A ++ headb (.node 0 [] [] []) = A ++ [0] := by simp [headb]; rfl
    rw [e, e4]
    unfold phead
    simp [h1, want_ok, hn, op, name, value, kids]
  | many o ks ho h2 h30 =>
    have hb : (b1 ks.length).toNat = ks.length := b1_nat _ (by omega)
    have ho2 : (b1 o.toNat).toNat = o.toNat := b1_nat _ (by omega)
    have h1 := one_at A (b1 o.toNat) (b1 ks.length :: B) n
    have h3 := one_at (A ++ [b1 o.toNat]) (b1 ks.length) B (n + 1)
    rw [ho2, show ((o.toNat : Nat) : Int) = o by omega] at h1
    rw [hb] at h3
    have e : A ++ (headb (.node o [] [] ks) ++ B) = A ++ b1 o.toNat :: b1 ks.length :: B := by
      simp only [headb, if_pos ho, if_neg (show ¬ (o = 5 ∨ o = 6 ∨ o = 7) by omega)]; simp
    have e3 : A ++ [b1 o.toNat] ++ b1 ks.length :: B = A ++ b1 o.toNat :: b1 ks.length :: B := by simp
    have e4 : A ++ headb (.node o [] [] ks) = A ++ [b1 o.toNat] ++ [b1 ks.length] := by
      simp only [headb, if_pos ho, if_neg (show ¬ (o = 5 ∨ o = 6 ∨ o = 7) by omega)]; simp
    rw [e3] at h3
    rw [e, e4]
    unfold phead
    simp only [h1, op, name, value, kids]
    have w1 : (true && decide (n + 1 ≤ 30) && decide (o ≤ 7)) = true := by simp; omega
    rw [want_ok _ _ w1]
    simp only [if_pos ho, h3]
    have w2 : (decide ((2 : Int) ≤ (ks.length : Int)) && decide ((ks.length : Int) ≤ 30)) = true := by simp; omega
    rw [want_ok _ _ w2, if_neg (show ¬ (o = 4 ∨ o = 5) by omega), if_neg (show ¬ (o = 5 ∨ o = 6 ∨ o = 7) by omega)]
  | not k =>
    have h1 := one_at A 3 B n
    have e : A ++ (headb (.node 3 [] [] [k]) ++ B) = A ++ 3 :: B := by simp [headb]; rfl
    have e4 : A ++ headb (.node 3 [] [] [k]) = A ++ [3] := by simp [headb]; rfl
    rw [e, e4]
    unfold phead
    simp [h1, want_ok, hn, op, name, value, kids]
  | has nm h0 hl =>
    have h1 := one_at A 4 (Vi.text nm ++ B) n
    have h3 := ptext_at (A ++ [4]) nm B (n + 1) hl
    have e : A ++ (headb (.node 4 nm [] []) ++ B) = A ++ 4 :: (Vi.text nm ++ B) := by simp [headb]; rfl
    have e4 : A ++ headb (.node 4 nm [] []) = A ++ [4] ++ Vi.text nm := by simp [headb]; rfl
    have e3 : A ++ [4] ++ (Vi.text nm ++ B) = A ++ 4 :: (Vi.text nm ++ B) := by simp
    rw [e3] at h3
    rw [e, e4]
    have w1 : (true && decide (n + 1 ≤ 30) && decide ((4 : Int) ≤ 7)) = true := by simp; omega
    have h1' : one (A ++ 4 :: (Vi.text nm ++ B)) ⟨(A.length : Int), n, 0⟩ = (4, ⟨((A ++ [4]).length : Int), n, 0⟩) := h1
    unfold phead
    simp only [h1', op, name, value, kids]
    rw [want_ok _ _ w1]
    simp only [Int.reduceEq, or_self, true_or, if_true, if_false, h3]
    simp
  | is nm v h0 hl hv =>
    have h1 := one_at A 5 (Vi.text nm ++ (Vi.text v ++ B)) n
    have h3 := ptext_at (A ++ [5]) nm (Vi.text v ++ B) (n + 1) hl
    have h5 := ptext_at (A ++ [5] ++ Vi.text nm) v B (n + 1) hv
    have e : A ++ (headb (.node 5 nm v []) ++ B) = A ++ 5 :: (Vi.text nm ++ (Vi.text v ++ B)) := by simp [headb]; rfl
    have e4 : A ++ headb (.node 5 nm v []) = A ++ [5] ++ Vi.text nm ++ Vi.text v := by simp [headb]; rfl
    have e3 : A ++ [5] ++ (Vi.text nm ++ (Vi.text v ++ B)) = A ++ 5 :: (Vi.text nm ++ (Vi.text v ++ B)) := by simp
    have e5 : A ++ [5] ++ Vi.text nm ++ (Vi.text v ++ B) = A ++ 5 :: (Vi.text nm ++ (Vi.text v ++ B)) := by simp
    rw [e3] at h3
    rw [e5] at h5
    rw [e, e4]
    have w1 : (true && decide (n + 1 ≤ 30) && decide ((5 : Int) ≤ 7)) = true := by simp; omega
    have h1' : one (A ++ 5 :: (Vi.text nm ++ (Vi.text v ++ B))) ⟨(A.length : Int), n, 0⟩ = (5, ⟨((A ++ [5]).length : Int), n, 0⟩) := h1
    unfold phead
    simp only [h1', op, name, value, kids]
    rw [want_ok _ _ w1]
    simp only [Int.reduceEq, or_self, or_true, true_or, if_true, if_false, h3, h5]
    simp
  | val o v ho h0 hv =>
    have ho2 : (b1 o.toNat).toNat = o.toNat := b1_nat _ (by omega)
    have h1 := one_at A (b1 o.toNat) (Vi.text v ++ B) n
    rw [ho2, show ((o.toNat : Nat) : Int) = o by omega] at h1
    have h3 := ptext_at (A ++ [b1 o.toNat]) v B (n + 1) hv
    have e : A ++ (headb (.node o [] v []) ++ B) = A ++ b1 o.toNat :: (Vi.text v ++ B) := by
      simp only [headb, if_neg (show ¬ (o = 1 ∨ o = 2) by omega), if_neg (show ¬ (o = 4 ∨ o = 5) by omega), if_pos (show (o = 5 ∨ o = 6 ∨ o = 7) by omega)]; simp
    have e4 : A ++ headb (.node o [] v []) = A ++ [b1 o.toNat] ++ Vi.text v := by
      simp only [headb, if_neg (show ¬ (o = 1 ∨ o = 2) by omega), if_neg (show ¬ (o = 4 ∨ o = 5) by omega), if_pos (show (o = 5 ∨ o = 6 ∨ o = 7) by omega)]; simp
    have e3 : A ++ [b1 o.toNat] ++ (Vi.text v ++ B) = A ++ b1 o.toNat :: (Vi.text v ++ B) := by simp
    rw [e3] at h3
    rw [e, e4]
    unfold phead
    simp only [h1, op, name, value, kids]
    have w1 : (true && decide (n + 1 ≤ 30) && decide (o ≤ 7)) = true := by simp; omega
    rw [want_ok _ _ w1]
    simp only [if_neg (show ¬ (o = 1 ∨ o = 2) by omega), if_neg (show ¬ o = 3 by omega), if_neg (show ¬ (o = 4 ∨ o = 5) by omega), if_pos (show (o = 5 ∨ o = 6 ∨ o = 7) by omega), h3]
    simp

theorem part_bytes : ∀ (k : Nat) (t : Tree) (A B : List UInt8) (n : Int), allp k t = true → n + t.size ≤ 30 →
    part (A ++ (t.bytes ++ B)) k ⟨(A.length : Int), n, 0⟩ = (t, ⟨((A ++ t.bytes).length : Int), n + t.size, 0⟩)
  | 0, t, A, B, n, h, _ => by simp [allp] at h
  | k + 1, t, A, B, n, h, hn => by
    simp only [allp, Bool.and_eq_true] at h
    have hsz := size_kids t
    have hp := phead_at A (bytess t.kids ++ B) t n (by have := size_pos t; omega) h.1
    have eb : A ++ (t.bytes ++ B) = A ++ (headb t ++ (bytess t.kids ++ B)) := by rw [bytes_kids]; simp
    have hk : ∀ (ts : List Tree) (A' : List UInt8) (m : Int), ts.all (allp k) = true → m + sizes ts ≤ 30 → ∀ l, l = A' ++ (bytess ts ++ B) →
        pkids (part l k) ts.length ⟨(A'.length : Int), m, 0⟩ = (ts, ⟨((A' ++ bytess ts).length : Int), m + sizes ts, 0⟩) := by
      intro ts
      induction ts with
      | nil => intro A' m _ _ l _; simp [pkids, bytess, sizes]
      | cons x ts ih =>
        intro A' m ha hm l hl
        simp only [List.all_cons, Bool.and_eq_true] at ha
        have hsx := size_pos x
        simp only [sizes] at hm ⊢
        have h1 := part_bytes k x A' (bytess ts ++ B) m ha.1 (by omega)
        have e1 : A' ++ (x.bytes ++ (bytess ts ++ B)) = l := by rw [hl]; simp [bytess]
        rw [e1] at h1
        have h2 := ih (A' ++ x.bytes) (m + x.size) ha.2 (by omega) l (by rw [hl]; simp [bytess])
        rw [List.length_cons, pkids, if_pos rfl, h1]
        simp only [h2]
        simp [bytess]
        omega
    rw [eb, part, hp]
    simp only [Int.toNat_natCast]
    have h2 := hk t.kids (A ++ headb t) (n + 1) h.2 (by omega) (A ++ (headb t ++ (bytess t.kids ++ B))) (by simp)
    rw [h2]
    simp only [← eta]
    rw [bytes_kids]
    simp
    omega
theorem parse_bytes (t : Tree) (h : t.ok = true) : parse t.bytes = (t, 0) := by
  have hk := h
  simp only [ok, Bool.and_eq_true, decide_eq_true_eq] at hk
  have hp := part_bytes 6 t [] [] 0 hk.2 (by omega)
  simp only [List.nil_append, List.append_nil, List.length_nil] at hp
  rw [show ((0 : Nat) : Int) = 0 from rfl] at hp
  unfold parse
  simp only [hp, h]
  simp [want_ok]
theorem parse_more (t : Tree) (h : t.ok = true) (b : UInt8) : (parse (t.bytes ++ [b])).2 = 3 := by
  have hk := h
  simp only [ok, Bool.and_eq_true, decide_eq_true_eq] at hk
  have hp := part_bytes 6 t [] [b] 0 hk.2 (by omega)
  simp only [List.nil_append, List.length_nil] at hp
  rw [show ((0 : Nat) : Int) = 0 from rfl] at hp
  unfold parse
  simp only [hp]
  have : (decide ((t.bytes.length : Int) = ((t.bytes ++ [b]).length : Int)) && t.ok) = false := by rw [decide_eq_false (by simp; omega), Bool.false_and]
  rw [this]
  simp [want]
end Tree
end Go.Proofs.YtojcfepbmnfflaaDoor
