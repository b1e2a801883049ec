/-
  Which records a filter lets through, in plain words.
-/
import Derived.Test.YtojcfepbmnfflaaDoorRcSame
import Derived.Test.YtojcfepbmnfflaaDoorExV
import Derived.Test.YtojcfepbmnfflaaDoorTk
set_option linter.unusedVariables false
namespace Go.Proofs.YtojcfepbmnfflaaDoor
namespace Mt
/-- does a text begin so? -/
def pre (k v : List UInt8) : Bool := decide (v.length ≤ k.length) && (k.take v.length == v)
def has (s t : List UInt8) : Bool := decide (Tk.fold t ∈ Tk.words s)
def own (o : Int) (n v : List UInt8) (r : Rec) : Bool :=
  if o = 4 then (r.header n).2
  else if o = 5 then (r.header n).2 && (r.header n).1 == v
  else if o = 6 then !r.bare && pre r.key v
  else if o = 7 then !r.gone && has r.value v
  else true
mutual
def lets (r : Rec) : Tree → Bool
  | .node o n v ks => if o = 1 then allL r ks else if o = 2 then anyL r ks else if o = 3 then !(allL r ks) else own o n v r
def allL (r : Rec) : List Tree → Bool
  | [] => true
  | t :: ts => lets r t && allL r ts
def anyL (r : Rec) : List Tree → Bool
  | [] => false
  | t :: ts => lets r t || anyL r ts
end
theorem allL_all (r : Rec) : ∀ ks, allL r ks = ks.all (lets r)
  | [] => by simp [allL]
  | t :: ts => by simp [allL, allL_all r ts]
theorem anyL_any (r : Rec) : ∀ ks, anyL r ks = ks.any (lets r)
  | [] => by simp [anyL]
  | t :: ts => by simp [anyL, anyL_any r ts]
theorem lets_node (r : Rec) (o : Int) (n v : List UInt8) (ks : List Tree) : lets r (.node o n v ks) = if o = 1 then ks.all (lets r) else if o = 2 then ks.any (lets r) else if o = 3 then !(ks.all (lets r)) else own o n v r := by
  rw [lets, allL_all, anyL_any]
theorem not_any {r : Rec} (ks : List Tree) : ks.any (fun k => !(lets r k)) = !(ks.all (lets r)) := by
  induction ks with
  | nil => rfl
  | cons a l ih => simp [ih, Bool.not_and]
/-- Match -/
def match' (t : Tree) (r : Rec) : Bool × Int := if t.ok && r.ok then (lets r t, 0) else (false, 1)
/-- Pick -/
def pick (t : Tree) (l : List Rec) : List Rec × Int :=
  if t.ok then (if l.all Rec.ok then (l.filter (fun r => lets r t), 0) else ([], 1)) else ([], 1)
end Mt
end Go.Proofs.YtojcfepbmnfflaaDoor
