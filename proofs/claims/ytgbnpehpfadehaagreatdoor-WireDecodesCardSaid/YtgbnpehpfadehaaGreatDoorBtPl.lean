/-
  Batches and their bytes, in plain words.
-/
import Derived.Test.YtgbnpehpfadehaaGreatDoorRc
import Derived.Test.YtgbnpehpfadehaaGreatDoorVfRead
import Derived.Test.YtgbnpehpfadehaaGreatDoorCrW
set_option linter.unusedVariables false
namespace Go.Proofs.YtgbnpehpfadehaaGreatDoor
structure Bat where
  base : Int
  span : Int
  prod : Int
  epoch : Int
  seq : Int
  recs : List Rec
  deriving DecidableEq
namespace Bat
def none : Bat := ⟨0, 0, 0, 0, 0, []⟩
def within (n a b : Int) : Bool := decide (a ≤ n) && decide (n ≤ b)
def who (b : Bat) : Bool := if b.prod = -1 then decide (b.epoch = -1) && decide (b.seq = -1) else within b.prod 0 1073741824 && within b.epoch 0 32768 && within b.seq 0 1073741824
def num (b : Bat) : Bool := within b.base 0 1099511627776 && within b.span 1 50 && b.who && decide (b.recs.length ≤ 50)
def nums (b : Bat) : List Int := [b.base, b.span, b.prod, b.epoch, b.seq, (b.recs.length : Int)]
def puts (l : List Int) : List UInt8 := l.flatMap Vi.put
def rbs (l : List Rec) : List UInt8 := l.flatMap Rec.bytes
def body (b : Bat) : List UInt8 := puts b.nums ++ rbs b.recs
/-- its records may be, and rise -/
def rise (last span : Int) : List Rec → Bool
  | [] => true
  | r :: l => r.ok && decide (last < r.at_) && decide (r.at_ < span) && rise r.at_ span l
def ok (b : Bat) : Bool := b.num && rise (-1) b.span b.recs && decide (b.body.length ≤ 60000)
def check (b : Bat) : Int := if b.ok then 0 else 1
def sum (l : List UInt8) : Nat := Crc.ext 0 l
def bytes (b : Bat) : List UInt8 := Vi.be 4 b.body.length ++ (Vi.be 4 (sum b.body) ++ b.body)
def enc (b : Bat) : List UInt8 × Int := if b.ok then (b.bytes, 0) else ([], 1)
/-- so many numbers from a place on -/
def gets : Nat → List UInt8 → Int → Option (List Int × Int)
  | 0, _, at_ => some ([], at_)
  | k + 1, l, at_ => if (Vi.get l at_).2.2 = 0 then (gets k l (Vi.get l at_).2.1).map (fun x => ((Vi.get l at_).1 :: x.1, x.2)) else Option.none
/-- so many records from a place on -/
def recsAt : Nat → List UInt8 → Int → Option (List Rec × Int)
  | 0, _, at_ => some ([], at_)
  | k + 1, l, at_ => if (Rec.dec l at_).2.2 = 0 then (recsAt k l (Rec.dec l at_).2.1).map (fun x => ((Rec.dec l at_).1 :: x.1, x.2)) else Option.none
/-- the batch of a body -/
def inner (l : List UInt8) : Option Bat :=
  match gets 6 l 0 with
  | some ([a, b, c, d, e, n], at_) =>
    if n < 0 ∨ 50 < n then Option.none
    else match recsAt n.toNat l at_ with
      | some (rs, to) => if to = (l.length : Int) ∧ (Bat.mk a b c d e rs).ok = true then some ⟨a, b, c, d, e, rs⟩ else Option.none
      | Option.none => Option.none
  | _ => Option.none
/-- behind the two widths: n bytes from a place on, their sum -/
def rest (l : List UInt8) (at_ n s : Int) : Bat × Int × Int :=
  if 60000 < n then (none, 0, 3)
  else if (l.length : Int) - at_ < n then (none, 0, 2)
  else if (sum ((l.drop at_.toNat).take n.toNat) : Int) ≠ s then (none, 0, 4)
  else match inner ((l.drop at_.toNat).take n.toNat) with
    | some b => (b, at_ + n, 0)
    | Option.none => (none, 0, 3)
def dec (l : List UInt8) (at_ : Int) : Bat × Int × Int :=
  if (Vi.read l at_ 4).2.2 ≠ 0 then (none, 0, (Vi.read l at_ 4).2.2)
  else if (Vi.read l (Vi.read l at_ 4).2.1 4).2.2 ≠ 0 then (none, 0, (Vi.read l (Vi.read l at_ 4).2.1 4).2.2)
  else rest l (Vi.read l (Vi.read l at_ 4).2.1 4).2.1 (Vi.read l at_ 4).1 (Vi.read l (Vi.read l at_ 4).2.1 4).1
/-- all from a place on (by fuel) -/
def scan : Nat → List UInt8 → Int → List Bat × Int
  | 0, _, at_ => ([], at_)
  | f + 1, l, at_ => if (dec l at_).2.2 = 0 then ((dec l at_).1 :: (scan f l (dec l at_).2.1).1, (scan f l (dec l at_).2.1).2) else ([], at_)

theorem rbs_append (a b : List Rec) : rbs (a ++ b) = rbs a ++ rbs b := by simp [rbs]
theorem puts_append (a b : List Int) : puts (a ++ b) = puts a ++ puts b := by simp [puts]
theorem rise_append (a b : List Rec) : ∀ (last span : Int), rise last span (a ++ b) = (rise last span a && rise ((a.map Rec.at_).getLastD last) span b) := by
  induction a with
  | nil => intro last span; simp [rise]
  | cons r a ih =>
    intro last span
    simp only [List.cons_append, rise, ih]
    cases a with
    | nil => simp [rise, Bool.and_assoc]
    | cons x a => simp [rise, Bool.and_assoc, List.getLastD]
end Bat
end Go.Proofs.YtgbnpehpfadehaaGreatDoor
