/-
  Batches and their bytes, in plain words.
  A batch in memory; its numbers: the walks.
-/
import Derived.Test.YtamiebojjinhcaaGreatDoorRc
import Derived.Test.YtamiebojjinhcaaGreatDoorVfRead
import Derived.Test.YtamiebojjinhcaaGreatDoorCrW
import Derived.Test.YtamiebojjinhcaaGreatDoorRs
set_option linter.unusedVariables false
namespace Go.Proofs.YtamiebojjinhcaaGreatDoor
structure Bat where
  base : Int
  span : Int
  prod : Int
  epoch : Int
  seq : Int
  recs : List Rec
  deriving DecidableEq
namespace Bat
def none : Bat := ⟨0, 0, 0, 0, 0, []⟩
def within (n a b : Int) : Bool := decide (a ≤ n) && decide (n ≤ b)
def who (b : Bat) : Bool := if b.prod = -1 then decide (b.epoch = -1) && decide (b.seq = -1) else within b.prod 0 1073741824 && within b.epoch 0 32768 && within b.seq 0 1073741824
def num (b : Bat) : Bool := within b.base 0 1099511627776 && within b.span 1 50 && b.who && decide (b.recs.length ≤ 50)
def nums (b : Bat) : List Int := [b.base, b.span, b.prod, b.epoch, b.seq, (b.recs.length : Int)]
def puts (l : List Int) : List UInt8 := l.flatMap Vi.put
def rbs (l : List Rec) : List UInt8 := l.flatMap Rec.bytes
def body (b : Bat) : List UInt8 := puts b.nums ++ rbs b.recs
/-- its records may be, and rise -/
def rise (last span : Int) : List Rec → Bool
  | [] => true
  | r :: l => r.ok && decide (last < r.at_) && decide (r.at_ < span) && rise r.at_ span l
def ok (b : Bat) : Bool := b.num && rise (-1) b.span b.recs && decide (b.body.length ≤ 60000)
def check (b : Bat) : Int := if b.ok then 0 else 1
def sum (l : List UInt8) : Nat := Crc.ext 0 l
def bytes (b : Bat) : List UInt8 := Vi.be 4 b.body.length ++ (Vi.be 4 (sum b.body) ++ b.body)
def enc (b : Bat) : List UInt8 × Int := if b.ok then (b.bytes, 0) else ([], 1)
/-- so many numbers from a place on -/
def gets : Nat → List UInt8 → Int → Option (List Int × Int)
  | 0, _, at_ => some ([], at_)
  | k + 1, l, at_ => if (Vi.get l at_).2.2 = 0 then (gets k l (Vi.get l at_).2.1).map (fun x => ((Vi.get l at_).1 :: x.1, x.2)) else Option.none
/-- so many records from a place on -/
def recsAt : Nat → List UInt8 → Int → Option (List Rec × Int)
  | 0, _, at_ => some ([], at_)
  | k + 1, l, at_ => if (Rec.dec l at_).2.2 = 0 then (recsAt k l (Rec.dec l at_).2.1).map (fun x => ((Rec.dec l at_).1 :: x.1, x.2)) else Option.none
/-- the batch of a body -/
def inner (l : List UInt8) : Option Bat :=
  match gets 6 l 0 with
  | some ([a, b, c, d, e, n], at_) =>
    if n < 0 ∨ 50 < n then Option.none
    else match recsAt n.toNat l at_ with
      | some (rs, to) => if to = (l.length : Int) ∧ (Bat.mk a b c d e rs).ok = true then some ⟨a, b, c, d, e, rs⟩ else Option.none
      | Option.none => Option.none
  | _ => Option.none
/-- behind the two widths: n bytes from a place on, their sum -/
def rest (l : List UInt8) (at_ n s : Int) : Bat × Int × Int :=
  if 60000 < n then (none, 0, 3)
  else if (l.length : Int) - at_ < n then (none, 0, 2)
  else if (sum ((l.drop at_.toNat).take n.toNat) : Int) ≠ s then (none, 0, 4)
  else match inner ((l.drop at_.toNat).take n.toNat) with
    | some b => (b, at_ + n, 0)
    | Option.none => (none, 0, 3)
def dec (l : List UInt8) (at_ : Int) : Bat × Int × Int :=
  if (Vi.read l at_ 4).2.2 ≠ 0 then (none, 0, (Vi.read l at_ 4).2.2)
  else if (Vi.read l (Vi.read l at_ 4).2.1 4).2.2 ≠ 0 then (none, 0, (Vi.read l (Vi.read l at_ 4).2.1 4).2.2)
  else rest l (Vi.read l (Vi.read l at_ 4).2.1 4).2.1 (Vi.read l at_ 4).1 (Vi.read l (Vi.read l at_ 4).2.1 4).1
/-- all from a place on (by fuel) -/
def scan : Nat → List UInt8 → Int → List Bat × Int
  | 0, _, at_ => ([], at_)
  | f + 1, l, at_ => if (dec l at_).2.2 = 0 then ((dec l at_).1 :: (scan f l (dec l at_).2.1).1, (scan f l (dec l at_).2.1).2) else ([], at_)

theorem rbs_append (a b : List Rec) : rbs (a ++ b) = rbs a ++ rbs b := by simp [rbs]
theorem rise_append (a b : List Rec) : ∀ (last span : Int), rise last span (a ++ b) = (rise last span a && rise ((a.map Rec.at_).getLastD last) span b) := by
  induction a with
  | nil => intro last span; simp [rise]
  | cons r a ih =>
    intro last span
    simp only [List.cons_append, rise, ih]
    cases a with
    | nil => simp [rise, Bool.and_assoc]
    | cons x a => simp [rise, Bool.and_assoc, List.getLastD]
end Bat
end Go.Proofs.YtamiebojjinhcaaGreatDoor

namespace Go.Proofs.YtamiebojjinhcaaGreatDoor
open Go.RowKit

def batV (b : Bat) (lv : Value) : Value := .agg #[.int .i64 b.base, .int .i64 b.span, .int .i64 b.prod, .int .i64 b.epoch, .int .i64 b.seq, lv]
theorem Blk.six {w : World} {q : Nat} {t : TypeId} {a0 a1 a2 a3 a4 a5 : Value} (h : Blk w q t #[a0, a1, a2, a3, a4, a5]) :
    w.cell? ⟨q, 0, none⟩ = some a0 ∧ w.cell? ⟨q, 1, none⟩ = some a1 ∧ w.cell? ⟨q, 2, none⟩ = some a2 ∧ w.cell? ⟨q, 3, none⟩ = some a3 ∧ w.cell? ⟨q, 4, none⟩ = some a4 ∧ w.cell? ⟨q, 5, none⟩ = some a5 :=
  ⟨h.cell 0 _ rfl, h.cell 1 _ rfl, h.cell 2 _ rfl, h.cell 3 _ rfl, h.cell 4 _ rfl, h.cell 5 _ rfl⟩

set_option maxRecDepth 4000 in
theorem bt_within (n a b : Int) (w : World) :
    Calls Tryz.prog 48 #[.int .i64 n, .int .i64 a, .int .i64 b] w fun e w' => e = .returned (.bool (Bat.within n a b)) ∧ Keeps w w' := by
  unfold Bat.within
  obtain ⟨c, hc⟩ : ∃ c, decide (a ≤ n) = c := ⟨_, rfl⟩
  obtain ⟨d, hd⟩ : ∃ c, decide (n ≤ b) = c := ⟨_, rfl⟩
  rw [hc, hd]
  cases c
  · go_enter Tryz.func48, Tryz.ntmps48
    go_wp2_with fail
    go_ret
    exact ⟨rfl, Keeps.refl _⟩
  · go_enter Tryz.func48, Tryz.ntmps48
    go_wp2_with fail
    go_ret
    exact ⟨rfl, Keeps.refl _⟩

set_option maxRecDepth 4000 in
set_option maxHeartbeats 1600000 in
theorem bt_whose (b : Bat) (lv : Value) (w : World) :
    Calls Tryz.prog 49 #[batV b lv] w fun e w' => e = .returned (.bool b.who) ∧ Keeps w w' := by
  have hw := fun n a b w => bt_within n a b w
  have hwho : b.who = if b.prod = -1 then decide (b.epoch = -1) && decide (b.seq = -1) else Bat.within b.prod 0 1073741824 && Bat.within b.epoch 0 32768 && Bat.within b.seq 0 1073741824 := rfl
  rw [hwho]
  clear hwho
  have hw1 := hw b.prod 0 1073741824
  have hw2 := hw b.epoch 0 32768
  have hw3 := hw b.seq 0 1073741824
  clear hw
  simp only [batV]
  have hk0 := (Keeps.refl w).alloc (.cells #[.int .i64 b.base, .int .i64 b.span, .int .i64 b.prod, .int .i64 b.epoch, .int .i64 b.seq, lv] 24)
  have hb := Blk.new w 24 #[.int .i64 b.base, .int .i64 b.span, .int .i64 b.prod, .int .i64 b.epoch, .int .i64 b.seq, lv]
  obtain ⟨c1, h1⟩ : ∃ c, Bat.within b.prod 0 1073741824 = c := ⟨_, rfl⟩
  obtain ⟨c2, h2⟩ : ∃ c, Bat.within b.epoch 0 32768 = c := ⟨_, rfl⟩
  obtain ⟨c3, h3⟩ : ∃ c, Bat.within b.seq 0 1073741824 = c := ⟨_, rfl⟩
  rw [h1] at hw1 ⊢; rw [h2] at hw2 ⊢; rw [h3] at hw3 ⊢
  have hw1 := Lib.hid hw1; have hw2 := Lib.hid hw2; have hw3 := Lib.hid hw3
  clear h1 h2 h3
  by_cases hp : b.prod = -1
  · have hp1 : (b.prod == -1) = true := by simpa using hp
    rw [if_pos hp]
    clear hp
    obtain ⟨d1, hd1⟩ : ∃ c, decide (b.epoch = -1) = c := ⟨_, rfl⟩
    obtain ⟨d2, hd2⟩ : ∃ c, decide (b.seq = -1) = c := ⟨_, rfl⟩
    have he1 : (b.epoch == -1) = d1 := by rw [← hd1]; rfl
    have he2 : (b.seq == -1) = d2 := by rw [← hd2]; rfl
    rw [hd1, hd2]
    clear hd1 hd2
    cases d1
    all_goals
      go_enter Tryz.func49, Tryz.ntmps49
      go_wp2_with fail
      go_ret
      exact ⟨rfl, hk0⟩
  · have hp1 : (b.prod == -1) = false := by simpa using hp
    rw [if_neg hp]
    clear hp
    cases c1
    · go_enter Tryz.func49, Tryz.ntmps49
      go_wp2_with fail
      refine (hw1.out _).mono ?_
      rintro e w1 ⟨rfl, hk1⟩
      go_wp2_with fail
      go_ret
      exact ⟨rfl, hk0.trans hk1⟩
    · cases c2
      · go_enter Tryz.func49, Tryz.ntmps49
        go_wp2_with fail
        refine (hw1.out _).mono ?_
        rintro e w1 ⟨rfl, hk1⟩
        obtain ⟨q0, q1, q2, q3, q4, q5⟩ := (hb.keeps hk1).six
        go_wp2_with fail
        refine (hw2.out _).mono ?_
        rintro e w2 ⟨rfl, hk2⟩
        go_wp2_with fail
        go_ret
        exact ⟨rfl, (hk0.trans hk1).trans hk2⟩
      · go_enter Tryz.func49, Tryz.ntmps49
        go_wp2_with fail
        refine (hw1.out _).mono ?_
        rintro e w1 ⟨rfl, hk1⟩
        obtain ⟨q0, q1, q2, q3, q4, q5⟩ := (hb.keeps hk1).six
        go_wp2_with fail
        refine (hw2.out _).mono ?_
        rintro e w2 ⟨rfl, hk2⟩
        obtain ⟨q0, q1, q2, q3, q4, q5⟩ := ((hb.keeps hk1).keeps hk2).six
        go_wp2_with fail
        refine (hw3.out _).mono ?_
        rintro e w3 ⟨rfl, hk3⟩
        go_wp2_with fail
        go_ret
        exact ⟨rfl, ((hk0.trans hk1).trans hk2).trans hk3⟩

set_option maxRecDepth 4000 in
set_option maxHeartbeats 1600000 in
theorem ref_who (b : Bat) (lv : Value) (w : World) :
    Calls Tryz.prog 53 #[batV b lv] w fun e w' => e = .returned (.bool b.who) ∧ Keeps w w' := by
  have hwho : b.who = if b.prod = -1 then decide (b.epoch = -1) && decide (b.seq = -1) else (decide (0 ≤ b.prod) && decide (b.prod ≤ 1073741824)) && (decide (0 ≤ b.epoch) && decide (b.epoch ≤ 32768)) && (decide (0 ≤ b.seq) && decide (b.seq ≤ 1073741824)) := rfl
  rw [hwho]
  clear hwho
  simp only [batV]
  have hk0 := (Keeps.refl w).alloc (.cells #[.int .i64 b.base, .int .i64 b.span, .int .i64 b.prod, .int .i64 b.epoch, .int .i64 b.seq, lv] 24)
  by_cases hp : b.prod = -1
  · have hp1 : (b.prod == -1) = true := by simpa using hp
    rw [if_pos hp]
    clear hp
    obtain ⟨d1, hd1⟩ : ∃ c, decide (b.epoch = -1) = c := ⟨_, rfl⟩
    obtain ⟨d2, hd2⟩ : ∃ c, decide (b.seq = -1) = c := ⟨_, rfl⟩
    have he1 : (b.epoch == -1) = d1 := by rw [← hd1]; rfl
    have he2 : (b.seq == -1) = d2 := by rw [← hd2]; rfl
    rw [hd1, hd2]
    clear hd1 hd2
    cases d1
    all_goals
      go_enter Tryz.func53, Tryz.ntmps53
      go_wp2_with fail
      go_ret
      exact ⟨rfl, hk0⟩
  · have hp1 : (b.prod == -1) = false := by simpa using hp
    rw [if_neg hp]
    clear hp
    obtain ⟨c1, h1⟩ : ∃ c, decide (0 ≤ b.prod) = c := ⟨_, rfl⟩
    obtain ⟨c2, h2⟩ : ∃ c, decide (b.prod ≤ 1073741824) = c := ⟨_, rfl⟩
    obtain ⟨c3, h3⟩ : ∃ c, decide (0 ≤ b.epoch) = c := ⟨_, rfl⟩
    obtain ⟨c4, h4⟩ : ∃ c, decide (b.epoch ≤ 32768) = c := ⟨_, rfl⟩
    obtain ⟨c5, h5⟩ : ∃ c, decide (0 ≤ b.seq) = c := ⟨_, rfl⟩
    obtain ⟨c6, h6⟩ : ∃ c, decide (b.seq ≤ 1073741824) = c := ⟨_, rfl⟩
    rw [h1, h2, h3, h4, h5, h6]
    have hcase : (c1 = false) ∨ (c1 = true ∧ c2 = false) ∨ (c1 = true ∧ c2 = true ∧ c3 = false) ∨ (c1 = true ∧ c2 = true ∧ c3 = true ∧ c4 = false) ∨ (c1 = true ∧ c2 = true ∧ c3 = true ∧ c4 = true ∧ c5 = false) ∨ (c1 = true ∧ c2 = true ∧ c3 = true ∧ c4 = true ∧ c5 = true) := by
      cases c1 <;> cases c2 <;> cases c3 <;> cases c4 <;> cases c5 <;> simp
    rcases hcase with rfl | ⟨rfl, rfl⟩ | ⟨rfl, rfl, rfl⟩ | ⟨rfl, rfl, rfl, rfl⟩ | ⟨rfl, rfl, rfl, rfl, rfl⟩ | ⟨rfl, rfl, rfl, rfl, rfl⟩
    all_goals
      go_enter Tryz.func53, Tryz.ntmps53
      go_wp2_with fail
      go_ret
      exact ⟨by simp, hk0⟩
end Go.Proofs.YtamiebojjinhcaaGreatDoor
