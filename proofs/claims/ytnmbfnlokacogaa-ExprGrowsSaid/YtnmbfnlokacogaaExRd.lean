/-
  The readers of filters, their small methods: the walks.
-/
import Derived.Test.YtnmbfnlokacogaaExAll
import Derived.Test.YtnmbfnlokacogaaTxt
import Derived.Deep.RegionHeld3
import Derived.Deep.RegionWith
import Derived.Deep.DrawnRows
set_option linter.unusedVariables false
namespace Go.Proofs.Ytnmbfnlokacogaa
open Go.RowKit

namespace Tree
def wantE (is : Bool) (e : Int) (s : PS) : PS := if s.e = 0 ∧ is = false then { s with e := e } else s
theorem wantE_want (is : Bool) (s : PS) : wantE is 3 s = want is s := rfl
end Tree
/-- a reader's cells -/
def rcs (l : List UInt8) (s : Tree.PS) : Array Value := #[.string (str l), .int .i64 s.at_, .int .i64 s.n, .int .i64 s.e]
theorem Blk.rd {w : World} {b : Nat} {t : TypeId} {l : List UInt8} {s : Tree.PS} (h : Blk w b t (rcs l s)) :
    (w.cell? ⟨b, 0, none⟩ = some (.string (str l)) ∧ w.cell? ⟨b, 1, none⟩ = some (.int .i64 s.at_) ∧ w.cell? ⟨b, 2, none⟩ = some (.int .i64 s.n) ∧ w.cell? ⟨b, 3, none⟩ = some (.int .i64 s.e)) ∧ (∀ j, w.frozen? ⟨b, j, none⟩ = false) :=
  ⟨⟨h.cell 0 _ rfl, h.cell 1 _ rfl, h.cell 2 _ rfl, h.cell 3 _ rfl⟩, h.frozen⟩

set_option maxRecDepth 4000 in
theorem ex_want (b : Nat) (l : List UInt8) (s : Tree.PS) (is : Bool) (e : Int) (w : World) (hr : Blk w b 46 (rcs l s)) :
    Calls Try.prog 31 #[.pointer (some ⟨b, 0, none⟩), .bool is, .int .i64 e] w fun en w' => en = .returned (.tuple #[]) ∧ Blk w' b 46 (rcs l (Tree.wantE is e s)) ∧ Only b w w' := by
  obtain ⟨⟨c0, c1, c2, c3⟩, f⟩ := hr.rd
  have f3 := f 3
  clear f
  obtain ⟨at_, n, e0⟩ := s
  simp only at c3
  by_cases hs : e0 = 0
  · subst hs
    cases is
    · go_enter Try.func31, Try.ntmps31
      go_wp2_with fail
      go_end0
      exact ⟨rfl, hr.set 3 _, (Only.refl b w).set 3 _⟩
    · go_enter Try.func31, Try.ntmps31
      go_wp2_with fail
      go_end0
      exact ⟨rfl, hr, Only.refl _ _⟩
  · have hd : (e0 == 0) = false := by simpa using hs
    have HE := Lib.hid (show Tree.wantE is e ⟨at_, n, e0⟩ = ⟨at_, n, e0⟩ by unfold Tree.wantE; rw [if_neg (fun h => hs h.1)])
    clear hs
    go_enter Try.func31, Try.ntmps31
    go_wp2_with fail
    go_end0
    exact ⟨rfl, by rw [HE.out]; exact hr, Only.refl _ _⟩

set_option maxRecDepth 4000 in
set_option maxHeartbeats 1600000 in
theorem ex_one (b : Nat) (l : List UInt8) (hl : l.length ≤ 2 ^ 62) (s : Tree.PS) (hs : s.e = 0 → 0 ≤ s.at_ ∧ s.at_ ≤ l.length) (w : World) (hr : Blk w b 46 (rcs l s)) :
    Calls Try.prog 39 #[.pointer (some ⟨b, 0, none⟩)] w fun en w' => en = .returned (.int .i64 (Tree.one l s).1) ∧ Blk w' b 46 (rcs l (Tree.one l s).2) ∧ Only b w w' := by
  obtain ⟨⟨c0, c1, c2, c3⟩, f⟩ := hr.rd
  have hst := str_toList
  have hsz := str_size
  have HW := Lib.hid (fun is => ex_want b l s is 2)
  obtain ⟨at_, n, e⟩ := s
  simp only at c1 c2 c3 hs
  by_cases he : e = 0
  · subst he
    obtain ⟨h0, h1⟩ := hs rfl
    obtain ⟨p, rfl⟩ := Int.eq_ofNat_of_zero_le h0
    by_cases hp : p < l.length
    · have hd : decide ((p : Int) < (l.length : Int)) = true := by simpa using hp
      have HE := Lib.hid (show Tree.one l ⟨(p : Int), n, 0⟩ = (((l.getD p 0).toNat : Int), ⟨(p : Int) + 1, n, 0⟩) by
        unfold Tree.one; rw [if_neg (by simp), if_neg (by show ¬ (l.length : Int) ≤ (p : Int); omega)]; simp)
      have HV := Lib.hid (show wrap64 (((str l)[p]'(by rw [str_size]; exact hp)).toNat : Int) = ((l.getD p 0).toNat : Int) by
        have e : (str l)[p]'(by rw [str_size]; exact hp) = l.getD p 0 := by
          show l.toArray[p]'(by simpa using hp) = _
          simp [hp]
        rw [e]
        have := (l.getD p 0).toNat_lt
        unfold wrap64
        omega)
      have f1 := f 1
      have hpb : (p : Int) + 1 ≤ 9223372036854775807 := by omega
      clear f hs h0 h1
      go_enter Try.func39, Try.ntmps39
      go_wp2_with fail
      go_region_with (go_at_call 31; refine (HW.out _ _ (hr.keeps (Keeps.refl _).drew)).mono ?_; rintro e w' ⟨rfl, hr2, ho2⟩)
      all_goals
        have hr2 : Blk w' b 46 (rcs l ⟨(p : Int), n, 0⟩) := hr2
        obtain ⟨⟨c0, c1, c2, c3⟩, f⟩ := hr2.rd
        have f1 := f 1
        clear f
        go_wp2_with fail
        go_region
        all_goals
          go_wp2_with fail
          go_ret
          exact ⟨by rw [HE.out]; exact ret_i64 HV.out, by rw [HE.out]; exact hr2.set 1 (.int .i64 ((p : Int) + 1)), ((Only.of_keeps (Keeps.refl w).drew).trans ho2).trans (((Only.refl _ _).set 1 _).trans (Only.of_keeps (Keeps.refl _).drew))⟩
    · have hd : decide ((p : Int) < (l.length : Int)) = false := by simpa using hp
      have HE := Lib.hid (show Tree.one l ⟨(p : Int), n, 0⟩ = (0, ⟨(p : Int), n, 2⟩) by
        unfold Tree.one; rw [if_neg (by simp), if_pos (by show (l.length : Int) ≤ (p : Int); omega)])
      clear f hs h0 h1
      go_enter Try.func39, Try.ntmps39
      go_wp2_with fail
      go_region_with (go_at_call 31; refine (HW.out _ _ (hr.keeps (Keeps.refl _).drew)).mono ?_; rintro e w' ⟨rfl, hr2, ho2⟩)
      all_goals
        have hr2 : Blk w' b 46 (rcs l ⟨(p : Int), n, 2⟩) := hr2
        obtain ⟨⟨c0, c1, c2, c3⟩, f⟩ := hr2.rd
        clear f
        go_wp2_with fail
        go_ret
        exact ⟨by rw [HE.out]; rfl, by rw [HE.out]; exact hr2, (Only.of_keeps (Keeps.refl w).drew).trans ho2⟩
  · have HE := Lib.hid (Tree.one_skip l ⟨at_, n, e⟩ he)
    have hd : (e != 0) = true := by simpa using he
    have HWE := Lib.hid (fun is => (show Tree.wantE is 2 ⟨at_, n, e⟩ = ⟨at_, n, e⟩ by unfold Tree.wantE; rw [if_neg (fun h => he h.1)]))
    clear f hs he
    go_enter Try.func39, Try.ntmps39
    go_wp2_with fail
    go_region_with (go_at_call 31; refine (HW.out _ _ (hr.keeps (Keeps.refl _).drew)).mono ?_; rintro e w' ⟨rfl, hr2, ho2⟩)
    all_goals
      rw [HWE.out] at hr2
      obtain ⟨⟨c0, c1, c2, c3⟩, f⟩ := hr2.rd
      clear f
      go_wp2_with fail
      go_ret
      exact ⟨by rw [HE.out]; rfl, by rw [HE.out]; exact hr2, (Only.of_keeps (Keeps.refl w).drew).trans ho2⟩

set_option maxRecDepth 4000 in
set_option maxHeartbeats 1600000 in
theorem ex_text (b : Nat) (l : List UInt8) (hl : l.length ≤ 2 ^ 62) (s : Tree.PS) (hs : s.e = 0 → 0 ≤ s.at_ ∧ s.at_ ≤ l.length) (w : World) (hr : Blk w b 46 (rcs l s)) :
    Calls Try.prog 40 #[.pointer (some ⟨b, 0, none⟩)] w fun e w' => e = .returned (.string (str (Tree.ptext l s).1)) ∧ Blk w' b 46 (rcs l (Tree.ptext l s).2) ∧ Only b w w' := by
  obtain ⟨⟨c0, c1, c2, c3⟩, f⟩ := hr.rd
  have f1 := f 1
  have f3 := f 3
  obtain ⟨at_, n, e⟩ := s
  simp only at c1 c2 c3 hs
  clear f
  by_cases he : e = 0
  · subst he
    have hg := take (str l) (by rw [str_size]; exact hl) at_ (by have := hs rfl; omega) (by have := hs rfl; omega) 1000
    rw [str_list] at hg
    have HE := Lib.hid (show Tree.ptext l ⟨at_, n, 0⟩ = ((Vi.take l at_ 1000).1, ⟨(Vi.take l at_ 1000).2.1, n, (Vi.take l at_ 1000).2.2⟩) by unfold Tree.ptext; rw [if_pos rfl])
    obtain ⟨⟨x, y, z⟩, hx⟩ : ∃ g, Vi.take l at_ 1000 = g := ⟨_, rfl⟩
    rw [hx] at hg HE
    have HG := Lib.hid hg
    clear hg hx hs
    go_enter Try.func40, Try.ntmps40
    go_wp2_with fail
    go_region_with (go_at_call 47; refine (HG.out _).mono ?_; rintro e w' ⟨rfl, hk⟩; simp only [retT]; have hr2 := (hr.keeps (Keeps.refl _).drew).keeps hk; have ho2 := (Only.of_keeps (b := b) (Keeps.refl w).drew).trans (Only.of_keeps hk); have c12 := hr2.rd.1.2.1; have c32 := hr2.rd.1.2.2.2; have f12 := hr2.frozen 1; have f32 := hr2.frozen 3)
    all_goals
      go_wp2_with fail
      go_ret
      exact ⟨by rw [HE.out]; rfl, by rw [HE.out]; exact (hr2.set 1 (.int .i64 y)).set 3 (.int .i64 z), (ho2.set 1 _).set 3 _⟩
  · have HE := Lib.hid (Tree.ptext_skip l ⟨at_, n, e⟩ he)
    have hd : (e == 0) = false := by simpa using he
    clear he hs
    go_enter Try.func40, Try.ntmps40
    go_wp2_with fail
    go_ret
    exact ⟨by rw [HE.out]; rfl, by rw [HE.out]; exact hr, Only.refl _ _⟩
end Go.Proofs.Ytnmbfnlokacogaa
