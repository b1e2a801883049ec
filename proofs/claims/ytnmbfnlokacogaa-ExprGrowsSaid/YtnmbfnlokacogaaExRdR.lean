/-
  The document's reader of filters, its small methods: the walks.
-/
import Derived.Test.YtnmbfnlokacogaaExRd
set_option linter.unusedVariables false
namespace Go.Proofs.Ytnmbfnlokacogaa
open Go.RowKit

set_option maxRecDepth 4000 in
set_option maxHeartbeats 1600000 in
theorem ref_byte1 (b : Nat) (l : List UInt8) (hl : l.length ≤ 2 ^ 62) (s : Tree.PS) (hs : s.e = 0 → 0 ≤ s.at_ ∧ s.at_ ≤ l.length) (w : World) (hr : Blk w b 51 (rcs l s)) :
    Calls Try.prog 41 #[.pointer (some ⟨b, 0, none⟩)] w fun en w' => en = .returned (.int .i64 (Tree.one l s).1) ∧ Blk w' b 51 (rcs l (Tree.one l s).2) ∧ Only b w w' := by
  obtain ⟨⟨c0, c1, c2, c3⟩, f⟩ := hr.rd
  have hst := str_toList
  have hsz := str_size
  obtain ⟨at_, n, e⟩ := s
  simp only at c1 c2 c3 hs
  have f1 := f 1
  have f3 := f 3
  clear f
  by_cases he : e = 0
  · subst he
    obtain ⟨h0, h1⟩ := hs rfl
    obtain ⟨p, rfl⟩ := Int.eq_ofNat_of_zero_le h0
    by_cases hp : p < l.length
    · have hd : decide ((l.length : Int) ≤ (p : Int)) = false := by simp; omega
      have hd' : decide (l.length ≤ p) = false := by simp; omega
      have HE := Lib.hid (show Tree.one l ⟨(p : Int), n, 0⟩ = (((l.getD p 0).toNat : Int), ⟨(p : Int) + 1, n, 0⟩) by
        unfold Tree.one; rw [if_neg (by simp), if_neg (by show ¬ (l.length : Int) ≤ (p : Int); omega)]; simp)
      have HV := Lib.hid (show wrap64 (((str l)[p]'(by rw [str_size]; exact hp)).toNat : Int) = ((l.getD p 0).toNat : Int) by
        have e : (str l)[p]'(by rw [str_size]; exact hp) = l.getD p 0 := by
          show l.toArray[p]'(by simpa using hp) = _
          simp [hp]
        rw [e]
        have := (l.getD p 0).toNat_lt
        unfold wrap64
        omega)
      have hpb : (p : Int) + 1 ≤ 9223372036854775807 := by omega
      have hdk := (Keeps.refl w).drew
      clear hs h0 h1
      go_enter Try.func41, Try.ntmps41
      go_wp2_with fail
      go_region
      all_goals
        go_wp2_with fail
        go_region
        all_goals
          go_wp2_with fail
          go_ret
          exact ⟨by rw [HE.out]; exact ret_i64 HV.out, by rw [HE.out]; exact (((hr.keeps hdk).set 1 (.int .i64 ((p : Int) + 1))).keeps (Keeps.refl _).drew), ((Only.of_keeps hdk).set 1 _).trans (Only.of_keeps (Keeps.refl _).drew)⟩
    · have hd : decide ((l.length : Int) ≤ (p : Int)) = true := by simp; omega
      have hd' : decide (l.length ≤ p) = true := by simp; omega
      have HE := Lib.hid (show Tree.one l ⟨(p : Int), n, 0⟩ = (0, ⟨(p : Int), n, 2⟩) by
        unfold Tree.one; rw [if_neg (by simp), if_pos (by show (l.length : Int) ≤ (p : Int); omega)])
      have hdk := (Keeps.refl w).drew
      clear hs h0 h1
      go_enter Try.func41, Try.ntmps41
      go_wp2_with fail
      go_region
      all_goals
        go_wp2_with fail
        go_ret
        exact ⟨by rw [HE.out]; rfl, by rw [HE.out]; exact ((hr.keeps hdk).set 3 (.int .i64 2)), (Only.of_keeps hdk).set 3 _⟩
  · have HE := Lib.hid (Tree.one_skip l ⟨at_, n, e⟩ he)
    have hd : (e != 0) = true := by simpa using he
    clear hs he
    go_enter Try.func41, Try.ntmps41
    go_wp2_with fail
    go_ret
    exact ⟨by rw [HE.out]; rfl, by rw [HE.out]; exact hr, Only.refl _ _⟩

set_option maxRecDepth 4000 in
set_option maxHeartbeats 1600000 in
theorem ref_word (b : Nat) (l : List UInt8) (hl : l.length ≤ 2 ^ 62) (s : Tree.PS) (hs : s.e = 0 → 0 ≤ s.at_ ∧ s.at_ ≤ l.length) (w : World) (hr : Blk w b 51 (rcs l s)) :
    Calls Try.prog 42 #[.pointer (some ⟨b, 0, none⟩)] w fun e w' => e = .returned (.string (str (Tree.ptext l s).1)) ∧ Blk w' b 51 (rcs l (Tree.ptext l s).2) ∧ Only b w w' := by
  obtain ⟨⟨c0, c1, c2, c3⟩, f⟩ := hr.rd
  have f1 := f 1
  have f3 := f 3
  obtain ⟨at_, n, e⟩ := s
  simp only at c1 c2 c3 hs
  clear f
  by_cases he : e = 0
  · subst he
    have hg := ref_take (str l) (by rw [str_size]; exact hl) at_ (by have := hs rfl; omega) (by have := hs rfl; omega) 1000
    rw [str_list] at hg
    have HE := Lib.hid (show Tree.ptext l ⟨at_, n, 0⟩ = ((Vi.take l at_ 1000).1, ⟨(Vi.take l at_ 1000).2.1, n, (Vi.take l at_ 1000).2.2⟩) by unfold Tree.ptext; rw [if_pos rfl])
    obtain ⟨⟨x, y, z⟩, hx⟩ : ∃ g, Vi.take l at_ 1000 = g := ⟨_, rfl⟩
    rw [hx] at hg HE
    have HG := Lib.hid hg
    clear hg hx hs
    go_enter Try.func42, Try.ntmps42
    go_wp2_with fail
    go_region_with (go_at_call 48; refine (HG.out _).mono ?_; rintro e w' ⟨rfl, hk⟩; simp only [retT]; have hr2 := (hr.keeps (Keeps.refl _).drew).keeps hk; have ho2 := (Only.of_keeps (b := b) (Keeps.refl w).drew).trans (Only.of_keeps hk); have c12 := hr2.rd.1.2.1; have c32 := hr2.rd.1.2.2.2; have f12 := hr2.frozen 1; have f32 := hr2.frozen 3)
    all_goals
      go_wp2_with fail
      go_ret
      exact ⟨by rw [HE.out]; rfl, by rw [HE.out]; exact (hr2.set 3 (.int .i64 z)).set 1 (.int .i64 y), (ho2.set 3 _).set 1 _⟩
  · have HE := Lib.hid (Tree.ptext_skip l ⟨at_, n, e⟩ he)
    have hd : (e != 0) = true := by simpa using he
    clear he hs
    go_enter Try.func42, Try.ntmps42
    go_wp2_with fail
    go_ret
    exact ⟨by rw [HE.out]; rfl, by rw [HE.out]; exact hr, Only.refl _ _⟩
end Go.Proofs.Ytnmbfnlokacogaa
