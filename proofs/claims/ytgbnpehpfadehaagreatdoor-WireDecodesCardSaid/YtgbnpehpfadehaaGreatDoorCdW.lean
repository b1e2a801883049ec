/-
  The codec's small methods: the walks.
-/
import Derived.Test.YtgbnpehpfadehaaGreatDoorCs
import Derived.Test.YtgbnpehpfadehaaGreatDoorRcEnc
set_option linter.unusedVariables false
namespace Go.Proofs.YtgbnpehpfadehaaGreatDoor
open Go.RowKit

theorem bad_want (b : Bool) (st : Rd.St) : decide ((Rd.want b st).2 ≠ 0) = (decide (st.2 ≠ 0) || !b) ∧ (Rd.want b st).1 = st.1 := by
  unfold Rd.want
  by_cases h : st.2 = 0 ∧ b = false
  · rw [if_pos h, h.1, h.2]; exact ⟨rfl, rfl⟩
  · rw [if_neg h]
    refine ⟨?_, rfl⟩
    cases b
    · have : st.2 ≠ 0 := fun e => h ⟨e, rfl⟩
      simp [this]
    · simp

theorem set_same {cs : Array Value} {j : Nat} {v : Value} (hj : cs[j]? = some v) : cs.setIfInBounds j v = cs := by
  apply Array.ext
  · simp
  · intro i h1 h2
    by_cases hij : j = i
    · subst hij
      obtain ⟨h3, h4⟩ := Array.getElem?_eq_some_iff.1 hj
      rw [Array.getElem_setIfInBounds_self, h4]
    · rw [Array.getElem_setIfInBounds_ne _ hij]
set_option maxRecDepth 4000 in
theorem cd_want (b : Nat) (s : List UInt8) (at_ : Int) (rd bad is : Bool) (w : World) (hr : Blk w b 81 (cdc s at_ rd bad)) :
    Calls Tryz.prog 60 #[.pointer (some ⟨b, 0, none⟩), .bool is] w fun e w' => e = .returned (.tuple #[]) ∧ Blk w' b 81 (cdc s at_ rd (bad || !is)) ∧ Only b w w' := by
  obtain ⟨⟨c0, c1, c2, c3⟩, f0, f1, f2, f3⟩ := hr.cdc
  cases bad
  · cases is
    · go_enter Tryz.func60, Tryz.ntmps60
      go_wp2_with fail
      go_end0
      exact ⟨rfl, hr.set 3 _, (Only.refl b w).set 3 _⟩
    · go_enter Tryz.func60, Tryz.ntmps60
      go_wp2_with fail
      go_end0
      exact ⟨rfl, hr.set 3 _, (Only.refl b w).set 3 _⟩
  · go_enter Tryz.func60, Tryz.ntmps60
    go_wp2_with fail
    go_end0
    exact ⟨rfl, hr.set 3 _, (Only.refl b w).set 3 _⟩

/-- what a step of the codec leaves: nothing told, the codec's block, the caller's block -/
def Did (Tq : TypeId) (w : World) (c q : Nat) (cs : Cs) (qs : Array Value) (e : Ending) (w' : World) : Prop := e = .returned (.tuple #[]) ∧ CQ Tq w c q cs qs w'

set_option maxRecDepth 4000 in
set_option maxHeartbeats 3200000 in
theorem cd_num (B : Nat) (hB : B ≤ 2 ^ 61) (cs : Cs) (hf : cs.Fine B) (lo hi n : Int) (hn : -9223372036854775808 ≤ n ∧ n ≤ 9223372036854775807) (c q o : Nat) (Tq : TypeId) (qs : Array Value) (ho : qs[o]? = some (.int .i64 n)) (hcq : c ≠ q) (w : World)
    (hc : Blk w c 81 cs.cells) (hq : Blk w q Tq qs) :
    Calls Tryz.prog 30 #[.pointer (some ⟨c, 0, none⟩), .pointer (some ⟨q, o, none⟩), .int .i64 lo, .int .i64 hi] w (Did Tq w c q (cs.num lo hi n).2 (qs.setIfInBounds o (.int .i64 (cs.num lo hi n).1))) := by
  have hqo := hq.cell o _ ho
  have hqf := hq.frozen o
  have hosz : o < qs.size := (Array.getElem?_eq_some_iff.1 ho).1
  have hqc : ¬ q = c := fun e => hcq e.symm
  have hcq' : ¬ c = q := hcq
  cases cs with
  | rd l st =>
    obtain ⟨hl, hst⟩ := hf
    have hc' : Blk w c 81 (cdc l st.1 true (decide (st.2 ≠ 0))) := hc
    obtain ⟨⟨c0, c1, c2, c3⟩, f0, f1, f2, f3⟩ := hc'.cdc
    by_cases hs : st.2 = 0
    · obtain ⟨at_, e⟩ := st
      simp only at hs c1 c2 c3 hc'
      subst hs
      have hg := get_any (str l) (by rw [str_size]; exact hl) at_ hst.1 hst.2.1
      rw [str_list] at hg
      have HE := Lib.hid (show Rd.num l (at_, 0) = ((Vi.get l at_).1, ((Vi.get l at_).2.1, (Vi.get l at_).2.2)) by unfold Rd.num; rw [if_pos rfl])
      obtain ⟨⟨x, y, z⟩, hx⟩ : ∃ g, Vi.get l at_ = g := ⟨_, rfl⟩
      rw [hx] at hg HE
      have HG := Lib.hid hg
      have hce : (decide ((0 : Int) ≠ 0)) = false := rfl
      rw [hce] at c3 hc'
      have HC := Lib.hid hc'
      have HQ := Lib.hid hq
      obtain ⟨z1, hz1⟩ : ∃ z1, (z == 0) = z1 := ⟨_, rfl⟩
      have fin : ∀ (b : Bool) (W : World), (decide (lo ≤ x) && decide (x ≤ hi)) = b → Two c q w W → Blk W c 81 (cdc l y true ((false || !z1) || !b)) → Blk W q Tq (qs.setIfInBounds o (.int .i64 x)) →
          Did Tq w c q ((Cs.rd l (at_, 0)).num lo hi n).2 (qs.setIfInBounds o (.int .i64 ((Cs.rd l (at_, 0)).num lo hi n).1)) (.returned (.tuple #[])) W := by
        intro b W hb h1 h2 h3
        have e1 : Rd.rn lo hi l (at_, 0) = (x, Rd.want b (y, z)) := by unfold Rd.rn; rw [HE.out]; simp only; rw [hb]
        refine ⟨rfl, h1, ?_, ?_⟩
        · show Blk W c _ (cdc l (Rd.rn lo hi l (at_, 0)).2.1 true (decide ((Rd.rn lo hi l (at_, 0)).2.2 ≠ 0)))
          rw [e1]
          simp only
          rw [(bad_want b (y, z)).1, (bad_want b (y, z)).2]
          have : decide (z ≠ 0) = (false || !z1) := by rw [← hz1]; by_cases h : z = 0 <;> simp [h]
          simp only
          rw [this]
          exact h2
        · show Blk W q Tq (qs.setIfInBounds o (.int .i64 (Rd.rn lo hi l (at_, 0)).1))
          rw [e1]; exact h3
      have FIN := Lib.hid fin
      clear hg hx hst hc' hq fin hce hc
      have round : ∀ (b1 b2 : Bool), decide (lo ≤ x) = b1 → (b1 = true → decide (x ≤ hi) = b2) → (b1 = false → b2 = false) → Calls Tryz.prog 30 #[.pointer (some ⟨c, 0, none⟩), .pointer (some ⟨q, o, none⟩), .int .i64 lo, .int .i64 hi] w (Did Tq w c q ((Cs.rd l (at_, 0)).num lo hi n).2 (qs.setIfInBounds o (.int .i64 ((Cs.rd l (at_, 0)).num lo hi n).1))) := by
        intro b1 b2 d1 d2 d3
        have FIN := Lib.hid (fun W => FIN.out b2 W (by
          rw [d1]
          cases b1
          · rw [d3 rfl]; rfl
          · rw [d2 rfl]; rfl))
        have D2 := Lib.hid d2
        have D3 := Lib.hid d3
        clear d2 d3
        cases b1
        all_goals
          first | obtain rfl := D3.out rfl | have d2 := D2.out rfl
          clear D2 D3
          go_enter Tryz.func30, Tryz.ntmps30
          go_wp2_with fail
          go_region_with (go_at_call 59; refine (HG.out _).mono ?_; rintro e w' ⟨rfl, rfl⟩; simp only [ret3])
          all_goals
            go_wp2_with fail
            refine (cd_want c l at_ true false z1 _ (HC.out.keeps (Keeps.refl _).drew)).mono ?_
            rintro e w1 ⟨rfl, hb1, ho1⟩
            have hq1 := (HQ.out.keeps (Keeps.refl _).drew).grown ho1 (by simp; exact hqc)
            have q1 := hq1.cell o _ ho
            have qf1 := hq1.frozen o
            obtain ⟨⟨e0, e1, e2, e3⟩, g0, g1, g2, g3⟩ := hb1.cdc
            have HB1 := Lib.hid ((hb1.other ⟨q, o, none⟩ hcq (.int .i64 x)).set 1 (.int .i64 y))
            have HQ1 := Lib.hid ((hq1.set o (.int .i64 x)).other ⟨c, 1, none⟩ hqc (.int .i64 y))
            have HT1 := Lib.hid ((((Two.of_keeps (b := c) (q := q) (Keeps.refl w).drew).trans (Two.of_only ho1)).set2 o (.int .i64 x)).set1 1 (.int .i64 y))
            clear hb1 hq1 ho1
            go_wp2_with fail
            refine (cd_want c l y true (false || !z1) _ _ HB1.out).mono ?_
            rintro e w2 ⟨rfl, hb2, ho2⟩
            go_wp2_with fail
            go_end0
            exact FIN.out _ (HT1.out.trans (Two.of_only ho2)) hb2 (HQ1.out.grown ho2 (by simp; exact hqc))
      by_cases h1 : lo ≤ x
      · exact round true (decide (x ≤ hi)) (by simpa using h1) (fun _ => rfl) (fun h => by cases h)
      · exact round false false (by simpa using h1) (fun h => by cases h) (fun _ => rfl)
    · have hd : decide (st.2 ≠ 0) = true := by simpa using hs
      have e1 : (Cs.rd l st).num lo hi n = (0, Cs.rd l st) := by show ((Rd.rn lo hi l st).1, Cs.rd l (Rd.rn lo hi l st).2) = _; rw [Rd.rn_skip lo hi l hs]
      rw [e1]
      rw [hd] at c3
      have HC := Lib.hid hc'
      have HQ := Lib.hid hq
      have HS := Lib.hid hd
      clear hs hd e1 hc' hq hst hc
      go_enter Tryz.func30, Tryz.ntmps30
      go_wp2_with fail
      go_end0
      refine ⟨rfl, (Two.refl c q w).set2 o _, ?_, HQ.out.set o _⟩
      exact HC.out.other ⟨q, o, none⟩ hcq _
  | wr s b =>
    have hc' : Blk w c 81 (cdc s 0 false b) := hc
    obtain ⟨⟨c0, c1, c2, c3⟩, f0, f1, f2, f3⟩ := hc'.cdc
    have hsl : s.length ≤ 2 ^ 61 := Nat.le_trans hf hB
    have hpl : (Vi.put n).length ≤ 10 := Cs.put_le n
    have HAP := Lib.hid (str_append s (Vi.put n))
    have hz1 : (str s).size = s.length := str_size s
    have hz2 : (str (Vi.put n)).size = (Vi.put n).length := str_size _
    have hlim : ((str s).size + (str (Vi.put n)).size : Nat) ≤ 9223372036854775807 := by rw [hz1, hz2]; omega
    have HC := Lib.hid hc'
    have HQ := Lib.hid hq
    have HN := hn
    have HP := Lib.hid (fun w => put_any n hn.1 hn.2 w)
    have HSET := Lib.hid (set_same ho)
    have round : ∀ (b1 b2 : Bool), decide (lo ≤ n) = b1 → (b1 = true → decide (n ≤ hi) = b2) → (b1 = false → b2 = false) → Calls Tryz.prog 30 #[.pointer (some ⟨c, 0, none⟩), .pointer (some ⟨q, o, none⟩), .int .i64 lo, .int .i64 hi] w (Did Tq w c q ((Cs.wr s b).num lo hi n).2 (qs.setIfInBounds o (.int .i64 ((Cs.wr s b).num lo hi n).1))) := by
      intro b1 b2 d1 d2 d3
      have FIN : Hid (∀ W, Two c q w W → Blk W c 81 (cdc (s ++ Vi.put n) 0 false (b || !b2)) → Blk W q Tq qs → Did Tq w c q ((Cs.wr s b).num lo hi n).2 (qs.setIfInBounds o (.int .i64 ((Cs.wr s b).num lo hi n).1)) (.returned (.tuple #[])) W) := Lib.hid (by
        intro W h1 h2 h3
        refine ⟨rfl, h1, ?_, ?_⟩
        · show Blk W c _ (cdc (s ++ Vi.put n) 0 false (b || !(decide (lo ≤ n) && decide (n ≤ hi))))
          have : (decide (lo ≤ n) && decide (n ≤ hi)) = b2 := by
            rw [d1]
            cases b1
            · rw [d3 rfl]; rfl
            · rw [d2 rfl]; rfl
          rw [this]
          exact h2
        · show Blk W q Tq (qs.setIfInBounds o (.int .i64 n))
          rw [HSET.out]; exact h3)
      have D2 := Lib.hid d2
      have D3 := Lib.hid d3
      clear d2 d3 hn hc' hq hc hf hB
      cases b1
      all_goals
        first | obtain rfl := D3.out rfl | have d2 := D2.out rfl
        clear D2 D3
        go_enter Tryz.func30, Tryz.ntmps30
        go_wp2_with fail
        go_region_with (go_at_call 61; refine (HP.out _).mono ?_; rintro e w1 ⟨rfl, hk1⟩; have hkk := (Keeps.refl w).drew.trans hk1; have hc1 := HC.out.keeps hkk; obtain ⟨⟨x0, x1, x2, x3⟩, y0, y1, y2, y3⟩ := hc1.cdc; have z0 := HQ.out.keeps hkk; have z1 := z0.cell o _ ho)
        all_goals
          go_wp2_with fail
          have hc2 := hc1.set 0 (.string (str s ++ str (Vi.put n)))
          rw [HAP.out] at hc2
          rw [HAP.out]
          refine (cd_want c (s ++ Vi.put n) 0 false b _ _ hc2).mono ?_
          rintro e w2 ⟨rfl, hb2, ho2⟩
          go_wp2_with fail
          go_end0
          exact FIN.out _ (((Two.of_keeps hkk).set1 0 _).trans (Two.of_only ho2)) hb2 ((z0.other ⟨c, 0, none⟩ hqc _).grown ho2 (by simp; exact hqc))
    by_cases h1 : lo ≤ n
    · exact round true (decide (n ≤ hi)) (by simpa using h1) (fun _ => rfl) (fun h => by cases h)
    · exact round false false (by simpa using h1) (fun h => by cases h) (fun _ => rfl)
end Go.Proofs.YtgbnpehpfadehaaGreatDoor
