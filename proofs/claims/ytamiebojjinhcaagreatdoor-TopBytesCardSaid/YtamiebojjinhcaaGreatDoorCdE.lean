/-
  The codec's small methods: the walks.
  The codec's text and plain numbers and flag: the walks.
  The codec's plain numbers and its flag: the walks.
  Is a batch none at all? The program's, and the document's: the walks.
-/
import Derived.Test.YtamiebojjinhcaaGreatDoorCs
import Derived.Test.YtamiebojjinhcaaGreatDoorRcEnc
import Derived.Test.YtamiebojjinhcaaGreatDoorBtEnc
set_option linter.unusedVariables false
namespace Go.Proofs.YtamiebojjinhcaaGreatDoor
open Go.RowKit

theorem bad_want (b : Bool) (st : Rd.St) : decide ((Rd.want b st).2 ≠ 0) = (decide (st.2 ≠ 0) || !b) ∧ (Rd.want b st).1 = st.1 := by
  unfold Rd.want
  by_cases h : st.2 = 0 ∧ b = false
  · rw [if_pos h, h.1, h.2]; exact ⟨rfl, rfl⟩
  · rw [if_neg h]
    refine ⟨?_, rfl⟩
    cases b
    · have : st.2 ≠ 0 := fun e => h ⟨e, rfl⟩
      simp [this]
    · simp

theorem set_same {cs : Array Value} {j : Nat} {v : Value} (hj : cs[j]? = some v) : cs.setIfInBounds j v = cs := by
  apply Array.ext
  · simp
  · intro i h1 h2
    by_cases hij : j = i
    · subst hij
      obtain ⟨h3, h4⟩ := Array.getElem?_eq_some_iff.1 hj
      rw [Array.getElem_setIfInBounds_self, h4]
    · rw [Array.getElem_setIfInBounds_ne _ hij]
set_option maxRecDepth 4000 in
theorem cd_want (b : Nat) (s : List UInt8) (at_ : Int) (rd bad is : Bool) (w : World) (hr : Blk w b 97 (cdc s at_ rd bad)) :
    Calls Tryz.prog 68 #[.pointer (some ⟨b, 0, none⟩), .bool is] w fun e w' => e = .returned (.tuple #[]) ∧ Blk w' b 97 (cdc s at_ rd (bad || !is)) ∧ Only b w w' := by
  obtain ⟨⟨c0, c1, c2, c3⟩, f0, f1, f2, f3⟩ := hr.cdc
  cases bad
  · cases is
    · go_enter Tryz.func68, Tryz.ntmps68
      go_wp2_with fail
      go_end0
      exact ⟨rfl, hr.set 3 _, (Only.refl b w).set 3 _⟩
    · go_enter Tryz.func68, Tryz.ntmps68
      go_wp2_with fail
      go_end0
      exact ⟨rfl, hr.set 3 _, (Only.refl b w).set 3 _⟩
  · go_enter Tryz.func68, Tryz.ntmps68
    go_wp2_with fail
    go_end0
    exact ⟨rfl, hr.set 3 _, (Only.refl b w).set 3 _⟩

/-- what a step of the codec leaves: nothing told, the codec's block, the caller's block -/
def Did (Tq : TypeId) (w : World) (c q : Nat) (cs : Cs) (qs : Array Value) (e : Ending) (w' : World) : Prop := e = .returned (.tuple #[]) ∧ CQ Tq w c q cs qs w'

set_option maxRecDepth 4000 in
set_option maxHeartbeats 3200000 in
theorem cd_num (B : Nat) (hB : B ≤ 2 ^ 61) (cs : Cs) (hf : cs.Fine B) (lo hi n : Int) (hn : -9223372036854775808 ≤ n ∧ n ≤ 9223372036854775807) (c q o : Nat) (Tq : TypeId) (qs : Array Value) (ho : qs[o]? = some (.int .i64 n)) (hcq : c ≠ q) (w : World)
    (hc : Blk w c 97 cs.cells) (hq : Blk w q Tq qs) :
    Calls Tryz.prog 39 #[.pointer (some ⟨c, 0, none⟩), .pointer (some ⟨q, o, none⟩), .int .i64 lo, .int .i64 hi] w (Did Tq w c q (cs.num lo hi n).2 (qs.setIfInBounds o (.int .i64 (cs.num lo hi n).1))) := by
  have hqo := hq.cell o _ ho
  have hqf := hq.frozen o
  have hosz : o < qs.size := (Array.getElem?_eq_some_iff.1 ho).1
  have hqc : ¬ q = c := fun e => hcq e.symm
  have hcq' : ¬ c = q := hcq
  cases cs with
  | rd l st =>
    obtain ⟨hl, hst⟩ := hf
    have hc' : Blk w c 97 (cdc l st.1 true (decide (st.2 ≠ 0))) := hc
    obtain ⟨⟨c0, c1, c2, c3⟩, f0, f1, f2, f3⟩ := hc'.cdc
    by_cases hs : st.2 = 0
    · obtain ⟨at_, e⟩ := st
      simp only at hs c1 c2 c3 hc'
      subst hs
      have hg := get_any (str l) (by rw [str_size]; exact hl) at_ hst.1 hst.2.1
      rw [str_list] at hg
      have HE := Lib.hid (show Rd.num l (at_, 0) = ((Vi.get l at_).1, ((Vi.get l at_).2.1, (Vi.get l at_).2.2)) by unfold Rd.num; rw [if_pos rfl])
      obtain ⟨⟨x, y, z⟩, hx⟩ : ∃ g, Vi.get l at_ = g := ⟨_, rfl⟩
      rw [hx] at hg HE
      have HG := Lib.hid hg
      have hce : (decide ((0 : Int) ≠ 0)) = false := rfl
      rw [hce] at c3 hc'
      have HC := Lib.hid hc'
      have HQ := Lib.hid hq
      obtain ⟨z1, hz1⟩ : ∃ z1, (z == 0) = z1 := ⟨_, rfl⟩
      have fin : ∀ (b : Bool) (W : World), (decide (lo ≤ x) && decide (x ≤ hi)) = b → Two c q w W → Blk W c 97 (cdc l y true ((false || !z1) || !b)) → Blk W q Tq (qs.setIfInBounds o (.int .i64 x)) →
          Did Tq w c q ((Cs.rd l (at_, 0)).num lo hi n).2 (qs.setIfInBounds o (.int .i64 ((Cs.rd l (at_, 0)).num lo hi n).1)) (.returned (.tuple #[])) W := by
        intro b W hb h1 h2 h3
        have e1 : Rd.rn lo hi l (at_, 0) = (x, Rd.want b (y, z)) := by unfold Rd.rn; rw [HE.out]; simp only; rw [hb]
        refine ⟨rfl, h1, ?_, ?_⟩
        · show Blk W c _ (cdc l (Rd.rn lo hi l (at_, 0)).2.1 true (decide ((Rd.rn lo hi l (at_, 0)).2.2 ≠ 0)))
          rw [e1]
          simp only
          rw [(bad_want b (y, z)).1, (bad_want b (y, z)).2]
          have : decide (z ≠ 0) = (false || !z1) := by rw [← hz1]; by_cases h : z = 0 <;> simp [h]
          simp only
          rw [this]
          exact h2
        · show Blk W q Tq (qs.setIfInBounds o (.int .i64 (Rd.rn lo hi l (at_, 0)).1))
          rw [e1]; exact h3
      have FIN := Lib.hid fin
      clear hg hx hst hc' hq fin hce hc
      have round : ∀ (b1 b2 : Bool), decide (lo ≤ x) = b1 → (b1 = true → decide (x ≤ hi) = b2) → (b1 = false → b2 = false) → Calls Tryz.prog 39 #[.pointer (some ⟨c, 0, none⟩), .pointer (some ⟨q, o, none⟩), .int .i64 lo, .int .i64 hi] w (Did Tq w c q ((Cs.rd l (at_, 0)).num lo hi n).2 (qs.setIfInBounds o (.int .i64 ((Cs.rd l (at_, 0)).num lo hi n).1))) := by
        intro b1 b2 d1 d2 d3
        have FIN := Lib.hid (fun W => FIN.out b2 W (by
          rw [d1]
          cases b1
          · rw [d3 rfl]; rfl
          · rw [d2 rfl]; rfl))
        have D2 := Lib.hid d2
        have D3 := Lib.hid d3
        clear d2 d3
        cases b1
        all_goals
          first | obtain rfl := D3.out rfl | have d2 := D2.out rfl
          clear D2 D3
          go_enter Tryz.func39, Tryz.ntmps39
          go_wp2_with fail
          go_region_with (go_at_call 67; refine (HG.out _).mono ?_; rintro e w' ⟨rfl, rfl⟩; simp only [ret3])
          all_goals
            go_wp2_with fail
            refine (cd_want c l at_ true false z1 _ (HC.out.keeps (Keeps.refl _).drew)).mono ?_
            rintro e w1 ⟨rfl, hb1, ho1⟩
            have hq1 := (HQ.out.keeps (Keeps.refl _).drew).grown ho1 (by simp; exact hqc)
            have q1 := hq1.cell o _ ho
            have qf1 := hq1.frozen o
            obtain ⟨⟨e0, e1, e2, e3⟩, g0, g1, g2, g3⟩ := hb1.cdc
            have HB1 := Lib.hid ((hb1.other ⟨q, o, none⟩ hcq (.int .i64 x)).set 1 (.int .i64 y))
            have HQ1 := Lib.hid ((hq1.set o (.int .i64 x)).other ⟨c, 1, none⟩ hqc (.int .i64 y))
            have HT1 := Lib.hid ((((Two.of_keeps (b := c) (q := q) (Keeps.refl w).drew).trans (Two.of_only ho1)).set2 o (.int .i64 x)).set1 1 (.int .i64 y))
            clear hb1 hq1 ho1
            go_wp2_with fail
            refine (cd_want c l y true (false || !z1) _ _ HB1.out).mono ?_
            rintro e w2 ⟨rfl, hb2, ho2⟩
            go_wp2_with fail
            go_end0
            exact FIN.out _ (HT1.out.trans (Two.of_only ho2)) hb2 (HQ1.out.grown ho2 (by simp; exact hqc))
      by_cases h1 : lo ≤ x
      · exact round true (decide (x ≤ hi)) (by simpa using h1) (fun _ => rfl) (fun h => by cases h)
      · exact round false false (by simpa using h1) (fun h => by cases h) (fun _ => rfl)
    · have hd : decide (st.2 ≠ 0) = true := by simpa using hs
      have e1 : (Cs.rd l st).num lo hi n = (0, Cs.rd l st) := by show ((Rd.rn lo hi l st).1, Cs.rd l (Rd.rn lo hi l st).2) = _; rw [Rd.rn_skip lo hi l hs]
      rw [e1]
      rw [hd] at c3
      have HC := Lib.hid hc'
      have HQ := Lib.hid hq
      have HS := Lib.hid hd
      clear hs hd e1 hc' hq hst hc
      go_enter Tryz.func39, Tryz.ntmps39
      go_wp2_with fail
      go_end0
      refine ⟨rfl, (Two.refl c q w).set2 o _, ?_, HQ.out.set o _⟩
      exact HC.out.other ⟨q, o, none⟩ hcq _
  | wr s b =>
    have hc' : Blk w c 97 (cdc s 0 false b) := hc
    obtain ⟨⟨c0, c1, c2, c3⟩, f0, f1, f2, f3⟩ := hc'.cdc
    have hsl : s.length ≤ 2 ^ 61 := Nat.le_trans hf hB
    have hpl : (Vi.put n).length ≤ 10 := Cs.put_le n
    have HAP := Lib.hid (str_append s (Vi.put n))
    have hz1 : (str s).size = s.length := str_size s
    have hz2 : (str (Vi.put n)).size = (Vi.put n).length := str_size _
    have hlim : ((str s).size + (str (Vi.put n)).size : Nat) ≤ 9223372036854775807 := by rw [hz1, hz2]; omega
    have HC := Lib.hid hc'
    have HQ := Lib.hid hq
    have HN := hn
    have HP := Lib.hid (fun w => put_any n hn.1 hn.2 w)
    have HSET := Lib.hid (set_same ho)
    have round : ∀ (b1 b2 : Bool), decide (lo ≤ n) = b1 → (b1 = true → decide (n ≤ hi) = b2) → (b1 = false → b2 = false) → Calls Tryz.prog 39 #[.pointer (some ⟨c, 0, none⟩), .pointer (some ⟨q, o, none⟩), .int .i64 lo, .int .i64 hi] w (Did Tq w c q ((Cs.wr s b).num lo hi n).2 (qs.setIfInBounds o (.int .i64 ((Cs.wr s b).num lo hi n).1))) := by
      intro b1 b2 d1 d2 d3
      have FIN : Hid (∀ W, Two c q w W → Blk W c 97 (cdc (s ++ Vi.put n) 0 false (b || !b2)) → Blk W q Tq qs → Did Tq w c q ((Cs.wr s b).num lo hi n).2 (qs.setIfInBounds o (.int .i64 ((Cs.wr s b).num lo hi n).1)) (.returned (.tuple #[])) W) := Lib.hid (by
        intro W h1 h2 h3
        refine ⟨rfl, h1, ?_, ?_⟩
        · show Blk W c _ (cdc (s ++ Vi.put n) 0 false (b || !(decide (lo ≤ n) && decide (n ≤ hi))))
          have : (decide (lo ≤ n) && decide (n ≤ hi)) = b2 := by
            rw [d1]
            cases b1
            · rw [d3 rfl]; rfl
            · rw [d2 rfl]; rfl
          rw [this]
          exact h2
        · show Blk W q Tq (qs.setIfInBounds o (.int .i64 n))
          rw [HSET.out]; exact h3)
      have D2 := Lib.hid d2
      have D3 := Lib.hid d3
      clear d2 d3 hn hc' hq hc hf hB
      cases b1
      all_goals
        first | obtain rfl := D3.out rfl | have d2 := D2.out rfl
        clear D2 D3
        go_enter Tryz.func39, Tryz.ntmps39
        go_wp2_with fail
        go_region_with (go_at_call 50; refine (HP.out _).mono ?_; rintro e w1 ⟨rfl, hk1⟩; have hkk := (Keeps.refl w).drew.trans hk1; have hc1 := HC.out.keeps hkk; obtain ⟨⟨x0, x1, x2, x3⟩, y0, y1, y2, y3⟩ := hc1.cdc; have z0 := HQ.out.keeps hkk; have z1 := z0.cell o _ ho)
        all_goals
          go_wp2_with fail
          have hc2 := hc1.set 0 (.string (str s ++ str (Vi.put n)))
          rw [HAP.out] at hc2
          rw [HAP.out]
          refine (cd_want c (s ++ Vi.put n) 0 false b _ _ hc2).mono ?_
          rintro e w2 ⟨rfl, hb2, ho2⟩
          go_wp2_with fail
          go_end0
          exact FIN.out _ (((Two.of_keeps hkk).set1 0 _).trans (Two.of_only ho2)) hb2 ((z0.other ⟨c, 0, none⟩ hqc _).grown ho2 (by simp; exact hqc))
    by_cases h1 : lo ≤ n
    · exact round true (decide (n ≤ hi)) (by simpa using h1) (fun _ => rfl) (fun h => by cases h)
    · exact round false false (by simpa using h1) (fun h => by cases h) (fun _ => rfl)
end Go.Proofs.YtamiebojjinhcaaGreatDoor

namespace Go.Proofs.YtamiebojjinhcaaGreatDoor
open Go.RowKit

set_option maxRecDepth 4000 in
set_option maxHeartbeats 3200000 in
theorem cd_txt (B : Nat) (hB : B ≤ 2 ^ 61) (cs : Cs) (hf : cs.Fine B) (most : Int) (t : List UInt8) (ht : t.length ≤ 2 ^ 60) (c q o : Nat) (Tq : TypeId) (qs : Array Value) (ho : qs[o]? = some (.string (str t))) (hcq : c ≠ q) (w : World)
    (hc : Blk w c 97 cs.cells) (hq : Blk w q Tq qs) :
    Calls Tryz.prog 40 #[.pointer (some ⟨c, 0, none⟩), .pointer (some ⟨q, o, none⟩), .int .i64 most] w (Did Tq w c q (cs.txt most t).2 (qs.setIfInBounds o (.string (str (cs.txt most t).1)))) := by
  have hqo := hq.cell o _ ho
  have hqf := hq.frozen o
  have hosz : o < qs.size := (Array.getElem?_eq_some_iff.1 ho).1
  have hqc : ¬ q = c := fun e => hcq e.symm
  have hcq' : ¬ c = q := hcq
  cases cs with
  | rd l st =>
    obtain ⟨hl, hst⟩ := hf
    have hc' : Blk w c 97 (cdc l st.1 true (decide (st.2 ≠ 0))) := hc
    obtain ⟨⟨c0, c1, c2, c3⟩, f0, f1, f2, f3⟩ := hc'.cdc
    by_cases hs : st.2 = 0
    · obtain ⟨at_, e⟩ := st
      simp only at hs c1 c2 c3 hc'
      subst hs
      have hg := take (str l) (by rw [str_size]; exact hl) at_ hst.1 hst.2.1 most
      rw [str_list] at hg
      have HE := Lib.hid (show Rd.txt most l (at_, 0) = ((Vi.take l at_ most).1, ((Vi.take l at_ most).2.1, (Vi.take l at_ most).2.2)) by unfold Rd.txt; rw [if_pos rfl])
      obtain ⟨⟨x, y, z⟩, hx⟩ : ∃ g, Vi.take l at_ most = g := ⟨_, rfl⟩
      rw [hx] at hg HE
      have HG := Lib.hid hg
      have hce : (decide ((0 : Int) ≠ 0)) = false := rfl
      rw [hce] at c3 hc'
      have HC := Lib.hid hc'
      have HQ := Lib.hid hq
      obtain ⟨z1, hz1⟩ : ∃ z1, (z == 0) = z1 := ⟨_, rfl⟩
      have fin : ∀ (W : World), Two c q w W → Blk W c 97 (cdc l y true (false || !z1)) → Blk W q Tq (qs.setIfInBounds o (.string (str x))) →
          Did Tq w c q ((Cs.rd l (at_, 0)).txt most t).2 (qs.setIfInBounds o (.string (str ((Cs.rd l (at_, 0)).txt most t).1))) (.returned (.tuple #[])) W := by
        intro W h1 h2 h3
        refine ⟨rfl, h1, ?_, ?_⟩
        · show Blk W c _ (cdc l (Rd.txt most l (at_, 0)).2.1 true (decide ((Rd.txt most l (at_, 0)).2.2 ≠ 0)))
          rw [HE.out]
          have : decide (z ≠ 0) = (false || !z1) := by rw [← hz1]; by_cases h : z = 0 <;> simp [h]
          simp only
          rw [this]
          exact h2
        · show Blk W q Tq (qs.setIfInBounds o (.string (str (Rd.txt most l (at_, 0)).1)))
          rw [HE.out]; exact h3
      have FIN := Lib.hid fin
      clear hg hx hst hc' hq fin hce hc
      go_enter Tryz.func40, Tryz.ntmps40
      go_wp2_with fail
      go_region_with (go_at_call 70; refine (HG.out _).mono ?_; rintro e w0 ⟨rfl, hk⟩; have hkk := (Keeps.refl w).drew.trans hk; simp only [retT])
      all_goals
        go_wp2_with fail
        refine (cd_want c l at_ true false z1 _ (HC.out.keeps hkk)).mono ?_
        rintro e w1 ⟨rfl, hb1, ho1⟩
        have hq1 := (HQ.out.keeps hkk).grown ho1 (by simp; exact hqc)
        have q1 := hq1.cell o _ ho
        have qf1 := hq1.frozen o
        obtain ⟨⟨e0, e1, e2, e3⟩, g0, g1, g2, g3⟩ := hb1.cdc
        have HB1 := Lib.hid ((hb1.other ⟨q, o, none⟩ hcq (.string (str x))).set 1 (.int .i64 y))
        have HQ1 := Lib.hid ((hq1.set o (.string (str x))).other ⟨c, 1, none⟩ hqc (.int .i64 y))
        have HT1 := Lib.hid ((((Two.of_keeps (b := c) (q := q) hkk).trans (Two.of_only ho1)).set2 o (.string (str x))).set1 1 (.int .i64 y))
        clear hb1 hq1 ho1 hkk
        go_wp2_with fail
        go_end0
        exact FIN.out _ HT1.out HB1.out HQ1.out
    · have hd : decide (st.2 ≠ 0) = true := by simpa using hs
      have e1 : (Cs.rd l st).txt most t = ([], Cs.rd l st) := by show ((Rd.txt most l st).1, Cs.rd l (Rd.txt most l st).2) = _; rw [Rd.txt_skip most l hs]
      rw [e1]
      rw [hd] at c3
      have HC := Lib.hid hc'
      have HQ := Lib.hid hq
      clear hs hd e1 hc' hq hst hc
      go_enter Tryz.func40, Tryz.ntmps40
      go_wp2_with fail
      go_end0
      refine ⟨rfl, (Two.refl c q w).set2 o _, ?_, HQ.out.set o _⟩
      exact HC.out.other ⟨q, o, none⟩ hcq _
  | wr s b =>
    have hc' : Blk w c 97 (cdc s 0 false b) := hc
    obtain ⟨⟨c0, c1, c2, c3⟩, f0, f1, f2, f3⟩ := hc'.cdc
    have hsl : s.length ≤ 2 ^ 61 := Nat.le_trans hf hB
    have hpl : (Vi.text t).length ≤ t.length + 10 := by have := Cs.put_le (t.length : Int); unfold Vi.text; rw [List.length_append]; omega
    have HAP := Lib.hid (str_append s (Vi.text t))
    have hz0 : (str t).size = t.length := str_size t
    have hz1 : (str s).size = s.length := str_size s
    have hz2 : (str (Vi.text t)).size = (Vi.text t).length := str_size _
    have hlim : ((str s).size + (str (Vi.text t)).size : Nat) ≤ 9223372036854775807 := by rw [hz1, hz2]; omega
    have HC := Lib.hid hc'
    have HQ := Lib.hid hq
    have hP := fun w => text (str t) (by rw [str_size]; omega) w
    simp only [str_list] at hP
    have HP := Lib.hid hP
    have HSET := Lib.hid (set_same ho)
    obtain ⟨b1, d1⟩ : ∃ b1, decide ((t.length : Int) ≤ most) = b1 := ⟨_, rfl⟩
    have FIN : Hid (∀ W, Two c q w W → Blk W c 97 (cdc (s ++ Vi.text t) 0 false (b || !b1)) → Blk W q Tq qs → Did Tq w c q ((Cs.wr s b).txt most t).2 (qs.setIfInBounds o (.string (str ((Cs.wr s b).txt most t).1))) (.returned (.tuple #[])) W) := Lib.hid (by
      intro W h1 h2 h3
      refine ⟨rfl, h1, ?_, ?_⟩
      · show Blk W c _ (cdc (s ++ Vi.text t) 0 false (b || !decide ((t.length : Int) ≤ most)))
        rw [d1]
        exact h2
      · show Blk W q Tq (qs.setIfInBounds o (.string (str t)))
        rw [HSET.out]; exact h3)
    clear hc' hq hc hf hB hP
    go_enter Tryz.func40, Tryz.ntmps40
    go_wp2_with fail
    refine (cd_want c s 0 false b b1 _ HC.out).mono ?_
    rintro e w0 ⟨rfl, hb0, ho0⟩
    have hq0 := HQ.out.grown ho0 (by simp; exact hqc)
    have q0 := hq0.cell o _ ho
    obtain ⟨⟨u0, u1, u2, u3⟩, v0, v1, v2, v3⟩ := hb0.cdc
    have HB0 := Lib.hid hb0
    have HQ0 := Lib.hid hq0
    have HT0 := Lib.hid (Two.of_only (q := q) ho0)
    clear hb0 hq0 ho0 d1
    go_wp2_with fail
    go_region_with (go_at_call 69; refine (HP.out _).mono ?_; rintro e w1 ⟨rfl, hk1⟩; have hkk := (Keeps.refl w0).drew.trans hk1; have hc1 := HB0.out.keeps hkk; obtain ⟨⟨x0, x1, x2, x3⟩, y0, y1, y2, y3⟩ := hc1.cdc; have z0 := HQ0.out.keeps hkk)
    all_goals
      go_wp2_with fail
      have hc2 := hc1.set 0 (.string (str s ++ str (Vi.text t)))
      rw [HAP.out] at hc2
      rw [HAP.out]
      go_end0
      exact FIN.out _ ((HT0.out.trans (Two.of_keeps hkk)).set1 0 _) hc2 (z0.other ⟨c, 0, none⟩ hqc _)
end Go.Proofs.YtamiebojjinhcaaGreatDoor

namespace Go.Proofs.YtamiebojjinhcaaGreatDoor
open Go.RowKit

/-- numbers that may be, at their places of the caller's block -/
def plains : Cs → Array Value → List (Nat × Int) → Cs × Array Value
  | cs, qs, [] => (cs, qs)
  | cs, qs, (o, n) :: r => plains (cs.plain n).2 (qs.setIfInBounds o (.int .i64 (cs.plain n).1)) r
theorem plains_snoc : ∀ (l : List (Nat × Int)) (cs : Cs) (qs : Array Value) (o : Nat) (n : Int), plains cs qs (l ++ [(o, n)]) = (((plains cs qs l).1.plain n).2, (plains cs qs l).2.setIfInBounds o (.int .i64 ((plains cs qs l).1.plain n).1))
  | [], cs, qs, o, n => rfl
  | (o', n') :: l, cs, qs, o, n => plains_snoc l _ _ o n
theorem plains_get : ∀ (l : List (Nat × Int)) (cs : Cs) (qs : Array Value) (o : Nat), o ∉ l.map (·.1) → (plains cs qs l).2[o]? = qs[o]?
  | [], cs, qs, o, _ => rfl
  | (o', n') :: l, cs, qs, o, h => by
    simp only [List.map_cons, List.mem_cons, not_or] at h
    rw [plains, plains_get l _ _ o h.2, Array.getElem?_setIfInBounds]
    rw [if_neg (fun e => h.1 e.symm)]
theorem plains_fine : ∀ (l : List (Nat × Int)) (B : Nat) (cs : Cs) (qs : Array Value), cs.Fine B → (plains cs qs l).1.Fine (B + 10 * l.length)
  | [], B, cs, qs, h => h
  | (o', n') :: l, B, cs, qs, h => by
    rw [plains]
    exact (plains_fine l (B + 10) _ _ (h.num _ _ n').1).mono (by simp; omega)

set_option maxRecDepth 4000 in
set_option maxHeartbeats 3200000 in
theorem cd_plain (B : Nat) (hB : B ≤ 2 ^ 60) (cs : Cs) (hf : cs.Fine B) (ps : List (Nat × Int)) (hps : ps.length ≤ 6) (hn : ∀ x ∈ ps, -9223372036854775808 ≤ x.2 ∧ x.2 ≤ 9223372036854775807) (hnd : (ps.map (·.1)).Nodup) (c q g : Nat) (Tq Tg : TypeId) (qs : Array Value)
    (ho : ∀ x ∈ ps, qs[x.1]? = some (.int .i64 x.2)) (hcq : c ≠ q) (hgc : g ≠ c) (hgq : g ≠ q) (m : Nat) (hm : ps.length = m) (w : World) (hc : Blk w c 97 cs.cells) (hq : Blk w q Tq qs) (hg : Blk w g Tg (ps.map fun x => Value.pointer (some ⟨q, x.1, none⟩)).toArray) :
    Calls Tryz.prog 41 #[.pointer (some ⟨c, 0, none⟩), .slice (some ⟨g, 0, none⟩) m m] w (Did Tq w c q (plains cs qs ps).1 (plains cs qs ps).2) := by
  have H0 : Hid (CQ Tq w c q (plains cs qs (ps.take 0)).1 (plains cs qs (ps.take 0)).2 w) := Lib.hid ⟨Two.refl _ _ _, hc, hq⟩
  have HG := Lib.hid hg
  have HN := Lib.hid hn
  have HO := Lib.hid ho
  have HND := Lib.hid hnd
  have HM := Lib.hid hm
  have hm6 : m ≤ 6 := by omega
  have HF := Lib.hid hf
  clear hc hq hg hn ho hnd hf hps hm
  go_enter Tryz.func41, Tryz.ntmps41
  go_wp2_with fail
  go_loopw [8] (fun i wr => ∃ j : Nat, j ≤ m ∧ i = .int .i64 (j : Nat) ∧ CQ Tq w c q (plains cs qs (ps.take j)).1 (plains cs qs (ps.take j)).2 wr) (fun i _ => m - (intOf i).toNat)
  case atStart => exact ⟨0, Nat.zero_le _, rfl, H0.out⟩
  case round =>
    obtain ⟨j, hjm, rfl, hcq'⟩ := hrel
    have HCQ := Lib.hid hcq'
    clear hcq' H0
    by_cases hlt : j < m
    · obtain ⟨⟨o, n⟩, hx⟩ : ∃ x, ps[j]? = some x := ⟨_, List.getElem?_eq_getElem (by rw [HM.out]; exact hlt)⟩
      have hmem : (o, n) ∈ ps := List.mem_of_getElem? hx
      have hp : wr.cell? ⟨g, j, none⟩ = some (.pointer (some ⟨q, o, none⟩)) := (HG.out.two HCQ.out.two hgc hgq).cell j _ (by simp [hx])
      have hts : ps.take (j + 1) = ps.take j ++ [(o, n)] := by rw [List.take_add_one, hx]; rfl
      have hni : o ∉ (ps.take j).map (·.1) := by
        have hnd := HND.out
        rw [← List.take_append_drop (j + 1) ps, hts, List.map_append, List.map_append] at hnd
        have := (List.nodup_append.1 (List.nodup_append.1 hnd).1).2.2
        intro hmem
        exact this _ hmem _ (by simp) rfl
      have hget : (plains cs qs (ps.take j)).2[o]? = some (.int .i64 n) := by rw [plains_get _ _ _ _ hni]; exact HO.out _ hmem
      have HC := Lib.hid (fun w' h1 h2 => cd_num (B + 10 * (ps.take j).length) (by have : (ps.take j).length ≤ 6 := by rw [List.length_take]; omega
                                                                                   omega) _ (plains_fine (ps.take j) B cs qs HF.out) (-1) 2199023255552 n (HN.out _ hmem) c q o Tq _ hget hcq w' h1 h2)
      have HTS := Lib.hid hts
      clear hts hni hget hmem hx
      go_wp2_with fail
      refine (HC.out _ HCQ.out.cb HCQ.out.qb).mono ?_
      rintro e w1 ⟨rfl, hd⟩
      go_wp2_with fail
      exact ⟨⟨j + 1, by omega, by go_num, by rw [HTS.out, plains_snoc]; exact HCQ.out.trans hd⟩, by simp [intOf]; omega⟩
    · obtain rfl : j = m := by omega
      go_wp2_with fail
      go_end0
      refine ⟨rfl, ?_⟩
      have := HCQ.out
      rw [List.take_of_length_le (by rw [HM.out]; exact Nat.le_refl _)] at this
      exact this

set_option maxRecDepth 4000 in
set_option maxHeartbeats 3200000 in
theorem cd_flag (B : Nat) (hB : B ≤ 2 ^ 60) (cs : Cs) (hf : cs.Fine B) (f : Bool) (c q o : Nat) (Tq : TypeId) (qs : Array Value) (ho : qs[o]? = some (.bool f)) (hcq : c ≠ q) (w : World)
    (hc : Blk w c 97 cs.cells) (hq : Blk w q Tq qs) :
    Calls Tryz.prog 42 #[.pointer (some ⟨c, 0, none⟩), .pointer (some ⟨q, o, none⟩)] w (Did Tq w c q (cs.flag f).2 (qs.setIfInBounds o (.bool (cs.flag f).1))) := by
  have hqo := hq.cell o _ ho
  have hclt := hc.lt
  have hqlt := hq.lt
  have hne : c ≠ w.heap.size := by omega
  have hqne : ¬ q = w.heap.size := by omega
  have FL := Lib.hid (show cs.flag f = ((cs.num 0 1 (flagI f)).1 == 1, (cs.num 0 1 (flagI f)).2) from rfl)
  obtain ⟨n, hn⟩ : ∃ n, flagI f = n := ⟨_, rfl⟩
  have hnb : -9223372036854775808 ≤ n ∧ n ≤ 9223372036854775807 := by rw [← hn]; cases f <;> decide
  have HC := fun w' hb hn => cd_num B (by omega) cs hf 0 1 n hnb c w.heap.size 0 3 #[.int .i64 n] rfl hne w' hb hn
  rw [hn] at FL
  obtain ⟨⟨v, cs'⟩, hv⟩ : ∃ r, cs.num 0 1 n = r := ⟨_, rfl⟩
  rw [hv] at HC FL
  obtain ⟨d, hd⟩ : ∃ d, (v == 1) = d := ⟨_, rfl⟩
  rw [FL.out]
  simp only [hd]
  have HC := Lib.hid HC
  have HAL := Lib.hid ((Keeps.refl w).alloc (.cells #[.int .i64 n] 3))
  have HNB := Lib.hid (Blk.new w 3 #[.int .i64 n])
  have HQ := Lib.hid hq
  have HCB := Lib.hid hc
  have hqa : ∀ x, (w.alloc (.cells #[.int .i64 x] 3)).cell? ⟨q, o, none⟩ = some (.bool f) := fun x => ((Keeps.refl w).alloc _).cell hqo
  have hqa0 := hqa 0
  clear FL hc hq hf hv hnb hqa
  cases f
  all_goals
    obtain rfl := hn
    go_enter Tryz.func42, Tryz.ntmps42
    go_wp2_with fail
    refine (HC.out _ (HCB.out.keeps HAL.out) HNB.out).mono ?_
    rintro e w1 ⟨rfl, hd1⟩
    have hnc : w1.cell? ⟨w.heap.size, 0, none⟩ = some (.int .i64 v) := hd1.qb.cell 0 _ rfl
    have hq1 := (HQ.out.keeps HAL.out).two hd1.two (fun e => hcq e.symm) hqne
    have hqf := hq1.frozen o
    have hqc := hq1.cell o _ ho
    go_wp2_with fail
    go_end0
    exact ⟨rfl, (Two.of_only (hd1.two.only (Only.of_keeps HAL.out) (Nat.le_refl _))).set2 o _, hd1.cb.other ⟨q, o, none⟩ hcq _, hq1.set o _⟩
end Go.Proofs.YtamiebojjinhcaaGreatDoor

namespace Go.Proofs.YtamiebojjinhcaaGreatDoor
open Go.RowKit

set_option maxRecDepth 4000 in
set_option maxHeartbeats 1600000 in
theorem cd_empty (b : Bat) (lv : Value) (w : World) (hrs : RsAt w lv b.recs) :
    Calls Tryz.prog 71 #[batV b lv] w fun e w' => e = .returned (.bool b.empty) ∧ Keeps w w' := by
  obtain ⟨ad, cap, rfl⟩ := hrs.form
  obtain ⟨x0, x1, x2, x3, x4, l⟩ := b
  simp only [batV] at *
  have hk0 := (Keeps.refl w).alloc (.cells #[.int .i64 x0, .int .i64 x1, .int .i64 x2, .int .i64 x3, .int .i64 x4, .slice ad l.length cap] 24)
  obtain ⟨d0, h0⟩ : ∃ d, (x0 == 0) = d := ⟨_, rfl⟩
  obtain ⟨d1, h1⟩ : ∃ d, (x1 == 0) = d := ⟨_, rfl⟩
  obtain ⟨d2, h2⟩ : ∃ d, (x2 == 0) = d := ⟨_, rfl⟩
  obtain ⟨d3, h3⟩ : ∃ d, (x3 == 0) = d := ⟨_, rfl⟩
  obtain ⟨d4, h4⟩ : ∃ d, (x4 == 0) = d := ⟨_, rfl⟩
  obtain ⟨m, hm⟩ : ∃ m, l.length = m := ⟨_, rfl⟩
  obtain ⟨d5, h5⟩ : ∃ d, ((m : Int) == 0) = d := ⟨_, rfl⟩
  have h6 : (m == 0) = d5 := by rw [← h5, Bool.eq_iff_iff]; simp
  have HE := Lib.hid (show Bat.empty ⟨x0, x1, x2, x3, x4, l⟩ = (d0 && d1 && d2 && d3 && d4 && d5) by
    have : (l == []) = d5 := by
      rw [← h6, ← hm]
      cases l
      · rfl
      · rfl
    unfold Bat.empty
    simp only [this]
    rw [← h0, ← h1, ← h2, ← h3, ← h4]
    rfl)
  rw [hm]
  rw [HE.out]
  rw [hm] at hk0
  clear HE hrs hm
  cases d0
  rotate_left
  cases d1
  rotate_left
  cases d2
  rotate_left
  cases d3
  rotate_left
  cases d4
  rotate_left
  all_goals
    go_enter Tryz.func71, Tryz.ntmps71
    go_wp2_with fail
    go_ret
    exact ⟨rfl, hk0⟩

end Go.Proofs.YtamiebojjinhcaaGreatDoor
