/-
  The document's Words: the walk.
-/
import Derived.Test.YtojcfepbmnfflaaDoorTkEachW
set_option linter.unusedVariables false
namespace Go.Proofs.YtojcfepbmnfflaaDoor
open Go.RowKit

set_option maxRecDepth 10000 in
set_option maxHeartbeats 2000000 in
theorem ref_words (s : ByteArray) (hs : s.size ≤ 2 ^ 62) (hN : (Tk.words s.data.toList).length ≤ 2 ^ 40) (w : World) (hT : U8 w) :
    Calls Tryd.prog 46 #[.string s] w fun e W' => ∃ v, e = .returned v ∧ Own W' w.heap.size 1 v (Tk.words s.data.toList).length ((Tk.words s.data.toList).map sv) ∧ Keeps w W' := by
  obtain ⟨i0, hi, hz0, hz1, hz2⟩ := info_parts info_str
  have hsz : s.data.toList.length = s.size := by simp
  have hEx := fun q p => Lib.extract_data s q p
  have HLT := Lib.hid (fun p hp w hT => ref_letter s hs p hp w hT)
  obtain ⟨E, hE⟩ : ∃ E, s.data.toList = E := ⟨_, rfl⟩
  have HE := Lib.hid hE
  rw [hE] at hsz hN HLT ⊢
  have HS := Lib.hid hs
  have HSZ := Lib.hid hsz
  have HEX := Lib.hid hEx
  have HN := Lib.hid hN
  clear hE hs hsz hEx hN
  go_enter Tryd.func46, Tryd.ntmps46
  go_wp2_with fail
  go_loopw [3, 4, 5, 6, 7] (fun out at_ fr _ _ wr => ∃ (p : Nat) (cur : List UInt8) (pre : List (List UInt8)), p ≤ s.size ∧ at_ = .int .i64 p ∧ FromAt fr E p cur ∧ pre ++ Tk.from' (E.drop p) cur = Tk.words E ∧ wr.ownsRow w.heap.size 9 1 out pre.length (pre.map sv) ∧ Keeps w wr)
    (fun _ at_ _ _ _ _ => s.size - (intOf at_).toNat)
  case atStart => exact ⟨0, [], [], by omega, rfl, .inl ⟨rfl, rfl⟩, by simp [Tk.words_from], World.ownsRow_nil _ _ _ _, Keeps.refl _⟩
  case round =>
    obtain ⟨p, cur, pre, hp, rfl, hfr, hpre, hown, hkr⟩ := hrel
    have hSZ := HSZ.out
    by_cases hlt : p < s.size
    · have hEp : E.drop p ≠ [] := by intro e; have := congrArg List.length e; simp at this; omega
      have hlet := HLT.out p hlt wr (hT.keeps hkr)
      obtain ⟨D, hD⟩ : ∃ D, E.drop p = D := ⟨_, rfl⟩
      have hstep := Tk.from_step D cur (by rw [← hD]; exact hEp)
      have hzle := Tk.sz_le D (by rw [← hD]; exact hEp)
      have hzpos := Tk.sz_pos D
      have hdl : D.length = s.size - p := by rw [← hD]; simp; omega
      have hdd : D.drop (Tk.sz D) = E.drop (p + Tk.sz D) := by rw [← hD, List.drop_drop]
      rw [hdd] at hstep
      rw [hD] at hlet
      obtain ⟨z, hz⟩ : ∃ z, Tk.sz D = z := ⟨_, rfl⟩
      obtain ⟨b, hb⟩ : ∃ b, Tk.isL D = b := ⟨_, rfl⟩
      rw [hz, hb] at hstep hlet
      rw [hz] at hzle hzpos
      rw [hD, hstep] at hpre
      have hpz : p + z ≤ s.size := by omega
      have HS' := HS.out
      have hsum := IntWalk.i64_in ((p : Int) + (z : Int)) ⟨by omega, by omega⟩
      have HP := Lib.hid hpre
      have HD := Lib.hid hD
      have HLET := Lib.hid hlet
      clear hstep hdd hz hb hEp hdl hpre hD hlet HS'
      rcases hfr with ⟨rfl, rfl⟩ | ⟨q, rfl, hq, rfl⟩
      · cases b with
        | true =>
          go_wp2_with fail
          refine HLET.out.mono ?_
          rintro e W2 ⟨rfl, hk2⟩
          go_wp2_with fail
          go_roundw
          case rel => exact ⟨p + z, [] ++ D.take z, pre, by omega, by go_num, .inr ⟨p, rfl, by omega, by rw [← HD.out, List.nil_append, show p + z - p = z by omega]⟩, by simpa using HP.out, hk2.owns hown, hkr.trans hk2⟩
          case measure => simp [intOf]; omega
        | false =>
          go_wp2_with fail
          refine HLET.out.mono ?_
          rintro e W2 ⟨rfl, hk2⟩
          go_wp2_with fail
          go_roundw
          case rel => exact ⟨p + z, [], pre, by omega, by go_num, .inl ⟨rfl, rfl⟩, by simpa [Tk.flush] using HP.out, hk2.owns hown, hkr.trans hk2⟩
          case measure => simp [intOf]; omega
      · have hq0 : decide ((q : Int) < 0) = false := by simp
        have hq1 : decide ((0 : Int) ≤ (q : Int)) = true := by simp
        cases b with
        | true =>
          go_wp2_with fail
          refine HLET.out.mono ?_
          rintro e W2 ⟨rfl, hk2⟩
          go_wp2_with fail
          go_roundw
          case rel => exact ⟨p + z, (E.drop q).take (p - q) ++ D.take z, pre, by omega, by go_num, .inr ⟨q, rfl, by omega, by rw [← HD.out]; exact cut_more E q p z (by omega)⟩, by simpa using HP.out, hk2.owns hown, hkr.trans hk2⟩
          case measure => simp [intOf]; omega
        | false =>
          have hex : (s.extract q p).data.toList = (E.drop q).take (p - q) := by rw [HEX.out, HE.out]
          have hexs : (s.extract q p).size ≤ 2 ^ 62 := by rw [← hsize_list, hex]; have := HS.out; simp; omega
          have hcne : ((E.drop q).take (p - q)).isEmpty = false := by
            cases hx : (E.drop q).take (p - q) with
            | nil => have := congrArg List.length hx; simp at this; omega
            | cons a c => rfl
          have hfold := Lib.hid (fun w => ref_fold (s.extract q p) hexs w)
          rw [hex] at hfold
          have HP2 : Hid (pre ++ [Tk.fold ((E.drop q).take (p - q))] ++ Tk.from' (E.drop (p + z)) [] = Tk.words E) := by
            have := HP.out
            simp only [Bool.false_eq_true, if_false, Tk.flush, hcne] at this
            exact Lib.hid (by rw [List.append_assoc]; exact this)
          have hlen : pre.length < (Tk.words E).length := by rw [← HP2.out]; simp
          have hlen2 : pre.length + 1 ≤ 2 ^ 40 := by have := HN.out; omega
          obtain ⟨x, hx⟩ : ∃ x, Tk.fold ((E.drop q).take (p - q)) = x := ⟨_, rfl⟩
          rw [hx] at HP2 hfold
          have HLEN := Lib.hid hlen2
          clear hex hexs hcne hx hlen hlen2
          go_wp2_with fail
          refine HLET.out.mono ?_
          rintro e W2 ⟨rfl, hk2⟩
          go_wp2_with fail
          refine (hfold.out _).mono ?_
          rintro e W3 ⟨rfl, hk3⟩
          have hown3 := hk3.owns (hk2.owns hown)
          have hkr3 := (hkr.trans hk2).trans hk3
          go_wp2_with (at_builtin; refine wpList_append_own _ rfl _ _ 62 rfl w.heap.size 9 i0 (.string ⟨#[]⟩) 1 16 Tryd.underlying62 hi hz0 hz1 hz2 rfl (by decide) _ _ _ rfl (hown3.alloc _) ⟨W3.heap.size, 0, none⟩ 1 1 [sv x] rfl rfl (cell_one_new _ _ _) (by simp [Value.oneCell', sv]) (by have := HLEN.out; unfold maxLen; omega) (by have := HLEN.out; omega) (by have := hkr3.size; simp; omega) ?_; intro v' w1 hown' hgrow _; have hk4 := (hkr3.alloc _).grown hgrow (fun k hk => (hown3.lt _ hk).1))
          go_roundw
          case rel => exact ⟨p + z, [], pre ++ [x], by omega, by go_num, .inl ⟨rfl, rfl⟩, HP2.out, by simpa using hown', hk4⟩
          case measure => simp [intOf]; omega
    · obtain rfl : p = s.size := by omega
      have hnil : E.drop s.size = [] := List.drop_of_length_le (by omega)
      rw [hnil, Tk.from_nil] at hpre
      have HP := Lib.hid hpre
      clear hpre hnil
      rcases hfr with ⟨rfl, rfl⟩ | ⟨q, rfl, hq, rfl⟩
      · go_wp2_with fail
        go_ret
        have e : pre = Tk.words E := by simpa [Tk.flush] using HP.out
        exact ⟨_, rfl, by rw [← e]; exact Own.of_row hown, hkr⟩
      · have hq1 : decide ((0 : Int) ≤ (q : Int)) = true := by simp
        have hex : (s.extract q s.size).data.toList = (E.drop q).take (s.size - q) := by rw [HEX.out, HE.out]
        have hexs : (s.extract q s.size).size ≤ 2 ^ 62 := by rw [← hsize_list, hex]; have := HS.out; simp; omega
        have hcne : ((E.drop q).take (s.size - q)).isEmpty = false := by
          cases hx : (E.drop q).take (s.size - q) with
          | nil => have := congrArg List.length hx; simp at this; omega
          | cons a c => rfl
        have hfold := Lib.hid (fun w => ref_fold (s.extract q s.size) hexs w)
        rw [hex] at hfold
        have HP2 : Hid (pre ++ [Tk.fold ((E.drop q).take (s.size - q))] = Tk.words E) := by
          have := HP.out
          simp only [Bool.false_eq_true, if_false, Tk.flush, hcne] at this
          exact Lib.hid this
        have hlen2 : pre.length + 1 ≤ 2 ^ 40 := by have := HN.out; rw [← HP2.out] at this; simpa using this
        obtain ⟨x, hx⟩ : ∃ x, Tk.fold ((E.drop q).take (s.size - q)) = x := ⟨_, rfl⟩
        rw [hx] at HP2 hfold
        have HLEN := Lib.hid hlen2
        clear hex hexs hcne hx hlen2
        go_wp2_with fail
        refine (hfold.out _).mono ?_
        rintro e W3 ⟨rfl, hk3⟩
        have hown3 := hk3.owns hown
        have hkr3 := hkr.trans hk3
        go_wp2_with (at_builtin; refine wpList_append_own _ rfl _ _ 62 rfl w.heap.size 9 i0 (.string ⟨#[]⟩) 1 16 Tryd.underlying62 hi hz0 hz1 hz2 rfl (by decide) _ _ _ rfl (hown3.alloc _) ⟨W3.heap.size, 0, none⟩ 1 1 [sv x] rfl rfl (cell_one_new _ _ _) (by simp [Value.oneCell', sv]) (by have := HLEN.out; unfold maxLen; omega) (by have := HLEN.out; omega) (by have := hkr3.size; simp; omega) ?_; intro v' w1 hown' hgrow _; have hk4 := (hkr3.alloc _).grown hgrow (fun k hk => (hown3.lt _ hk).1))
        go_ret
        have e : pre ++ [x] = Tk.words E := HP2.out
        exact ⟨_, rfl, by rw [← e]; simpa using Own.of_row hown', hk4⟩
end Go.Proofs.YtojcfepbmnfflaaDoor
