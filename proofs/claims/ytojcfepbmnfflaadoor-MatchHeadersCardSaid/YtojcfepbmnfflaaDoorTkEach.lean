/-
  token.each: the iterator's contract.
-/
import Derived.RangeFuncNested
import Derived.RangeFuncBound
import Derived.RangeFuncCalls
import Derived.RangeFuncLeaves
import Derived.RangeFuncBox
import Derived.Shelf.Abstract
import Derived.Shelf.RegionOpen
import Derived.WalkKit
import Derived.OwnWalkIn
import Derived.TacticsInMore
import Derived.LoopNIn
import Derived.LoopIn
import Derived.Maps.AppendAt
import Derived.Lib.OthersKept
import Derived.Test.YtojcfepbmnfflaaDoorTkLetR
set_option linter.unusedVariables false
namespace Go.Proofs.YtojcfepbmnfflaaDoor
open Go.RowKit Go.Shelf
attribute [local go_sem] Oper.semAt_some

theorem dec_ascii (l : List UInt8) (h : Tk.at' l 0 < 128) : Tk.dec l = (Tk.at' l 0, 1) := by unfold Tk.dec Lib.decodeN; rw [if_pos h]
theorem dec_high (l : List UInt8) (h : 128 ≤ Tk.at' l 0) : 128 ≤ (Tk.dec l).1 := by
  unfold Tk.dec Lib.decodeN
  rw [if_neg (by omega)]
  repeat' split
  all_goals simp only
  all_goals omega
/-- the range's rune says what the first byte says -/
theorem dec_cases (l : List UInt8) : ((Tk.dec l).1 < 128 ∧ Tk.sz l = 1 ∧ Tk.isL l = (decide (1 < Tk.sz l) || Tk.asc (Tk.dec l).1)) ∨ (128 ≤ (Tk.dec l).1 ∧ Tk.isL l = (decide (1 < Tk.sz l) || Tk.asc (Tk.dec l).1)) := by
  by_cases h : Tk.at' l 0 < 128
  · have e := dec_ascii l h
    refine .inl ⟨by rw [e]; exact h, by unfold Tk.sz; rw [e], by unfold Tk.isL; rw [e]⟩
  · have e := dec_high l (by omega)
    refine .inr ⟨e, ?_⟩
    have h1 : Tk.asc (Tk.at' l 0) = false := by cases hc : Tk.asc (Tk.at' l 0) with | false => rfl | true => exact absurd (Tk.asc_lt hc) h
    have h2 : Tk.asc (Tk.dec l).1 = false := by cases hc : Tk.asc (Tk.dec l).1 with | false => rfl | true => have := Tk.asc_lt hc; omega
    unfold Tk.isL; rw [h1, h2]

/-- what a round keeps for the iterator -/
def WordsKept (n₀ Bs : Nat) (A B : World) : Prop := KeepsWalks A B ∧ Below n₀ A B ∧ B.heap[Bs]? = A.heap[Bs]?
theorem WordsKept.t {n₀ Bs : Nat} {A B C : World} (h : WordsKept n₀ Bs A B) (k : WordsKept n₀ Bs B C) : WordsKept n₀ Bs A C := ⟨h.1.trans k.1, h.2.1.trans k.2.1, k.2.2.trans h.2.2⟩

/-- where the word that has begun lies -/
def FromAt (v : Value) (E : List UInt8) (p : Nat) (cur : List UInt8) : Prop :=
  (v = .int .i64 (-1) ∧ cur = []) ∨ ∃ q : Nat, v = .int .i64 q ∧ q < p ∧ cur = (E.drop q).take (p - q)
theorem cut_more (E : List UInt8) (q p z : Nat) (h : q ≤ p) : (E.drop q).take (p - q) ++ (E.drop p).take z = (E.drop q).take (p + z - q) := by
  rw [show p + z - q = (p - q) + z by omega, List.take_add, List.drop_drop, show q + (p - q) = p by omega]
theorem hsize_list (s : ByteArray) : s.data.toList.length = s.size := by simp
theorem grown_of_keeps {w w' : World} (k : Keeps w w') : w.grownBy w' none := ⟨k.os, k.tape, k.output, k.size, fun i hi _ => k.block hi⟩

set_option maxRecDepth 100000 in
set_option maxHeartbeats 2000000 in
theorem each1 (n : Nat) (hn : 1 ≤ n) (l Bs : Nat) (w0 : World) (hT : U8 w0) (s : ByteArray) (hs : s.size ≤ 2 ^ 62) (J Jx : List (List UInt8) → World → Prop)
    (W : World) (hB : Below w0.heap.size w0 W) (hJ : AbidesFrom W.heap.size J)
    (hBs : W.cell? ⟨Bs, 0, none⟩ = some (.string s))
    (hY : ∀ pre x W1, J pre W1 → pre.length < (Tk.words s.data.toList).length → YieldAt Fence.wide (n - 1) Tryd.prog l #[.string (str x)] W1 fun e W' =>
      (e = .returned (.bool true) ∧ J (pre ++ [x]) W' ∧ WordsKept w0.heap.size Bs W1 W') ∨ (e = .returned (.bool false) ∧ Jx (pre ++ [x]) W'))
    (h0 : J [] W) :
    CallsIn Fence.wide n Tryd.prog 49 #[.func (.yield l) #[] #[], .pointer (some ⟨Bs, 0, none⟩)] W fun e W' => (∃ v, e = .returned v) ∧
      ((∃ ys, ys = Tk.words s.data.toList ∧ J ys W') ∨ (∃ pre, pre <+: Tk.words s.data.toList ∧ Jx pre W')) := by
  have hBlt : Bs < W.heap.size := lt_of_cell hBs
  have hsz : s.data.toList.length = s.size := by simp
  have hEx := fun q p => Lib.extract_data s q p
  obtain ⟨E, hE⟩ : ∃ E, s.data.toList = E := ⟨_, rfl⟩
  have HE := Lib.hid hE
  rw [hE] at hY hsz ⊢
  have HY := Lib.hid hY
  have HS := Lib.hid hs
  have HSZ := Lib.hid hsz
  have HEX := Lib.hid hEx
  clear hE hY hs hsz hEx
  refine callsIn_of_wp Tryd.func49 rfl trivial ?_ rfl
  simp only [Tryd.ntmps49, List.size_toArray, List.length_cons, List.length_nil, Nat.reduceAdd, Nat.reduceSub, Array.replicate_succ, Array.replicate_zero, List.push_toArray, List.append_toArray, List.nil_append, List.cons_append]
  gi_wp2_with fail
  gi_loopw [3, 4, 5, 6, 7] (fun fr _ _ _ _ wr => ∃ (p : Nat) (cur : List UInt8) (pre : List (List UInt8)), p ≤ s.size ∧ wr.heap[W.heap.size]? = some (.stringIter s p) ∧ FromAt fr E p cur ∧ pre ++ Tk.from' (E.drop p) cur = Tk.words E ∧ J pre wr ∧ Below w0.heap.size w0 wr ∧ wr.heap[Bs]? = W.heap[Bs]?)
    (fun _ _ _ _ _ wr => s.size - wr.iterPos W.heap.size)
  case atStart => exact ⟨0, [], [], by omega, World.iter_heap W s 0, .inl ⟨rfl, rfl⟩, by simp [Tk.words_from], hJ _ _ _ none h0 (World.grownBy_alloc W _ none) (fun r e => by cases e), hB.alloc hB.size _, Below.heap_alloc W (.stringIter s 0) Bs hBlt⟩
  case round =>
    obtain ⟨p, cur, pre, hp, hit, hfr, hpre, hJp, hBw, hBh⟩ := hrel
    have hpos0 := iterPos_of hit
    have hSZ := HSZ.out
    by_cases hlt : p < s.size
    · have hEp : E.drop p ≠ [] := by intro e; have := congrArg List.length e; simp at this; omega
      obtain ⟨D, hD⟩ : ∃ D, E.drop p = D := ⟨_, rfl⟩
      have hstep := Tk.from_step D cur (by rw [← hD]; exact hEp)
      have hzle := Tk.sz_le D (by rw [← hD]; exact hEp)
      have hzpos := Tk.sz_pos D
      have hcase := dec_cases D
      have hdl : D.length = s.size - p := by rw [← hD]; simp; omega
      have hnx : ∀ ty, (Instr.next (.pointer (some ⟨W.heap.size, 0, none⟩)) true ty).run Tryd.prog wr = _ := fun ty => Lib.run_next_any_at wr W.heap.size s p ty hit hlt
      have hdr : Utf8.decode s p = Tk.dec D := by rw [decode_drop, HE.out, hD]
      have hdd : D.drop (Tk.sz D) = E.drop (p + Tk.sz D) := by rw [← hD, List.drop_drop]
      rw [hdd] at hstep
      rw [hdr] at hnx
      obtain ⟨z, hz⟩ : ∃ z, Tk.sz D = z := ⟨_, rfl⟩
      have hz' : (Tk.dec D).2 = z := hz
      obtain ⟨r, hr⟩ : ∃ r, (Tk.dec D).1 = r := ⟨_, rfl⟩
      obtain ⟨b, hb⟩ : ∃ b, Tk.isL D = b := ⟨_, rfl⟩
      rw [hz, hb] at hstep
      rw [hz', hr] at hnx
      rw [hz, hr, hb] at hcase
      rw [hz] at hzle hzpos
      rw [hD, hstep] at hpre
      have hit2 := Lib.iterAt_heap wr W.heap.size s p (p + z) hit
      have hlt2 := Lib.iterAt_size wr W.heap.size s (p + z)
      have hJ2 := hJ _ _ _ (some W.heap.size) hJp (show wr.grownBy (wr.iterAt W.heap.size s (p + z)) (some W.heap.size) from ⟨rfl, rfl, rfl, by rw [hlt2]; exact Nat.le_refl _, fun i _ hi => Lib.iterAt_other _ _ _ _ _ (fun e => hi (by rw [e]))⟩) (fun r e => by cases e; exact ⟨Nat.le_refl _, _, hit, rfl⟩)
      have hBw2 := Lib.below_iterAt hBw (k := W.heap.size) hB.size s (p + z)
      have hBh2 : (wr.iterAt W.heap.size s (p + z)).heap[Bs]? = W.heap[Bs]? := (Lib.iterAt_other wr W.heap.size Bs s (p + z) (by omega)).trans hBh
      obtain ⟨W1, hW1⟩ : ∃ W1, W1 = wr.iterAt W.heap.size s (p + z) := ⟨_, rfl⟩
      rw [← hW1] at hnx hit2 hBw2 hBh2 hJ2
      have hc1 : W1.cell? ⟨Bs, 0, none⟩ = some (.string s) := (World.cell?_of_block hBh2).trans hBs
      have hT1 : U8 W1 := Utf8Tabs_below hT hBw2
      have hdec : ∀ w, U8 w → Calls Tryd.prog 50 #[.string (s.extract p s.size)] w fun e w' => e = .returned (.tuple #[.int .i32 r, .int .i64 z]) ∧ Keeps w w' := by
        intro w hw
        have := Tryd.utf8_DecodeRuneInString (s.extract p s.size) w hw
        rw [decodeGo_tail s p hlt, HE.out, hD, hz', hr] at this
        exact this
      have HDEC := Lib.hid hdec
      have hpz : p + z ≤ s.size := by omega
      have HP := Lib.hid hpre
      have HD := Lib.hid hD
      clear hstep hdd hdr hz hz' hr hb hW1 hit hBw hBh hJp hEp hdl hpre hD hdec hlt2
      rcases hcase with ⟨h128, hz1, hL⟩ | ⟨h128, hL⟩
      · have hd : decide ((128 : Int) ≤ (r : Int)) = false := by simp; omega
        have hlet : Hid (∀ w, Calls Tryd.prog 51 #[.int .i32 r, .int .i64 1] w fun e w' => e = .returned (.bool b) ∧ w = w') := Lib.hid (fun w => by have := tk_letter r 1 w; rw [hL, hz1]; exact this)
        clear hL hz1 h128
        have hk2 : Keeps W1 W1 := Keeps.refl _
        have hit3 := (hk2.block (lt_of_block hit2)).trans hit2
        have hJ3 := hJ _ _ _ none hJ2 (grown_of_keeps hk2) (fun r e => by cases e)
        have hBw3 := hBw2.trans (Below.mono hk2 hBw2.size)
        have hBh3 := (hk2.block (by have := lt_of_block hit2; omega)).trans hBh2
        have hc3 := hk2.cell hc1
        have hdq := Lib.hid hk2
        rcases hfr with ⟨rfl, rfl⟩ | ⟨q, rfl, hq, rfl⟩
        · cases b with
          | true =>
            gi_wp2_with fail
            refine ⟨trivial, (callsIn_wide.2 (hlet.out _)).mono ?_⟩
            rintro e W3 ⟨rfl, rfl⟩
            gi_wp2_with fail
            go_roundw
            case rel => exact ⟨p + z, [] ++ D.take z, pre, by omega, hit3, .inr ⟨p, rfl, by omega, by rw [← HD.out, List.nil_append, show p + z - p = z by omega]⟩, by simpa using HP.out, hJ3, hBw3, hBh3⟩
            case measure => rw [iterPos_of hit3, hpos0]; omega
          | false =>
            gi_wp2_with fail
            refine ⟨trivial, (callsIn_wide.2 (hlet.out _)).mono ?_⟩
            rintro e W3 ⟨rfl, rfl⟩
            gi_wp2_with fail
            go_roundw
            case rel => exact ⟨p + z, [], pre, by omega, hit3, .inl ⟨rfl, rfl⟩, by simpa [Tk.flush] using HP.out, hJ3, hBw3, hBh3⟩
            case measure => rw [iterPos_of hit3, hpos0]; omega
        · have hq0 : decide ((q : Int) < 0) = false := by simp
          have hq1 : decide ((0 : Int) ≤ (q : Int)) = true := by simp
          cases b with
          | true =>
            gi_wp2_with fail
            refine ⟨trivial, (callsIn_wide.2 (hlet.out _)).mono ?_⟩
            rintro e W3 ⟨rfl, rfl⟩
            gi_wp2_with fail
            go_roundw
            case rel => exact ⟨p + z, (E.drop q).take (p - q) ++ D.take z, pre, by omega, hit3, .inr ⟨q, rfl, by omega, by rw [← HD.out]; exact cut_more E q p z (by omega)⟩, by simpa using HP.out, hJ3, hBw3, hBh3⟩
            case measure => rw [iterPos_of hit3, hpos0]; omega
          | false =>
            have hex : (s.extract q p).data.toList = (E.drop q).take (p - q) := by rw [HEX.out, HE.out]
            have hexs : (s.extract q p).size ≤ 2 ^ 62 := by rw [← hsize_list, hex]; have := HS.out; simp; omega
            have hcne : ((E.drop q).take (p - q)).isEmpty = false := by
              cases hx : (E.drop q).take (p - q) with
              | nil => have := congrArg List.length hx; simp at this; omega
              | cons a c => rfl
            have hfold := Lib.hid (fun w => tk_fold (s.extract q p) hexs w)
            rw [hex] at hfold
            have HP2 : Hid (pre ++ [Tk.fold ((E.drop q).take (p - q))] ++ Tk.from' (E.drop (p + z)) [] = Tk.words E) := by
              have := HP.out
              simp only [Bool.false_eq_true, if_false, Tk.flush, hcne] at this
              exact Lib.hid (by rw [List.append_assoc]; exact this)
            have hlen : pre.length < (Tk.words E).length := by rw [← HP2.out]; simp
            obtain ⟨x, hx⟩ : ∃ x, Tk.fold ((E.drop q).take (p - q)) = x := ⟨_, rfl⟩
            rw [hx] at HP2 hfold
            have HLEN := Lib.hid hlen
            clear hex hexs hcne hx hlen
            gi_wp2_with fail
            refine ⟨trivial, (callsIn_wide.2 (hlet.out _)).mono ?_⟩
            rintro e W3 ⟨rfl, rfl⟩
            gi_wp2_with fail
            refine ⟨trivial, (callsIn_wide.2 (hfold.out _)).mono ?_⟩
            rintro e W4 ⟨rfl, hk4⟩
            have hJ4 := hJ _ _ _ none hJ3 (grown_of_keeps hk4) (fun r e => by cases e)
            have hit4 := (hk4.block (lt_of_block hit3)).trans hit3
            have hBw4 := hBw3.trans (Below.mono hk4 hBw3.size)
            have hBh4 := (hk4.block (by have := hBw3.size; have := lt_of_block hit3; omega)).trans hBh3
            obtain ⟨fn, tmps, assign, body, hy, hR⟩ := HY.out pre x W4 hJ4 HLEN.out
            gi_wp2_with fail
            refine hR.mono ?_
            rintro e W5 (⟨rfl, hJ5, hk5⟩ | ⟨rfl, hJx5⟩)
            · gi_wp2_with fail
              go_roundw
              case rel => exact ⟨p + z, [], pre ++ [x], by omega, hk5.1.same _ _ hit4 rfl, .inl ⟨rfl, rfl⟩, HP2.out, hJ5, hBw4.trans hk5.2.1, hk5.2.2.trans hBh4⟩
              case measure => rw [iterPos_of (hk5.1.same _ _ hit4 rfl), hpos0]; omega
            · gi_wp2_with fail
              refine bodyPost_ret (results_none rfl _ _ _) rfl ?_
              exact ⟨⟨_, rfl⟩, .inr ⟨pre ++ [x], ⟨_, HP2.out⟩, hJx5⟩⟩
      · have hd : decide ((128 : Int) ≤ (r : Int)) = true := by simp; omega
        have hlet : Hid (∀ w, Calls Tryd.prog 51 #[.int .i32 r, .int .i64 z] w fun e w' => e = .returned (.bool b) ∧ w = w') := Lib.hid (fun w => by have := tk_letter r z w; rw [hL]; exact this)
        clear hL h128
        gi_wp2_with fail
        refine ⟨trivial, (callsIn_wide.2 (HDEC.out _ hT1)).mono ?_⟩
        rintro e W2 ⟨rfl, hk2⟩
        have hit3 := (hk2.block (lt_of_block hit2)).trans hit2
        have hJ3 := hJ _ _ _ none hJ2 (grown_of_keeps hk2) (fun r e => by cases e)
        have hBw3 := hBw2.trans (Below.mono hk2 hBw2.size)
        have hBh3 := (hk2.block (by have := lt_of_block hit2; omega)).trans hBh2
        have hc3 := hk2.cell hc1
        have hdq := Lib.hid hk2
        rcases hfr with ⟨rfl, rfl⟩ | ⟨q, rfl, hq, rfl⟩
        · cases b with
          | true =>
            gi_wp2_with fail
            refine ⟨trivial, (callsIn_wide.2 (hlet.out _)).mono ?_⟩
            rintro e W3 ⟨rfl, rfl⟩
            gi_wp2_with fail
            go_roundw
            case rel => exact ⟨p + z, [] ++ D.take z, pre, by omega, hit3, .inr ⟨p, rfl, by omega, by rw [← HD.out, List.nil_append, show p + z - p = z by omega]⟩, by simpa using HP.out, hJ3, hBw3, hBh3⟩
            case measure => rw [iterPos_of hit3, hpos0]; omega
          | false =>
            gi_wp2_with fail
            refine ⟨trivial, (callsIn_wide.2 (hlet.out _)).mono ?_⟩
            rintro e W3 ⟨rfl, rfl⟩
            gi_wp2_with fail
            go_roundw
            case rel => exact ⟨p + z, [], pre, by omega, hit3, .inl ⟨rfl, rfl⟩, by simpa [Tk.flush] using HP.out, hJ3, hBw3, hBh3⟩
            case measure => rw [iterPos_of hit3, hpos0]; omega
        · have hq0 : decide ((q : Int) < 0) = false := by simp
          have hq1 : decide ((0 : Int) ≤ (q : Int)) = true := by simp
          cases b with
          | true =>
            gi_wp2_with fail
            refine ⟨trivial, (callsIn_wide.2 (hlet.out _)).mono ?_⟩
            rintro e W3 ⟨rfl, rfl⟩
            gi_wp2_with fail
            go_roundw
            case rel => exact ⟨p + z, (E.drop q).take (p - q) ++ D.take z, pre, by omega, hit3, .inr ⟨q, rfl, by omega, by rw [← HD.out]; exact cut_more E q p z (by omega)⟩, by simpa using HP.out, hJ3, hBw3, hBh3⟩
            case measure => rw [iterPos_of hit3, hpos0]; omega
          | false =>
            have hex : (s.extract q p).data.toList = (E.drop q).take (p - q) := by rw [HEX.out, HE.out]
            have hexs : (s.extract q p).size ≤ 2 ^ 62 := by rw [← hsize_list, hex]; have := HS.out; simp; omega
            have hcne : ((E.drop q).take (p - q)).isEmpty = false := by
              cases hx : (E.drop q).take (p - q) with
              | nil => have := congrArg List.length hx; simp at this; omega
              | cons a c => rfl
            have hfold := Lib.hid (fun w => tk_fold (s.extract q p) hexs w)
            rw [hex] at hfold
            have HP2 : Hid (pre ++ [Tk.fold ((E.drop q).take (p - q))] ++ Tk.from' (E.drop (p + z)) [] = Tk.words E) := by
              have := HP.out
              simp only [Bool.false_eq_true, if_false, Tk.flush, hcne] at this
              exact Lib.hid (by rw [List.append_assoc]; exact this)
            have hlen : pre.length < (Tk.words E).length := by rw [← HP2.out]; simp
            obtain ⟨x, hx⟩ : ∃ x, Tk.fold ((E.drop q).take (p - q)) = x := ⟨_, rfl⟩
            rw [hx] at HP2 hfold
            have HLEN := Lib.hid hlen
            clear hex hexs hcne hx hlen
            gi_wp2_with fail
            refine ⟨trivial, (callsIn_wide.2 (hlet.out _)).mono ?_⟩
            rintro e W3 ⟨rfl, rfl⟩
            gi_wp2_with fail
            refine ⟨trivial, (callsIn_wide.2 (hfold.out _)).mono ?_⟩
            rintro e W4 ⟨rfl, hk4⟩
            have hJ4 := hJ _ _ _ none hJ3 (grown_of_keeps hk4) (fun r e => by cases e)
            have hit4 := (hk4.block (lt_of_block hit3)).trans hit3
            have hBw4 := hBw3.trans (Below.mono hk4 hBw3.size)
            have hBh4 := (hk4.block (by have := hBw3.size; have := lt_of_block hit3; omega)).trans hBh3
            obtain ⟨fn, tmps, assign, body, hy, hR⟩ := HY.out pre x W4 hJ4 HLEN.out
            gi_wp2_with fail
            refine hR.mono ?_
            rintro e W5 (⟨rfl, hJ5, hk5⟩ | ⟨rfl, hJx5⟩)
            · gi_wp2_with fail
              go_roundw
              case rel => exact ⟨p + z, [], pre ++ [x], by omega, hk5.1.same _ _ hit4 rfl, .inl ⟨rfl, rfl⟩, HP2.out, hJ5, hBw4.trans hk5.2.1, hk5.2.2.trans hBh4⟩
              case measure => rw [iterPos_of (hk5.1.same _ _ hit4 rfl), hpos0]; omega
            · gi_wp2_with fail
              refine bodyPost_ret (results_none rfl _ _ _) rfl ?_
              exact ⟨⟨_, rfl⟩, .inr ⟨pre ++ [x], ⟨_, HP2.out⟩, hJx5⟩⟩
    · obtain rfl : p = s.size := by omega
      have hnx : ∀ ty, (Instr.next (.pointer (some ⟨W.heap.size, 0, none⟩)) true ty).run Tryd.prog wr = _ := fun ty => Lib.run_next_end_at wr W.heap.size s s.size ty hit hlt
      have hnil : E.drop s.size = [] := List.drop_of_length_le (by omega)
      rw [hnil, Tk.from_nil] at hpre
      have HP := Lib.hid hpre
      have hc1 : wr.cell? ⟨Bs, 0, none⟩ = some (.string s) := (World.cell?_of_block hBh).trans hBs
      clear hpre hnil
      rcases hfr with ⟨rfl, rfl⟩ | ⟨q, rfl, hq, rfl⟩
      · gi_wp2_with fail
        go_end0
        exact ⟨⟨_, rfl⟩, .inl ⟨pre, by simpa [Tk.flush] using HP.out, hJp⟩⟩
      · have hq1 : decide ((0 : Int) ≤ (q : Int)) = true := by simp
        have hex : (s.extract q s.size).data.toList = (E.drop q).take (s.size - q) := by rw [HEX.out, HE.out]
        have hexs : (s.extract q s.size).size ≤ 2 ^ 62 := by rw [← hsize_list, hex]; have := HS.out; simp; omega
        have hcne : ((E.drop q).take (s.size - q)).isEmpty = false := by
          cases hx : (E.drop q).take (s.size - q) with
          | nil => have := congrArg List.length hx; simp at this; omega
          | cons a c => rfl
        have hfold := Lib.hid (fun w => tk_fold (s.extract q s.size) hexs w)
        rw [hex] at hfold
        have HP2 : Hid (pre ++ [Tk.fold ((E.drop q).take (s.size - q))] = Tk.words E) := by
          have := HP.out
          simp only [Bool.false_eq_true, if_false, Tk.flush, hcne] at this
          exact Lib.hid this
        have hlen : pre.length < (Tk.words E).length := by rw [← HP2.out]; simp
        obtain ⟨x, hx⟩ : ∃ x, Tk.fold ((E.drop q).take (s.size - q)) = x := ⟨_, rfl⟩
        rw [hx] at HP2 hfold
        have HLEN := Lib.hid hlen
        clear hex hexs hcne hx hlen
        gi_wp2_with fail
        refine ⟨trivial, (callsIn_wide.2 (hfold.out _)).mono ?_⟩
        rintro e W4 ⟨rfl, hk4⟩
        have hJ4 := hJ _ _ _ none hJp (grown_of_keeps hk4) (fun r e => by cases e)
        obtain ⟨fn, tmps, assign, body, hy, hR⟩ := HY.out pre x W4 hJ4 HLEN.out
        gi_wp2_with fail
        refine hR.mono ?_
        rintro e W5 (⟨rfl, hJ5, hk5⟩ | ⟨rfl, hJx5⟩)
        · gi_wp2_with fail
          go_end0
          exact ⟨⟨_, rfl⟩, .inl ⟨pre ++ [x], HP2.out, hJ5⟩⟩
        · gi_wp2_with fail
          go_end0
          exact ⟨⟨_, rfl⟩, .inr ⟨pre ++ [x], by rw [HP2.out]; exact List.prefix_refl _, hJx5⟩⟩
end Go.Proofs.YtojcfepbmnfflaaDoor
