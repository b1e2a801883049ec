/-
  Frames: in plain words, and the walks of the program's and the document's.
  The first frame of a text: the program's Next: the walk.
  The law's live: the walk.
  The law of the request of any bytes: the walk.
-/
import Derived.Test.YtgbnpehpfadehaaGreatDoorVfRead
import Derived.Test.YtgbnpehpfadehaaGreatDoorBtDecPl
import Derived.Test.YtgbnpehpfadehaaGreatDoorExText
import Derived.Test.YtgbnpehpfadehaaGreatDoorCdDec
import Derived.Test.YtgbnpehpfadehaaGreatDoorCs
import Derived.Deep.Cut
import Derived.Deep.CutBlock
import Derived.Deep.DeepCutAuto
import Derived.Test.YtgbnpehpfadehaaGreatDoorRqRead
import Derived.Test.YtgbnpehpfadehaaGreatDoorRqSame
import Derived.Test.YtgbnpehpfadehaaGreatDoorRqTold
import Derived.Test.YtgbnpehpfadehaaGreatDoorOwn
set_option linter.unusedVariables false
namespace Go.Proofs.YtgbnpehpfadehaaGreatDoor
open Go.RowKit

namespace Fr
def frame (s : List UInt8) : List UInt8 × Int := if 60000 < s.length then ([], 1) else (Vi.be 4 s.length ++ s, 0)
def next (l : List UInt8) : List UInt8 × Int × Int :=
  if l.length < 4 then ([], 0, 2)
  else if 60000 < Vi.beval (l.take 4) then ([], 0, 3)
  else if l.length < 4 + Vi.beval (l.take 4) then ([], 0, 2)
  else ((l.drop 4).take (Vi.beval (l.take 4)), ((4 + Vi.beval (l.take 4) : Nat) : Int), 0)
theorem fixed4 (n : Nat) (h : n ≤ 60000) : Vi.fixed (n : Int) 4 = (Vi.be 4 n, 0) := by
  unfold Vi.fixed
  rw [if_neg (by have : (n : Int) ≤ 60000 := by omega
                 simp; omega)]
  simp
theorem read4 (l : List UInt8) : Vi.read l 0 4 = if l.length < 4 then (0, 0, 2) else ((Vi.beval (l.take 4) : Int), 4, 0) := by
  unfold Vi.read
  split
  · omega
  · split
    · rw [if_pos (by omega)]
    · have hlt := Vi.beval_lt (l.take 4)
      have hl4 : (l.take 4).length = 4 := by rw [List.length_take]; omega
      rw [hl4] at hlt
      have hlt2 : Vi.beval (List.take (Int.toNat 4) (List.drop (Int.toNat 0) l)) < 256 ^ 4 := hlt
      have h256 : (256 : Nat) ^ 4 = 4294967296 := by decide
      rw [h256] at hlt2
      rw [if_neg (by omega), if_neg (by omega)]
      rfl
theorem next_frame (s B : List UInt8) (h : s.length ≤ 60000) : next ((frame s).1 ++ B) = (s, ((4 + s.length : Nat) : Int), 0) := by
  unfold frame
  rw [if_neg (by omega)]
  simp only
  have h4 := Vi.be_length 4 s.length
  have ht : ((Vi.be 4 s.length ++ s) ++ B).take 4 = Vi.be 4 s.length := by
    rw [List.append_assoc, List.take_append_of_le_length (by omega), List.take_of_length_le (by omega)]
  have hv : Vi.beval (Vi.be 4 s.length) = s.length := Vi.beval_be 4 _ (by omega)
  have hd : ((Vi.be 4 s.length ++ s) ++ B).drop 4 = s ++ B := by
    rw [List.append_assoc, List.drop_append_of_le_length (by omega), List.drop_eq_nil_of_le (by omega), List.nil_append]
  unfold next
  rw [ht, hv, hd]
  have hl : ((Vi.be 4 s.length ++ s) ++ B).length = 4 + s.length + B.length := by simp only [List.length_append, h4]
  rw [hl, if_neg (by omega), if_neg (by omega), if_neg (by omega)]
  rw [List.take_left]
theorem frame_length (s : List UInt8) (h : s.length ≤ 60000) : (frame s).1.length = 4 + s.length := by
  unfold frame; rw [if_neg (by omega)]; simp [Vi.be_length]
theorem frame_ok (s : List UInt8) (h : s.length ≤ 60000) : (frame s).2 = 0 := by unfold frame; rw [if_neg (by omega)]
end Fr

set_option maxRecDepth 4000 in
set_option maxHeartbeats 1600000 in
theorem fr_frame (l : List UInt8) (hl : l.length ≤ 2 ^ 62) (w : World) :
    Calls Tryz.prog 10 #[.string (str l)] w fun e w' => e = retS (Fr.frame l) ∧ Keeps w w' := by
  have hsz : (str l).size = l.length := str_size l
  by_cases h : 60000 < l.length
  · have HE := Lib.hid (show Fr.frame l = ([], 1) by unfold Fr.frame; rw [if_pos h])
    have hd : decide (60000 < (l.length : Int)) = true := by simp; omega
    clear h
    go_enter Tryz.func10, Tryz.ntmps10
    go_wp2_with fail
    go_ret2
    exact ⟨by rw [HE.out]; rfl, Keeps.refl _⟩
  · have HE := Lib.hid (show Fr.frame l = (Vi.be 4 l.length ++ l, 0) by unfold Fr.frame; rw [if_neg h])
    have hd : decide (60000 < (l.length : Int)) = false := by simp; omega
    have hF := fun w => fixed (l.length : Int) (by omega) (by omega) 4 w
    rw [Fr.fixed4 l.length (by omega)] at hF
    simp only [retF] at hF
    have HF := Lib.hid hF
    have HA := Lib.hid (str_append (Vi.be 4 l.length) l)
    have hz2 : (str (Vi.be 4 l.length)).size = 4 := by rw [str_size, Vi.be_length]
    have hlim : ((str (Vi.be 4 l.length)).size + (str l).size : Nat) ≤ 9223372036854775807 := by rw [hz2, hsz]; omega
    clear h hF
    go_enter Tryz.func10, Tryz.ntmps10
    go_wp2_with fail
    refine (HF.out _).mono ?_
    rintro e w1 ⟨rfl, hk1⟩
    go_wp2_with fail
    go_ret2
    exact ⟨by rw [HE.out]; show Ending.returned (.tuple #[.string (str (Vi.be 4 l.length) ++ str l), _]) = _; rw [HA.out]; rfl, hk1⟩

end Go.Proofs.YtgbnpehpfadehaaGreatDoor

namespace Go.Proofs.YtgbnpehpfadehaaGreatDoor
open Go.RowKit

set_option maxRecDepth 4000 in
set_option maxHeartbeats 800000 in
theorem fr_next (l : List UInt8) (hl : l.length ≤ 2 ^ 62) (w : World) :
    Calls Tryz.prog 11 #[.string (str l)] w fun e w' => e = retT (Fr.next l) ∧ Keeps w w' := by
  have hsz : (str l).size = l.length := str_size l
  have HR := fun w => read (str l) (by rw [str_size]; exact hl) 0 4 w
  simp only [str_list] at HR
  rw [Fr.read4] at HR
  obtain ⟨N, hN⟩ : ∃ N, Vi.beval (l.take 4) = N := ⟨_, rfl⟩
  have hnx : Fr.next l = if l.length < 4 then ([], 0, 2) else if 60000 < N then ([], 0, 3) else if l.length < 4 + N then ([], 0, 2) else ((l.drop 4).take N, ((4 + N : Nat) : Int), 0) := by rw [← hN]; rfl
  rw [hN] at HR
  by_cases h4 : l.length < 4
  · rw [if_pos h4] at HR hnx
    simp only [ret3] at HR
    have HR := Lib.hid HR
    have HE := Lib.hid hnx
    clear hnx h4 hN
    go_enter Tryz.func11, Tryz.ntmps11
    go_wp2_with fail
    refine (HR.out _).mono ?_
    rintro e w1 ⟨rfl, hk⟩
    go_wp2_with fail
    exact bodyPost_ret (v := .tuple #[.string ⟨#[]⟩, .int .i64 0, .int .i64 2]) (by simp [results, Tryz.f11, go_sem]) rfl ⟨by rw [HE.out]; rfl, hk⟩
  · rw [if_neg h4] at HR hnx
    simp only [ret3] at HR
    have HR := Lib.hid HR
    by_cases h6 : 60000 < N
    · rw [if_pos h6] at hnx
      have HE := Lib.hid hnx
      have hd : decide ((60000 : Int) < (N : Int)) = true := by simp; omega
      clear hnx h4 hN h6
      go_enter Tryz.func11, Tryz.ntmps11
      go_wp2_with fail
      refine (HR.out _).mono ?_
      rintro e w1 ⟨rfl, hk⟩
      go_wp2_with fail
      exact bodyPost_ret (v := .tuple #[.string ⟨#[]⟩, .int .i64 0, .int .i64 3]) (by simp [results, Tryz.f11, go_sem]) rfl ⟨by rw [HE.out]; rfl, hk⟩
    · rw [if_neg h6] at hnx
      have hd : decide ((60000 : Int) < (N : Int)) = false := by simp; omega
      by_cases h7 : l.length < 4 + N
      · rw [if_pos h7] at hnx
        have HE := Lib.hid hnx
        have hd2 : decide ((l.length : Int) - 4 < (N : Int)) = true := by simp; omega
        have hlen : (4 : Int) ≤ (l.length : Int) := by omega
        have hlen2 : (l.length : Int) ≤ 9223372036854775807 := by omega
        clear hnx h4 hN h6 h7
        go_enter Tryz.func11, Tryz.ntmps11
        go_wp2_with fail
        refine (HR.out _).mono ?_
        rintro e w1 ⟨rfl, hk⟩
        go_wp2_with fail
        exact bodyPost_ret (v := .tuple #[.string ⟨#[]⟩, .int .i64 0, .int .i64 2]) (by simp [results, Tryz.f11, go_sem]) rfl ⟨by rw [HE.out]; rfl, hk⟩
      · rw [if_neg h7] at hnx
        have HE := Lib.hid hnx
        obtain ⟨c, hc⟩ : ∃ c : Nat, 4 = c := ⟨4, rfl⟩
        have hc4 : (4 : Int) = (c : Int) := by omega
        have hex := str_extract l c N
        obtain ⟨T, hT⟩ : ∃ T, (l.drop c).take N = T := ⟨_, rfl⟩
        rw [hT] at hex
        have HR := Lib.hid (fun w => (HR.out w).mono (fun e w' h => (show e = .returned (.tuple #[.int .i64 (N : Int), .int .i64 (c : Int), .int .i64 0]) ∧ Keeps w w' from by rw [← hc4]; exact h)))
        have hd2 : decide ((l.length : Int) - c < (N : Int)) = false := by simp; omega
        have hcl : c ≤ l.length := by omega
        have hcn : c + N ≤ l.length := by omega
        have hll : (l.length : Int) ≤ 9223372036854775807 := by omega
        have HE := Lib.hid (show Fr.next l = (T, ((c + N : Nat) : Int), 0) by rw [HE.out, ← hT, ← hc])
        clear hnx h4 hN h6 h7 hT hc hc4
        go_enter Tryz.func11, Tryz.ntmps11
        go_wp2_with fail
        refine (HR.out _).mono ?_
        rintro e w1 ⟨rfl, hk⟩
        go_wp2_with fail
        refine bodyPost_ret (v := .tuple #[.string (str T), .int .i64 ((c : Int) + N), .int .i64 0]) (by simp [results, Tryz.f11, go_sem, hex]) rfl ⟨by rw [HE.out]; rfl, hk⟩

end Go.Proofs.YtgbnpehpfadehaaGreatDoor

namespace Go.Proofs.YtgbnpehpfadehaaGreatDoor
open Go.RowKit

def q1 : Req := ⟨5, [116], 0, 9, 0, false, Bat.none, Tree.none, [], 0, 0, []⟩
def r1 : Rep := ⟨5, 5, 0, 0, 0, 0, 0, [], [], []⟩
theorem q1_ok : q1.ok = true := by kernel_rfl
theorem r1_ok : r1.ok = true := by kernel_rfl
theorem q1_enc : q1.enc = (q1.body, 0) := by unfold Req.enc; rw [if_pos q1_ok]
theorem r1_enc : r1.enc = (r1.body, 0) := by unfold Rep.enc; rw [if_pos r1_ok]
theorem q0_enc : Req.none.enc = ([], 1) := by kernel_rfl
theorem q1_x : (Req.dec (q1.body ++ [120])) = (Req.none, 3) := by kernel_rfl
theorem q1_B : ReqB q1 := ⟨by decide, by decide, by decide, fun x hx => by simp [q1] at hx⟩
theorem r1_B : RepB r1 := ⟨by decide, fun x hx => by simp [r1] at hx, fun x hx => by simp [r1] at hx⟩
theorem q1_len : q1.body.length ≤ 60000 := by have := q1_ok; unfold Req.ok at this; simp only [Bool.and_eq_true, decide_eq_true_eq] at this; exact this.2
theorem r1_len : r1.body.length ≤ 60000 := by have := r1_ok; unfold Rep.ok at this; simp only [Bool.and_eq_true, decide_eq_true_eq] at this; exact this.2

theorem q1_dec : Req.dec q1.body = (q1, 0) := Req.dec_body q1_ok
theorem r1_dec : Rep.dec r1.body = (r1, 0) := Rep.dec_body r1_ok

set_option maxRecDepth 8000 in
set_option maxHeartbeats 1000000 in
theorem live_true (w : World) (ht : Tab w) : Calls Tryz.prog 4 #[] w fun e w' => e = .returned (.bool true) ∧ Keeps w w' := by
  have hql := q1_len
  have hrl := r1_len
  obtain ⟨S, hS⟩ : ∃ S, q1.body = S := ⟨_, rfl⟩
  obtain ⟨R, hR⟩ : ∃ R, r1.body = R := ⟨_, rfl⟩
  rw [hS] at hql
  rw [hR] at hrl
  have HT := Lib.hid ht
  have nilQ := fun w' (q : Req) (h : q.bat = Bat.none ∧ q.filter = Tree.none ∧ q.topics = []) => (show ReqIn (fun g => g < w'.heap.size) w' q (.slice none 0 0) (.slice none 0 0) (.slice none 0 0) from ⟨by rw [h.1]; exact RsIn.nil _ _, by rw [h.2.1]; exact KIn.nil _ _, by rw [h.2.2]; exact Fl.nil⟩)
  have ENC := Lib.hid (fun w' (h : Keeps w w') => (show Calls Tryz.prog 9 #[.agg #[.int .i64 5, .string ⟨#[116]⟩, .int .i64 0, .int .i64 9, .int .i64 0, .bool false, .int .i64 0, .int .i64 0, .int .i64 0, .int .i64 0, .int .i64 0, .slice none 0 0, .int .i64 0, .string ⟨#[]⟩, .string ⟨#[]⟩, .slice none 0 0, .string ⟨#[]⟩, .int .i64 0, .int .i64 0, .slice none 0 0]] w' fun e w'' => e = .returned (.tuple #[.string (str S), .int .i64 0]) ∧ Keeps w' w'' from by
    have h1 := wire_Encode q1 q1_B (.slice none 0 0) (.slice none 0 0) (.slice none 0 0) w' (nilQ w' q1 ⟨rfl, rfl, rfl⟩) (HT.out.keeps h)
    rw [q1_enc, hS] at h1
    exact h1))
  have ENC0 := Lib.hid (fun w' (h : Keeps w w') => (show Calls Tryz.prog 9 #[.agg #[.int .i64 0, .string ⟨#[]⟩, .int .i64 0, .int .i64 0, .int .i64 0, .bool false, .int .i64 0, .int .i64 0, .int .i64 0, .int .i64 0, .int .i64 0, .slice none 0 0, .int .i64 0, .string ⟨#[]⟩, .string ⟨#[]⟩, .slice none 0 0, .string ⟨#[]⟩, .int .i64 0, .int .i64 0, .slice none 0 0]] w' fun e w'' => e = .returned (.tuple #[.string ⟨#[]⟩, .int .i64 1]) ∧ Keeps w' w'' from by
    have h1 := wire_Encode Req.none ReqB.none (.slice none 0 0) (.slice none 0 0) (.slice none 0 0) w' (nilQ w' Req.none ⟨rfl, rfl, rfl⟩) (HT.out.keeps h)
    rw [q0_enc] at h1
    exact h1))
  have DEC := Lib.hid (fun w' (h : Keeps w w') => (show Calls Tryz.prog 5 #[.string (str S)] w' fun e w'' => ∃ a b c, e = .returned (.tuple #[.agg #[.int .i64 5, .string ⟨#[116]⟩, .int .i64 0, .int .i64 9, .int .i64 0, .bool false, .int .i64 0, .int .i64 0, .int .i64 0, .int .i64 0, .int .i64 0, a, .int .i64 0, .string ⟨#[]⟩, .string ⟨#[]⟩, b, .string ⟨#[]⟩, .int .i64 0, .int .i64 0, c], .int .i64 0]) ∧ (∃ a1 n1 p1 a2 n2 p2 a3 n3 p3, a = .slice a1 n1 p1 ∧ b = .slice a2 n2 p2 ∧ c = .slice a3 n3 p3) ∧ Keeps w' w'' from by
    have h1 := wire_Decode S (by omega) w' (HT.out.keeps h)
    rw [← hS, q1_dec, hS] at h1
    exact h1.mono (fun e w'' ⟨a, b, c, he, hin, hk⟩ => ⟨a, b, c, he, hin.form, hk⟩)))
  have DECX := Lib.hid (fun w' (h : Keeps w w') => (show Calls Tryz.prog 5 #[.string (str (S ++ [120]))] w' fun e w'' => ∃ a b c, e = .returned (.tuple #[.agg #[.int .i64 0, .string ⟨#[]⟩, .int .i64 0, .int .i64 0, .int .i64 0, .bool false, .int .i64 0, .int .i64 0, .int .i64 0, .int .i64 0, .int .i64 0, a, .int .i64 0, .string ⟨#[]⟩, .string ⟨#[]⟩, b, .string ⟨#[]⟩, .int .i64 0, .int .i64 0, c], .int .i64 3]) ∧ (∃ a1 n1 p1 a2 n2 p2 a3 n3 p3, a = .slice a1 n1 p1 ∧ b = .slice a2 n2 p2 ∧ c = .slice a3 n3 p3) ∧ Keeps w' w'' from by
    have h1 := wire_Decode (S ++ [120]) (by simp; omega) w' (HT.out.keeps h)
    rw [← hS, q1_x, hS] at h1
    exact h1.mono (fun e w'' ⟨a, b, c, he, hin, hk⟩ => ⟨a, b, c, he, hin.form, hk⟩)))
  have FRM := Lib.hid (fun w' => (show Calls Tryz.prog 10 #[.string ⟨#[97, 98]⟩] w' fun e w'' => e = .returned (.tuple #[.string ⟨#[0, 0, 0, 2, 97, 98]⟩, .int .i64 0]) ∧ Keeps w' w'' from fr_frame [97, 98] (by decide) w'))
  have NXT := Lib.hid (fun w' => (show Calls Tryz.prog 11 #[.string ⟨#[0, 0, 0, 2, 97, 98, 99]⟩] w' fun e w'' => e = .returned (.tuple #[.string ⟨#[97, 98]⟩, .int .i64 6, .int .i64 0]) ∧ Keeps w' w'' from fr_next [0, 0, 0, 2, 97, 98, 99] (by decide) w'))
  have ANS := Lib.hid (fun w' (h : Keeps w w') => (show Calls Tryz.prog 12 #[.agg #[.int .i64 5, .int .i64 5, .int .i64 0, .int .i64 0, .int .i64 0, .int .i64 0, .int .i64 0, .slice none 0 0, .slice none 0 0, .slice none 0 0]] w' fun e w'' => e = .returned (.tuple #[.string (str R), .int .i64 0]) ∧ Keeps w' w'' from by
    have h1 := wire_Answer r1 r1_B (.slice none 0 0) (.slice none 0 0) (.slice none 0 0) w' ⟨BsIn.nil _ _, Fl.nil, Fl.nil⟩ (HT.out.keeps h)
    rw [r1_enc, hR] at h1
    exact h1))
  have REA := Lib.hid (fun w' (h : Keeps w w') => (show Calls Tryz.prog 13 #[.string (str R)] w' fun e w'' => ∃ a b c, e = .returned (.tuple #[.agg #[.int .i64 5, .int .i64 5, .int .i64 0, .int .i64 0, .int .i64 0, .int .i64 0, .int .i64 0, a, b, c], .int .i64 0]) ∧ (∃ a1 n1 p1 a2 n2 p2 a3 n3 p3, a = .slice a1 n1 p1 ∧ b = .slice a2 n2 p2 ∧ c = .slice a3 n3 p3) ∧ Keeps w' w'' from by
    have h1 := wire_Read R (by omega) w' (HT.out.keeps h)
    rw [← hR, r1_dec, hR] at h1
    exact h1.mono (fun e w'' ⟨a, b, c, he, hin, hk⟩ => ⟨a, b, c, he, hin.form, hk⟩)))
  have HAP : str S ++ (⟨#[120]⟩ : ByteArray) = str (S ++ [120]) := str_append S [120]
  have HAPX := Lib.hid HAP
  have hzs : (str S).size = S.length := str_size S
  have hlim : ((str S).size + (⟨#[120]⟩ : ByteArray).size : Nat) ≤ 9223372036854775807 := by rw [hzs]; show S.length + 1 ≤ _; omega
  have HK1 := Lib.hid ((Keeps.refl w).alloc (.cells #[.int .i64 5, .string ⟨#[116]⟩, .int .i64 0, .int .i64 9, .int .i64 0, .bool false, .int .i64 0, .int .i64 0, .int .i64 0, .int .i64 0, .int .i64 0, .slice none 0 0, .int .i64 0, .string ⟨#[]⟩, .string ⟨#[]⟩, .slice none 0 0, .string ⟨#[]⟩, .int .i64 0, .int .i64 0, .slice none 0 0] 31))
  have HR1 := Lib.hid (show (w.alloc (.cells #[.int .i64 5, .string ⟨#[116]⟩, .int .i64 0, .int .i64 9, .int .i64 0, .bool false, .int .i64 0, .int .i64 0, .int .i64 0, .int .i64 0, .int .i64 0, .slice none 0 0, .int .i64 0, .string ⟨#[]⟩, .string ⟨#[]⟩, .slice none 0 0, .string ⟨#[]⟩, .int .i64 0, .int .i64 0, .slice none 0 0] 31)).rangeAt w.heap.size 0 [.int .i64 5, .string ⟨#[116]⟩, .int .i64 0, .int .i64 9, .int .i64 0, .bool false, .int .i64 0, .int .i64 0, .int .i64 0, .int .i64 0, .int .i64 0, .slice none 0 0, .int .i64 0, .string ⟨#[]⟩, .string ⟨#[]⟩, .slice none 0 0, .string ⟨#[]⟩, .int .i64 0, .int .i64 0, .slice none 0 0] from fun j v hj => by rw [Nat.zero_add]; exact (Blk.new w 31 #[.int .i64 5, .string ⟨#[116]⟩, .int .i64 0, .int .i64 9, .int .i64 0, .bool false, .int .i64 0, .int .i64 0, .int .i64 0, .int .i64 0, .int .i64 0, .slice none 0 0, .int .i64 0, .string ⟨#[]⟩, .string ⟨#[]⟩, .slice none 0 0, .string ⟨#[]⟩, .int .i64 0, .int .i64 0, .slice none 0 0]).cell j v (by simpa using hj))
  clear hS hR ht HAP hql hrl nilQ
  go_enter Tryz.func4, Tryz.ntmps4
  go_upto_region 1 with fail
  go_cut [1] from 19 (fun s1 wx => s1 = .pointer (some ⟨w.heap.size, 0, none⟩) ∧ ∃ wn, wn = wx ∧ Keeps w wn ∧ wn.rangeAt w.heap.size 0 [.int .i64 5, .string ⟨#[116]⟩, .int .i64 0, .int .i64 9, .int .i64 0, .bool false, .int .i64 0, .int .i64 0, .int .i64 0, .int .i64 0, .int .i64 0, .slice none 0 0, .int .i64 0, .string ⟨#[]⟩, .string ⟨#[]⟩, .slice none 0 0, .string ⟨#[]⟩, .int .i64 0, .int .i64 0, .slice none 0 0])
  case first =>
    refine wp_region_lit ?_
    iterate 2
      refine wpList_plain (by rfl) fun _ hK => ?_
      go_simp
      refine hK _ _ ?_
      clear hK
    try simp only [Act.put, List.setIfInBounds_toArray, List.set_cons_zero, List.set_cons_succ]
    have hzb : Blk (w.alloc (.cells #[.int .i64 0, .string ⟨#[]⟩, .int .i64 0, .int .i64 0, .int .i64 0, .bool false, .int .i64 0, .int .i64 0, .int .i64 0, .int .i64 0, .int .i64 0, .slice none 0 0, .int .i64 0, .string ⟨#[]⟩, .string ⟨#[]⟩, .slice none 0 0, .string ⟨#[]⟩, .int .i64 0, .int .i64 0, .slice none 0 0] 31)) w.heap.size 31 (reqCells Req.none (.slice none 0 0) (.slice none 0 0) (.slice none 0 0)) := Blk.new w 31 #[.int .i64 0, .string ⟨#[]⟩, .int .i64 0, .int .i64 0, .int .i64 0, .bool false, .int .i64 0, .int .i64 0, .int .i64 0, .int .i64 0, .int .i64 0, .slice none 0 0, .int .i64 0, .string ⟨#[]⟩, .string ⟨#[]⟩, .slice none 0 0, .string ⟨#[]⟩, .int .i64 0, .int .i64 0, .slice none 0 0]
    refine wpList_store_mid (by rfl) 31 (.tmp 1) (.tmp 19) (by rfl) w.heap.size 0 (reqCells q1 (.slice none 0 0) (.slice none 0 0) (.slice none 0 0)) (by rfl) (by rfl) (there_req hzb) size_req' one_req ?_
    have hfb := setCells_req (q' := q1) (x := .slice none 0 0) (y := .slice none 0 0) (z := .slice none 0 0) hzb
    have hkf := Keeps.setCells (Nat.le_refl _) (reqCells q1 (.slice none 0 0) (.slice none 0 0) (.slice none 0 0)).toList 0 ((Keeps.refl w).alloc (.cells #[.int .i64 0, .string ⟨#[]⟩, .int .i64 0, .int .i64 0, .int .i64 0, .bool false, .int .i64 0, .int .i64 0, .int .i64 0, .int .i64 0, .int .i64 0, .slice none 0 0, .int .i64 0, .string ⟨#[]⟩, .string ⟨#[]⟩, .slice none 0 0, .string ⟨#[]⟩, .int .i64 0, .int .i64 0, .slice none 0 0] 31))
    generalize (w.alloc (.cells #[.int .i64 0, .string ⟨#[]⟩, .int .i64 0, .int .i64 0, .int .i64 0, .bool false, .int .i64 0, .int .i64 0, .int .i64 0, .int .i64 0, .int .i64 0, .slice none 0 0, .int .i64 0, .string ⟨#[]⟩, .string ⟨#[]⟩, .slice none 0 0, .string ⟨#[]⟩, .int .i64 0, .int .i64 0, .slice none 0 0] 31)).setCells w.heap.size 0 (reqCells q1 (.slice none 0 0) (.slice none 0 0) (.slice none 0 0)).toList = wf at *
    go_wp2_with fail
    go_meet
    exact ⟨rfl, _, rfl, hkf, rng_req hfb⟩
  case rest =>
  obtain ⟨rfl, w1, rfl, hk1, hr1⟩ := hcut
  clear HR1 HK1
  go_upto_region 2 with fail
  go_cut [2, 3] from 19 (fun s2 s3 wx => s2 = .string (str S) ∧ s3 = .int .i64 0 ∧ ∃ wn, wn = wx ∧ Keeps w wn)
  case first =>
    refine wp_region_lit ?_
    refine wpList_load_mid (by rfl) 31 (.tmp 1) (by rfl) w.heap.size 0 (by rfl) [.int .i64 5, .string ⟨#[116]⟩, .int .i64 0, .int .i64 9, .int .i64 0, .bool false, .int .i64 0, .int .i64 0, .int .i64 0, .int .i64 0, .int .i64 0, .slice none 0 0, .int .i64 0, .string ⟨#[]⟩, .string ⟨#[]⟩, .slice none 0 0, .string ⟨#[]⟩, .int .i64 0, .int .i64 0, .slice none 0 0] _ hr1 Tryz.underlying31 (by rfl) (by kernel_rfl) ?_
    simp only [Act.put, List.setIfInBounds_toArray, List.set_cons_zero, List.set_cons_succ]
    go_wp2_with fail
    refine (ENC.out _ hk1).mono ?_
    rintro e wc ⟨rfl, hkc⟩
    go_wp2_with fail
    go_meet
    exact ⟨rfl, rfl, _, rfl, hk1.trans hkc⟩
  case rest =>
  obtain ⟨rfl, rfl, w2, rfl, hk2⟩ := hcut
  clear hk1 hr1
  go_upto_region 3 with fail
  go_cut [4, 5] from 19 (fun s4 s5 wx => ∃ (pb : Nat) (wn : World), wn = wx ∧ s4 = .pointer (some ⟨pb, 0, none⟩) ∧ s5 = .int .i64 0 ∧ Keeps w wn ∧ wn.cell? ⟨pb, 1, none⟩ = some (.string ⟨#[116]⟩) ∧ wn.cell? ⟨pb, 3, none⟩ = some (.int .i64 9))
  case first =>
    go_wp2_with fail
    refine (DEC.out _ hk2).mono ?_
    rintro e wc ⟨a, b, c, rfl, ⟨a1, n1, p1, a2, n2, p2, a3, n3, p3, rfl, rfl, rfl⟩, hkc2⟩
    have hkc := hk2.trans hkc2
    rename_i hKK
    refine hKK _ _ ?_
    iterate 4
      refine wpList_plain (by rfl) fun _ hK => ?_
      go_simp
      refine hK _ _ ?_
      clear hK
    try simp only [Act.put, List.setIfInBounds_toArray, List.set_cons_zero, List.set_cons_succ]
    have hzb := Blk.new wc 31 #[.int .i64 0, .string ⟨#[]⟩, .int .i64 0, .int .i64 0, .int .i64 0, .bool false, .int .i64 0, .int .i64 0, .int .i64 0, .int .i64 0, .int .i64 0, .slice none 0 0, .int .i64 0, .string ⟨#[]⟩, .string ⟨#[]⟩, .slice none 0 0, .string ⟨#[]⟩, .int .i64 0, .int .i64 0, .slice none 0 0]
    have hzb : Blk (wc.alloc (.cells #[.int .i64 0, .string ⟨#[]⟩, .int .i64 0, .int .i64 0, .int .i64 0, .bool false, .int .i64 0, .int .i64 0, .int .i64 0, .int .i64 0, .int .i64 0, .slice none 0 0, .int .i64 0, .string ⟨#[]⟩, .string ⟨#[]⟩, .slice none 0 0, .string ⟨#[]⟩, .int .i64 0, .int .i64 0, .slice none 0 0] 31)) wc.heap.size 31 (reqCells Req.none (.slice none 0 0) (.slice none 0 0) (.slice none 0 0)) := hzb
    refine wpList_store_mid (by rfl) 31 (.tmp 4) (.tmp 28) (by rfl) wc.heap.size 0 (reqCells q1 (.slice a1 n1 p1) (.slice a2 n2 p2) (.slice a3 n3 p3)) (by rfl) (by rfl) (there_req hzb) size_req' one_req ?_
    have hfb := setCells_req (q' := q1) (x := .slice a1 n1 p1) (y := .slice a2 n2 p2) (z := .slice a3 n3 p3) hzb
    have hkf := Keeps.setCells (q := wc.heap.size) hkc.size (reqCells q1 (.slice a1 n1 p1) (.slice a2 n2 p2) (.slice a3 n3 p3)).toList 0 (hkc.alloc (.cells #[.int .i64 0, .string ⟨#[]⟩, .int .i64 0, .int .i64 0, .int .i64 0, .bool false, .int .i64 0, .int .i64 0, .int .i64 0, .int .i64 0, .int .i64 0, .slice none 0 0, .int .i64 0, .string ⟨#[]⟩, .string ⟨#[]⟩, .slice none 0 0, .string ⟨#[]⟩, .int .i64 0, .int .i64 0, .slice none 0 0] 31))
    generalize (wc.alloc (.cells #[.int .i64 0, .string ⟨#[]⟩, .int .i64 0, .int .i64 0, .int .i64 0, .bool false, .int .i64 0, .int .i64 0, .int .i64 0, .int .i64 0, .int .i64 0, .slice none 0 0, .int .i64 0, .string ⟨#[]⟩, .string ⟨#[]⟩, .slice none 0 0, .string ⟨#[]⟩, .int .i64 0, .int .i64 0, .slice none 0 0] 31)).setCells wc.heap.size 0 (reqCells q1 (.slice a1 n1 p1) (.slice a2 n2 p2) (.slice a3 n3 p3)).toList = wf at *
    go_wp2_with fail
    go_meet
    exact ⟨_, _, rfl, rfl, rfl, hkf, hfb.cell 1 _ rfl, hfb.cell 3 _ rfl⟩
  case rest =>
  obtain ⟨pb, w3, rfl, rfl, rfl, hk3, hp1, hp3⟩ := hcut
  clear hk2
  go_upto_region 4 with fail
  go_cut [6, 7] from 19 (fun s6 s7 wx => s7 = .int .i64 3 ∧ ∃ wn, wn = wx ∧ Keeps w3 wn)
  case first =>
    go_wp2_with fail
    rw [HAPX.out]
    refine (DECX.out _ hk3).mono ?_
    rintro e wc ⟨a, b, c, rfl, ⟨a1, n1, p1, a2, n2, p2, a3, n3, p3, rfl, rfl, rfl⟩, hkc⟩
    rename_i hKK
    refine hKK _ _ ?_
    iterate 4
      refine wpList_plain (by rfl) fun _ hK => ?_
      go_simp
      refine hK _ _ ?_
      clear hK
    try simp only [Act.put, List.setIfInBounds_toArray, List.set_cons_zero, List.set_cons_succ]
    have hzb := Blk.new wc 31 #[.int .i64 0, .string ⟨#[]⟩, .int .i64 0, .int .i64 0, .int .i64 0, .bool false, .int .i64 0, .int .i64 0, .int .i64 0, .int .i64 0, .int .i64 0, .slice none 0 0, .int .i64 0, .string ⟨#[]⟩, .string ⟨#[]⟩, .slice none 0 0, .string ⟨#[]⟩, .int .i64 0, .int .i64 0, .slice none 0 0]
    have hzb : Blk (wc.alloc (.cells #[.int .i64 0, .string ⟨#[]⟩, .int .i64 0, .int .i64 0, .int .i64 0, .bool false, .int .i64 0, .int .i64 0, .int .i64 0, .int .i64 0, .int .i64 0, .slice none 0 0, .int .i64 0, .string ⟨#[]⟩, .string ⟨#[]⟩, .slice none 0 0, .string ⟨#[]⟩, .int .i64 0, .int .i64 0, .slice none 0 0] 31)) wc.heap.size 31 (reqCells Req.none (.slice none 0 0) (.slice none 0 0) (.slice none 0 0)) := hzb
    refine wpList_store_mid (by rfl) 31 (.tmp 6) (.tmp 34) (by rfl) wc.heap.size 0 (reqCells Req.none (.slice a1 n1 p1) (.slice a2 n2 p2) (.slice a3 n3 p3)) (by rfl) (by rfl) (there_req hzb) size_req' one_req ?_
    have hfb := setCells_req (q' := Req.none) (x := .slice a1 n1 p1) (y := .slice a2 n2 p2) (z := .slice a3 n3 p3) hzb
    have hkf := Keeps.setCells (q := wc.heap.size) hkc.size (reqCells Req.none (.slice a1 n1 p1) (.slice a2 n2 p2) (.slice a3 n3 p3)).toList 0 (hkc.alloc (.cells #[.int .i64 0, .string ⟨#[]⟩, .int .i64 0, .int .i64 0, .int .i64 0, .bool false, .int .i64 0, .int .i64 0, .int .i64 0, .int .i64 0, .int .i64 0, .slice none 0 0, .int .i64 0, .string ⟨#[]⟩, .string ⟨#[]⟩, .slice none 0 0, .string ⟨#[]⟩, .int .i64 0, .int .i64 0, .slice none 0 0] 31))
    generalize (wc.alloc (.cells #[.int .i64 0, .string ⟨#[]⟩, .int .i64 0, .int .i64 0, .int .i64 0, .bool false, .int .i64 0, .int .i64 0, .int .i64 0, .int .i64 0, .int .i64 0, .slice none 0 0, .int .i64 0, .string ⟨#[]⟩, .string ⟨#[]⟩, .slice none 0 0, .string ⟨#[]⟩, .int .i64 0, .int .i64 0, .slice none 0 0] 31)).setCells wc.heap.size 0 (reqCells Req.none (.slice a1 n1 p1) (.slice a2 n2 p2) (.slice a3 n3 p3)).toList = wf at *
    go_wp2_with fail
    go_meet
    exact ⟨rfl, _, rfl, hkf⟩
  case rest =>
  obtain ⟨rfl, w4, rfl, hk4⟩ := hcut
  have hp1 := hk4.cell hp1
  have hp3 := hk4.cell hp3
  have hk4 := hk3.trans hk4
  clear hk3
  go_wp2_with fail
  refine (ENC0.out _ hk4).mono ?_
  rintro e w5 ⟨rfl, hk5⟩
  have hp1 := hk5.cell hp1
  have hp3 := hk5.cell hp3
  have hk5 := hk4.trans hk5
  clear hk4
  go_wp2_with fail
  refine (FRM.out _).mono ?_
  rintro e w6 ⟨rfl, hk6⟩
  have hp1 := hk6.cell hp1
  have hp3 := hk6.cell hp3
  have hk6 := hk5.trans hk6
  clear hk5
  go_wp2_with fail
  refine (NXT.out _).mono ?_
  rintro e w7 ⟨rfl, hk7⟩
  have hp1 := hk7.cell hp1
  have hp3 := hk7.cell hp3
  have hk7 := hk6.trans hk7
  clear hk6
  go_wp2_with fail
  refine (ANS.out _ hk7).mono ?_
  rintro e w8 ⟨rfl, hk8⟩
  have hp1 := hk8.cell hp1
  have hp3 := hk8.cell hp3
  have hk8 := hk7.trans hk8
  clear hk7
  go_wp2_with fail
  refine (REA.out _ hk8).mono ?_
  rintro e w9 ⟨a, b, c, rfl, ⟨a1, n1, p1, a2, n2, p2, a3, n3, p3, rfl, rfl, rfl⟩, hk9⟩
  have hp1 := hk9.cell hp1
  have hp3 := hk9.cell hp3
  have hk9 := hk8.trans hk9
  clear hk8
  have hka := hk9.alloc (.cells #[.int .i64 5, .int .i64 5, .int .i64 0, .int .i64 0, .int .i64 0, .int .i64 0, .int .i64 0, .slice a1 n1 p1, .slice a2 n2 p2, .slice a3 n3 p3] 51)
  have hpb : ¬ pb = w9.heap.size := by have := World.block_lt_of_cell? w9 _ hp1; simp at this; omega
  have hp1 := ((Keeps.refl w9).alloc (.cells #[.int .i64 5, .int .i64 5, .int .i64 0, .int .i64 0, .int .i64 0, .int .i64 0, .int .i64 0, .slice a1 n1 p1, .slice a2 n2 p2, .slice a3 n3 p3] 51)).cell hp1
  have hp3 := ((Keeps.refl w9).alloc (.cells #[.int .i64 5, .int .i64 5, .int .i64 0, .int .i64 0, .int .i64 0, .int .i64 0, .int .i64 0, .slice a1 n1 p1, .slice a2 n2 p2, .slice a3 n3 p3] 51)).cell hp3
  go_wp2_with fail
  go_ret
  exact ⟨rfl, hka⟩
end Go.Proofs.YtgbnpehpfadehaaGreatDoor

namespace Go.Proofs.YtgbnpehpfadehaaGreatDoor
open Go.RowKit

theorem Bat.optOk_hdrs {b : Bat} (h : b.optOk = true) : ∀ r ∈ b.recs, r.hdrs.length ≤ 2 ^ 50 := by
  unfold Bat.optOk at h
  simp only [Bool.or_eq_true] at h
  rcases h with h | h
  · rw [Bat.empty_eq h]; intro r hr; simp [Bat.none] at hr
  · intro r hr
    have h1 := List.all_eq_true.1 (Bat.rise_ok _ (Bat.ok_of h).2.1) r hr
    simp only [Rec.ok, Rec.ok2, Bool.and_eq_true, decide_eq_true_eq] at h1
    omega
theorem Tree.ok_height {t : Tree} (h : t.ok = true) : t.height ≤ 60 := by
  unfold Tree.ok at h
  simp only [Bool.and_eq_true, decide_eq_true_eq] at h
  have := Tree.heights_le_sizes_aux _ t (Nat.le_refl _)
  omega
theorem Req.dec_parts (l : List UInt8) : (∀ r ∈ (Req.dec l).1.bat.recs, r.hdrs.length ≤ 2 ^ 50) ∧ (Req.dec l).1.filter.height ≤ 60 := by
  rcases Req.dec_cases l with h | h
  · have h2 := (Req.dec_ok (show Req.dec l = ((Req.dec l).1, 0) from Prod.ext rfl h)).1
    unfold Req.ok Req.ok0 at h2
    simp only [Bool.and_eq_true] at h2
    obtain ⟨⟨⟨⟨h1, h2⟩, h3⟩, h4⟩, h5⟩ := h2
    exact ⟨Bat.optOk_hdrs h2, Tree.ok_height h3⟩
  · rw [h]; exact ⟨fun r hr => by simp [Req.none, Bat.none] at hr, by decide⟩

set_option maxRecDepth 8000 in
set_option maxHeartbeats 8000000 in
theorem law_decodes19 (s : ByteArray) (w : World) (ht : Tab w) :
    Calls Tryz.prog 3 #[.string s] w fun e w' => e = .returned (.bool true) ∧ Keeps w w' := by
  obtain ⟨l, rfl⟩ : ∃ l, s = str l := ⟨s.data.toList, (str_of s).symm⟩
  have hsz := str_size
  have HL := Lib.hid (fun w ht => live_true w ht)
  have HT := Lib.hid ht
  clear ht
  by_cases hl : l.length ≤ 5000
  · have hl' : ¬ 5000 < l.length := by omega
    have D1 := fun w ht => wire_Decode l (by omega) w ht
    have D2 := fun w => ref_reqDecode l (by omega) w
    have hh := Req.dec_parts l
    obtain ⟨⟨q, z⟩, hd⟩ : ∃ g, Req.dec l = g := ⟨_, rfl⟩
    rw [hd] at D1 D2 hh
    simp only at hh
    have HSA := Lib.hid (fun w' S S' a b c a' b' c' hin hin' => req_same q S S' a b c a' b' c' w' hin hin' hh.1 hh.2)
    have D1 := Lib.hid D1
    have D2 := Lib.hid D2
    clear hd hh hl
    go_enter Tryz.func3, Tryz.ntmps3
    go_upto_region 3 with fail
    go_cut [3, 4] from 7 (fun s12 s13 wx => ∃ (pb : Nat) (wn : World) (a b c : Value), wn = wx ∧ s12 = .pointer (some ⟨pb, 0, none⟩) ∧ s13 = .int .i64 z ∧ Keeps w wn ∧ Blk wn pb 31 (reqCells q a b c) ∧ ReqIn (fun g => g < wn.heap.size) wn q a b c)
    case first =>
      go_wp2_with fail
      refine (D1.out _ HT.out).mono ?_
      rintro e wc ⟨a, b, c, rfl, hin, hkc⟩
      obtain ⟨b1, m1, o1, b2, m2, o2, b3, m3, o3, rfl, rfl, rfl⟩ := ReqIn.form (S := fun i => w.heap.size ≤ i) hin
      have HIN4 := Lib.hid (show ReqIn (fun i => w.heap.size ≤ i) wc q _ _ _ from hin)
      clear hin
      rename_i hKK
      refine hKK _ _ ?_
      iterate 4
        refine wpList_plain (by rfl) fun _ hK => ?_
        go_simp
        refine hK _ _ ?_
        clear hK
      try simp only [Act.put, List.setIfInBounds_toArray, List.set_cons_zero, List.set_cons_succ]
      have hzb : Blk (wc.alloc (.cells #[.int .i64 0, .string ⟨#[]⟩, .int .i64 0, .int .i64 0, .int .i64 0, .bool false, .int .i64 0, .int .i64 0, .int .i64 0, .int .i64 0, .int .i64 0, .slice none 0 0, .int .i64 0, .string ⟨#[]⟩, .string ⟨#[]⟩, .slice none 0 0, .string ⟨#[]⟩, .int .i64 0, .int .i64 0, .slice none 0 0] 31)) wc.heap.size 31 (reqCells Req.none (.slice none 0 0) (.slice none 0 0) (.slice none 0 0)) := Blk.new wc _ _
      refine wpList_store_mid (by rfl) 31 (.tmp 3) (.tmp 14) (by rfl) wc.heap.size 0 (reqCells q (.slice b1 m1 o1) (.slice b2 m2 o2) (.slice b3 m3 o3)) (by rfl) (by rfl) (there_req hzb) size_req' one_req ?_
      have hfb := setCells_req (q' := q) (x := .slice b1 m1 o1) (y := .slice b2 m2 o2) (z := .slice b3 m3 o3) hzb
      have hal := (Keeps.refl wc).alloc (.cells #[.int .i64 0, .string ⟨#[]⟩, .int .i64 0, .int .i64 0, .int .i64 0, .bool false, .int .i64 0, .int .i64 0, .int .i64 0, .int .i64 0, .int .i64 0, .slice none 0 0, .int .i64 0, .string ⟨#[]⟩, .string ⟨#[]⟩, .slice none 0 0, .string ⟨#[]⟩, .int .i64 0, .int .i64 0, .slice none 0 0] 31)
      have hkf := Keeps.setCells (q := wc.heap.size) (Nat.le_refl _) (reqCells q (.slice b1 m1 o1) (.slice b2 m2 o2) (.slice b3 m3 o3)).toList 0 hal
      generalize (wc.alloc (.cells #[.int .i64 0, .string ⟨#[]⟩, .int .i64 0, .int .i64 0, .int .i64 0, .bool false, .int .i64 0, .int .i64 0, .int .i64 0, .int .i64 0, .int .i64 0, .slice none 0 0, .int .i64 0, .string ⟨#[]⟩, .string ⟨#[]⟩, .slice none 0 0, .string ⟨#[]⟩, .int .i64 0, .int .i64 0, .slice none 0 0] 31)).setCells wc.heap.size 0 (reqCells q (.slice b1 m1 o1) (.slice b2 m2 o2) (.slice b3 m3 o3)).toList = wf at *
      go_wp2_with fail
      go_meet
      exact ⟨_, _, _, _, _, rfl, rfl, rfl, hkc.trans hkf, hfb, HIN4.out.move (fun g hg hlt => ⟨Nat.lt_of_lt_of_le hlt hkf.size, hkf.block hlt⟩)⟩
    case rest =>
    obtain ⟨pb, w4, a, b, c, rfl, rfl, rfl, hk4, hb4, hin4⟩ := hcut
    obtain ⟨c1, m4, o4, c2, m5, o5, c3, m6, o6, rfl, rfl, rfl⟩ := ReqIn.form (S := fun i => i < w4.heap.size) hin4
    have HK4 := Lib.hid hk4
    have HB4 := Lib.hid hb4
    have HIN1 := Lib.hid hin4
    clear hk4 hb4 hin4
    go_upto_region 4 with fail
    go_cut [5, 6] from 7 (fun s12 s13 wx => ∃ (pb : Nat) (wn : World) (a b c : Value), wn = wx ∧ s12 = .pointer (some ⟨pb, 0, none⟩) ∧ s13 = .int .i64 z ∧ Keeps w4 wn ∧ Blk wn pb 35 (reqCells q a b c) ∧ ReqIn (fun g => g < wn.heap.size) wn q a b c)
    case first =>
      go_wp2_with fail
      refine (D2.out _).mono ?_
      rintro e wc ⟨a, b, c, rfl, hin, hkc⟩
      obtain ⟨b1, m1, o1, b2, m2, o2, b3, m3, o3, rfl, rfl, rfl⟩ := ReqIn.form (S := fun i => w4.heap.size ≤ i) hin
      have HIN4 := Lib.hid (show ReqIn (fun i => w4.heap.size ≤ i) wc q _ _ _ from hin)
      clear hin
      rename_i hKK
      refine hKK _ _ ?_
      iterate 4
        refine wpList_plain (by rfl) fun _ hK => ?_
        go_simp
        refine hK _ _ ?_
        clear hK
      try simp only [Act.put, List.setIfInBounds_toArray, List.set_cons_zero, List.set_cons_succ]
      have hzb : Blk (wc.alloc (.cells #[.int .i64 0, .string ⟨#[]⟩, .int .i64 0, .int .i64 0, .int .i64 0, .bool false, .int .i64 0, .int .i64 0, .int .i64 0, .int .i64 0, .int .i64 0, .slice none 0 0, .int .i64 0, .string ⟨#[]⟩, .string ⟨#[]⟩, .slice none 0 0, .string ⟨#[]⟩, .int .i64 0, .int .i64 0, .slice none 0 0] 35)) wc.heap.size 35 (reqCells Req.none (.slice none 0 0) (.slice none 0 0) (.slice none 0 0)) := Blk.new wc _ _
      refine wpList_store_mid (by rfl) 35 (.tmp 5) (.tmp 19) (by rfl) wc.heap.size 0 (reqCells q (.slice b1 m1 o1) (.slice b2 m2 o2) (.slice b3 m3 o3)) (by rfl) (by rfl) (there_req hzb) size_rq19' one_req ?_
      have hfb := setCells_req (q' := q) (x := .slice b1 m1 o1) (y := .slice b2 m2 o2) (z := .slice b3 m3 o3) hzb
      have hal := (Keeps.refl wc).alloc (.cells #[.int .i64 0, .string ⟨#[]⟩, .int .i64 0, .int .i64 0, .int .i64 0, .bool false, .int .i64 0, .int .i64 0, .int .i64 0, .int .i64 0, .int .i64 0, .slice none 0 0, .int .i64 0, .string ⟨#[]⟩, .string ⟨#[]⟩, .slice none 0 0, .string ⟨#[]⟩, .int .i64 0, .int .i64 0, .slice none 0 0] 35)
      have hkf := Keeps.setCells (q := wc.heap.size) (Nat.le_refl _) (reqCells q (.slice b1 m1 o1) (.slice b2 m2 o2) (.slice b3 m3 o3)).toList 0 hal
      generalize (wc.alloc (.cells #[.int .i64 0, .string ⟨#[]⟩, .int .i64 0, .int .i64 0, .int .i64 0, .bool false, .int .i64 0, .int .i64 0, .int .i64 0, .int .i64 0, .int .i64 0, .slice none 0 0, .int .i64 0, .string ⟨#[]⟩, .string ⟨#[]⟩, .slice none 0 0, .string ⟨#[]⟩, .int .i64 0, .int .i64 0, .slice none 0 0] 35)).setCells wc.heap.size 0 (reqCells q (.slice b1 m1 o1) (.slice b2 m2 o2) (.slice b3 m3 o3)).toList = wf at *
      go_wp2_with fail
      go_meet
      exact ⟨_, _, _, _, _, rfl, rfl, rfl, hkc.trans hkf, hfb, HIN4.out.move (fun g hg hlt => ⟨Nat.lt_of_lt_of_le hlt hkf.size, hkf.block hlt⟩)⟩
    case rest =>
    obtain ⟨qb, w5, a, b, c, rfl, rfl, rfl, hk5, hb5, hin5⟩ := hcut
    obtain ⟨b1, m1, o1, b2, m2, o2, b3, m3, o3, rfl, rfl, rfl⟩ := ReqIn.form (S := fun i => i < w5.heap.size) hin5
    have HK5 := Lib.hid (HK4.out.trans hk5)
    have HR1 := Lib.hid (fun w' (k : Keeps w5 w') => rng_of_blk ((HB4.out.keeps hk5).keeps k))
    have HR2 := Lib.hid (fun w' (k : Keeps w5 w') => rng_of_blk (hb5.keeps k))
    have HTD := Lib.hid (fun w' => told_req q c1 m4 o4 c2 m5 o5 c3 m6 o6 w')
    have HSA2 := Lib.hid (fun w' (k : Keeps w5 w') => HSA.out w' (fun i => i < w4.heap.size) (fun i => i < w5.heap.size) (.slice c1 m4 o4) (.slice c2 m5 o5) (.slice c3 m6 o6) (.slice b1 m1 o1) (.slice b2 m2 o2) (.slice b3 m3 o3) (HIN1.out.move (fun g hg hlt => ⟨hg, (hk5.trans k).block hlt⟩)) (hin5.move (fun g hg hlt => ⟨hg, k.block hlt⟩)))
    clear hk5 hb5 hin5
    simp only [reqV, reqCells] at HTD HSA2 HR1 HR2
    go_wp2_with fail
    refine wp_region_held_drew (S := fun w' => Keeps w5 w') (by kernel_rfl) (Keeps.refl _).drew (fun hHeld => ?_)
    refine held_take 0 (some 21) ?v1 (by kernel_rfl) (by kernel_rfl) (by kernel_rfl) (by rfl) (fun _ _ _ h => h) (by assumption) ?hv1 ?rest1
    case hv1 => (intro o ho w hSw; simp only [List.getElem?_toArray, List.getElem?_cons_zero, Option.some.injEq] at ho; subst ho; (try dsimp only at hSw); go_simp; try (with_reducible rfl))
    try simp only [Act.put, List.setIfInBounds_toArray, List.set_cons_zero, List.set_cons_succ]
    refine held_take 1 (some 22) ?v2 (by kernel_rfl) (by kernel_rfl) (by kernel_rfl) (by rfl) (fun _ _ _ h => h) (by assumption) ?hv2 ?rest2
    case hv2 => (intro o ho w hSw; simp only [List.getElem?_toArray, List.getElem?_cons_zero, List.getElem?_cons_succ, Option.some.injEq] at ho; subst ho; (try dsimp only at hSw); go_simp; try (with_reducible rfl))
    try simp only [Act.put, List.setIfInBounds_toArray, List.set_cons_zero, List.set_cons_succ]
    refine held_take 2 (some 23) ?v3 (by kernel_rfl) (by kernel_rfl) (by kernel_rfl) (by rfl) (fun _ _ _ h => h) (by assumption) ?hv3 ?rest3
    case hv3 => (intro o ho w hSw; simp only [List.getElem?_toArray, List.getElem?_cons_zero, List.getElem?_cons_succ, Option.some.injEq] at ho; subst ho; (try dsimp only at hSw); go_simp; try (with_reducible rfl))
    try simp only [Act.put, List.setIfInBounds_toArray, List.set_cons_zero, List.set_cons_succ]
    refine held_take 3 (some 24) ?v4 (by kernel_rfl) (by kernel_rfl) (by kernel_rfl) (by rfl) (fun _ _ _ h => h) (by assumption) ?hv4 ?rest4
    case hv4 => (intro o ho w hSw; simp only [List.getElem?_toArray, List.getElem?_cons_zero, List.getElem?_cons_succ, Option.some.injEq] at ho; subst ho; (try dsimp only at hSw); go_simp; try (with_reducible rfl))
    try simp only [Act.put, List.setIfInBounds_toArray, List.set_cons_zero, List.set_cons_succ]
    refine held_big 4 (some 25) 31 (.tmp 3) pb (reqList q (.slice c1 m4 o4) (.slice c2 m5 o5) (.slice c3 m6 o6)) _ (by kernel_rfl) (by kernel_rfl) (by kernel_rfl) (by rfl) (by rfl) (fun _ _ _ h => h) (by assumption) (fun w h => HR1.out w h) Tryz.underlying31 (by rfl) size_req ?_
    try simp only [Act.put, List.setIfInBounds_toArray, List.set_cons_zero, List.set_cons_succ]
    refine held_big 6 (some 27) 35 (.tmp 5) qb (reqList q (.slice b1 m1 o1) (.slice b2 m2 o2) (.slice b3 m3 o3)) _ (by kernel_rfl) (by kernel_rfl) (by kernel_rfl) (by rfl) (by rfl) (fun _ _ _ h => h) (by assumption) (fun w h => HR2.out w h) Tryz.underlying35 (by rfl) size_rq19 ?_
    try simp only [Act.put, List.setIfInBounds_toArray, List.set_cons_zero, List.set_cons_succ]
    refine held_call 5 (by kernel_rfl) (by rfl) (by rfl) (fun o ho K hK => ?_)
    simp only [List.getElem?_toArray, List.getElem?_cons_zero, List.getElem?_cons_succ, Option.some.injEq] at ho
    subst ho
    go_simp
    go_at_call 8
    refine (HTD.out _).mono ?_
    rintro e w' ⟨rfl, hkn⟩
    have hq := Keeps.trans hHeld hkn
    try go_simp
    refine hK.out _ _ hq (fun hHeld => ?_)
    clear hK K
    try simp only [Act.put, List.setIfInBounds_toArray, List.set_cons_zero, List.set_cons_succ]
    refine held_call 7 (by kernel_rfl) (by rfl) (by rfl) (fun o ho K hK => ?_)
    simp only [List.getElem?_toArray, List.getElem?_cons_zero, List.getElem?_cons_succ, Option.some.injEq] at ho
    subst ho
    go_simp
    go_at_call 7
    refine (HSA2.out _ hHeld).mono ?_
    rintro e w' ⟨rfl, hkn⟩
    have hq := Keeps.trans hHeld hkn
    try go_simp
    refine hK.out _ _ hq (fun hHeld => ?_)
    clear hK K
    try simp only [Act.put, List.setIfInBounds_toArray, List.set_cons_zero, List.set_cons_succ]
    refine held_take 8 (some 29) ?v5 (by kernel_rfl) (by kernel_rfl) (by kernel_rfl) (by rfl) (fun _ _ _ h => h) (by assumption) ?hv5 ?rest5
    case hv5 => (intro o ho w hSw; simp only [List.getElem?_toArray, List.getElem?_cons_zero, List.getElem?_cons_succ, Option.some.injEq] at ho; subst ho; (try dsimp only at hSw); go_simp; try (with_reducible rfl))
    try simp only [Act.put, List.setIfInBounds_toArray, List.set_cons_zero, List.set_cons_succ]
    refine held_take 9 (some 30) ?v6 (by kernel_rfl) (by kernel_rfl) (by kernel_rfl) (by rfl) (fun _ _ _ h => h) (by assumption) ?hv6 ?rest6
    case hv6 => (intro o ho w hSw; simp only [List.getElem?_toArray, List.getElem?_cons_zero, List.getElem?_cons_succ, Option.some.injEq] at ho; subst ho; (try dsimp only at hSw); go_simp; try (with_reducible rfl))
    try simp only [Act.put, List.setIfInBounds_toArray, List.set_cons_zero, List.set_cons_succ]
    refine held_call 10 (by kernel_rfl) (by rfl) (by rfl) (fun o ho K hK => ?_)
    simp only [List.getElem?_toArray, List.getElem?_cons_zero, List.getElem?_cons_succ, Option.some.injEq] at ho
    subst ho
    go_simp
    go_at_call 4
    refine (HL.out _ (HT.out.keeps (HK5.out.trans hHeld))).mono ?_
    rintro e w' ⟨rfl, hkn⟩
    have hq := Keeps.trans hHeld hkn
    try go_simp
    refine hK.out _ _ hq (fun hHeld => ?_)
    clear hK K
    try simp only [Act.put, List.setIfInBounds_toArray, List.set_cons_zero, List.set_cons_succ]
    refine held_take 11 (some 32) ?v7 (by kernel_rfl) (by kernel_rfl) (by kernel_rfl) (by rfl) (fun _ _ _ h => h) (by assumption) ?hv7 ?rest7
    case hv7 => (intro o ho w hSw; simp only [List.getElem?_toArray, List.getElem?_cons_zero, List.getElem?_cons_succ, Option.some.injEq] at ho; subst ho; (try dsimp only at hSw); go_simp; try (with_reducible rfl))
    try simp only [Act.put, List.setIfInBounds_toArray, List.set_cons_zero, List.set_cons_succ]
    refine held_take 12 (some 2) ?v8 (by kernel_rfl) (by kernel_rfl) (by kernel_rfl) (by rfl) (fun _ _ _ h => h) (by assumption) ?hv8 ?rest8
    case hv8 => (intro o ho w hSw; simp only [List.getElem?_toArray, List.getElem?_cons_zero, List.getElem?_cons_succ, Option.some.injEq] at ho; subst ho; (try dsimp only at hSw); go_simp; try (with_reducible rfl))
    try simp only [Act.put, List.setIfInBounds_toArray, List.set_cons_zero, List.set_cons_succ]
    refine wpAnyH_done (by kernel_rfl) ?_ _
    have hS := hHeld
    go_wp2_with fail
    go_ret
    exact ⟨rfl, HK5.out.trans hS⟩
  · have hl' : 5000 < l.length := by omega
    clear hl
    go_enter Tryz.func3, Tryz.ntmps3
    go_wp2_with fail
    refine (HL.out _ HT.out).mono ?_
    rintro e w5 ⟨rfl, hk5⟩
    go_wp2_with fail
    go_ret
    exact ⟨rfl, hk5⟩
end Go.Proofs.YtgbnpehpfadehaaGreatDoor
