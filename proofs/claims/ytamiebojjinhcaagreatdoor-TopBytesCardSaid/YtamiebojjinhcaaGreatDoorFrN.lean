/-
  Frames: in plain words, and the walks of the program's and the document's.
  The first frame of a text: the program's Next: the walk.
-/
import Derived.Test.YtamiebojjinhcaaGreatDoorVfRead
import Derived.Test.YtamiebojjinhcaaGreatDoorBtDecPl
import Derived.Test.YtamiebojjinhcaaGreatDoorExWrite
import Derived.Test.YtamiebojjinhcaaGreatDoorExRefC
import Derived.Deep.RegionHeld3
import Derived.Deep.DrawnRows
set_option linter.unusedVariables false
namespace Go.Proofs.YtamiebojjinhcaaGreatDoor
open Go.RowKit

namespace Fr
def frame (s : List UInt8) : List UInt8 × Int := if 60000 < s.length then ([], 1) else (Vi.be 4 s.length ++ s, 0)
def next (l : List UInt8) : List UInt8 × Int × Int :=
  if l.length < 4 then ([], 0, 2)
  else if 60000 < Vi.beval (l.take 4) then ([], 0, 3)
  else if l.length < 4 + Vi.beval (l.take 4) then ([], 0, 2)
  else ((l.drop 4).take (Vi.beval (l.take 4)), ((4 + Vi.beval (l.take 4) : Nat) : Int), 0)
theorem fixed4 (n : Nat) (h : n ≤ 60000) : Vi.fixed (n : Int) 4 = (Vi.be 4 n, 0) := by
  unfold Vi.fixed
  rw [if_neg (by have : (n : Int) ≤ 60000 := by omega
                 simp; omega)]
  simp
theorem read4 (l : List UInt8) : Vi.read l 0 4 = if l.length < 4 then (0, 0, 2) else ((Vi.beval (l.take 4) : Int), 4, 0) := by
  unfold Vi.read
  split
  · omega
  · split
    · rw [if_pos (by omega)]
    · have hlt := Vi.beval_lt (l.take 4)
      have hl4 : (l.take 4).length = 4 := by rw [List.length_take]; omega
      rw [hl4] at hlt
      have hlt2 : Vi.beval (List.take (Int.toNat 4) (List.drop (Int.toNat 0) l)) < 256 ^ 4 := hlt
      have h256 : (256 : Nat) ^ 4 = 4294967296 := by decide
      rw [h256] at hlt2
      rw [if_neg (by omega), if_neg (by omega)]
      rfl
theorem next_frame (s B : List UInt8) (h : s.length ≤ 60000) : next ((frame s).1 ++ B) = (s, ((4 + s.length : Nat) : Int), 0) := by
  unfold frame
  rw [if_neg (by omega)]
  simp only
  have h4 := Vi.be_length 4 s.length
  have ht : ((Vi.be 4 s.length ++ s) ++ B).take 4 = Vi.be 4 s.length := by
    rw [List.append_assoc, List.take_append_of_le_length (by omega), List.take_of_length_le (by omega)]
  have hv : Vi.beval (Vi.be 4 s.length) = s.length := Vi.beval_be 4 _ (by omega)
  have hd : ((Vi.be 4 s.length ++ s) ++ B).drop 4 = s ++ B := by
    rw [List.append_assoc, List.drop_append_of_le_length (by omega), List.drop_eq_nil_of_le (by omega), List.nil_append]
  unfold next
  rw [ht, hv, hd]
  have hl : ((Vi.be 4 s.length ++ s) ++ B).length = 4 + s.length + B.length := by simp only [List.length_append, h4]
  rw [hl, if_neg (by omega), if_neg (by omega), if_neg (by omega)]
  rw [List.take_left]
theorem frame_length (s : List UInt8) (h : s.length ≤ 60000) : (frame s).1.length = 4 + s.length := by
  unfold frame; rw [if_neg (by omega)]; simp [Vi.be_length]
theorem frame_ok (s : List UInt8) (h : s.length ≤ 60000) : (frame s).2 = 0 := by unfold frame; rw [if_neg (by omega)]
end Fr

set_option maxRecDepth 4000 in
set_option maxHeartbeats 1600000 in
theorem fr_frame (l : List UInt8) (hl : l.length ≤ 2 ^ 62) (w : World) :
    Calls Tryz.prog 8 #[.string (str l)] w fun e w' => e = retS (Fr.frame l) ∧ Keeps w w' := by
  have hsz : (str l).size = l.length := str_size l
  by_cases h : 60000 < l.length
  · have HE := Lib.hid (show Fr.frame l = ([], 1) by unfold Fr.frame; rw [if_pos h])
    have hd : decide (60000 < (l.length : Int)) = true := by simp; omega
    clear h
    go_enter Tryz.func8, Tryz.ntmps8
    go_wp2_with fail
    go_ret2
    exact ⟨by rw [HE.out]; rfl, Keeps.refl _⟩
  · have HE := Lib.hid (show Fr.frame l = (Vi.be 4 l.length ++ l, 0) by unfold Fr.frame; rw [if_neg h])
    have hd : decide (60000 < (l.length : Int)) = false := by simp; omega
    have hF := fun w => fixed (l.length : Int) (by omega) (by omega) 4 w
    rw [Fr.fixed4 l.length (by omega)] at hF
    simp only [retF] at hF
    have HF := Lib.hid hF
    have HA := Lib.hid (str_append (Vi.be 4 l.length) l)
    have hz2 : (str (Vi.be 4 l.length)).size = 4 := by rw [str_size, Vi.be_length]
    have hlim : ((str (Vi.be 4 l.length)).size + (str l).size : Nat) ≤ 9223372036854775807 := by rw [hz2, hsz]; omega
    clear h hF
    go_enter Tryz.func8, Tryz.ntmps8
    go_wp2_with fail
    refine (HF.out _).mono ?_
    rintro e w1 ⟨rfl, hk1⟩
    go_wp2_with fail
    go_ret2
    exact ⟨by rw [HE.out]; show Ending.returned (.tuple #[.string (str (Vi.be 4 l.length) ++ str l), _]) = _; rw [HA.out]; rfl, hk1⟩

end Go.Proofs.YtamiebojjinhcaaGreatDoor

namespace Go.Proofs.YtamiebojjinhcaaGreatDoor
open Go.RowKit

set_option maxRecDepth 4000 in
set_option maxHeartbeats 800000 in
theorem fr_next (l : List UInt8) (hl : l.length ≤ 2 ^ 62) (w : World) :
    Calls Tryz.prog 9 #[.string (str l)] w fun e w' => e = retT (Fr.next l) ∧ Keeps w w' := by
  have hsz : (str l).size = l.length := str_size l
  have HR := fun w => read (str l) (by rw [str_size]; exact hl) 0 4 w
  simp only [str_list] at HR
  rw [Fr.read4] at HR
  obtain ⟨N, hN⟩ : ∃ N, Vi.beval (l.take 4) = N := ⟨_, rfl⟩
  have hnx : Fr.next l = if l.length < 4 then ([], 0, 2) else if 60000 < N then ([], 0, 3) else if l.length < 4 + N then ([], 0, 2) else ((l.drop 4).take N, ((4 + N : Nat) : Int), 0) := by rw [← hN]; rfl
  rw [hN] at HR
  by_cases h4 : l.length < 4
  · rw [if_pos h4] at HR hnx
    simp only [ret3] at HR
    have HR := Lib.hid HR
    have HE := Lib.hid hnx
    clear hnx h4 hN
    go_enter Tryz.func9, Tryz.ntmps9
    go_wp2_with fail
    refine (HR.out _).mono ?_
    rintro e w1 ⟨rfl, hk⟩
    go_wp2_with fail
    exact bodyPost_ret (v := .tuple #[.string ⟨#[]⟩, .int .i64 0, .int .i64 2]) (by simp [results, Tryz.f9, go_sem]) rfl ⟨by rw [HE.out]; rfl, hk⟩
  · rw [if_neg h4] at HR hnx
    simp only [ret3] at HR
    have HR := Lib.hid HR
    by_cases h6 : 60000 < N
    · rw [if_pos h6] at hnx
      have HE := Lib.hid hnx
      have hd : decide ((60000 : Int) < (N : Int)) = true := by simp; omega
      clear hnx h4 hN h6
      go_enter Tryz.func9, Tryz.ntmps9
      go_wp2_with fail
      refine (HR.out _).mono ?_
      rintro e w1 ⟨rfl, hk⟩
      go_wp2_with fail
      exact bodyPost_ret (v := .tuple #[.string ⟨#[]⟩, .int .i64 0, .int .i64 3]) (by simp [results, Tryz.f9, go_sem]) rfl ⟨by rw [HE.out]; rfl, hk⟩
    · rw [if_neg h6] at hnx
      have hd : decide ((60000 : Int) < (N : Int)) = false := by simp; omega
      by_cases h7 : l.length < 4 + N
      · rw [if_pos h7] at hnx
        have HE := Lib.hid hnx
        have hd2 : decide ((l.length : Int) - 4 < (N : Int)) = true := by simp; omega
        have hlen : (4 : Int) ≤ (l.length : Int) := by omega
        have hlen2 : (l.length : Int) ≤ 9223372036854775807 := by omega
        clear hnx h4 hN h6 h7
        go_enter Tryz.func9, Tryz.ntmps9
        go_wp2_with fail
        refine (HR.out _).mono ?_
        rintro e w1 ⟨rfl, hk⟩
        go_wp2_with fail
        exact bodyPost_ret (v := .tuple #[.string ⟨#[]⟩, .int .i64 0, .int .i64 2]) (by simp [results, Tryz.f9, go_sem]) rfl ⟨by rw [HE.out]; rfl, hk⟩
      · rw [if_neg h7] at hnx
        have HE := Lib.hid hnx
        obtain ⟨c, hc⟩ : ∃ c : Nat, 4 = c := ⟨4, rfl⟩
        have hc4 : (4 : Int) = (c : Int) := by omega
        have hex := str_extract l c N
        obtain ⟨T, hT⟩ : ∃ T, (l.drop c).take N = T := ⟨_, rfl⟩
        rw [hT] at hex
        have HR := Lib.hid (fun w => (HR.out w).mono (fun e w' h => (show e = .returned (.tuple #[.int .i64 (N : Int), .int .i64 (c : Int), .int .i64 0]) ∧ Keeps w w' from by rw [← hc4]; exact h)))
        have hd2 : decide ((l.length : Int) - c < (N : Int)) = false := by simp; omega
        have hcl : c ≤ l.length := by omega
        have hcn : c + N ≤ l.length := by omega
        have hll : (l.length : Int) ≤ 9223372036854775807 := by omega
        have HE := Lib.hid (show Fr.next l = (T, ((c + N : Nat) : Int), 0) by rw [HE.out, ← hT, ← hc])
        clear hnx h4 hN h6 h7 hT hc hc4
        go_enter Tryz.func9, Tryz.ntmps9
        go_wp2_with fail
        refine (HR.out _).mono ?_
        rintro e w1 ⟨rfl, hk⟩
        go_wp2_with fail
        refine bodyPost_ret (v := .tuple #[.string (str T), .int .i64 ((c : Int) + N), .int .i64 0]) (by simp [results, Tryz.f9, go_sem, hex]) rfl ⟨by rw [HE.out]; rfl, hk⟩

end Go.Proofs.YtamiebojjinhcaaGreatDoor
