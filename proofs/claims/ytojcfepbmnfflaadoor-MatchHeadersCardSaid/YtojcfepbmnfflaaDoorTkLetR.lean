/-
  The document's letter: the walk.
-/
import Derived.Test.YtojcfepbmnfflaaDoorTkLet
import Derived.Lib.Strings
set_option linter.unusedVariables false
namespace Go.Proofs.YtojcfepbmnfflaaDoor
open Go.RowKit

theorem get_at (t : ByteArray) (i : Nat) : (t.get! i).toNat = Tk.at' t.data.toList i := by
  unfold Tk.at'
  cases t with
  | mk bs =>
    show (bs[i]!).toNat = _
    rw [List.getD_eq_getElem?_getD, Array.getElem?_toList, getElem!_def]
    cases bs[i]? <;> rfl
theorem at_drop (l : List UInt8) (p i : Nat) : Tk.at' (l.drop p) i = Tk.at' l (p + i) := by
  unfold Tk.at'; rw [List.getD_eq_getElem?_getD, List.getD_eq_getElem?_getD, List.getElem?_drop]
theorem decode_drop (s : ByteArray) (p : Nat) : Utf8.decode s p = Tk.dec (s.data.toList.drop p) := by
  rw [Lib.decode_at, get_at, get_at, get_at, get_at]
  unfold Tk.dec
  rw [at_drop, at_drop, at_drop, at_drop, List.length_drop]
  simp
theorem decodeGo_eq (t : ByteArray) (h : t.size ≠ 0) : Lib.decodeGo t = Tk.dec t.data.toList := by
  unfold Lib.decodeGo
  rw [if_neg h, decode_drop]; rfl
theorem decodeGo_tail (s : ByteArray) (p : Nat) (h : p < s.size) : Lib.decodeGo (s.extract p s.size) = Tk.dec (s.data.toList.drop p) := by
  have e : (s.extract p s.size).data.toList = s.data.toList.drop p := by
    rw [Lib.extract_data, List.take_of_length_le (by simp)]
  have hz : (s.extract p s.size).size ≠ 0 := by
    have := congrArg List.length e
    simp at this ⊢; omega
  rw [decodeGo_eq _ hz, e]

set_option maxHeartbeats 1600000 in
theorem ref_letter (s : ByteArray) (hs : s.size ≤ 2 ^ 62) (p : Nat) (hp : p < s.size) (w : World) (hT : U8 w) :
    Calls Tryd.prog 52 #[.string s, .int .i64 p] w fun e w' => e = .returned (.tuple #[.bool (Tk.isL (s.data.toList.drop p)), .int .i64 (Tk.sz (s.data.toList.drop p))]) ∧ Keeps w w' := by
  have hdec := decodeGo_tail s p hp
  have hC := Lib.hid (Tryd.utf8_DecodeRuneInString (s.extract p s.size) w hT)
  rw [hdec] at hC
  have hat : Tk.at' (s.data.toList.drop p) 0 = (s[p]'hp).toNat := by
    rw [at_drop, Nat.add_zero, ← get_at, Utf8W.get!_of_lt s p hp]
  obtain ⟨k, hk⟩ : ∃ k, Tk.sz (s.data.toList.drop p) = k := ⟨_, rfl⟩
  have hk' : (Tk.dec (s.data.toList.drop p)).2 = k := hk
  have hpos := Tk.sz_pos (s.data.toList.drop p)
  obtain ⟨r, hr⟩ : ∃ r, (Tk.dec (s.data.toList.drop p)).1 = r := ⟨_, rfl⟩
  obtain ⟨c, hc⟩ : ∃ c, (s[p]'hp).toNat = c := ⟨_, rfl⟩
  unfold Tk.isL
  rw [hk', hr] at hC
  rw [hk] at hpos ⊢
  rw [hat, hc]
  clear hk hk' hr hat hdec
  by_cases hlt : 1 < k
  · have hk : decide ((1 : Int) < (k : Int)) = true := by simp; omega
    have hk2 : decide (1 < k) = true := by simp; omega
    rw [hk2]
    clear hlt hpos hk2
    go_enter Tryd.func52, Tryd.ntmps52
    go_wp2_with fail
    refine hC.out.mono ?_
    rintro e w1 ⟨rfl, hk1⟩
    go_wp2_with fail
    go_ret2
    exact ⟨rfl, hk1⟩
  · obtain rfl : k = 1 := by omega
    clear hlt hpos
    have h1 : decide ((48 : Int) ≤ (c : Int)) = decide (48 ≤ c) := by simp; omega
    have h2 : decide ((c : Int) ≤ 57) = decide (c ≤ 57) := by simp; omega
    have h3 : ((c : Int) == 95) = (c == 95) := by rw [Bool.eq_iff_iff]; simp; omega
    have h4 : decide ((65 : Int) ≤ (c : Int)) = decide (65 ≤ c) := by simp; omega
    have h5 : decide ((c : Int) ≤ 90) = decide (c ≤ 90) := by simp; omega
    have h6 : decide ((97 : Int) ≤ (c : Int)) = decide (97 ≤ c) := by simp; omega
    have h7 : decide ((c : Int) ≤ 122) = decide (c ≤ 122) := by simp; omega
    unfold Tk.asc
    generalize decide (48 ≤ c) = a1 at *
    generalize decide (c ≤ 57) = a2 at *
    generalize (c == 95) = a3 at *
    generalize decide (65 ≤ c) = a4 at *
    generalize decide (c ≤ 90) = a5 at *
    generalize decide (97 ≤ c) = a6 at *
    generalize decide (c ≤ 122) = a7 at *
    go_enter Tryd.func52, Tryd.ntmps52
    go_wp2_with fail
    refine hC.out.mono ?_
    rintro e w1 ⟨rfl, hk1⟩
    cases a1 <;> cases a2 <;> cases a3 <;> cases a4 <;> cases a5 <;> cases a6 <;> cases a7 <;> (go_wp2_with fail; go_ret2; exact ⟨rfl, hk1⟩)
end Go.Proofs.YtojcfepbmnfflaaDoor
