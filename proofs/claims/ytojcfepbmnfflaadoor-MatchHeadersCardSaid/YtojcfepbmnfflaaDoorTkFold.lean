/-
  token.Fold, and the document's: the walks.
-/
import Derived.Test.YtojcfepbmnfflaaDoorOwn
import Derived.Test.YtojcfepbmnfflaaDoorTk
import Derived.LoopTactic
import Derived.Test.YtojcfepbmnfflaaDoorRows
set_option linter.unusedVariables false
namespace Go.Proofs.YtojcfepbmnfflaaDoor
open Go.RowKit

/-- folded up to a place -/
theorem fold_set (E : List UInt8) (k : Nat) (h : k < E.length) : (Tk.fold (E.take k) ++ E.drop k).set k (Tk.up (E.getD k 0)) = Tk.fold (E.take (k + 1)) ++ E.drop (k + 1) := by
  have hl : (Tk.fold (E.take k)).length = k := by rw [Tk.fold_length]; simp; omega
  rw [List.set_append_right _ _ (by omega), hl, Nat.sub_self, List.drop_eq_getElem_cons h, List.set_cons_zero, List.take_succ_eq_append_getElem h, Tk.fold_append, List.append_assoc]
  simp [Tk.fold, List.getD_eq_getElem?_getD, List.getElem?_eq_getElem h]
theorem fold_same (E : List UInt8) (k : Nat) (h : k < E.length) (hu : Tk.up (E.getD k 0) = E.getD k 0) : Tk.fold (E.take k) ++ E.drop k = Tk.fold (E.take (k + 1)) ++ E.drop (k + 1) := by
  rw [← fold_set E k h, hu]
  refine (List.ext_getElem (by simp) fun i h1 h2 => ?_).symm
  rw [List.getElem_set]
  split
  · rename_i e; subst e
    have hl : (Tk.fold (E.take k)).length = k := by rw [Tk.fold_length]; simp; omega
    rw [List.getElem_append_right (by omega)]
    simp [hl, List.getD_eq_getElem?_getD, List.getElem?_eq_getElem h]
  · rfl
theorem fold_at (E : List UInt8) (k : Nat) (h : k < E.length) : (Tk.fold (E.take k) ++ E.drop k).getD k 0 = E.getD k 0 := by
  have hl : (Tk.fold (E.take k)).length = k := by rw [Tk.fold_length]; simp; omega
  rw [List.getD_eq_getElem?_getD, List.getElem?_append_right (by omega), hl, List.getD_eq_getElem?_getD]; simp
theorem fold_len (E : List UInt8) (k : Nat) (h : k ≤ E.length) : (Tk.fold (E.take k) ++ E.drop k).length = E.length := by
  rw [List.length_append, Tk.fold_length]; simp; omega

set_option maxRecDepth 4000 in
set_option maxHeartbeats 800000 in
theorem tk_fold (s : ByteArray) (hs : s.size ≤ 2 ^ 62) (w : World) :
    Calls Tryd.prog 43 #[.string s] w fun e w' => e = .returned (.string (str (Tk.fold s.data.toList))) ∧ Keeps w w' := by
  obtain ⟨cap, w1, hconv, hsz1, hb1, hk1⟩ := run_bytes_buf (P := Tryd.prog) w 9 65 5 s (by unfold maxLen; omega) Tryd.underlying9 Tryd.underlying65 Tryd.underlying5
  obtain ⟨E, hE⟩ : ∃ E, s.data.toList = E := ⟨_, rfl⟩
  obtain ⟨n, hn⟩ : ∃ n, s.size = n := ⟨_, rfl⟩
  have hEl : E.length = n := by rw [← hE, ← hn]; simp
  rw [hE] at hb1 ⊢
  rw [hn] at hconv hs hb1
  have HE := Lib.hid hEl
  have HB := Lib.hid hb1
  have HS := Lib.hid hs
  have HSZ := Lib.hid hsz1
  clear hEl hE hn hs hb1 hsz1
  go_enter Tryd.func43, Tryd.ntmps43
  go_wp2_with fail
  go_loopw [4, 5, 10] (fun x c i wr => ∃ k : Nat, k ≤ n ∧ i = .int .i64 k ∧ Buf wr w.heap.size (.slice (some ⟨w.heap.size, 0, none⟩) n cap) (Tk.fold (E.take k) ++ E.drop k) ∧ Keeps w wr) (fun _ _ i _ => n - (intOf i).toNat)
  case atStart => exact ⟨0, by omega, rfl, by simpa [Tk.fold] using HB.out, hk1⟩
  case round =>
    obtain ⟨k, hk, rfl, hbk, hkr⟩ := hrel
    have hS := HS.out
    by_cases hlt : k < n
    · have hkE : k < E.length := by rw [HE.out]; exact hlt
      have hcell := Buf.get hbk k (by rw [fold_len E k (by omega)]; omega)
      rw [fold_at E k hkE] at hcell
      have hfree := Buf.free hbk k (by rw [fold_len E k (by omega)]; omega)
      have hup := Tk.up_nat (E.getD k 0)
      have hu := UInt8.toNat_lt (E.getD k 0)
      have HF := Lib.hid (fold_set E k hkE)
      have HF2 := Lib.hid (fold_same E k hkE)
      have HBK := Lib.hid hbk
      obtain ⟨b, hb⟩ : ∃ b, E.getD k 0 = b := ⟨_, rfl⟩
      rw [hb] at hcell hup hu HF HF2
      obtain ⟨c, hc⟩ : ∃ c, b.toNat = c := ⟨_, rfl⟩
      rw [hc] at hcell hup hu
      have HC := Lib.hid hc
      clear hbk hb hc hkE
      by_cases h65 : 65 ≤ c ∧ c ≤ 90
      · rw [if_pos h65] at hup
        have e1 : decide ((65 : Int) ≤ (c : Int)) = true := by simp; omega
        have e2 : decide ((c : Int) ≤ 90) = true := by simp; omega
        have HU := Lib.hid hup
        have e3 : ((c : Int) + 32) % 256 = ((c + 32 : Nat) : Int) := by omega
        clear hup h65 hu
        go_wp2_with fail
        go_roundw
        case rel => exact ⟨k + 1, by omega, by go_num, by
          rw [← HF.out, show (Value.int IntKind.u8 _) = bv (Tk.up b) by unfold bv; rw [HU.out]; rfl]
          exact Buf.set HBK.out _ _, hkr.setCell (Nat.le_refl _) _⟩
        case measure => simp [intOf]; omega
      · rw [if_neg h65] at hup
        have HU : Tk.up b = b := UInt8.toNat_inj.1 (by rw [hup, HC.out])
        have hN : (decide ((65 : Int) ≤ (c : Int)) = false) ∨ (decide ((65 : Int) ≤ (c : Int)) = true ∧ decide ((c : Int) ≤ 90) = false) := by
          by_cases h : 65 ≤ c
          · right; constructor
            · simp; omega
            · simp; omega
          · left; simp; omega
        have HU := Lib.hid HU
        clear hup h65 hu
        rcases hN with e1 | ⟨e1, e2⟩
        · go_wp2_with fail
          go_roundw
          case rel => exact ⟨k + 1, by omega, by go_num, by rw [← HF2.out HU.out]; exact HBK.out, hkr⟩
          case measure => simp [intOf]; omega
        · go_wp2_with fail
          go_roundw
          case rel => exact ⟨k + 1, by omega, by go_num, by rw [← HF2.out HU.out]; exact HBK.out, hkr⟩
          case measure => simp [intOf]; omega
    · obtain rfl : k = n := by omega
      have hall : Tk.fold (E.take k) ++ E.drop k = Tk.fold E := by rw [List.take_of_length_le (Nat.le_of_eq HE.out), List.drop_of_length_le (Nat.le_of_eq HE.out)]; simp
      rw [hall] at hbk
      have hconv2 := Buf.text (P := Tryd.prog) hbk 65 9 5 Tryd.underlying65 Tryd.underlying5 Tryd.underlying9
      clear hbk hall
      go_wp2_with fail
      go_ret
      exact ⟨rfl, hkr⟩
set_option maxRecDepth 4000 in
set_option maxHeartbeats 800000 in
theorem ref_fold (s : ByteArray) (hs : s.size ≤ 2 ^ 62) (w : World) :
    Calls Tryd.prog 47 #[.string s] w fun e w' => e = .returned (.string (str (Tk.fold s.data.toList))) ∧ Keeps w w' := by
  obtain ⟨cap, w1, hconv, hsz1, hb1, hk1⟩ := run_bytes_buf (P := Tryd.prog) w 9 65 5 s (by unfold maxLen; omega) Tryd.underlying9 Tryd.underlying65 Tryd.underlying5
  obtain ⟨E, hE⟩ : ∃ E, s.data.toList = E := ⟨_, rfl⟩
  obtain ⟨n, hn⟩ : ∃ n, s.size = n := ⟨_, rfl⟩
  have hEl : E.length = n := by rw [← hE, ← hn]; simp
  rw [hE] at hb1 ⊢
  rw [hn] at hconv hs hb1
  have HE := Lib.hid hEl
  have HB := Lib.hid hb1
  have HS := Lib.hid hs
  have HSZ := Lib.hid hsz1
  clear hEl hE hn hs hb1 hsz1
  go_enter Tryd.func47, Tryd.ntmps47
  go_wp2_with fail
  go_loopw [4] (fun i wr => ∃ k : Nat, k ≤ n ∧ i = .int .i64 k ∧ Buf wr w.heap.size (.slice (some ⟨w.heap.size, 0, none⟩) n cap) (Tk.fold (E.take k) ++ E.drop k) ∧ Keeps w wr) (fun i _ => n - (intOf i).toNat)
  case atStart => exact ⟨0, by omega, rfl, by simpa [Tk.fold] using HB.out, hk1⟩
  case round =>
    obtain ⟨k, hk, rfl, hbk, hkr⟩ := hrel
    have hS := HS.out
    by_cases hlt : k < n
    · have hkE : k < E.length := by rw [HE.out]; exact hlt
      have hcell := Buf.get hbk k (by rw [fold_len E k (by omega)]; omega)
      rw [fold_at E k hkE] at hcell
      have hfree := Buf.free hbk k (by rw [fold_len E k (by omega)]; omega)
      have hup := Tk.up_nat (E.getD k 0)
      have hu := UInt8.toNat_lt (E.getD k 0)
      have HF := Lib.hid (fold_set E k hkE)
      have HF2 := Lib.hid (fold_same E k hkE)
      have HBK := Lib.hid hbk
      obtain ⟨b, hb⟩ : ∃ b, E.getD k 0 = b := ⟨_, rfl⟩
      rw [hb] at hcell hup hu HF HF2
      obtain ⟨c, hc⟩ : ∃ c, b.toNat = c := ⟨_, rfl⟩
      rw [hc] at hcell hup hu
      have HC := Lib.hid hc
      clear hbk hb hc hkE
      by_cases h65 : 65 ≤ c ∧ c ≤ 90
      · rw [if_pos h65] at hup
        have e1 : decide ((65 : Int) ≤ (c : Int)) = true := by simp; omega
        have e2 : decide ((c : Int) ≤ 90) = true := by simp; omega
        have HU := Lib.hid hup
        have e3 : (((c : Int) - 65) % 256 + 97) % 256 = ((c + 32 : Nat) : Int) := by omega
        clear hup h65 hu
        go_wp2_with fail
        go_roundw
        case rel => exact ⟨k + 1, by omega, by go_num, by
          rw [← HF.out, show (Value.int IntKind.u8 _) = bv (Tk.up b) by unfold bv; rw [HU.out]; rfl]
          exact Buf.set HBK.out _ _, hkr.setCell (Nat.le_refl _) _⟩
        case measure => simp [intOf]; omega
      · rw [if_neg h65] at hup
        have HU : Tk.up b = b := UInt8.toNat_inj.1 (by rw [hup, HC.out])
        have hN : (decide ((65 : Int) ≤ (c : Int)) = false) ∨ (decide ((65 : Int) ≤ (c : Int)) = true ∧ decide ((c : Int) ≤ 90) = false) := by
          by_cases h : 65 ≤ c
          · right; constructor
            · simp; omega
            · simp; omega
          · left; simp; omega
        have HU := Lib.hid HU
        clear hup h65 hu
        rcases hN with e1 | ⟨e1, e2⟩
        · go_wp2_with fail
          go_roundw
          case rel => exact ⟨k + 1, by omega, by go_num, by rw [← HF2.out HU.out]; exact HBK.out, hkr⟩
          case measure => simp [intOf]; omega
        · go_wp2_with fail
          go_roundw
          case rel => exact ⟨k + 1, by omega, by go_num, by rw [← HF2.out HU.out]; exact HBK.out, hkr⟩
          case measure => simp [intOf]; omega
    · obtain rfl : k = n := by omega
      have hall : Tk.fold (E.take k) ++ E.drop k = Tk.fold E := by rw [List.take_of_length_le (Nat.le_of_eq HE.out), List.drop_of_length_le (Nat.le_of_eq HE.out)]; simp
      rw [hall] at hbk
      have hconv2 := Buf.text (P := Tryd.prog) hbk 65 9 5 Tryd.underlying65 Tryd.underlying5 Tryd.underlying9
      clear hbk hall
      go_wp2_with fail
      go_ret
      exact ⟨rfl, hkr⟩
end Go.Proofs.YtojcfepbmnfflaaDoor
