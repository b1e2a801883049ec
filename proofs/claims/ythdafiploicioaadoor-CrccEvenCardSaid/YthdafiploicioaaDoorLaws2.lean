/-
  The walks of the sums' laws that write bytes of their own.
-/
import Derived.Test.YthdafiploicioaaDoorLaws
import Derived.Test.YthdafiploicioaaDoorOwn
set_option linter.unusedVariables false
namespace Go.Proofs.YthdafiploicioaaDoor
open Go.RowKit
theorem info_u8 : (Tryd.prog.info? 5).map (fun i => (i.zero, i.size, i.bytes)) = some (some (.int .u8 0), 1, 1) := by kernel_rfl

theorem size4 (s : ByteArray) (n : Nat) (hs : s.size ≤ 140737488351232) : (ByteArray.mk (s.data.toList ++ (Crc.le4 n).take 4).toArray).size ≤ maxLen := by
  have h : ((Crc.le4 n).take 4).length ≤ 4 := List.length_take_le _ _
  have e : (ByteArray.mk (s.data.toList ++ (Crc.le4 n).take 4).toArray).size = s.size + ((Crc.le4 n).take 4).length := by
    show (s.data.toList ++ (Crc.le4 n).take 4).toArray.size = _
    rw [List.size_toArray, List.length_append, Array.length_toList]; rfl
  rw [e]; unfold maxLen; omega

set_option maxHeartbeats 400000 in
theorem ends_true (s : ByteArray) (hs : s.size ≤ 140737488351232) (w : World) (ht : Tab w) :
    Calls Tryd.prog 8 #[.string s] w fun e w' => e = .returned (.bool true) ∧ Keeps w w' := by
  obtain ⟨i0, hi, hz0, hz1, hz2⟩ := info_parts info_u8
  have hn := Crc.ext_lt (show 0 < 4294967296 by omega) s.data.toList
  have HE := Lib.hid (Crc.ends s.data.toList)
  go_enter Tryd.func8, Tryd.ntmps8
  go_wp2_with fail
  refine (sum_any s (by unfold maxLen; omega) _ ht).mono ?_
  rintro e w1 ⟨rfl, hk1⟩
  generalize hnn : Crc.ext 0 s.data.toList = n at *
  have HN := Lib.hid hnn
  clear hnn
  obtain ⟨cap, w2, hrun, hsz2, hbuf, hk2⟩ := run_bytes_buf (P := Tryd.prog) w1 9 28 5 s (by unfold maxLen; omega) Tryd.underlying9 Tryd.underlying28 Tryd.underlying5
  have HB := Lib.hid hbuf
  have HZ := Lib.hid hsz2
  clear hbuf hsz2
  go_wp2_with fail
  go_loopw [4, 5] (fun v i wr => ∃ k : Nat, k ≤ 4 ∧ i = .int .i64 k ∧ Buf wr w1.heap.size v (s.data.toList ++ (Crc.le4 n).take k) ∧ Keeps w1 wr) (fun _ i _ => 4 - (intOf i).toNat)
  case atStart => exact ⟨0, by omega, rfl, by simpa using HB.out, hk2⟩
  case round =>
    obtain ⟨k, hk, rfl, hb, hkr⟩ := hrel
    by_cases hlt : k < 4
    · have hbv : bv (UInt8.ofNat (n / 2 ^ (8 * k) % 256)) = .int .u8 ((n : Int) / 2 ^ (8 * k) % 256) := by rw [bv_ofNat _ (by omega)]; simp
      have HBV := Lib.hid hbv
      have hle := Lib.hid (Crc.le4_take n k hlt)
      have hlen : (s.data.toList ++ (Crc.le4 n).take k).length + 1 ≤ 140737488355328 := by
        have : ((Crc.le4 n).take k).length ≤ k := List.length_take_le _ _
        simp only [List.length_append, ByteArray.size_data, Array.length_toList]; omega
      have HL := Lib.hid hlen
      have hz := hkr.size
      clear hbv hlen
      go_wp2_with (at_builtin; go_must (refine wpList_append_byte _ rfl _ _ 28 rfl w1.heap.size 5 i0 Tryd.underlying28 hi hz0 hz1 hz2 _ _ rfl (hb.keeps ((Keeps.refl _).alloc _)) ⟨wr.heap.size, 0, none⟩ 1 (UInt8.ofNat (n / 2 ^ (8 * k) % 256)) rfl (by rw [HBV.out]; simp) HL.out (by simp; omega) ?_); intro v' w' hb' hg')
      have hk' : Keeps w1 w' := (hkr.alloc _).grown hg' (Own.base hb)
      clear hg'
      go_wp2_with fail
      go_roundw
      case rel => exact ⟨k + 1, by omega, by go_num, by rw [hle.out, ← List.append_assoc]; exact hb', hk'⟩
      case measure => simp [intOf]; omega
    · obtain rfl : k = 4 := by omega
      have hconv := Buf.text (P := Tryd.prog) hb 28 9 5 Tryd.underlying28 Tryd.underlying5 Tryd.underlying9
      have ht4 := Lib.hid ((ht.keeps hk1).keeps hkr)
      clear hb
      go_wp2_with fail
      refine (sum_any _ (size4 s n hs) _ ht4.out).mono ?_
      rintro e w3 ⟨rfl, hk3⟩
      rw [show Crc.ext 0 (ByteArray.mk (s.data.toList ++ (Crc.le4 n).take 4).toArray).data.toList = 1214729159 from HE.out]
      go_wp2_with fail
      refine (live_true _ (ht4.out.keeps hk3)).mono ?_
      rintro e w4 ⟨rfl, hk4⟩
      go_wp2_with fail
      go_ret
      exact ⟨rfl, ((hk1.trans hkr).trans hk3).trans hk4⟩
end Go.Proofs.YthdafiploicioaaDoor
