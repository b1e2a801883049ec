/-
  The walk of the law on three texts laid upon one another.
-/
import Derived.Test.YthdafiploicioaaDoorLaws2
import Derived.BigRegion
import Derived.Deep.RegionHeld3
import Derived.Deep.DrawnRows
set_option linter.unusedVariables false
namespace Go.Proofs.YthdafiploicioaaDoor
open Go.RowKit
attribute [local go_sem ↓] Go.wp_at_zero Go.wp_at_succ

theorem set_mid (E : List UInt8) (n k : Nat) (e : UInt8) (hE : E.length = n) (hk : k < n) (he : E[k]? = some e) : (E.take k ++ List.replicate (n - k) 0).set k e = E.take (k + 1) ++ List.replicate (n - (k + 1)) 0 := by
  have hl : (E.take k).length = k := by simp; omega
  rw [List.set_append_right _ _ (by omega), hl, Nat.sub_self, show n - k = (n - (k + 1)) + 1 by omega, List.replicate_succ, List.set_cons_zero]
  obtain ⟨h1, h2⟩ := List.getElem?_eq_some_iff.1 he
  rw [List.take_succ_eq_append_getElem h1, h2]
  simp

theorem xor3_val (x y z : UInt8) : Value.int IntKind.u8 (bits BinOp.xor IntKind.u8 (bits BinOp.xor IntKind.u8 (x.toNat : Int) (y.toNat : Int)) (z.toNat : Int)) = bv (x ^^^ y ^^^ z) := by
  rw [u8_xor_nat _ _ x.toNat_lt y.toNat_lt, ← UInt8.toNat_xor, u8_xor_nat _ _ (x ^^^ y).toNat_lt z.toNat_lt, ← UInt8.toNat_xor]; rfl
theorem three (a b c : ByteArray) (n : Nat) (hna : n ≤ a.size) (hnb : n ≤ b.size) (hnc : n ≤ c.size) :
    ∃ E : List UInt8, E.length = n ∧ (∀ k (h : k < n), E[k]? = some ((a[k]'(by omega)) ^^^ (b[k]'(by omega)) ^^^ (c[k]'(by omega)))) ∧
      Crc.ext 0 E = Crc.ext 0 (a.data.toList.take n) ^^^ Crc.ext 0 (b.data.toList.take n) ^^^ Crc.ext 0 (c.data.toList.take n) := by
  have la : (a.data.toList.take n).length = n := by simp; omega
  have lb : (b.data.toList.take n).length = n := by simp; omega
  have lc : (c.data.toList.take n).length = n := by simp; omega
  refine ⟨List.zipWith (· ^^^ ·) (List.zipWith (· ^^^ ·) (a.data.toList.take n) (b.data.toList.take n)) (c.data.toList.take n), by simp; omega, fun k h => ?_, ?_⟩
  · have ga : (a.data.toList.take n)[k]? = some (a[k]'(by omega)) := by rw [List.getElem?_take, if_pos h, List.getElem?_eq_getElem (by simp; omega)]; rfl
    have gb : (b.data.toList.take n)[k]? = some (b[k]'(by omega)) := by rw [List.getElem?_take, if_pos h, List.getElem?_eq_getElem (by simp; omega)]; rfl
    have gc : (c.data.toList.take n)[k]? = some (c[k]'(by omega)) := by rw [List.getElem?_take, if_pos h, List.getElem?_eq_getElem (by simp; omega)]; rfl
    simp only [List.getElem?_zipWith, ga, gb, gc]
  · have hz : ∀ (x y : List UInt8), Crc.text (List.zipWith (· ^^^ ·) x y) = List.zipWith (· ^^^ ·) (Crc.text x) (Crc.text y) := by
      intro x
      induction x with
      | nil => intro y; rfl
      | cons u x ih =>
        intro y
        cases y with
        | nil => rfl
        | cons v y =>
          have := ih y
          simp only [Crc.text] at this
          simp [Crc.text, this, UInt8.toNat_xor]
    unfold Crc.ext
    rw [hz, hz]
    have h3 := Crc.run3 (Crc.text (a.data.toList.take n)) (Crc.text (b.data.toList.take n)) (Crc.text (c.data.toList.take n)) (Crc.neg 0) (Crc.neg 0) (Crc.neg 0) (by simp only [Crc.text, List.length_map]; omega) (by simp only [Crc.text, List.length_map]; omega)
    rw [Nat.xor_self, Nat.zero_xor] at h3
    rw [h3]
    unfold Crc.neg
    generalize Crc.run _ _ = x
    generalize Crc.run _ _ = y
    generalize Crc.run _ _ = z
    have e : ∀ x y z m : Nat, (x ^^^ y ^^^ z) ^^^ m = (x ^^^ m) ^^^ (y ^^^ m) ^^^ (z ^^^ m) := fun x y z m => by
      rw [show (x ^^^ m) ^^^ (y ^^^ m) ^^^ (z ^^^ m) = (x ^^^ y ^^^ z ^^^ m) ^^^ (m ^^^ m) by ac_rfl, Nat.xor_self, Nat.xor_zero]
    exact e x y z _

set_option maxHeartbeats 400000 in
theorem even_true (a : ByteArray) (ha : a.size ≤ 140737488351232) (b : ByteArray) (hb : b.size ≤ 140737488351232) (c : ByteArray) (hc : c.size ≤ 140737488351232) (w : World) (ht : Tab w) :
    Calls Tryd.prog 7 #[.string a, .string b, .string c] w fun e w' => e = .returned (.bool true) ∧ Keeps w w' := by
  obtain ⟨i0, hi, hz0, hz1, hz2⟩ := info_parts info_u8
  obtain ⟨n, hmin, hna, hnb, hnc⟩ : ∃ n : Nat, (if (c.size : Int) < if b.size < a.size then (b.size : Int) else (a.size : Int) then (c.size : Int) else if b.size < a.size then (b.size : Int) else (a.size : Int)) = (n : Int) ∧ n ≤ a.size ∧ n ≤ b.size ∧ n ≤ c.size := by
    by_cases h1 : b.size < a.size
    · by_cases h2 : c.size < b.size
      · exact ⟨c.size, by simp [h1, h2], by omega, by omega, by omega⟩
      · exact ⟨b.size, by simp [h1, h2], by omega, by omega, by omega⟩
    · by_cases h2 : c.size < a.size
      · exact ⟨c.size, by simp [h1, h2], by omega, by omega, by omega⟩
      · exact ⟨a.size, by simp [h1, h2], by omega, by omega, by omega⟩
  have HM := Lib.hid hmin
  clear hmin
  go_enter Tryd.func7, Tryd.ntmps7
  go_wp2_with (at_make; rw [HM.out]; refine wpList_make_full _ rfl _ _ 28 rfl w.heap.size 5 i0 (.int .u8 0) 1 Tryd.underlying28 hi hz0 hz1 .i64 .i64 _ _ n rfl rfl rfl rfl (by rw [hz2]; omega) (by unfold maxLen; omega) (Nat.le_refl _) ?_; intro w1 hown hgrow)
  have hbuf : Buf w1 w.heap.size (.slice (some ⟨w.heap.size, 0, none⟩) n n) (List.replicate n 0) := by
    have h := Own.of_row hown
    rw [Nat.mul_one, show (Value.int IntKind.u8 0).cells = #[.int .u8 0] from rfl, toList_madeCells_one] at h
    unfold Buf
    simpa [bv] using h
  have hk1 : Keeps w w1 := (Keeps.refl w).grown hgrow (fun k h => by cases h)
  clear hown hgrow
  have HB := Lib.hid hbuf
  clear hbuf
  obtain ⟨E, hE, hEk, hEsum⟩ := three a b c n hna hnb hnc
  have HEK := Lib.hid hEk
  have HES := Lib.hid hEsum
  clear hEk hEsum HM
  go_wp2_with fail
  go_loopw [9] (fun i wr => ∃ k : Nat, k ≤ n ∧ i = .int .i64 k ∧ Buf wr w.heap.size (.slice (some ⟨w.heap.size, 0, none⟩) n n) (E.take k ++ List.replicate (n - k) 0) ∧ Keeps w wr) (fun i _ => n - (intOf i).toNat)
  case atStart => exact ⟨0, by omega, rfl, by simpa using HB.out, hk1⟩
  case round =>
    obtain ⟨k, hk, rfl, hbk, hkr⟩ := hrel
    by_cases hlt : k < n
    · have hlen : (E.take k ++ List.replicate (n - k) (0 : UInt8)).length = n := by simp; omega
      have hcell := Buf.get hbk k (by omega)
      have hfree := Buf.free hbk k (by omega)
      have hka : k < a.size := by omega
      have hkb : k < b.size := by omega
      have hkc : k < c.size := by omega
      have hkaI : (k : Int) < (a.size : Int) := by omega
      have hkbI : (k : Int) < (b.size : Int) := by omega
      have hkcI : (k : Int) < (c.size : Int) := by omega
      have hknI : (k : Int) < (n : Int) := by omega
      have hk0I : (0 : Int) ≤ (k : Int) := by omega
      have HBK := Lib.hid hbk
      clear hbk hlen
      go_wp2_with fail
      go_region
      go_wp2_with fail
      go_roundw
      case rel => exact ⟨k + 1, by omega, by go_num, by
        rw [xor3_val, ← set_mid E n k _ hE hlt (HEK.out k hlt)]
        exact (Buf.set HBK.out _ _).keeps (Keeps.refl _).drew, (hkr.setCell (Nat.le_refl _) _).drew⟩
      case measure => simp [intOf]; omega
    · obtain rfl : k = n := by omega
      have hEt : E.take k ++ List.replicate (k - k) 0 = E := by simp [List.take_of_length_le (Nat.le_of_eq hE)]
      rw [hEt] at hbk
      have hmax : (ByteArray.mk E.toArray).size ≤ maxLen := by
        show E.toArray.size ≤ maxLen
        rw [List.size_toArray]; unfold maxLen; omega
      have HMX := Lib.hid hmax
      have hconv : ∀ W, Keeps wr W → Sem.run Tryd.prog (convert 28 9 (.slice (some ⟨w.heap.size, 0, none⟩) k k)) W = .ok (.string ⟨E.toArray⟩) W := fun W hW =>
        Buf.text (P := Tryd.prog) (hbk.keeps hW) 28 9 5 Tryd.underlying28 Tryd.underlying5 Tryd.underlying9
      have HC := Lib.hid hconv
      have ht4 := Lib.hid (ht.keeps hkr)
      have hkaI : (k : Int) ≤ (a.size : Int) := by omega
      have hkbI : (k : Int) ≤ (b.size : Int) := by omega
      have hkcI : (k : Int) ≤ (c.size : Int) := by omega
      have hk0I : (0 : Int) ≤ (k : Int) := by omega
      clear hbk hEt hmax hconv HB
      go_wp2_with fail
      have el : Crc.ext 0 E < 4294967296 := Crc.ext_lt (by omega) _
      obtain ⟨xa, hxa⟩ : ∃ x, Crc.ext 0 (a.extract 0 k).data.toList = x := ⟨_, rfl⟩
      obtain ⟨xb, hxb⟩ : ∃ x, Crc.ext 0 (b.extract 0 k).data.toList = x := ⟨_, rfl⟩
      obtain ⟨xc, hxc⟩ : ∃ x, Crc.ext 0 (c.extract 0 k).data.toList = x := ⟨_, rfl⟩
      obtain ⟨xe, hxe⟩ : ∃ x, Crc.ext 0 (ByteArray.mk E.toArray).data.toList = x := ⟨_, rfl⟩
      have hq : ((xe : Int) == bits BinOp.xor IntKind.u32 (bits BinOp.xor IntKind.u32 (xa : Int) (xb : Int)) (xc : Int)) = true := by
        have la : xa < 4294967296 := hxa ▸ Crc.ext_lt (by omega) _
        have lb : xb < 4294967296 := hxb ▸ Crc.ext_lt (by omega) _
        have lc : xc < 4294967296 := hxc ▸ Crc.ext_lt (by omega) _
        rw [u32_xor_nat _ _ la lb, u32_xor_nat _ _ (Nat.xor_lt_two_pow (n := 32) la lb) lc, beq_iff_eq]
        have e : xe = xa ^^^ xb ^^^ xc := by
          rw [← hxa, ← hxb, ← hxc, ← hxe, Lib.extract_data, Lib.extract_data, Lib.extract_data]
          simpa using HES.out
        rw [e]
      have HXA := Lib.hid hxa
      have HXB := Lib.hid hxb
      have HXC := Lib.hid hxc
      have HXE := Lib.hid hxe
      clear hxa hxb hxc hxe el
      go_region_held3 (fun w' => Keeps wr w' ∧ Sem.run Tryd.prog (convert 28 9 (.slice (some ⟨w.heap.size, 0, none⟩) k k)) w' = .ok (.string ⟨E.toArray⟩) w') ((first | exact ⟨(Keeps.refl _).drew, HC.out _ (Keeps.refl _).drew⟩ | (refine ⟨Keeps.trans (And.left ‹Keeps wr _ ∧ _›) (by assumption), HC.out _ (Keeps.trans (And.left ‹Keeps wr _ ∧ _›) (by assumption))⟩))) ((first | (go_at_call 9; refine (sum_any _ ?_ _ (ht4.out.keeps (And.left ‹Keeps wr _ ∧ _›))).mono ?_; (first | exact HMX.out | (simp [maxLen]; omega)); rintro e w' ⟨rfl, hkn⟩; (first | rw [HXE.out] | rw [HXA.out] | rw [HXB.out] | rw [HXC.out])) | (go_at_call 13; refine (live_true _ (ht4.out.keeps (And.left ‹Keeps wr _ ∧ _›))).mono ?_; rintro e w' ⟨rfl, hkn⟩)))
      go_wp2_with fail
      go_ret
      exact ⟨rfl, hkr.trans (And.left ‹Keeps wr _ ∧ _›)⟩
end Go.Proofs.YthdafiploicioaaDoor
