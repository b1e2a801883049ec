/-
  The walks of the laws on filters, 2.
-/
import Derived.Test.YtnmbfnlokacogaaExLaws
set_option linter.unusedVariables false
namespace Go.Proofs.Ytnmbfnlokacogaa
open Go.RowKit
attribute [local go_sem ↓] Go.wp_at_zero Go.wp_at_succ

theorem Tree.print_ok {t : Tree} (h : t.ok = true) : t.print = (t.bytes, 0) := by unfold Tree.print; rw [h]; rfl
theorem Tree.print_bad {t : Tree} (h : t.ok = false) : t.print = ([], 1) := by unfold Tree.print; rw [h]; rfl
theorem Tree.bytes_pos (t : Tree) : 0 < t.bytes.length := by rw [Tree.bytes_kids]; cases t; simp [Tree.headb]
theorem Tree.ok_bytes {t : Tree} (h : t.ok = true) : t.bytes.length ≤ 60660 := by
  simp only [Tree.ok, Bool.and_eq_true, decide_eq_true_eq] at h
  have := Tree.bytes_len 6 t h.2
  omega

set_option maxRecDepth 4000 in
set_option maxHeartbeats 3200000 in
theorem back_true (t : Tree) (kv : Value) (w : World) (hk : KAt w kv t.kids) : Calls Try.prog 6 #[treeV t kv] w fun e w' => e = .returned (.bool true) ∧ Keeps w w' := by
  have HS := fun w' (h : Keeps w w') => ex_small t kv w' (hk.keeps h)
  have C1 := fun w' (h : Keeps w w') => ex_print t kv w' (hk.keeps h)
  have P1 := fun (hl : t.bytes.length ≤ 60660) w => ex_parse t.bytes (by omega) w
  have hpb := Tree.parse_bytes t
  have HKK := Lib.hid hk
  obtain ⟨ad, cap, rfl⟩ := hk.form
  simp only [treeV] at HS C1 ⊢
  have HS := Lib.hid HS
  clear hk
  have hkw := (Keeps.refl w).alloc (.cells #[.int .i64 t.op, .string (str t.name), .string (str t.value), .slice ad t.kids.length cap] 24)
  have hbq := Blk.new w 24 #[.int .i64 t.op, .string (str t.name), .string (str t.value), .slice ad t.kids.length cap]
  obtain ⟨b, hb⟩ : ∃ b, sm t = b := ⟨_, rfl⟩
  rw [hb] at HS
  clear hb
  cases b
  · go_enter Try.func6, Try.ntmps6
    go_wp2_with fail
    refine (HS.out _ hkw).mono ?_
    rintro e w1 ⟨rfl, hk1⟩
    go_wp2_with fail
    refine (ex_live _).mono ?_
    rintro e w2 ⟨rfl, hk2⟩
    go_wp2_with fail
    go_ret
    exact ⟨rfl, (hkw.trans hk1).trans hk2⟩
  · cases hok : t.ok
    · rw [Tree.print_bad hok] at C1
      simp only [retS] at C1
      have C1 := Lib.hid C1
      have hst := str_toList
      clear hok hpb P1
      go_enter Try.func6, Try.ntmps6
      go_wp2_with fail
      refine (HS.out _ hkw).mono ?_
      rintro e w1 ⟨rfl, hk1⟩
      have hkw := hkw.trans hk1
      obtain ⟨q0, q1, q2, q3⟩ := (hbq.keeps hk1).four
      go_wp2_with fail
      refine (C1.out _ hkw).mono ?_
      rintro e w2 ⟨rfl, hk2⟩
      have hkw := hkw.trans hk2
      go_wp2_with fail
      refine (ex_live _).mono ?_
      rintro e w4 ⟨rfl, hk4⟩
      go_wp2_with fail
      go_ret
      exact ⟨rfl, hkw.trans hk4⟩
    · rw [Tree.print_ok hok] at C1
      have P1 := P1 (Tree.ok_bytes hok)
      rw [hpb hok] at P1
      have SM := fun kv' w' (h : Keeps w w') h2 => ex_same t _ kv' w' (by have := Tree.ok_height hok; omega) (HKK.out.keeps h) h2
      obtain ⟨B, hB⟩ : ∃ B, t.bytes = B := ⟨_, rfl⟩
      rw [hB] at C1 P1
      simp only [retS, retX, treeV] at C1 P1 SM
      have C1 := Lib.hid C1
      have P1 := Lib.hid P1
      have SM := Lib.hid SM
      clear hok hpb hB
      go_enter Try.func6, Try.ntmps6
      go_wp2_with fail
      refine (HS.out _ hkw).mono ?_
      rintro e w1 ⟨rfl, hk1⟩
      have hkw := hkw.trans hk1
      have hbq := hbq.keeps hk1
      obtain ⟨q0, q1, q2, q3⟩ := hbq.four
      go_wp2_with fail
      refine (C1.out _ hkw).mono ?_
      rintro e w2 ⟨rfl, hk2⟩
      have hkw := hkw.trans hk2
      have hbq := hbq.keeps hk2
      go_wp2_with fail
      refine (P1.out _).mono ?_
      rintro e w3 ⟨kv, rfl, hka, hk3⟩
      obtain ⟨ad', cap', rfl⟩ := hka.form
      have hal := (Keeps.refl w3).alloc (.cells #[.int .i64 t.op, .string (str t.name), .string (str t.value), .slice ad' t.kids.length cap'] 24)
      have HKA := Lib.hid (hka.keeps hal)
      have hkw := hkw.trans hk3
      have hbq := hbq.keeps hk3
      obtain ⟨q0, q1, q2, q3⟩ := (hbq.keeps hal).four
      have hl := hbq.lt
      have hne : ¬ w.heap.size = w3.heap.size := by omega
      have hkw := hkw.trans hal
      clear hka hl
      go_wp2_with fail
      refine (SM.out _ _ hkw HKA.out).mono ?_
      rintro e w4 ⟨rfl, hk4⟩
      go_wp2_with fail
      refine (ex_live _).mono ?_
      rintro e w5 ⟨rfl, hk5⟩
      go_wp2_with fail
      go_ret
      exact ⟨rfl, (hkw.trans hk4).trans hk5⟩

theorem Buf.lit {w : World} {base : Nat} {T : TypeId} {b : UInt8} (hb : base ≤ w.heap.size) : Buf (w.alloc (.cells #[bv b] T)) base (.slice (some ⟨w.heap.size, 0, none⟩) 1 1) [b] := by
  refine ⟨rfl, .inr ⟨w.heap.size, 1, rfl, hb, Nat.le_refl _, by simp [maxLen], fun j u hj => ?_, fun j hj => ?_⟩⟩
  · match j, hj with
    | 0, hj => simp at hj; subst hj; exact cell_new w _ T 0 _ rfl
  · obtain rfl : j = 0 := by omega
    exact ⟨by rw [cell_new w #[bv b] T 0 (bv b) rfl]; rfl, (Blk.new w T #[bv b]).frozen 0⟩

set_option maxRecDepth 4000 in
set_option maxHeartbeats 3200000 in
theorem forth_true (s : ByteArray) (hs : s.size ≤ 140737488351232) (m : Nat) (hm : m < 256) (w : World) : Calls Try.prog 7 #[.string s, .int .u8 m] w fun e w' => e = .returned (.bool true) ∧ Keeps w w' := by
  obtain ⟨S, rfl⟩ : ∃ S, s = str S := ⟨_, (str_of s).symm⟩
  rw [str_size] at hs
  have hsz := str_size
  have hst := str_toList
  have hap := str_append
  have P1 := fun w => ex_parse S (by omega) w
  have hno := Tree.parse_none (l := S)
  obtain ⟨⟨x, e⟩, hx⟩ : ∃ r, Tree.parse S = r := ⟨_, rfl⟩
  rw [hx] at P1 hno
  by_cases he : e = 0
  · subst he
    obtain ⟨hok, hS⟩ := Tree.parse_ok hx
    have hpos := Tree.bytes_pos x
    have hle := Tree.ok_bytes hok
    have hshort := Tree.parse_short x hok
    have hmore := Tree.parse_more x hok (UInt8.ofNat m)
    have C1 := fun kv w h => ex_print x kv w h
    rw [Tree.print_ok hok] at C1
    rw [← hS] at C1 hpos hle hshort hmore
    have hsh := hshort (S.length - 1) (by omega)
    have P2 := fun w => ex_parse (S.take (S.length - 1)) (by simp; omega) w
    obtain ⟨⟨y, e2⟩, hy⟩ : ∃ r, Tree.parse (S.take (S.length - 1)) = r := ⟨_, rfl⟩
    rw [hy] at P2 hsh
    obtain rfl : e2 = 2 := hsh
    have P3 := fun w => ex_parse (S ++ [UInt8.ofNat m]) (by simp; omega) w
    obtain ⟨⟨z, e3⟩, hz⟩ : ∃ r, Tree.parse (S ++ [UInt8.ofNat m]) = r := ⟨_, rfl⟩
    rw [hz] at P3 hmore
    obtain rfl : e3 = 3 := hmore
    have hex : (str S).extract 0 (S.length - 1) = str (S.take (S.length - 1)) := by
      rw [← str_of ((str S).extract 0 (S.length - 1)), Lib.extract_data, str_list]; simp
    have hn0 : ((S.length : Int) == 0) = false := by simp; intro h; rw [h] at hpos; simp at hpos
    have hn0' : (S.length == 0) = false := by simp; intro h; rw [h] at hpos; simp at hpos
    obtain ⟨p, hp⟩ : ∃ p, S.length - 1 = p := ⟨_, rfl⟩
    have hpl : S.length = p + 1 := by omega
    have hsub : (S.length : Int) - 1 = (p : Int) := by omega
    have hle1 : (p : Int) ≤ 70000 := by omega
    have hs1 : ¬ 9223372036854775807 < S.length + 1 := by omega
    simp only [retX, treeV, retS] at P1 C1 P2 P3
    rw [hp] at P2 hex
    have P1 := Lib.hid P1
    have P2 := Lib.hid P2
    have P3 := Lib.hid P3
    have C1 := Lib.hid C1
    have hbvm : bv (UInt8.ofNat m) = .int .u8 (m : Int) := bv_ofNat m hm
    clear hshort hx hy hz hok hS hno hpos
    go_enter Try.func7, Try.ntmps7
    go_wp2_with fail
    refine (P1.out _).mono ?_
    rintro e w1 ⟨kv, rfl, hka, hk1⟩
    obtain ⟨ad, cap, rfl⟩ := hka.form
    have hal := (Keeps.refl w1).alloc (.cells #[.int .i64 x.op, .string (str x.name), .string (str x.value), .slice ad x.kids.length cap] 24)
    have HKA := Lib.hid (hka.keeps hal)
    have hk1 := hk1.trans hal
    clear hka hal
    go_wp2_with fail
    refine (C1.out _ _ HKA.out).mono ?_
    rintro e w2 ⟨rfl, hk2⟩
    have hk2 := hk1.trans hk2
    go_wp2_with fail
    refine (P2.out _).mono ?_
    rintro e w3 ⟨kv, rfl, hkb, hk3⟩
    obtain ⟨ad3, cap3, rfl⟩ := hkb.form
    have hal3 := (Keeps.refl w3).alloc (.cells #[.int .i64 y.op, .string (str y.name), .string (str y.value), .slice ad3 y.kids.length cap3] 24)
    have hk3 := (hk2.trans hk3).trans hal3
    have hbuf := Buf.lit (w := w3.alloc (.cells #[.int .i64 y.op, .string (str y.name), .string (str y.value), .slice ad3 y.kids.length cap3] 24)) (base := 0) (T := 5) (b := UInt8.ofNat m) (Nat.zero_le _)
    rw [World.size_alloc, hbvm] at hbuf
    have hconv := Buf.text (P := Try.prog) hbuf 36 9 5 Try.underlying36 Try.underlying5 Try.underlying9
    have hk3' := hk3.alloc (.cells #[.int .u8 (m : Int)] 5)
    clear hkb hbuf hal3
    go_wp2_with fail
    refine (P3.out _).mono ?_
    rintro e w4 ⟨kv, rfl, hkc, hk4⟩
    obtain ⟨ad4, cap4, rfl⟩ := hkc.form
    have hk4 := (hk3'.trans hk4).alloc (.cells #[.int .i64 z.op, .string (str z.name), .string (str z.value), .slice ad4 z.kids.length cap4] 24)
    clear hkc hconv
    go_wp2_with fail
    refine (ex_live _).mono ?_
    rintro e w5 ⟨rfl, hk5⟩
    go_wp2_with fail
    go_ret
    exact ⟨rfl, hk4.trans hk5⟩
  · have hz := hno he
    cases hz
    have hd : (e != 0) = true := by simpa using he
    simp only [retX, treeV, Tree.op, Tree.name, Tree.value, Tree.kids] at P1
    have P1 := Lib.hid P1
    clear hx hno he
    go_enter Try.func7, Try.ntmps7
    go_wp2_with fail
    refine (P1.out _).mono ?_
    rintro e w1 ⟨kv, rfl, hka, hk1⟩
    obtain ⟨ad, cap, rfl⟩ : ∃ ad cap, kv = .slice ad 0 cap := by obtain ⟨a, c, h⟩ := hka.form; exact ⟨a, c, h⟩
    have hk1 := hk1.alloc (.cells #[.int .i64 0, .string (str []), .string (str []), .slice ad 0 cap] 24)
    clear hka
    go_wp2_with fail
    refine (ex_live _).mono ?_
    rintro e w5 ⟨rfl, hk5⟩
    go_wp2_with fail
    go_ret
    exact ⟨rfl, hk1.trans hk5⟩
end Go.Proofs.Ytnmbfnlokacogaa
