/-
  The walk of the law on numbers in a row.
-/
import Derived.Test.YtnpkiiomjhaleaaVLaws2
import Derived.OpenShut
set_option linter.unusedVariables false
namespace Go.Proofs.Ytnpkiiomjhaleaa
open Go.RowKit

/-- numbers, one behind the other -/
def rowOf (l : List Int) : List UInt8 := l.flatMap Vi.put
theorem rowOf_append (a b : List Int) : rowOf (a ++ b) = rowOf a ++ rowOf b := by simp [rowOf]
theorem rowOf_length : ∀ l : List Int, (rowOf l).length ≤ 10 * l.length
  | [] => by simp [rowOf]
  | n :: l => by
    have := rowOf_length l
    have h2 := Vi.put_length n
    simp only [rowOf, List.flatMap_cons, List.length_append, List.length_cons] at *
    omega
theorem rowOf_take (l : List Int) (k : Nat) (n : Int) (h : l[k]? = some n) : rowOf (l.take (k + 1)) = rowOf (l.take k) ++ Vi.put n := by
  rw [List.take_add_one, h, Option.toList, rowOf_append]; simp [rowOf]
theorem rowOf_get (l : List Int) (k : Nat) (n : Int) (h : l[k]? = some n) (h0 : -9223372036854775808 ≤ n) (h1 : n ≤ 9223372036854775807) :
    Vi.get (rowOf l) ((rowOf (l.take k)).length : Int) = (n, ((rowOf (l.take (k + 1))).length : Int), 0) := by
  obtain ⟨hlt, rfl⟩ := List.getElem?_eq_some_iff.1 h
  have e : rowOf l = rowOf (l.take k) ++ Vi.put l[k] ++ rowOf (l.drop (k + 1)) := by
    rw [← rowOf_take l k _ h, ← rowOf_append, List.take_append_drop]
  have := Vi.get_put (rowOf (l.take k)) (rowOf (l.drop (k + 1))) l[k] h0 h1
  rw [e, this, rowOf_take l k _ h]; simp

set_option maxRecDepth 4000 in
set_option maxHeartbeats 800000 in
theorem row_long (ad : Option Addr) (len cap : Nat) (hlen : 100 < len) (w : World) :
    Calls Try.prog 6 #[.slice ad len cap] w fun e w' => e = .returned (.bool true) ∧ Keeps w w' := by
  have hd : decide ((100 : Int) < (len : Int)) = true := by simp; omega
  clear hlen
  go_enter Try.func6, Try.ntmps6
  go_wp2_with fail
  refine (live_true _).mono ?_
  rintro e w4 ⟨rfl, hk4⟩
  go_wp2_with fail
  go_ret
  exact ⟨rfl, hk4⟩

set_option maxRecDepth 4000 in
set_option maxHeartbeats 800000 in
theorem row_none (ad : Option Addr) (cap : Nat) (w : World) :
    Calls Try.prog 6 #[.slice ad 0 cap] w fun e w' => e = .returned (.bool true) ∧ Keeps w w' := by
  go_enter Try.func6, Try.ntmps6
  go_wp2_with fail
  go_loop [3, 4] (fun s i => s = .string ⟨#[]⟩ ∧ i = .int .i64 0) (fun _ _ => 0)
  case atStart => exact ⟨rfl, rfl⟩
  case round =>
    obtain ⟨rfl, rfl⟩ := hrel
    go_wp2_with fail
    go_loop [5, 6] (fun a i => a = .int .i64 0 ∧ i = .int .i64 0) (fun _ _ => 0)
    case atStart => exact ⟨rfl, rfl⟩
    case round =>
      obtain ⟨rfl, rfl⟩ := hrel
      go_wp2_with fail
      refine (live_true _).mono ?_
      rintro e w4 ⟨rfl, hk4⟩
      go_wp2_with fail
      go_ret
      exact ⟨rfl, hk4⟩

set_option maxRecDepth 4000 in
set_option maxHeartbeats 800000 in
theorem row_some (b off len cap : Nat) (hpos : 0 < len) (hlen : len ≤ 100) (zs : List Int) (hz : zs.length = len) (hz0 : ∀ z ∈ zs, -9223372036854775808 ≤ z ∧ z ≤ 9223372036854775807) (w : World)
    (hcell : ∀ i z, zs[i]? = some z → w.cell? ⟨b, off + i, none⟩ = some (.int .i64 z)) :
    Calls Try.prog 6 #[.slice (some ⟨b, off, none⟩) len cap] w fun e w' => e = .returned (.bool true) ∧ Keeps w w' := by
  have hst := str_toList
  have hap := str_append
  have hsz := str_size
  have hd : decide ((100 : Int) < (len : Int)) = false := by simp; omega
  have HL := Lib.hid hlen
  have HC := Lib.hid hcell
  have HZ := Lib.hid hz
  have HB := Lib.hid hz0
  have he0 : ByteArray.mk #[] = str [] := rfl
  clear hlen hcell hz hz0
  go_enter Try.func6, Try.ntmps6
  go_wp2_with fail
  go_loopw [3, 4] (fun s i wr => ∃ k : Nat, k ≤ len ∧ i = .int .i64 k ∧ s = .string (str (rowOf (zs.take k))) ∧ Keeps w wr) (fun _ i _ => len - (intOf i).toNat)
  case atStart => exact ⟨0, by omega, rfl, rfl, Keeps.refl _⟩
  case round =>
    obtain ⟨k, hk, rfl, rfl, hkr⟩ := hrel
    by_cases hlt : k < len
    · obtain ⟨z, hzk⟩ : ∃ z, zs[k]? = some z := ⟨_, List.getElem?_eq_getElem (by rw [HZ.out]; exact hlt)⟩
      have hb := HB.out z (List.mem_of_getElem? hzk)
      have hc := hkr.cell (HC.out k z hzk)
      have hnx := Lib.hid (rowOf_take zs k z hzk)
      have HBZ := Lib.hid hb
      have hl1 : (rowOf (zs.take k)).length ≤ 1000 := by have h1 := rowOf_length (zs.take k); have h2 := List.length_take_le k zs; have := HL.out; omega
      have hl2 := Vi.put_length z
      have HP := Lib.hid (fun w => put_any z hb.1 hb.2 w)
      generalize rowOf (zs.take k) = R at *
      generalize Vi.put z = P at *
      have hk1000 : k ≤ 1000 := by have := HL.out; omega
      clear hzk hb
      go_wp2_with fail
      refine (HP.out _).mono ?_
      rintro e w2 ⟨rfl, hk2⟩
      go_wp2_with fail
      go_roundw
      case rel => exact ⟨k + 1, by omega, by go_num, by rw [hnx.out], hkr.trans hk2⟩
      case measure => simp [intOf]; omega
    · obtain rfl : k = len := by omega
      have hall : zs.take k = zs := List.take_of_length_le (by rw [HZ.out]; omega)
      rw [hall]
      clear hall
      go_wp2_with fail
      go_loop [5, 6] (fun a i => ∃ j : Nat, j ≤ k ∧ i = .int .i64 j ∧ a = .int .i64 ((rowOf (zs.take j)).length : Int)) (fun _ i => k - (intOf i).toNat)
      case atStart => exact ⟨0, by omega, rfl, rfl⟩
      case round =>
        obtain ⟨j, hj, rfl, rfl⟩ := hrel
        have hl0 : (rowOf zs).length ≤ 1000 := by have h1 := rowOf_length zs; have := HL.out; have := HZ.out; omega
        by_cases hlt : j < k
        · obtain ⟨z, hzk⟩ : ∃ z, zs[j]? = some z := ⟨_, List.getElem?_eq_getElem (by rw [HZ.out]; exact hlt)⟩
          have hb := HB.out z (List.mem_of_getElem? hzk)
          have hc := hkr.cell (HC.out j z hzk)
          have hgt := rowOf_get zs j z hzk hb.1 hb.2
          have hpos2 := Vi.put_pos z
          have hnx := congrArg List.length (rowOf_take zs j z hzk)
          rw [List.length_append] at hnx
          have hl1 : (rowOf (zs.take j)).length ≤ 1000 := by have h1 := rowOf_length (zs.take j); have h2 := List.length_take_le j zs; have := HL.out; omega
          have HG := Lib.hid (fun w => get_any (str (rowOf zs)) (by rw [str_size]; omega) ((rowOf (zs.take j)).length : Int) (by omega) (by omega) w)
          rw [str_list, hgt] at HG
          obtain ⟨q, hq⟩ : ∃ q, (rowOf (zs.take (j + 1))).length = q := ⟨_, rfl⟩
          rw [hq] at HG hnx
          have HQ := Lib.hid hq
          obtain ⟨p, hp⟩ : ∃ p, (rowOf (zs.take j)).length = p := ⟨_, rfl⟩
          rw [hp] at HG hnx hl1 ⊢
          have hpq : decide (q ≤ p) = false := by simp; omega
          have hj1000 : j ≤ 1000 := by have := HL.out; omega
          clear hgt hq hp hnx hpos2 hl1 hb hzk
          go_wp2_with fail
          refine (HG.out _).mono ?_
          rintro e w2 ⟨rfl, rfl⟩
          simp only [ret3]
          go_wp2_with fail
          exact ⟨⟨j + 1, by omega, by go_num, by rw [HQ.out]⟩, by simp [intOf]; omega⟩
        · obtain rfl : j = k := by omega
          have hall : zs.take j = zs := List.take_of_length_le (by rw [HZ.out]; omega)
          rw [hall]
          clear hall
          go_wp2_with fail
          refine (live_true _).mono ?_
          rintro e w4 ⟨rfl, hk4⟩
          go_wp2_with fail
          go_ret
          exact ⟨rfl, hkr.trans hk4⟩

/-- whatever slice of integers came in -/
theorem row_true (ad : Option Addr) (len cap : Nat) (w : World)
    (h : len = 0 ∨ ∃ (a : Addr) (zs : List Int), ad = some a ∧ len ≤ zs.length ∧ (∀ i, i < zs.length → w.cell? (a.add i) = some (.int .i64 (zs.getD i 0))) ∧ ∀ n ∈ zs, (Lit.int .i64 n).wf = true) :
    Calls Try.prog 6 #[.slice ad len cap] w fun e w' => e = .returned (.bool true) ∧ Keeps w w' := by
  by_cases hl : 100 < len
  · exact row_long ad len cap hl w
  by_cases h0 : len = 0
  · subst h0; exact row_none ad cap w
  obtain h | ⟨a, zs, rfl, hle, hc, hw⟩ := h
  · exact absurd h h0
  obtain ⟨b, off, rfl, hc'⟩ := Go.ints_at hc (by omega)
  refine row_some b off len cap (by omega) (by omega) (zs.take len) (by simp; omega) ?_ w ?_
  · intro z hz
    have := hw z (List.mem_of_mem_take hz)
    simp [Lit.wf, IntKind.min, IntKind.max, IntKind.signed, IntKind.bits] at this
    omega
  · intro i z hz
    have hz' : zs[i]? = some z := by
      rw [List.getElem?_take] at hz; split at hz
      · exact hz
      · cases hz
    have hi := (List.getElem?_eq_some_iff.1 hz').1
    rw [hc' i hi]
    simp [List.getD, hz']
end Go.Proofs.Ytnpkiiomjhaleaa
