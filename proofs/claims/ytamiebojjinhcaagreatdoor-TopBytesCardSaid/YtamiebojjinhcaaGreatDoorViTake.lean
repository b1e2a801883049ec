/-
  The plain law of numbers and texts in bytes: no program in sight.
  varint.Put and the document's Put: the walks.
  varint.Get and the document's Get: the walks.
  varint.Text and Take, and the document's: the walks.
  Small contracts: a text's bytes, a number's bytes, as they are used further on.
-/
import Derived.WalkKit
import Derived.Test.YtamiebojjinhcaaGreatDoorOwn
import Derived.Test.YtamiebojjinhcaaGreatDoorRows
import Derived.BigQuiet
import Derived.Deep.QuietTactic
import Derived.Lib.Strings
import Derived.Deep.RegionHeld3
import Derived.Deep.DrawnRows
set_option linter.unusedVariables false
namespace Go.Proofs.YtamiebojjinhcaaGreatDoor
namespace Vi
/-- a number's code -/
def zig (n : Int) : Nat := if n < 0 then (-2 * n - 1).toNat else (2 * n).toNat
def unzig (u : Nat) : Int := if u % 2 = 1 then -((u / 2 : Nat) : Int) - 1 else ((u / 2 : Nat) : Int)
theorem unzig_zig (n : Int) : unzig (zig n) = n := by
  unfold zig unzig
  split
  · rw [if_pos (by omega)]; omega
  · rw [if_neg (by omega)]; omega
theorem zig_unzig (u : Nat) : zig (unzig u) = u := by
  unfold zig unzig
  split
  · rw [if_pos (by omega)]; omega
  · rw [if_neg (by omega)]; omega
theorem zig_lt {n : Int} (h0 : -9223372036854775808 ≤ n) (h1 : n ≤ 9223372036854775807) : zig n < 18446744073709551616 := by
  unfold zig; split <;> omega
theorem unzig_bd {u : Nat} (h : u < 18446744073709551616) : -9223372036854775808 ≤ unzig u ∧ unzig u ≤ 9223372036854775807 := by
  unfold unzig; split <;> omega

/-- seven bits a byte, the lowest first -/
def enc : Nat → Nat → List UInt8
  | 0, _ => []
  | f + 1, u => if u < 128 then [UInt8.ofNat u] else UInt8.ofNat (u % 128 + 128) :: enc f (u / 128)
def put (n : Int) : List UInt8 := enc 10 (zig n)

/-- how many bytes with the high bit a text begins with -/
def lead : List UInt8 → Nat
  | [] => 0
  | b :: r => if 128 ≤ b.toNat then lead r + 1 else 0
def val : List UInt8 → Nat
  | [] => 0
  | b :: r => b.toNat % 128 + 128 * val r
/-- what is read: the code and how many bytes, or why there is none -/
def dec (l : List UInt8) : Except Nat (Nat × Nat) :=
  if 10 ≤ lead l then .error 3
  else match l[lead l]? with
    | none => .error 2
    | some b => if (b.toNat = 0 ∧ 0 < lead l) ∨ (lead l = 9 ∧ 1 < b.toNat) then .error 3 else .ok (val (l.take (lead l + 1)), lead l + 1)

theorem ofNat_toNat {n : Nat} (h : n < 256) : (UInt8.ofNat n).toNat = n := UInt8.toNat_ofNat_of_lt' h
theorem lead_le : ∀ l : List UInt8, lead l ≤ l.length
  | [] => Nat.le_refl _
  | b :: r => by unfold lead; split <;> simp [lead_le r]
theorem lead_hi : ∀ (l : List UInt8) (j : Nat), j < lead l → ∃ b, l[j]? = some b ∧ 128 ≤ b.toNat
  | [], j, h => by simp [lead] at h
  | b :: r, j, h => by
    unfold lead at h
    split at h
    · cases j with
      | zero => exact ⟨b, rfl, by assumption⟩
      | succ j => simpa using lead_hi r j (by omega)
    · omega
theorem lead_lo : ∀ (l : List UInt8) (b : UInt8), l[lead l]? = some b → b.toNat < 128
  | [], b, h => by simp at h
  | c :: r, b, h => by
    unfold lead at h
    split at h
    · exact lead_lo r b (by simpa using h)
    · simp at h; subst h; omega
/-- the count, from what is seen -/
theorem lead_eq : ∀ (l : List UInt8) (k : Nat), (∀ j, j < k → ∃ b, l[j]? = some b ∧ 128 ≤ b.toNat) → (∀ b, l[k]? = some b → b.toNat < 128) → lead l = k
  | [], k, h1, _ => by
    cases k with
    | zero => rfl
    | succ k => obtain ⟨b, hb, _⟩ := h1 0 (by omega); simp at hb
  | c :: r, 0, _, h2 => by unfold lead; rw [if_neg]; have := h2 c rfl; omega
  | c :: r, k + 1, h1, h2 => by
    obtain ⟨b, hb, hb2⟩ := h1 0 (by omega)
    simp at hb; subst hb
    unfold lead
    rw [if_pos hb2, lead_eq r k (fun j hj => by simpa using h1 (j + 1) (by omega)) (fun b hb => h2 b (by simpa using hb))]
theorem val_append : ∀ (a b : List UInt8), val (a ++ b) = val a + 128 ^ a.length * val b
  | [], b => by simp [val]
  | c :: a, b => by
    simp only [List.cons_append, val, val_append a b, List.length_cons]
    rw [Nat.pow_succ, Nat.mul_add, ← Nat.mul_assoc, Nat.mul_comm 128 (128 ^ a.length)]; omega
theorem val_lt : ∀ l : List UInt8, val l < 128 ^ l.length
  | [] => by simp [val]
  | c :: l => by
    have ih := val_lt l
    simp only [val, List.length_cons]
    have : 128 ^ (l.length + 1) = 128 * 128 ^ l.length := by rw [Nat.pow_succ, Nat.mul_comm]
    rw [this]; omega

theorem enc_length : ∀ f u, (enc f u).length ≤ f
  | 0, _ => Nat.le_refl _
  | f + 1, u => by unfold enc; split <;> simp; exact enc_length f (u / 128)
theorem enc_pos (f u : Nat) (h : 0 < f) : 0 < (enc f u).length := by
  cases f with
  | zero => omega
  | succ f => unfold enc; split <;> simp
/-- the code's shape: all bytes but the last have the high bit -/
theorem enc_shape : ∀ f u, u < 128 ^ (f + 1) → ∃ p b, enc (f + 1) u = p ++ [b] ∧ (∀ c ∈ p, 128 ≤ c.toNat) ∧ b.toNat < 128 ∧ val (p ++ [b]) = u ∧ b.toNat = u / 128 ^ p.length ∧ (0 < p.length → 0 < b.toNat)
  | 0, u, h => by
    refine ⟨[], UInt8.ofNat u, ?_, by simp, ?_, ?_, ?_, by simp⟩
    · unfold enc; rw [if_pos (by simpa using h)]; rfl
    · rw [ofNat_toNat (by omega)]; simpa using h
    · simp [val]; simpa using h
    · simp; omega
  | f + 1, u, h => by
    by_cases hu : u < 128
    · refine ⟨[], UInt8.ofNat u, ?_, by simp, ?_, ?_, ?_, by simp⟩
      · unfold enc; rw [if_pos hu]; rfl
      · rw [ofNat_toNat (by omega)]; exact hu
      · simp [val]; omega
      · simp; omega
    · have hlt : u / 128 < 128 ^ (f + 1) := by
        rw [Nat.pow_succ] at h
        exact Nat.div_lt_of_lt_mul (by rw [Nat.mul_comm]; exact h)
      obtain ⟨p, b, h1, h2, h3, h4, h5, h6⟩ := enc_shape f (u / 128) hlt
      have hc : (UInt8.ofNat (u % 128 + 128)).toNat = u % 128 + 128 := ofNat_toNat (by omega)
      refine ⟨UInt8.ofNat (u % 128 + 128) :: p, b, ?_, ?_, h3, ?_, ?_, ?_⟩
      · rw [enc, if_neg hu, h1]; rfl
      · intro c hcm
        rcases List.mem_cons.1 hcm with rfl | hcm
        · omega
        · exact h2 c hcm
      · simp only [List.cons_append, val, h4, hc]; omega
      · rw [h5, List.length_cons, Nat.pow_succ, Nat.div_div_eq_div_mul, Nat.mul_comm]
      · intro _
        by_cases hp : 0 < p.length
        · exact h6 hp
        · have : p.length = 0 := by omega
          rw [this] at h5; simp at h5; omega
theorem lead_shape (p : List UInt8) (b : UInt8) (r : List UInt8) (hp : ∀ c ∈ p, 128 ≤ c.toNat) (hb : b.toNat < 128) : lead (p ++ [b] ++ r) = p.length := by
  apply lead_eq
  · intro j hj
    refine ⟨p[j], ?_, hp _ (List.getElem_mem _)⟩
    rw [List.append_assoc, List.getElem?_append_left hj, List.getElem?_eq_getElem hj]
  · intro c hc
    rw [List.append_assoc, List.getElem?_append_right (Nat.le_refl _)] at hc
    simp at hc; subst hc; exact hb
theorem pow63 : (128 : Nat) ^ 9 = 9223372036854775808 := by decide
/-- what was put is read -/
theorem dec_enc (u : Nat) (h : u < 18446744073709551616) (r : List UInt8) : dec (enc 10 u ++ r) = .ok (u, (enc 10 u).length) := by
  obtain ⟨p, b, h1, h2, h3, h4, h5, h6⟩ := enc_shape 9 u (Nat.lt_of_lt_of_le h (by decide))
  have hl : p.length + 1 ≤ 10 := by have := enc_length 10 u; rw [h1] at this; simpa using this
  have hlead := lead_shape p b r h2 h3
  rw [h1]
  unfold dec
  rw [hlead, if_neg (by omega)]
  have hg : (p ++ [b] ++ r)[p.length]? = some b := by rw [List.append_assoc, List.getElem?_append_right (Nat.le_refl _)]; simp
  rw [hg]
  have hno : ¬ ((b.toNat = 0 ∧ 0 < p.length) ∨ (p.length = 9 ∧ 1 < b.toNat)) := by
    rintro (⟨hb0, hp⟩ | ⟨hp, hb1⟩)
    · have := h6 hp; omega
    · rw [hp, pow63] at h5; omega
  simp only [if_neg hno]
  have ht : (p ++ [b] ++ r).take (p.length + 1) = p ++ [b] := by
    rw [List.take_append_of_le_length (by simp)]; rw [List.take_of_length_le (by simp)]
  rw [ht, h4]; simp
/-- of which bytes a code is made: of those of its value -/
theorem enc_of : ∀ (p : List UInt8) (b : UInt8) (f : Nat), (∀ c ∈ p, 128 ≤ c.toNat) → b.toNat < 128 → (0 < p.length → 0 < b.toNat) → p.length < f → enc f (val (p ++ [b])) = p ++ [b]
  | [], b, f, _, hb, _, hf => by
    cases f with
    | zero => omega
    | succ f =>
      have : val [b] = b.toNat := by simp [val]; omega
      rw [List.nil_append, this, enc, if_pos hb]; simp
  | c :: p, b, f, hp, hb, hz, hf => by
    cases f with
    | zero => omega
    | succ f =>
      have hb0 := hz (by simp)
      have hc := hp c (by simp)
      have hc2 := c.toNat_lt
      have hpos : 0 < val (p ++ [b]) := by
        rw [val_append]
        have : 0 < val [b] := by simp [val]; omega
        have := Nat.mul_pos (Nat.pow_pos (n := p.length) (show 0 < 128 by decide)) this
        omega
      have ih := enc_of p b f (fun x hx => hp x (by simp [hx])) hb (fun _ => hb0) (by simpa using hf)
      have h1 : val (c :: p ++ [b]) = c.toNat % 128 + 128 * val (p ++ [b]) := rfl
      rw [h1, enc, if_neg (by omega)]
      have h2 : (c.toNat % 128 + 128 * val (p ++ [b])) / 128 = val (p ++ [b]) := by omega
      have h3 : (c.toNat % 128 + 128 * val (p ++ [b])) % 128 + 128 = c.toNat := by omega
      rw [h2, h3, ih]; simp
/-- what is read has these bytes -/
theorem dec_ok {l : List UInt8} {u k : Nat} (h : dec l = .ok (u, k)) : l.take k = enc 10 u ∧ u < 18446744073709551616 ∧ 0 < k ∧ k ≤ l.length ∧ k ≤ 10 := by
  unfold dec at h
  split at h
  · cases h
  · rename_i hk
    split at h
    · cases h
    · rename_i b hb
      split at h
      · cases h
      · rename_i hno
        injection h with h
        injection h with hu hk2
        subst hk2
        have hlt : lead l < l.length := (List.getElem?_eq_some_iff.1 hb).1
        have hlo := lead_lo l b hb
        have hsplit : l.take (lead l + 1) = l.take (lead l) ++ [b] := by
          rw [List.take_add_one, hb]; rfl
        have hlen : (l.take (lead l)).length = lead l := by simp; omega
        have hhi : ∀ c ∈ l.take (lead l), 128 ≤ c.toNat := by
          intro c hc
          obtain ⟨j, hj, rfl⟩ := List.getElem_of_mem hc
          obtain ⟨d, hd, hd2⟩ := lead_hi l j (by omega)
          rw [List.getElem_take]
          have : l[j]? = some l[j] := List.getElem?_eq_getElem (by omega)
          rw [this] at hd
          injection hd with hd
          rw [hd]; exact hd2
        have he := enc_of (l.take (lead l)) b 10 hhi hlo (by rw [hlen]; omega) (by omega)
        rw [hsplit] at hu ⊢
        rw [hu] at he
        refine ⟨he.symm, ?_, by omega, by omega, by omega⟩
        have hv := val_lt (l.take (lead l) ++ [b])
        rw [val_append, hlen] at hu
        have hbv : val [b] = b.toNat := by simp [val]; omega
        rw [hbv] at hu
        have hv2 := val_lt (l.take (lead l))
        rw [hlen] at hv2
        by_cases h9 : lead l = 9
        · rw [h9, pow63] at hu hv2; omega
        · have h128 : 128 ^ lead l ≤ 128 ^ 8 := Nat.pow_le_pow_right (by decide) (by omega)
          have h1287 : (128 : Nat) ^ 8 = 72057594037927936 := by decide
          have : 128 ^ lead l * b.toNat ≤ 128 ^ lead l * 127 := Nat.mul_le_mul_left _ (by omega)
          omega
/-- a code's bytes, cut off, are none -/
theorem dec_short (u : Nat) (h : u < 18446744073709551616) (c : Nat) (hc : c < (enc 10 u).length) : dec ((enc 10 u).take c) = .error 2 := by
  obtain ⟨p, b, h1, h2, h3, h4, h5, h6⟩ := enc_shape 9 u (Nat.lt_of_lt_of_le h (by decide))
  have hl : p.length + 1 ≤ 10 := by have := enc_length 10 u; rw [h1] at this; simpa using this
  rw [h1] at hc ⊢
  simp at hc
  have ht : (p ++ [b]).take c = p.take c := List.take_append_of_le_length (by omega)
  rw [ht]
  have hlead : lead (p.take c) = c := by
    apply lead_eq
    · intro j hj
      refine ⟨p[j]'(by omega), ?_, h2 _ (List.getElem_mem _)⟩
      rw [List.getElem?_take, if_pos hj, List.getElem?_eq_getElem (by omega)]
    · intro d hd
      rw [List.getElem?_take, if_neg (by omega)] at hd; cases hd
  unfold dec
  rw [hlead, if_neg (by omega)]
  have : (p.take c)[c]? = none := by rw [List.getElem?_take, if_neg (by omega)]
  rw [this]
/-- Get -/
def get (l : List UInt8) (at_ : Int) : Int × Int × Int :=
  if at_ < 0 ∨ (l.length : Int) < at_ then (0, 0, 1)
  else match dec (l.drop at_.toNat) with
    | .ok (u, k) => (unzig u, at_ + k, 0)
    | .error e => (0, 0, e)
theorem get_arg (l : List UInt8) (at_ : Int) (h : at_ < 0 ∨ (l.length : Int) < at_) : get l at_ = (0, 0, 1) := by unfold get; rw [if_pos h]
theorem get_in (l : List UInt8) (a : Nat) (ha : a ≤ l.length) : get l (a : Int) = match dec (l.drop a) with
    | .ok (u, k) => (unzig u, (a : Int) + k, 0)
    | .error e => (0, 0, e) := by
  unfold get
  rw [if_neg (by omega), Int.toNat_natCast]
theorem get_ten (l : List UInt8) (a : Nat) (ha : a ≤ l.length) (h : 10 ≤ lead (l.drop a)) : get l (a : Int) = (0, 0, 3) := by
  rw [get_in l a ha, dec, if_pos h]; rfl
theorem get_end (l : List UInt8) (a k : Nat) (ha : a ≤ l.length) (hk : k < 10) (h : k ≤ lead (l.drop a)) (hend : l.length ≤ a + k) : get l (a : Int) = (0, 0, 2) := by
  have hle := lead_le (l.drop a)
  simp at hle
  have hl : lead (l.drop a) = k := by omega
  have hn : (l.drop a)[k]? = none := List.getElem?_eq_none (by simp; omega)
  rw [get_in l a ha, dec, hl, if_neg (by omega), hn]; rfl
theorem lead_at (l : List UInt8) (a k : Nat) (b : UInt8) (h : k ≤ lead (l.drop a)) (hb : l[a + k]? = some b) (hlo : b.toNat < 128) : lead (l.drop a) = k := by
  by_cases hc : k < lead (l.drop a)
  · obtain ⟨c, h1, h2⟩ := lead_hi _ _ hc
    rw [List.getElem?_drop, hb] at h1
    injection h1 with h1
    rw [← h1] at h2; omega
  · omega
theorem lead_more (l : List UInt8) (a k : Nat) (b : UInt8) (h : k ≤ lead (l.drop a)) (hb : l[a + k]? = some b) (hhi : 128 ≤ b.toNat) : k + 1 ≤ lead (l.drop a) := by
  by_cases hc : k < lead (l.drop a)
  · omega
  · have hl : lead (l.drop a) = k := by omega
    have := lead_lo (l.drop a) b (by rw [hl, List.getElem?_drop, hb])
    omega
theorem get_bad (l : List UInt8) (a k : Nat) (b : UInt8) (ha : a ≤ l.length) (hk : k < 10) (h : k ≤ lead (l.drop a)) (hb : l[a + k]? = some b) (hlo : b.toNat < 128)
    (hbad : (b.toNat = 0 ∧ 0 < k) ∨ (k = 9 ∧ 1 < b.toNat)) : get l (a : Int) = (0, 0, 3) := by
  have hl := lead_at l a k b h hb hlo
  have hn : (l.drop a)[k]? = some b := by rw [List.getElem?_drop, hb]
  rw [get_in l a ha, dec, hl, if_neg (by omega), hn]
  simp only [if_pos hbad]; rfl
theorem get_good (l : List UInt8) (a k : Nat) (b : UInt8) (ha : a ≤ l.length) (hk : k < 10) (h : k ≤ lead (l.drop a)) (hb : l[a + k]? = some b) (hlo : b.toNat < 128)
    (hbad : ¬ ((b.toNat = 0 ∧ 0 < k) ∨ (k = 9 ∧ 1 < b.toNat))) : get l (a : Int) = (unzig (val ((l.drop a).take (k + 1))), (a : Int) + (k + 1 : Nat), 0) := by
  have hl := lead_at l a k b h hb hlo
  have hn : (l.drop a)[k]? = some b := by rw [List.getElem?_drop, hb]
  rw [get_in l a ha, dec, hl, if_neg (by omega), hn]
  simp only [if_neg hbad]
theorem val_snoc (l : List UInt8) (a k : Nat) (b : UInt8) (hb : l[a + k]? = some b) : val ((l.drop a).take (k + 1)) = val ((l.drop a).take k) + 128 ^ k * (b.toNat % 128) := by
  have hn : (l.drop a)[k]? = some b := by rw [List.getElem?_drop, hb]
  have hlt := (List.getElem?_eq_some_iff.1 hn).1
  rw [List.take_add_one, hn, Option.toList, val_append, List.length_take, Nat.min_eq_left (by omega)]
  simp [val]
/-- Text -/
def text (l : List UInt8) : List UInt8 := put l.length ++ l
/-- Take -/
def take (l : List UInt8) (at_ most : Int) : List UInt8 × Int × Int :=
  let g := get l at_
  if g.2.2 ≠ 0 then ([], 0, g.2.2)
  else if g.1 < 0 ∨ most < g.1 then ([], 0, 3)
  else if (l.length : Int) - g.2.1 < g.1 then ([], 0, 2)
  else ((l.drop g.2.1.toNat).take g.1.toNat, g.2.1 + g.1, 0)
/-- what Get answers: a number and where it ends, or an error -/
theorem get_cases (l : List UInt8) (at_ : Int) : (∃ n to, get l at_ = (n, to, 0) ∧ 0 ≤ to ∧ to ≤ l.length ∧ -9223372036854775808 ≤ n ∧ n ≤ 9223372036854775807 ∧ 0 ≤ at_ ∧ at_ < to) ∨
    (∃ e : Int, get l at_ = (0, 0, e) ∧ e ≠ 0 ∧ 1 ≤ e ∧ e ≤ 3) := by
  unfold get
  split
  · exact .inr ⟨1, rfl, by decide, by decide, by decide⟩
  · rename_i h
    cases hd : dec (l.drop at_.toNat) with
    | ok p =>
      obtain ⟨u, k⟩ := p
      obtain ⟨_, h64, hk0, hk, _⟩ := dec_ok hd
      have hb := unzig_bd h64
      simp at hk
      exact .inl ⟨_, _, rfl, by omega, by omega, hb.1, hb.2, by omega, by omega⟩
    | error e =>
      have : e = 2 ∨ e = 3 := by
        unfold dec at hd
        split at hd
        · injection hd with hd; exact .inr hd.symm
        · split at hd
          · injection hd with hd; exact .inl hd.symm
          · split at hd
            · injection hd with hd; exact .inr hd.symm
            · cases hd
      rcases this with rfl | rfl
      · exact .inr ⟨2, rfl, by decide, by decide, by decide⟩
      · exact .inr ⟨3, rfl, by decide, by decide, by decide⟩
theorem get_put (A r : List UInt8) (n : Int) (h0 : -9223372036854775808 ≤ n) (h1 : n ≤ 9223372036854775807) :
    get (A ++ put n ++ r) (A.length : Int) = (n, (A.length : Int) + ((put n).length : Int), 0) := by
  have hd : (A ++ put n ++ r).drop A.length = put n ++ r := by rw [List.append_assoc, List.drop_left]
  rw [get_in _ _ (by simp), hd, put, dec_enc _ (zig_lt h0 h1)]
  simp [unzig_zig]
theorem take_text (A t r : List UInt8) (most : Int) (ht : (t.length : Int) ≤ 9223372036854775807) (hm : (t.length : Int) ≤ most) :
    take (A ++ text t ++ r) (A.length : Int) most = (t, (A.length : Int) + ((text t).length : Int), 0) := by
  have hg := get_put A (t ++ r) (t.length : Int) (by omega) ht
  have e : A ++ text t ++ r = A ++ put (t.length : Int) ++ (t ++ r) := by simp [text]
  rw [e]
  unfold take
  rw [hg]
  simp only [ne_eq, not_true_eq_false, if_false]
  rw [if_neg (by omega), if_neg (by simp; omega)]
  have e2 : ((A.length : Int) + ((put (t.length : Int)).length : Int)).toNat = (A ++ put (t.length : Int)).length := by simp; omega
  have e3 : ((t.length : Nat) : Int).toNat = t.length := by omega
  rw [e2, List.drop_left, e3, List.take_left]
  simp [text]; omega
theorem put_length (n : Int) : (put n).length ≤ 10 := enc_length 10 _
theorem put_pos (n : Int) : 0 < (put n).length := enc_pos 10 _ (by decide)
end Vi
end Go.Proofs.YtamiebojjinhcaaGreatDoor

namespace Go.Proofs.YtamiebojjinhcaaGreatDoor
open Go.RowKit

theorem info_u8 : (Tryz.prog.info? 5).map (fun i => (i.zero, i.size, i.bytes)) = some (some (.int .u8 0), 1, 1) := by kernel_rfl
theorem enc_more {f U : Nat} (h : ¬ U < 128) (hf : U < 128 ^ f) : ∃ g, f = g + 1 ∧ Vi.enc f U = UInt8.ofNat (U % 128 + 128) :: Vi.enc g (U / 128) ∧ U / 128 < 128 ^ g ∧ 0 < g := by
  cases f with
  | zero => simp at hf; omega
  | succ g =>
    have hlt : U / 128 < 128 ^ g := by
      rw [Nat.pow_succ] at hf
      exact Nat.div_lt_of_lt_mul (by rw [Nat.mul_comm]; exact hf)
    refine ⟨g, rfl, by rw [Vi.enc, if_neg h], hlt, ?_⟩
    cases g with
    | zero => simp at hlt; omega
    | succ g => omega
theorem enc_last {f U : Nat} (h : U < 128) (hf : 0 < f) : Vi.enc f U = [UInt8.ofNat U] := by
  cases f with
  | zero => omega
  | succ g => rw [Vi.enc, if_pos h]
theorem or_128 (U : Nat) : bits BinOp.or IntKind.u8 ((U : Int) % 256) 128 = ((U % 128 + 128 : Nat) : Int) := by
  have h := u8_or_nat (U % 256) 128 (by omega) (by omega)
  rw [show ((U : Int) % 256) = ((U % 256 : Nat) : Int) by omega, show (128 : Int) = ((128 : Nat) : Int) from rfl, h]
  congr 1
  have e : U % 256 = 128 * (U % 256 / 128) + U % 128 := by omega
  have h1 : U % 256 / 128 < 2 := by omega
  have e2 : ∀ b : Nat, b < 128 → b ||| 128 = b + 128 ∧ (128 + b) ||| 128 = b + 128 := by decide
  have h2 := e2 (U % 128) (by omega)
  rcases (show U % 256 / 128 = 0 ∨ U % 256 / 128 = 1 by omega) with h3 | h3
  · rw [show U % 256 = U % 128 by omega]; exact h2.1
  · rw [show U % 256 = 128 + U % 128 by omega]; exact h2.2

theorem zig_bits (n : Int) (h0 : -9223372036854775808 ≤ n) (h1 : n ≤ 9223372036854775807) :
    bits BinOp.xor IntKind.u64 (IntKind.u64.wrap (IntKind.u64.wrap n * 2)) (IntKind.u64.wrap (n / 9223372036854775808)) = ((Vi.zig n : Nat) : Int) := by
  by_cases hn : n < 0
  · have e1 : n / 9223372036854775808 = -1 := by omega
    have e2 : IntKind.u64.wrap (-1) = ((18446744073709551615 : Nat) : Int) := by decide
    have e3 : IntKind.u64.wrap (IntKind.u64.wrap n * 2) = (((2 * n + 18446744073709551616).toNat : Nat) : Int) := by rw [IntKind.wrap_u64, IntKind.wrap_u64]; omega
    rw [e1, e2, e3, bits_xor_u64_nat _ _ (by omega) (by omega)]
    congr 1
    have hx : ∀ m : Nat, m < 2 ^ 64 → m ^^^ (2 ^ 64 - 1) = 2 ^ 64 - 1 - m := fun m hm => by
      apply Nat.eq_of_testBit_eq
      intro i
      rw [Nat.testBit_xor, Nat.testBit_two_pow_sub_one, show 2 ^ 64 - 1 - m = 2 ^ 64 - (m + 1) by omega, Nat.testBit_two_pow_sub_succ hm]
      by_cases hi : i < 64
      · simp [hi]
      · have : m.testBit i = false := Nat.testBit_lt_two_pow (Nat.lt_of_lt_of_le hm (Nat.pow_le_pow_right (by decide) (by omega)))
        simp [hi, this]
    have := hx (2 * n + 18446744073709551616).toNat (by omega)
    rw [show (18446744073709551615 : Nat) = 2 ^ 64 - 1 from rfl, this]
    unfold Vi.zig
    rw [if_pos hn]; omega
  · have e1 : n / 9223372036854775808 = 0 := by omega
    have e2 : IntKind.u64.wrap 0 = ((0 : Nat) : Int) := by decide
    have e3 : IntKind.u64.wrap (IntKind.u64.wrap n * 2) = (((2 * n).toNat : Nat) : Int) := by rw [IntKind.wrap_u64, IntKind.wrap_u64]; omega
    rw [e1, e2, e3, bits_xor_u64_nat _ _ (by omega) (by omega), Nat.xor_zero]
    unfold Vi.zig
    rw [if_neg hn]

/-- below 2^64 (a name, so that the walk does not meet the numeral) -/
def U64 (u : Nat) : Prop := u < 18446744073709551616

def putM (a' : Act) (_ : World) : Nat := (intOf (a'.tmps.getD 3 undef)).toNat
def PutJ (n : Int) (w : World) (a' : Act) (wr : World) : Prop := ∃ (U f : Nat) (l : List UInt8) (v u5 u6 u7 u8 u9 u10 u11 u12 u13 u14 u15 u16 u17 u18 u19 u20 u21 u22 u23 u24 u25 u26 u27 : Value), a' = { tmps := #[.int .i64 n, undef, .string ⟨#[]⟩, .int .u64 (U : Int), v, u5, u6, u7, u8, u9, u10, u11, u12, u13, u14, u15, u16, u17, u18, u19, u20, u21, u22, u23, u24, u25, u26, u27], defers := [] } ∧ l ++ Vi.enc f U = Vi.put n ∧ U < 128 ^ f ∧ 0 < f ∧ l.length + f ≤ 10 ∧ U64 U ∧ Buf wr w.heap.size v l ∧ Keeps w wr

set_option maxRecDepth 4000 in
set_option maxHeartbeats 400000 in
theorem put_any (n : Int) (h0 : -9223372036854775808 ≤ n) (h1 : n ≤ 9223372036854775807) (w : World) :
    Calls Tryz.prog 50 #[.int .i64 n] w fun e w' => e = .returned (.string (str (Vi.put n))) ∧ Keeps w w' := by
  obtain ⟨i0, hi, hz0, hz1, hz2⟩ := info_parts info_u8
  go_enter Tryz.func50, Tryz.ntmps50
  go_wp2
  refine wp_scope_again 0 (PutJ n w) putM rfl ?_ ?_
  · rintro a' wr ⟨U, f, l, v, u5, u6, u7, u8, u9, u10, u11, u12, u13, u14, u15, u16, u17, u18, u19, u20, u21, u22, u23, u24, u25, u26, u27, rfl, hput, hU, hf, hlen, hU64, hb, hk⟩
    by_cases h128 : U < 128
    · have hb8 := bv_ofNat U (by omega)
      have HB8 := Lib.hid hb8
      have hL := Lib.hid (show l.length + 1 ≤ 140737488355328 by omega)
      have hsz := hk.size
      have hfin := Lib.hid (enc_last h128 hf ▸ hput)
      have hd : decide ((128 : Int) ≤ (U : Int)) = false := by simp; omega
      have H128 := Lib.hid h128
      clear hb8 hU hput hlen hU64 h128
      go_wp2_with (at_builtin; go_loud (refine wpList_append_byte _ rfl _ _ 113 rfl w.heap.size 5 i0 Tryz.underlying113 hi hz0 hz1 hz2 _ _ rfl (hb.keeps ((Keeps.refl _).alloc _)) ⟨wr.heap.size, 0, none⟩ 1 (UInt8.ofNat U) rfl (by rw [HB8.out]; have := H128.out; simp; omega) hL.out (by simp; omega) ?_); intro v' w' hb' hg')
      have hk' : Keeps w w' := (hk.alloc _).grown hg' (Own.base hb)
      rw [hfin.out] at hb'
      have hconv := Buf.text (P := Tryz.prog) hb' 113 9 5 Tryz.underlying113 Tryz.underlying5 Tryz.underlying9
      clear hg' hb' hb
      go_simp
      go_wp2_with fail
      simp only [Exit.jump]
      go_ret
      exact ⟨rfl, hk'⟩
    · obtain ⟨g, rfl, he, hUg, hg0⟩ := enc_more h128 hU
      have hd : decide ((128 : Int) ≤ (U : Int)) = true := by simp; omega
      have hb8 := bv_ofNat (U % 128 + 128) (by omega)
      have HB8 := Lib.hid (show bv (UInt8.ofNat (U % 128 + 128)) = .int .u8 (bits BinOp.or IntKind.u8 ((U : Int) % 256) 128) by rw [hb8, or_128])
      have hL := Lib.hid (show l.length + 1 ≤ 140737488355328 by omega)
      have hsz := hk.size
      have hput' := Lib.hid (show (l ++ [UInt8.ofNat (U % 128 + 128)]) ++ Vi.enc g (U / 128) = Vi.put n by rw [← hput, he]; simp)
      have HL := Lib.hid (show (l ++ [UInt8.ofNat (U % 128 + 128)]).length + g ≤ 10 by simp; omega)
      have H128 := Lib.hid h128
      have HUg := Lib.hid hUg
      have HU64 := Lib.hid hU64
      clear hb8 hU hput hlen h128 he hUg hU64
      go_wp2_with (at_builtin; refine wpList_append_byte _ rfl _ _ 113 rfl w.heap.size 5 i0 Tryz.underlying113 hi hz0 hz1 hz2 _ _ rfl (hb.keeps ((Keeps.refl _).alloc _)) ⟨wr.heap.size, 0, none⟩ 1 (UInt8.ofNat (U % 128 + 128)) rfl (by rw [HB8.out]; simp) hL.out (by simp; omega) ?_; intro v' w' hb' hg')
      have hk' : Keeps w w' := (hk.alloc _).grown hg' (Own.base hb)
      clear hg' hb
      go_step3
      rw [show ((U : Int) / 128) = ((U / 128 : Nat) : Int) by omega]
      have hU64' : U64 (U / 128) := Nat.lt_of_le_of_lt (Nat.div_le_self _ _) HU64.out
      have hlt : U / 128 < U := by have := H128.out; omega
      refine ⟨rfl, ⟨U / 128, g, _, v', _, _, _, _, _, _, _, _, _, _, _, _, _, _, _, _, _, _, _, _, _, _, _, rfl, hput'.out, HUg.out, hg0, HL.out, hU64', hb', hk'⟩, ?_⟩
      show U / 128 < U
      exact hlt
  · intro again
    go_wp2
    rename_i Q' K hK
    refine wp_label (hK _ _ (again _ _ ?_))
    rw [zig_bits n h0 h1]
    exact ⟨Vi.zig n, 10, [], _, _, _, _, _, _, _, _, _, _, _, _, _, _, _, _, _, _, _, _, _, _, _, _, rfl, rfl, Nat.lt_of_lt_of_le (Vi.zig_lt h0 h1) (by decide), by omega, by simp, Vi.zig_lt h0 h1, Buf.nil _ _, Keeps.refl _⟩

theorem div_wrap (U : Nat) (h : U64 U) : IntKind.u64.wrap ((U : Int) / 128) = ((U / 128 : Nat) : Int) := by
  unfold U64 at h
  rw [IntKind.wrap_u64]; omega
structure PutS (n : Int) (w : World) (U f : Nat) (l : List UInt8) (b : Value) (wr : World) : Prop where
  whole : l ++ Vi.enc f U = Vi.put n
  small : U < 128 ^ f
  pos : 0 < f
  len : l.length + f ≤ 10
  u64 : U64 U
  buf : Buf wr w.heap.size b l
  kept : Keeps w wr

set_option maxRecDepth 4000 in
set_option maxHeartbeats 400000 in
theorem ref_put (n : Int) (h0 : -9223372036854775808 ≤ n) (h1 : n ≤ 9223372036854775807) (w : World) :
    Calls Tryz.prog 55 #[.int .i64 n] w fun e w' => e = .returned (.string (str (Vi.put n))) ∧ Keeps w w' := by
  obtain ⟨i0, hi, hz0, hz1, hz2⟩ := info_parts info_u8
  by_cases hn : n < 0
  · go_enter Tryz.func55, Tryz.ntmps55
    go_wp2_with fail
    go_loopw [4, 5] (fun u b wr => ∃ (U f : Nat) (l : List UInt8), u = .int .u64 U ∧ PutS n w U f l b wr) (fun u _ _ => (intOf u).toNat)
    case atStart => exact ⟨Vi.zig n, 10, [], by (rw [show -(n + 1) * 2 + 1 = ((Vi.zig n : Nat) : Int) by unfold Vi.zig; rw [if_pos hn]; omega]), rfl, Nat.lt_of_lt_of_le (Vi.zig_lt h0 h1) (by decide), by omega, by simp, Vi.zig_lt h0 h1, Buf.nil _ _, Keeps.refl _⟩
    case round =>
      obtain ⟨U, f, l, rfl, hput, hU, hf, hlen, hU64, hb, hk⟩ := hrel
      by_cases h128 : U < 128
      · have hd : decide ((128 : Int) ≤ (U : Int)) = false := by simp; omega
        have hb8 := bv_ofNat U (by omega)
        have HB8 := Lib.hid hb8
        have hL := Lib.hid (show l.length + 1 ≤ 140737488355328 by omega)
        have hsz := hk.size
        have hfin := Lib.hid (enc_last h128 hf ▸ hput)
        have H128 := Lib.hid h128
        clear hb8 hU hput hlen hU64 h128
        go_wp2_with (at_builtin; refine wpList_append_byte _ rfl _ _ 113 rfl w.heap.size 5 i0 Tryz.underlying113 hi hz0 hz1 hz2 _ _ rfl (hb.keeps ((Keeps.refl _).alloc _)) ⟨wr.heap.size, 0, none⟩ 1 (UInt8.ofNat U) rfl (by rw [HB8.out]; have := H128.out; simp; omega) hL.out (by simp; omega) ?_; intro v' w' hb' hg')
        have hk' : Keeps w w' := (hk.alloc _).grown hg' (Own.base hb)
        rw [hfin.out] at hb'
        have hconv := Buf.text (P := Tryz.prog) hb' 113 9 5 Tryz.underlying113 Tryz.underlying5 Tryz.underlying9
        clear hg' hb' hb
        go_simp
        go_wp2_with fail
        go_ret
        exact ⟨rfl, hk'⟩
      · obtain ⟨g, rfl, he, hUg, hg0⟩ := enc_more h128 hU
        have hd : decide ((128 : Int) ≤ (U : Int)) = true := by simp; omega
        have hb8 := bv_ofNat (U % 128 + 128) (by omega)
        have HB8 := Lib.hid (show bv (UInt8.ofNat (U % 128 + 128)) = .int .u8 ((U : Int) % 128 + 128) by rw [hb8]; simp)
        have hL := Lib.hid (show l.length + 1 ≤ 140737488355328 by omega)
        have hsz := hk.size
        have hput' := Lib.hid (show (l ++ [UInt8.ofNat (U % 128 + 128)]) ++ Vi.enc g (U / 128) = Vi.put n by rw [← hput, he]; simp)
        have HL := Lib.hid (show (l ++ [UInt8.ofNat (U % 128 + 128)]).length + g ≤ 10 by simp; omega)
        have H128 := Lib.hid h128
        have HUg := Lib.hid hUg
        have HU64 := Lib.hid hU64
        clear hb8 hU hput hlen h128 he hUg hU64
        go_wp2_with (at_builtin; go_loud (refine wpList_append_byte _ rfl _ _ 113 rfl w.heap.size 5 i0 Tryz.underlying113 hi hz0 hz1 hz2 _ _ rfl (hb.keeps ((Keeps.refl _).alloc _)) ⟨wr.heap.size, 0, none⟩ 1 (UInt8.ofNat (U % 128 + 128)) rfl (by rw [HB8.out]; simp) hL.out (by simp; omega) ?_); intro v' w' hb' hg')
        have hk' : Keeps w w' := (hk.alloc _).grown hg' (Own.base hb)
        clear hg' hb
        go_roundw
        case rel => exact ⟨U / 128, g, _, by rw [div_wrap U HU64.out], hput'.out, HUg.out, hg0, HL.out, Nat.lt_of_le_of_lt (Nat.div_le_self _ _) HU64.out, hb', hk'⟩
        case measure => rw [div_wrap U HU64.out]; have := H128.out; simp only [intOf]; omega
  · go_enter Tryz.func55, Tryz.ntmps55
    go_wp2_with fail
    go_loopw [4, 5] (fun u b wr => ∃ (U f : Nat) (l : List UInt8), u = .int .u64 U ∧ PutS n w U f l b wr) (fun u _ _ => (intOf u).toNat)
    case atStart => exact ⟨Vi.zig n, 10, [], by (rw [show n * 2 = ((Vi.zig n : Nat) : Int) by unfold Vi.zig; rw [if_neg (by omega)]; omega]), rfl, Nat.lt_of_lt_of_le (Vi.zig_lt h0 h1) (by decide), by omega, by simp, Vi.zig_lt h0 h1, Buf.nil _ _, Keeps.refl _⟩
    case round =>
      obtain ⟨U, f, l, rfl, hput, hU, hf, hlen, hU64, hb, hk⟩ := hrel
      by_cases h128 : U < 128
      · have hd : decide ((128 : Int) ≤ (U : Int)) = false := by simp; omega
        have hb8 := bv_ofNat U (by omega)
        have HB8 := Lib.hid hb8
        have hL := Lib.hid (show l.length + 1 ≤ 140737488355328 by omega)
        have hsz := hk.size
        have hfin := Lib.hid (enc_last h128 hf ▸ hput)
        have H128 := Lib.hid h128
        clear hb8 hU hput hlen hU64 h128
        go_wp2_with (at_builtin; refine wpList_append_byte _ rfl _ _ 113 rfl w.heap.size 5 i0 Tryz.underlying113 hi hz0 hz1 hz2 _ _ rfl (hb.keeps ((Keeps.refl _).alloc _)) ⟨wr.heap.size, 0, none⟩ 1 (UInt8.ofNat U) rfl (by rw [HB8.out]; have := H128.out; simp; omega) hL.out (by simp; omega) ?_; intro v' w' hb' hg')
        have hk' : Keeps w w' := (hk.alloc _).grown hg' (Own.base hb)
        rw [hfin.out] at hb'
        have hconv := Buf.text (P := Tryz.prog) hb' 113 9 5 Tryz.underlying113 Tryz.underlying5 Tryz.underlying9
        clear hg' hb' hb
        go_simp
        go_wp2_with fail
        go_ret
        exact ⟨rfl, hk'⟩
      · obtain ⟨g, rfl, he, hUg, hg0⟩ := enc_more h128 hU
        have hd : decide ((128 : Int) ≤ (U : Int)) = true := by simp; omega
        have hb8 := bv_ofNat (U % 128 + 128) (by omega)
        have HB8 := Lib.hid (show bv (UInt8.ofNat (U % 128 + 128)) = .int .u8 ((U : Int) % 128 + 128) by rw [hb8]; simp)
        have hL := Lib.hid (show l.length + 1 ≤ 140737488355328 by omega)
        have hsz := hk.size
        have hput' := Lib.hid (show (l ++ [UInt8.ofNat (U % 128 + 128)]) ++ Vi.enc g (U / 128) = Vi.put n by rw [← hput, he]; simp)
        have HL := Lib.hid (show (l ++ [UInt8.ofNat (U % 128 + 128)]).length + g ≤ 10 by simp; omega)
        have H128 := Lib.hid h128
        have HUg := Lib.hid hUg
        have HU64 := Lib.hid hU64
        clear hb8 hU hput hlen h128 he hUg hU64
        go_wp2_with (at_builtin; go_loud (refine wpList_append_byte _ rfl _ _ 113 rfl w.heap.size 5 i0 Tryz.underlying113 hi hz0 hz1 hz2 _ _ rfl (hb.keeps ((Keeps.refl _).alloc _)) ⟨wr.heap.size, 0, none⟩ 1 (UInt8.ofNat (U % 128 + 128)) rfl (by rw [HB8.out]; simp) hL.out (by simp; omega) ?_); intro v' w' hb' hg')
        have hk' : Keeps w w' := (hk.alloc _).grown hg' (Own.base hb)
        clear hg' hb
        go_roundw
        case rel => exact ⟨U / 128, g, _, by rw [div_wrap U HU64.out], hput'.out, HUg.out, hg0, HL.out, Nat.lt_of_le_of_lt (Nat.div_le_self _ _) HU64.out, hb', hk'⟩
        case measure => rw [div_wrap U HU64.out]; have := H128.out; simp only [intOf]; omega
end Go.Proofs.YtamiebojjinhcaaGreatDoor

namespace Go.Proofs.YtamiebojjinhcaaGreatDoor
open Go.RowKit

/-- three results -/
def ret3 (g : Int × Int × Int) : Ending := .returned (.tuple #[.int .i64 g.1, .int .i64 g.2.1, .int .i64 g.2.2])

theorem and_127 (c : Nat) (hc : c < 256) : bits BinOp.and IntKind.u8 (c : Int) 127 = ((c % 128 : Nat) : Int) := by
  have h := u8_and_nat c 127 hc (by omega)
  rw [show ((127 : Nat) : Int) = 127 from rfl] at h
  rw [h, show c &&& 127 = c % 128 from Nat.and_two_pow_sub_one_eq_mod c 7]
theorem u64_or_nat (a b : Nat) (ha : a < 18446744073709551616) (hb : b < 18446744073709551616) : bits .or .u64 (a : Int) (b : Int) = ((a ||| b : Nat) : Int) := by
  have hx : a ||| b < 2 ^ 64 := Nat.or_lt_two_pow (by omega) (by omega)
  have h1 : (BitVec.ofInt 64 (a : Int)).toNat = a := by
    rw [BitVec.ofInt_natCast, BitVec.toNat_ofNat]; exact Nat.mod_eq_of_lt (by omega)
  have h2 : (BitVec.ofInt 64 (b : Int)).toNat = b := by
    rw [BitVec.ofInt_natCast, BitVec.toNat_ofNat]; exact Nat.mod_eq_of_lt (by omega)
  show IntKind.u64.wrap ((BitVec.ofInt 64 (a : Int) ||| BitVec.ofInt 64 (b : Int)).toNat : Int) = _
  rw [BitVec.toNat_or, h1, h2, IntKind.wrap_u64]
  omega
theorem p128 (k : Nat) : (128 : Nat) ^ k = 2 ^ (7 * k) := by rw [show (128 : Nat) = 2 ^ 7 from rfl, ← Nat.pow_mul]
/-- the next seven bits -/
theorem or_next (U c k : Nat) (hU : U < 128 ^ k) (hc : c < 256) (hk : k < 10) :
    ∃ V : Nat, bits BinOp.or IntKind.u64 (U : Int) (IntKind.u64.wrap (IntKind.u64.wrap (bits BinOp.and IntKind.u8 (c : Int) 127) * 2 ^ min (7 * k) 64)) = (V : Int) ∧ (k < 9 ∨ c ≤ 1 → V = U + 128 ^ k * (c % 128)) := by
  have hU64 : U < 18446744073709551616 := Nat.lt_of_lt_of_le hU (by rw [p128]; exact Nat.le_trans (Nat.pow_le_pow_right (by decide) (show 7 * k ≤ 63 by omega)) (by decide))
  have e1 : IntKind.u64.wrap (bits BinOp.and IntKind.u8 (c : Int) 127) = ((c % 128 : Nat) : Int) := by rw [and_127 c hc, IntKind.wrap_u64]; omega
  have e2 : min (7 * k) 64 = 7 * k := by omega
  have e3 : ((c % 128 : Nat) : Int) * 2 ^ (7 * k) = ((c % 128 * 2 ^ (7 * k) : Nat) : Int) := by simp
  rw [e1, e2, e3, IntKind.wrap_u64]
  have e4 : ((c % 128 * 2 ^ (7 * k) : Nat) : Int) % 18446744073709551616 = ((c % 128 * 2 ^ (7 * k) % 18446744073709551616 : Nat) : Int) := by omega
  rw [e4, u64_or_nat _ _ hU64 (Nat.mod_lt _ (by decide))]
  refine ⟨_, rfl, fun h => ?_⟩
  have hlt : c % 128 * 2 ^ (7 * k) < 18446744073709551616 := by
    rcases h with h | h
    · have h1 : 2 ^ (7 * k) ≤ 2 ^ 56 := Nat.pow_le_pow_right (by decide) (by omega)
      have h2 : c % 128 * 2 ^ (7 * k) ≤ 127 * 2 ^ 56 := Nat.mul_le_mul (by omega) h1
      omega
    · have h1 : 2 ^ (7 * k) ≤ 2 ^ 63 := Nat.pow_le_pow_right (by decide) (by omega)
      have h2 : c % 128 * 2 ^ (7 * k) ≤ 1 * 2 ^ 63 := Nat.mul_le_mul (by omega) h1
      omega
  rw [Nat.mod_eq_of_lt hlt]
  rw [p128] at hU ⊢
  have h3 := Nat.two_pow_add_eq_or_of_lt hU (c % 128)
  rw [Nat.or_comm, Nat.mul_comm (c % 128), ← h3, Nat.add_comm]
theorem or_lt (U c k : Nat) (hU : U < 128 ^ k) (hc : c < 128) (hk : k < 10) (hb : ¬ ((c = 0 ∧ 0 < k) ∨ (k = 9 ∧ 1 < c))) : U + 128 ^ k * (c % 128) < 18446744073709551616 := by
  rw [Nat.mod_eq_of_lt hc]
  by_cases h9 : k = 9
  · subst h9
    have h1 : (128 : Nat) ^ 9 = 9223372036854775808 := by decide
    rw [h1] at *
    omega
  · have h1 : (128 : Nat) ^ k ≤ 128 ^ 8 := Nat.pow_le_pow_right (by decide) (by omega)
    have h2 : (128 : Nat) ^ 8 = 72057594037927936 := by decide
    have h3 : 128 ^ k * c ≤ 128 ^ 8 * 127 := Nat.mul_le_mul h1 (by omega)
    omega
theorem u64_and1 (V : Nat) (h : V < 18446744073709551616) : bits BinOp.and IntKind.u64 (V : Int) 1 = ((V % 2 : Nat) : Int) := by
  have h1 : (BitVec.ofInt 64 (V : Int)).toNat = V := by
    rw [BitVec.ofInt_natCast, BitVec.toNat_ofNat]; exact Nat.mod_eq_of_lt (by omega)
  show IntKind.u64.wrap ((BitVec.ofInt 64 (V : Int) &&& BitVec.ofInt 64 1).toNat : Int) = _
  rw [BitVec.toNat_and, h1, show (BitVec.ofInt 64 1).toNat = 1 from rfl, Nat.and_one_is_mod, IntKind.wrap_u64]
  omega
theorem i64_xor0 (n : Nat) (h : n < 9223372036854775808) : bits BinOp.xor IntKind.i64 (n : Int) 0 = (n : Int) := by
  have h1 : (BitVec.ofInt 64 (n : Int)).toNat = n := by
    rw [BitVec.ofInt_natCast, BitVec.toNat_ofNat]; exact Nat.mod_eq_of_lt (by omega)
  show IntKind.i64.wrap ((BitVec.ofInt 64 (n : Int) ^^^ BitVec.ofInt 64 0).toNat : Int) = _
  rw [BitVec.toNat_xor, h1, show (BitVec.ofInt 64 0).toNat = 0 from rfl, Nat.xor_zero, IntKind.wrap_i64]
  omega
theorem i64_xorm1 (n : Nat) (h : n < 9223372036854775808) : bits BinOp.xor IntKind.i64 (n : Int) (-1) = -(n : Int) - 1 := by
  have h1 : (BitVec.ofInt 64 (n : Int)).toNat = n := by
    rw [BitVec.ofInt_natCast, BitVec.toNat_ofNat]; exact Nat.mod_eq_of_lt (by omega)
  show IntKind.i64.wrap ((BitVec.ofInt 64 (n : Int) ^^^ BitVec.ofInt 64 (-1)).toNat : Int) = _
  have h2 : (BitVec.ofInt 64 (-1)).toNat = 2 ^ 64 - 1 := rfl
  have hx : n ^^^ (2 ^ 64 - 1) = 2 ^ 64 - 1 - n := by
    apply Nat.eq_of_testBit_eq
    intro i
    rw [Nat.testBit_xor, Nat.testBit_two_pow_sub_one, show 2 ^ 64 - 1 - n = 2 ^ 64 - (n + 1) by omega, Nat.testBit_two_pow_sub_succ (show n < 2 ^ 64 by omega)]
    by_cases hi : i < 64
    · simp [hi]
    · have : n.testBit i = false := Nat.testBit_lt_two_pow (Nat.lt_of_lt_of_le (show n < 2 ^ 64 by omega) (Nat.pow_le_pow_right (by decide) (by omega)))
      simp [hi, this]
  rw [BitVec.toNat_xor, h1, h2, hx, IntKind.wrap_i64]
  omega
theorem unzig_bits (V : Nat) (h : V < 18446744073709551616) :
    bits BinOp.xor IntKind.i64 (wrap64 ((V : Int) / 2)) (wrap64 (-wrap64 (bits BinOp.and IntKind.u64 (V : Int) 1))) = Vi.unzig V := by
  rw [u64_and1 V h]
  have e1 : wrap64 ((V : Int) / 2) = ((V / 2 : Nat) : Int) := by unfold wrap64; omega
  rw [e1]
  unfold Vi.unzig
  by_cases hm : V % 2 = 1
  · have e2 : wrap64 (-wrap64 ((V % 2 : Nat) : Int)) = -1 := by unfold wrap64; omega
    rw [e2, i64_xorm1 _ (by omega), if_pos hm]
  · have e2 : wrap64 (-wrap64 ((V % 2 : Nat) : Int)) = 0 := by unfold wrap64; omega
    rw [e2, i64_xor0 _ (by omega), if_neg hm]

set_option maxRecDepth 4000 in
set_option maxHeartbeats 400000 in
theorem get_any (s : ByteArray) (hs : s.size ≤ 2 ^ 62) (at_ : Int) (h0 : -9223372036854775808 ≤ at_) (h1 : at_ ≤ 9223372036854775807) (w : World) :
    Calls Tryz.prog 67 #[.string s, .int .i64 at_] w fun e w' => e = ret3 (Vi.get s.data.toList at_) ∧ w = w' := by
  by_cases hneg : at_ < 0
  · have hg := Vi.get_arg s.data.toList at_ (.inl hneg)
    rw [hg]
    go_enter Tryz.func67, Tryz.ntmps67
    go_wp2_with fail
    go_ret3
    exact ⟨rfl, rfl⟩
  · by_cases hbig : (s.size : Int) < at_
    · have hg := Vi.get_arg s.data.toList at_ (.inr (by simpa using hbig))
      rw [hg]
      go_enter Tryz.func67, Tryz.ntmps67
      go_wp2_with fail
      go_ret3
      exact ⟨rfl, rfl⟩
    · obtain ⟨a, rfl⟩ := Int.eq_ofNat_of_zero_le (show 0 ≤ at_ by omega)
      have ha : a ≤ s.size := by omega
      have hda : decide ((a : Int) < 0) = false := by simp
      have hdb : decide (s.size < a) = false := by simp; omega
      clear hneg hbig h0 h1
      go_enter Tryz.func67, Tryz.ntmps67
      go_wp2_with fail
      go_loop [7, 18] (fun u i => ∃ (k : Nat) (z : Int), k ≤ 10 ∧ k ≤ Vi.lead (s.data.toList.drop a) ∧ i = .int .i64 k ∧ u = .int .u64 z ∧ (k < 10 → z = ((Vi.val ((s.data.toList.drop a).take k) : Nat) : Int))) (fun _ i => 10 - (intOf i).toNat)
      case atStart => exact ⟨0, 0, by omega, by omega, rfl, rfl, fun _ => rfl⟩
      case round =>
        obtain ⟨k, z, hk, hlead, rfl, rfl, hz⟩ := hrel
        have HZ := Lib.hid hz
        have HLD := Lib.hid hlead
        clear hz hlead
        by_cases h10 : k < 10
        · have hd10 : decide ((k : Int) < 10) = true := by simp; omega
          obtain rfl := HZ.out h10
          have hU := Vi.val_lt ((s.data.toList.drop a).take k)
          generalize hUU : Vi.val ((s.data.toList.drop a).take k) = U at *
          have HU := Lib.hid hU
          have HUU := Lib.hid hUU
          have H10 := Lib.hid h10
          have h70 : (0 : Int) ≤ 7 * (k : Int) := by omega
          have h7n : (7 * (k : Int)).toNat = 7 * k := by omega
          clear h10 hU hUU
          by_cases hlt : a + k < s.size
          · have hbk : s.data.toList[a + k]? = some s[a + k] := by rw [List.getElem?_eq_getElem (by simpa using hlt)]; rfl
            have hc0 := s[a + k].toNat_lt
            have hnext := Lib.hid (Vi.val_snoc s.data.toList a k _ hbk)
            have hbad := fun h1 h2 => Vi.get_bad s.data.toList a k _ (by simpa using ha) H10.out HLD.out hbk h1 h2
            have hgood := fun h1 h2 => Vi.get_good s.data.toList a k _ (by simpa using ha) H10.out HLD.out hbk h1 h2
            have hmore := Lib.hid (Vi.lead_more s.data.toList a k _ HLD.out hbk)
            obtain ⟨V, hV, hV2⟩ := or_next U s[a + k].toNat k (by have h := HU.out; have : ((s.data.toList.drop a).take k).length ≤ k := List.length_take_le _ _; exact Nat.lt_of_lt_of_le h (Nat.pow_le_pow_right (by decide) this)) (by omega) H10.out
            rw [HUU.out] at hnext
            have HUk := Lib.hid (show U < 128 ^ k from Nat.lt_of_lt_of_le HU.out (Nat.pow_le_pow_right (by decide) (List.length_take_le _ _)))
            have hV' := hV
            rw [Nat.min_eq_left (show 7 * k ≤ 64 by have := H10.out; omega)] at hV'
            have HV2 := Lib.hid hV2
            clear hV2
            generalize hcc : s[a + k].toNat = c at *
            have HBAD := Lib.hid hbad
            have HGOOD := Lib.hid hgood
            have HC0 := Lib.hid hc0
            clear hbad hgood hc0
            have hab : decide ((s.size : Int) ≤ (a : Int) + (k : Int)) = false := by simp; omega
            by_cases h128 : 128 ≤ c
            · have hd : decide ((128 : Int) ≤ (c : Int)) = true := by simp; omega
              have hle := Lib.hid (hmore.out h128)
              clear h128 hbk
              go_wp2_with fail
              go_round
              case rel => exact ⟨k + 1, V, by have := H10.out; omega, hle.out, by go_num, rfl, fun h9 => by rw [hnext.out, HV2.out (.inl (by omega))]⟩
              case measure => have := H10.out; simp only [intOf]; omega
            · have hd : decide ((128 : Int) ≤ (c : Int)) = false := by simp; omega
              by_cases hb : (c = 0 ∧ 0 < k) ∨ (k = 9 ∧ 1 < c)
              · have hfin := Lib.hid (HBAD.out (by omega) hb)
                have hcase : ((((c : Int) == 0) = true ∧ decide (0 < k) = true) ∨ (((c : Int) == 0) = false ∧ ((k : Int) == 9) = true ∧ decide ((1 : Int) < (c : Int)) = true)) := by
                  rcases hb with ⟨h1, h2⟩ | ⟨h1, h2⟩
                  · exact .inl ⟨by simp [h1], by simp [h2]⟩
                  · exact .inr ⟨by simp; omega, by simp; omega, by simp; omega⟩
                clear h128 hb hbk
                rcases hcase with ⟨t1, t2⟩ | ⟨t1, t2, t3⟩
                all_goals
                  go_wp2_with fail
                  go_ret3
                  exact ⟨by rw [hfin.out]; rfl, rfl⟩
              · have hfin := HGOOD.out (by omega) hb
                rw [hnext.out, ← HV2.out (by have := H10.out; omega)] at hfin
                have hfin := Lib.hid hfin
                have hunz := Lib.hid (unzig_bits V (HV2.out (by have := H10.out; omega) ▸ or_lt U c k HUk.out (by omega) H10.out hb))
                have hcase : ((((c : Int) == 0) = true ∧ decide (0 < k) = false ∧ ((k : Int) == 9) = false) ∨ (((c : Int) == 0) = false ∧ ((k : Int) == 9) = false) ∨ (((c : Int) == 0) = false ∧ ((k : Int) == 9) = true ∧ decide ((1 : Int) < (c : Int)) = false)) := by
                  by_cases h1 : c = 0
                  · exact .inl ⟨by simp [h1], by simp; omega, by simp; omega⟩
                  · by_cases h2 : k = 9
                    · exact .inr (.inr ⟨by simp; omega, by simp; omega, by simp; omega⟩)
                    · exact .inr (.inl ⟨by simp; omega, by simp; omega⟩)
                clear h128 hb hbk
                rcases hcase with ⟨t1, t2, t3⟩ | ⟨t1, t2⟩ | ⟨t1, t2, t3⟩
                all_goals
                  go_wp2_with fail
                  go_ret3
                  exact ⟨by rw [hfin.out, hunz.out]; simp [ret3]; try omega, rfl⟩
          · have hge : (s.size : Int) ≤ (a : Int) + (k : Int) := by omega
            have hfin := Lib.hid (Vi.get_end s.data.toList a k (by simpa using ha) H10.out HLD.out (by simp; omega))
            go_wp2_with fail
            go_ret3
            exact ⟨by rw [hfin.out]; rfl, rfl⟩
        · obtain rfl : k = 10 := by omega
          have hfin := Lib.hid (Vi.get_ten s.data.toList a (by simpa using ha) HLD.out)
          go_wp2_with fail
          go_ret3
          exact ⟨by rw [hfin.out]; rfl, rfl⟩
end Go.Proofs.YtamiebojjinhcaaGreatDoor

namespace Go.Proofs.YtamiebojjinhcaaGreatDoor
open Go.RowKit

/-- a text and two numbers -/
def retT (g : List UInt8 × Int × Int) : Ending := .returned (.tuple #[.string (str g.1), .int .i64 g.2.1, .int .i64 g.2.2])
theorem text_str (s : ByteArray) : str (Vi.put (s.size : Int)) ++ s = str (Vi.text s.data.toList) := by
  rw [← str_of s, str_append, str_list, str_size]; rfl
theorem put_len (n : Int) : (str (Vi.put n)).size ≤ 10 := by rw [str_size]; exact Vi.enc_length 10 _


set_option maxHeartbeats 400000 in
theorem text (s : ByteArray) (hs : s.size ≤ 2 ^ 62) (w : World) :
    Calls Tryz.prog 69 #[.string s] w fun e w' => e = .returned (.string (str (Vi.text s.data.toList))) ∧ Keeps w w' := by
  have hl := put_len (s.size : Int)
  have ht := Lib.hid (text_str s)
  have hb : (s.size : Int) ≤ 9223372036854775807 := by omega
  go_enter Tryz.func69, Tryz.ntmps69
  go_wp2_with fail
  refine (put_any _ (by omega) hb _).mono ?_
  rintro e w1 ⟨rfl, hk⟩
  go_wp2_with fail
  go_ret
  exact ⟨by rw [← ht.out]; rfl, hk⟩

set_option maxHeartbeats 800000 in
theorem take (s : ByteArray) (hs : s.size ≤ 2 ^ 62) (at_ : Int) (h0 : -9223372036854775808 ≤ at_) (h1 : at_ ≤ 9223372036854775807) (most : Int) (w : World) :
    Calls Tryz.prog 70 #[.string s, .int .i64 at_, .int .i64 most] w fun e w' => e = retT (Vi.take s.data.toList at_ most) ∧ Keeps w w' := by
  rcases Vi.get_cases s.data.toList at_ with ⟨n, to, hg, ht0, ht1, hn0, hn1, ha0, ha1⟩ | ⟨x, hg, hx, hx1, hx3⟩
  · simp at ht1
    obtain ⟨t, rfl⟩ := Int.eq_ofNat_of_zero_le ht0
    have hc := get_any s hs at_ h0 h1 w
    rw [hg] at hc
    have HC := Lib.hid hc
    clear hc
    by_cases hneg : n < 0 ∨ most < n
    · have hfin := Lib.hid (show Vi.take s.data.toList at_ most = ([], 0, 3) by unfold Vi.take; rw [hg]; simp only [ne_eq, not_true_eq_false, if_false, if_pos hneg])
      have hcase : decide (n < 0) = true ∨ (decide (n < 0) = false ∧ decide (most < n) = true) := by
        by_cases h : n < 0
        · exact .inl (by simpa using h)
        · exact .inr ⟨by simpa using h, by simp; omega⟩
      clear hg hneg h0 h1 ha0 ha1
      rcases hcase with hd | ⟨hd, hd2⟩
      all_goals
        go_enter Tryz.func70, Tryz.ntmps70
        go_wp2_with fail
        refine HC.out.mono ?_
        rintro e w1 ⟨rfl, hk⟩
        simp only [ret3]
        go_wp2_with fail
        go_ret3
        exact ⟨by rw [hfin.out]; rfl, hk ▸ Keeps.refl _⟩
    · have hd : decide (n < 0) = false := by simp; omega
      have hd2 : decide (most < n) = false := by simp; omega
      obtain ⟨m, rfl⟩ := Int.eq_ofNat_of_zero_le (show 0 ≤ n by omega)
      by_cases hcut : (s.size : Int) - (t : Int) < (m : Int)
      · have hfin := Lib.hid (show Vi.take s.data.toList at_ most = ([], 0, 2) by
          unfold Vi.take; rw [hg]; simp only [ne_eq, not_true_eq_false, if_false, if_neg hneg]
          rw [if_pos (by simpa using hcut)])
        clear hg hneg h0 h1 ha0 ha1
        go_enter Tryz.func70, Tryz.ntmps70
        go_wp2_with fail
        refine HC.out.mono ?_
        rintro e w1 ⟨rfl, hk⟩
        simp only [ret3]
        go_wp2_with fail
        go_ret3
        exact ⟨by rw [hfin.out]; rfl, hk ▸ Keeps.refl _⟩
      · have hfin := Lib.hid (show Vi.take s.data.toList at_ most = ((s.data.toList.drop t).take m, (t : Int) + m, 0) by
          unfold Vi.take; rw [hg]; simp only [ne_eq, not_true_eq_false, if_false, if_neg hneg]
          rw [if_neg (by simpa using hcut)]; simp)
        have hex := Lib.hid (show s.extract t (t + m) = str ((s.data.toList.drop t).take m) by rw [← str_of (s.extract t (t + m)), Lib.extract_data, Nat.add_sub_cancel_left])
        have htm : t + m ≤ s.size := by omega
        clear hg hneg h0 h1 ha0 ha1
        go_enter Tryz.func70, Tryz.ntmps70
        go_wp2_with fail
        refine HC.out.mono ?_
        rintro e w1 ⟨rfl, hk⟩
        simp only [ret3]
        go_wp2_with fail
        go_ret3
        exact ⟨by rw [hfin.out, hex.out]; rfl, hk ▸ Keeps.refl _⟩
  · have hfin := Lib.hid (show Vi.take s.data.toList at_ most = ([], 0, x) by unfold Vi.take; rw [hg]; simp only [ne_eq, hx, not_false_eq_true, if_true])
    have hc := get_any s hs at_ h0 h1 w
    rw [hg] at hc
    have HC := Lib.hid hc
    have hxx : (x != 0) = true := by simp [hx]
    clear hc hg hx
    go_enter Tryz.func70, Tryz.ntmps70
    go_wp2_with fail
    refine HC.out.mono ?_
    rintro e w1 ⟨rfl, hk⟩
    simp only [ret3]
    go_wp2_with fail
    go_ret3
    exact ⟨by rw [hfin.out]; rfl, hk ▸ Keeps.refl _⟩

set_option maxHeartbeats 400000 in
theorem ref_text (s : ByteArray) (hs : s.size ≤ 2 ^ 62) (w : World) :
    Calls Tryz.prog 78 #[.string s] w fun e w' => e = .returned (.string (str (Vi.text s.data.toList))) ∧ Keeps w w' := by
  have hl := put_len (s.size : Int)
  have ht := Lib.hid (text_str s)
  have hb : (s.size : Int) ≤ 9223372036854775807 := by omega
  go_enter Tryz.func78, Tryz.ntmps78
  go_wp2_with fail
  refine (ref_put _ (by omega) hb _).mono ?_
  rintro e w1 ⟨rfl, hk⟩
  go_wp2_with fail
  go_ret
  exact ⟨by rw [← ht.out]; rfl, hk⟩

end Go.Proofs.YtamiebojjinhcaaGreatDoor

namespace Go.Proofs.YtamiebojjinhcaaGreatDoor
open Go.RowKit

/-- a text and an error -/
def retS (g : List UInt8 × Int) : Ending := .returned (.tuple #[.string (str g.1), .int .i64 g.2])

theorem heap_alloc_new2 (w : World) (o o' : Obj) : ((w.alloc o).alloc o').heap[w.heap.size + 1]? = some o' := by
  have := heap_alloc_new (w.alloc o) o'
  simpa using this
theorem cell_ints {w : World} {b j : Nat} {l : List Int} {t : TypeId} {x : Int} (h : w.heap[b]? = some (.cells (l.map (Value.int .i64)).toArray t (0, 0))) (hx : l[j]? = some x) : w.cell? ⟨b, j, none⟩ = some (.int .i64 x) := by
  unfold World.cell?
  rw [h]
  show (l.map (Value.int .i64)).toArray[j]? = _
  rw [List.getElem?_toArray, List.getElem?_map, hx]; rfl
theorem Vi.text_le {k : List UInt8} (h : k.length ≤ 1000) : (Vi.text k).length ≤ 1010 := by
  unfold Vi.text; have := Vi.put_length (k.length : Int); simp; omega
theorem text_at (k K : List UInt8) (h : k.length ≤ 1000) (hK : Vi.text k = K) (w : World) : Calls Tryz.prog 69 #[.string (str k)] w fun e w' => e = .returned (.string (str K)) ∧ Keeps w w' := by
  have := text (str k) (by rw [str_size]; omega) w
  rw [str_list, hK] at this
  exact this
theorem text_len (k : List UInt8) (h : k.length ≤ 1000) (w : World) : Calls Tryz.prog 69 #[.string (str k)] w fun e w' => e = .returned (.string (str (Vi.text k))) ∧ Keeps w w' :=
  text_at k _ h rfl w
theorem put_at (n : Int) (N : List UInt8) (h0 : -9223372036854775808 ≤ n) (h1 : n ≤ 9223372036854775807) (hN : Vi.put n = N) (w : World) : Calls Tryz.prog 50 #[.int .i64 n] w fun e w' => e = .returned (.string (str N)) ∧ Keeps w w' := by
  have := put_any n h0 h1 w
  rw [hN] at this
  exact this

theorem ref_text_len (k : List UInt8) (h : k.length ≤ 1000) (w : World) : Calls Tryz.prog 78 #[.string (str k)] w fun e w' => e = .returned (.string (str (Vi.text k))) ∧ Keeps w w' := by
  have := ref_text (str k) (by rw [str_size]; omega) w
  rw [str_list] at this
  exact this
end Go.Proofs.YtamiebojjinhcaaGreatDoor
