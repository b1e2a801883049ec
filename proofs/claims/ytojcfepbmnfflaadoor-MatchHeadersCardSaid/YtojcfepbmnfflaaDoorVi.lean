/-
  The plain law of numbers and texts in bytes: no program in sight.
-/
import Derived.WalkKit
set_option linter.unusedVariables false
namespace Go.Proofs.YtojcfepbmnfflaaDoor
namespace Vi
/-- a number's code -/
def zig (n : Int) : Nat := if n < 0 then (-2 * n - 1).toNat else (2 * n).toNat
def unzig (u : Nat) : Int := if u % 2 = 1 then -((u / 2 : Nat) : Int) - 1 else ((u / 2 : Nat) : Int)
theorem unzig_zig (n : Int) : unzig (zig n) = n := by
  unfold zig unzig
  split
  · rw [if_pos (by omega)]; omega
  · rw [if_neg (by omega)]; omega
theorem zig_unzig (u : Nat) : zig (unzig u) = u := by
  unfold zig unzig
  split
  · rw [if_pos (by omega)]; omega
  · rw [if_neg (by omega)]; omega
theorem zig_lt {n : Int} (h0 : -9223372036854775808 ≤ n) (h1 : n ≤ 9223372036854775807) : zig n < 18446744073709551616 := by
  unfold zig; split <;> omega
theorem unzig_bd {u : Nat} (h : u < 18446744073709551616) : -9223372036854775808 ≤ unzig u ∧ unzig u ≤ 9223372036854775807 := by
  unfold unzig; split <;> omega

/-- seven bits a byte, the lowest first -/
def enc : Nat → Nat → List UInt8
  | 0, _ => []
  | f + 1, u => if u < 128 then [UInt8.ofNat u] else UInt8.ofNat (u % 128 + 128) :: enc f (u / 128)
def put (n : Int) : List UInt8 := enc 10 (zig n)

/-- how many bytes with the high bit a text begins with -/
def lead : List UInt8 → Nat
  | [] => 0
  | b :: r => if 128 ≤ b.toNat then lead r + 1 else 0
def val : List UInt8 → Nat
  | [] => 0
  | b :: r => b.toNat % 128 + 128 * val r
/-- what is read: the code and how many bytes, or why there is none -/
def dec (l : List UInt8) : Except Nat (Nat × Nat) :=
  if 10 ≤ lead l then .error 3
  else match l[lead l]? with
    | none => .error 2
    | some b => if (b.toNat = 0 ∧ 0 < lead l) ∨ (lead l = 9 ∧ 1 < b.toNat) then .error 3 else .ok (val (l.take (lead l + 1)), lead l + 1)

theorem ofNat_toNat {n : Nat} (h : n < 256) : (UInt8.ofNat n).toNat = n := UInt8.toNat_ofNat_of_lt' h
theorem lead_le : ∀ l : List UInt8, lead l ≤ l.length
  | [] => Nat.le_refl _
  | b :: r => by unfold lead; split <;> simp [lead_le r]
theorem lead_hi : ∀ (l : List UInt8) (j : Nat), j < lead l → ∃ b, l[j]? = some b ∧ 128 ≤ b.toNat
  | [], j, h => by simp [lead] at h
  | b :: r, j, h => by
    unfold lead at h
    split at h
    · cases j with
      | zero => exact ⟨b, rfl, by assumption⟩
      | succ j => simpa using lead_hi r j (by omega)
    · omega
theorem lead_lo : ∀ (l : List UInt8) (b : UInt8), l[lead l]? = some b → b.toNat < 128
  | [], b, h => by simp at h
  | c :: r, b, h => by
    unfold lead at h
    split at h
    · exact lead_lo r b (by simpa using h)
    · simp at h; subst h; omega
/-- the count, from what is seen -/
theorem lead_eq : ∀ (l : List UInt8) (k : Nat), (∀ j, j < k → ∃ b, l[j]? = some b ∧ 128 ≤ b.toNat) → (∀ b, l[k]? = some b → b.toNat < 128) → lead l = k
  | [], k, h1, _ => by
    cases k with
    | zero => rfl
    | succ k => obtain ⟨b, hb, _⟩ := h1 0 (by omega); simp at hb
  | c :: r, 0, _, h2 => by unfold lead; rw [if_neg]; have := h2 c rfl; omega
  | c :: r, k + 1, h1, h2 => by
    obtain ⟨b, hb, hb2⟩ := h1 0 (by omega)
    simp at hb; subst hb
    unfold lead
    rw [if_pos hb2, lead_eq r k (fun j hj => by simpa using h1 (j + 1) (by omega)) (fun b hb => h2 b (by simpa using hb))]
theorem val_append : ∀ (a b : List UInt8), val (a ++ b) = val a + 128 ^ a.length * val b
  | [], b => by simp [val]
  | c :: a, b => by
    simp only [List.cons_append, val, val_append a b, List.length_cons]
    rw [Nat.pow_succ, Nat.mul_add, ← Nat.mul_assoc, Nat.mul_comm 128 (128 ^ a.length)]; omega
theorem val_lt : ∀ l : List UInt8, val l < 128 ^ l.length
  | [] => by simp [val]
  | c :: l => by
    have ih := val_lt l
    simp only [val, List.length_cons]
    have : 128 ^ (l.length + 1) = 128 * 128 ^ l.length := by rw [Nat.pow_succ, Nat.mul_comm]
    rw [this]; omega

theorem enc_length : ∀ f u, (enc f u).length ≤ f
  | 0, _ => Nat.le_refl _
  | f + 1, u => by unfold enc; split <;> simp; exact enc_length f (u / 128)
theorem enc_pos (f u : Nat) (h : 0 < f) : 0 < (enc f u).length := by
  cases f with
  | zero => omega
  | succ f => unfold enc; split <;> simp
/-- the code's shape: all bytes but the last have the high bit -/
theorem enc_shape : ∀ f u, u < 128 ^ (f + 1) → ∃ p b, enc (f + 1) u = p ++ [b] ∧ (∀ c ∈ p, 128 ≤ c.toNat) ∧ b.toNat < 128 ∧ val (p ++ [b]) = u ∧ b.toNat = u / 128 ^ p.length ∧ (0 < p.length → 0 < b.toNat)
  | 0, u, h => by
    refine ⟨[], UInt8.ofNat u, ?_, by simp, ?_, ?_, ?_, by simp⟩
    · unfold enc; rw [if_pos (by simpa using h)]; rfl
    · rw [ofNat_toNat (by omega)]; simpa using h
    · simp [val]; simpa using h
    · simp; omega
  | f + 1, u, h => by
    by_cases hu : u < 128
    · refine ⟨[], UInt8.ofNat u, ?_, by simp, ?_, ?_, ?_, by simp⟩
      · unfold enc; rw [if_pos hu]; rfl
      · rw [ofNat_toNat (by omega)]; exact hu
      · simp [val]; omega
      · simp; omega
    · have hlt : u / 128 < 128 ^ (f + 1) := by
        rw [Nat.pow_succ] at h
        exact Nat.div_lt_of_lt_mul (by rw [Nat.mul_comm]; exact h)
      obtain ⟨p, b, h1, h2, h3, h4, h5, h6⟩ := enc_shape f (u / 128) hlt
      have hc : (UInt8.ofNat (u % 128 + 128)).toNat = u % 128 + 128 := ofNat_toNat (by omega)
      refine ⟨UInt8.ofNat (u % 128 + 128) :: p, b, ?_, ?_, h3, ?_, ?_, ?_⟩
      · rw [enc, if_neg hu, h1]; rfl
      · intro c hcm
        rcases List.mem_cons.1 hcm with rfl | hcm
        · omega
        · exact h2 c hcm
      · simp only [List.cons_append, val, h4, hc]; omega
      · rw [h5, List.length_cons, Nat.pow_succ, Nat.div_div_eq_div_mul, Nat.mul_comm]
      · intro _
        by_cases hp : 0 < p.length
        · exact h6 hp
        · have : p.length = 0 := by omega
          rw [this] at h5; simp at h5; omega
theorem enc_val (f u : Nat) (h : u < 128 ^ (f + 1)) : val (enc (f + 1) u) = u := by
  obtain ⟨p, b, h1, _, _, h4, _⟩ := enc_shape f u h
  rw [h1, h4]
theorem lead_shape (p : List UInt8) (b : UInt8) (r : List UInt8) (hp : ∀ c ∈ p, 128 ≤ c.toNat) (hb : b.toNat < 128) : lead (p ++ [b] ++ r) = p.length := by
  apply lead_eq
  · intro j hj
    refine ⟨p[j], ?_, hp _ (List.getElem_mem _)⟩
    rw [List.append_assoc, List.getElem?_append_left hj, List.getElem?_eq_getElem hj]
  · intro c hc
    rw [List.append_assoc, List.getElem?_append_right (Nat.le_refl _)] at hc
    simp at hc; subst hc; exact hb
theorem pow63 : (128 : Nat) ^ 9 = 9223372036854775808 := by decide
/-- what was put is read -/
theorem dec_enc (u : Nat) (h : u < 18446744073709551616) (r : List UInt8) : dec (enc 10 u ++ r) = .ok (u, (enc 10 u).length) := by
  obtain ⟨p, b, h1, h2, h3, h4, h5, h6⟩ := enc_shape 9 u (Nat.lt_of_lt_of_le h (by decide))
  have hl : p.length + 1 ≤ 10 := by have := enc_length 10 u; rw [h1] at this; simpa using this
  have hlead := lead_shape p b r h2 h3
  rw [h1]
  unfold dec
  rw [hlead, if_neg (by omega)]
  have hg : (p ++ [b] ++ r)[p.length]? = some b := by rw [List.append_assoc, List.getElem?_append_right (Nat.le_refl _)]; simp
  rw [hg]
  have hno : ¬ ((b.toNat = 0 ∧ 0 < p.length) ∨ (p.length = 9 ∧ 1 < b.toNat)) := by
    rintro (⟨hb0, hp⟩ | ⟨hp, hb1⟩)
    · have := h6 hp; omega
    · rw [hp, pow63] at h5; omega
  simp only [if_neg hno]
  have ht : (p ++ [b] ++ r).take (p.length + 1) = p ++ [b] := by
    rw [List.take_append_of_le_length (by simp)]; rw [List.take_of_length_le (by simp)]
  rw [ht, h4]; simp
/-- of which bytes a code is made: of those of its value -/
theorem enc_of : ∀ (p : List UInt8) (b : UInt8) (f : Nat), (∀ c ∈ p, 128 ≤ c.toNat) → b.toNat < 128 → (0 < p.length → 0 < b.toNat) → p.length < f → enc f (val (p ++ [b])) = p ++ [b]
  | [], b, f, _, hb, _, hf => by
    cases f with
    | zero => omega
    | succ f =>
      have : val [b] = b.toNat := by simp [val]; omega
      rw [List.nil_append, this, enc, if_pos hb]; simp
  | c :: p, b, f, hp, hb, hz, hf => by
    cases f with
    | zero => omega
    | succ f =>
      have hb0 := hz (by simp)
      have hc := hp c (by simp)
      have hc2 := c.toNat_lt
      have hpos : 0 < val (p ++ [b]) := by
        rw [val_append]
        have : 0 < val [b] := by simp [val]; omega
        have := Nat.mul_pos (Nat.pow_pos (n := p.length) (show 0 < 128 by decide)) this
        omega
      have ih := enc_of p b f (fun x hx => hp x (by simp [hx])) hb (fun _ => hb0) (by simpa using hf)
      have h1 : val (c :: p ++ [b]) = c.toNat % 128 + 128 * val (p ++ [b]) := rfl
      rw [h1, enc, if_neg (by omega)]
      have h2 : (c.toNat % 128 + 128 * val (p ++ [b])) / 128 = val (p ++ [b]) := by omega
      have h3 : (c.toNat % 128 + 128 * val (p ++ [b])) % 128 + 128 = c.toNat := by omega
      rw [h2, h3, ih]; simp
/-- what is read has these bytes -/
theorem dec_ok {l : List UInt8} {u k : Nat} (h : dec l = .ok (u, k)) : l.take k = enc 10 u ∧ u < 18446744073709551616 ∧ 0 < k ∧ k ≤ l.length ∧ k ≤ 10 := by
  unfold dec at h
  split at h
  · cases h
  · rename_i hk
    split at h
    · cases h
    · rename_i b hb
      split at h
      · cases h
      · rename_i hno
        injection h with h
        injection h with hu hk2
        subst hk2
        have hlt : lead l < l.length := (List.getElem?_eq_some_iff.1 hb).1
        have hlo := lead_lo l b hb
        have hsplit : l.take (lead l + 1) = l.take (lead l) ++ [b] := by
          rw [List.take_add_one, hb]; rfl
        have hlen : (l.take (lead l)).length = lead l := by simp; omega
        have hhi : ∀ c ∈ l.take (lead l), 128 ≤ c.toNat := by
          intro c hc
          obtain ⟨j, hj, rfl⟩ := List.getElem_of_mem hc
          obtain ⟨d, hd, hd2⟩ := lead_hi l j (by omega)
          rw [List.getElem_take]
          have : l[j]? = some l[j] := List.getElem?_eq_getElem (by omega)
          rw [this] at hd
          injection hd with hd
          rw [hd]; exact hd2
        have he := enc_of (l.take (lead l)) b 10 hhi hlo (by rw [hlen]; omega) (by omega)
        rw [hsplit] at hu ⊢
        rw [hu] at he
        refine ⟨he.symm, ?_, by omega, by omega, by omega⟩
        have hv := val_lt (l.take (lead l) ++ [b])
        rw [val_append, hlen] at hu
        have hbv : val [b] = b.toNat := by simp [val]; omega
        rw [hbv] at hu
        have hv2 := val_lt (l.take (lead l))
        rw [hlen] at hv2
        by_cases h9 : lead l = 9
        · rw [h9, pow63] at hu hv2; omega
        · have h128 : 128 ^ lead l ≤ 128 ^ 8 := Nat.pow_le_pow_right (by decide) (by omega)
          have h1287 : (128 : Nat) ^ 8 = 72057594037927936 := by decide
          have : 128 ^ lead l * b.toNat ≤ 128 ^ lead l * 127 := Nat.mul_le_mul_left _ (by omega)
          omega
/-- a code's bytes, cut off, are none -/
theorem dec_short (u : Nat) (h : u < 18446744073709551616) (c : Nat) (hc : c < (enc 10 u).length) : dec ((enc 10 u).take c) = .error 2 := by
  obtain ⟨p, b, h1, h2, h3, h4, h5, h6⟩ := enc_shape 9 u (Nat.lt_of_lt_of_le h (by decide))
  have hl : p.length + 1 ≤ 10 := by have := enc_length 10 u; rw [h1] at this; simpa using this
  rw [h1] at hc ⊢
  simp at hc
  have ht : (p ++ [b]).take c = p.take c := List.take_append_of_le_length (by omega)
  rw [ht]
  have hlead : lead (p.take c) = c := by
    apply lead_eq
    · intro j hj
      refine ⟨p[j]'(by omega), ?_, h2 _ (List.getElem_mem _)⟩
      rw [List.getElem?_take, if_pos hj, List.getElem?_eq_getElem (by omega)]
    · intro d hd
      rw [List.getElem?_take, if_neg (by omega)] at hd; cases hd
  unfold dec
  rw [hlead, if_neg (by omega)]
  have : (p.take c)[c]? = none := by rw [List.getElem?_take, if_neg (by omega)]
  rw [this]
theorem enc_inj {u v : Nat} (hu : u < 18446744073709551616) (hv : v < 18446744073709551616) (h : enc 10 u = enc 10 v) : u = v := by
  have := congrArg val h
  rwa [enc_val 9 u (Nat.lt_of_lt_of_le hu (by decide)), enc_val 9 v (Nat.lt_of_lt_of_le hv (by decide))] at this
theorem enc_mono : ∀ f u v, u ≤ v → (enc f u).length ≤ (enc f v).length
  | 0, _, _, _ => Nat.le_refl _
  | f + 1, u, v, h => by
    unfold enc
    by_cases hu : u < 128
    · rw [if_pos hu]; split <;> simp
    · rw [if_neg hu, if_neg (by omega)]
      simp only [List.length_cons]
      have := enc_mono f (u / 128) (v / 128) (by omega)
      omega
theorem zig_mono {n m : Int} (h0 : 0 ≤ n) (h : n ≤ m) : zig n ≤ zig m := by
  unfold zig; split <;> split <;> omega

/-- Get -/
def get (l : List UInt8) (at_ : Int) : Int × Int × Int :=
  if at_ < 0 ∨ (l.length : Int) < at_ then (0, 0, 1)
  else match dec (l.drop at_.toNat) with
    | .ok (u, k) => (unzig u, at_ + k, 0)
    | .error e => (0, 0, e)
theorem get_arg (l : List UInt8) (at_ : Int) (h : at_ < 0 ∨ (l.length : Int) < at_) : get l at_ = (0, 0, 1) := by unfold get; rw [if_pos h]
theorem get_in (l : List UInt8) (a : Nat) (ha : a ≤ l.length) : get l (a : Int) = match dec (l.drop a) with
    | .ok (u, k) => (unzig u, (a : Int) + k, 0)
    | .error e => (0, 0, e) := by
  unfold get
  rw [if_neg (by omega), Int.toNat_natCast]
theorem get_ten (l : List UInt8) (a : Nat) (ha : a ≤ l.length) (h : 10 ≤ lead (l.drop a)) : get l (a : Int) = (0, 0, 3) := by
  rw [get_in l a ha, dec, if_pos h]; rfl
theorem get_end (l : List UInt8) (a k : Nat) (ha : a ≤ l.length) (hk : k < 10) (h : k ≤ lead (l.drop a)) (hend : l.length ≤ a + k) : get l (a : Int) = (0, 0, 2) := by
  have hle := lead_le (l.drop a)
  simp at hle
  have hl : lead (l.drop a) = k := by omega
  have hn : (l.drop a)[k]? = none := List.getElem?_eq_none (by simp; omega)
  rw [get_in l a ha, dec, hl, if_neg (by omega), hn]; rfl
theorem lead_at (l : List UInt8) (a k : Nat) (b : UInt8) (h : k ≤ lead (l.drop a)) (hb : l[a + k]? = some b) (hlo : b.toNat < 128) : lead (l.drop a) = k := by
  by_cases hc : k < lead (l.drop a)
  · obtain ⟨c, h1, h2⟩ := lead_hi _ _ hc
    rw [List.getElem?_drop, hb] at h1
    injection h1 with h1
    rw [← h1] at h2; omega
  · omega
theorem lead_more (l : List UInt8) (a k : Nat) (b : UInt8) (h : k ≤ lead (l.drop a)) (hb : l[a + k]? = some b) (hhi : 128 ≤ b.toNat) : k + 1 ≤ lead (l.drop a) := by
  by_cases hc : k < lead (l.drop a)
  · omega
  · have hl : lead (l.drop a) = k := by omega
    have := lead_lo (l.drop a) b (by rw [hl, List.getElem?_drop, hb])
    omega
theorem get_bad (l : List UInt8) (a k : Nat) (b : UInt8) (ha : a ≤ l.length) (hk : k < 10) (h : k ≤ lead (l.drop a)) (hb : l[a + k]? = some b) (hlo : b.toNat < 128)
    (hbad : (b.toNat = 0 ∧ 0 < k) ∨ (k = 9 ∧ 1 < b.toNat)) : get l (a : Int) = (0, 0, 3) := by
  have hl := lead_at l a k b h hb hlo
  have hn : (l.drop a)[k]? = some b := by rw [List.getElem?_drop, hb]
  rw [get_in l a ha, dec, hl, if_neg (by omega), hn]
  simp only [if_pos hbad]; rfl
theorem get_good (l : List UInt8) (a k : Nat) (b : UInt8) (ha : a ≤ l.length) (hk : k < 10) (h : k ≤ lead (l.drop a)) (hb : l[a + k]? = some b) (hlo : b.toNat < 128)
    (hbad : ¬ ((b.toNat = 0 ∧ 0 < k) ∨ (k = 9 ∧ 1 < b.toNat))) : get l (a : Int) = (unzig (val ((l.drop a).take (k + 1))), (a : Int) + (k + 1 : Nat), 0) := by
  have hl := lead_at l a k b h hb hlo
  have hn : (l.drop a)[k]? = some b := by rw [List.getElem?_drop, hb]
  rw [get_in l a ha, dec, hl, if_neg (by omega), hn]
  simp only [if_neg hbad]
theorem val_snoc (l : List UInt8) (a k : Nat) (b : UInt8) (hb : l[a + k]? = some b) : val ((l.drop a).take (k + 1)) = val ((l.drop a).take k) + 128 ^ k * (b.toNat % 128) := by
  have hn : (l.drop a)[k]? = some b := by rw [List.getElem?_drop, hb]
  have hlt := (List.getElem?_eq_some_iff.1 hn).1
  rw [List.take_add_one, hn, Option.toList, val_append, List.length_take, Nat.min_eq_left (by omega)]
  simp [val]
theorem dec_good (l : List UInt8) (a k : Nat) (b : UInt8) (hk : k < 10) (h : k ≤ lead (l.drop a)) (hb : l[a + k]? = some b) (hlo : b.toNat < 128)
    (hbad : ¬ ((b.toNat = 0 ∧ 0 < k) ∨ (k = 9 ∧ 1 < b.toNat))) : dec (l.drop a) = .ok (val ((l.drop a).take (k + 1)), k + 1) := by
  have hl := lead_at l a k b h hb hlo
  have hn : (l.drop a)[k]? = some b := by rw [List.getElem?_drop, hb]
  rw [dec, hl, if_neg (by omega), hn]
  simp only [if_neg hbad]
theorem dec_bad (l : List UInt8) (a k : Nat) (b : UInt8) (hk : k < 10) (h : k ≤ lead (l.drop a)) (hb : l[a + k]? = some b) (hlo : b.toNat < 128)
    (hbad : (b.toNat = 0 ∧ 0 < k) ∨ (k = 9 ∧ 1 < b.toNat)) : dec (l.drop a) = .error 3 := by
  have hl := lead_at l a k b h hb hlo
  have hn : (l.drop a)[k]? = some b := by rw [List.getElem?_drop, hb]
  rw [dec, hl, if_neg (by omega), hn]
  simp only [if_pos hbad]
/-- a code's bytes are those of its value, or there is none -/
theorem canon (l : List UInt8) (a k : Nat) (b : UInt8) (hk : k < 10) (h : k ≤ lead (l.drop a)) (hb : l[a + k]? = some b) (hlo : b.toNat < 128) :
    (¬ ((b.toNat = 0 ∧ 0 < k) ∨ (k = 9 ∧ 1 < b.toNat)) ∧ val ((l.drop a).take (k + 1)) < 18446744073709551616 ∧ enc 10 (val ((l.drop a).take (k + 1)) % 18446744073709551616) = (l.drop a).take (k + 1)) ∨
    (((b.toNat = 0 ∧ 0 < k) ∨ (k = 9 ∧ 1 < b.toNat)) ∧ enc 10 (val ((l.drop a).take (k + 1)) % 18446744073709551616) ≠ (l.drop a).take (k + 1)) := by
  by_cases hbad : (b.toNat = 0 ∧ 0 < k) ∨ (k = 9 ∧ 1 < b.toNat)
  · refine .inr ⟨hbad, fun he => ?_⟩
    have hd := dec_bad l a k b hk h hb hlo hbad
    have hs : l.drop a = enc 10 (val ((l.drop a).take (k + 1)) % 18446744073709551616) ++ (l.drop a).drop (k + 1) := by
      rw [he, List.take_append_drop]
    rw [hs, dec_enc _ (Nat.mod_lt _ (by decide))] at hd
    cases hd
  · have hd := dec_ok (dec_good l a k b hk h hb hlo hbad)
    refine .inl ⟨hbad, hd.2.1, ?_⟩
    rw [Nat.mod_eq_of_lt hd.2.1]; exact hd.1.symm
theorem val_drop (p : List UInt8) (m : Nat) (b : UInt8) (h : p[m]? = some b) : val (p.drop m) = b.toNat % 128 + 128 * val (p.drop (m + 1)) := by
  obtain ⟨hlt, rfl⟩ := List.getElem?_eq_some_iff.1 h
  rw [List.drop_eq_getElem_cons hlt]; rfl
/-- Text -/
def text (l : List UInt8) : List UInt8 := put l.length ++ l
/-- Take -/
def take (l : List UInt8) (at_ most : Int) : List UInt8 × Int × Int :=
  let g := get l at_
  if g.2.2 ≠ 0 then ([], 0, g.2.2)
  else if g.1 < 0 ∨ most < g.1 then ([], 0, 3)
  else if (l.length : Int) - g.2.1 < g.1 then ([], 0, 2)
  else ((l.drop g.2.1.toNat).take g.1.toNat, g.2.1 + g.1, 0)
/-- what Get answers: a number and where it ends, or an error -/
theorem get_cases (l : List UInt8) (at_ : Int) : (∃ n to, get l at_ = (n, to, 0) ∧ 0 ≤ to ∧ to ≤ l.length ∧ -9223372036854775808 ≤ n ∧ n ≤ 9223372036854775807 ∧ 0 ≤ at_ ∧ at_ < to) ∨
    (∃ e : Int, get l at_ = (0, 0, e) ∧ e ≠ 0 ∧ 1 ≤ e ∧ e ≤ 3) := by
  unfold get
  split
  · exact .inr ⟨1, rfl, by decide, by decide, by decide⟩
  · rename_i h
    cases hd : dec (l.drop at_.toNat) with
    | ok p =>
      obtain ⟨u, k⟩ := p
      obtain ⟨_, h64, hk0, hk, _⟩ := dec_ok hd
      have hb := unzig_bd h64
      simp at hk
      exact .inl ⟨_, _, rfl, by omega, by omega, hb.1, hb.2, by omega, by omega⟩
    | error e =>
      have : e = 2 ∨ e = 3 := by
        unfold dec at hd
        split at hd
        · injection hd with hd; exact .inr hd.symm
        · split at hd
          · injection hd with hd; exact .inl hd.symm
          · split at hd
            · injection hd with hd; exact .inr hd.symm
            · cases hd
      rcases this with rfl | rfl
      · exact .inr ⟨2, rfl, by decide, by decide, by decide⟩
      · exact .inr ⟨3, rfl, by decide, by decide, by decide⟩
theorem get_put (A r : List UInt8) (n : Int) (h0 : -9223372036854775808 ≤ n) (h1 : n ≤ 9223372036854775807) :
    get (A ++ put n ++ r) (A.length : Int) = (n, (A.length : Int) + ((put n).length : Int), 0) := by
  have hd : (A ++ put n ++ r).drop A.length = put n ++ r := by rw [List.append_assoc, List.drop_left]
  rw [get_in _ _ (by simp), hd, put, dec_enc _ (zig_lt h0 h1)]
  simp [unzig_zig]
theorem take_text (A t r : List UInt8) (most : Int) (ht : (t.length : Int) ≤ 9223372036854775807) (hm : (t.length : Int) ≤ most) :
    take (A ++ text t ++ r) (A.length : Int) most = (t, (A.length : Int) + ((text t).length : Int), 0) := by
  have hg := get_put A (t ++ r) (t.length : Int) (by omega) ht
  have e : A ++ text t ++ r = A ++ put (t.length : Int) ++ (t ++ r) := by simp [text]
  rw [e]
  unfold take
  rw [hg]
  simp only [ne_eq, not_true_eq_false, if_false]
  rw [if_neg (by omega), if_neg (by simp; omega)]
  have e2 : ((A.length : Int) + ((put (t.length : Int)).length : Int)).toNat = (A ++ put (t.length : Int)).length := by simp; omega
  have e3 : ((t.length : Nat) : Int).toNat = t.length := by omega
  rw [e2, List.drop_left, e3, List.take_left]
  simp [text]; omega
theorem put_length (n : Int) : (put n).length ≤ 10 := enc_length 10 _
theorem put_pos (n : Int) : 0 < (put n).length := enc_pos 10 _ (by decide)
theorem put_inj {n m : Int} (h0 : -9223372036854775808 ≤ n) (h1 : n ≤ 9223372036854775807) (k0 : -9223372036854775808 ≤ m) (k1 : m ≤ 9223372036854775807) (h : put n = put m) : n = m := by
  have := enc_inj (zig_lt h0 h1) (zig_lt k0 k1) h
  rw [← unzig_zig n, this, unzig_zig]
theorem get_short (n : Int) (h0 : -9223372036854775808 ≤ n) (h1 : n ≤ 9223372036854775807) (c : Nat) (hc : c < (put n).length) : get ((put n).take c) 0 = (0, 0, 2) := by
  have := get_in ((put n).take c) 0 (by simp)
  rw [show ((0 : Nat) : Int) = 0 from rfl] at this
  rw [this, List.drop_zero, put, dec_short _ (zig_lt h0 h1) c hc]
  rfl
theorem put_mono {n m : Int} (h0 : 0 ≤ n) (h : n ≤ m) : (put n).length ≤ (put m).length := enc_mono 10 _ _ (zig_mono h0 h)
end Vi
end Go.Proofs.YtojcfepbmnfflaaDoor
