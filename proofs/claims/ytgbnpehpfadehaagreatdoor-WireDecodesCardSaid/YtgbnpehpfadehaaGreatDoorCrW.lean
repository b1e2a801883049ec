/-
  The plain law of the sums: registers and bytes, no program in sight.
  The walks of the sums' functions.
-/
import Derived.WalkKit
import Derived.Test.YtgbnpehpfadehaaGreatDoorRows
import Derived.Test.YtgbnpehpfadehaaGreatDoorOwn
set_option linter.unusedVariables false
namespace Go.Proofs.YtgbnpehpfadehaaGreatDoor
namespace Crc
def tap : Nat := 2197175160
/-- one bit of the register -/
def f (r : Nat) : Nat := if r % 2 = 1 then (r / 2) ^^^ tap else r / 2
def fN : Nat → Nat → Nat
  | 0, r => r
  | k + 1, r => fN k (f r)

theorem xor_mod2 (a b : Nat) : (a ^^^ b) % 2 = (a % 2 + b % 2) % 2 := by
  rw [show (a ^^^ b) % 2 = (a % 2) ^^^ (b % 2) from Nat.xor_mod_two_pow (n := 1)]
  rcases Nat.mod_two_eq_zero_or_one a with ha | ha <;> rcases Nat.mod_two_eq_zero_or_one b with hb | hb <;> simp [ha, hb]

theorem xor_div2 (a b : Nat) : (a ^^^ b) / 2 = (a / 2) ^^^ (b / 2) := Nat.xor_div_two

theorem f_lin (a b : Nat) : f (a ^^^ b) = f a ^^^ f b := by
  unfold f
  rw [xor_mod2, xor_div2]
  rcases Nat.mod_two_eq_zero_or_one a with ha | ha <;> rcases Nat.mod_two_eq_zero_or_one b with hb | hb <;> simp [ha, hb]
  · rw [Nat.xor_assoc]
  · rw [Nat.xor_assoc, Nat.xor_assoc (a / 2) tap, Nat.xor_comm tap]
  · rw [Nat.xor_assoc, ← Nat.xor_assoc tap, Nat.xor_comm tap, Nat.xor_assoc (b / 2), Nat.xor_self, Nat.xor_zero]

theorem fN_lin (k : Nat) : ∀ a b, fN k (a ^^^ b) = fN k a ^^^ fN k b := by
  induction k with
  | zero => intro a b; rfl
  | succ k ih => intro a b; simp only [fN]; rw [f_lin, ih]

theorem f_lt {r : Nat} (h : r < 4294967296) : f r < 4294967296 := by
  unfold f
  have : tap < 2 ^ 32 := by decide
  split
  · exact Nat.xor_lt_two_pow (n := 32) (by omega) this
  · omega

theorem fN_lt (k : Nat) : ∀ {r : Nat}, r < 4294967296 → fN k r < 4294967296 := by
  induction k with
  | zero => intro r h; exact h
  | succ k ih => intro r h; exact ih (f_lt h)

theorem fN_add (a b : Nat) : ∀ r, fN (a + b) r = fN b (fN a r) := by
  induction a with
  | zero => intro r; simp [fN]
  | succ a ih => intro r; rw [Nat.add_right_comm]; exact ih (f r)

theorem fN_succ' (k r : Nat) : fN (k + 1) r = f (fN k r) := fN_add k 1 r

theorem fN_zero (k : Nat) : fN k 0 = 0 := by
  induction k with
  | zero => rfl
  | succ k ih => simp only [fN]; exact ih

theorem f_even {r : Nat} (h : r % 2 = 0) : f r = r / 2 := by
  unfold f; rw [if_neg (by omega)]

theorem f_ker {r : Nat} (h : r < 4294967296) (e : f r = 0) : r = 0 := by
  unfold f at e
  split at e
  · have h2 : r / 2 = tap := by
      have := congrArg (· ^^^ tap) e
      simpa [Nat.xor_assoc] using this
    have : tap = 2197175160 := rfl
    omega
  · omega

theorem fN_ker (k : Nat) : ∀ {r : Nat}, r < 4294967296 → fN k r = 0 → r = 0 := by
  induction k with
  | zero => intro r _ e; exact e
  | succ k ih => intro r h e; exact f_ker h (ih (f_lt h) e)

theorem xor_eq_zero {a b : Nat} (h : a ^^^ b = 0) : a = b := by
  have := congrArg (· ^^^ b) h
  simpa [Nat.xor_assoc] using this

theorem fN_inj (k : Nat) {r s : Nat} (hr : r < 4294967296) (hs : s < 4294967296) (e : fN k r = fN k s) : r = s := by
  apply xor_eq_zero
  apply fN_ker k
  · exact Nat.xor_lt_two_pow (n := 32) hr hs
  · rw [fN_lin, e, Nat.xor_self]

/-- so many bits of c go into the register, the lowest first -/
def feed : Nat → Nat → Nat → Nat
  | 0, r, _ => r
  | k + 1, r, c => feed k (f (r ^^^ (c % 2))) (c / 2)

theorem split2 (c : Nat) : c = (c % 2) ^^^ (2 * (c / 2)) := by
  apply Nat.eq_of_testBit_eq
  intro i
  rw [Nat.testBit_xor]
  cases i with
  | zero => simp [Nat.testBit_zero]
  | succ i =>
    rw [Nat.testBit_succ, Nat.testBit_succ, Nat.testBit_succ]
    have h1 : c % 2 / 2 = 0 := by omega
    have h2 : 2 * (c / 2) / 2 = c / 2 := by omega
    rw [h1, h2]; simp

theorem f_double (c : Nat) : f (2 * c) = c := by
  rw [f_even (by omega)]; omega

theorem feed_eq (k : Nat) : ∀ r c, fN k (r ^^^ c) = feed k r c ^^^ (c / 2 ^ k) := by
  induction k with
  | zero => intro r c; simp [fN, feed]
  | succ k ih =>
    intro r c
    simp only [fN, feed]
    have e : f (r ^^^ c) = f (r ^^^ (c % 2)) ^^^ (c / 2) := by
      conv => lhs; rw [split2 c]
      rw [← Nat.xor_assoc, f_lin, f_double]
    rw [e, ih]
    rw [Nat.div_div_eq_div_mul, Nat.pow_succ, Nat.mul_comm]

theorem feed_small {k c : Nat} (h : c < 2 ^ k) (r : Nat) : feed k r c = fN k (r ^^^ c) := by
  rw [feed_eq, Nat.div_eq_of_lt h, Nat.xor_zero]

/-- what a byte does -/
def upd (r c : Nat) : Nat := fN 8 (r ^^^ c)
theorem upd_lt {r c : Nat} (hr : r < 4294967296) (hc : c < 256) : upd r c < 4294967296 :=
  fN_lt 8 (Nat.xor_lt_two_pow (n := 32) hr (by omega))

/-- what a list of bytes does -/
def run (r : Nat) (l : List Nat) : Nat := l.foldl upd r

def steps : List Nat := [0, 274646895, 549293790, 820201905, 1098587580, 1361435347, 1640403810, 1905808397, 2197175160, 2460548119, 2722870694, 2987750089, 3280807620, 3553878443, 3811616794, 4084100981]

theorem steps_eq : ∀ n, n < 16 → fN 4 n = steps.getD n 0 := by decide

theorem split16 (c : Nat) : c = (16 * (c / 16)) ^^^ (c % 16) := by
  apply Nat.eq_of_testBit_eq
  intro i
  rw [Nat.testBit_xor]
  have h1 : (16 * (c / 16)).testBit i = (decide (4 ≤ i) && c.testBit i) := by
    rw [show 16 * (c / 16) = 2 ^ 4 * (c / 2 ^ 4) from rfl, Nat.testBit_two_pow_mul]
    by_cases h : 4 ≤ i
    · simp only [h, decide_true, Bool.true_and, Nat.testBit_div_two_pow]
      congr 1; omega
    · simp [h]
  have h2 : (c % 16).testBit i = (decide (i < 4) && c.testBit i) := by
    rw [show c % 16 = c % 2 ^ 4 from rfl, Nat.testBit_mod_two_pow]
  rw [h1, h2]
  by_cases h : 4 ≤ i
  · have : ¬ i < 4 := by omega
    simp [h, this]
  · have : i < 4 := by omega
    simp [h, this]

theorem fN4_16 (q : Nat) : fN 4 (16 * q) = q := by
  simp only [fN]
  rw [show 16 * q = 2 * (2 * (2 * (2 * q))) by omega, f_double, f_double, f_double, f_double]

theorem nibble (r : Nat) : (r / 16) ^^^ steps.getD (r % 16) 0 = fN 4 r := by
  conv => rhs; rw [split16 r]
  rw [fN_lin, fN4_16, steps_eq _ (Nat.mod_lt _ (by decide))]

theorem fN8 (r : Nat) : fN 8 r = fN 4 (fN 4 r) := fN_add 4 4 r

theorem feed_snoc (k : Nat) : ∀ r c, feed (k + 1) r c = f (feed k r c ^^^ (c / 2 ^ k % 2)) := by
  induction k with
  | zero => intro r c; simp [feed]
  | succ k ih =>
    intro r c
    show feed (k + 1) (f (r ^^^ (c % 2))) (c / 2) = f (feed k (f (r ^^^ (c % 2))) (c / 2) ^^^ (c / 2 ^ (k + 1) % 2))
    rw [ih, Nat.div_div_eq_div_mul, Nat.pow_succ, Nat.mul_comm 2]

theorem feed_lt (k : Nat) : ∀ {r : Nat} (c : Nat), r < 4294967296 → feed k r c < 4294967296 := by
  induction k with
  | zero => intro r c h; exact h
  | succ k ih => intro r c h; exact ih _ (f_lt (Nat.xor_lt_two_pow (n := 32) h (by omega)))

theorem feed8 {r c : Nat} (h : c < 256) : feed 8 r c = upd r c := feed_small h r

theorem run_lt : ∀ (l : List Nat) {r : Nat}, r < 4294967296 → (∀ c ∈ l, c < 256) → run r l < 4294967296
  | [], _, h, _ => h
  | c :: l, _, h, hl => run_lt l (upd_lt h (hl c (by simp))) (fun x hx => hl x (by simp [hx]))

/-- what a text's bytes do -/
def text (l : List UInt8) : List Nat := l.map UInt8.toNat
theorem text_lt (l : List UInt8) : ∀ c ∈ text l, c < 256 := by
  intro c hc
  obtain ⟨b, _, rfl⟩ := List.mem_map.1 hc
  exact b.toNat_lt
/-- the complement -/
def neg (r : Nat) : Nat := r ^^^ 4294967295
theorem neg_lt {r : Nat} (h : r < 4294967296) : neg r < 4294967296 := Nat.xor_lt_two_pow (n := 32) h (by decide)
theorem neg_neg (r : Nat) : neg (neg r) = r := by unfold neg; rw [Nat.xor_assoc, Nat.xor_self, Nat.xor_zero]
/-- Extend -/
def ext (x : Nat) (l : List UInt8) : Nat := neg (run (neg x) (text l))
theorem ext_lt {x : Nat} (h : x < 4294967296) (l : List UInt8) : ext x l < 4294967296 := neg_lt (run_lt _ (neg_lt h) (text_lt l))
theorem run_append (r : Nat) (a b : List Nat) : run r (a ++ b) = run (run r a) b := by simp [run]
theorem run_snoc (r : Nat) (a : List Nat) (c : Nat) : run r (a ++ [c]) = upd (run r a) c := by simp [run]

theorem upd_inj {r t c : Nat} (hr : r < 4294967296) (ht : t < 4294967296) (hc : c < 256) (e : upd r c = upd t c) : r = t := by
  have h := fN_inj 8 (Nat.xor_lt_two_pow (n := 32) hr (by omega)) (Nat.xor_lt_two_pow (n := 32) ht (by omega)) e
  have := congrArg (· ^^^ c) h
  simpa [Nat.xor_assoc] using this
theorem run_inj : ∀ (l : List Nat) {r t : Nat}, r < 4294967296 → t < 4294967296 → (∀ c ∈ l, c < 256) → run r l = run t l → r = t
  | [], _, _, _, _, _, e => e
  | c :: l, _, _, hr, ht, hl, e =>
    upd_inj hr ht (hl c (by simp)) (run_inj l (upd_lt hr (hl c (by simp))) (upd_lt ht (hl c (by simp))) (fun x hx => hl x (by simp [hx])) e)
theorem neg_inj {a b : Nat} (h : neg a = neg b) : a = b := by rw [← neg_neg a, h, neg_neg]
theorem ext_apart {x y : Nat} (hx : x < 4294967296) (hy : y < 4294967296) (l : List UInt8) (h : x ≠ y) : ext x l ≠ ext y l := fun e =>
  h (neg_inj (run_inj _ (neg_lt hx) (neg_lt hy) (text_lt l) (neg_inj e)))
theorem text_append (a b : List UInt8) : text (a ++ b) = text a ++ text b := by simp [text]
theorem ext_ext (x : Nat) (a b : List UInt8) : ext (ext x a) b = ext x (a ++ b) := by
  unfold ext; rw [neg_neg, text_append, run_append]
theorem ext_nil (x : Nat) : ext x [] = x := neg_neg x
/-- the register is linear: three texts of one length -/
theorem run3 : ∀ (a b c : List Nat) (r s t : Nat), a.length = b.length → b.length = c.length →
    run (r ^^^ s ^^^ t) (List.zipWith (· ^^^ ·) (List.zipWith (· ^^^ ·) a b) c) = run r a ^^^ run s b ^^^ run t c
  | [], [], [], _, _, _, _, _ => rfl
  | x :: a, y :: b, z :: c, r, s, t, h1, h2 => by
    have e : upd (r ^^^ s ^^^ t) (x ^^^ y ^^^ z) = upd r x ^^^ upd s y ^^^ upd t z := by
      unfold upd
      rw [← fN_lin, ← fN_lin]
      congr 1
      ac_rfl
    show run (upd (r ^^^ s ^^^ t) (x ^^^ y ^^^ z)) _ = run (upd r x) a ^^^ run (upd s y) b ^^^ run (upd t z) c
    rw [e, run3 a b c _ _ _ (by simpa using h1) (by simpa using h2)]

/-- four bytes, the lowest first -/
def le4 (n : Nat) : List UInt8 := [UInt8.ofNat (n % 256), UInt8.ofNat (n / 256 % 256), UInt8.ofNat (n / 65536 % 256), UInt8.ofNat (n / 16777216 % 256)]
theorem le4_take (n k : Nat) (h : k < 4) : (le4 n).take (k + 1) = (le4 n).take k ++ [UInt8.ofNat (n / 2 ^ (8 * k) % 256)] := by
  match k, h with
  | 0, _ => simp [le4]
  | 1, _ => rfl
  | 2, _ => rfl
  | 3, _ => rfl
theorem feed_add (a b : Nat) : ∀ r c, feed (a + b) r c = feed b (feed a r c) (c / 2 ^ a) := by
  induction a with
  | zero => intro r c; simp [feed]
  | succ a ih =>
    intro r c
    rw [Nat.add_right_comm]
    show feed (a + b) _ _ = _
    rw [ih]
    show _ = feed b (feed a (f (r ^^^ (c % 2))) (c / 2)) (c / 2 ^ (a + 1))
    rw [Nat.div_div_eq_div_mul, Nat.pow_succ, Nat.mul_comm]
theorem feed_low (k : Nat) : ∀ r c, feed k r (c % 2 ^ k) = feed k r c := by
  induction k with
  | zero => intro r c; rfl
  | succ k ih =>
    intro r c
    show feed k (f (r ^^^ (c % 2 ^ (k + 1) % 2))) (c % 2 ^ (k + 1) / 2) = feed k (f (r ^^^ (c % 2))) (c / 2)
    have h1 : c % 2 ^ (k + 1) % 2 = c % 2 := by rw [Nat.pow_succ, Nat.mul_comm]; exact Nat.mod_mul_right_mod c 2 (2 ^ k)
    have h2 : c % 2 ^ (k + 1) / 2 = c / 2 % 2 ^ k := by rw [Nat.pow_succ, Nat.mul_comm, Nat.mod_mul_right_div_self]
    rw [h1, h2, ih]
theorem feed_byte (r c : Nat) : feed 8 r c = upd r (c % 256) := by
  rw [← feed_low 8 r c]; exact feed8 (by omega)
theorem run_le4 (r n : Nat) (hn : n < 4294967296) : run r (text (le4 n)) = fN 32 (r ^^^ n) := by
  rw [← feed_small (k := 32) hn r, show 32 = 8 + (8 + (8 + 8)) from rfl, feed_add, feed_add, feed_add, feed_byte, feed_byte, feed_byte, feed_byte]
  have e : ∀ m : Nat, (UInt8.ofNat (m % 256)).toNat = m % 256 := fun m => UInt8.toNat_ofNat_of_lt' (by show m % 256 < 256; omega)
  simp only [text, le4, List.map_cons, List.map_nil, e, run, List.foldl_cons, List.foldl_nil, Nat.div_div_eq_div_mul]
theorem ends (l : List UInt8) : ext 0 (l ++ le4 (ext 0 l)) = 1214729159 := by
  have hn := ext_lt (show 0 < 4294967296 by omega) l
  unfold ext at *
  rw [text_append, run_append, run_le4 _ _ hn]
  have e : ∀ r : Nat, r ^^^ neg r = 4294967295 := fun r => by unfold neg; rw [← Nat.xor_assoc, Nat.xor_self, Nat.zero_xor]
  rw [e]
  decide +kernel

/-- a text's bits as one number -/
def num : List UInt8 → Nat
  | [] => 0
  | b :: l => b.toNat ^^^ (2 ^ 8 * num l)
theorem mul_xor (k a b : Nat) : 2 ^ k * (a ^^^ b) = (2 ^ k * a) ^^^ (2 ^ k * b) := by
  apply Nat.eq_of_testBit_eq
  intro i
  rw [Nat.testBit_xor, Nat.testBit_two_pow_mul, Nat.testBit_two_pow_mul, Nat.testBit_two_pow_mul, Nat.testBit_xor]
  by_cases h : i ≥ k <;> simp [h]
theorem num_run : ∀ (l : List UInt8) (r : Nat), run r (text l) = feed (8 * l.length) r (num l)
  | [], r => rfl
  | b :: l, r => by
    show run (upd r b.toNat) (text l) = _
    have hb : b.toNat < 2 ^ 8 := b.toNat_lt
    have h1 : (b.toNat ^^^ (2 ^ 8 * num l)) % 256 = b.toNat := by
      rw [show (256 : Nat) = 2 ^ 8 from rfl, Nat.xor_mod_two_pow, Nat.mul_mod_right, Nat.xor_zero, Nat.mod_eq_of_lt hb]
    have h2 : (b.toNat ^^^ (2 ^ 8 * num l)) / 2 ^ 8 = num l := by
      rw [Nat.xor_div_two_pow, Nat.div_eq_of_lt hb, Nat.zero_xor, Nat.mul_div_cancel_left _ (by decide)]
    rw [num_run l, List.length_cons, Nat.mul_add, Nat.add_comm (8 * l.length), show num (b :: l) = b.toNat ^^^ (2 ^ 8 * num l) from rfl, feed_add, feed_byte, h1, h2]
theorem num_set : ∀ (l : List UInt8) (j k : Nat), j < l.length → k < 8 →
    num (l.set j (l.getD j 0 ^^^ UInt8.ofNat (2 ^ k))) = num l ^^^ 2 ^ (8 * j + k)
  | b :: l, 0, k, _, hk => by
    have e : (UInt8.ofNat (2 ^ k)).toNat = 2 ^ k := UInt8.toNat_ofNat_of_lt' (by show 2 ^ k < 2 ^ 8; exact Nat.pow_lt_pow_right (by decide) hk)
    simp only [List.set_cons_zero, List.getD_cons_zero, num, UInt8.toNat_xor, e, Nat.mul_zero, Nat.zero_add]
    ac_rfl
  | b :: l, j + 1, k, hj, hk => by
    have ih := num_set l j k (by simpa using hj) hk
    simp only [List.set_cons_succ, List.getD_cons_succ, num, ih, mul_xor, ← Nat.pow_add]
    rw [show 8 + (8 * j + k) = 8 * (j + 1) + k by omega, Nat.xor_assoc]
/-- the text whose bits from fr on are turned where m has ones: behind k bits of m -/
def flips (l : List UInt8) (fr m : Nat) : Nat → List UInt8
  | 0 => l
  | k + 1 => if m / 2 ^ k % 2 = 1 then (flips l fr m k).set ((fr + k) / 8) ((flips l fr m k).getD ((fr + k) / 8) 0 ^^^ UInt8.ofNat (2 ^ ((fr + k) % 8))) else flips l fr m k
theorem flips_length (l : List UInt8) (fr m : Nat) : ∀ k, (flips l fr m k).length = l.length
  | 0 => rfl
  | k + 1 => by
    unfold flips
    split
    · rw [List.length_set, flips_length l fr m k]
    · exact flips_length l fr m k
theorem mod_succ (m k : Nat) : m % 2 ^ (k + 1) = (m % 2 ^ k) ^^^ (2 ^ k * (m / 2 ^ k % 2)) := by
  apply Nat.eq_of_testBit_eq
  intro i
  rw [Nat.testBit_xor, Nat.testBit_mod_two_pow, Nat.testBit_mod_two_pow, Nat.testBit_two_pow_mul]
  have e : m / 2 ^ k % 2 = m / 2 ^ k % 2 ^ 1 := by simp
  rw [e, Nat.testBit_mod_two_pow, Nat.testBit_div_two_pow]
  by_cases h1 : i < k
  · have h2 : ¬ i ≥ k := by omega
    have h3 : i < k + 1 := by omega
    simp [h1, h2, h3]
  · by_cases h4 : i = k
    · subst h4; simp
    · have h2 : ¬ i < k + 1 := by omega
      have h3 : ¬ i - k < 1 := by omega
      have h5 : i ≥ k := by omega
      simp [h1, h2, h3, h5]
theorem flips_num (l : List UInt8) (fr m : Nat) : ∀ k, fr + k ≤ 8 * l.length → num (flips l fr m k) = num l ^^^ (2 ^ fr * (m % 2 ^ k))
  | 0, _ => by simp [flips, Nat.mod_one]
  | k + 1, h => by
    have ih := flips_num l fr m k (by omega)
    rw [mod_succ]
    unfold flips
    split
    · rename_i h1
      rw [num_set _ _ _ (by rw [flips_length]; omega) (by omega), ih, h1, Nat.mul_one, mul_xor, ← Nat.pow_add, show 8 * ((fr + k) / 8) + (fr + k) % 8 = fr + k by omega, Nat.xor_assoc]
    · rename_i h1
      have h0 : m / 2 ^ k % 2 = 0 := by omega
      rw [ih, h0, Nat.mul_zero, Nat.xor_zero]
theorem feed_xor (k : Nat) : ∀ r c d, feed k r (c ^^^ d) = feed k r c ^^^ feed k 0 d := by
  induction k with
  | zero => intro r c d; simp [feed]
  | succ k ih =>
    intro r c d
    simp only [feed]
    have e : f (r ^^^ ((c ^^^ d) % 2)) = f (r ^^^ (c % 2)) ^^^ f (0 ^^^ (d % 2)) := by
      rw [← f_lin, show (c ^^^ d) % 2 = (c % 2) ^^^ (d % 2) from Nat.xor_mod_two_pow (n := 1)]
      congr 1
      rw [Nat.zero_xor, Nat.xor_assoc]
    have feed2 : ∀ k (r s c d : Nat), feed k (r ^^^ s) (c ^^^ d) = feed k r c ^^^ feed k s d := by
      intro k
      induction k with
      | zero => intro r s c d; rfl
      | succ k ih =>
        intro r s c d
        simp only [feed]
        have e2 : f ((r ^^^ s) ^^^ ((c ^^^ d) % 2)) = f (r ^^^ (c % 2)) ^^^ f (s ^^^ (d % 2)) := by
          rw [← f_lin, show (c ^^^ d) % 2 = (c % 2) ^^^ (d % 2) from Nat.xor_mod_two_pow (n := 1)]
          congr 1
          ac_rfl
        rw [e2, xor_div2, ih]
    rw [e, xor_div2, feed2]
theorem fN_pow (a : Nat) : ∀ w, fN a (2 ^ a * w) = w := by
  induction a with
  | zero => intro w; simp [fN]
  | succ a ih =>
    intro w
    simp only [fN]
    rw [show 2 ^ (a + 1) * w = 2 * (2 ^ a * w) by rw [Nat.pow_succ]; ac_rfl, f_double, ih]
/-- bits turned within 32 turn the sum -/
theorem flips_sum (l : List UInt8) (fr m k : Nat) (hm : m < 4294967296) (h : fr + k ≤ 8 * l.length) : (ext 0 (flips l fr m k) = ext 0 l) ↔ m % 2 ^ k = 0 := by
  have hw : m % 2 ^ k < 4294967296 := Nat.lt_of_le_of_lt (Nat.mod_le _ _) hm
  have hkk : m % 2 ^ k < 2 ^ k := Nat.mod_lt _ (Nat.two_pow_pos k)
  have hX : 2 ^ fr * (m % 2 ^ k) < 2 ^ (8 * l.length) := by
    have : 2 ^ fr * (m % 2 ^ k) < 2 ^ fr * 2 ^ k := Nat.mul_lt_mul_of_pos_left hkk (Nat.two_pow_pos fr)
    rw [← Nat.pow_add] at this
    exact Nat.lt_of_lt_of_le this (Nat.pow_le_pow_right (by decide) h)
  have e : run (neg 0) (text (flips l fr m k)) = run (neg 0) (text l) ^^^ fN (8 * l.length - fr) (m % 2 ^ k) := by
    rw [num_run, flips_length, flips_num l fr m k h, feed_xor, ← num_run, feed_small hX, Nat.zero_xor]
    congr 1
    conv => lhs; rw [show 8 * l.length = fr + (8 * l.length - fr) by omega, fN_add, fN_pow]
  constructor
  · intro h0
    have h1 := neg_inj h0
    rw [e] at h1
    have h2 := congrArg (run (neg 0) (text l) ^^^ ·) h1
    simp only [← Nat.xor_assoc, Nat.xor_self, Nat.zero_xor] at h2
    exact fN_ker _ hw h2
  · intro h0
    unfold ext
    rw [e, h0, fN_zero, Nat.xor_zero]
end Crc
end Go.Proofs.YtgbnpehpfadehaaGreatDoor

namespace Go.Proofs.YtgbnpehpfadehaaGreatDoor
open Go.RowKit

theorem neg_bits (x : Nat) (hx : x < 4294967296) : bits BinOp.xor IntKind.u32 IntKind.u32.max (x : Int) = ((Crc.neg x : Nat) : Int) := by
  have h := u32_xor_nat 4294967295 x (by omega) hx
  have e : IntKind.u32.max = ((4294967295 : Nat) : Int) := by decide
  rw [e, h, Nat.xor_comm]; rfl

theorem bit_in (q c j : Nat) (hq : q < 4294967296) : bits BinOp.xor IntKind.u32 (q : Int) ((c : Int) / 2 ^ j % 2) = ((q ^^^ (c / 2 ^ j % 2) : Nat) : Int) := by
  have e : ((c : Int) / 2 ^ j % 2) = ((c / 2 ^ j % 2 : Nat) : Int) := by simp
  rw [e]
  exact u32_xor_nat _ _ hq (by omega)
theorem bit_lt (q c j : Nat) (hq : q < 4294967296) : q ^^^ (c / 2 ^ j % 2) < 4294967296 := Nat.xor_lt_two_pow (n := 32) hq (by omega)
theorem tap_in (q : Nat) (hq : q < 4294967296) : bits BinOp.xor IntKind.u32 (q : Int) 2197175160 = ((q ^^^ Crc.tap : Nat) : Int) :=
  u32_xor_nat q 2197175160 hq (by omega)
theorem ref_hi (q c j : Nat) (hq : q < 4294967296) (h : ((bits BinOp.xor IntKind.u32 (q : Int) ((c : Int) / 2 ^ j % 2)).tmod 2 == 1) = true) :
    bits BinOp.xor IntKind.u32 ((bits BinOp.xor IntKind.u32 (q : Int) ((c : Int) / 2 ^ j % 2)).tdiv 2 % 4294967296) 2197175160 = ((Crc.f (q ^^^ (c / 2 ^ j % 2)) : Nat) : Int) := by
  have hl := bit_lt q c j hq
  rw [bit_in q c j hq] at h ⊢
  generalize q ^^^ (c / 2 ^ j % 2) = n at *
  have h1 : n % 2 = 1 := by rw [Int.tmod_eq_emod_of_nonneg (by omega)] at h; have := beq_iff_eq.1 h; omega
  rw [Int.tdiv_eq_ediv_of_nonneg (by omega), show ((n : Int) / 2 % 4294967296) = ((n / 2 : Nat) : Int) by omega, tap_in _ (by omega)]
  unfold Crc.f
  rw [if_pos h1]
theorem ref_lo (q c j : Nat) (hq : q < 4294967296) (h : ((bits BinOp.xor IntKind.u32 (q : Int) ((c : Int) / 2 ^ j % 2)).tmod 2 == 1) = false) :
    (bits BinOp.xor IntKind.u32 (q : Int) ((c : Int) / 2 ^ j % 2)).tdiv 2 % 4294967296 = ((Crc.f (q ^^^ (c / 2 ^ j % 2)) : Nat) : Int) := by
  have hl := bit_lt q c j hq
  rw [bit_in q c j hq] at h ⊢
  generalize q ^^^ (c / 2 ^ j % 2) = n at *
  have h1 : ¬ n % 2 = 1 := by rw [Int.tmod_eq_emod_of_nonneg (by omega)] at h; have := beq_eq_false_iff_ne.1 h; omega
  rw [Int.tdiv_eq_ediv_of_nonneg (by omega)]
  unfold Crc.f
  rw [if_neg h1]; omega
theorem run_take (r : Nat) (s : ByteArray) (k : Nat) (h : k < s.size) : Crc.run r (Crc.text (s.data.toList.take (k + 1))) = Crc.upd (Crc.run r (Crc.text (s.data.toList.take k))) s[k].toNat := by
  rw [take_snoc s k h, Crc.text, List.map_append, Crc.run_append]; rfl

set_option maxHeartbeats 400000 in
set_option maxRecDepth 4000 in
theorem ref_extend (x : Nat) (hx : x < 4294967296) (s : ByteArray) (hs : s.size ≤ maxLen) (w : World) :
    Calls Tryz.prog 69 #[.int .u32 x, .string s] w fun e w' => e = .returned (.int .u32 (Crc.ext x s.data.toList : Nat)) ∧ w = w' := by
  unfold maxLen at hs
  go_enter Tryz.func69, Tryz.ntmps69
  go_wp2
  go_loop [5, 6] (fun r i => ∃ k : Nat, k ≤ s.size ∧ i = .int .i64 k ∧ r = .int .u32 (Crc.run (Crc.neg x) (Crc.text (s.data.toList.take k)) : Nat)) (fun _ i => s.size - (intOf i).toNat)
  case atStart => exact ⟨0, Nat.zero_le _, rfl, by rw [neg_bits x hx]; rfl⟩
  case round =>
    obtain ⟨k, hk, rfl, rfl⟩ := hrel
    by_cases hlt : k < s.size
    · have hr0 : Crc.run (Crc.neg x) (Crc.text (s.data.toList.take k)) < 4294967296 := Crc.run_lt _ (Crc.neg_lt hx) (Crc.text_lt _)
      have hc0 : s[k].toNat < 256 := s[k].toNat_lt
      generalize hrr : Crc.run (Crc.neg x) (Crc.text (s.data.toList.take k)) = r0 at *
      have HR := Lib.hid hrr
      clear hrr
      go_wp2
      go_loop [5, 7] (fun r i => ∃ j : Nat, j ≤ 8 ∧ i = .int .i64 j ∧ r = .int .u32 (Crc.feed j r0 s[k].toNat : Nat)) (fun _ i => 8 - (intOf i).toNat)
      case atStart => exact ⟨0, by omega, rfl, rfl⟩
      case round =>
        obtain ⟨j, hj, rfl, rfl⟩ := hrel
        by_cases hl8 : j < 8
        · have hf := Crc.feed_lt j s[k].toNat hr0
          have hsn := Lib.hid (Crc.feed_snoc j r0 s[k].toNat)
          generalize Crc.feed j r0 s[k].toNat = q at *
          go_wp2
          all_goals
            go_round
            case rel => exact ⟨j + 1, by omega, by go_num, by rw [hsn.out]; first | rw [ref_hi _ _ _ hf ‹_›] | rw [ref_lo _ _ _ hf ‹_›]⟩
            case measure => simp [intOf]; omega
        · obtain rfl : j = 8 := by omega
          go_wp2
          go_round
          case rel => exact ⟨k + 1, by omega, by go_num, by rw [run_take _ s k hlt, HR.out, Crc.feed8 hc0]⟩
          case measure => simp [intOf]; omega
    · go_wp2
      go_ret
      exact ⟨ret_u32 (by rw [List.take_of_length_le (by simp; omega), neg_bits _ (Crc.run_lt _ (Crc.neg_lt hx) (Crc.text_lt _))]; rfl), rfl⟩

theorem nib_and (r : Nat) (hr : r < 4294967296) : bits BinOp.and IntKind.u32 (r : Int) 15 = ((r % 16 : Nat) : Int) := by
  have h := u32_and_nat r 15 hr (by omega)
  rw [show ((15 : Nat) : Int) = 15 from rfl] at h
  rw [h, show r &&& 15 = r % 16 from Nat.and_two_pow_sub_one_eq_mod r 4]
theorem nib_step (r : Nat) (hr : r < 4294967296) : bits BinOp.xor IntKind.u32 ((r : Int) / 16) ((Crc.steps.getD (r % 16) 0 : Nat) : Int) = ((Crc.fN 4 r : Nat) : Int) := by
  have hs : Crc.steps.getD (r % 16) 0 < 4294967296 := by
    have h : ∀ n, n < 16 → Crc.steps.getD n 0 < 4294967296 := by decide
    exact h _ (by omega)
  rw [show ((r : Int) / 16) = ((r / 16 : Nat) : Int) by omega, u32_xor_nat _ _ (by omega) hs, Crc.nibble]

/-- The table of crcc. -/
def Tab (w : World) : Prop := ∀ i, i < 16 → w.cell? ⟨0, i, none⟩ = some (.int .u32 (Crc.steps.getD i 0 : Nat))
theorem Tab.keeps {w w' : World} (h : Tab w) (k : Keeps w w') : Tab w' := fun i hi => k.cell (h i hi)

set_option maxHeartbeats 400000 in
set_option maxRecDepth 4000 in
theorem extend (x : Nat) (hx : x < 4294967296) (s : ByteArray) (hs : s.size ≤ maxLen) (w : World) (ht : Tab w) :
    Calls Tryz.prog 96 #[.int .u32 x, .string s] w fun e w' => e = .returned (.int .u32 (Crc.ext x s.data.toList : Nat)) ∧ Keeps w w' := by
  obtain ⟨cap, w1, hrun, hsz, hb, hcm, hk1⟩ := run_bytes_at (P := Tryz.prog) w 9 115 5 s hs Tryz.underlying9 Tryz.underlying115 Tryz.underlying5
  have ht1 := Lib.hid (ht.keeps hk1)
  have hb1 := Lib.hid hb
  have HSZ := Lib.hid hsz
  clear ht hb hsz
  unfold maxLen at hs hcm
  go_enter Tryz.func96, Tryz.ntmps96
  go_wp2
  go_loop [5, 13] (fun r i => ∃ k : Nat, k ≤ s.size ∧ i = .int .i64 k ∧ r = .int .u32 (Crc.run (Crc.neg x) (Crc.text (s.data.toList.take k)) : Nat)) (fun _ i => s.size - (intOf i).toNat)
  case atStart => exact ⟨0, Nat.zero_le _, rfl, by rw [neg_bits x hx]; rfl⟩
  case round =>
    obtain ⟨k, hk, rfl, rfl⟩ := hrel
    by_cases hlt : k < s.size
    · have hr0 : Crc.run (Crc.neg x) (Crc.text (s.data.toList.take k)) < 4294967296 := Crc.run_lt _ (Crc.neg_lt hx) (Crc.text_lt _)
      have hc0 : s[k].toNat < 256 := s[k].toNat_lt
      have hcell : w1.cell? ⟨w.heap.size, k, none⟩ = some (.int .u8 (s[k].toNat : Int)) := hb1.out.cell k (by simpa using hlt)
      generalize hrr : Crc.run (Crc.neg x) (Crc.text (s.data.toList.take k)) = r0 at *
      have HR := Lib.hid hrr
      clear hrr
      have hx0 := u32_xor_nat r0 s[k].toNat hr0 (by omega)
      have hl0 : r0 ^^^ s[k].toNat < 4294967296 := Nat.xor_lt_two_pow (n := 32) hr0 (by omega)
      generalize hcc : s[k].toNat = c at *
      have HC := Lib.hid hcc
      clear hcc
      generalize hqq : r0 ^^^ c = q0 at *
      have HQ := Lib.hid hqq
      clear hqq
      go_wp2
      go_loop [5, 21] (fun r i => ∃ j : Nat, j ≤ 2 ∧ i = .int .i64 j ∧ r = .int .u32 (Crc.fN (4 * j) q0 : Nat)) (fun _ i => 2 - (intOf i).toNat)
      case atStart => exact ⟨0, by omega, rfl, rfl⟩
      case round =>
        obtain ⟨j, hj, rfl, rfl⟩ := hrel
        by_cases hl8 : j < 2
        · have hf : Crc.fN (4 * j) q0 < 4294967296 := Crc.fN_lt _ hl0
          have hsn := Lib.hid (show Crc.fN (4 * (j + 1)) q0 = Crc.fN 4 (Crc.fN (4 * j) q0) from Crc.fN_add (4 * j) 4 q0)
          generalize Crc.fN (4 * j) q0 = q at *
          have hnib := Lib.hid (nib_step q hf)
          have hand := nib_and q hf
          have hn16 : q % 16 < 16 := by omega
          have htab := ht1.out (q % 16) hn16
          generalize Crc.steps.getD (q % 16) 0 = st at *
          generalize q % 16 = n at *
          go_wp2
          go_round
          case rel => exact ⟨j + 1, by omega, by go_num, by rw [hsn.out, hnib.out]⟩
          case measure => simp [intOf]; omega
        · obtain rfl : j = 2 := by omega
          go_wp2
          go_round
          case rel => exact ⟨k + 1, by omega, by go_num, by rw [run_take _ s k hlt, HR.out, HC.out, Crc.upd, HQ.out]⟩
          case measure => simp [intOf]; omega
    · go_wp2
      go_ret
      exact ⟨ret_u32 (by rw [List.take_of_length_le (by simp; omega), neg_bits _ (Crc.run_lt _ (Crc.neg_lt hx) (Crc.text_lt _))]; rfl), hk1⟩
end Go.Proofs.YtgbnpehpfadehaaGreatDoor
