/-
  Plain: small letters, characters, the words of a text.
-/
import Derived.Test.YtojcfepbmnfflaaDoorKit
import Derived.Lib.DecodeN
set_option linter.unusedVariables false
namespace Go.Proofs.YtojcfepbmnfflaaDoor.Tk
open Go

def up (b : UInt8) : UInt8 := if 65 ≤ b.toNat ∧ b.toNat ≤ 90 then b + 32 else b
def fold (l : List UInt8) : List UInt8 := l.map up
theorem up_nat (b : UInt8) : (up b).toNat = if 65 ≤ b.toNat ∧ b.toNat ≤ 90 then b.toNat + 32 else b.toNat := by
  unfold up; split
  · rename_i h
    rw [UInt8.toNat_add]; show (b.toNat + 32) % 256 = _; omega
  · rfl
theorem up_up (b : UInt8) : up (up b) = up b := by
  have h := up_nat b
  have hn : ¬ (65 ≤ (up b).toNat ∧ (up b).toNat ≤ 90) := by rw [h]; split <;> omega
  generalize up b = c at *
  unfold up; rw [if_neg hn]
theorem fold_fold (l : List UInt8) : fold (fold l) = fold l := by simp [fold, up_up]
theorem fold_length (l : List UInt8) : (fold l).length = l.length := by simp [fold]
theorem fold_append (a b : List UInt8) : fold (a ++ b) = fold a ++ fold b := by simp [fold]

def szN (b0 b1 b2 b3 : Nat) : Nat := (Lib.decodeN 4 b0 b1 b2 b3).2
theorem decodeN_four (n b0 b1 b2 b3 : Nat) (h1 : n ≤ 1 → b1 = 0) (h2 : n ≤ 2 → b2 = 0) (h3 : n ≤ 3 → b3 = 0) : Lib.decodeN n b0 b1 b2 b3 = Lib.decodeN 4 b0 b1 b2 b3 := by
  have e1 : (1 < n ∧ b1 / 64 = 2) = (1 < 4 ∧ b1 / 64 = 2) := propext ⟨fun h => by omega, fun h => by by_cases hn : n ≤ 1 <;> omega⟩
  have e2 : (2 < n ∧ b2 / 64 = 2) = (2 < 4 ∧ b2 / 64 = 2) := propext ⟨fun h => by omega, fun h => by by_cases hn : n ≤ 2 <;> omega⟩
  have e3 : (3 < n ∧ b3 / 64 = 2) = (3 < 4 ∧ b3 / 64 = 2) := propext ⟨fun h => by omega, fun h => by by_cases hn : n ≤ 3 <;> omega⟩
  unfold Lib.decodeN
  simp only [e1, e2, e3]
def at' (l : List UInt8) (i : Nat) : Nat := (l.getD i 0).toNat
theorem at_lt (l : List UInt8) (i : Nat) : at' l i < 256 := (l.getD i 0).toNat_lt
theorem at_end (l : List UInt8) (i : Nat) (h : l.length ≤ i) : at' l i = 0 := by
  unfold at'; rw [List.getD_eq_getElem?_getD, List.getElem?_eq_none h]; rfl
/-- the model's decode at a text's beginning -/
def dec (l : List UInt8) : Nat × Nat := Lib.decodeN l.length (at' l 0) (at' l 1) (at' l 2) (at' l 3)
def sz (l : List UInt8) : Nat := (dec l).2
theorem sz_eq (l : List UInt8) : sz l = szN (at' l 0) (at' l 1) (at' l 2) (at' l 3) := by
  unfold sz dec szN
  rw [decodeN_four l.length _ _ _ _ (fun h => at_end l 1 h) (fun h => at_end l 2 h) (fun h => at_end l 3 h)]

theorem szN_ascii (b0 b1 b2 b3 : Nat) (h : b0 < 128) : szN b0 b1 b2 b3 = 1 := by unfold szN Lib.decodeN; rw [if_pos h]
theorem szN_1 (b0 b1 b2 b3 : Nat) (h : b1 / 64 ≠ 2) : szN b0 b1 b2 b3 = 1 := by
  unfold szN Lib.decodeN
  simp only [h, and_false, false_and, if_false]
  split <;> rfl
theorem szN_2 (b0 b1 b2 b3 c2 c3 : Nat) (h : b2 / 64 ≠ 2) (hc : c2 / 64 ≠ 2) : szN b0 b1 b2 b3 = szN b0 b1 c2 c3 := by
  unfold szN Lib.decodeN
  simp only [h, hc, and_false, false_and, if_false]
theorem szN_3 (b0 b1 b2 b3 c3 : Nat) (h : b3 / 64 ≠ 2) (hc : c3 / 64 ≠ 2) : szN b0 b1 b2 b3 = szN b0 b1 b2 c3 := by
  unfold szN Lib.decodeN
  simp only [h, hc, and_false, if_false]
theorem szN_cases (b0 b1 b2 b3 : Nat) : szN b0 b1 b2 b3 = 1 ∨ (szN b0 b1 b2 b3 = 2 ∧ 128 ≤ b0 ∧ b1 / 64 = 2 ∧ ∀ c2 c3, szN b0 b1 c2 c3 = 2)
    ∨ (szN b0 b1 b2 b3 = 3 ∧ 128 ≤ b0 ∧ b1 / 64 = 2 ∧ b2 / 64 = 2 ∧ ∀ c3, szN b0 b1 b2 c3 = 3) ∨ (szN b0 b1 b2 b3 = 4 ∧ 128 ≤ b0 ∧ b1 / 64 = 2 ∧ b2 / 64 = 2 ∧ b3 / 64 = 2) := by
  by_cases h0 : b0 < 128
  · exact Or.inl (szN_ascii _ _ _ _ h0)
  by_cases h1 : b1 / 64 = 2
  · by_cases a : b0 / 32 = 6
    · by_cases c : b0 % 32 * 64 + b1 % 64 ≥ 128
      · right; left
        have : ∀ c2 c3, szN b0 b1 c2 c3 = 2 := fun c2 c3 => by unfold szN Lib.decodeN; simp [h0, h1, a, c]
        exact ⟨this _ _, by omega, h1, this⟩
      · left; unfold szN Lib.decodeN; simp [h0, h1, a, c]
    · by_cases h2 : b2 / 64 = 2
      · by_cases d : b0 / 16 = 14
        · by_cases c : (b0 % 16 * 4096 + b1 % 64 * 64 + b2 % 64 ≥ 2048 ∧ (b0 % 16 * 4096 + b1 % 64 * 64 + b2 % 64 < 55296 ∨ (57344 ≤ b0 % 16 * 4096 + b1 % 64 * 64 + b2 % 64 ∧ b0 % 16 * 4096 + b1 % 64 * 64 + b2 % 64 ≤ 1114111)))
          · right; right; left
            have : ∀ c3, szN b0 b1 b2 c3 = 3 := fun c3 => by unfold szN Lib.decodeN; rw [if_neg h0, if_neg (by omega), if_pos (by omega), if_pos c]
            exact ⟨this _, by omega, h1, h2, this⟩
          · left; unfold szN Lib.decodeN; rw [if_neg h0, if_neg (by omega), if_pos (by omega), if_neg c]
        · by_cases h3 : b3 / 64 = 2
          · by_cases g : b0 / 8 = 30
            · unfold szN Lib.decodeN
              rw [if_neg h0, if_neg (by omega), if_neg (by omega), if_pos (by omega)]
              split
              · right; right; right; exact ⟨rfl, by omega, h1, h2, h3⟩
              · left; rfl
            · left; unfold szN Lib.decodeN; rw [if_neg h0, if_neg (by omega), if_neg (by omega), if_neg (by omega)]
          · left; unfold szN Lib.decodeN; rw [if_neg h0, if_neg (by omega), if_neg (by omega), if_neg (by omega)]
      · left; unfold szN Lib.decodeN; rw [if_neg h0, if_neg (by omega), if_neg (by omega), if_neg (by omega)]
  · exact Or.inl (szN_1 _ _ _ _ h1)

theorem sz_pos (l : List UInt8) : 1 ≤ sz l := by
  rw [sz_eq]; have := szN_cases (at' l 0) (at' l 1) (at' l 2) (at' l 3); omega
theorem sz_le (l : List UInt8) (h : l ≠ []) : sz l ≤ l.length := by
  have hp : 0 < l.length := List.length_pos_iff.2 h
  have e1 := at_end l 1; have e2 := at_end l 2; have e3 := at_end l 3
  rw [sz_eq]
  rcases szN_cases (at' l 0) (at' l 1) (at' l 2) (at' l 3) with e | ⟨e, _, h1, _⟩ | ⟨e, _, h1, h2, _⟩ | ⟨e, _, h1, h2, h3⟩
  · omega
  · rw [e]; by_cases hl : l.length ≤ 1
    · rw [e1 hl] at h1; omega
    · omega
  · rw [e]; by_cases hl : l.length ≤ 2
    · rw [e2 hl] at h2; omega
    · omega
  · rw [e]; by_cases hl : l.length ≤ 3
    · rw [e3 hl] at h3; omega
    · omega
theorem sz_four (l : List UInt8) : sz l ≤ 4 := by
  rw [sz_eq]; have := szN_cases (at' l 0) (at' l 1) (at' l 2) (at' l 3); omega

def asc (b : Nat) : Bool := (decide (97 ≤ b) && decide (b ≤ 122)) || (decide (65 ≤ b) && decide (b ≤ 90)) || (decide (48 ≤ b) && decide (b ≤ 57)) || b == 95
/-- is the character at a text's beginning a letter? -/
def isL (l : List UInt8) : Bool := decide (1 < sz l) || asc (at' l 0)
theorem asc_lt {b : Nat} (h : asc b = true) : b < 128 := by simp [asc] at h; omega

theorem at_cons (b : UInt8) (l : List UInt8) (i : Nat) : at' (b :: l) (i + 1) = at' l i := by simp [at']
theorem at_append_left (a b : List UInt8) (i : Nat) (h : i < a.length) : at' (a ++ b) i = at' a i := by
  unfold at'; rw [List.getD_eq_getElem?_getD, List.getD_eq_getElem?_getD, List.getElem?_append_left h]
theorem at_append_right (a b : List UInt8) (i : Nat) (h : a.length ≤ i) : at' (a ++ b) i = at' b (i - a.length) := by
  unfold at'; rw [List.getD_eq_getElem?_getD, List.getD_eq_getElem?_getD, List.getElem?_append_right h]

/-- behind a whole text, a byte that continues no character changes nothing -/
theorem sz_behind (a : List UInt8) (c : UInt8) (r : List UInt8) (h : a ≠ []) (hc : c.toNat < 128) : sz (a ++ c :: r) = sz a := by
  have hp : 0 < a.length := List.length_pos_iff.2 h
  have hx : at' (a ++ c :: r) a.length = c.toNat := by rw [at_append_right _ _ _ (Nat.le_refl _)]; simp [at']
  rw [sz_eq, sz_eq, at_append_left a _ 0 hp]
  by_cases h1 : a.length = 1
  · rw [h1] at hx; rw [hx, at_end a 1 (by omega), szN_1 _ _ _ _ (by omega), szN_1 _ _ _ _ (by omega)]
  rw [at_append_left a _ 1 (by omega)]
  by_cases h2 : a.length = 2
  · rw [h2] at hx; rw [hx, at_end a 2 (by omega), at_end a 3 (by omega)]; exact szN_2 _ _ _ _ _ _ (by omega) (by omega)
  rw [at_append_left a _ 2 (by omega)]
  by_cases h3 : a.length = 3
  · rw [h3] at hx; rw [hx, at_end a 3 (by omega)]; exact szN_3 _ _ _ _ _ (by omega) (by omega)
  rw [at_append_left a _ 3 (by omega)]
theorem at_fold (l : List UInt8) (i : Nat) : at' (fold l) i = if 65 ≤ at' l i ∧ at' l i ≤ 90 then at' l i + 32 else at' l i := by
  unfold at' fold
  rw [List.getD_eq_getElem?_getD, List.getD_eq_getElem?_getD, List.getElem?_map]
  cases l[i]? with
  | none => simp
  | some b => exact up_nat b
theorem sz_fold (l : List UInt8) : sz (fold l) = sz l := by
  rw [sz_eq, sz_eq, at_fold, at_fold, at_fold, at_fold]
  generalize at' l 0 = b0; generalize at' l 1 = b1; generalize at' l 2 = b2; generalize at' l 3 = b3
  by_cases h0 : 65 ≤ b0 ∧ b0 ≤ 90
  · rw [if_pos h0, szN_ascii _ _ _ _ (by omega), szN_ascii _ _ _ _ (by omega)]
  rw [if_neg h0]
  by_cases h1 : 65 ≤ b1 ∧ b1 ≤ 90
  · rw [if_pos h1, szN_1 _ _ _ _ (by omega), szN_1 _ _ _ _ (by omega)]
  rw [if_neg h1]
  by_cases h2 : 65 ≤ b2 ∧ b2 ≤ 90
  · rw [if_pos h2]; exact szN_2 _ _ _ _ _ _ (by omega) (by omega)
  rw [if_neg h2]
  by_cases h3 : 65 ≤ b3 ∧ b3 ≤ 90
  · rw [if_pos h3]; exact szN_3 _ _ _ _ _ (by omega) (by omega)
  rw [if_neg h3]
theorem asc_fold (b : Nat) : asc (if 65 ≤ b ∧ b ≤ 90 then b + 32 else b) = asc b := by
  split
  · rename_i h
    have : asc b = true := by simp [asc]; omega
    rw [this]; simp [asc]; omega
  · rfl
theorem isL_fold (l : List UInt8) : isL (fold l) = isL l := by
  unfold isL; rw [sz_fold, at_fold, asc_fold]
theorem isL_behind (a : List UInt8) (c : UInt8) (r : List UInt8) (h : a ≠ []) (hc : c.toNat < 128) : isL (a ++ c :: r) = isL a := by
  unfold isL; rw [sz_behind a c r h hc, at_append_left a _ 0 (List.length_pos_iff.2 h)]

/-- a letter: its bytes say so whatever is behind it -/
def Let (c : List UInt8) : Prop := c ≠ [] ∧ ∀ r, sz (c ++ r) = c.length ∧ isL (c ++ r) = true
theorem let_of (l : List UInt8) (h : l ≠ []) (hl : isL l = true) : Let (l.take (sz l)) := by
  have hle := sz_le l h
  have hp := sz_pos l
  have hlen : (l.take (sz l)).length = sz l := by simp; omega
  have hat : ∀ i, i < sz l → ∀ r, at' (l.take (sz l) ++ r) i = at' l i := fun i hi r => by
    rw [at_append_left _ _ _ (by omega)]
    unfold at'; rw [List.getD_eq_getElem?_getD, List.getD_eq_getElem?_getD, List.getElem?_take, if_pos hi]
  refine ⟨by intro e; rw [e] at hlen; simp at hlen; omega, fun r => ?_⟩
  rw [hlen]
  have key : sz (l.take (sz l) ++ r) = sz l := by
    rw [sz_eq (_ ++ r)]
    have e0 := sz_eq l
    rcases szN_cases (at' l 0) (at' l 1) (at' l 2) (at' l 3) with e | ⟨e, _, _, hc⟩ | ⟨e, _, _, _, hc⟩ | ⟨e, _⟩
    · have h1 : sz l = 1 := by omega
      have ha : asc (at' l 0) = true := by unfold isL at hl; rw [h1] at hl; simpa using hl
      rw [szN_ascii _ _ _ _ (by rw [hat 0 (by omega)]; exact asc_lt ha), h1]
    · rw [hat 0 (by omega), hat 1 (by omega), hc, e0, e]
    · rw [hat 0 (by omega), hat 1 (by omega), hat 2 (by omega), hc, e0, e]
    · rw [hat 0 (by omega), hat 1 (by omega), hat 2 (by omega), hat 3 (by omega), e0]
  refine ⟨key, ?_⟩
  unfold isL at hl ⊢
  rw [key, hat 0 (by omega)]; exact hl

/-- what a word so far gives -/
def flush (cur : List UInt8) : List (List UInt8) := if cur.isEmpty then [] else [fold cur]
/-- the words of a text, a word having begun -/
def run : Nat → List UInt8 → List UInt8 → List (List UInt8)
  | 0, _, cur => flush cur
  | f + 1, l, cur => if l.isEmpty then flush cur else if isL l then run f (l.drop (sz l)) (cur ++ l.take (sz l)) else flush cur ++ run f (l.drop (sz l)) []
def words (l : List UInt8) : List (List UInt8) := run l.length l []

theorem run_nil (f : Nat) (cur : List UInt8) : run f [] cur = flush cur := by cases f <;> simp [run]
theorem run_step (f : Nat) (l cur : List UInt8) (h : l ≠ []) : run (f + 1) l cur = if isL l then run f (l.drop (sz l)) (cur ++ l.take (sz l)) else flush cur ++ run f (l.drop (sz l)) [] := by
  cases l with
  | nil => exact absurd rfl h
  | cons a l => simp [run]
theorem run_fuel : ∀ (f g : Nat) (l cur : List UInt8), l.length ≤ f → l.length ≤ g → run f l cur = run g l cur
  | 0, g, l, cur, h, _ => by
    obtain rfl : l = [] := List.eq_nil_of_length_eq_zero (by omega)
    rw [run_nil, run_nil]
  | f + 1, 0, l, cur, _, h => by
    obtain rfl : l = [] := List.eq_nil_of_length_eq_zero (by omega)
    rw [run_nil, run_nil]
  | f + 1, g + 1, l, cur, hf, hg => by
    by_cases hl : l = []
    · subst hl; rw [run_nil, run_nil]
    have := sz_pos l
    have hd : (l.drop (sz l)).length ≤ l.length - 1 := by simp; omega
    rw [run_step _ _ _ hl, run_step _ _ _ hl, run_fuel f g _ _ (by omega) (by omega), run_fuel f g _ [] (by omega) (by omega)]
/-- the same, without fuel -/
def from' (l cur : List UInt8) : List (List UInt8) := run l.length l cur
theorem words_from (l : List UInt8) : words l = from' l [] := rfl
theorem from_nil (cur : List UInt8) : from' [] cur = flush cur := rfl
theorem from_step (l cur : List UInt8) (h : l ≠ []) : from' l cur = if isL l then from' (l.drop (sz l)) (cur ++ l.take (sz l)) else flush cur ++ from' (l.drop (sz l)) [] := by
  have hp : 0 < l.length := List.length_pos_iff.2 h
  have := sz_pos l
  have hd : (l.drop (sz l)).length ≤ l.length - 1 := by simp; omega
  obtain ⟨n, hn⟩ : ∃ n, l.length = n + 1 := ⟨l.length - 1, by omega⟩
  unfold from'
  rw [hn, run_step _ _ _ h, run_fuel n (l.drop (sz l)).length _ _ (by omega) (Nat.le_refl _), run_fuel n (l.drop (sz l)).length _ [] (by omega) (Nat.le_refl _)]

theorem drop_ne (l : List UInt8) (h : l ≠ []) : (l.drop (sz l)).length < l.length := by
  have hp : 0 < l.length := List.length_pos_iff.2 h
  have := sz_pos l
  simp; omega

/-- joined by a byte that is no letter -/
theorem from_joined (c : UInt8) (b : List UInt8) (hc : c.toNat < 128) (hn : asc c.toNat = false) : ∀ (n : Nat) (a cur : List UInt8), a.length ≤ n → from' (a ++ c :: b) cur = from' a cur ++ from' b []
  | n, [], cur, _ => by
    have h1 : sz (c :: b) = 1 := by rw [sz_eq, szN_ascii]; simpa [at'] using hc
    have h2 : isL (c :: b) = false := by unfold isL; rw [h1]; simpa [at'] using hn
    rw [List.nil_append, from_step _ _ (by simp), h2, h1, from_nil]; simp
  | 0, x :: a, cur, h => by simp at h
  | n + 1, x :: a, cur, h => by
    have hne : x :: a ≠ [] := by simp
    have hs := sz_behind (x :: a) c b hne hc
    have hl := isL_behind (x :: a) c b hne hc
    have hle := sz_le (x :: a) hne
    have hd := drop_ne (x :: a) hne
    rw [from_step ((x :: a) ++ c :: b) _ (by simp), from_step (x :: a) _ hne, hs, hl, List.drop_append_of_le_length hle, List.take_append_of_le_length hle]
    rw [from_joined c b hc hn n _ _ (by simp at hd h ⊢; omega), from_joined c b hc hn n _ [] (by simp at hd h ⊢; omega)]
    split
    · rfl
    · rw [List.append_assoc]
theorem words_joined (a b : List UInt8) : words (a ++ [32] ++ b) = words a ++ words b := by
  have := from_joined 32 b (by decide) (by decide) a.length a [] (Nat.le_refl _)
  rw [words_from, words_from, words_from, ← this]; simp

theorem flush_fold (cur : List UInt8) : flush (fold cur) = flush cur := by
  unfold flush; rw [fold_fold]; cases cur <;> simp [fold]
theorem from_fold : ∀ (n : Nat) (l cur : List UInt8), l.length ≤ n → from' (fold l) (fold cur) = from' l cur
  | n, [], cur, _ => flush_fold cur
  | 0, x :: a, cur, h => by simp at h
  | n + 1, x :: a, cur, h => by
    have hne : x :: a ≠ [] := by simp
    have hd := drop_ne (x :: a) hne
    rw [from_step (x :: a) _ hne, from_step (fold (x :: a)) _ (by simp [fold]), sz_fold, isL_fold, flush_fold]
    have e1 : (fold (x :: a)).drop (sz (x :: a)) = fold ((x :: a).drop (sz (x :: a))) := by simp [fold]
    have e2 : fold cur ++ (fold (x :: a)).take (sz (x :: a)) = fold (cur ++ (x :: a).take (sz (x :: a))) := by simp [fold]
    rw [e1, e2, from_fold n _ _ (by simp at hd h ⊢; omega)]
    have e3 := from_fold n ((x :: a).drop (sz (x :: a))) [] (by simp at hd h ⊢; omega)
    rw [show fold [] = [] from rfl] at e3
    rw [e3]
theorem words_fold (l : List UInt8) : words (fold l) = words l := from_fold l.length l [] (Nat.le_refl _)

/-- a word: letters, one behind the other -/
def Word (w : List UInt8) : Prop := ∃ cs : List (List UInt8), (∀ c ∈ cs, Let c) ∧ w = cs.flatten
theorem word_nil : Word [] := ⟨[], by simp, rfl⟩
theorem word_more {w c : List UInt8} (h : Word w) (hc : Let c) : Word (w ++ c) := by
  obtain ⟨cs, h1, rfl⟩ := h
  refine ⟨cs ++ [c], ?_, by simp⟩
  intro d hd
  rcases List.mem_append.1 hd with hd | hd
  · exact h1 d hd
  · obtain rfl : d = c := by simpa using hd
    exact hc
theorem let_fold {c : List UInt8} (h : Let c) : Let (fold c) := by
  refine ⟨by intro e; have := fold_length c; rw [e] at this; exact h.1 (List.eq_nil_of_length_eq_zero this.symm), fun r => ?_⟩
  have h0 := h.2 r
  have e : ∀ r, sz (fold c ++ r) = c.length := fun r => by
    have a := (h.2 (fold r)).1
    rw [← sz_fold, fold_append, fold_fold] at a
    rw [← sz_fold, fold_append, fold_fold]; exact a
  have e2 : isL (fold c ++ r) = true := by
    have a := (h.2 (fold r)).2
    rw [← isL_fold, fold_append, fold_fold] at a
    rw [← isL_fold, fold_append, fold_fold]; exact a
  exact ⟨by rw [e, fold_length], e2⟩
theorem word_fold {w : List UInt8} (h : Word w) : Word (fold w) := by
  obtain ⟨cs, h1, rfl⟩ := h
  refine ⟨cs.map fold, ?_, by simp [fold, List.map_flatten]; rfl⟩
  intro d hd
  obtain ⟨c, hc, rfl⟩ := List.mem_map.1 hd
  exact let_fold (h1 c hc)
theorem from_word : ∀ (cs : List (List UInt8)) (cur : List UInt8), (∀ c ∈ cs, Let c) → from' cs.flatten cur = flush (cur ++ cs.flatten)
  | [], cur, _ => by simp [from_nil]
  | c :: cs, cur, h => by
    have hc := h c (by simp)
    have hcs := hc.2 cs.flatten
    rw [List.flatten_cons, from_step _ _ (by simp [hc.1]), hcs.1, hcs.2, if_pos rfl, List.drop_left, List.take_left, from_word cs _ (fun d hd => h d (by simp [hd])), List.append_assoc]
theorem words_word {w : List UInt8} (h : Word w) : words w = flush w := by
  obtain ⟨cs, h1, rfl⟩ := h
  have := from_word cs [] h1
  rw [words_from, this]; simp
theorem from_words : ∀ (n : Nat) (l cur : List UInt8), l.length ≤ n → Word cur → ∀ w ∈ from' l cur, w ≠ [] ∧ fold w = w ∧ Word w
  | n, [], cur, _, hc, w, hw => by
    rw [from_nil] at hw; unfold flush at hw
    cases hcur : cur with
    | nil => rw [hcur] at hw; simp at hw
    | cons x c =>
      rw [hcur] at hw hc; obtain rfl : w = fold (x :: c) := by simpa using hw
      exact ⟨by simp [fold], fold_fold _, word_fold hc⟩
  | 0, x :: a, cur, h, _, _, _ => by simp at h
  | n + 1, x :: a, cur, h, hc, w, hw => by
    have hne : x :: a ≠ [] := by simp
    have hd := drop_ne (x :: a) hne
    rw [from_step (x :: a) _ hne] at hw
    by_cases hl : isL (x :: a) = true
    · rw [if_pos hl] at hw
      exact from_words n _ _ (by simp at hd h ⊢; omega) (word_more hc (let_of _ hne hl)) w hw
    · rw [if_neg hl] at hw
      rcases List.mem_append.1 hw with hw | hw
      · exact from_words n [] cur (by simp) hc w (by rw [from_nil]; exact hw)
      · exact from_words n _ [] (by simp at hd h ⊢; omega) word_nil w hw
theorem words_each (l w : List UInt8) (h : w ∈ words l) : w ≠ [] ∧ fold w = w ∧ words w = [w] := by
  obtain ⟨h1, h2, h3⟩ := from_words l.length l [] (Nat.le_refl _) word_nil w h
  refine ⟨h1, h2, ?_⟩
  rw [words_word h3]; unfold flush
  cases w with
  | nil => exact absurd rfl h1
  | cons x w => simp [h2]
/-- no letter, no word -/
theorem from_none : ∀ (n : Nat) (l : List UInt8), l.length ≤ n → (∀ b ∈ l, b.toNat < 128 ∧ asc b.toNat = false) → from' l [] = []
  | n, [], _, _ => rfl
  | 0, x :: a, h, _ => by simp at h
  | n + 1, x :: a, h, hb => by
    have h1 : sz (x :: a) = 1 := by rw [sz_eq, szN_ascii]; simpa [at'] using (hb x (by simp)).1
    have h2 : isL (x :: a) = false := by unfold isL; rw [h1]; simpa [at'] using (hb x (by simp)).2
    rw [from_step _ _ (by simp), h2, h1]
    simp only [Bool.false_eq_true, if_false, List.drop_succ_cons, List.drop_zero]
    rw [from_none n a (by simp at h; omega) (fun b hb' => hb b (by simp [hb']))]
    rfl
theorem words_none (l : List UInt8) (h : ∀ b ∈ l, b.toNat < 128 ∧ asc b.toNat = false) : words l = [] := from_none l.length l (Nat.le_refl _) h
theorem words_count : ∀ (n : Nat) (l cur : List UInt8), l.length ≤ n → (from' l cur).length ≤ l.length + 1
  | n, [], cur, _ => by rw [from_nil]; unfold flush; split <;> simp
  | 0, x :: a, cur, h => by simp at h
  | n + 1, x :: a, cur, h => by
    have hne : x :: a ≠ [] := by simp
    have hd := drop_ne (x :: a) hne
    have hf : (flush cur).length ≤ 1 := by unfold flush; split <;> simp
    rw [from_step (x :: a) _ hne]
    split
    · have := words_count n ((x :: a).drop (sz (x :: a))) (cur ++ (x :: a).take (sz (x :: a))) (by simp at hd h ⊢; omega); omega
    · have := words_count n ((x :: a).drop (sz (x :: a))) [] (by simp at hd h ⊢; omega)
      rw [List.length_append]; omega
end Go.Proofs.YtojcfepbmnfflaaDoor.Tk
