/-
  Batches there and back, in plain words: what was encoded is decoded, what was decoded is encoded to the same bytes; rows of batches.
  The batch of a body: what the walks need, in plain words; where the program's inner stands.
  Decoding a batch: the ways there are, in plain words.
-/
import Derived.Test.YtamiebojjinhcaaGreatDoorBtBodyW
import Derived.Test.YtamiebojjinhcaaGreatDoorBtW
import Derived.Test.YtamiebojjinhcaaGreatDoorRs
set_option linter.unusedVariables false
namespace Go.Proofs.YtamiebojjinhcaaGreatDoor

namespace Bat
theorem puts_cons (n : Int) (l : List Int) : puts (n :: l) = Vi.put n ++ puts l := by simp [puts]
theorem rbs_cons (r : Rec) (l : List Rec) : rbs (r :: l) = r.bytes ++ rbs l := by simp [rbs]
def i64s (l : List Int) : Prop := ∀ n ∈ l, -9223372036854775808 ≤ n ∧ n ≤ 9223372036854775807
theorem gets_puts (B : List UInt8) : ∀ (ns : List Int) (A : List UInt8), i64s ns → gets ns.length (A ++ (puts ns ++ B)) (A.length : Int) = some (ns, ((A ++ puts ns).length : Int))
  | [], A, _ => by simp [gets, puts]
  | n :: ns, A, h => by
    have hn := h n (by simp)
    have hg := Vi.get_put A (puts ns ++ B) n hn.1 hn.2
    have ih := gets_puts B ns (A ++ Vi.put n) (fun m hm => h m (by simp [hm]))
    have e1 : A ++ (puts (n :: ns) ++ B) = A ++ Vi.put n ++ (puts ns ++ B) := by rw [puts_cons]; simp
    have e2 : (A.length : Int) + ((Vi.put n).length : Int) = ((A ++ Vi.put n).length : Int) := by simp
    have e3 : A ++ Vi.put n ++ puts ns = A ++ puts (n :: ns) := by rw [puts_cons]; simp
    rw [e2] at hg
    rw [e3] at ih
    rw [e1, List.length_cons, gets, hg]
    simp only [if_true, ih, Option.map_some]
theorem gets_seg (l : List UInt8) : ∀ (k : Nat) {at_ to : Int} {ns : List Int}, gets k l at_ = some (ns, to) → 0 ≤ at_ → at_ ≤ l.length → ns.length = k ∧ seg l at_ to = puts ns ∧ at_ ≤ to ∧ to ≤ l.length ∧ i64s ns
  | 0, at_, to, ns, h, h0, h1 => by
    simp [gets] at h
    obtain ⟨rfl, rfl⟩ := h
    exact ⟨rfl, seg_nil _ _, Int.le_refl _, h1, fun n hn => by simp at hn⟩
  | k + 1, at_, to, ns, h, h0, h1 => by
    obtain ⟨⟨n, m, e⟩, hg⟩ : ∃ g, Vi.get l at_ = g := ⟨_, rfl⟩
    rw [gets, hg] at h
    split at h
    · rename_i he
      simp only at he h
      subst he
      obtain ⟨s1, p0, p1, p2, p3, p4⟩ := Vi.get_seg hg
      obtain ⟨⟨ns', to'⟩, hx, hy⟩ := Option.map_eq_some_iff.1 h
      cases hy
      obtain ⟨i1, i2, i3, i4, i5⟩ := gets_seg l k hx (by omega) p2
      refine ⟨by simp [i1], ?_, by omega, i4, fun z hz => ?_⟩
      · rw [puts_cons, ← seg_append l h0 (Int.le_of_lt p1) i3, s1, i2]
      · simp at hz
        rcases hz with rfl | hz
        · exact ⟨p3, p4⟩
        · exact i5 z hz
    · cases h
theorem recsAt_rbs (B : List UInt8) : ∀ (rs : List Rec) (A : List UInt8), rs.all Rec.ok = true → recsAt rs.length (A ++ (rbs rs ++ B)) (A.length : Int) = some (rs, ((A ++ rbs rs).length : Int))
  | [], A, _ => by simp [recsAt, rbs]
  | r :: rs, A, h => by
    simp only [List.all_cons, Bool.and_eq_true] at h
    have hg := Rec.dec_bytes A (rbs rs ++ B) r h.1
    have ih := recsAt_rbs B rs (A ++ r.bytes) h.2
    have e1 : A ++ (rbs (r :: rs) ++ B) = A ++ (r.bytes ++ (rbs rs ++ B)) := by rw [rbs_cons]; simp
    have e2 : A ++ r.bytes ++ (rbs rs ++ B) = A ++ (r.bytes ++ (rbs rs ++ B)) := by simp
    have e3 : A ++ r.bytes ++ rbs rs = A ++ rbs (r :: rs) := by rw [rbs_cons]; simp
    rw [e2, e3] at ih
    rw [e1, List.length_cons, recsAt, hg]
    simp only [if_true, ih, Option.map_some]
theorem recsAt_seg (l : List UInt8) : ∀ (k : Nat) {at_ to : Int} {rs : List Rec}, recsAt k l at_ = some (rs, to) → 0 ≤ at_ → at_ ≤ l.length → rs.length = k ∧ seg l at_ to = rbs rs ∧ at_ ≤ to ∧ to ≤ l.length ∧ rs.all Rec.ok = true
  | 0, at_, to, rs, h, h0, h1 => by
    simp [recsAt] at h
    obtain ⟨rfl, rfl⟩ := h
    exact ⟨rfl, seg_nil _ _, Int.le_refl _, h1, rfl⟩
  | k + 1, at_, to, rs, h, h0, h1 => by
    obtain ⟨⟨r, m, e⟩, hg⟩ : ∃ g, Rec.dec l at_ = g := ⟨_, rfl⟩
    rw [recsAt, hg] at h
    split at h
    · rename_i he
      simp only at he h
      subst he
      obtain ⟨p0, s1, p1, p2, p3⟩ := Rec.dec_ok hg
      obtain ⟨⟨rs', to'⟩, hx, hy⟩ := Option.map_eq_some_iff.1 h
      cases hy
      obtain ⟨i1, i2, i3, i4, i5⟩ := recsAt_seg l k hx (by omega) p3
      refine ⟨by simp [i1], ?_, by omega, i4, by rw [List.all_cons, p0, i5]; rfl⟩
      rw [rbs_cons, ← seg_append l h0 (Int.le_of_lt p2) i3, s1, i2]
    · cases h
theorem num_bd {b : Bat} (h : b.num = true) : i64s b.nums ∧ b.recs.length ≤ 50 := by
  simp only [num, within, who, Bool.and_eq_true, decide_eq_true_eq] at h
  obtain ⟨⟨⟨h1, h2⟩, h3⟩, h4⟩ := h
  refine ⟨?_, h4⟩
  intro n hn
  simp only [nums, List.mem_cons, List.not_mem_nil, or_false] at hn
  split at h3
  · simp only [Bool.and_eq_true, decide_eq_true_eq] at h3
    rcases hn with rfl | rfl | rfl | rfl | rfl | rfl <;> omega
  · simp only [Bool.and_eq_true, decide_eq_true_eq] at h3
    rcases hn with rfl | rfl | rfl | rfl | rfl | rfl <;> omega
theorem ok_of {b : Bat} (h : b.ok = true) : b.num = true ∧ rise (-1) b.span b.recs = true ∧ b.body.length ≤ 60000 := by
  simp only [ok, Bool.and_eq_true, decide_eq_true_eq] at h
  exact ⟨h.1.1, h.1.2, h.2⟩
theorem inner_body {b : Bat} (h : b.ok = true) : inner b.body = some b := by
  obtain ⟨h1, h2, h3⟩ := ok_of h
  obtain ⟨h4, h5⟩ := num_bd h1
  have hg := gets_puts (rbs b.recs) b.nums [] h4
  have hr := recsAt_rbs [] b.recs (puts b.nums) (rise_ok _ h2)
  rw [List.append_nil] at hr
  have e2 : puts b.nums ++ rbs b.recs = b.body := rfl
  rw [e2] at hr
  have hg : gets 6 b.body 0 = some ([b.base, b.span, b.prod, b.epoch, b.seq, (b.recs.length : Int)], ((puts b.nums).length : Int)) := hg
  have hb : Bat.mk b.base b.span b.prod b.epoch b.seq b.recs = b := rfl
  unfold inner
  rw [hg]
  simp only
  rw [if_neg (by omega), Int.toNat_natCast, hr]
  simp only [hb, h, and_true, if_true]
theorem inner_ok {l : List UInt8} {b : Bat} (h : inner l = some b) : b.ok = true ∧ l = b.body := by
  unfold inner at h
  split at h
  · rename_i a s p e q n at_ hg
    split at h
    · cases h
    · rename_i hn
      split at h
      · rename_i rs to hr
        split at h
        · rename_i hc
          cases h
          obtain ⟨g1, g2, g3, g4, g5⟩ := gets_seg l 6 hg (Int.le_refl _) (by omega)
          obtain ⟨r1, r2, r3, r4, r5⟩ := recsAt_seg l _ hr g3 g4
          refine ⟨hc.2, ?_⟩
          have hs := seg_append l (Int.le_refl 0) g3 r3
          rw [g2, r2, hc.1] at hs
          have hall : seg l 0 (l.length : Int) = l := by unfold seg; simp
          rw [hall] at hs
          rw [← hs]
          have : n = ((rs.length : Nat) : Int) := by rw [r1]; omega
          subst this
          rfl
        · cases h
      · cases h
  · cases h
theorem sum_lt (l : List UInt8) : sum l < 4294967296 := Crc.ext_lt (by decide) l
theorem read_be (A B : List UInt8) (n : Nat) (h : n < 4294967296) : Vi.read (A ++ (Vi.be 4 n ++ B)) (A.length : Int) 4 = ((n : Int), ((A.length + 4 : Nat) : Int), 0) := by
  have hl := Vi.be_length 4 n
  have hv := Vi.beval_be 4 n (by simpa using h)
  have e : ((A ++ (Vi.be 4 n ++ B)).drop ((A.length : Int)).toNat).take (4 : Int).toNat = Vi.be 4 n := by
    rw [Int.toNat_natCast, List.drop_left, show (4 : Int).toNat = (Vi.be 4 n).length by rw [hl]; rfl, List.take_left]
  unfold Vi.read
  rw [e, hv]
  rw [if_neg (by simp; omega), if_neg (by simp [hl]; omega), if_neg (by omega)]
  simp
theorem bytes_length (b : Bat) : b.bytes.length = 8 + b.body.length := by
  unfold bytes; simp [Vi.be_length]; omega
theorem drop_more (A X B : List UInt8) (k : Nat) (h : k = (A ++ X).length) : (A ++ (X ++ B)).drop k = B := by
  subst h; rw [← List.append_assoc, List.drop_left]
/-- what was encoded is decoded, wherever it stands -/
theorem dec_bytes (A B : List UInt8) (b : Bat) (h : b.ok = true) : dec (A ++ (b.bytes ++ B)) (A.length : Int) = (b, ((A ++ b.bytes).length : Int), 0) := by
  have hbody := (ok_of h).2.2
  have e0 : A ++ (b.bytes ++ B) = A ++ (Vi.be 4 b.body.length ++ (Vi.be 4 (sum b.body) ++ (b.body ++ B))) := by simp [bytes]
  have e1 : A ++ (Vi.be 4 b.body.length ++ (Vi.be 4 (sum b.body) ++ (b.body ++ B))) = (A ++ Vi.be 4 b.body.length) ++ (Vi.be 4 (sum b.body) ++ (b.body ++ B)) := by simp
  have r1 := read_be A (Vi.be 4 (sum b.body) ++ (b.body ++ B)) b.body.length (by omega)
  have r2 := read_be (A ++ Vi.be 4 b.body.length) (b.body ++ B) (sum b.body) (sum_lt _)
  have hl : (A ++ Vi.be 4 b.body.length).length = A.length + 4 := by simp [Vi.be_length]
  rw [hl, ← e1] at r2
  have hd : ((A ++ (Vi.be 4 b.body.length ++ (Vi.be 4 (sum b.body) ++ (b.body ++ B)))).drop (A.length + 4 + 4)).take b.body.length = b.body := by
    rw [e1, drop_more _ _ _ _ (by simp [Vi.be_length]), List.take_left]
  have hlen : (A ++ (Vi.be 4 b.body.length ++ (Vi.be 4 (sum b.body) ++ (b.body ++ B)))).length = A.length + 4 + 4 + b.body.length + B.length := by simp [Vi.be_length]; omega
  have hend : ((A ++ b.bytes).length : Int) = ((A.length + 4 + 4 : Nat) : Int) + (b.body.length : Int) := by rw [List.length_append, bytes_length]; omega
  rw [e0, hend]
  unfold dec
  rw [r1]
  simp only [ne_eq, not_true_eq_false, if_false]
  rw [r2]
  simp only [not_true_eq_false, if_false]
  unfold rest
  rw [if_neg (by omega), hlen, if_neg (by omega), Int.toNat_natCast, Int.toNat_natCast, hd, if_neg (by simp), inner_body h]
theorem read_ok {l : List UInt8} {at_ n to : Int} (h : Vi.read l at_ 4 = (n, to, 0)) : 0 ≤ at_ ∧ at_ + 4 ≤ l.length ∧ to = at_ + 4 ∧ 0 ≤ n ∧ n < 4294967296 ∧ seg l at_ to = Vi.be 4 n.toNat := by
  unfold Vi.read at h
  split at h
  · cases h
  · rename_i h1
    split at h
    · cases h
    · rename_i h2
      split at h
      · cases h
      · cases h
        have hl : ((l.drop at_.toNat).take 4).length = 4 := by simp; omega
        have hv := Vi.beval_lt ((l.drop at_.toNat).take 4)
        have hb := Vi.be_beval ((l.drop at_.toNat).take 4)
        rw [hl] at hv hb
        refine ⟨by omega, by omega, rfl, by omega, ?_, ?_⟩
        · have : (256 : Nat) ^ 4 = 4294967296 := by decide
          rw [this] at hv
          exact Int.ofNat_lt.2 hv
        · unfold seg
          rw [Int.toNat_natCast, show (4 : Int).toNat = 4 from rfl, hb, show (at_ + 4 - at_).toNat = 4 by omega]
/-- what was decoded is encoded to the same bytes -/
theorem dec_ok {l : List UInt8} {at_ to : Int} {b : Bat} (h : dec l at_ = (b, to, 0)) : b.ok = true ∧ seg l at_ to = b.bytes ∧ 0 ≤ at_ ∧ at_ + 8 ≤ to ∧ to ≤ l.length := by
  unfold dec at h
  obtain ⟨⟨n, m, e⟩, h1⟩ : ∃ g, Vi.read l at_ 4 = g := ⟨_, rfl⟩
  rw [h1] at h
  simp only [ne_eq, ite_not] at h
  split at h
  · rename_i he
    subst he
    obtain ⟨⟨n2, m2, e2⟩, h2⟩ : ∃ g, Vi.read l m 4 = g := ⟨_, rfl⟩
    rw [h2] at h
    simp only at h
    split at h
    · rename_i he2
      subst he2
      obtain ⟨a1, a2, rfl, a4, a5, a6⟩ := read_ok h1
      obtain ⟨b1, b2, rfl, b4, b5, b6⟩ := read_ok h2
      unfold rest at h
      split at h
      · cases h
      · rename_i c1
        split at h
        · cases h
        · rename_i c2
          split at h
          · cases h
          · rename_i c3
            split at h
            · rename_i b' hi
              cases h
              obtain ⟨hok, hbody⟩ := inner_ok hi
              have hseg : seg l (at_ + 4 + 4) (at_ + 4 + 4 + n) = b.body := by
                unfold seg; rw [show (at_ + 4 + 4 + n - (at_ + 4 + 4)).toNat = n.toNat by omega]; exact hbody
              have hn : n.toNat = b.body.length := by
                rw [← hbody]; simp; omega
              have hs : n2.toNat = sum b.body := by
                rw [hbody] at c3
                have := Classical.not_not.1 c3
                omega
              rw [hn] at a6
              rw [hs] at b6
              refine ⟨hok, ?_, a1, by omega, by omega⟩
              rw [← seg_append l a1 (show at_ ≤ at_ + 4 by omega) (show at_ + 4 ≤ at_ + 4 + 4 + n by omega), ← seg_append l b1 (show at_ + 4 ≤ at_ + 4 + 4 by omega) (show at_ + 4 + 4 ≤ at_ + 4 + 4 + n by omega), a6, b6, hseg]
              rfl
            · cases h
    · rename_i he2
      cases h
      exact absurd rfl he2
  · rename_i he
    cases h
    exact absurd rfl he
/-- the bytes of a row of batches -/
def row (bs : List Bat) : List UInt8 := bs.flatMap bytes
/-- all of a text -/
def scanAll (l : List UInt8) : List Bat × Int := scan (l.length + 1) l 0
end Bat
end Go.Proofs.YtamiebojjinhcaaGreatDoor

namespace Go.Proofs.YtamiebojjinhcaaGreatDoor
open Go.RowKit
namespace Bat
/-- so far: the numbers ns are read, the next stands at a -/
structure GP (l : List UInt8) (ns : List Int) (a : Int) : Prop where
  le : ns.length ≤ 6
  lo : 0 ≤ a
  hi : a ≤ l.length
  eq : gets 6 l 0 = (gets (6 - ns.length) l a).map (fun x => (ns ++ x.1, x.2))
theorem GP.start (l : List UInt8) : GP l [] 0 := ⟨by decide, Int.le_refl _, by omega, by simp⟩
theorem GP.next {l : List UInt8} {ns : List Int} {a n to : Int} (h : GP l ns a) (hl : ns.length < 6) (hg : Vi.get l a = (n, to, 0)) : GP l (ns ++ [n]) to := by
  obtain ⟨_, h1, h2, h3, _⟩ := Vi.get_seg hg
  have := h.lo
  refine ⟨by simp; omega, by omega, h3, ?_⟩
  rw [h.eq, show 6 - ns.length = (6 - (ns ++ [n]).length) + 1 by simp; omega, gets, hg]
  simp only [if_true, Option.map_map]
  congr 1
  funext x
  simp
theorem GP.stop {l : List UInt8} {ns : List Int} {a n to e : Int} (h : GP l ns a) (hl : ns.length < 6) (hg : Vi.get l a = (n, to, e)) (he : e ≠ 0) : inner l = Option.none := by
  have : gets 6 l 0 = Option.none := by
    rw [h.eq, show 6 - ns.length = (6 - ns.length - 1) + 1 by omega, gets, hg]
    simp [he]
  unfold inner; rw [this]
theorem GP.all {l : List UInt8} {ns : List Int} {a : Int} (h : GP l ns a) (hl : ns.length = 6) : gets 6 l 0 = some (ns, a) := by
  rw [h.eq, hl]; simp [gets]
theorem six_of {ns : List Int} (h : ns.length = 6) : ∃ a b c d e n, ns = [a, b, c, d, e, n] := by
  match ns, h with
  | [a, b, c, d, e, n], _ => exact ⟨a, b, c, d, e, n, rfl⟩
theorem inner_count {l : List UInt8} {a b c d e n at_ : Int} (h : gets 6 l 0 = some ([a, b, c, d, e, n], at_)) (hn : n < 0 ∨ 50 < n) : inner l = Option.none := by
  unfold inner; rw [h]; simp only; rw [if_pos hn]
theorem inner_recs {l : List UInt8} {a b c d e n at_ : Int} (h : gets 6 l 0 = some ([a, b, c, d, e, n], at_)) (hn : ¬ (n < 0 ∨ 50 < n)) (hr : recsAt n.toNat l at_ = Option.none) : inner l = Option.none := by
  unfold inner; rw [h]; simp only; rw [if_neg hn, hr]
theorem inner_all {l : List UInt8} {a b c d e n at_ to : Int} {rs : List Rec} (h : gets 6 l 0 = some ([a, b, c, d, e, n], at_)) (hn : ¬ (n < 0 ∨ 50 < n)) (hr : recsAt n.toNat l at_ = some (rs, to)) :
    inner l = if to = (l.length : Int) ∧ (Bat.mk a b c d e rs).ok = true then some ⟨a, b, c, d, e, rs⟩ else Option.none := by
  unfold inner; rw [h]; simp only; rw [if_neg hn, hr]
/-- so far: of z records those of dl are read, the next stands at a -/
structure RP (l : List UInt8) (z : Nat) (a0 : Int) (rs : List Rec) (a : Int) : Prop where
  le : rs.length ≤ z
  lo : 0 ≤ a
  hi : a ≤ l.length
  eq : recsAt z l a0 = (recsAt (z - rs.length) l a).map (fun x => (rs ++ x.1, x.2))
  ok : rs.all Rec.ok = true
theorem RP.start (l : List UInt8) (z : Nat) {a0 : Int} (h0 : 0 ≤ a0) (h1 : a0 ≤ l.length) : RP l z a0 [] a0 := ⟨by simp, h0, h1, by simp, rfl⟩
theorem RP.next {l : List UInt8} {z : Nat} {a0 a to : Int} {rs : List Rec} {r : Rec} (h : RP l z a0 rs a) (hl : rs.length < z) (hg : Rec.dec l a = (r, to, 0)) : RP l z a0 (rs ++ [r]) to := by
  obtain ⟨h0, _, h1, h2, h3⟩ := Rec.dec_ok hg
  have := h.lo
  refine ⟨by simp; omega, by omega, h3, ?_, by rw [List.all_append, h.ok]; simp [h0]⟩
  rw [h.eq, show z - rs.length = (z - (rs ++ [r]).length) + 1 by simp; omega, recsAt, hg]
  simp only [if_true, Option.map_map]
  congr 1
  funext x
  simp
theorem RP.stop {l : List UInt8} {z : Nat} {a0 a to e : Int} {rs : List Rec} {r : Rec} (h : RP l z a0 rs a) (hl : rs.length < z) (hg : Rec.dec l a = (r, to, e)) (he : e ≠ 0) : recsAt z l a0 = Option.none := by
  rw [h.eq, show z - rs.length = (z - rs.length - 1) + 1 by omega, recsAt, hg]
  simp [he]
theorem RP.all {l : List UInt8} {z : Nat} {a0 a : Int} {rs : List Rec} (h : RP l z a0 rs a) (hl : rs.length = z) : recsAt z l a0 = some (rs, a) := by
  rw [h.eq, hl]; simp [recsAt]
end Bat

theorem Blk.frozen6 {w : World} {q : Nat} {t : TypeId} {cs : Array Value} (h : Blk w q t cs) :
    w.frozen? ⟨q, 0, none⟩ = false ∧ w.frozen? ⟨q, 1, none⟩ = false ∧ w.frozen? ⟨q, 2, none⟩ = false ∧ w.frozen? ⟨q, 3, none⟩ = false ∧ w.frozen? ⟨q, 4, none⟩ = false ∧ w.frozen? ⟨q, 5, none⟩ = false :=
  ⟨h.frozen 0, h.frozen 1, h.frozen 2, h.frozen 3, h.frozen 4, h.frozen 5⟩
/-- the cells of a batch of which the numbers ns are known -/
def bcells (ns : List Int) (lv : Value) : Array Value := #[.int .i64 (ns.getD 0 0), .int .i64 (ns.getD 1 0), .int .i64 (ns.getD 2 0), .int .i64 (ns.getD 3 0), .int .i64 (ns.getD 4 0), lv]
theorem bcells_at (ns : List Int) (lv : Value) (j : Nat) (h : j < 5) : (bcells ns lv)[j]? = some (.int .i64 (ns.getD j 0)) := by
  match j, h with
  | 0, _ => rfl
  | 1, _ => rfl
  | 2, _ => rfl
  | 3, _ => rfl
  | 4, _ => rfl
theorem bcells_set (ns : List Int) (lv : Value) (n : Int) (h : ns.length < 5) : (bcells ns lv).setIfInBounds ns.length (.int .i64 n) = bcells (ns ++ [n]) lv := by
  match ns, h with
  | [], _ => rfl
  | [_], _ => rfl
  | [_, _], _ => rfl
  | [_, _, _], _ => rfl
  | [_, _, _, _], _ => rfl
theorem bcells_last (ns : List Int) (lv : Value) (n : Int) (h : ns.length = 5) : bcells ns lv = bcells (ns ++ [n]) lv := by
  match ns, h with
  | [_, _, _, _, _], _ => rfl
theorem getD5 (ns : List Int) (n : Int) (h : ns.length = 5) : (ns ++ [n]).getD 5 0 = n := by
  match ns, h with
  | [_, _, _, _, _], _ => rfl
theorem getD5' (ns : List Int) (h : ns.length ≤ 5) : ns.getD 5 0 = 0 := by
  rw [List.getD_eq_getElem?_getD, List.getElem?_eq_none h]; rfl
/-- the pointers -/
def ptrs (q : Nat) : Array Value := #[.pointer (some ⟨q, 0, none⟩), .pointer (some ⟨q, 1, none⟩), .pointer (some ⟨q, 2, none⟩), .pointer (some ⟨q, 3, none⟩), .pointer (some ⟨q, 4, none⟩), .pointer (some ⟨q + 1, 0, none⟩)]
theorem ptrs_at (q j : Nat) (h : j < 5) : (ptrs q)[j]? = some (.pointer (some ⟨q, j, none⟩)) := by
  match j, h with
  | 0, _ => rfl
  | 1, _ => rfl
  | 2, _ => rfl
  | 3, _ => rfl
  | 4, _ => rfl
/-- where the first loop stands -/
structure IS (w0 : World) (ns : List Int) (wr : World) : Prop where
  keeps : Keeps w0 wr
  qb : Blk wr w0.heap.size 24 (bcells ns (.slice none 0 0))
  cb : Blk wr (w0.heap.size + 1) 3 #[.int .i64 (ns.getD 5 0)]
  pb : Blk wr (w0.heap.size + 2) 100 (ptrs w0.heap.size)
theorem IS.step {w0 wr w' : World} {ns : List Int} (h : IS w0 ns wr) (k : Keeps wr w') : IS w0 ns w' := ⟨h.keeps.trans k, h.qb.keeps k, h.cb.keeps k, h.pb.keeps k⟩
theorem IS.put {w0 wr : World} {ns : List Int} (h : IS w0 ns wr) (hl : ns.length < 5) (n : Int) : IS w0 (ns ++ [n]) (wr.setCell ⟨w0.heap.size, ns.length, none⟩ (.int .i64 n)) := by
  refine ⟨h.keeps.setCell (by simp) _, ?_, ?_, h.pb.other _ (by simp) _⟩
  · rw [← bcells_set ns _ n hl]; exact h.qb.set _ _
  · have := h.cb.other ⟨w0.heap.size, ns.length, none⟩ (by simp) (.int .i64 n)
    rw [getD5' ns (by omega)] at this
    rw [getD5' (ns ++ [n]) (by simp; omega)]
    exact this
theorem IS.count {w0 wr : World} {ns : List Int} (h : IS w0 ns wr) (hl : ns.length = 5) (n : Int) : IS w0 (ns ++ [n]) (wr.setCell ⟨w0.heap.size + 1, 0, none⟩ (.int .i64 n)) := by
  refine ⟨h.keeps.setCell (by simp) _, ?_, ?_, h.pb.other _ (by simp) _⟩
  · rw [← bcells_last ns _ n hl]; exact h.qb.other _ (by simp) _
  · rw [getD5 ns n hl]; exact h.cb.set 0 _
/-- where the second loop stands -/
structure JS (w0 : World) (b0 : Nat) (dl : List (Rec × Value)) (vo : Value) (wr : World) : Prop where
  keeps : Keeps w0 wr
  le : w0.heap.size ≤ b0
  lt : b0 ≤ wr.heap.size
  own : Own wr b0 7 vo dl.length (rcellsL dl)
  old : ∀ g, vo.ownBlock = some g → g < wr.heap.size
  kin : ∀ (i : Nat) (x : Rec × Value), dl[i]? = some x → PairsIn (fun g => b0 ≤ g ∧ vo.ownBlock ≠ some g) wr x.2 x.1.hdrs
theorem JS.start {w0 wr : World} {b0 : Nat} (k : Keeps w0 wr) (hb : w0.heap.size ≤ b0) (hw : b0 ≤ wr.heap.size) : JS w0 b0 [] (.slice none 0 0) wr :=
  ⟨k, hb, hw, Own.nil _ _ _, fun g hg => by simp [Value.ownBlock] at hg, fun i x hx => by simp at hx⟩
theorem JS.step {w0 wr w' : World} {b0 : Nat} {dl : List (Rec × Value)} {vo : Value} (h : JS w0 b0 dl vo wr) (k : Keeps wr w') : JS w0 b0 dl vo w' :=
  ⟨h.keeps.trans k, h.le, Nat.le_trans h.lt k.size, h.own.keeps k, fun g hg => Nat.lt_of_lt_of_le (h.old g hg) k.size, fun i x hx => (h.kin i x hx).move fun g hg hlt => ⟨hg, k.block hlt⟩⟩
theorem JS.other {w0 wr : World} {b0 : Nat} {dl : List (Rec × Value)} {vo : Value} (h : JS w0 b0 dl vo wr) (p : Addr) (h0 : w0.heap.size ≤ p.block) (h1 : p.block < b0) (u : Value) : JS w0 b0 dl vo (wr.setCell p u) :=
  ⟨h.keeps.setCell h0 _, h.le, by simpa [World.setCell] using h.lt, h.own.other p h1 u, fun g hg => by simpa [World.setCell] using h.old g hg, fun i x hx => (h.kin i x hx).move fun g hg hlt => ⟨hg, Below.heap_setCell _ _ _ _ (by have := hg.1; omega)⟩⟩
theorem JS.more {w0 wr w' : World} {b0 : Nat} {dl : List (Rec × Value)} {vo vo' : Value} (h : JS w0 b0 dl vo wr) {r : Rec} {hv : Value}
    (hp : PairsIn (fun g => b0 ≤ g ∧ vo.ownBlock ≠ some g) wr hv r.hdrs) (hown : Own w' b0 7 vo' (dl.length + 1) (rcellsL dl ++ rcell (r, hv))) (hg : wr.grownBy w' vo.ownBlock) (hnew : ∀ g, vo'.ownBlock = some g → vo.ownBlock = some g ∨ wr.heap.size ≤ g) :
    JS w0 b0 (dl ++ [(r, hv)]) vo' w' := by
  have hmv : ∀ {v : Value} {hs : List (List UInt8 × List UInt8)}, PairsIn (fun g => b0 ≤ g ∧ vo.ownBlock ≠ some g) wr v hs → PairsIn (fun g => b0 ≤ g ∧ vo'.ownBlock ≠ some g) w' v hs := fun hp => hp.move fun g hg' hlt =>
    ⟨⟨hg'.1, fun e => by
      rcases hnew g e with h1 | h1
      · exact hg'.2 h1
      · omega⟩, hg.block g hlt (fun e => hg'.2 e.symm)⟩
  refine ⟨h.keeps.grown hg (fun g hg => Nat.le_trans h.le (h.own.base g hg)), h.le, Nat.le_trans h.lt (World.grownBy.size hg), ?_, ?_, ?_⟩
  · rw [List.length_append, rcellsL_append]
    simpa [rcellsL] using hown
  · intro g hg'
    obtain ⟨g', cap, rfl, _, hl, _⟩ := Own.form hown (by decide) (by omega)
    simp [Value.ownBlock] at hg'; omega
  · intro i x hi
    rw [List.getElem?_append] at hi
    split at hi
    · exact hmv (h.kin i x hi)
    · rename_i hil
      obtain ⟨h1, h2⟩ := List.getElem?_eq_some_iff.1 hi
      simp at h1
      simp [show i - dl.length = 0 by omega] at h2
      subst h2
      exact hmv hp
theorem JS.finIn {w0 wr : World} {b0 : Nat} {dl : List (Rec × Value)} {vo : Value} (h : JS w0 b0 dl vo wr) (hl : dl.length ≤ 1000) : RsIn (fun g => b0 ≤ g) wr vo (dl.map (·.1)) :=
  RsIn.of_own h.own (by omega) (fun g hg => h.own.base g hg) (fun i x hx => (h.kin i x hx).move fun g hg _ => ⟨hg.1, rfl⟩)
theorem JS.fin {w0 wr : World} {b0 : Nat} {dl : List (Rec × Value)} {vo : Value} (h : JS w0 b0 dl vo wr) (hl : dl.length ≤ 1000) : RsAt wr vo (dl.map (·.1)) :=
  RsAt.of_own h.own (by omega) (fun i x hx => (h.kin i x hx).at_)
end Go.Proofs.YtamiebojjinhcaaGreatDoor

namespace Go.Proofs.YtamiebojjinhcaaGreatDoor
open Go.RowKit

theorem str_extract (l : List UInt8) (a m : Nat) : (str l).extract a (a + m) = str ((l.drop a).take m) := by
  rw [← str_of ((str l).extract a (a + m)), Lib.extract_data, Nat.add_sub_cancel_left, str_list]
namespace Bat
theorem read4_arg {l : List UInt8} {at_ : Int} (h : at_ < 0 ∨ (l.length : Int) < at_) : Vi.read l at_ 4 = (0, 0, 1) := by
  unfold Vi.read; rw [if_pos (by omega)]
theorem read4_cut {l : List UInt8} {at_ : Int} (h0 : 0 ≤ at_) (h1 : at_ ≤ l.length) (h2 : (l.length : Int) < at_ + 4) : Vi.read l at_ 4 = (0, 0, 2) := by
  unfold Vi.read; rw [if_neg (by omega), if_pos (by omega)]
theorem read4_in {l : List UInt8} {at_ : Int} (h0 : 0 ≤ at_) (h1 : at_ + 4 ≤ l.length) : ∃ n : Nat, n < 4294967296 ∧ Vi.read l at_ 4 = ((n : Int), at_ + 4, 0) := by
  have hv := Vi.beval_lt ((l.drop at_.toNat).take 4)
  have hl : ((l.drop at_.toNat).take 4).length = 4 := by simp; omega
  rw [hl] at hv
  have h256 : (256 : Nat) ^ 4 = 4294967296 := by decide
  rw [h256] at hv
  refine ⟨_, hv, ?_⟩
  unfold Vi.read
  rw [if_neg (by omega), if_neg (by omega), show (4 : Int).toNat = 4 from rfl, if_neg (by omega)]
/-- the ways of a decoding: no place; too few bytes; two widths -/
theorem dec_cases (l : List UInt8) (at_ : Int) :
    ((at_ < 0 ∨ (l.length : Int) < at_) ∧ Vi.read l at_ 4 = (0, 0, 1) ∧ dec l at_ = (none, 0, 1)) ∨
    (0 ≤ at_ ∧ at_ ≤ l.length ∧ (l.length : Int) - at_ < 8 ∧ dec l at_ = (none, 0, 2) ∧ (Vi.read l at_ 4 = (0, 0, 2) ∨ ∃ n : Nat, Vi.read l at_ 4 = ((n : Int), at_ + 4, 0) ∧ Vi.read l (at_ + 4) 4 = (0, 0, 2))) ∨
    (∃ a n s : Nat, at_ = (a : Int) ∧ a + 8 ≤ l.length ∧ n < 4294967296 ∧ s < 4294967296 ∧ Vi.read l at_ 4 = ((n : Int), (a : Int) + 4, 0) ∧ Vi.read l ((a : Int) + 4) 4 = ((s : Int), (a : Int) + 8, 0) ∧ dec l at_ = rest l ((a : Int) + 8) n s) := by
  by_cases h : at_ < 0 ∨ (l.length : Int) < at_
  · refine .inl ⟨h, read4_arg h, ?_⟩
    unfold dec; rw [read4_arg h]; rfl
  · by_cases h4 : (l.length : Int) < at_ + 4
    · refine .inr (.inl ⟨by omega, by omega, by omega, ?_, .inl (read4_cut (by omega) (by omega) h4)⟩)
      unfold dec; rw [read4_cut (by omega) (by omega) h4]; rfl
    · obtain ⟨n, hn, hr⟩ := read4_in (l := l) (at_ := at_) (by omega) (by omega)
      by_cases h8 : (l.length : Int) < at_ + 4 + 4
      · refine .inr (.inl ⟨by omega, by omega, by omega, ?_, .inr ⟨n, hr, read4_cut (by omega) (by omega) h8⟩⟩)
        unfold dec; rw [hr]; simp only; rw [read4_cut (by omega) (by omega) h8]; rfl
      · obtain ⟨s, hs, hr2⟩ := read4_in (l := l) (at_ := at_ + 4) (by omega) (by omega)
        refine .inr (.inr ⟨at_.toNat, n, s, by omega, by omega, hn, hs, ?_, ?_, ?_⟩)
        · rw [hr]; simp only [Prod.mk.injEq, true_and, and_true]; omega
        · rw [show ((at_.toNat : Nat) : Int) + 4 = at_ + 4 by omega, hr2]; simp only [Prod.mk.injEq, true_and, and_true]; omega
        · unfold dec; rw [hr]; simp only [ne_eq, not_true_eq_false, if_false]; rw [hr2]; simp only [not_true_eq_false, if_false]
          rw [show ((at_.toNat : Nat) : Int) + 8 = at_ + 4 + 4 by omega]
/-- behind the widths -/
theorem rest_cases (l : List UInt8) (a n s : Nat) :
    (60000 < n ∧ rest l ((a : Int) + 8) n s = (none, 0, 3)) ∨
    (n ≤ 60000 ∧ (l.length : Int) - (a + 8) < n ∧ rest l ((a : Int) + 8) n s = (none, 0, 2)) ∨
    (n ≤ 60000 ∧ (n : Int) ≤ (l.length : Int) - (a + 8) ∧ sum ((l.drop (a + 8)).take n) ≠ s ∧ rest l ((a : Int) + 8) n s = (none, 0, 4)) ∨
    (n ≤ 60000 ∧ (n : Int) ≤ (l.length : Int) - (a + 8) ∧ sum ((l.drop (a + 8)).take n) = s ∧ rest l ((a : Int) + 8) n s = match inner ((l.drop (a + 8)).take n) with | some b => (b, (a : Int) + 8 + n, 0) | Option.none => (none, 0, 3)) := by
  have e : ((a : Int) + 8).toNat = a + 8 := by omega
  unfold rest
  rw [e, Int.toNat_natCast]
  by_cases h1 : 60000 < n
  · exact .inl ⟨h1, by rw [if_pos (by omega)]⟩
  · rw [if_neg (by omega)]
    by_cases h2 : (l.length : Int) - (a + 8) < n
    · exact .inr (.inl ⟨by omega, h2, by rw [if_pos (by omega)]⟩)
    · rw [if_neg (by omega)]
      by_cases h3 : sum ((l.drop (a + 8)).take n) = s
      · exact .inr (.inr (.inr ⟨by omega, by omega, h3, by rw [if_neg (by simp [h3])]; cases inner ((l.drop (a + 8)).take n) <;> rfl⟩))
      · exact .inr (.inr (.inl ⟨by omega, by omega, h3, by rw [if_pos (by omega)]⟩))
end Bat
def retBt (g : Bat × Int × Int) (lv : Value) : Ending := .returned (.tuple #[batV g.1 lv, .int .i64 g.2.1, .int .i64 g.2.2])
/-- what a decoding leaves -/
def DecRet (g : Bat × Int × Int) (w : World) (e : Ending) (w' : World) : Prop := ∃ lv, e = retBt g lv ∧ RsIn (fun k => w.heap.size ≤ k) w' lv g.1.recs ∧ Keeps w w'
end Go.Proofs.YtamiebojjinhcaaGreatDoor
