/-
  Filters in memory; expr.Depth: the walk.
-/
import Derived.Test.YtnmbfnlokacogaaBlk
import Derived.Test.YtnmbfnlokacogaaEx3
import Derived.Test.YtnmbfnlokacogaaRows
set_option linter.unusedVariables false
namespace Go.Proofs.Ytnmbfnlokacogaa
open Go.RowKit

/-- a filter's value -/
def treeV (t : Tree) (kv : Value) : Value := .agg #[.int .i64 t.op, .string (str t.name), .string (str t.value), kv]
/-- a slice of filters -/
inductive KAt (w : World) : Value → List Tree → Prop
  | mk (ad : Option Addr) (cap : Nat) (l : List Tree) (kv : Nat → Value) (g o : Nat) (hl : l.length ≤ 9223372036854775807) (h0 : ad = none → cap = 0) (ha : l ≠ [] → ad = some ⟨g, o, none⟩)
      (hc : ∀ (j : Nat) (t : Tree), l[j]? = some t → w.cell? ⟨g, o + j * 4, none⟩ = some (.int .i64 t.op) ∧ w.cell? ⟨g, o + j * 4 + 1, none⟩ = some (.string (str t.name)) ∧ w.cell? ⟨g, o + j * 4 + 2, none⟩ = some (.string (str t.value)) ∧ w.cell? ⟨g, o + j * 4 + 3, none⟩ = some (kv j))
      (hk : ∀ (j : Nat) (t : Tree), l[j]? = some t → KAt w (kv j) t.kids) : KAt w (.slice ad l.length cap) l
theorem KAt.keeps {w w' : World} (k : Keeps w w') {v : Value} {l : List Tree} (h : KAt w v l) : KAt w' v l := by
  induction h with
  | mk ad cap l kv g o hl h0 ha hc hk ih =>
    exact .mk ad cap l kv g o hl h0 ha (fun j t hj => ⟨k.cell (hc j t hj).1, k.cell (hc j t hj).2.1, k.cell (hc j t hj).2.2.1, k.cell (hc j t hj).2.2.2⟩) ih
theorem KAt.nil (w : World) : KAt w (.slice none 0 0) [] := .mk none 0 [] (fun _ => undef) 0 0 (by simp) (fun _ => rfl) (fun h => absurd rfl h) (fun j t h => by simp at h) (fun j t h => by simp at h)
theorem KAt.form {w : World} {v : Value} {l : List Tree} (h : KAt w v l) : ∃ ad cap, v = .slice ad l.length cap := by
  cases h with
  | mk ad cap l kv g o hl h0 ha hc hk => exact ⟨ad, cap, rfl⟩
/-- how deep, counted to 100 -/
def dep (t : Tree) : Int := min 100 (t.height : Int)

set_option maxRecDepth 4000 in
set_option maxHeartbeats 1600000 in
theorem depth1 (N : Nat) : ∀ (t : Tree), t.size ≤ N → ∀ (kv : Value) (level : Int) (b : Nat) (w : World), KAt w kv t.kids → w.cell? ⟨b, 0, none⟩ = some (.func (.func 24) #[] #[.pointer (some ⟨b, 0, none⟩)]) → 1 ≤ level → level ≤ 100 →
    Calls Try.prog 24 #[treeV t kv, .int .i64 level, .pointer (some ⟨b, 0, none⟩)] w fun e w' => e = .returned (.int .i64 (min 100 (level + t.height - 1))) ∧ Keeps w w' := by
  induction N with
  | zero => intro t hN; have := Tree.size_pos t; omega
  | succ N ih =>
    intro t hN kv level b w hka hb hl1 hl2
    have hsz := Tree.size_kids t
    have HR := Lib.hid (show min 100 (level + t.height - 1) = min 100 (level + (Tree.heights t.kids : Int)) by rw [Tree.height_kids]; congr 1; simp; omega)
    have HSM := Lib.hid (show ∀ x ∈ t.kids, x.size ≤ N from fun x hx => by have := Tree.size_mem hx; omega)
    rw [HR.out]
    obtain ⟨op, nm, vl, ks⟩ := t
    simp only [Tree.kids, treeV, Tree.op, Tree.name, Tree.value] at *
    obtain ⟨n, hn⟩ : ∃ n, ks.length = n := ⟨_, rfl⟩
    have HNN := Lib.hid hn
    cases hka with
    | mk ad cap l kvs g o hll h0 ha hc hk =>
    have HA := Lib.hid ha
    have HC := Lib.hid hc
    have HK := Lib.hid hk
    have HIH := Lib.hid ih
    have HL := Lib.hid (And.intro hl1 hl2)
    rw [hn] at hll ⊢
    clear ha hc hk ih hl1 hl2 hN hsz hn h0 HR
    go_enter Try.func24, Try.ntmps24
    go_wp2_with fail
    go_loopw [6, 13] (fun d i wr => ∃ (j : Nat) (D : Int), j ≤ n ∧ i = .int .i64 j ∧ d = .int .i64 D ∧ D = min 100 (level + (Tree.heights (ks.take j) : Int)) ∧ Keeps w wr) (fun _ i _ => n - (intOf i).toNat)
    case atStart => exact ⟨0, level, by omega, rfl, rfl, by have := HL.out; simp [Tree.heights]; omega, (Keeps.refl _).alloc _⟩
    case round =>
      obtain ⟨j, D, hj, rfl, rfl, hD, hkr⟩ := hrel
      have HD := Lib.hid hD
      clear hD
      by_cases hlt : j < n
      · obtain ⟨x, hx⟩ : ∃ x, ks[j]? = some x := ⟨_, List.getElem?_eq_getElem (by rw [HNN.out]; exact hlt)⟩
        obtain rfl := HA.out (by intro e; rw [e] at hx; simp at hx)
        obtain ⟨c0, c1, c2, c3⟩ := HC.out j x hx
        have c0 := hkr.cell c0
        have c1 := hkr.cell c1
        have c2 := hkr.cell c2
        have c3 := hkr.cell c3
        have hkx := HK.out j x hx
        have htk : ((Tree.heights (ks.take (j + 1)) : Nat) : Int) = max (Tree.heights (ks.take j) : Int) (x.height : Int) := by
          rw [List.take_add_one, hx, Option.toList, Tree.heights_append]
          simp only [Tree.heights, Nat.max_def]
          split <;> (try split) <;> omega
        have hle : Tree.heights (ks.take j) ≤ Tree.heights ks := by
          have e := Tree.heights_append (ks.take j) (ks.drop j)
          rw [List.take_append_drop] at e; omega
        have HTK := Lib.hid htk
        have HLE := Lib.hid hle
        have hxm := List.mem_of_getElem? hx
        have HXS := Lib.hid (HSM.out x hxm)
        have hbb := hkr.cell hb
        by_cases h100 : 100 ≤ D
        · have hd : decide ((100 : Int) ≤ D) = true := by simpa using h100
          have hfin := Lib.hid (show (100 : Int) = min 100 (level + (Tree.heights ks : Int)) by have := HD.out; have := HLE.out; omega)
          clear h100 htk hle hxm hx
          obtain ⟨ad', cap', he'⟩ := hkx.form
          rw [he'] at c3
          clear he'
          go_wp2_with fail
          go_ret
          exact ⟨by rw [← hfin.out]; rfl, hkr.alloc _⟩
        · have hd : decide ((100 : Int) ≤ D) = false := by simpa using h100
          have hlv := Lib.hid (show level + 1 ≤ 100 by have := HD.out; have := HL.out; omega)
          have hb1 : -1000 ≤ level ∧ level ≤ 1000 := by have := HL.out; omega
          have HH100 := Lib.hid h100
          clear h100 htk hle hxm hx
          obtain ⟨ad', cap', he'⟩ := hkx.form
          rw [he'] at c3 hkx
          have HKX := Lib.hid hkx
          clear he' hkx
          have hc3 := (hkr.alloc (.cells #[.int .i64 x.op, .string (str x.name), .string (str x.value), .slice ad' x.kids.length cap'] 24)).cell hb
          go_wp2_with fail
          refine (HIH.out x HXS.out _ (level + 1) b _ (HKX.out.keeps (hkr.alloc _)) hc3 (by have := HL.out; omega) hlv.out).mono ?_
          rintro e w2 ⟨rfl, hk2⟩
          go_wp2_with fail
          exact ⟨⟨j + 1, _, by omega, by go_num, rfl, by rw [HTK.out]; have := HD.out; have := HL.out; omega, (hkr.alloc _).trans hk2⟩, by simp [intOf]; omega⟩
      · obtain rfl : j = n := by omega
        have hfin := Lib.hid (show D = min 100 (level + (Tree.heights ks : Int)) by
          rw [HD.out, List.take_of_length_le (by rw [HNN.out]; omega)])
        have hd100 : D ≤ 100 := by rw [hfin.out]; omega
        go_wp2_with fail
        go_ret
        exact ⟨by rw [← hfin.out]; rfl, hkr⟩
end Go.Proofs.Ytnmbfnlokacogaa
