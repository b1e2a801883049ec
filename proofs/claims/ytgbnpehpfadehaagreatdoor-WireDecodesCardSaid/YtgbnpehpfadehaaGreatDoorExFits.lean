/-
  Filters: what a part that fits is bounded by.
  Filters in memory.
  expr.Size: the walk.
  expr.long, expr.fits: the walks.
-/
import Derived.Test.YtgbnpehpfadehaaGreatDoorEx3
import Derived.Test.YtgbnpehpfadehaaGreatDoorOwn
import Derived.Test.YtgbnpehpfadehaaGreatDoorRows
import Derived.Laws.EntriesVeiled
import Derived.Deep.RegionHeld3
set_option linter.unusedVariables false
namespace Go.Proofs.YtgbnpehpfadehaaGreatDoor
open Go.RowKit
namespace Tree
theorem fits_bd {t : Tree} (h : t.fits = true) : (t.op = 0 ∨ t.op = 1 ∨ t.op = 2 ∨ t.op = 3 ∨ t.op = 4 ∨ t.op = 5 ∨ t.op = 6 ∨ t.op = 7) ∧ t.name.length ≤ 1000 ∧ t.value.length ≤ 1000 ∧ t.kids.length ≤ 30 := by
  cases fits_form h with
  | all => simp [op, name, value, kids]
  | many o ks ho h2 h30 => simp [op, name, value, kids]; omega
  | not k => simp [op, name, value, kids]
  | has n h0 h => simp [op, name, value, kids]; omega
  | is n v h0 h hv => simp [op, name, value, kids]; omega
  | val o v ho h0 hv => simp [op, name, value, kids]; omega
end Tree
theorem Blk.four {w : World} {q : Nat} {t : TypeId} {a0 a1 a2 a3 : Value} (h : Blk w q t #[a0, a1, a2, a3]) : w.cell? ⟨q, 0, none⟩ = some a0 ∧ w.cell? ⟨q, 1, none⟩ = some a1 ∧ w.cell? ⟨q, 2, none⟩ = some a2 ∧ w.cell? ⟨q, 3, none⟩ = some a3 :=
  ⟨h.cell 0 _ rfl, h.cell 1 _ rfl, h.cell 2 _ rfl, h.cell 3 _ rfl⟩
end Go.Proofs.YtgbnpehpfadehaaGreatDoor

namespace Go.Proofs.YtgbnpehpfadehaaGreatDoor
open Go.RowKit

/-- a filter's value -/
def treeV (t : Tree) (kv : Value) : Value := .agg #[.int .i64 t.op, .string (str t.name), .string (str t.value), kv]
/-- a slice of filters -/
inductive KAt (w : World) : Value → List Tree → Prop
  | mk (ad : Option Addr) (cap : Nat) (l : List Tree) (kv : Nat → Value) (g o : Nat) (hl : l.length ≤ 9223372036854775807) (h0 : ad = none → cap = 0) (ha : l ≠ [] → ad = some ⟨g, o, none⟩)
      (hc : ∀ (j : Nat) (t : Tree), l[j]? = some t → w.cell? ⟨g, o + j * 4, none⟩ = some (.int .i64 t.op) ∧ w.cell? ⟨g, o + j * 4 + 1, none⟩ = some (.string (str t.name)) ∧ w.cell? ⟨g, o + j * 4 + 2, none⟩ = some (.string (str t.value)) ∧ w.cell? ⟨g, o + j * 4 + 3, none⟩ = some (kv j))
      (hk : ∀ (j : Nat) (t : Tree), l[j]? = some t → KAt w (kv j) t.kids) : KAt w (.slice ad l.length cap) l
theorem KAt.keeps {w w' : World} (k : Keeps w w') {v : Value} {l : List Tree} (h : KAt w v l) : KAt w' v l := by
  induction h with
  | mk ad cap l kv g o hl h0 ha hc hk ih =>
    exact .mk ad cap l kv g o hl h0 ha (fun j t hj => ⟨k.cell (hc j t hj).1, k.cell (hc j t hj).2.1, k.cell (hc j t hj).2.2.1, k.cell (hc j t hj).2.2.2⟩) ih
theorem KAt.nil (w : World) : KAt w (.slice none 0 0) [] := .mk none 0 [] (fun _ => undef) 0 0 (by simp) (fun _ => rfl) (fun h => absurd rfl h) (fun j t h => by simp at h) (fun j t h => by simp at h)
theorem KAt.form {w : World} {v : Value} {l : List Tree} (h : KAt w v l) : ∃ ad cap, v = .slice ad l.length cap := by
  cases h with
  | mk ad cap l kv g o hl h0 ha hc hk => exact ⟨ad, cap, rfl⟩
/-- how deep, counted to 100 -/
def dep (t : Tree) : Int := min 100 (t.height : Int)
end Go.Proofs.YtgbnpehpfadehaaGreatDoor

namespace Go.Proofs.YtgbnpehpfadehaaGreatDoor
open Go.RowKit

set_option maxRecDepth 4000 in
set_option maxHeartbeats 1600000 in
theorem size1 (N : Nat) : ∀ (t : Tree), t.size ≤ N → ∀ (kv : Value) (m : Nat) (c b : Nat) (w0 w : World), KAt w0 kv t.kids → Keeps w0 w → w0.heap.size ≤ c → b ≠ c → Blk w b 176 #[.func (.func 109) #[] #[.pointer (some ⟨c, 0, none⟩), .pointer (some ⟨b, 0, none⟩)]] → Blk w c 3 #[.int .i64 m] → m < 100 →
    Calls Tryz.prog 109 #[treeV t kv, .pointer (some ⟨c, 0, none⟩), .pointer (some ⟨b, 0, none⟩)] w fun e w' => e = .returned (.tuple #[]) ∧ Blk w' c 3 #[.int .i64 ((min 100 (m + t.size) : Nat) : Int)] ∧ Only c w w' := by
  induction N with
  | zero => intro t hN; have := Tree.size_pos t; omega
  | succ N ih =>
    intro t hN kv m c b w0 w hka hk0 hcb hbc hb hc hm
    have hsz := Tree.size_kids t
    have HSM := Lib.hid (show ∀ x ∈ t.kids, x.size ≤ N from fun x hx => by have := Tree.size_mem hx; omega)
    rw [hsz]
    obtain ⟨op, nm, vl, ks⟩ := t
    simp only [Tree.kids, treeV, Tree.op, Tree.name, Tree.value] at *
    obtain ⟨n, hn⟩ : ∃ n, ks.length = n := ⟨_, rfl⟩
    have HNN := Lib.hid hn
    cases hka with
    | mk ad cap l kvs g o hll h0 ha hcs hk =>
    have HA := Lib.hid ha
    have HC := Lib.hid hcs
    have HK := Lib.hid hk
    have HIH := Lib.hid ih
    have HM := Lib.hid hm
    rw [hn] at hll ⊢
    have hcc := hc.cell 0 _ rfl
    have hcf := hc.frozen 0
    have hcl := hc.lt
    have hne : ¬ c = w.heap.size := by omega
    clear ha hcs hk ih hN hsz hn h0
    go_enter Tryz.func109, Tryz.ntmps109
    go_wp2_with fail
    have hal0 := (Keeps.refl (w.setCell ⟨c, 0, none⟩ (.int .i64 ((m : Int) + 1)))).alloc (.cells #[.int .i64 op, .string (str nm), .string (str vl), .slice ad n cap] 28)
    have hc1 := (hc.set 0 (.int .i64 ((m : Int) + 1))).keeps hal0
    have hb1 := (hb.other ⟨c, 0, none⟩ hbc (.int .i64 ((m : Int) + 1))).keeps hal0
    have ho1 := ((Only.refl c w).set 0 (.int .i64 ((m : Int) + 1))).trans (Only.of_keeps hal0)
    go_loopw [11] (fun i wr => ∃ (j M : Nat), j ≤ n ∧ i = .int .i64 j ∧ Blk wr c 3 #[.int .i64 (M : Int)] ∧ M = min 100 (m + 1 + Tree.sizes (ks.take j)) ∧ Blk wr b 176 #[.func (.func 109) #[] #[.pointer (some ⟨c, 0, none⟩), .pointer (some ⟨b, 0, none⟩)]] ∧ Only c w wr) (fun i _ => n - (intOf i).toNat)
    case atStart => exact ⟨0, m + 1, by omega, rfl, by (rw [show ((m + 1 : Nat) : Int) = (m : Int) + 1 by omega]; exact hc1), by have := HM.out; simp [Tree.sizes]; omega, hb1, ho1⟩
    case round =>
      obtain ⟨j, M, hj, rfl, hcr, hM, hbr, hor⟩ := hrel
      have HMM := Lib.hid hM
      have hcm := hcr.cell 0 _ rfl
      have hbm := hbr.cell 0 _ rfl
      have HCR := Lib.hid hcr
      have HBR := Lib.hid hbr
      clear hM hcr hbr
      have hkr := hor.keeps hk0 hcb
      by_cases hlt : j < n
      · obtain ⟨x, hx⟩ : ∃ x, ks[j]? = some x := ⟨_, List.getElem?_eq_getElem (by rw [HNN.out]; exact hlt)⟩
        obtain rfl := HA.out (by intro e; rw [e] at hx; simp at hx)
        obtain ⟨c0, c1, c2, c3⟩ := HC.out j x hx
        have c0 := hkr.cell c0
        have c1 := hkr.cell c1
        have c2 := hkr.cell c2
        have c3 := hkr.cell c3
        have hkx := HK.out j x hx
        have HTK := Lib.hid (show Tree.sizes (ks.take (j + 1)) = Tree.sizes (ks.take j) + x.size by
          rw [List.take_add_one, hx, Option.toList, Tree.sizes_append]; simp [Tree.sizes])
        have HLE := Lib.hid (show Tree.sizes (ks.take j) ≤ Tree.sizes ks by
          have e := Tree.sizes_append (ks.take j) (ks.drop j)
          rw [List.take_append_drop] at e; omega)
        have HXS := Lib.hid (HSM.out x (List.mem_of_getElem? hx))
        obtain ⟨ad', cap', he'⟩ := hkx.form
        rw [he'] at c3 hkx
        have HKX := Lib.hid hkx
        have hcl2 := HCR.out.lt
        have hbl2 := HBR.out.lt
        have hne2 : ¬ c = wr.heap.size := by omega
        have hne3 : ¬ b = wr.heap.size := by omega
        clear he' hkx hx
        have hal := (Keeps.refl wr).alloc (.cells #[.int .i64 x.op, .string (str x.name), .string (str x.value), .slice ad' x.kids.length cap'] 28)
        by_cases h100 : 100 ≤ M
        · have hd : decide ((100 : Int) ≤ (M : Int)) = true := by simp; omega
          have hfin := Lib.hid (show M = min 100 (m + (Tree.sizes ks + 1)) by have := HMM.out; have := HLE.out; omega)
          clear h100
          go_wp2_with fail
          first | go_end0 | (refine bodyPost_ret (v := .tuple #[]) (by simp [results, Tryz.f109, go_sem]) rfl ?_)
          exact ⟨rfl, by rw [← hfin.out]; exact HCR.out.keeps hal, hor.trans (Only.of_keeps hal)⟩
        · have hd : decide ((100 : Int) ≤ (M : Int)) = false := by simp; omega
          have hM100 := Lib.hid (show M < 100 by omega)
          clear h100
          go_wp2_with fail
          refine (HIH.out x HXS.out _ M c b w0 _ HKX.out (hkr.trans hal) hcb hbc (HBR.out.keeps hal) (HCR.out.keeps hal) hM100.out).mono ?_
          rintro e w2 ⟨rfl, hc2, ho2⟩
          have hb2 := (HBR.out.keeps hal).grown ho2 (by simp; exact hbc)
          go_wp2_with fail
          exact ⟨⟨j + 1, _, by omega, by go_num, hc2, by rw [HTK.out]; have := HMM.out; have := hM100.out; omega, hb2, (hor.trans (Only.of_keeps hal)).trans ho2⟩, by simp [intOf]; omega⟩
      · obtain rfl : j = n := by omega
        have hfin := Lib.hid (show M = min 100 (m + (Tree.sizes ks + 1)) by
          have := HMM.out
          rw [List.take_of_length_le (by rw [HNN.out]; omega)] at this; omega)
        go_wp2_with fail
        go_end0
        exact ⟨rfl, by rw [← hfin.out]; exact HCR.out, hor⟩

/-- of how many parts, counted to 100 -/
def siz (t : Tree) : Int := ((min 100 t.size : Nat) : Int)
set_option maxRecDepth 4000 in
set_option maxHeartbeats 1600000 in
theorem ex_size (t : Tree) (kv : Value) (w : World) (hk : KAt w kv t.kids) :
    Calls Tryz.prog 99 #[treeV t kv] w fun e w' => e = .returned (.int .i64 (siz t)) ∧ Keeps w w' := by
  have HD := Lib.hid (fun c b w' (k : Keeps w w') hc hbc hb hcc => size1 t.size t (Nat.le_refl _) kv 0 c b w w' hk k hc hbc hb hcc (by decide))
  have hle : ((min 100 (0 + t.size) : Nat) : Int) ≤ 100 := by omega
  have hs0 : ((min 100 (0 + t.size) : Nat) : Int) = siz t := by unfold siz; congr 1; omega
  rw [hs0] at hle HD
  obtain ⟨sz, hsz⟩ : ∃ sz, siz t = sz := ⟨_, rfl⟩
  rw [hsz] at hle HD ⊢
  obtain ⟨ad, cap, rfl⟩ := hk.form
  obtain ⟨op, nm, vl, ks⟩ := t
  simp only [Tree.kids, treeV, Tree.op, Tree.name, Tree.value] at *
  clear hk hs0 hsz
  go_enter Tryz.func99, Tryz.ntmps99
  go_wp2_with fail
  have h1 := (Keeps.refl w).alloc (.cells #[.int .i64 op, .string (str nm), .string (str vl), .slice ad ks.length cap] 28)
  have h3 := (h1.alloc (.cells #[.int .i64 0] 3)).alloc (.cells #[.func (.func 109) #[] #[.pointer (some ⟨w.heap.size + 1, 0, none⟩), .pointer (some ⟨w.heap.size + 1 + 1, 0, none⟩)]] 176)
  have hbc := (Blk.new (w.alloc (.cells #[.int .i64 op, .string (str nm), .string (str vl), .slice ad ks.length cap] 28)) 3 #[.int .i64 0]).keeps ((Keeps.refl _).alloc (.cells #[.func (.func 109) #[] #[.pointer (some ⟨w.heap.size + 1, 0, none⟩), .pointer (some ⟨w.heap.size + 1 + 1, 0, none⟩)]] 176))
  have hbb := Blk.new ((w.alloc (.cells #[.int .i64 op, .string (str nm), .string (str vl), .slice ad ks.length cap] 28)).alloc (.cells #[.int .i64 0] 3)) 176 #[.func (.func 109) #[] #[.pointer (some ⟨w.heap.size + 1, 0, none⟩), .pointer (some ⟨w.heap.size + 1 + 1, 0, none⟩)]]
  rw [World.size_alloc] at hbc
  rw [World.size_alloc, World.size_alloc] at hbb
  refine (HD.out (w.heap.size + 1) (w.heap.size + 1 + 1) _ h3 (by omega) (by omega) hbb hbc).mono ?_
  rintro e w1 ⟨rfl, hc1, ho1⟩
  have hcc := hc1.cell 0 _ rfl
  go_wp2_with fail
  go_ret
  exact ⟨by first | rfl | (show Ending.returned (.int .i64 (min sz 100)) = _; rw [Int.min_eq_left hle]), ho1.keeps h3 (by omega)⟩
end Go.Proofs.YtgbnpehpfadehaaGreatDoor

namespace Go.Proofs.YtgbnpehpfadehaaGreatDoor
open Go.RowKit

set_option maxRecDepth 4000 in
theorem ex_long (s : List UInt8) (w : World) : Calls Tryz.prog 112 #[.string (str s)] w fun e w' => e = .returned (.bool (Tree.long s)) ∧ w = w' := by
  have hst := str_toList
  have hsz := str_size
  cases s with
  | nil =>
    go_enter Tryz.func112, Tryz.ntmps112
    go_wp2_with fail
    go_ret
    exact ⟨rfl, rfl⟩
  | cons x s =>
    obtain ⟨l, hl⟩ : ∃ l, x :: s = l := ⟨_, rfl⟩
    have hne : (l == []) = false := by subst hl; rfl
    have hne2 : l.isEmpty = false := by subst hl; rfl
    have HR := Lib.hid (show Tree.long l = decide ((l.length : Int) ≤ 1000) by unfold Tree.long; rw [hne, Bool.not_false, Bool.true_and]; exact decide_eq_decide.2 (by omega))
    rw [hl, HR.out]
    have hne3 : ¬ l = [] := by subst hl; simp
    clear hl
    go_enter Tryz.func112, Tryz.ntmps112
    go_wp2_with fail
    go_ret
    exact ⟨rfl, rfl⟩

set_option maxRecDepth 4000 in
set_option maxHeartbeats 1600000 in
theorem ex_fits (t : Tree) (kv : Value) (w : World) (hk : KAt w kv t.kids) :
    Calls Tryz.prog 110 #[treeV t kv] w fun e w' => e = .returned (.bool t.fits) ∧ Keeps w w' := by
  have hst := str_toList
  have hsz := str_size
  obtain ⟨ad, cap, rfl⟩ := hk.form
  obtain ⟨o, nm, vl, ks⟩ := t
  simp only [Tree.kids, treeV, Tree.op, Tree.name, Tree.value] at *
  clear hk
  go_enter Tryz.func110, Tryz.ntmps110
  go_wp2_with fail
  go_region
  go_wp2_with (go_at_call 112; refine (ex_long _ _).mono ?_; rintro e w1 ⟨rfl, rfl⟩)
  all_goals
    refine bodyPost_ret (results_tmp rfl _ _ _) rfl ⟨?_, ((Keeps.refl w).alloc _).drew⟩
    refine congrArg (fun b => Ending.returned (Value.bool b)) ?_
    simp_all [Tree.fits, Tree.long]
    try (first | omega | (intro g1 g2; exfalso; rename_i g; have := g g1; omega) | (rw [Bool.eq_iff_iff]; simp only [Bool.and_eq_true, decide_eq_true_eq]; omega))
end Go.Proofs.YtgbnpehpfadehaaGreatDoor
