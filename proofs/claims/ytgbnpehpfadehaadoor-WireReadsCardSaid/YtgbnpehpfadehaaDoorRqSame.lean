/-
  flotsamref05.Same, SameAll of batches that are the same: the walks.
  The document's Same of filters: the walk, of a filter and itself.
  flotsamref03.Same of two lists of strings that are the same, flotsamref19.number: the walks.
  flotsamref18.SameTopics, flotsamref14.SameParts of lists that are the same: the walks.
  flotsamref19.Same, SameReply of requests and replies that are the same: the walks.
  Requests and replies handed from the document's type to the program's and back: the walks.
-/
import Derived.Test.YtgbnpehpfadehaaDoorBs
import Derived.Test.YtgbnpehpfadehaaDoorRs
import Derived.Test.YtgbnpehpfadehaaDoorExFits
import Derived.Test.YtgbnpehpfadehaaDoorViTake
import Derived.Deep.RegionHeld3
import Derived.Test.YtgbnpehpfadehaaDoorCs
import Derived.BigQuiet
import Derived.Test.YtgbnpehpfadehaaDoorCdDec
import Derived.Test.YtgbnpehpfadehaaDoorOwn
set_option linter.unusedVariables false
namespace Go.Proofs.YtgbnpehpfadehaaDoor
open Go.RowKit

set_option maxRecDepth 4000 in
set_option maxHeartbeats 3200000 in
theorem bt_same (b : Bat) (v v' : Value) (w : World) (h : RsAt w v b.recs) (h' : RsAt w v' b.recs) (hb : ∀ r ∈ b.recs, r.hdrs.length ≤ 2 ^ 50) :
    Calls Tryd.prog 39 #[batV b v, batV b v'] w fun e w' => e = .returned (.bool true) ∧ Keeps w w' := by
  have HS := fun w' (k : Keeps w w') => rs_same b.recs v v' w' (h.keeps k) (h'.keeps k) hb
  obtain ⟨ad, cap, rfl⟩ := h.form
  obtain ⟨ad', cap', rfl⟩ := h'.form
  simp only [batV]
  have hk0 := ((Keeps.refl w).alloc (.cells #[.int .i64 b.base, .int .i64 b.span, .int .i64 b.prod, .int .i64 b.epoch, .int .i64 b.seq, .slice ad b.recs.length cap] 24)).alloc (.cells #[.int .i64 b.base, .int .i64 b.span, .int .i64 b.prod, .int .i64 b.epoch, .int .i64 b.seq, .slice ad' b.recs.length cap'] 24)
  have HS := Lib.hid HS
  clear h h' hb
  go_enter Tryd.func39, Tryd.ntmps39
  go_wp2_with fail
  refine (HS.out _ hk0).mono ?_
  rintro e w1 ⟨rfl, hk1⟩
  go_wp2_with fail
  go_ret
  exact ⟨rfl, hk0.trans hk1⟩

set_option maxRecDepth 4000 in
set_option maxHeartbeats 3200000 in
theorem bs_same (l : List Bat) (v v' : Value) (w : World) (h : BsAt w v l) (h' : BsAt w v' l) (hb : ∀ b ∈ l, ∀ r ∈ b.recs, r.hdrs.length ≤ 2 ^ 50) :
    Calls Tryd.prog 46 #[v, v'] w fun e w' => e = .returned (.bool true) ∧ Keeps w w' := by
  have HRS := Lib.hid (fun (b : Bat) v v' w' p p' q => bt_same b v v' w' p p' q)
  have HB := Lib.hid hb
  obtain ⟨n, hn⟩ : ∃ n, l.length = n := ⟨_, rfl⟩
  obtain ⟨al, capl, rfl, hll, h0l, g, o, hvs, hal, hcl⟩ := h
  obtain ⟨al', capl', rfl, -, h0l', g', o', hvs', hal', hcl'⟩ := h'
  rw [hn] at hll ⊢
  have HNN := Lib.hid hn
  have HAL := Lib.hid hal
  have HCL := Lib.hid hcl
  have HAL' := Lib.hid hal'
  have HCL' := Lib.hid hcl'
  clear hn h0l hal hcl h0l' hal' hcl' hb
  go_enter Tryd.func46, Tryd.ntmps46
  go_wp2_with fail
  go_loopw [5] (fun i wr => ∃ j : Nat, j ≤ n ∧ i = .int .i64 j ∧ Keeps w wr) (fun i _ => n - (intOf i).toNat)
  case atStart => exact ⟨0, by omega, rfl, Keeps.refl _⟩
  case round =>
    obtain ⟨j, hj, rfl, hkr⟩ := hrel
    by_cases hlt : j < n
    · obtain ⟨b, hx⟩ : ∃ x, l[j]? = some x := ⟨_, List.getElem?_eq_getElem (by rw [HNN.out]; exact hlt)⟩
      obtain rfl := HAL.out (by intro e; rw [e] at hx; simp at hx)
      obtain rfl := HAL'.out (by intro e; rw [e] at hx; simp at hx)
      obtain ⟨hrc, hrp⟩ := HCL.out j b hx
      obtain ⟨hrc', hrp'⟩ := HCL'.out j b hx
      obtain ⟨hv, hvd⟩ : ∃ v, hvs j = v := ⟨_, rfl⟩
      obtain ⟨hv', hvd'⟩ : ∃ v, hvs' j = v := ⟨_, rfl⟩
      rw [hvd] at hrc hrp
      rw [hvd'] at hrc' hrp'
      obtain ⟨adh, caph, rfl⟩ := hrp.form
      obtain ⟨adh', caph', rfl⟩ := hrp'.form
      obtain ⟨c0, c1, c2, c3, c4, c5⟩ := hrc.of (fun _ _ => hkr.cell)
      obtain ⟨d0, d1, d2, d3, d4, d5⟩ := hrc'.of (fun _ _ => hkr.cell)
      have HRP := Lib.hid hrp
      have HRP' := Lib.hid hrp'
      have HMR := fun w' (h : Keeps wr w') => HRS.out b _ _ w' (HRP.out.keeps (hkr.trans h)) (HRP'.out.keeps (hkr.trans h)) (HB.out b (List.mem_of_getElem? hx))
      simp only [batV] at HMR
      have HMR := Lib.hid HMR
      clear hrp hrp' hrc hrc' hx hvd hvd'
      go_wp2_with fail
      go_region_held3 (fun w' => Keeps wr w' ∧ w'.cell? ⟨g, o + j * 6, none⟩ = some (.int .i64 b.base) ∧ w'.cell? ⟨g, o + j * 6 + 1, none⟩ = some (.int .i64 b.span) ∧ w'.cell? ⟨g, o + j * 6 + 2, none⟩ = some (.int .i64 b.prod) ∧ w'.cell? ⟨g, o + j * 6 + 3, none⟩ = some (.int .i64 b.epoch) ∧ w'.cell? ⟨g, o + j * 6 + 4, none⟩ = some (.int .i64 b.seq) ∧ w'.cell? ⟨g, o + j * 6 + 5, none⟩ = some (.slice adh b.recs.length caph) ∧ w'.cell? ⟨g', o' + j * 6, none⟩ = some (.int .i64 b.base) ∧ w'.cell? ⟨g', o' + j * 6 + 1, none⟩ = some (.int .i64 b.span) ∧ w'.cell? ⟨g', o' + j * 6 + 2, none⟩ = some (.int .i64 b.prod) ∧ w'.cell? ⟨g', o' + j * 6 + 3, none⟩ = some (.int .i64 b.epoch) ∧ w'.cell? ⟨g', o' + j * 6 + 4, none⟩ = some (.int .i64 b.seq) ∧ w'.cell? ⟨g', o' + j * 6 + 5, none⟩ = some (.slice adh' b.recs.length caph')) ((refine (fun hq => ⟨hq, Keeps.cell hq c0, Keeps.cell hq c1, Keeps.cell hq c2, Keeps.cell hq c3, Keeps.cell hq c4, Keeps.cell hq c5, Keeps.cell hq d0, Keeps.cell hq d1, Keeps.cell hq d2, Keeps.cell hq d3, Keeps.cell hq d4, Keeps.cell hq d5⟩) ?_; first | exact (Keeps.refl wr).drew | exact Keeps.trans (And.left ‹Keeps wr _ ∧ _›) (by assumption))) ((go_at_call 39; refine (HMR.out _ (And.left ‹Keeps wr _ ∧ _›)).mono ?_; rintro e w' ⟨rfl, hkn⟩))
      have hS := (‹Keeps wr _ ∧ _›).1
      go_wp2_with fail
      exact ⟨⟨j + 1, by omega, by go_num, hkr.trans hS⟩, by simp [intOf]; omega⟩
    · obtain rfl : j = n := by omega
      go_wp2_with fail
      go_ret
      exact ⟨rfl, hkr⟩
end Go.Proofs.YtgbnpehpfadehaaDoor

namespace Go.Proofs.YtgbnpehpfadehaaDoor
open Go.RowKit

set_option maxRecDepth 4000 in
set_option maxHeartbeats 800000 in
theorem ref_same1 (k : Nat) : ∀ (t : Tree) (kv kv' : Value) (w : World), k ≤ 100 → t.height ≤ k → KAt w kv t.kids → KAt w kv' t.kids →
    Calls Tryd.prog 71 #[treeV t kv, treeV t kv', .int .i64 k] w fun e w' => e = .returned (.bool true) ∧ Keeps w w' := by
  induction k with
  | zero => intro t kv kv' w _ hh; rw [Tree.height_kids] at hh; omega
  | succ k ih =>
    intro t kv kv' w hk100 hh hk hk'
    rw [Tree.height_kids] at hh
    have HH := Lib.hid (show ∀ x ∈ t.kids, x.height ≤ k from fun x hx => by have := Tree.height_mem hx; omega)
    have HIH := Lib.hid (fun x kv kv' w h => ih x kv kv' w (by omega) h)
    clear ih
    obtain ⟨op, nm, vl, ks⟩ := t
    simp only [Tree.kids, treeV, Tree.op, Tree.name, Tree.value] at hh hk hk' HH ⊢
    obtain ⟨n, hn⟩ : ∃ n, ks.length = n := ⟨_, rfl⟩
    have HNN := Lib.hid hn
    cases hk with
    | mk ad cap l kvs g o hll h0 ha hcs hk =>
    cases hk' with
    | mk ad' cap' l kvs' g' o' hll' h0' ha' hcs' hk' =>
    have HA := Lib.hid ha
    have HC := Lib.hid hcs
    have HK := Lib.hid hk
    have HA' := Lib.hid ha'
    have HC' := Lib.hid hcs'
    have HK' := Lib.hid hk'
    rw [hn] at hll ⊢
    have hne0 : decide (((k + 1 : Nat) : Int) < 1) = false := by simp; omega
    have hsub : ((k + 1 : Nat) : Int) - 1 = (k : Int) := by omega
    obtain ⟨K1, hK1⟩ : ∃ K, ((k + 1 : Nat) : Int) = K := ⟨_, rfl⟩
    have hKb : 0 ≤ K1 ∧ K1 ≤ 101 := by omega
    rw [hK1] at hne0 hsub ⊢
    have HI2 := Lib.hid (show ∀ (x : Tree) (kv kv' : Value) (w : World), x.height ≤ k → KAt w kv x.kids → KAt w kv' x.kids → Calls Tryd.prog 71 #[treeV x kv, treeV x kv', .int .i64 (K1 - 1)] w fun e w' => e = .returned (.bool true) ∧ Keeps w w' by rw [hsub]; exact HIH.out)
    have hKw : IntKind.i64.wrap (K1 - 1) = K1 - 1 := by rw [IntKind.wrap_i64]; omega
    have hKs : K1 - 1 ≤ 9223372036854775807 ∧ -9223372036854775808 ≤ K1 - 1 := by omega
    clear hsub HIH
    have hkw := ((Keeps.refl w).alloc (.cells #[.int .i64 op, .string (str nm), .string (str vl), .slice ad n cap] 27)).alloc (.cells #[.int .i64 op, .string (str nm), .string (str vl), .slice ad' n cap'] 27)
    have hq3 := ((Keeps.refl (w.alloc (.cells #[.int .i64 op, .string (str nm), .string (str vl), .slice ad n cap] 27))).alloc (.cells #[.int .i64 op, .string (str nm), .string (str vl), .slice ad' n cap'] 27)).cell (cell_new w #[.int .i64 op, .string (str nm), .string (str vl), .slice ad n cap] 27 3 _ rfl)
    have hq3' := cell_new2 w (.cells #[.int .i64 op, .string (str nm), .string (str vl), .slice ad n cap] 27) #[.int .i64 op, .string (str nm), .string (str vl), .slice ad' n cap'] 27 3 _ rfl
    clear ha hcs hk hn h0 hk100 hK1 ha' hcs' hk' h0' hll' hh
    go_enter Tryd.func71, Tryd.ntmps71
    go_wp2_with fail
    go_loopw [7] (fun i wr => ∃ j : Nat, j ≤ n ∧ i = .int .i64 j ∧ Keeps ((w.alloc (.cells #[.int .i64 op, .string (str nm), .string (str vl), .slice ad n cap] 27)).alloc (.cells #[.int .i64 op, .string (str nm), .string (str vl), .slice ad' n cap'] 27)) wr) (fun i _ => n - (intOf i).toNat)
    case atStart => exact ⟨0, by omega, rfl, Keeps.refl _⟩
    case round =>
      obtain ⟨j, hj, rfl, hkr1⟩ := hrel
      have hkr := hkw.trans hkr1
      have q3 := hkr1.cell hq3
      have q3' := hkr1.cell hq3'
      by_cases hlt : j < n
      · obtain ⟨x, hx⟩ : ∃ x, ks[j]? = some x := ⟨_, List.getElem?_eq_getElem (by rw [HNN.out]; exact hlt)⟩
        obtain rfl := HA.out (by intro e; rw [e] at hx; simp at hx)
        obtain rfl := HA'.out (by intro e; rw [e] at hx; simp at hx)
        obtain ⟨c0, c1, c2, c3⟩ := HC.out j x hx
        obtain ⟨d0, d1, d2, d3⟩ := HC'.out j x hx
        have c0 := hkr.cell c0
        have c1 := hkr.cell c1
        have c2 := hkr.cell c2
        have c3 := hkr.cell c3
        have d0 := hkr.cell d0
        have d1 := hkr.cell d1
        have d2 := hkr.cell d2
        have d3 := hkr.cell d3
        have hkx := HK.out j x hx
        have hkx' := HK'.out j x hx
        obtain ⟨adx, capx, he⟩ := hkx.form
        obtain ⟨adx', capx', he'⟩ := hkx'.form
        rw [he] at c3 hkx
        rw [he'] at d3 hkx'
        have HKX := Lib.hid hkx
        have HKX' := Lib.hid hkx'
        have HXH := Lib.hid (HH.out x (List.mem_of_getElem? hx))
        clear he he' hkx hkx' hx
        go_wp2_with fail
        go_region_held3 (fun w' => Keeps wr w' ∧ w'.cell? ⟨w.heap.size, 3, none⟩ = some (.slice (some ⟨g, o, none⟩) n cap) ∧ w'.cell? ⟨w.heap.size + 1, 3, none⟩ = some (.slice (some ⟨g', o', none⟩) n cap') ∧ w'.cell? ⟨g, o + j * 4, none⟩ = some (.int .i64 x.op) ∧ w'.cell? ⟨g, o + j * 4 + 1, none⟩ = some (.string (str x.name)) ∧ w'.cell? ⟨g, o + j * 4 + 2, none⟩ = some (.string (str x.value)) ∧ w'.cell? ⟨g, o + j * 4 + 3, none⟩ = some (.slice adx x.kids.length capx) ∧ w'.cell? ⟨g', o' + j * 4, none⟩ = some (.int .i64 x.op) ∧ w'.cell? ⟨g', o' + j * 4 + 1, none⟩ = some (.string (str x.name)) ∧ w'.cell? ⟨g', o' + j * 4 + 2, none⟩ = some (.string (str x.value)) ∧ w'.cell? ⟨g', o' + j * 4 + 3, none⟩ = some (.slice adx' x.kids.length capx')) ((refine (fun hq => ⟨hq, Keeps.cell hq q3, Keeps.cell hq q3', Keeps.cell hq c0, Keeps.cell hq c1, Keeps.cell hq c2, Keeps.cell hq c3, Keeps.cell hq d0, Keeps.cell hq d1, Keeps.cell hq d2, Keeps.cell hq d3⟩) ?_; first | exact (Keeps.refl wr).drew | exact Keeps.trans (And.left ‹Keeps wr _ ∧ _›) (by assumption))) ((go_at_call 71; refine (HI2.out x _ _ _ HXH.out (HKX.out.keeps hkr.drew) (HKX'.out.keeps hkr.drew)).mono ?_; rintro e w' ⟨rfl, hkn⟩))
        have hS := (‹Keeps wr _ ∧ _›).1
        go_wp2_with fail
        exact ⟨⟨j + 1, by omega, by go_num, hkr1.trans hS⟩, by simp [intOf]; omega⟩
      · obtain rfl : j = n := by omega
        go_wp2_with fail
        go_ret
        exact ⟨rfl, hkr⟩

set_option maxRecDepth 4000 in
theorem ex_same (t : Tree) (kv kv' : Value) (w : World) (hh : t.height ≤ 60) (hk : KAt w kv t.kids) (hk' : KAt w kv' t.kids) :
    Calls Tryd.prog 40 #[treeV t kv, treeV t kv'] w fun e w' => e = .returned (.bool true) ∧ Keeps w w' := by
  have HS := Lib.hid (fun w' (h : Keeps w w') => ref_same1 60 t kv kv' w' (by decide) hh (hk.keeps h) (hk'.keeps h))
  have HS2 := Lib.hid (show ∀ w', Keeps w w' → Calls Tryd.prog 71 #[treeV t kv, treeV t kv', .int .i64 60] w' fun e w'' => e = .returned (.bool true) ∧ Keeps w' w'' from HS.out)
  obtain ⟨ad, cap, rfl⟩ := hk.form
  obtain ⟨ad', cap', rfl⟩ := hk'.form
  obtain ⟨op, nm, vl, ks⟩ := t
  simp only [Tree.kids, treeV, Tree.op, Tree.name, Tree.value] at *
  clear hk hk' HS
  go_enter Tryd.func40, Tryd.ntmps40
  go_wp2_with fail
  refine (HS2.out _ (((Keeps.refl w).alloc _).alloc _)).mono ?_
  rintro e w1 ⟨rfl, hk1⟩
  go_wp2_with fail
  go_ret
  exact ⟨rfl, (((Keeps.refl w).alloc _).alloc _).trans hk1⟩
end Go.Proofs.YtgbnpehpfadehaaDoor

namespace Go.Proofs.YtgbnpehpfadehaaDoor
open Go.RowKit

theorem ref_num19 (n : Int) (w : World) :
    Calls Tryd.prog 64 #[.int .i64 n] w fun e w' => e = .returned (.bool (decide (-1 ≤ n ∧ n ≤ 2199023255552))) ∧ Keeps w w' := by
  by_cases h1 : -1 ≤ n
  · by_cases h2 : n ≤ 2199023255552
    · have hd : decide (-1 ≤ n ∧ n ≤ 2199023255552) = true := by simp; omega
      rw [hd]; clear hd
      go_enter Tryd.func64, Tryd.ntmps64
      go_wp2_with fail
      go_ret
      exact ⟨rfl, Keeps.refl _⟩
    · have hd : decide (-1 ≤ n ∧ n ≤ 2199023255552) = false := by simp; omega
      rw [hd]; clear hd
      have h2' : 2199023255552 < n := by omega
      clear h2
      go_enter Tryd.func64, Tryd.ntmps64
      go_wp2_with fail
      go_ret
      exact ⟨by simp; omega, Keeps.refl _⟩
  · have hd : decide (-1 ≤ n ∧ n ≤ 2199023255552) = false := by simp; omega
    rw [hd]; clear hd
    have h1' : n < -1 := by omega
    clear h1
    go_enter Tryd.func64, Tryd.ntmps64
    go_wp2_with fail
    go_ret
    exact ⟨rfl, Keeps.refl _⟩

set_option maxRecDepth 4000 in
set_option maxHeartbeats 1600000 in
theorem ss_same (l : List (List UInt8)) (S S' : Nat → Prop) (v v' : Value) (w : World) (h : Fl 1 tcell S w v l) (h' : Fl 1 tcell S' w v' l) :
    Calls Tryd.prog 41 #[v, v'] w fun e w' => e = .returned (.bool true) ∧ Keeps w w' := by
  obtain ⟨n, hn⟩ : ∃ n, l.length = n := ⟨_, rfl⟩
  obtain ⟨al, capl, rfl, hll, h0l, g, o, hal, hcl⟩ := h
  obtain ⟨al', capl', rfl, -, h0l', g', o', hal', hcl'⟩ := h'
  rw [hn] at hll ⊢
  have HNN := Lib.hid hn
  have HAL := Lib.hid hal
  have HCL := Lib.hid hcl
  have HAL' := Lib.hid hal'
  have HCL' := Lib.hid hcl'
  clear hn h0l hal hcl h0l' hal' hcl'
  go_enter Tryd.func41, Tryd.ntmps41
  go_wp2_with fail
  go_loopw [5] (fun i wr => ∃ j : Nat, j ≤ n ∧ i = .int .i64 j ∧ Keeps w wr) (fun i _ => n - (intOf i).toNat)
  case atStart => exact ⟨0, by omega, rfl, Keeps.refl _⟩
  case round =>
    obtain ⟨j, hj, rfl, hkr⟩ := hrel
    by_cases hlt : j < n
    · obtain ⟨x, hx⟩ : ∃ x, l[j]? = some x := ⟨_, List.getElem?_eq_getElem (by rw [HNN.out]; exact hlt)⟩
      obtain ⟨rfl, -⟩ := HAL.out (by intro e; rw [e] at hx; simp at hx)
      obtain ⟨rfl, -⟩ := HAL'.out (by intro e; rw [e] at hx; simp at hx)
      have c0 : wr.cell? ⟨g, o + j, none⟩ = some (.string (str x)) := by have h := HCL.out j x hx 0 _ rfl; simp only [Nat.mul_one, Nat.add_zero] at h; exact hkr.cell h
      have d0 : wr.cell? ⟨g', o' + j, none⟩ = some (.string (str x)) := by have h := HCL'.out j x hx 0 _ rfl; simp only [Nat.mul_one, Nat.add_zero] at h; exact hkr.cell h
      clear hx
      go_wp2_with fail
      go_quiet (fail)
      go_wp2_with fail
      exact ⟨⟨j + 1, by omega, by go_num, hkr.trans ⟨rfl, rfl, rfl, Nat.le_refl _, fun _ _ => rfl⟩⟩, by simp [intOf]; omega⟩
    · obtain rfl : j = n := by omega
      go_wp2_with fail
      go_ret
      exact ⟨rfl, hkr⟩
end Go.Proofs.YtgbnpehpfadehaaDoor

namespace Go.Proofs.YtgbnpehpfadehaaDoor
open Go.RowKit

set_option maxRecDepth 4000 in
set_option maxHeartbeats 1600000 in
theorem tops_same (l : List (List UInt8 × Int)) (S S' : Nat → Prop) (v v' : Value) (w : World) (h : Fl 2 ncell S w v l) (h' : Fl 2 ncell S' w v' l) :
    Calls Tryd.prog 47 #[v, v'] w fun e w' => e = .returned (.bool true) ∧ Keeps w w' := by
  obtain ⟨n, hn⟩ : ∃ n, l.length = n := ⟨_, rfl⟩
  obtain ⟨al, capl, rfl, hll, h0l, g, o, hal, hcl⟩ := h
  obtain ⟨al', capl', rfl, -, h0l', g', o', hal', hcl'⟩ := h'
  rw [hn] at hll ⊢
  have HNN := Lib.hid hn
  have HAL := Lib.hid hal
  have HCL := Lib.hid hcl
  have HAL' := Lib.hid hal'
  have HCL' := Lib.hid hcl'
  clear hn h0l hal hcl h0l' hal' hcl'
  go_enter Tryd.func47, Tryd.ntmps47
  go_wp2_with fail
  go_loopw [5] (fun i wr => ∃ j : Nat, j ≤ n ∧ i = .int .i64 j ∧ Keeps w wr) (fun i _ => n - (intOf i).toNat)
  case atStart => exact ⟨0, by omega, rfl, Keeps.refl _⟩
  case round =>
    obtain ⟨j, hj, rfl, hkr⟩ := hrel
    by_cases hlt : j < n
    · obtain ⟨x, hx⟩ : ∃ x, l[j]? = some x := ⟨_, List.getElem?_eq_getElem (by rw [HNN.out]; exact hlt)⟩
      obtain ⟨rfl, -⟩ := HAL.out (by intro e; rw [e] at hx; simp at hx)
      obtain ⟨rfl, -⟩ := HAL'.out (by intro e; rw [e] at hx; simp at hx)
      have c0 : wr.cell? ⟨g, o + j * 2, none⟩ = some (.string (str x.1)) := by have h := HCL.out j x hx 0 _ rfl; (try simp only [Nat.add_zero] at h); exact hkr.cell h
      have c1 : wr.cell? ⟨g, o + j * 2 + 1, none⟩ = some (.int .i64 x.2) := by have h := HCL.out j x hx 1 _ rfl; (try simp only [Nat.add_zero] at h); exact hkr.cell h
      have d0 : wr.cell? ⟨g', o' + j * 2, none⟩ = some (.string (str x.1)) := by have h := HCL'.out j x hx 0 _ rfl; (try simp only [Nat.add_zero] at h); exact hkr.cell h
      have d1 : wr.cell? ⟨g', o' + j * 2 + 1, none⟩ = some (.int .i64 x.2) := by have h := HCL'.out j x hx 1 _ rfl; (try simp only [Nat.add_zero] at h); exact hkr.cell h
      clear hx
      go_wp2_with fail
      go_quiet (fail)
      go_wp2_with fail
      exact ⟨⟨j + 1, by omega, by go_num, hkr.trans ⟨rfl, rfl, rfl, Nat.le_refl _, fun _ _ => rfl⟩⟩, by simp [intOf]; omega⟩
    · obtain rfl : j = n := by omega
      go_wp2_with fail
      go_ret
      exact ⟨rfl, hkr⟩
set_option maxRecDepth 4000 in
set_option maxHeartbeats 1600000 in
theorem parts_same (l : List (List UInt8 × Int)) (S S' : Nat → Prop) (v v' : Value) (w : World) (h : Fl 2 ncell S w v l) (h' : Fl 2 ncell S' w v' l) :
    Calls Tryd.prog 48 #[v, v'] w fun e w' => e = .returned (.bool true) ∧ Keeps w w' := by
  obtain ⟨n, hn⟩ : ∃ n, l.length = n := ⟨_, rfl⟩
  obtain ⟨al, capl, rfl, hll, h0l, g, o, hal, hcl⟩ := h
  obtain ⟨al', capl', rfl, -, h0l', g', o', hal', hcl'⟩ := h'
  rw [hn] at hll ⊢
  have HNN := Lib.hid hn
  have HAL := Lib.hid hal
  have HCL := Lib.hid hcl
  have HAL' := Lib.hid hal'
  have HCL' := Lib.hid hcl'
  clear hn h0l hal hcl h0l' hal' hcl'
  go_enter Tryd.func48, Tryd.ntmps48
  go_wp2_with fail
  go_loopw [5] (fun i wr => ∃ j : Nat, j ≤ n ∧ i = .int .i64 j ∧ Keeps w wr) (fun i _ => n - (intOf i).toNat)
  case atStart => exact ⟨0, by omega, rfl, Keeps.refl _⟩
  case round =>
    obtain ⟨j, hj, rfl, hkr⟩ := hrel
    by_cases hlt : j < n
    · obtain ⟨x, hx⟩ : ∃ x, l[j]? = some x := ⟨_, List.getElem?_eq_getElem (by rw [HNN.out]; exact hlt)⟩
      obtain ⟨rfl, -⟩ := HAL.out (by intro e; rw [e] at hx; simp at hx)
      obtain ⟨rfl, -⟩ := HAL'.out (by intro e; rw [e] at hx; simp at hx)
      have c0 : wr.cell? ⟨g, o + j * 2, none⟩ = some (.string (str x.1)) := by have h := HCL.out j x hx 0 _ rfl; (try simp only [Nat.add_zero] at h); exact hkr.cell h
      have c1 : wr.cell? ⟨g, o + j * 2 + 1, none⟩ = some (.int .i64 x.2) := by have h := HCL.out j x hx 1 _ rfl; (try simp only [Nat.add_zero] at h); exact hkr.cell h
      have d0 : wr.cell? ⟨g', o' + j * 2, none⟩ = some (.string (str x.1)) := by have h := HCL'.out j x hx 0 _ rfl; (try simp only [Nat.add_zero] at h); exact hkr.cell h
      have d1 : wr.cell? ⟨g', o' + j * 2 + 1, none⟩ = some (.int .i64 x.2) := by have h := HCL'.out j x hx 1 _ rfl; (try simp only [Nat.add_zero] at h); exact hkr.cell h
      clear hx
      go_wp2_with fail
      go_quiet (fail)
      go_wp2_with fail
      exact ⟨⟨j + 1, by omega, by go_num, hkr.trans ⟨rfl, rfl, rfl, Nat.le_refl _, fun _ _ => rfl⟩⟩, by simp [intOf]; omega⟩
    · obtain rfl : j = n := by omega
      go_wp2_with fail
      go_ret
      exact ⟨rfl, hkr⟩
end Go.Proofs.YtgbnpehpfadehaaDoor

namespace Go.Proofs.YtgbnpehpfadehaaDoor
open Go.RowKit

theorem Fl.keeps {α : Type} {size : Nat} {f : α → List Value} {S : Nat → Prop} {w w' : World} {v : Value} {l : List α} (hf : ∀ x, ∃ u, (f x)[0]? = some u) (h : Fl size f S w v l) (k : Keeps w w') : Fl size f S w' v l :=
  h.move (fun g hg hlt => ⟨hg, k.block hlt⟩) hf

set_option maxRecDepth 8000 in
set_option maxHeartbeats 3200000 in
theorem rep_same (r : Rep) (S S' : Nat → Prop) (a b c a' b' c' : Value) (w : World) (h : RepIn S w r a b c) (h' : RepIn S' w r a' b' c') (hb : ∀ b ∈ r.bats, ∀ x ∈ b.recs, x.hdrs.length ≤ 2 ^ 50) :
    Calls Tryd.prog 25 #[repV r a b c, repV r a' b' c'] w fun e w' => e = .returned (.bool true) ∧ Keeps w w' := by
  have HBS := Lib.hid (fun w' (k : Keeps w w') => bs_same r.bats a a' w' (h.1.at_.keeps k) (h'.1.at_.keeps k) hb)
  have HTS := Lib.hid (fun w' (k : Keeps w w') => tops_same r.topics S S' b b' w' (h.2.1.keeps (fun x => ⟨_, rfl⟩) k) (h'.2.1.keeps (fun x => ⟨_, rfl⟩) k))
  have HPS := Lib.hid (fun w' (k : Keeps w w') => parts_same r.parts S S' c c' w' (h.2.2.keeps (fun x => ⟨_, rfl⟩) k) (h'.2.2.keeps (fun x => ⟨_, rfl⟩) k))
  obtain ⟨a1, n1, p1, a2, n2, p2, a3, n3, p3, rfl, rfl, rfl⟩ := h.form
  obtain ⟨a4, n4, p4, a5, n5, p5, a6, n6, p6, rfl, rfl, rfl⟩ := h'.form
  clear h h' hb
  obtain ⟨x0, x1, x2, x3, x4, x5, x6, lb, lt, lp⟩ := r
  simp only [repV, repCells] at *
  have hkA := (Keeps.refl w).alloc (.cells #[.int .i64 x0, .int .i64 x1, .int .i64 x2, .int .i64 x3, .int .i64 x4, .int .i64 x5, .int .i64 x6, .slice a1 n1 p1, .slice a2 n2 p2, .slice a3 n3 p3] 51)
  have hkB := (Keeps.refl (w.alloc (.cells #[.int .i64 x0, .int .i64 x1, .int .i64 x2, .int .i64 x3, .int .i64 x4, .int .i64 x5, .int .i64 x6, .slice a1 n1 p1, .slice a2 n2 p2, .slice a3 n3 p3] 51))).alloc (.cells #[.int .i64 x0, .int .i64 x1, .int .i64 x2, .int .i64 x3, .int .i64 x4, .int .i64 x5, .int .i64 x6, .slice a4 n4 p4, .slice a5 n5 p5, .slice a6 n6 p6] 51)
  have HB0 := Lib.hid ((Blk.new w 51 #[.int .i64 x0, .int .i64 x1, .int .i64 x2, .int .i64 x3, .int .i64 x4, .int .i64 x5, .int .i64 x6, .slice a1 n1 p1, .slice a2 n2 p2, .slice a3 n3 p3]).keeps hkB)
  have hb1 := Blk.new (w.alloc (.cells #[.int .i64 x0, .int .i64 x1, .int .i64 x2, .int .i64 x3, .int .i64 x4, .int .i64 x5, .int .i64 x6, .slice a1 n1 p1, .slice a2 n2 p2, .slice a3 n3 p3] 51)) 51 #[.int .i64 x0, .int .i64 x1, .int .i64 x2, .int .i64 x3, .int .i64 x4, .int .i64 x5, .int .i64 x6, .slice a4 n4 p4, .slice a5 n5 p5, .slice a6 n6 p6]
  rw [World.size_alloc] at hb1
  have HB1 := Lib.hid hb1
  have HK := Lib.hid (hkA.trans hkB)
  clear hkA hkB hb1
  go_enter Tryd.func25, Tryd.ntmps25
  go_wp2_with fail
  refine (HBS.out _ HK.out).mono ?_
  rintro e w1 ⟨rfl, hk1⟩
  have q0 := (HB0.out.keeps hk1).cell 8 _ rfl
  have q1 := (HB1.out.keeps hk1).cell 8 _ rfl
  go_wp2_with fail
  refine (HTS.out _ (HK.out.trans hk1)).mono ?_
  rintro e w2 ⟨rfl, hk2⟩
  have hk2 := hk1.trans hk2
  have q0 := (HB0.out.keeps hk2).cell 9 _ rfl
  have q1 := (HB1.out.keeps hk2).cell 9 _ rfl
  go_wp2_with fail
  refine (HPS.out _ (HK.out.trans hk2)).mono ?_
  rintro e w3 ⟨rfl, hk3⟩
  go_wp2_with fail
  go_ret
  exact ⟨rfl, HK.out.trans (hk2.trans hk3)⟩

set_option maxRecDepth 8000 in
set_option maxHeartbeats 3200000 in
theorem req_same (q : Req) (S S' : Nat → Prop) (a b c a' b' c' : Value) (w : World) (h : ReqIn S w q a b c) (h' : ReqIn S' w q a' b' c') (hb : ∀ x ∈ q.bat.recs, x.hdrs.length ≤ 2 ^ 50) (hh : q.filter.height ≤ 60) :
    Calls Tryd.prog 18 #[reqV q a b c, reqV q a' b' c'] w fun e w' => e = .returned (.bool true) ∧ Keeps w w' := by
  have HBS := Lib.hid (fun w' (k : Keeps w w') => bt_same q.bat a a' w' (h.1.at_.keeps k) (h'.1.at_.keeps k) hb)
  have HXS := Lib.hid (fun w' (k : Keeps w w') => ex_same q.filter b b' w' hh (h.2.1.at_.keeps k) (h'.2.1.at_.keeps k))
  have HTS := Lib.hid (fun w' (k : Keeps w w') => ss_same q.topics S S' c c' w' (h.2.2.keeps (fun x => ⟨_, rfl⟩) k) (h'.2.2.keeps (fun x => ⟨_, rfl⟩) k))
  obtain ⟨a1, n1, p1, a2, n2, p2, a3, n3, p3, rfl, rfl, rfl⟩ := h.form
  obtain ⟨a4, n4, p4, a5, n5, p5, a6, n6, p6, rfl, rfl, rfl⟩ := h'.form
  clear h h' hb hh
  obtain ⟨x0, x1, x2, x3, x4, x5, ⟨y0, y1, y2, y3, y4, lr⟩, ⟨z0, z1, z2, lk⟩, x8, x9, x10, lt⟩ := q
  simp only [reqV, reqCells, batV, treeV, Tree.op, Tree.name, Tree.value] at *
  have hkA := (Keeps.refl w).alloc (.cells #[.int .i64 x0, .string (str x1), .int .i64 x2, .int .i64 x3, .int .i64 x4, .bool x5, .int .i64 y0, .int .i64 y1, .int .i64 y2, .int .i64 y3, .int .i64 y4, .slice a1 n1 p1, .int .i64 z0, .string (str z1), .string (str z2), .slice a2 n2 p2, .string (str x8), .int .i64 x9, .int .i64 x10, .slice a3 n3 p3] 30)
  have hkB := (Keeps.refl (w.alloc (.cells #[.int .i64 x0, .string (str x1), .int .i64 x2, .int .i64 x3, .int .i64 x4, .bool x5, .int .i64 y0, .int .i64 y1, .int .i64 y2, .int .i64 y3, .int .i64 y4, .slice a1 n1 p1, .int .i64 z0, .string (str z1), .string (str z2), .slice a2 n2 p2, .string (str x8), .int .i64 x9, .int .i64 x10, .slice a3 n3 p3] 30))).alloc (.cells #[.int .i64 x0, .string (str x1), .int .i64 x2, .int .i64 x3, .int .i64 x4, .bool x5, .int .i64 y0, .int .i64 y1, .int .i64 y2, .int .i64 y3, .int .i64 y4, .slice a4 n4 p4, .int .i64 z0, .string (str z1), .string (str z2), .slice a5 n5 p5, .string (str x8), .int .i64 x9, .int .i64 x10, .slice a6 n6 p6] 30)
  have HB0 := Lib.hid ((Blk.new w 30 #[.int .i64 x0, .string (str x1), .int .i64 x2, .int .i64 x3, .int .i64 x4, .bool x5, .int .i64 y0, .int .i64 y1, .int .i64 y2, .int .i64 y3, .int .i64 y4, .slice a1 n1 p1, .int .i64 z0, .string (str z1), .string (str z2), .slice a2 n2 p2, .string (str x8), .int .i64 x9, .int .i64 x10, .slice a3 n3 p3]).keeps hkB)
  have hb1 := Blk.new (w.alloc (.cells #[.int .i64 x0, .string (str x1), .int .i64 x2, .int .i64 x3, .int .i64 x4, .bool x5, .int .i64 y0, .int .i64 y1, .int .i64 y2, .int .i64 y3, .int .i64 y4, .slice a1 n1 p1, .int .i64 z0, .string (str z1), .string (str z2), .slice a2 n2 p2, .string (str x8), .int .i64 x9, .int .i64 x10, .slice a3 n3 p3] 30)) 30 #[.int .i64 x0, .string (str x1), .int .i64 x2, .int .i64 x3, .int .i64 x4, .bool x5, .int .i64 y0, .int .i64 y1, .int .i64 y2, .int .i64 y3, .int .i64 y4, .slice a4 n4 p4, .int .i64 z0, .string (str z1), .string (str z2), .slice a5 n5 p5, .string (str x8), .int .i64 x9, .int .i64 x10, .slice a6 n6 p6]
  rw [World.size_alloc] at hb1
  have HB1 := Lib.hid hb1
  have HK := Lib.hid (hkA.trans hkB)
  clear hkA hkB hb1
  go_enter Tryd.func18, Tryd.ntmps18
  go_wp2_with fail
  refine (HBS.out _ HK.out).mono ?_
  rintro e w1 ⟨rfl, hk1⟩
  have q0 := (HB0.out.keeps hk1).cell 12 _ rfl
  have q1 := (HB0.out.keeps hk1).cell 13 _ rfl
  have q2 := (HB0.out.keeps hk1).cell 14 _ rfl
  have q3 := (HB0.out.keeps hk1).cell 15 _ rfl
  have q4 := (HB1.out.keeps hk1).cell 12 _ rfl
  have q5 := (HB1.out.keeps hk1).cell 13 _ rfl
  have q6 := (HB1.out.keeps hk1).cell 14 _ rfl
  have q7 := (HB1.out.keeps hk1).cell 15 _ rfl
  go_wp2_with fail
  refine (HXS.out _ (HK.out.trans hk1)).mono ?_
  rintro e w2 ⟨rfl, hk2⟩
  have hk2 := hk1.trans hk2
  have q0 := (HB0.out.keeps hk2).cell 16 _ rfl
  have q1 := (HB0.out.keeps hk2).cell 17 _ rfl
  have q2 := (HB0.out.keeps hk2).cell 18 _ rfl
  have q3 := (HB0.out.keeps hk2).cell 19 _ rfl
  have q4 := (HB1.out.keeps hk2).cell 16 _ rfl
  have q5 := (HB1.out.keeps hk2).cell 17 _ rfl
  have q6 := (HB1.out.keeps hk2).cell 18 _ rfl
  have q7 := (HB1.out.keeps hk2).cell 19 _ rfl
  go_wp2_with fail
  refine (HTS.out _ (HK.out.trans hk2)).mono ?_
  rintro e w3 ⟨rfl, hk3⟩
  go_wp2_with fail
  go_ret
  exact ⟨rfl, HK.out.trans (hk2.trans hk3)⟩
end Go.Proofs.YtgbnpehpfadehaaDoor

namespace Go.Proofs.YtgbnpehpfadehaaDoor
open Go.RowKit

theorem results_cell1 {P : Program} {f : Func} {tmps : Array Value} {w : World} {a b : Nat} {T : TypeId} {v : Value} (hf : f.results = #[.cell a T]) (ha : tmps.getD a undef = .pointer (some ⟨b, 0, none⟩))
    (hl : (loadVar T ⟨b, 0, none⟩).run P w = .ok v w) : (results f tmps).run P w = .ok v w := by
  rw [Array.getD_eq_getD_getElem?] at ha
  unfold results
  rw [hf]
  simp [asAddr, ha, hl]
section
variable {P : Program} {ops : Array Oper} {Q : Exit → Act → World → Prop} {md : Region.Mode} {S : World → Prop} {fuel : Nat} {listed : Array Bool} {a : Act} {w : World}
/-- a load of many cells, taken -/
theorem held_big (i : Nat) (d : Option Tmp) (ty : TypeId) (x : Operand) (b : Nat) (cs : List Value) (td : TypeDesc) (h1 : Region.noSelect ops = true) (h2 : Region.free md ops listed i = true) (h3 : (Region.ready md ops listed).contains i = true)
    (h4 : (ops[i]?).map (fun o => (o.dst, o.op, Region.wanted o (yielded ops a.tmps))) = some (d, .load ty x, true)) (hx : a.eval x = .pointer (some ⟨b, 0, none⟩)) (hQ : ∀ c a w, Q (.panic c) (a.put d (.agg cs.toArray)) w → Q (.panic c) a w) (hS : S w)
    (hc : ∀ w, S w → w.rangeAt b 0 cs) (hu : P.underlying ty = some td) (hd : td.isRow = true) (hi : (P.info? ty).map (·.size) = some cs.length)
    (h : wpAnyH P md ops Q S fuel (listed.setIfInBounds i true) (a.put d (.agg cs.toArray)) w) : wpAnyH P md ops Q S (fuel + 1) listed a w := by
  obtain ⟨o, ho, he⟩ := Option.map_eq_some_iff.1 h4
  simp only [Prod.mk.injEq] at he
  obtain ⟨rfl, hop, hw⟩ := he
  exact wpAnyH_take ho h1 h2 h3 hQ (yieldsIf_load_mid hw ty x hop b 0 hx cs td hc hu hd hi) hS h
end
theorem size_rq19 {q : Req} {lv kv tv : Value} : (Tryd.prog.info? 30).map (·.size) = some (reqList q lv kv tv).length := by kernel_rfl
theorem size_rq19' {q : Req} {x y z : Value} : (Tryd.prog.info? 30).map (·.size) = some (reqCells q x y z).size := by kernel_rfl
theorem size_rp19 {q : Rep} {lv kv tv : Value} : (Tryd.prog.info? 51).map (·.size) = some (repList q lv kv tv).length := by kernel_rfl
theorem size_rp19' {q : Rep} {x y z : Value} : (Tryd.prog.info? 51).map (·.size) = some (repCells q x y z).size := by kernel_rfl
theorem rng_of_blk {w : World} {b : Nat} {T : TypeId} {cs : Array Value} (h : Blk w b T cs) : w.rangeAt b 0 cs.toList :=
  fun j v hj => by rw [Nat.zero_add]; exact h.cell j v (by simpa using hj)


set_option maxRecDepth 8000 in
set_option maxHeartbeats 1600000 in
theorem ask_req (q : Req) (a1 : Option Addr) (n1 p1 : Nat) (a2 : Option Addr) (n2 p2 : Nat) (a3 : Option Addr) (n3 p3 : Nat) (w : World) :
    Calls Tryd.prog 13 #[reqV q (.slice a1 n1 p1) (.slice a2 n2 p2) (.slice a3 n3 p3)] w fun e w' => e = .returned (reqV q (.slice a1 n1 p1) (.slice a2 n2 p2) (.slice a3 n3 p3)) ∧ Keeps w w' := by
  have hkA := (Keeps.refl w).alloc (.cells #[.int .i64 q.kind, .string (str q.name), .int .i64 q.index, .int .i64 q.count, .int .i64 q.from_, .bool q.flag, .int .i64 q.bat.base, .int .i64 q.bat.span, .int .i64 q.bat.prod, .int .i64 q.bat.epoch, .int .i64 q.bat.seq, .slice a1 n1 p1, .int .i64 q.filter.op, .string (str q.filter.name), .string (str q.filter.value), .slice a2 n2 p2, .string (str q.group), .int .i64 q.member, .int .i64 q.gen, .slice a3 n3 p3] 30)
  have hkB := (Keeps.refl (w.alloc (.cells #[.int .i64 q.kind, .string (str q.name), .int .i64 q.index, .int .i64 q.count, .int .i64 q.from_, .bool q.flag, .int .i64 q.bat.base, .int .i64 q.bat.span, .int .i64 q.bat.prod, .int .i64 q.bat.epoch, .int .i64 q.bat.seq, .slice a1 n1 p1, .int .i64 q.filter.op, .string (str q.filter.name), .string (str q.filter.value), .slice a2 n2 p2, .string (str q.group), .int .i64 q.member, .int .i64 q.gen, .slice a3 n3 p3] 30))).alloc (.cells #[.int .i64 0, .string ⟨#[]⟩, .int .i64 0, .int .i64 0, .int .i64 0, .bool false, .int .i64 0, .int .i64 0, .int .i64 0, .int .i64 0, .int .i64 0, .slice none 0 0, .int .i64 0, .string ⟨#[]⟩, .string ⟨#[]⟩, .slice none 0 0, .string ⟨#[]⟩, .int .i64 0, .int .i64 0, .slice none 0 0] 36)
  have hb0 := (Blk.new w 30 #[.int .i64 q.kind, .string (str q.name), .int .i64 q.index, .int .i64 q.count, .int .i64 q.from_, .bool q.flag, .int .i64 q.bat.base, .int .i64 q.bat.span, .int .i64 q.bat.prod, .int .i64 q.bat.epoch, .int .i64 q.bat.seq, .slice a1 n1 p1, .int .i64 q.filter.op, .string (str q.filter.name), .string (str q.filter.value), .slice a2 n2 p2, .string (str q.group), .int .i64 q.member, .int .i64 q.gen, .slice a3 n3 p3]).keeps hkB
  have hb1 := Blk.new (w.alloc (.cells #[.int .i64 q.kind, .string (str q.name), .int .i64 q.index, .int .i64 q.count, .int .i64 q.from_, .bool q.flag, .int .i64 q.bat.base, .int .i64 q.bat.span, .int .i64 q.bat.prod, .int .i64 q.bat.epoch, .int .i64 q.bat.seq, .slice a1 n1 p1, .int .i64 q.filter.op, .string (str q.filter.name), .string (str q.filter.value), .slice a2 n2 p2, .string (str q.group), .int .i64 q.member, .int .i64 q.gen, .slice a3 n3 p3] 30)) 36 #[.int .i64 0, .string ⟨#[]⟩, .int .i64 0, .int .i64 0, .int .i64 0, .bool false, .int .i64 0, .int .i64 0, .int .i64 0, .int .i64 0, .int .i64 0, .slice none 0 0, .int .i64 0, .string ⟨#[]⟩, .string ⟨#[]⟩, .slice none 0 0, .string ⟨#[]⟩, .int .i64 0, .int .i64 0, .slice none 0 0]
  rw [World.size_alloc] at hb1
  have HK := Lib.hid (hkA.trans hkB)
  clear hkA hkB
  simp only [reqV, reqCells] at *
  go_enter Tryd.func13, Tryd.ntmps13
  go_upto_region 1 with fail
  generalize hW : ((w.alloc (.cells #[.int .i64 q.kind, .string (str q.name), .int .i64 q.index, .int .i64 q.count, .int .i64 q.from_, .bool q.flag, .int .i64 q.bat.base, .int .i64 q.bat.span, .int .i64 q.bat.prod, .int .i64 q.bat.epoch, .int .i64 q.bat.seq, .slice a1 n1 p1, .int .i64 q.filter.op, .string (str q.filter.name), .string (str q.filter.value), .slice a2 n2 p2, .string (str q.group), .int .i64 q.member, .int .i64 q.gen, .slice a3 n3 p3] 30)).alloc (.cells #[.int .i64 0, .string ⟨#[]⟩, .int .i64 0, .int .i64 0, .int .i64 0, .bool false, .int .i64 0, .int .i64 0, .int .i64 0, .int .i64 0, .int .i64 0, .slice none 0 0, .int .i64 0, .string ⟨#[]⟩, .string ⟨#[]⟩, .slice none 0 0, .string ⟨#[]⟩, .int .i64 0, .int .i64 0, .slice none 0 0] 36)) = W at *
  clear hW
  have c0 := hb0.cell 0 _ rfl
  have c1 := hb0.cell 1 _ rfl
  have c2 := hb0.cell 2 _ rfl
  have c3 := hb0.cell 3 _ rfl
  have c4 := hb0.cell 4 _ rfl
  have c5 := hb0.cell 5 _ rfl
  have c6 := hb0.cell 6 _ rfl
  have c7 := hb0.cell 7 _ rfl
  have c8 := hb0.cell 8 _ rfl
  have c9 := hb0.cell 9 _ rfl
  have c10 := hb0.cell 10 _ rfl
  have c11 := hb0.cell 11 _ rfl
  have c12 := hb0.cell 12 _ rfl
  have c13 := hb0.cell 13 _ rfl
  have c14 := hb0.cell 14 _ rfl
  have c15 := hb0.cell 15 _ rfl
  have c16 := hb0.cell 16 _ rfl
  have c17 := hb0.cell 17 _ rfl
  have c18 := hb0.cell 18 _ rfl
  have c19 := hb0.cell 19 _ rfl
  have hb1 : Blk W (w.heap.size + 1) 36 (reqCells Req.none (.slice none 0 0) (.slice none 0 0) (.slice none 0 0)) := hb1
  have HTH := Lib.hid (there_req (q' := q) (x := .slice a1 n1 p1) (y := .slice a2 n2 p2) (z := .slice a3 n3 p3) hb1)
  have HQ2 := Lib.hid (setCells_req (q' := q) (x := .slice a1 n1 p1) (y := .slice a2 n2 p2) (z := .slice a3 n3 p3) hb1)
  have HLV := Lib.hid (run_loadVar_mid (P := Tryd.prog) _ (w.heap.size + 1) 0 36 (reqList q (.slice a1 n1 p1) (.slice a2 n2 p2) (.slice a3 n3 p3)) _ (rng_of_blk HQ2.out) Tryd.underlying36 rfl size_req)
  clear hb0 hb1
  refine wp_region_lit ?_
  iterate 25
    refine wpList_plain (by rfl) fun _ hK => ?_
    go_simp
    refine hK _ _ ?_
    clear hK
    try simp only [Act.put, List.setIfInBounds_toArray, List.set_cons_zero, List.set_cons_succ]
  refine wpList_store_mid (by rfl) 36 (.tmp 2) (.tmp 27) (by rfl) (w.heap.size + 1) 0 (reqCells q (.slice a1 n1 p1) (.slice a2 n2 p2) (.slice a3 n3 p3)) (by rfl) (by rfl) HTH.out size_req' one_req ?_
  have HKF := Lib.hid (Keeps.setCells (q := w.heap.size + 1) (Nat.le_succ _) (reqCells q (.slice a1 n1 p1) (.slice a2 n2 p2) (.slice a3 n3 p3)).toList 0 HK.out)
  have hlv := HLV.out
  generalize W.setCells (w.heap.size + 1) 0 (reqCells q (.slice a1 n1 p1) (.slice a2 n2 p2) (.slice a3 n3 p3)).toList = wf at *
  go_wp2_with fail
  exact bodyPost_ret (v := reqV q (.slice a1 n1 p1) (.slice a2 n2 p2) (.slice a3 n3 p3)) (results_cell1 rfl rfl hlv) rfl ⟨rfl, HKF.out⟩

set_option maxRecDepth 8000 in
set_option maxHeartbeats 1600000 in
theorem told_req (q : Req) (a1 : Option Addr) (n1 p1 : Nat) (a2 : Option Addr) (n2 p2 : Nat) (a3 : Option Addr) (n3 p3 : Nat) (w : World) :
    Calls Tryd.prog 19 #[reqV q (.slice a1 n1 p1) (.slice a2 n2 p2) (.slice a3 n3 p3)] w fun e w' => e = .returned (reqV q (.slice a1 n1 p1) (.slice a2 n2 p2) (.slice a3 n3 p3)) ∧ Keeps w w' := by
  have hkA := (Keeps.refl w).alloc (.cells #[.int .i64 q.kind, .string (str q.name), .int .i64 q.index, .int .i64 q.count, .int .i64 q.from_, .bool q.flag, .int .i64 q.bat.base, .int .i64 q.bat.span, .int .i64 q.bat.prod, .int .i64 q.bat.epoch, .int .i64 q.bat.seq, .slice a1 n1 p1, .int .i64 q.filter.op, .string (str q.filter.name), .string (str q.filter.value), .slice a2 n2 p2, .string (str q.group), .int .i64 q.member, .int .i64 q.gen, .slice a3 n3 p3] 36)
  have hkB := (Keeps.refl (w.alloc (.cells #[.int .i64 q.kind, .string (str q.name), .int .i64 q.index, .int .i64 q.count, .int .i64 q.from_, .bool q.flag, .int .i64 q.bat.base, .int .i64 q.bat.span, .int .i64 q.bat.prod, .int .i64 q.bat.epoch, .int .i64 q.bat.seq, .slice a1 n1 p1, .int .i64 q.filter.op, .string (str q.filter.name), .string (str q.filter.value), .slice a2 n2 p2, .string (str q.group), .int .i64 q.member, .int .i64 q.gen, .slice a3 n3 p3] 36))).alloc (.cells #[.int .i64 0, .string ⟨#[]⟩, .int .i64 0, .int .i64 0, .int .i64 0, .bool false, .int .i64 0, .int .i64 0, .int .i64 0, .int .i64 0, .int .i64 0, .slice none 0 0, .int .i64 0, .string ⟨#[]⟩, .string ⟨#[]⟩, .slice none 0 0, .string ⟨#[]⟩, .int .i64 0, .int .i64 0, .slice none 0 0] 30)
  have hb0 := (Blk.new w 36 #[.int .i64 q.kind, .string (str q.name), .int .i64 q.index, .int .i64 q.count, .int .i64 q.from_, .bool q.flag, .int .i64 q.bat.base, .int .i64 q.bat.span, .int .i64 q.bat.prod, .int .i64 q.bat.epoch, .int .i64 q.bat.seq, .slice a1 n1 p1, .int .i64 q.filter.op, .string (str q.filter.name), .string (str q.filter.value), .slice a2 n2 p2, .string (str q.group), .int .i64 q.member, .int .i64 q.gen, .slice a3 n3 p3]).keeps hkB
  have hb1 := Blk.new (w.alloc (.cells #[.int .i64 q.kind, .string (str q.name), .int .i64 q.index, .int .i64 q.count, .int .i64 q.from_, .bool q.flag, .int .i64 q.bat.base, .int .i64 q.bat.span, .int .i64 q.bat.prod, .int .i64 q.bat.epoch, .int .i64 q.bat.seq, .slice a1 n1 p1, .int .i64 q.filter.op, .string (str q.filter.name), .string (str q.filter.value), .slice a2 n2 p2, .string (str q.group), .int .i64 q.member, .int .i64 q.gen, .slice a3 n3 p3] 36)) 30 #[.int .i64 0, .string ⟨#[]⟩, .int .i64 0, .int .i64 0, .int .i64 0, .bool false, .int .i64 0, .int .i64 0, .int .i64 0, .int .i64 0, .int .i64 0, .slice none 0 0, .int .i64 0, .string ⟨#[]⟩, .string ⟨#[]⟩, .slice none 0 0, .string ⟨#[]⟩, .int .i64 0, .int .i64 0, .slice none 0 0]
  rw [World.size_alloc] at hb1
  have HK := Lib.hid (hkA.trans hkB)
  clear hkA hkB
  simp only [reqV, reqCells] at *
  go_enter Tryd.func19, Tryd.ntmps19
  go_upto_region 1 with fail
  generalize hW : ((w.alloc (.cells #[.int .i64 q.kind, .string (str q.name), .int .i64 q.index, .int .i64 q.count, .int .i64 q.from_, .bool q.flag, .int .i64 q.bat.base, .int .i64 q.bat.span, .int .i64 q.bat.prod, .int .i64 q.bat.epoch, .int .i64 q.bat.seq, .slice a1 n1 p1, .int .i64 q.filter.op, .string (str q.filter.name), .string (str q.filter.value), .slice a2 n2 p2, .string (str q.group), .int .i64 q.member, .int .i64 q.gen, .slice a3 n3 p3] 36)).alloc (.cells #[.int .i64 0, .string ⟨#[]⟩, .int .i64 0, .int .i64 0, .int .i64 0, .bool false, .int .i64 0, .int .i64 0, .int .i64 0, .int .i64 0, .int .i64 0, .slice none 0 0, .int .i64 0, .string ⟨#[]⟩, .string ⟨#[]⟩, .slice none 0 0, .string ⟨#[]⟩, .int .i64 0, .int .i64 0, .slice none 0 0] 30)) = W at *
  clear hW
  have c0 := hb0.cell 0 _ rfl
  have c1 := hb0.cell 1 _ rfl
  have c2 := hb0.cell 2 _ rfl
  have c3 := hb0.cell 3 _ rfl
  have c4 := hb0.cell 4 _ rfl
  have c5 := hb0.cell 5 _ rfl
  have c6 := hb0.cell 6 _ rfl
  have c7 := hb0.cell 7 _ rfl
  have c8 := hb0.cell 8 _ rfl
  have c9 := hb0.cell 9 _ rfl
  have c10 := hb0.cell 10 _ rfl
  have c11 := hb0.cell 11 _ rfl
  have c12 := hb0.cell 12 _ rfl
  have c13 := hb0.cell 13 _ rfl
  have c14 := hb0.cell 14 _ rfl
  have c15 := hb0.cell 15 _ rfl
  have c16 := hb0.cell 16 _ rfl
  have c17 := hb0.cell 17 _ rfl
  have c18 := hb0.cell 18 _ rfl
  have c19 := hb0.cell 19 _ rfl
  have hb1 : Blk W (w.heap.size + 1) 30 (reqCells Req.none (.slice none 0 0) (.slice none 0 0) (.slice none 0 0)) := hb1
  have HTH := Lib.hid (there_req (q' := q) (x := .slice a1 n1 p1) (y := .slice a2 n2 p2) (z := .slice a3 n3 p3) hb1)
  have HQ2 := Lib.hid (setCells_req (q' := q) (x := .slice a1 n1 p1) (y := .slice a2 n2 p2) (z := .slice a3 n3 p3) hb1)
  have HLV := Lib.hid (run_loadVar_mid (P := Tryd.prog) _ (w.heap.size + 1) 0 30 (reqList q (.slice a1 n1 p1) (.slice a2 n2 p2) (.slice a3 n3 p3)) _ (rng_of_blk HQ2.out) Tryd.underlying30 rfl size_rq19)
  clear hb0 hb1
  refine wp_region_lit ?_
  iterate 25
    refine wpList_plain (by rfl) fun _ hK => ?_
    go_simp
    refine hK _ _ ?_
    clear hK
    try simp only [Act.put, List.setIfInBounds_toArray, List.set_cons_zero, List.set_cons_succ]
  refine wpList_store_mid (by rfl) 30 (.tmp 2) (.tmp 27) (by rfl) (w.heap.size + 1) 0 (reqCells q (.slice a1 n1 p1) (.slice a2 n2 p2) (.slice a3 n3 p3)) (by rfl) (by rfl) HTH.out size_rq19' one_req ?_
  have HKF := Lib.hid (Keeps.setCells (q := w.heap.size + 1) (Nat.le_succ _) (reqCells q (.slice a1 n1 p1) (.slice a2 n2 p2) (.slice a3 n3 p3)).toList 0 HK.out)
  have hlv := HLV.out
  generalize W.setCells (w.heap.size + 1) 0 (reqCells q (.slice a1 n1 p1) (.slice a2 n2 p2) (.slice a3 n3 p3)).toList = wf at *
  go_wp2_with fail
  exact bodyPost_ret (v := reqV q (.slice a1 n1 p1) (.slice a2 n2 p2) (.slice a3 n3 p3)) (results_cell1 rfl rfl hlv) rfl ⟨rfl, HKF.out⟩

set_option maxRecDepth 8000 in
set_option maxHeartbeats 1600000 in
theorem reply_rep (q : Rep) (a1 : Option Addr) (n1 p1 : Nat) (a2 : Option Addr) (n2 p2 : Nat) (a3 : Option Addr) (n3 p3 : Nat) (w : World) :
    Calls Tryd.prog 26 #[repV q (.slice a1 n1 p1) (.slice a2 n2 p2) (.slice a3 n3 p3)] w fun e w' => e = .returned (repV q (.slice a1 n1 p1) (.slice a2 n2 p2) (.slice a3 n3 p3)) ∧ Keeps w w' := by
  have hkA := (Keeps.refl w).alloc (.cells #[.int .i64 q.err, .int .i64 q.at_, .int .i64 q.start, .int .i64 q.end_, .int .i64 q.member, .int .i64 q.gen, .int .i64 q.leader, .slice a1 n1 p1, .slice a2 n2 p2, .slice a3 n3 p3] 54)
  have hkB := (Keeps.refl (w.alloc (.cells #[.int .i64 q.err, .int .i64 q.at_, .int .i64 q.start, .int .i64 q.end_, .int .i64 q.member, .int .i64 q.gen, .int .i64 q.leader, .slice a1 n1 p1, .slice a2 n2 p2, .slice a3 n3 p3] 54))).alloc (.cells #[.int .i64 0, .int .i64 0, .int .i64 0, .int .i64 0, .int .i64 0, .int .i64 0, .int .i64 0, .slice none 0 0, .slice none 0 0, .slice none 0 0] 51)
  have hb0 := (Blk.new w 54 #[.int .i64 q.err, .int .i64 q.at_, .int .i64 q.start, .int .i64 q.end_, .int .i64 q.member, .int .i64 q.gen, .int .i64 q.leader, .slice a1 n1 p1, .slice a2 n2 p2, .slice a3 n3 p3]).keeps hkB
  have hb1 := Blk.new (w.alloc (.cells #[.int .i64 q.err, .int .i64 q.at_, .int .i64 q.start, .int .i64 q.end_, .int .i64 q.member, .int .i64 q.gen, .int .i64 q.leader, .slice a1 n1 p1, .slice a2 n2 p2, .slice a3 n3 p3] 54)) 51 #[.int .i64 0, .int .i64 0, .int .i64 0, .int .i64 0, .int .i64 0, .int .i64 0, .int .i64 0, .slice none 0 0, .slice none 0 0, .slice none 0 0]
  rw [World.size_alloc] at hb1
  have HK := Lib.hid (hkA.trans hkB)
  clear hkA hkB
  simp only [repV, repCells] at *
  go_enter Tryd.func26, Tryd.ntmps26
  go_upto_region 1 with fail
  generalize hW : ((w.alloc (.cells #[.int .i64 q.err, .int .i64 q.at_, .int .i64 q.start, .int .i64 q.end_, .int .i64 q.member, .int .i64 q.gen, .int .i64 q.leader, .slice a1 n1 p1, .slice a2 n2 p2, .slice a3 n3 p3] 54)).alloc (.cells #[.int .i64 0, .int .i64 0, .int .i64 0, .int .i64 0, .int .i64 0, .int .i64 0, .int .i64 0, .slice none 0 0, .slice none 0 0, .slice none 0 0] 51)) = W at *
  clear hW
  have c0 := hb0.cell 0 _ rfl
  have c1 := hb0.cell 1 _ rfl
  have c2 := hb0.cell 2 _ rfl
  have c3 := hb0.cell 3 _ rfl
  have c4 := hb0.cell 4 _ rfl
  have c5 := hb0.cell 5 _ rfl
  have c6 := hb0.cell 6 _ rfl
  have c7 := hb0.cell 7 _ rfl
  have c8 := hb0.cell 8 _ rfl
  have c9 := hb0.cell 9 _ rfl
  have hb1 : Blk W (w.heap.size + 1) 51 (repCells Rep.none (.slice none 0 0) (.slice none 0 0) (.slice none 0 0)) := hb1
  have HTH := Lib.hid (there_rep (q' := q) (x := .slice a1 n1 p1) (y := .slice a2 n2 p2) (z := .slice a3 n3 p3) hb1)
  have HQ2 := Lib.hid (setCells_rep (q' := q) (x := .slice a1 n1 p1) (y := .slice a2 n2 p2) (z := .slice a3 n3 p3) hb1)
  have HLV := Lib.hid (run_loadVar_mid (P := Tryd.prog) _ (w.heap.size + 1) 0 51 (repList q (.slice a1 n1 p1) (.slice a2 n2 p2) (.slice a3 n3 p3)) _ (rng_of_blk HQ2.out) Tryd.underlying51 rfl size_rp19)
  clear hb0 hb1
  refine wp_region_lit ?_
  iterate 21
    refine wpList_plain (by rfl) fun _ hK => ?_
    go_simp
    refine hK _ _ ?_
    clear hK
    try simp only [Act.put, List.setIfInBounds_toArray, List.set_cons_zero, List.set_cons_succ]
  refine wpList_store_mid (by rfl) 51 (.tmp 2) (.tmp 23) (by rfl) (w.heap.size + 1) 0 (repCells q (.slice a1 n1 p1) (.slice a2 n2 p2) (.slice a3 n3 p3)) (by rfl) (by rfl) HTH.out size_rp19' one_rep ?_
  have HKF := Lib.hid (Keeps.setCells (q := w.heap.size + 1) (Nat.le_succ _) (repCells q (.slice a1 n1 p1) (.slice a2 n2 p2) (.slice a3 n3 p3)).toList 0 HK.out)
  have hlv := HLV.out
  generalize W.setCells (w.heap.size + 1) 0 (repCells q (.slice a1 n1 p1) (.slice a2 n2 p2) (.slice a3 n3 p3)).toList = wf at *
  go_wp2_with fail
  exact bodyPost_ret (v := repV q (.slice a1 n1 p1) (.slice a2 n2 p2) (.slice a3 n3 p3)) (results_cell1 rfl rfl hlv) rfl ⟨rfl, HKF.out⟩

set_option maxRecDepth 8000 in
set_option maxHeartbeats 1600000 in
theorem answer_rep (q : Rep) (a1 : Option Addr) (n1 p1 : Nat) (a2 : Option Addr) (n2 p2 : Nat) (a3 : Option Addr) (n3 p3 : Nat) (w : World) :
    Calls Tryd.prog 22 #[repV q (.slice a1 n1 p1) (.slice a2 n2 p2) (.slice a3 n3 p3)] w fun e w' => e = .returned (repV q (.slice a1 n1 p1) (.slice a2 n2 p2) (.slice a3 n3 p3)) ∧ Keeps w w' := by
  have hkA := (Keeps.refl w).alloc (.cells #[.int .i64 q.err, .int .i64 q.at_, .int .i64 q.start, .int .i64 q.end_, .int .i64 q.member, .int .i64 q.gen, .int .i64 q.leader, .slice a1 n1 p1, .slice a2 n2 p2, .slice a3 n3 p3] 51)
  have hkB := (Keeps.refl (w.alloc (.cells #[.int .i64 q.err, .int .i64 q.at_, .int .i64 q.start, .int .i64 q.end_, .int .i64 q.member, .int .i64 q.gen, .int .i64 q.leader, .slice a1 n1 p1, .slice a2 n2 p2, .slice a3 n3 p3] 51))).alloc (.cells #[.int .i64 0, .int .i64 0, .int .i64 0, .int .i64 0, .int .i64 0, .int .i64 0, .int .i64 0, .slice none 0 0, .slice none 0 0, .slice none 0 0] 54)
  have hb0 := (Blk.new w 51 #[.int .i64 q.err, .int .i64 q.at_, .int .i64 q.start, .int .i64 q.end_, .int .i64 q.member, .int .i64 q.gen, .int .i64 q.leader, .slice a1 n1 p1, .slice a2 n2 p2, .slice a3 n3 p3]).keeps hkB
  have hb1 := Blk.new (w.alloc (.cells #[.int .i64 q.err, .int .i64 q.at_, .int .i64 q.start, .int .i64 q.end_, .int .i64 q.member, .int .i64 q.gen, .int .i64 q.leader, .slice a1 n1 p1, .slice a2 n2 p2, .slice a3 n3 p3] 51)) 54 #[.int .i64 0, .int .i64 0, .int .i64 0, .int .i64 0, .int .i64 0, .int .i64 0, .int .i64 0, .slice none 0 0, .slice none 0 0, .slice none 0 0]
  rw [World.size_alloc] at hb1
  have HK := Lib.hid (hkA.trans hkB)
  clear hkA hkB
  simp only [repV, repCells] at *
  go_enter Tryd.func22, Tryd.ntmps22
  go_upto_region 1 with fail
  generalize hW : ((w.alloc (.cells #[.int .i64 q.err, .int .i64 q.at_, .int .i64 q.start, .int .i64 q.end_, .int .i64 q.member, .int .i64 q.gen, .int .i64 q.leader, .slice a1 n1 p1, .slice a2 n2 p2, .slice a3 n3 p3] 51)).alloc (.cells #[.int .i64 0, .int .i64 0, .int .i64 0, .int .i64 0, .int .i64 0, .int .i64 0, .int .i64 0, .slice none 0 0, .slice none 0 0, .slice none 0 0] 54)) = W at *
  clear hW
  have c0 := hb0.cell 0 _ rfl
  have c1 := hb0.cell 1 _ rfl
  have c2 := hb0.cell 2 _ rfl
  have c3 := hb0.cell 3 _ rfl
  have c4 := hb0.cell 4 _ rfl
  have c5 := hb0.cell 5 _ rfl
  have c6 := hb0.cell 6 _ rfl
  have c7 := hb0.cell 7 _ rfl
  have c8 := hb0.cell 8 _ rfl
  have c9 := hb0.cell 9 _ rfl
  have hb1 : Blk W (w.heap.size + 1) 54 (repCells Rep.none (.slice none 0 0) (.slice none 0 0) (.slice none 0 0)) := hb1
  have HTH := Lib.hid (there_rep (q' := q) (x := .slice a1 n1 p1) (y := .slice a2 n2 p2) (z := .slice a3 n3 p3) hb1)
  have HQ2 := Lib.hid (setCells_rep (q' := q) (x := .slice a1 n1 p1) (y := .slice a2 n2 p2) (z := .slice a3 n3 p3) hb1)
  have HLV := Lib.hid (run_loadVar_mid (P := Tryd.prog) _ (w.heap.size + 1) 0 54 (repList q (.slice a1 n1 p1) (.slice a2 n2 p2) (.slice a3 n3 p3)) _ (rng_of_blk HQ2.out) Tryd.underlying54 rfl size_rep)
  clear hb0 hb1
  refine wp_region_lit ?_
  iterate 21
    refine wpList_plain (by rfl) fun _ hK => ?_
    go_simp
    refine hK _ _ ?_
    clear hK
    try simp only [Act.put, List.setIfInBounds_toArray, List.set_cons_zero, List.set_cons_succ]
  refine wpList_store_mid (by rfl) 54 (.tmp 2) (.tmp 23) (by rfl) (w.heap.size + 1) 0 (repCells q (.slice a1 n1 p1) (.slice a2 n2 p2) (.slice a3 n3 p3)) (by rfl) (by rfl) HTH.out size_rep' one_rep ?_
  have HKF := Lib.hid (Keeps.setCells (q := w.heap.size + 1) (Nat.le_succ _) (repCells q (.slice a1 n1 p1) (.slice a2 n2 p2) (.slice a3 n3 p3)).toList 0 HK.out)
  have hlv := HLV.out
  generalize W.setCells (w.heap.size + 1) 0 (repCells q (.slice a1 n1 p1) (.slice a2 n2 p2) (.slice a3 n3 p3)).toList = wf at *
  go_wp2_with fail
  exact bodyPost_ret (v := repV q (.slice a1 n1 p1) (.slice a2 n2 p2) (.slice a3 n3 p3)) (results_cell1 rfl rfl hlv) rfl ⟨rfl, HKF.out⟩
end Go.Proofs.YtgbnpehpfadehaaDoor
