/-
  flotsamref05.Same, SameAll of batches that are the same: the walks.
  The document's Same of filters: the walk, of a filter and itself.
  flotsamref03.Same of two lists of strings that are the same, flotsamref19.number: the walks.
  flotsamref19.Same, SameReply of requests and replies that are the same: the walks.
-/
import Derived.Test.YtgbnpehpfadehaaGreatDoorBs
import Derived.Test.YtgbnpehpfadehaaGreatDoorRs
import Derived.Test.YtgbnpehpfadehaaGreatDoorExFits
import Derived.Test.YtgbnpehpfadehaaGreatDoorViTake
import Derived.Deep.RegionHeld3
import Derived.Test.YtgbnpehpfadehaaGreatDoorCs
import Derived.BigQuiet
import Derived.Test.YtgbnpehpfadehaaGreatDoorCdDec
set_option linter.unusedVariables false
namespace Go.Proofs.YtgbnpehpfadehaaGreatDoor
open Go.RowKit

set_option maxRecDepth 4000 in
set_option maxHeartbeats 3200000 in
theorem bt_same (b : Bat) (v v' : Value) (w : World) (h : RsAt w v b.recs) (h' : RsAt w v' b.recs) (hb : ∀ r ∈ b.recs, r.hdrs.length ≤ 2 ^ 50) :
    Calls Tryz.prog 21 #[batV b v, batV b v'] w fun e w' => e = .returned (.bool true) ∧ Keeps w w' := by
  have HS := fun w' (k : Keeps w w') => rs_same b.recs v v' w' (h.keeps k) (h'.keeps k) hb
  obtain ⟨ad, cap, rfl⟩ := h.form
  obtain ⟨ad', cap', rfl⟩ := h'.form
  simp only [batV]
  have hk0 := ((Keeps.refl w).alloc (.cells #[.int .i64 b.base, .int .i64 b.span, .int .i64 b.prod, .int .i64 b.epoch, .int .i64 b.seq, .slice ad b.recs.length cap] 25)).alloc (.cells #[.int .i64 b.base, .int .i64 b.span, .int .i64 b.prod, .int .i64 b.epoch, .int .i64 b.seq, .slice ad' b.recs.length cap'] 25)
  have HS := Lib.hid HS
  clear h h' hb
  go_enter Tryz.func21, Tryz.ntmps21
  go_wp2_with fail
  refine (HS.out _ hk0).mono ?_
  rintro e w1 ⟨rfl, hk1⟩
  go_wp2_with fail
  go_ret
  exact ⟨rfl, hk0.trans hk1⟩

end Go.Proofs.YtgbnpehpfadehaaGreatDoor

namespace Go.Proofs.YtgbnpehpfadehaaGreatDoor
open Go.RowKit

set_option maxRecDepth 4000 in
set_option maxHeartbeats 800000 in
theorem ref_same1 (k : Nat) : ∀ (t : Tree) (kv kv' : Value) (w : World), k ≤ 100 → t.height ≤ k → KAt w kv t.kids → KAt w kv' t.kids →
    Calls Tryz.prog 52 #[treeV t kv, treeV t kv', .int .i64 k] w fun e w' => e = .returned (.bool true) ∧ Keeps w w' := by
  induction k with
  | zero => intro t kv kv' w _ hh; rw [Tree.height_kids] at hh; omega
  | succ k ih =>
    intro t kv kv' w hk100 hh hk hk'
    rw [Tree.height_kids] at hh
    have HH := Lib.hid (show ∀ x ∈ t.kids, x.height ≤ k from fun x hx => by have := Tree.height_mem hx; omega)
    have HIH := Lib.hid (fun x kv kv' w h => ih x kv kv' w (by omega) h)
    clear ih
    obtain ⟨op, nm, vl, ks⟩ := t
    simp only [Tree.kids, treeV, Tree.op, Tree.name, Tree.value] at hh hk hk' HH ⊢
    obtain ⟨n, hn⟩ : ∃ n, ks.length = n := ⟨_, rfl⟩
    have HNN := Lib.hid hn
    cases hk with
    | mk ad cap l kvs g o hll h0 ha hcs hk =>
    cases hk' with
    | mk ad' cap' l kvs' g' o' hll' h0' ha' hcs' hk' =>
    have HA := Lib.hid ha
    have HC := Lib.hid hcs
    have HK := Lib.hid hk
    have HA' := Lib.hid ha'
    have HC' := Lib.hid hcs'
    have HK' := Lib.hid hk'
    rw [hn] at hll ⊢
    have hne0 : decide (((k + 1 : Nat) : Int) < 1) = false := by simp; omega
    have hsub : ((k + 1 : Nat) : Int) - 1 = (k : Int) := by omega
    obtain ⟨K1, hK1⟩ : ∃ K, ((k + 1 : Nat) : Int) = K := ⟨_, rfl⟩
    have hKb : 0 ≤ K1 ∧ K1 ≤ 101 := by omega
    rw [hK1] at hne0 hsub ⊢
    have HI2 := Lib.hid (show ∀ (x : Tree) (kv kv' : Value) (w : World), x.height ≤ k → KAt w kv x.kids → KAt w kv' x.kids → Calls Tryz.prog 52 #[treeV x kv, treeV x kv', .int .i64 (K1 - 1)] w fun e w' => e = .returned (.bool true) ∧ Keeps w w' by rw [hsub]; exact HIH.out)
    have hKw : IntKind.i64.wrap (K1 - 1) = K1 - 1 := by rw [IntKind.wrap_i64]; omega
    have hKs : K1 - 1 ≤ 9223372036854775807 ∧ -9223372036854775808 ≤ K1 - 1 := by omega
    clear hsub HIH
    have hkw := ((Keeps.refl w).alloc (.cells #[.int .i64 op, .string (str nm), .string (str vl), .slice ad n cap] 28)).alloc (.cells #[.int .i64 op, .string (str nm), .string (str vl), .slice ad' n cap'] 28)
    have hq3 := ((Keeps.refl (w.alloc (.cells #[.int .i64 op, .string (str nm), .string (str vl), .slice ad n cap] 28))).alloc (.cells #[.int .i64 op, .string (str nm), .string (str vl), .slice ad' n cap'] 28)).cell (cell_new w #[.int .i64 op, .string (str nm), .string (str vl), .slice ad n cap] 28 3 _ rfl)
    have hq3' := cell_new2 w (.cells #[.int .i64 op, .string (str nm), .string (str vl), .slice ad n cap] 28) #[.int .i64 op, .string (str nm), .string (str vl), .slice ad' n cap'] 28 3 _ rfl
    clear ha hcs hk hn h0 hk100 hK1 ha' hcs' hk' h0' hll' hh
    go_enter Tryz.func52, Tryz.ntmps52
    go_wp2_with fail
    go_loopw [7] (fun i wr => ∃ j : Nat, j ≤ n ∧ i = .int .i64 j ∧ Keeps ((w.alloc (.cells #[.int .i64 op, .string (str nm), .string (str vl), .slice ad n cap] 28)).alloc (.cells #[.int .i64 op, .string (str nm), .string (str vl), .slice ad' n cap'] 28)) wr) (fun i _ => n - (intOf i).toNat)
    case atStart => exact ⟨0, by omega, rfl, Keeps.refl _⟩
    case round =>
      obtain ⟨j, hj, rfl, hkr1⟩ := hrel
      have hkr := hkw.trans hkr1
      have q3 := hkr1.cell hq3
      have q3' := hkr1.cell hq3'
      by_cases hlt : j < n
      · obtain ⟨x, hx⟩ : ∃ x, ks[j]? = some x := ⟨_, List.getElem?_eq_getElem (by rw [HNN.out]; exact hlt)⟩
        obtain rfl := HA.out (by intro e; rw [e] at hx; simp at hx)
        obtain rfl := HA'.out (by intro e; rw [e] at hx; simp at hx)
        obtain ⟨c0, c1, c2, c3⟩ := HC.out j x hx
        obtain ⟨d0, d1, d2, d3⟩ := HC'.out j x hx
        have c0 := hkr.cell c0
        have c1 := hkr.cell c1
        have c2 := hkr.cell c2
        have c3 := hkr.cell c3
        have d0 := hkr.cell d0
        have d1 := hkr.cell d1
        have d2 := hkr.cell d2
        have d3 := hkr.cell d3
        have hkx := HK.out j x hx
        have hkx' := HK'.out j x hx
        obtain ⟨adx, capx, he⟩ := hkx.form
        obtain ⟨adx', capx', he'⟩ := hkx'.form
        rw [he] at c3 hkx
        rw [he'] at d3 hkx'
        have HKX := Lib.hid hkx
        have HKX' := Lib.hid hkx'
        have HXH := Lib.hid (HH.out x (List.mem_of_getElem? hx))
        clear he he' hkx hkx' hx
        go_wp2_with fail
        go_region_held3 (fun w' => Keeps wr w' ∧ w'.cell? ⟨w.heap.size, 3, none⟩ = some (.slice (some ⟨g, o, none⟩) n cap) ∧ w'.cell? ⟨w.heap.size + 1, 3, none⟩ = some (.slice (some ⟨g', o', none⟩) n cap') ∧ w'.cell? ⟨g, o + j * 4, none⟩ = some (.int .i64 x.op) ∧ w'.cell? ⟨g, o + j * 4 + 1, none⟩ = some (.string (str x.name)) ∧ w'.cell? ⟨g, o + j * 4 + 2, none⟩ = some (.string (str x.value)) ∧ w'.cell? ⟨g, o + j * 4 + 3, none⟩ = some (.slice adx x.kids.length capx) ∧ w'.cell? ⟨g', o' + j * 4, none⟩ = some (.int .i64 x.op) ∧ w'.cell? ⟨g', o' + j * 4 + 1, none⟩ = some (.string (str x.name)) ∧ w'.cell? ⟨g', o' + j * 4 + 2, none⟩ = some (.string (str x.value)) ∧ w'.cell? ⟨g', o' + j * 4 + 3, none⟩ = some (.slice adx' x.kids.length capx')) ((refine (fun hq => ⟨hq, Keeps.cell hq q3, Keeps.cell hq q3', Keeps.cell hq c0, Keeps.cell hq c1, Keeps.cell hq c2, Keeps.cell hq c3, Keeps.cell hq d0, Keeps.cell hq d1, Keeps.cell hq d2, Keeps.cell hq d3⟩) ?_; first | exact (Keeps.refl wr).drew | exact Keeps.trans (And.left ‹Keeps wr _ ∧ _›) (by assumption))) ((go_at_call 52; refine (HI2.out x _ _ _ HXH.out (HKX.out.keeps hkr.drew) (HKX'.out.keeps hkr.drew)).mono ?_; rintro e w' ⟨rfl, hkn⟩))
        have hS := (‹Keeps wr _ ∧ _›).1
        go_wp2_with fail
        exact ⟨⟨j + 1, by omega, by go_num, hkr1.trans hS⟩, by simp [intOf]; omega⟩
      · obtain rfl : j = n := by omega
        go_wp2_with fail
        go_ret
        exact ⟨rfl, hkr⟩

set_option maxRecDepth 4000 in
theorem ex_same (t : Tree) (kv kv' : Value) (w : World) (hh : t.height ≤ 60) (hk : KAt w kv t.kids) (hk' : KAt w kv' t.kids) :
    Calls Tryz.prog 22 #[treeV t kv, treeV t kv'] w fun e w' => e = .returned (.bool true) ∧ Keeps w w' := by
  have HS := Lib.hid (fun w' (h : Keeps w w') => ref_same1 60 t kv kv' w' (by decide) hh (hk.keeps h) (hk'.keeps h))
  have HS2 := Lib.hid (show ∀ w', Keeps w w' → Calls Tryz.prog 52 #[treeV t kv, treeV t kv', .int .i64 60] w' fun e w'' => e = .returned (.bool true) ∧ Keeps w' w'' from HS.out)
  obtain ⟨ad, cap, rfl⟩ := hk.form
  obtain ⟨ad', cap', rfl⟩ := hk'.form
  obtain ⟨op, nm, vl, ks⟩ := t
  simp only [Tree.kids, treeV, Tree.op, Tree.name, Tree.value] at *
  clear hk hk' HS
  go_enter Tryz.func22, Tryz.ntmps22
  go_wp2_with fail
  refine (HS2.out _ (((Keeps.refl w).alloc _).alloc _)).mono ?_
  rintro e w1 ⟨rfl, hk1⟩
  go_wp2_with fail
  go_ret
  exact ⟨rfl, (((Keeps.refl w).alloc _).alloc _).trans hk1⟩
end Go.Proofs.YtgbnpehpfadehaaGreatDoor

namespace Go.Proofs.YtgbnpehpfadehaaGreatDoor
open Go.RowKit

theorem ref_num19 (n : Int) (w : World) :
    Calls Tryz.prog 45 #[.int .i64 n] w fun e w' => e = .returned (.bool (decide (-1 ≤ n ∧ n ≤ 2199023255552))) ∧ Keeps w w' := by
  by_cases h1 : -1 ≤ n
  · by_cases h2 : n ≤ 2199023255552
    · have hd : decide (-1 ≤ n ∧ n ≤ 2199023255552) = true := by simp; omega
      rw [hd]; clear hd
      go_enter Tryz.func45, Tryz.ntmps45
      go_wp2_with fail
      go_ret
      exact ⟨rfl, Keeps.refl _⟩
    · have hd : decide (-1 ≤ n ∧ n ≤ 2199023255552) = false := by simp; omega
      rw [hd]; clear hd
      have h2' : 2199023255552 < n := by omega
      clear h2
      go_enter Tryz.func45, Tryz.ntmps45
      go_wp2_with fail
      go_ret
      exact ⟨by simp; omega, Keeps.refl _⟩
  · have hd : decide (-1 ≤ n ∧ n ≤ 2199023255552) = false := by simp; omega
    rw [hd]; clear hd
    have h1' : n < -1 := by omega
    clear h1
    go_enter Tryz.func45, Tryz.ntmps45
    go_wp2_with fail
    go_ret
    exact ⟨rfl, Keeps.refl _⟩

set_option maxRecDepth 4000 in
set_option maxHeartbeats 1600000 in
theorem ss_same (l : List (List UInt8)) (S S' : Nat → Prop) (v v' : Value) (w : World) (h : Fl 1 tcell S w v l) (h' : Fl 1 tcell S' w v' l) :
    Calls Tryz.prog 23 #[v, v'] w fun e w' => e = .returned (.bool true) ∧ Keeps w w' := by
  obtain ⟨n, hn⟩ : ∃ n, l.length = n := ⟨_, rfl⟩
  obtain ⟨al, capl, rfl, hll, h0l, g, o, hal, hcl⟩ := h
  obtain ⟨al', capl', rfl, -, h0l', g', o', hal', hcl'⟩ := h'
  rw [hn] at hll ⊢
  have HNN := Lib.hid hn
  have HAL := Lib.hid hal
  have HCL := Lib.hid hcl
  have HAL' := Lib.hid hal'
  have HCL' := Lib.hid hcl'
  clear hn h0l hal hcl h0l' hal' hcl'
  go_enter Tryz.func23, Tryz.ntmps23
  go_wp2_with fail
  go_loopw [5] (fun i wr => ∃ j : Nat, j ≤ n ∧ i = .int .i64 j ∧ Keeps w wr) (fun i _ => n - (intOf i).toNat)
  case atStart => exact ⟨0, by omega, rfl, Keeps.refl _⟩
  case round =>
    obtain ⟨j, hj, rfl, hkr⟩ := hrel
    by_cases hlt : j < n
    · obtain ⟨x, hx⟩ : ∃ x, l[j]? = some x := ⟨_, List.getElem?_eq_getElem (by rw [HNN.out]; exact hlt)⟩
      obtain ⟨rfl, -⟩ := HAL.out (by intro e; rw [e] at hx; simp at hx)
      obtain ⟨rfl, -⟩ := HAL'.out (by intro e; rw [e] at hx; simp at hx)
      have c0 : wr.cell? ⟨g, o + j, none⟩ = some (.string (str x)) := by have h := HCL.out j x hx 0 _ rfl; simp only [Nat.mul_one, Nat.add_zero] at h; exact hkr.cell h
      have d0 : wr.cell? ⟨g', o' + j, none⟩ = some (.string (str x)) := by have h := HCL'.out j x hx 0 _ rfl; simp only [Nat.mul_one, Nat.add_zero] at h; exact hkr.cell h
      clear hx
      go_wp2_with fail
      go_quiet (fail)
      go_wp2_with fail
      exact ⟨⟨j + 1, by omega, by go_num, hkr.trans ⟨rfl, rfl, rfl, Nat.le_refl _, fun _ _ => rfl⟩⟩, by simp [intOf]; omega⟩
    · obtain rfl : j = n := by omega
      go_wp2_with fail
      go_ret
      exact ⟨rfl, hkr⟩
end Go.Proofs.YtgbnpehpfadehaaGreatDoor

namespace Go.Proofs.YtgbnpehpfadehaaGreatDoor
open Go.RowKit

theorem Fl.keeps {α : Type} {size : Nat} {f : α → List Value} {S : Nat → Prop} {w w' : World} {v : Value} {l : List α} (hf : ∀ x, ∃ u, (f x)[0]? = some u) (h : Fl size f S w v l) (k : Keeps w w') : Fl size f S w' v l :=
  h.move (fun g hg hlt => ⟨hg, k.block hlt⟩) hf

set_option maxRecDepth 8000 in
set_option maxHeartbeats 3200000 in
theorem req_same (q : Req) (S S' : Nat → Prop) (a b c a' b' c' : Value) (w : World) (h : ReqIn S w q a b c) (h' : ReqIn S' w q a' b' c') (hb : ∀ x ∈ q.bat.recs, x.hdrs.length ≤ 2 ^ 50) (hh : q.filter.height ≤ 60) :
    Calls Tryz.prog 7 #[reqV q a b c, reqV q a' b' c'] w fun e w' => e = .returned (.bool true) ∧ Keeps w w' := by
  have HBS := Lib.hid (fun w' (k : Keeps w w') => bt_same q.bat a a' w' (h.1.at_.keeps k) (h'.1.at_.keeps k) hb)
  have HXS := Lib.hid (fun w' (k : Keeps w w') => ex_same q.filter b b' w' hh (h.2.1.at_.keeps k) (h'.2.1.at_.keeps k))
  have HTS := Lib.hid (fun w' (k : Keeps w w') => ss_same q.topics S S' c c' w' (h.2.2.keeps (fun x => ⟨_, rfl⟩) k) (h'.2.2.keeps (fun x => ⟨_, rfl⟩) k))
  obtain ⟨a1, n1, p1, a2, n2, p2, a3, n3, p3, rfl, rfl, rfl⟩ := h.form
  obtain ⟨a4, n4, p4, a5, n5, p5, a6, n6, p6, rfl, rfl, rfl⟩ := h'.form
  clear h h' hb hh
  obtain ⟨x0, x1, x2, x3, x4, x5, ⟨y0, y1, y2, y3, y4, lr⟩, ⟨z0, z1, z2, lk⟩, x8, x9, x10, lt⟩ := q
  simp only [reqV, reqCells, batV, treeV, Tree.op, Tree.name, Tree.value] at *
  have hkA := (Keeps.refl w).alloc (.cells #[.int .i64 x0, .string (str x1), .int .i64 x2, .int .i64 x3, .int .i64 x4, .bool x5, .int .i64 y0, .int .i64 y1, .int .i64 y2, .int .i64 y3, .int .i64 y4, .slice a1 n1 p1, .int .i64 z0, .string (str z1), .string (str z2), .slice a2 n2 p2, .string (str x8), .int .i64 x9, .int .i64 x10, .slice a3 n3 p3] 35)
  have hkB := (Keeps.refl (w.alloc (.cells #[.int .i64 x0, .string (str x1), .int .i64 x2, .int .i64 x3, .int .i64 x4, .bool x5, .int .i64 y0, .int .i64 y1, .int .i64 y2, .int .i64 y3, .int .i64 y4, .slice a1 n1 p1, .int .i64 z0, .string (str z1), .string (str z2), .slice a2 n2 p2, .string (str x8), .int .i64 x9, .int .i64 x10, .slice a3 n3 p3] 35))).alloc (.cells #[.int .i64 x0, .string (str x1), .int .i64 x2, .int .i64 x3, .int .i64 x4, .bool x5, .int .i64 y0, .int .i64 y1, .int .i64 y2, .int .i64 y3, .int .i64 y4, .slice a4 n4 p4, .int .i64 z0, .string (str z1), .string (str z2), .slice a5 n5 p5, .string (str x8), .int .i64 x9, .int .i64 x10, .slice a6 n6 p6] 35)
  have HB0 := Lib.hid ((Blk.new w 35 #[.int .i64 x0, .string (str x1), .int .i64 x2, .int .i64 x3, .int .i64 x4, .bool x5, .int .i64 y0, .int .i64 y1, .int .i64 y2, .int .i64 y3, .int .i64 y4, .slice a1 n1 p1, .int .i64 z0, .string (str z1), .string (str z2), .slice a2 n2 p2, .string (str x8), .int .i64 x9, .int .i64 x10, .slice a3 n3 p3]).keeps hkB)
  have hb1 := Blk.new (w.alloc (.cells #[.int .i64 x0, .string (str x1), .int .i64 x2, .int .i64 x3, .int .i64 x4, .bool x5, .int .i64 y0, .int .i64 y1, .int .i64 y2, .int .i64 y3, .int .i64 y4, .slice a1 n1 p1, .int .i64 z0, .string (str z1), .string (str z2), .slice a2 n2 p2, .string (str x8), .int .i64 x9, .int .i64 x10, .slice a3 n3 p3] 35)) 35 #[.int .i64 x0, .string (str x1), .int .i64 x2, .int .i64 x3, .int .i64 x4, .bool x5, .int .i64 y0, .int .i64 y1, .int .i64 y2, .int .i64 y3, .int .i64 y4, .slice a4 n4 p4, .int .i64 z0, .string (str z1), .string (str z2), .slice a5 n5 p5, .string (str x8), .int .i64 x9, .int .i64 x10, .slice a6 n6 p6]
  rw [World.size_alloc] at hb1
  have HB1 := Lib.hid hb1
  have HK := Lib.hid (hkA.trans hkB)
  clear hkA hkB hb1
  go_enter Tryz.func7, Tryz.ntmps7
  go_wp2_with fail
  refine (HBS.out _ HK.out).mono ?_
  rintro e w1 ⟨rfl, hk1⟩
  have q0 := (HB0.out.keeps hk1).cell 12 _ rfl
  have q1 := (HB0.out.keeps hk1).cell 13 _ rfl
  have q2 := (HB0.out.keeps hk1).cell 14 _ rfl
  have q3 := (HB0.out.keeps hk1).cell 15 _ rfl
  have q4 := (HB1.out.keeps hk1).cell 12 _ rfl
  have q5 := (HB1.out.keeps hk1).cell 13 _ rfl
  have q6 := (HB1.out.keeps hk1).cell 14 _ rfl
  have q7 := (HB1.out.keeps hk1).cell 15 _ rfl
  go_wp2_with fail
  refine (HXS.out _ (HK.out.trans hk1)).mono ?_
  rintro e w2 ⟨rfl, hk2⟩
  have hk2 := hk1.trans hk2
  have q0 := (HB0.out.keeps hk2).cell 16 _ rfl
  have q1 := (HB0.out.keeps hk2).cell 17 _ rfl
  have q2 := (HB0.out.keeps hk2).cell 18 _ rfl
  have q3 := (HB0.out.keeps hk2).cell 19 _ rfl
  have q4 := (HB1.out.keeps hk2).cell 16 _ rfl
  have q5 := (HB1.out.keeps hk2).cell 17 _ rfl
  have q6 := (HB1.out.keeps hk2).cell 18 _ rfl
  have q7 := (HB1.out.keeps hk2).cell 19 _ rfl
  go_wp2_with fail
  refine (HTS.out _ (HK.out.trans hk2)).mono ?_
  rintro e w3 ⟨rfl, hk3⟩
  go_wp2_with fail
  go_ret
  exact ⟨rfl, HK.out.trans (hk2.trans hk3)⟩
end Go.Proofs.YtgbnpehpfadehaaGreatDoor
