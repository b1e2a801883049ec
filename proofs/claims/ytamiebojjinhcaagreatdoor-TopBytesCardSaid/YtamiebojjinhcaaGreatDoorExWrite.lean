/-
  expr.write, expr.Print: the walks.
-/
import Derived.Test.YtamiebojjinhcaaGreatDoorExRefC
import Derived.Test.YtamiebojjinhcaaGreatDoorExFits
import Derived.Test.YtamiebojjinhcaaGreatDoorViTake
set_option linter.unusedVariables false
namespace Go.Proofs.YtamiebojjinhcaaGreatDoor
open Go.RowKit

namespace Tree
theorem headb_len {t : Tree} (h : t.fits = true) : (headb t).length ≤ 2022 := by
  obtain ⟨ho, hn, hv, hk⟩ := fits_bd h
  obtain ⟨o, n, v, ks⟩ := t
  have h1 := Vi.text_le hn
  have h2 := Vi.text_le hv
  simp only [headb, name, value] at *
  split <;> (try split) <;> (try split) <;> (simp; try omega)
theorem bytes_len : ∀ (k : Nat) (t : Tree), allp k t = true → t.bytes.length ≤ 2022 * t.size
  | 0, t, h => by simp [allp] at h
  | k + 1, t, h => by
    simp only [allp, Bool.and_eq_true] at h
    have h1 := headb_len h.1
    have h2 : ∀ l : List Tree, l.all (allp k) = true → (bytess l).length ≤ 2022 * sizes l := by
      intro l
      induction l with
      | nil => intro _; simp [bytess]
      | cons x l ih =>
        intro hl
        simp only [List.all_cons, Bool.and_eq_true] at hl
        have := bytes_len k x hl.1
        have := ih hl.2
        simp [bytess, sizes]; omega
    have := h2 t.kids h.2
    rw [bytes_kids, size_kids]
    simp; omega
theorem bytess_take {l : List Tree} {j : Nat} {x : Tree} (h : l[j]? = some x) : bytess (l.take j) ++ x.bytes = bytess (l.take (j + 1)) := by
  rw [List.take_add_one, h, Option.toList, bytess_append]; simp [bytess]
theorem bytess_le {l : List Tree} {j : Nat} {x : Tree} (h : l[j]? = some x) : (bytess (l.take j)).length + x.bytes.length ≤ (bytess l).length := by
  have e := bytess_append (l.take (j + 1)) (l.drop (j + 1))
  rw [List.take_append_drop, ← bytess_take h] at e
  rw [e]; simp
end Tree

/-- a row of bytes that is written, beside a block of cells -/
structure WB (w0 : World) (q : Nat) (t : TypeId) (cs : Array Value) (v : Value) (l : List UInt8) (w : World) : Prop where
  buf : Buf w w0.heap.size v l
  keeps : Keeps w0 w
  blk : Blk w q t cs
  ne : ∀ g, v.ownBlock = some g → g ≠ q ∧ g < w.heap.size
theorem WB.on {w0 w w' : World} {q : Nat} {t : TypeId} {cs : Array Value} {v : Value} {l : List UInt8} (h : WB w0 q t cs v l w) (k : Keeps w w') : WB w0 q t cs v l w' :=
  ⟨h.buf.keeps k, h.keeps.trans k, h.blk.keeps k, fun g hg => ⟨(h.ne g hg).1, Nat.lt_of_lt_of_le (h.ne g hg).2 k.size⟩⟩
theorem Buf.lt {w : World} {base : Nat} {v : Value} {l : List UInt8} (h : Buf w base v l) (hl : l ≠ []) (g : Nat) (hg : v.ownBlock = some g) : g < w.heap.size ∧ ∃ b, w.cell? ⟨g, 0, none⟩ = some (bv b) := by
  have hn : 0 < l.length := List.length_pos_iff.2 hl
  obtain ⟨g', cap, rfl, _, hlt, _⟩ := Own.form h (by decide) hn
  simp [Value.ownBlock] at hg
  subst hg
  exact ⟨hlt, _, Buf.get h 0 hn⟩
theorem WB.grown {w0 w w' : World} {q : Nat} {t : TypeId} {cs : Array Value} {v v' : Value} {l l' : List UInt8} (h : WB w0 q t cs v l w) (x : Int) (hc : cs[0]? = some (.int .i64 x)) (hl' : l' ≠ []) (hb : Buf w' w0.heap.size v' l') (g : w.grownBy w' v.ownBlock) : WB w0 q t cs v' l' w' := by
  have hbl := h.blk.grown g (fun e => (h.ne q e.symm).1 rfl)
  refine ⟨hb, h.keeps.grown g (Own.base h.buf), hbl, fun k hk => ?_⟩
  obtain ⟨h1, b, h2⟩ := hb.lt hl' k hk
  refine ⟨fun e => ?_, h1⟩
  subst e
  rw [hbl.cell 0 _ hc] at h2
  cases h2

theorem WB.four {w0 w : World} {q : Nat} {t : TypeId} {a0 a1 a2 a3 : Value} {v : Value} {l : List UInt8} (h : WB w0 q t #[a0, a1, a2, a3] v l w) : w.cell? ⟨q, 0, none⟩ = some a0 ∧ w.cell? ⟨q, 1, none⟩ = some a1 ∧ w.cell? ⟨q, 2, none⟩ = some a2 ∧ w.cell? ⟨q, 3, none⟩ = some a3 :=
  ⟨h.blk.cell 0 _ rfl, h.blk.cell 1 _ rfl, h.blk.cell 2 _ rfl, h.blk.cell 3 _ rfl⟩
theorem wpList_wb_byte {P : Program} {w0 W : World} {q : Nat} {t : TypeId} {cs : Array Value} {v : Value} {l : List UInt8} {ops : Array Oper} {rest : List Oper} {o : Oper} {a : Act} {Q : Exit → Act → World → Prop} (hgd : o.guard = none) (s x : Operand) (ts : TypeId)
    (ho : o.op = .call { callee := .builtin .append, args := #[s, x], argTypes := #[ts, ts] })
    (e : TypeId) (i : TypeInfo) (hte : P.underlying ts = some (.slice e)) (hi : P.info? e = some i) (hz : i.zero = some (.int .u8 0)) (hsize : i.size = 1) (hby : i.bytes = 1)
    (hs : a.eval s = v) (hW : WB w0 q t cs v l W) (x0 : Int) (hc0 : cs[0]? = some (.int .i64 x0)) (tt : TypeId) (u : Value) (c : Nat) (d : Nat) (hx : a.eval x = .slice (some ⟨d, 0, none⟩) 1 c) (hd : d = W.heap.size) (b : UInt8) (hu : bv b = u)
    (hlen : l.length + 1 ≤ 140737488355328)
    (h : ∀ v' w', WB w0 q t cs v' (l ++ [b]) w' → wpList P ops Q rest (a.put o.dst v') w') : wpList P ops Q (o :: rest) a (W.alloc (.cells #[u] tt)) := by
  subst hu hd
  have hW1 := hW.on ((Keeps.refl _).alloc (.cells #[bv b] tt))
  exact wpList_append_byte _ hgd s x ts ho w0.heap.size e i hte hi hz hsize hby v l hs hW1.buf _ c b hx (cell_new W _ tt 0 _ rfl) hlen hW1.keeps.size
    (fun v' w' hb hg => h v' w' (hW1.grown x0 hc0 (by simp) hb hg))
theorem wpList_wb_text {P : Program} {w0 W : World} {q : Nat} {t : TypeId} {cs : Array Value} {v : Value} {l : List UInt8} {ops : Array Oper} {rest : List Oper} {o : Oper} {a : Act} {Q : Exit → Act → World → Prop} (hgd : o.guard = none) (s x : Operand) (ts xt : TypeId)
    (ho : o.op = .call { callee := .builtin .append, args := #[s, x], argTypes := #[ts, xt] })
    (e : TypeId) (i : TypeInfo) (hte : P.underlying ts = some (.slice e)) (hxt : P.underlying xt = some .string) (hi : P.info? e = some i) (hz : i.zero = some (.int .u8 0)) (hsize : i.size = 1) (hby : i.bytes = 1)
    (hs : a.eval s = v) (hW : WB w0 q t cs v l W) (hl : l ≠ []) (x0 : Int) (hc0 : cs[0]? = some (.int .i64 x0)) (k : List UInt8) (hx : a.eval x = .string (str k))
    (hlen : l.length + k.length ≤ 140737488355328)
    (h : ∀ v' w', WB w0 q t cs v' (l ++ k) w' → wpList P ops Q rest (a.put o.dst v') w') : wpList P ops Q (o :: rest) a W := by
  refine wpList_append_any _ hgd s x ts xt ho w0.heap.size e i (.int .u8 0) 1 1 hte ⟨_, hxt, fun _ h => by cases h⟩ hi hz hsize hby rfl (by decide) v l.length (l.map bv) hs hW.buf _ (str k).size ((str k).data.toList.map bv) hx (Feeds.text (str k)) (by rw [str_size]; simp only [maxLen]; omega) (by rw [str_size]; omega) hW.keeps.size
    (fun v' w' hb hg => h v' w' (hW.grown x0 hc0 (by simp [hl]) ?_ hg))
  unfold Buf
  rw [str_size, str_list] at hb
  simpa using hb

set_option maxRecDepth 4000 in
set_option maxHeartbeats 6400000 in
theorem ex_write (k : Nat) : ∀ (t : Tree) (kv : Value) (w0 w : World) (v : Value) (l : List UInt8), Tree.allp k t = true → KAt w0 kv t.kids → Keeps w0 w → Buf w w0.heap.size v l → (∀ g, v.ownBlock = some g → g < w.heap.size) → l.length + t.bytes.length ≤ 1099511627776 →
    Calls Tryz.prog 97 #[v, treeV t kv] w fun e w' => ∃ v', e = .returned v' ∧ Buf w' w0.heap.size v' (l ++ t.bytes) ∧ Keeps w0 w' := by
  obtain ⟨i0, hi, hz0, hz1, hz2⟩ := info_parts info_u8
  induction k with
  | zero => intro t kv w0 w v l h; simp [Tree.allp] at h
  | succ k ih =>
    intro t kv w0 w v l hall hk hkw hb hv hlen
    have hsp := hkw.size
    simp only [Tree.allp, Bool.and_eq_true] at hall
    obtain ⟨hop, hnl, hvl, hkl⟩ := Tree.fits_bd hall.1
    rw [Tree.bytes_kids] at hlen ⊢
    have HALL := Lib.hid (show ∀ (j : Nat) x, t.kids[j]? = some x → Tree.allp k x = true from fun j x hx => List.all_eq_true.1 hall.2 x (List.mem_of_getElem? hx))
    have hne0 : Tree.headb t ≠ [] := by cases t; simp [Tree.headb]
    have hpos : 0 < (Tree.headb t).length := List.length_pos_iff.2 hne0
    obtain ⟨op, nm, vl, ks⟩ := t
    simp only [Tree.kids, treeV, Tree.op, Tree.name, Tree.value] at *
    obtain ⟨n, hn⟩ : ∃ n, ks.length = n := ⟨_, rfl⟩
    have HNN := Lib.hid hn
    have HNL := Lib.hid hnl
    have HVL := Lib.hid hvl
    have HN1 := Vi.text_le hnl
    have HV1 := Vi.text_le hvl
    obtain ⟨X, hX⟩ : ∃ X, Tree.headb (.node op nm vl ks) = X := ⟨_, rfl⟩
    have HX := Lib.hid hX
    rw [hX] at hlen hpos ⊢
    have HL0 := Lib.hid (show l.length ≤ 1099511627776 ∧ (Vi.text nm).length ≤ 1010 ∧ (Vi.text vl).length ≤ 1010 by omega)
    have HLL := Lib.hid hlen
    have HP := Lib.hid hpos
    cases hk with
    | mk ad cap l' kvs g o hll h0 ha hcs hk =>
    have HA := Lib.hid ha
    have HC := Lib.hid hcs
    have HK := Lib.hid hk
    have HIH := Lib.hid ih
    rw [hn] at hll ⊢
    have hW0 : WB w0 w.heap.size 27 #[.int .i64 op, .string (str nm), .string (str vl), .slice ad n cap] v l (w.alloc (.cells #[.int .i64 op, .string (str nm), .string (str vl), .slice ad n cap] 27)) :=
      ⟨hb.keeps ((Keeps.refl _).alloc _), hkw.alloc _, Blk.new w _ _, fun g hg => ⟨by have := hv g hg; omega, by have := hv g hg; rw [World.size_alloc]; omega⟩⟩
    have HB0 : bv (Tree.b1 0) = .int .u8 0 := bv_ofNat 0 (by decide)
    have HB1 : bv (Tree.b1 1) = .int .u8 1 := bv_ofNat 1 (by decide)
    have HB2 : bv (Tree.b1 2) = .int .u8 2 := bv_ofNat 2 (by decide)
    have HB3 : bv (Tree.b1 3) = .int .u8 3 := bv_ofNat 3 (by decide)
    have HB4 : bv (Tree.b1 4) = .int .u8 4 := bv_ofNat 4 (by decide)
    have HB5 : bv (Tree.b1 5) = .int .u8 5 := bv_ofNat 5 (by decide)
    have HB6 : bv (Tree.b1 6) = .int .u8 6 := bv_ofNat 6 (by decide)
    have HB7 : bv (Tree.b1 7) = .int .u8 7 := bv_ofNat 7 (by decide)
    have HBN : bv (Tree.b1 n) = .int .u8 ((n : Int) % 256) := by rw [show (n : Int) % 256 = (n : Int) by omega]; exact bv_ofNat n (by omega)
    clear ha hcs hk ih h0 hX hlen hpos hn hnl hvl hkl hkw hb hv HN1 HV1 hall hne0
    rcases hop with rfl | rfl | rfl | rfl | rfl | rfl | rfl | rfl
    all_goals
      go_enter Tryz.func97, Tryz.ntmps97
      go_wp2_with (first
        | (at_builtin; (refine wpList_wb_byte rfl _ _ 113 rfl 5 i0 Tryz.underlying113 hi hz0 hz1 hz2 rfl (by assumption) _ rfl _ _ _ _ rfl (by simp) _ (by assumption) (by have := HL0.out; simp; omega) ?_); intro v' w' hW'; obtain ⟨q0, q1, q2, q3⟩ := hW'.four)
        | (at_builtin; refine wpList_wb_text rfl _ _ 113 9 rfl 5 i0 Tryz.underlying113 Tryz.underlying9 hi hz0 hz1 hz2 rfl (by assumption) (by simp) _ rfl _ rfl (by have := HL0.out; simp; omega) ?_; intro v' w' hW'; obtain ⟨q0, q1, q2, q3⟩ := hW'.four)
        | (go_at_call 69; (first | refine (text_len _ HNL.out _).mono ?_ | refine (text_len _ HVL.out _).mono ?_); rintro e w' ⟨rfl, hkn⟩; have hW' := WB.on (by assumption) hkn; obtain ⟨q0, q1, q2, q3⟩ := hW'.four))
      have hB1 : Buf w' w0.heap.size v' (l ++ X) := by have h := hW'.buf; rw [← HX.out]; simpa [Tree.headb, HNN.out] using h
      have hk1 := hW'.keeps
      clear hW' hW0 q0 q1 q2 q3 HB0 HB1 HB2 HB3 HB4 HB5 HB6 HB7 HBN
      go_loopw [0, 47] (fun b i wr => ∃ j : Nat, j ≤ n ∧ i = .int .i64 j ∧ Buf wr w0.heap.size b (l ++ X ++ Tree.bytess (ks.take j)) ∧ Keeps w0 wr) (fun _ i _ => n - (intOf i).toNat)
      case atStart => exact ⟨0, by omega, rfl, by simpa [Tree.bytess] using hB1, hk1⟩
      case round =>
        obtain ⟨j, hj, rfl, hB, hkr⟩ := hrel
        by_cases hlt : j < n
        · obtain ⟨x, hx⟩ : ∃ x, ks[j]? = some x := ⟨_, List.getElem?_eq_getElem (by rw [HNN.out]; exact hlt)⟩
          obtain rfl := HA.out (by intro e; rw [e] at hx; simp at hx)
          obtain ⟨c0, c1, c2, c3⟩ := HC.out j x hx
          have c0 := hkr.cell c0
          have c1 := hkr.cell c1
          have c2 := hkr.cell c2
          have c3 := hkr.cell c3
          have hkx := HK.out j x hx
          obtain ⟨ad', cap', he'⟩ := hkx.form
          rw [he'] at c3 hkx
          have HKX := Lib.hid hkx
          have HX2 := Lib.hid hx
          have HBB := Lib.hid hB
          have HLE := Lib.hid (show (l ++ X ++ Tree.bytess (ks.take j)).length + x.bytes.length ≤ 1099511627776 by have := Tree.bytess_le hx; have := HLL.out; simp only [List.length_append] at *; omega)
          have HNE := Lib.hid (show l ++ X ++ Tree.bytess (ks.take j) ≠ [] by have := HP.out; intro e; have := congrArg List.length e; simp at this; simp_all)
          clear he' hkx hx hB
          have hal := (Keeps.refl wr).alloc (.cells #[.int .i64 x.op, .string (str x.name), .string (str x.value), .slice ad' x.kids.length cap'] 27)
          go_wp2_with fail
          refine (HIH.out x _ w0 _ _ _ (HALL.out j x HX2.out) HKX.out (hkr.trans hal) (HBB.out.keeps hal) (fun g hg => Nat.lt_of_lt_of_le (HBB.out.lt HNE.out g hg).1 hal.size) HLE.out).mono ?_
          rintro e w2 ⟨v2, rfl, hB2, hk2⟩
          go_wp2_with fail
          exact ⟨⟨j + 1, by omega, by go_num, by (rw [← Tree.bytess_take HX2.out, ← List.append_assoc]; exact hB2), hk2⟩, by simp [intOf]; omega⟩
        · obtain rfl : j = n := by omega
          have hfin := hB
          rw [List.take_of_length_le (by rw [HNN.out]; omega), List.append_assoc] at hfin
          go_wp2_with fail
          go_ret
          exact ⟨_, rfl, hfin, hkr⟩

set_option maxRecDepth 4000 in
set_option maxHeartbeats 1600000 in
theorem ex_print (t : Tree) (kv : Value) (w : World) (hk : KAt w kv t.kids) :
    Calls Tryz.prog 73 #[treeV t kv] w fun e w' => e = retS t.print ∧ Keeps w w' := by
  have HCK := Lib.hid (fun w' (h : Keeps w w') => ex_check t kv w' (hk.keeps h))
  have HWR := Lib.hid (fun (ho : t.ok = true) w' (h : Keeps w w') => ex_write 6 t kv w w' (.slice none 0 0) [] (by simp only [Tree.ok, Bool.and_eq_true] at ho; exact ho.2) hk h (Buf.nil _ _) (fun g hg => by simp [Value.ownBlock] at hg)
    (by simp only [Tree.ok, Bool.and_eq_true, decide_eq_true_eq] at ho; have := Tree.bytes_len 6 t ho.2; simp; omega))
  have HP := Lib.hid (show t.print = if t.ok then (t.bytes, 0) else ([], 1) from rfl)
  have HC := Lib.hid (show t.check = if t.ok then 0 else 1 from rfl)
  rw [HP.out]
  rw [HC.out] at HCK
  obtain ⟨ok, hok⟩ : ∃ b, t.ok = b := ⟨_, rfl⟩
  obtain ⟨B, hB⟩ : ∃ b, t.bytes = b := ⟨_, rfl⟩
  rw [hok] at HCK HWR ⊢
  rw [hB] at HWR ⊢
  obtain ⟨ad, cap, rfl⟩ := hk.form
  obtain ⟨op, nm, vl, ks⟩ := t
  simp only [Tree.kids, treeV, Tree.op, Tree.name, Tree.value] at *
  clear hk hok hB HP HC
  cases ok
  · go_enter Tryz.func73, Tryz.ntmps73
    go_wp2_with fail
    refine (HCK.out _ ((Keeps.refl w).alloc _)).mono ?_
    rintro e w1 ⟨rfl, hk1⟩
    go_wp2_with fail
    go_ret2
    exact ⟨rfl, ((Keeps.refl w).alloc _).trans hk1⟩
  · have HW2 := Lib.hid (fun w' h => HWR.out rfl w' h)
    clear HWR
    go_enter Tryz.func73, Tryz.ntmps73
    go_wp2_with fail
    refine (HCK.out _ ((Keeps.refl w).alloc _)).mono ?_
    rintro e w1 ⟨rfl, hk1⟩
    have hb := (Blk.new w 27 #[.int .i64 op, .string (str nm), .string (str vl), .slice ad ks.length cap]).keeps hk1
    have hb0 := hb.cell 0 _ rfl
    have hb1 := hb.cell 1 _ rfl
    have hb2 := hb.cell 2 _ rfl
    have hb3 := hb.cell 3 _ rfl
    have hk1 := ((Keeps.refl w).alloc (.cells #[.int .i64 op, .string (str nm), .string (str vl), .slice ad ks.length cap] 27)).trans hk1
    go_wp2_with fail
    refine (HW2.out _ hk1).mono ?_
    rintro e w2 ⟨v2, rfl, hB2, hk2⟩
    have hconv := Buf.text (P := Tryz.prog) hB2 113 9 5 Tryz.underlying113 Tryz.underlying5 Tryz.underlying9
    clear hB2
    go_simp
    go_wp2_with fail
    go_ret2
    exact ⟨rfl, hk2⟩
end Go.Proofs.YtamiebojjinhcaaGreatDoor
