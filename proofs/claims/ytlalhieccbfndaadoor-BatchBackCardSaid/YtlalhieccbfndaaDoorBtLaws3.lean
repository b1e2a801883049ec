/-
  Batch's law on batches there and back: the walk.
-/
import Derived.Test.YtlalhieccbfndaaDoorBtLaws2
set_option linter.unusedVariables false
namespace Go.Proofs.YtlalhieccbfndaaDoor
open Go.RowKit
attribute [local go_sem ↓] Go.wp_at_zero Go.wp_at_succ

namespace Bat
def lastLen (bs : List Bat) : Nat := match bs.getLast? with
  | some b => b.bytes.length
  | Option.none => 0
theorem lastLen_snoc (bs : List Bat) (b : Bat) : lastLen (bs ++ [b]) = b.bytes.length := by simp [lastLen]
theorem row_len : ∀ (bs : List Bat), (∀ b ∈ bs, b.ok = true) → (row bs).length ≤ bs.length * 60008
  | [], _ => by simp [row]
  | b :: bs, h => by
    have ih := row_len bs (fun x hx => h x (by simp [hx]))
    have := (ok_of (h b (by simp))).2.2
    rw [row_cons, List.length_append, bytes_length, List.length_cons]; omega
theorem row_one (b : Bat) : row [b] = b.bytes := by simp [row]
end Bat
theorem tmod_small {C : Int} {k : Nat} (h0 : 0 ≤ C) (hk : 0 < k) : ∃ r : Nat, C.tmod (k : Int) = (r : Int) ∧ r < k := by
  have h1 := Int.tmod_nonneg (k : Int) h0
  have h2 := Int.tmod_lt_of_pos C (show (0 : Int) < (k : Int) by omega)
  exact ⟨(C.tmod (k : Int)).toNat, by omega, by omega⟩
theorem w64 {n : Int} (h0 : -9223372036854775808 ≤ n) (h1 : n ≤ 9223372036854775807) : wrap64 n = n := by unfold wrap64; omega
theorem back_wraps {X last r K R : Nat} (h1 : X ≤ 480064) (h2 : X = R + last) (h3 : r < last) (h4 : R + (last - 1 - r) = K) : wrap64 (1 + (r : Int)) = 1 + (r : Int) ∧ wrap64 ((X : Int) - (1 + (r : Int))) = (K : Int) ∧ wrap64 ((X : Int) - (last : Int)) = (R : Int) :=
  ⟨w64 (by omega) (by omega), (w64 (by omega) (by omega)).trans (by omega), (w64 (by omega) (by omega)).trans (by omega)⟩
theorem back_len {d : Nat} (h : d ≤ 8) (h0 : 0 < d) : wrap64 ((d : Int) - 1) = ((d - 1 : Nat) : Int) := (w64 (by omega) (by omega)).trans (by omega)
/-- where the law's loop stands -/
structure BK (w : World) (dl : List (Bat × Value)) (X : List UInt8) (last : Nat) (vo : Value) (wr : World) : Prop where
  sk : SK w w.heap.size dl vo wr
  row : Bat.row (dl.map (·.1)) = X
  last : Bat.lastLen (dl.map (·.1)) = last
  ok : ∀ b ∈ dl.map (·.1), b.ok = true

set_option maxRecDepth 4000 in
set_option maxHeartbeats 16000000 in
theorem law_back (l : List Bat) (lv : Value) (cut : Int) (hcut : -9223372036854775808 ≤ cut ∧ cut ≤ 9223372036854775807) (w : World) (hbs : BsAt w lv l) (ht : Tab w) :
    Calls Tryd.prog 6 #[lv, .int .i64 cut] w fun e w' => e = .returned (.bool true) ∧ Keeps w w' := by
  obtain ⟨i0, hi, hz0, hz1, hz2⟩ := info_parts info_bat
  have hsz := str_size
  have HL := Lib.hid (fun w ht => bt_live w ht)
  have HT := Lib.hid ht
  obtain ⟨n, hn⟩ : ∃ n, l.length = n := ⟨_, rfl⟩
  obtain ⟨ad, cap, rfl, hll, -, g, o, lvs, hal, hcl⟩ := hbs
  rw [hn] at hll ⊢
  have HNN := Lib.hid hn
  have HAL := Lib.hid hal
  have HCL := Lib.hid hcl
  clear ht hn hal hcl
  by_cases h8 : 8 < n
  · go_enter Tryd.func6, Tryd.ntmps6
    go_wp2_with fail
    refine (HL.out _ HT.out).mono ?_
    rintro e w1 ⟨rfl, hk1⟩
    go_wp2_with fail
    go_ret
    exact ⟨rfl, hk1⟩
  have hn8 : n ≤ 8 := by omega
  have hap := str_append
  have HC := Lib.hid hcut
  clear hcut
  go_enter Tryd.func6, Tryd.ntmps6
  go_wp2_with fail
  go_loopw [5, 6, 7, 8] (fun s la vo i wr => ∃ (j : Nat) (dl : List (Bat × Value)) (X : List UInt8) (last : Nat), j ≤ n ∧ i = .int .i64 j ∧ s = .string (str X) ∧ la = .int .i64 (last : Nat) ∧ dl.length ≤ j ∧ BK w dl X last vo wr) (fun _ _ _ i _ => n - (intOf i).toNat)
  case atStart => exact ⟨0, [], [], 0, by omega, rfl, rfl, rfl, by simp, ⟨SK.start (Keeps.refl _) (Nat.le_refl _) (Nat.le_refl _), rfl, rfl, fun b hb => by simp at hb⟩⟩
  case round =>
    obtain ⟨j, dl, X, last, hj, rfl, rfl, rfl, hdj, hbk⟩ := hrel
    obtain ⟨ao, capo, rfl, hcapo⟩ := hbk.sk.own.slice
    have hkr := hbk.sk.keeps
    have hXl : X.length ≤ 480064 := by have := Bat.row_len _ hbk.ok; rw [hbk.row, List.length_map] at this; omega
    have HBK := Lib.hid hbk
    have HDJ := Lib.hid hdj
    have HDL := Lib.hid (show dl.length ≤ 8 by omega)
    clear hbk hdj
    by_cases hlt : j < n
    · obtain ⟨b, hx⟩ : ∃ x, l[j]? = some x := ⟨_, List.getElem?_eq_getElem (by rw [HNN.out]; exact hlt)⟩
      obtain rfl := HAL.out (by intro e; rw [e] at hx; simp at hx)
      obtain ⟨hrc, hrp⟩ := HCL.out j b hx
      obtain ⟨lv, hvd⟩ : ∃ v, lvs j = v := ⟨_, rfl⟩
      rw [hvd] at hrc hrp
      obtain ⟨adb, capb, rfl⟩ := hrp.form
      obtain ⟨c0, c1, c2, c3, c4, c5⟩ := hrc.of (fun _ _ => hkr.cell)
      have SM := Lib.hid (bt_small b _ wr (hrp.keeps hkr))
      have EN := fun w' (k : Keeps wr w') => bt_encode b _ w' (hrp.keeps (hkr.trans k)) (HT.out.keeps (hkr.trans k))
      simp only [batV] at SM EN
      have HRP := Lib.hid hrp
      clear hrp hrc hx hvd
      go_wp2_with fail
      refine SM.out.mono ?_
      rintro e w1 ⟨c, rfl, -, hk1⟩
      have c0 := hk1.cell c0; have c1 := hk1.cell c1; have c2 := hk1.cell c2; have c3 := hk1.cell c3; have c4 := hk1.cell c4; have c5 := hk1.cell c5
      cases c
      · have EN := Lib.hid EN
        go_wp2_with fail
        refine (HL.out _ (HT.out.keeps (hkr.trans hk1))).mono ?_
        rintro e w2 ⟨rfl, hk2⟩
        go_wp2_with fail
        go_ret
        exact ⟨rfl, (hkr.trans hk1).trans hk2⟩
      · cases hok : b.ok
        · have EN := Lib.hid (EN w1 hk1)
          rw [show b.enc = ([], 1) by unfold Bat.enc; rw [hok]; rfl] at EN
          simp only [retS] at EN
          clear hok
          go_wp2_with fail
          refine EN.out.mono ?_
          rintro e w2 ⟨rfl, hk2⟩
          have hk2 := hk1.trans hk2
          go_wp2_with fail
          exact ⟨⟨j + 1, dl, X, last, by omega, by go_num, rfl, rfl, by have := HDJ.out; omega, ⟨HBK.out.sk.step hk2, HBK.out.row, HBK.out.last, HBK.out.ok⟩⟩, by simp [intOf]; omega⟩
        · have EN := Lib.hid (EN w1 hk1)
          rw [show b.enc = (b.bytes, 0) by unfold Bat.enc; rw [hok]; rfl] at EN
          simp only [retS] at EN
          have hbl : b.bytes.length ≤ 60008 := by have := (Bat.ok_of hok).2.2; rw [Bat.bytes_length]; omega
          obtain ⟨B, hB⟩ : ∃ B, b.bytes = B := ⟨_, rfl⟩
          rw [hB] at EN hbl
          have HOK := Lib.hid hok
          have HB := Lib.hid hB
          have hcat : ¬ 9223372036854775807 < X.length + B.length := by omega
          have HRD := Lib.hid (show Bat.row ((dl ++ [(b, Value.slice adb b.recs.length capb)]).map (fun x : Bat × Value => x.1)) = X ++ B by rw [List.map_append, Bat.row_append, HBK.out.row, List.map_cons, List.map_nil, Bat.row_one, hB])
          clear hok hB
          go_wp2_with fail
          refine EN.out.mono ?_
          rintro e w2 ⟨rfl, hk2⟩
          have c0 := hk2.cell c0; have c1 := hk2.cell c1; have c2 := hk2.cell c2; have c3 := hk2.cell c3; have c4 := hk2.cell c4; have c5 := hk2.cell c5
          have hk2 := hk1.trans hk2
          have hfd := Lib.hid (Feeds.new6 (P := Tryd.prog) w2 24 [.int .i64 b.base, .int .i64 b.span, .int .i64 b.prod, .int .i64 b.epoch, .int .i64 b.seq, .slice adb b.recs.length capb] rfl (by intro u hu; simp at hu; rcases hu with rfl | rfl | rfl | rfl | rfl | rfl <;> rfl) 1)
          have hk3 := hk2.alloc (.cells #[.int .i64 b.base, .int .i64 b.span, .int .i64 b.prod, .int .i64 b.epoch, .int .i64 b.seq, .slice adb b.recs.length capb] 24)
          have hsk2 := Lib.hid (HBK.out.sk.step hk3)
          have hrs2 := Lib.hid ((HRP.out.in_.keeps (hkr.trans hk3)).mono (T := fun k => (Value.slice ao dl.length capo).ownBlock ≠ some k) (fun k hk e => by have := HBK.out.sk.own.base k e; omega))
          have hb0 := Lib.hid hsk2.out.lt
          clear hk3
          go_wp2_with (at_builtin; refine wpList_append_new _ rfl _ _ 36 36 rfl w.heap.size 24 i0 (.agg #[.int .i64 0, .int .i64 0, .int .i64 0, .int .i64 0, .int .i64 0, .slice none 0 0]) 6 64 Tryd.underlying36 ⟨_, Tryd.underlying36, fun _ h => by cases h⟩ hi hz0 hz1 hz2 rfl (by decide) (.slice ao dl.length capo) dl.length (bcellsL dl) rfl hsk2.out.own (.slice (some ⟨w2.heap.size, 0, none⟩) 1 1) 1 [.int .i64 b.base, .int .i64 b.span, .int .i64 b.prod, .int .i64 b.epoch, .int .i64 b.seq, .slice adb b.recs.length capb] rfl hfd.out (by have := HDL.out; unfold maxLen; omega) (by have := HDL.out; omega) hb0.out ?_; intro v' w' hown hg hnew; have hsk3 := Lib.hid (hsk2.out.more hrs2.out hown hg hnew); obtain ⟨ad2, cap2, rfl, -⟩ := hown.slice; clear hown hg hnew)
          exact ⟨⟨j + 1, dl ++ [(b, .slice adb b.recs.length capb)], X ++ B, B.length, by omega, by go_num, rfl, rfl, by rw [List.length_append]; have := HDJ.out; simp; omega, ⟨hsk3.out, HRD.out, by rw [List.map_append, List.map_cons, List.map_nil, Bat.lastLen_snoc, HB.out], fun x hx => by rw [List.map_append] at hx; rcases List.mem_append.1 hx with hx | hx; exact HBK.out.ok x hx; (simp at hx; subst hx; exact HOK.out)⟩⟩, by simp [intOf]; omega⟩
    · obtain rfl : j = n := by omega
      have hfin := HBK.out.sk.fin (by have := HDL.out; omega)
      have SC := fun w ht => bt_scan X (by omega) w ht
      have M1 := fun v v' w' h h' => bs_same (dl.map (·.1)) v v' w' h h' (fun b hb => Bat.ok_hdrs (HBK.out.ok b hb))
      have hsc := Bat.scan_of_row (dl.map (·.1)) HBK.out.ok
      rw [HBK.out.row] at hsc
      rw [hsc] at SC
      have SC := Lib.hid SC
      have M1 := Lib.hid M1
      have HFIN := Lib.hid hfin
      clear hsc hfin hlt
      go_wp2_with fail
      refine (SC.out _ (HT.out.keeps hkr)).mono ?_
      rintro e w1 ⟨va, rfl, hva, hk1⟩
      simp only [retScan] at hva ⊢
      have HM := Lib.hid (M1.out _ _ _ hva (HFIN.out.keeps hk1))
      have hk1r := hk1
      have hk1 := hkr.trans hk1
      clear hva
      go_wp2_with fail
      refine HM.out.mono ?_
      rintro e w2 ⟨rfl, hk2⟩
      have hk2r := hk2
      have hk2 := hk1.trans hk2
      clear hk1
      rcases Nat.eq_zero_or_pos last with rfl | hlast
      · go_wp2_with fail
        refine (HL.out _ (HT.out.keeps hk2)).mono ?_
        rintro e w3 ⟨rfl, hk3⟩
        go_wp2_with fail
        go_ret
        exact ⟨rfl, hk2.trans hk3⟩
      · have hl0 : ((last : Int) == 0) = false := by rw [beq_eq_false_iff_ne]; omega
        obtain ⟨init, lb, hil⟩ : ∃ init lb, dl.map (·.1) = init ++ [lb] := by
          rcases List.eq_nil_or_concat (dl.map (·.1)) with h | ⟨i, b, h⟩
          · have := HBK.out.last; rw [h] at this; simp [Bat.lastLen] at this; omega
          · exact ⟨i, b, by simpa using h⟩
        have hok := HBK.out.ok
        rw [hil] at hok
        have hok1 : lb.ok = true := hok lb (by simp)
        have hok2 : ∀ b ∈ init, b.ok = true := fun b hb => hok b (by simp [hb])
        have hlb : lb.bytes.length = last := by have := HBK.out.last; rw [hil, Bat.lastLen_snoc] at this; exact this
        have hXr : X = Bat.row init ++ lb.bytes := by rw [← HBK.out.row, hil, Bat.row_append, Bat.row_one]
        have hdl : dl.length = init.length + 1 := by have := congrArg List.length hil; simpa using this
        obtain ⟨hc0, hc1⟩ := HC.out
        obtain ⟨C, hC0, hCc⟩ : ∃ C : Int, 0 ≤ C ∧ ((decide (cut < 0) = true ∧ -(cut + 1) = C) ∨ (decide (cut < 0) = false ∧ cut = C)) := by
          by_cases h : cut < 0
          · exact ⟨-(cut + 1), by omega, .inl ⟨by simpa using h, rfl⟩⟩
          · exact ⟨cut, by omega, .inr ⟨by simpa using h, rfl⟩⟩
        obtain ⟨r, hr, hrl⟩ := tmod_small hC0 hlast
        obtain ⟨R, hR⟩ : ∃ R, (Bat.row init).length = R := ⟨_, rfl⟩
        have hXlen : X.length = R + last := by rw [hXr, List.length_append, hR, hlb]
        obtain ⟨K, hK⟩ : ∃ K, R + (last - 1 - r) = K := ⟨_, rfl⟩
        have hsc := Bat.scan_of_cut init lb hok2 hok1 (last - 1 - r) (by omega)
        rw [show Bat.row init ++ lb.bytes.take (last - 1 - r) = X.take K by rw [hXr, ← hK, ← hR, List.take_append, List.take_of_length_le (l := Bat.row init) (by omega), Nat.add_sub_cancel_left], hR] at hsc
        have hYl : (X.take K).length ≤ 480064 := by rw [List.length_take]; omega
        have hex : (str X).extract 0 K = str (X.take K) := by
          have := str_extract X 0 K
          rw [Nat.zero_add] at this
          rw [this]; rfl
        obtain ⟨Y, hY⟩ : ∃ Y, X.take K = Y := ⟨_, rfl⟩
        rw [hY] at hsc hYl hex
        have S2 := fun w ht => bt_scan Y (by omega) w ht
        rw [hsc] at S2
        have M2 := fun v v' w' h h' => bs_same init v v' w' h h' (fun b hb => Bat.ok_hdrs (hok2 b hb))
        have hKK : (X.length : Int) - (1 + (r : Int)) = (K : Int) := by omega
        have hKX : K ≤ X.length := by omega
        have hml : (X.length : Int) - (last : Int) = (R : Int) := by omega
        have HW := Lib.hid (show ∀ w' cap', Keeps wr w' → (ao = none → cap' = 0) → BsAt w' (.slice ao (dl.length - 1) cap') init by
          intro w' cap' hk hc'
          have h1 : BsAt w' (.slice ao (dl.map (·.1)).length capo) (dl.map (·.1)) := by rw [List.length_map]; exact HFIN.out.keeps hk
          have h2 := h1.short (dl.length - 1) (by rw [List.length_map]; omega) cap' hc'
          rw [hil, hdl, Nat.add_sub_cancel, List.take_left] at h2
          rw [hdl, Nat.add_sub_cancel]; exact h2)
        have S2 := Lib.hid S2
        have M2 := Lib.hid M2
        obtain ⟨hw3, hw4, hw6⟩ := back_wraps hXl hXlen hrl hK
        have hw5 := back_len HDL.out (by rw [hdl]; exact Nat.succ_pos _)
        obtain ⟨gg, cc, he, -, -, hcc, -⟩ := Own.form HBK.out.sk.own (by decide) (by omega)
        simp only [Value.slice.injEq, true_and] at he
        obtain ⟨rfl, rfl⟩ := he
        have hd1 : dl.length - 1 ≤ capo := by omega
        have hd2 : dl.length - 1 ≤ dl.length := by omega
        rcases hCc with ⟨hd, hC⟩ | ⟨hd, hC⟩
        · have hneg : cut < 0 := of_decide_eq_true hd
          have hw1 : wrap64 (cut + 1) = cut + 1 := w64 (by omega) (by omega)
          have hw2 : wrap64 (-(cut + 1)) = -(cut + 1) := w64 (by omega) (by omega)
          subst hC
          have hr2 : -(cut + 1).tmod (last : Int) = (r : Int) := by rw [← Int.neg_tmod]; exact hr
          clear hil hok hok1 hok2 hlb hXr hdl hC0 hrl hR hXlen hK hsc hY hKK hc0 hc1
          go_wp2_with fail
          refine (S2.out _ (HT.out.keeps hk2)).mono ?_
          rintro e w3 ⟨vb, rfl, hvb, hk3⟩
          simp only [retScan] at hvb ⊢
          have HM2 := Lib.hid (fun cap' h => M2.out _ _ _ hvb (HW.out w3 cap' ((hk1r.trans hk2r).trans hk3) h))
          have hk3 := hk2.trans hk3
          go_wp2_with fail
          refine (HM2.out _ ?_).mono ?_
          · exact hcapo
          rintro e w4 ⟨rfl, hk4⟩
          have hk4 := hk3.trans hk4
          go_wp2_with fail
          refine (HL.out _ (HT.out.keeps hk4)).mono ?_
          rintro e w5 ⟨rfl, hk5⟩
          go_wp2_with fail
          go_ret
          exact ⟨rfl, hk4.trans hk5⟩
        · have hneg : 0 ≤ cut := by have := of_decide_eq_false hd; omega
          subst hC
          clear hil hok hok1 hok2 hlb hXr hdl hC0 hrl hR hXlen hK hsc hY hKK hc0 hc1
          go_wp2_with fail
          refine (S2.out _ (HT.out.keeps hk2)).mono ?_
          rintro e w3 ⟨vb, rfl, hvb, hk3⟩
          simp only [retScan] at hvb ⊢
          have HM2 := Lib.hid (fun cap' h => M2.out _ _ _ hvb (HW.out w3 cap' ((hk1r.trans hk2r).trans hk3) h))
          have hk3 := hk2.trans hk3
          go_wp2_with fail
          refine (HM2.out _ ?_).mono ?_
          · exact hcapo
          rintro e w4 ⟨rfl, hk4⟩
          have hk4 := hk3.trans hk4
          go_wp2_with fail
          refine (HL.out _ (HT.out.keeps hk4)).mono ?_
          rintro e w5 ⟨rfl, hk5⟩
          go_wp2_with fail
          go_ret
          exact ⟨rfl, hk4.trans hk5⟩
end Go.Proofs.YtlalhieccbfndaaDoor
