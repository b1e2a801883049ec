/-
  The walks of the laws on which records a filter lets through, 2.
-/
import Derived.Test.YtojcfepbmnfflaaDoorMtLaws
set_option linter.unusedVariables false
namespace Go.Proofs.YtojcfepbmnfflaaDoor
open Go.RowKit
attribute [local go_sem ↓] Go.wp_at_zero Go.wp_at_succ

theorem Mt.pick_sub (t : Tree) (l : List Rec) : ∀ r ∈ (Mt.pick t l).1, r ∈ l := by
  intro r hr
  unfold Mt.pick at hr
  split at hr
  · split at hr
    · exact (List.mem_filter.1 hr).1
    · simp at hr
  · simp at hr
theorem Mt.pick_len (t : Tree) (l : List Rec) : (Mt.pick t l).1.length ≤ l.length := by
  unfold Mt.pick
  split
  · split
    · exact List.length_filter_le _ _
    · simp
  · simp
theorem Mt.pick_err (t : Tree) (l : List Rec) : (Mt.pick t l).2 = 0 ∨ (Mt.pick t l).2 = 1 := by
  unfold Mt.pick; split
  · split <;> simp
  · simp
theorem Mt.pick_again {t : Tree} {l : List Rec} (h : (Mt.pick t l).2 = 0) : Mt.pick t (Mt.pick t l).1 = Mt.pick t l := by
  unfold Mt.pick at h
  split at h
  · split at h
    · rename_i ht hl
      have h2 : (l.filter fun r => Mt.lets r t).all Rec.ok = true := by
        rw [List.all_eq_true] at hl ⊢
        intro x hx; exact hl x (List.mem_filter.1 hx).1
      rw [Mt.pick_yes ht hl]
      simp only
      rw [Mt.pick_yes ht h2, List.filter_filter]
      simp
    · simp at h
  · simp at h

def sm0 (t : Tree) : Bool := msm t Rec.none
set_option maxRecDepth 4000 in
set_option maxHeartbeats 3200000 in
theorem picks_true (t : Tree) (kv : Value) (l : List Rec) (lv : Value) (w : World) (hk : KAt w kv t.kids) (hrs : RsAt w lv l) (hT : U8 w) : Calls Tryd.prog 4 #[treeV t kv, lv] w fun e w' => e = .returned (.bool true) ∧ Keeps w w' := by
  have HS := fun w' (h : Keeps w w') => mt_small t kv Rec.none (.slice none 0 0) w' (hk.keeps h) (PairsAt.nil _)
  have H1 := fun hl w' (h : Keeps w w') => mt_pick t kv l lv w' (hk.keeps h) (hrs.keeps h) hl (hT.keeps h)
  have H2 := fun hl w' (h : Keeps w w') => ref_pick t kv l lv w' (hk.keeps h) (hrs.keeps h) hl (hT.keeps h)
  have H3 := fun v hl w' (h : Keeps w w') hv => mt_pick t kv (Mt.pick t l).1 v w' (hk.keeps h) hv hl (hT.keeps h)
  have HL := fun w' (h : Keeps w w') => mt_live w' (hT.keeps h)
  have hlen := Mt.pick_len t l
  have hsub := Mt.pick_sub t l
  have herr := Mt.pick_err t l
  have hag := fun h => Mt.pick_again (t := t) (l := l) h
  obtain ⟨⟨P, e⟩, hm⟩ : ∃ m, Mt.pick t l = m := ⟨_, rfl⟩
  rw [hm] at H1 H2 H3 hlen hsub herr hag
  simp only at H1 H2 H3 hlen hsub herr hag
  obtain ⟨s, hs⟩ : ∃ s, msm t Rec.none = s := ⟨_, rfl⟩
  rw [hs] at HS
  obtain ⟨ad, cap, rfl⟩ := hk.form
  obtain ⟨n, hn⟩ : ∃ n, l.length = n := ⟨_, rfl⟩
  have HRSK := Lib.hid (fun w' (h : Keeps w w') => hrs.keeps h)
  obtain ⟨al, capl, rfl, hll, h0l, g, o, hvs, hal, hcl⟩ := hrs
  rw [hn] at hll hlen H1 H2 HRSK ⊢
  simp only [treeV, recV, retRs, Rec.none] at HS H1 H2 H3 ⊢
  have HS := Lib.hid HS
  have H1 := Lib.hid H1
  have H2 := Lib.hid H2
  have H3 := Lib.hid H3
  have HL := Lib.hid HL
  have HNN := Lib.hid hn
  have HAL := Lib.hid hal
  have HCL := Lib.hid hcl
  have HLEN := Lib.hid hlen
  have HSUB := Lib.hid hsub
  have HAG := Lib.hid hag
  clear hk hm hs hT hn hal hcl hlen hsub hag h0l
  have hkw := (Keeps.refl w).alloc (.cells #[.int .i64 t.op, .string (str t.name), .string (str t.value), .slice ad t.kids.length cap] 24)
  have hb1 := Blk.new w 24 #[.int .i64 t.op, .string (str t.name), .string (str t.value), .slice ad t.kids.length cap]
  by_cases hn20 : 20 < n
  · have hd : decide (20 < (n : Int)) = true := by simp; omega
    go_enter Tryd.func4, Tryd.ntmps4
    go_wp2_with fail
    refine (HL.out _ hkw).mono ?_
    rintro e w2 ⟨rfl, hk2⟩
    go_wp2_with fail
    go_ret
    exact ⟨rfl, hkw.trans hk2⟩
  · have hd : decide (20 < (n : Int)) = false := by simp; omega
    have HN20 := Lib.hid (show n ≤ 20 by omega)
    clear hn20
    cases s
    · go_enter Tryd.func4, Tryd.ntmps4
      go_wp2_with fail
      refine (HS.out _ hkw).mono ?_
      rintro e w1 ⟨rfl, hk1⟩
      go_wp2_with fail
      refine (HL.out _ (hkw.trans hk1)).mono ?_
      rintro e w2 ⟨rfl, hk2⟩
      go_wp2_with fail
      go_ret
      exact ⟨rfl, (hkw.trans hk1).trans hk2⟩
    · go_enter Tryd.func4, Tryd.ntmps4
      go_wp2_with fail
      refine (HS.out _ hkw).mono ?_
      rintro e w1 ⟨rfl, hk1⟩
      have hkb := hkw.trans hk1
      have hb1 := hb1.keeps hk1
      go_wp2_with fail
      go_loopw [5] (fun i wr => ∃ j : Nat, j ≤ n ∧ i = .int .i64 j ∧ (∀ r ∈ l.take j, r.hdrs.length ≤ 20) ∧ wr = w1) (fun i _ => n - (intOf i).toNat)
      case atStart => exact ⟨0, by omega, rfl, by simp, rfl⟩
      case round =>
        obtain ⟨j, hj, rfl, hall, rfl⟩ := hrel
        have HALL := Lib.hid hall
        clear hall
        by_cases hlt : j < n
        · obtain ⟨r, hx⟩ : ∃ x, l[j]? = some x := ⟨_, List.getElem?_eq_getElem (by rw [HNN.out]; exact hlt)⟩
          obtain rfl := HAL.out (by intro e; rw [e] at hx; simp at hx)
          obtain ⟨hrc, hrp⟩ := HCL.out j r hx
          obtain ⟨hv, hvd⟩ : ∃ v, hvs j = v := ⟨_, rfl⟩
          rw [hvd] at hrc hrp
          obtain ⟨adh, caph, rfl, -, -⟩ := id hrp
          obtain ⟨c0, c1, c2, c3, c4, c5, c6⟩ := hrc.of (fun _ _ => hkb.cell)
          have HX := Lib.hid hx
          clear hrc hrp hx hvd
          by_cases hr20 : 20 < r.hdrs.length
          · have hd2 : decide (20 < (r.hdrs.length : Int)) = true := by simp; omega
            go_wp2_with fail
            refine (HL.out _ hkb).mono ?_
            rintro e w2 ⟨rfl, hk2⟩
            go_wp2_with fail
            go_ret
            exact ⟨rfl, hkb.trans hk2⟩
          · have hd2 : decide (20 < (r.hdrs.length : Int)) = false := by simp; omega
            have HR20 := Lib.hid (show r.hdrs.length ≤ 20 by omega)
            clear hr20
            go_wp2_with fail
            exact ⟨⟨j + 1, by omega, by go_num, by
              rw [List.take_add_one, HX.out]
              intro x hx
              rcases List.mem_append.1 hx with h | h
              · exact HALL.out x h
              · simp at h; subst h; exact HR20.out, by trivial⟩, by simp [intOf]; omega⟩
        · obtain rfl : j = n := by omega
          have HB := Lib.hid (show ∀ r ∈ P, r.hdrs.length ≤ 2 ^ 50 by
            intro r hr
            have h := HALL.out
            rw [List.take_of_length_le (by rw [HNN.out]; omega)] at h
            have := h r (HSUB.out r hr); omega)
          obtain ⟨q0, q1, q2, q3⟩ := hb1.four
          go_wp2_with fail
          refine (H1.out (by have := HN20.out; omega) _ hkb).mono ?_
          rintro e1 w2 ⟨va, rfl, hva, hk2⟩
          obtain ⟨ada, capa, rfl⟩ := hva.form
          have hkc := hkb.trans hk2
          have HVA := Lib.hid hva
          clear hva
          obtain ⟨q0, q1, q2, q3⟩ := (hb1.keeps hk2).four
          go_wp2_with fail
          refine (H2.out (by have := HN20.out; omega) _ hkc).mono ?_
          rintro e2 w3 ⟨vb, rfl, hvb, hk3⟩
          obtain ⟨adb, capb, rfl⟩ := hvb.form
          have hkd := hkc.trans hk3
          have HVB := Lib.hid hvb
          clear hvb
          have hee : (e == e) = true := by simp
          obtain ⟨q0, q1, q2, q3⟩ := ((hb1.keeps hk2).keeps hk3).four
          go_wp2_with fail
          refine (rs_same P _ _ _ (HVA.out.keeps hk3) HVB.out HB.out).mono ?_
          rintro e3 w4 ⟨rfl, hk4⟩
          have hke := hkd.trans hk4
          have HVA4 := Lib.hid ((HVA.out.keeps hk3).keeps hk4)
          obtain ⟨q0, q1, q2, q3⟩ := (((hb1.keeps hk2).keeps hk3).keeps hk4).four
          go_wp2_with fail
          refine (H3.out _ (by have := HLEN.out; have := HN20.out; omega) _ hke HVA4.out).mono ?_
          rintro e4 w5 ⟨vc, rfl, hvc, hk5⟩
          have hkf := hke.trans hk5
          obtain ⟨adc, capc, rfl⟩ := hvc.form
          rcases herr with rfl | rfl
          · have hP := HAG.out rfl
            rw [hP] at hvc ⊢
            simp only at hvc ⊢
            have HVC := Lib.hid hvc
            clear hvc hP
            go_wp2_with fail
            refine (rs_same P _ _ _ (HVA4.out.keeps hk5) HVC.out HB.out).mono ?_
            rintro e6 w6 ⟨rfl, hk6⟩
            go_wp2_with fail
            refine (HL.out _ (hkf.trans hk6)).mono ?_
            rintro e7 w7 ⟨rfl, hk7⟩
            go_wp2_with fail
            go_ret
            exact ⟨rfl, (hkf.trans hk6).trans hk7⟩
          · clear hvc
            go_wp2_with fail
            refine (HL.out _ hkf).mono ?_
            rintro e7 w7 ⟨rfl, hk7⟩
            go_wp2_with fail
            go_ret
            exact ⟨rfl, hkf.trans hk7⟩
end Go.Proofs.YtojcfepbmnfflaaDoor
