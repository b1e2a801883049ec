/-
  flotsamref08.Pick: the walk.
-/
import Derived.Test.YtojcfepbmnfflaaDoorMtPick
import Derived.Test.YtojcfepbmnfflaaDoorMtRef
set_option linter.unusedVariables false
namespace Go.Proofs.YtojcfepbmnfflaaDoor
open Go.RowKit

/-- where it stands -/
structure PR (w : World) (b0 : Nat) (t : Tree) (l : List Rec) (j : Nat) (dl : List (Rec × Value)) (vo : Value) (wr : World) : Prop where
  keeps : Keeps w wr
  le : w.heap.size ≤ b0
  own : Own wr b0 7 vo dl.length (rcellsL dl)
  kin : ∀ (i : Nat) (x : Rec × Value), dl[i]? = some x → PairsAt w x.2 x.1.hdrs
  ok : (l.take j).all Rec.ok = true
  eq : dl.map (·.1) = (l.take j).filter (fun r => Mt.lets r t)
theorem PR.start {w wr : World} {b0 : Nat} (k : Keeps w wr) (hb : w.heap.size ≤ b0) (t : Tree) (l : List Rec) : PR w b0 t l 0 [] (.slice none 0 0) wr :=
  ⟨k, hb, Own.nil _ _ _, fun i x hx => by simp at hx, by simp, by simp⟩
theorem PR.step {w wr w' : World} {b0 : Nat} {t : Tree} {l : List Rec} {j : Nat} {dl : List (Rec × Value)} {vo : Value} (h : PR w b0 t l j dl vo wr) (k : Keeps wr w') : PR w b0 t l j dl vo w' :=
  ⟨h.keeps.trans k, h.le, h.own.keeps k, h.kin, h.ok, h.eq⟩
theorem PR.skip {w wr : World} {b0 : Nat} {t : Tree} {l : List Rec} {j : Nat} {dl : List (Rec × Value)} {vo : Value} (h : PR w b0 t l j dl vo wr) {r : Rec} (hr : l[j]? = some r) (hok : r.ok = true) (hl : Mt.lets r t = false) : PR w b0 t l (j + 1) dl vo wr :=
  ⟨h.keeps, h.le, h.own, h.kin, by rw [List.take_add_one, hr, Option.toList, List.all_append, h.ok]; simp [hok], by rw [List.take_add_one, hr, Option.toList, List.filter_append, ← h.eq]; simp [hl]⟩
theorem PR.more {w wr w' : World} {b0 : Nat} {t : Tree} {l : List Rec} {j : Nat} {dl : List (Rec × Value)} {vo vo' : Value} (h : PR w b0 t l j dl vo wr) {r : Rec} (hr : l[j]? = some r) (hok : r.ok = true) (hl : Mt.lets r t = true) {hv : Value}
    (hp : PairsAt w hv r.hdrs) (hown : Own w' b0 7 vo' (dl.length + 1) (rcellsL dl ++ rcell (r, hv))) (hg : wr.grownBy w' vo.ownBlock) :
    PR w b0 t l (j + 1) (dl ++ [(r, hv)]) vo' w' := by
  refine ⟨h.keeps.grown hg (fun g hg => Nat.le_trans h.le (h.own.base g hg)), h.le, ?_, ?_, by rw [List.take_add_one, hr, Option.toList, List.all_append, h.ok]; simp [hok], by rw [List.take_add_one, hr, Option.toList, List.filter_append, List.map_append, ← h.eq]; simp [hl]⟩
  · rw [List.length_append, rcellsL_append]
    simpa [rcellsL] using hown
  · intro i x hi
    rw [List.getElem?_append] at hi
    split at hi
    · exact h.kin i x hi
    · rename_i hil
      obtain ⟨h1, h2⟩ := List.getElem?_eq_some_iff.1 hi
      simp at h1
      simp [show i - dl.length = 0 by omega] at h2
      subst h2
      exact hp
theorem PR.fin {w wr : World} {b0 : Nat} {t : Tree} {l : List Rec} {j : Nat} {dl : List (Rec × Value)} {vo : Value} (h : PR w b0 t l j dl vo wr) (hj : l.length ≤ j) (hl : l.length ≤ 9223372036854775807) : l.all Rec.ok = true ∧ RsAt wr vo (l.filter (fun r => Mt.lets r t)) := by
  have ht : l.take j = l := List.take_of_length_le hj
  have he := h.eq
  have ho := h.ok
  rw [ht] at he ho
  refine ⟨ho, ?_⟩
  rw [← he]
  exact RsAt.of_own h.own (by have := congrArg List.length he; simp at this; have := List.length_filter_le (fun r => Mt.lets r t) l; omega) (fun i x hx => (h.kin i x hx).keeps h.keeps)
theorem PR.len {w wr : World} {b0 : Nat} {t : Tree} {l : List Rec} {j : Nat} {dl : List (Rec × Value)} {vo : Value} (h : PR w b0 t l j dl vo wr) : dl.length ≤ j := by
  have := congrArg List.length h.eq
  have h2 := List.length_filter_le (fun r => Mt.lets r t) (l.take j)
  simp at this h2; omega

set_option maxRecDepth 4000 in
set_option maxHeartbeats 3200000 in
theorem ref_pick (t : Tree) (kv : Value) (l : List Rec) (lv : Value) (w : World) (hka : KAt w kv t.kids) (hrs : RsAt w lv l) (hln : l.length ≤ 1000) (hT : U8 w) :
    Calls Tryd.prog 14 #[treeV t kv, lv] w fun e w' => ∃ v, e = retRs (Mt.pick t l).2 v ∧ RsAt w' v (Mt.pick t l).1 ∧ Keeps w w' := by
  obtain ⟨i0, hi, hz0, hz1, hz2⟩ := info_parts info_rec
  have HC := fun w' (h : Keeps w w') => ref_xcheck t kv w' (hka.keeps h)
  have HM := fun (r : Rec) hv w' (h : Keeps w w') hp => ref_match t kv r hv w' (hka.keeps h) hp (hT.keeps h)
  have h1 : t.check = if t.ok then 0 else 1 := rfl
  rw [h1] at HC
  have hno := Mt.pick_no (t := t) (l := l)
  have hyes := Mt.pick_yes (t := t) (l := l)
  have hbad := fun r j => Mt.pick_bad (t := t) (l := l) (r := r) (j := j)
  have hmd : ∀ r : Rec, t.ok = true → Mt.match' t r = if r.ok then (Mt.lets r t, 0) else (false, 1) := fun r h => by unfold Mt.match'; rw [h, Bool.true_and]
  obtain ⟨a, ha⟩ : ∃ a, t.ok = a := ⟨_, rfl⟩
  rw [ha] at HC hno hyes hmd
  obtain ⟨ad, cap, rfl⟩ := hka.form
  obtain ⟨n, hn⟩ : ∃ n, l.length = n := ⟨_, rfl⟩
  obtain ⟨al, capl, rfl, hll, h0l, g, o, hvs, hal, hcl⟩ := hrs
  rw [hn] at hll hln ⊢
  have hkw := (Keeps.refl w).alloc (.cells #[.int .i64 t.op, .string (str t.name), .string (str t.value), .slice ad t.kids.length cap] 24)
  have hb1 := Blk.new w 24 #[.int .i64 t.op, .string (str t.name), .string (str t.value), .slice ad t.kids.length cap]
  simp only [treeV] at HC HM ⊢
  have HC := Lib.hid HC
  have HM := Lib.hid HM
  have HNN := Lib.hid hn
  have HAL := Lib.hid hal
  have HCL := Lib.hid hcl
  have HLN := Lib.hid hln
  clear hka hT h1 ha hn h0l hal hcl
  cases a
  · have HNO := Lib.hid (hno rfl)
    clear hno hyes hbad hmd
    go_enter Tryd.func14, Tryd.ntmps14
    go_wp2_with fail
    refine (HC.out _ hkw).mono ?_
    rintro e w1 ⟨rfl, hk1⟩
    go_wp2_with fail
    go_ret2
    exact ⟨_, by rw [HNO.out]; rfl, by rw [HNO.out]; exact RsAt.nil _, hkw.trans hk1⟩
  · have HYES := Lib.hid (hyes rfl)
    have HBAD := Lib.hid hbad
    have HMD := Lib.hid (fun r => hmd r rfl)
    clear hno hyes hbad hmd
    go_enter Tryd.func14, Tryd.ntmps14
    go_wp2_with fail
    refine (HC.out _ hkw).mono ?_
    rintro e w1 ⟨rfl, hk1⟩
    have hb1 := hb1.keeps hk1
    have hkw := hkw.trans hk1
    go_wp2_with fail
    go_loopw [6, 7] (fun vo i wr => ∃ (j : Nat) (dl : List (Rec × Value)), j ≤ n ∧ i = .int .i64 j ∧ PR w (w.heap.size + 1) t l j dl vo wr ∧ Blk wr w.heap.size 24 #[.int .i64 t.op, .string (str t.name), .string (str t.value), .slice ad t.kids.length cap]) (fun _ i _ => n - (intOf i).toNat)
    case atStart => exact ⟨0, [], by omega, rfl, PR.start hkw (by omega) t l, hb1⟩
    case round =>
      obtain ⟨j, dl, hj, rfl, hpk, hbr⟩ := hrel
      obtain ⟨ao, capo, rfl, hcap⟩ := hpk.own.slice
      have HPK := Lib.hid hpk
      have HBR := Lib.hid hbr
      clear hpk hbr
      obtain ⟨b0, b1, b2, b3⟩ := HBR.out.four
      have hkr := HPK.out.keeps
      by_cases hlt : j < n
      · obtain ⟨r, hx⟩ : ∃ x, l[j]? = some x := ⟨_, List.getElem?_eq_getElem (by rw [HNN.out]; exact hlt)⟩
        obtain rfl := HAL.out (by intro e; rw [e] at hx; simp at hx)
        obtain ⟨hrc, hrp⟩ := HCL.out j r hx
        obtain ⟨hv, hvd⟩ : ∃ v, hvs j = v := ⟨_, rfl⟩
        rw [hvd] at hrc hrp
        obtain ⟨adh, caph, rfl, -, -⟩ := id hrp
        obtain ⟨c0, c1, c2, c3, c4, c5, c6⟩ := hrc.of (fun _ _ => hkr.cell)
        have HRP := Lib.hid hrp
        have HX := Lib.hid hx
        have HJB := Lib.hid (show dl.length ≤ 1000 by have := HPK.out.len; have := HLN.out; omega)
        have HMR := fun w' (h : Keeps wr w') => HM.out r _ w' (hkr.trans h) (HRP.out.keeps (hkr.trans h))
        rw [HMD.out] at HMR
        simp only [recV, retB] at HMR
        clear hrp hrc hx hvd
        cases hrok : r.ok
        · rw [hrok] at HMR
          have HMR := Lib.hid HMR
          have HFIN := Lib.hid (HBAD.out r j HX.out hrok)
          clear hrok
          go_wp2_with fail
          go_region_held3 (fun w' => Keeps wr w' ∧ w'.cell? ⟨w.heap.size, 0, none⟩ = some (.int .i64 t.op) ∧ w'.cell? ⟨w.heap.size, 1, none⟩ = some (.string (str t.name)) ∧ w'.cell? ⟨w.heap.size, 2, none⟩ = some (.string (str t.value)) ∧ w'.cell? ⟨w.heap.size, 3, none⟩ = some (.slice ad t.kids.length cap) ∧ w'.cell? ⟨g, o + j * 7, none⟩ = some (.int .i64 r.at_) ∧ w'.cell? ⟨g, o + j * 7 + 1, none⟩ = some (.int .i64 r.time) ∧ w'.cell? ⟨g, o + j * 7 + 2, none⟩ = some (.bool r.bare) ∧ w'.cell? ⟨g, o + j * 7 + 3, none⟩ = some (.string (str r.key)) ∧ w'.cell? ⟨g, o + j * 7 + 4, none⟩ = some (.bool r.gone) ∧ w'.cell? ⟨g, o + j * 7 + 5, none⟩ = some (.string (str r.value)) ∧ w'.cell? ⟨g, o + j * 7 + 6, none⟩ = some (.slice adh r.hdrs.length caph)) ((refine (fun hq => ⟨hq, Keeps.cell hq b0, Keeps.cell hq b1, Keeps.cell hq b2, Keeps.cell hq b3, Keeps.cell hq c0, Keeps.cell hq c1, Keeps.cell hq c2, Keeps.cell hq c3, Keeps.cell hq c4, Keeps.cell hq c5, Keeps.cell hq c6⟩) ?_; first | exact (Keeps.refl wr).drew | exact Keeps.trans (And.left ‹Keeps wr _ ∧ _›) (by assumption))) ((go_at_call 12; refine (HMR.out _ (And.left ‹Keeps wr _ ∧ _›)).mono ?_; rintro e w' ⟨rfl, hkn⟩))
          have hS := (‹Keeps wr _ ∧ _›).1
          go_wp2_with fail
          go_ret2
          exact ⟨_, by rw [HFIN.out]; rfl, by rw [HFIN.out]; exact RsAt.nil _, hkr.trans hS⟩
        · rw [hrok] at HMR
          have HROK := Lib.hid hrok
          clear hrok
          obtain ⟨le, hle⟩ : ∃ b, Mt.lets r t = b := ⟨_, rfl⟩
          rw [hle] at HMR
          have HMR := Lib.hid HMR
          have HLE := Lib.hid hle
          clear hle
          go_wp2_with fail
          go_region_held3 (fun w' => Keeps wr w' ∧ w'.cell? ⟨w.heap.size, 0, none⟩ = some (.int .i64 t.op) ∧ w'.cell? ⟨w.heap.size, 1, none⟩ = some (.string (str t.name)) ∧ w'.cell? ⟨w.heap.size, 2, none⟩ = some (.string (str t.value)) ∧ w'.cell? ⟨w.heap.size, 3, none⟩ = some (.slice ad t.kids.length cap) ∧ w'.cell? ⟨g, o + j * 7, none⟩ = some (.int .i64 r.at_) ∧ w'.cell? ⟨g, o + j * 7 + 1, none⟩ = some (.int .i64 r.time) ∧ w'.cell? ⟨g, o + j * 7 + 2, none⟩ = some (.bool r.bare) ∧ w'.cell? ⟨g, o + j * 7 + 3, none⟩ = some (.string (str r.key)) ∧ w'.cell? ⟨g, o + j * 7 + 4, none⟩ = some (.bool r.gone) ∧ w'.cell? ⟨g, o + j * 7 + 5, none⟩ = some (.string (str r.value)) ∧ w'.cell? ⟨g, o + j * 7 + 6, none⟩ = some (.slice adh r.hdrs.length caph)) ((refine (fun hq => ⟨hq, Keeps.cell hq b0, Keeps.cell hq b1, Keeps.cell hq b2, Keeps.cell hq b3, Keeps.cell hq c0, Keeps.cell hq c1, Keeps.cell hq c2, Keeps.cell hq c3, Keeps.cell hq c4, Keeps.cell hq c5, Keeps.cell hq c6⟩) ?_; first | exact (Keeps.refl wr).drew | exact Keeps.trans (And.left ‹Keeps wr _ ∧ _›) (by assumption))) ((go_at_call 12; refine (HMR.out _ (And.left ‹Keeps wr _ ∧ _›)).mono ?_; rintro e w' ⟨rfl, hkn⟩))
          rename World => w3
          obtain ⟨hS, y0, y1, y2, y3, d0, d1, d2, d3, d4, d5, d6⟩ := ‹Keeps wr w3 ∧ _›
          cases le
          · go_wp2_with fail
            exact ⟨⟨j + 1, dl, by omega, by go_num, (HPK.out.step hS).skip HX.out HROK.out HLE.out, HBR.out.keeps hS⟩, by simp [intOf]; omega⟩
          · have hk5 := hS.alloc (.cells #[.int .i64 r.at_, .int .i64 r.time, .bool r.bare, .string (str r.key), .bool r.gone, .string (str r.value), .slice adh r.hdrs.length caph] 27)
            have hfd := Feeds.new7 (P := Tryd.prog) w3 27 [.int .i64 r.at_, .int .i64 r.time, .bool r.bare, .string (str r.key), .bool r.gone, .string (str r.value), .slice adh r.hdrs.length caph] rfl (by intro u hu; simp at hu; rcases hu with rfl | rfl | rfl | rfl | rfl | rfl | rfl <;> rfl) 1
            have hb5 := HBR.out.keeps hk5
            have hfd := Lib.hid hfd
            have HPK5 := Lib.hid (HPK.out.step hk5)
            have HB5 := Lib.hid hb5
            have hsz5 := Lib.hid (show w.heap.size + 1 ≤ (w3.alloc (.cells #[.int .i64 r.at_, .int .i64 r.time, .bool r.bare, .string (str r.key), .bool r.gone, .string (str r.value), .slice adh r.hdrs.length caph] 27)).heap.size from hb5.lt)
            clear hb5
            go_wp2_with (at_builtin; refine wpList_append_new _ rfl _ _ 33 33 rfl (w.heap.size + 1) 27 i0 (.agg #[.int .i64 0, .int .i64 0, .bool false, .string ⟨#[]⟩, .bool false, .string ⟨#[]⟩, .slice none 0 0]) 7 88 Tryd.underlying33 ⟨_, Tryd.underlying33, fun _ h => by cases h⟩ hi hz0 hz1 hz2 rfl (by decide) (.slice ao dl.length capo) dl.length (rcellsL dl) rfl HPK5.out.own (.slice (some ⟨w3.heap.size, 0, none⟩) 1 1) 1 [.int .i64 r.at_, .int .i64 r.time, .bool r.bare, .string (str r.key), .bool r.gone, .string (str r.value), .slice adh r.hdrs.length caph] rfl hfd.out (by have := HJB.out; unfold maxLen; omega) (by have := HJB.out; omega) hsz5.out ?_; intro v' w' hown hg hnew; have hpk6 := Lib.hid (HPK5.out.more HX.out HROK.out HLE.out HRP.out hown hg); have hb6 := Lib.hid (HB5.out.grown hg (fun e => by have := HPK5.out.own.base w.heap.size e.symm; omega)); obtain ⟨ad2, cap2, rfl, -⟩ := hown.slice; clear hown hg hnew)
            exact ⟨⟨j + 1, _, by omega, by go_num, hpk6.out, hb6.out⟩, by simp [intOf]; omega⟩
      · obtain rfl : j = n := by omega
        obtain ⟨hall, hfin⟩ := HPK.out.fin (by rw [HNN.out]; omega) (by rw [HNN.out]; exact hll)
        have HY := Lib.hid (HYES.out hall)
        have HFIN := Lib.hid hfin
        clear hall hfin
        go_wp2_with fail
        go_ret2
        exact ⟨_, by rw [HY.out]; rfl, by rw [HY.out]; exact HFIN.out, hkr⟩
end Go.Proofs.YtojcfepbmnfflaaDoor
