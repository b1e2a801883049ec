/-
  slices.Clone, match.Pick: the walks.
-/
import Derived.Test.YtojcfepbmnfflaaDoorMtRef
import Derived.Test.YtojcfepbmnfflaaDoorRs
import Derived.Test.YtojcfepbmnfflaaDoorRcFd
import Derived.Lib.SliceRun
set_option linter.unusedVariables false
namespace Go.Proofs.YtojcfepbmnfflaaDoor
open Go.RowKit

theorem info_rec : (Tryd.prog.info? 27).map (fun i => (i.zero, i.size, i.bytes)) = some (some (.agg #[.int .i64 0, .int .i64 0, .bool false, .string ⟨#[]⟩, .bool false, .string ⟨#[]⟩, .slice none 0 0]), 7, 88) := by kernel_rfl
theorem Own.empty {w : World} {base size g : Nat} (h : base ≤ g) : Own w base size (.slice (some ⟨g, 0, none⟩) 0 0) 0 [] :=
  ⟨by simp, .inr ⟨g, 0, rfl, h, Nat.le_refl _, Nat.zero_le _, fun j u hj => by simp at hj, fun j hj => by simp at hj⟩⟩

set_option maxRecDepth 4000 in
set_option maxHeartbeats 1600000 in
theorem rs_clone (hv : Value) (l : List (List UInt8 × List UInt8)) (w : World) (h : PairsAt w hv l) (hn : l.length ≤ 1000) :
    Calls Tryd.prog 25 #[hv] w fun e w' => ∃ v, e = .returned v ∧ PairsIn (fun g => w.heap.size ≤ g) w' v l ∧ Keeps w w' := by
  obtain ⟨i0, hi, hz0, hz1, hz2⟩ := info_parts info_hdr
  have HP := Lib.hid h
  have heq : ∀ (w : World) (a : Option Addr) (n c n' c' : Nat), (binOp .eql 25 (.slice a n c) (.slice none n' c')).run Tryd.prog w = .ok (.bool a.isNone) w := fun w a n c n' c' => Lib.run_eql_slice_nil w _ _ a n c n' c' Tryd.underlying25
  obtain ⟨ad, cap, rfl, h0, hc⟩ := h
  cases ad with
  | none =>
    have hl : l = [] := by
      by_cases hl : l = []
      · exact hl
      · obtain ⟨g, o, hg, _⟩ := hc hl; cases hg
    subst hl
    rw [h0 rfl]
    clear hc h0 HP
    go_enter Tryd.func25, Tryd.ntmps25
    go_wp2_with fail
    go_ret
    exact ⟨_, rfl, ⟨none, 0, rfl, fun _ => rfl, fun h => absurd rfl h⟩, Keeps.refl _⟩
  | some a =>
    clear hc h0
    have hal := (Keeps.refl w).alloc (.cells #[] 42)
    have HF := Lib.hid (PairsAt.feeds (P := Tryd.prog) (HP.out.keeps hal))
    have HN := Lib.hid hn
    clear hn
    go_enter Tryd.func25, Tryd.ntmps25
    go_wp2_with (at_builtin; refine wpList_append_any _ rfl _ _ 25 25 rfl w.heap.size 42 i0 (.agg #[.string ⟨#[]⟩, .string ⟨#[]⟩]) 2 32 Tryd.underlying25 ⟨_, Tryd.underlying25, fun _ h => by cases h⟩ hi hz0 hz1 hz2 rfl (by decide) (.slice (some ⟨w.heap.size, 0, none⟩) 0 0) 0 [] rfl (Own.empty (Nat.le_refl _)) _ l.length (pcells l) rfl HF.out (by have := HN.out; unfold maxLen; omega) (by have := HN.out; omega) (by simp) ?_; intro v' w' hown hg)
    rw [Nat.zero_add, List.nil_append] at hown
    have hk := hal.grown hg (fun k hk => by simp [Value.ownBlock] at hk; omega)
    have hin := PairsIn.of_own (S := fun g => w.heap.size ≤ g) hown (fun g hg => hown.base g hg)
    obtain ⟨ad', cap', rfl, -⟩ := hown.slice
    clear hown hg
    go_simp
    go_wp2_with fail
    go_ret
    exact ⟨_, rfl, hin, hk⟩

/-- where Pick stands -/
structure PK (w : World) (b0 : Nat) (t : Tree) (l : List Rec) (j : Nat) (dl : List (Rec × Value)) (vo : Value) (wr : World) : Prop where
  keeps : Keeps w wr
  le : w.heap.size ≤ b0
  own : Own wr b0 7 vo dl.length (rcellsL dl)
  old : ∀ g, vo.ownBlock = some g → g < wr.heap.size
  kin : ∀ (i : Nat) (x : Rec × Value), dl[i]? = some x → PairsIn (fun g => vo.ownBlock ≠ some g) wr x.2 x.1.hdrs
  ok : (l.take j).all Rec.ok = true
  eq : dl.map (·.1) = (l.take j).filter (fun r => Mt.lets r t)
theorem PK.start {w wr : World} {b0 : Nat} (k : Keeps w wr) (hb : w.heap.size ≤ b0) (t : Tree) (l : List Rec) : PK w b0 t l 0 [] (.slice none 0 0) wr :=
  ⟨k, hb, Own.nil _ _ _, fun g hg => by simp [Value.ownBlock] at hg, fun i x hx => by simp at hx, by simp, by simp⟩
theorem PK.step {w wr w' : World} {b0 : Nat} {t : Tree} {l : List Rec} {j : Nat} {dl : List (Rec × Value)} {vo : Value} (h : PK w b0 t l j dl vo wr) (k : Keeps wr w') : PK w b0 t l j dl vo w' :=
  ⟨h.keeps.trans k, h.le, h.own.keeps k, fun g hg => Nat.lt_of_lt_of_le (h.old g hg) k.size, fun i x hx => (h.kin i x hx).move fun g hg hlt => ⟨hg, k.block hlt⟩, h.ok, h.eq⟩
theorem PK.skip {w wr : World} {b0 : Nat} {t : Tree} {l : List Rec} {j : Nat} {dl : List (Rec × Value)} {vo : Value} (h : PK w b0 t l j dl vo wr) {r : Rec} (hr : l[j]? = some r) (hok : r.ok = true) (hl : Mt.lets r t = false) : PK w b0 t l (j + 1) dl vo wr :=
  ⟨h.keeps, h.le, h.own, h.old, h.kin, by rw [List.take_add_one, hr, Option.toList, List.all_append, h.ok]; simp [hok], by rw [List.take_add_one, hr, Option.toList, List.filter_append, ← h.eq]; simp [hl]⟩
theorem PK.more {w wr w' : World} {b0 : Nat} {t : Tree} {l : List Rec} {j : Nat} {dl : List (Rec × Value)} {vo vo' : Value} (h : PK w b0 t l j dl vo wr) {r : Rec} (hr : l[j]? = some r) (hok : r.ok = true) (hl : Mt.lets r t = true) {hv : Value}
    (hp : PairsIn (fun g => vo.ownBlock ≠ some g) wr hv r.hdrs) (hown : Own w' b0 7 vo' (dl.length + 1) (rcellsL dl ++ rcell (r, hv))) (hg : wr.grownBy w' vo.ownBlock) (hnew : ∀ g, vo'.ownBlock = some g → vo.ownBlock = some g ∨ wr.heap.size ≤ g) :
    PK w b0 t l (j + 1) (dl ++ [(r, hv)]) vo' w' := by
  have hmv : ∀ {v : Value} {hs : List (List UInt8 × List UInt8)}, PairsIn (fun g => vo.ownBlock ≠ some g) wr v hs → PairsIn (fun g => vo'.ownBlock ≠ some g) w' v hs := fun hp => hp.move fun g hg' hlt =>
    ⟨fun e => by
      rcases hnew g e with h1 | h1
      · exact hg' h1
      · omega, hg.block g hlt (fun e => hg' e.symm)⟩
  refine ⟨h.keeps.grown hg (fun g hg => Nat.le_trans h.le (h.own.base g hg)), h.le, ?_, ?_, ?_, by rw [List.take_add_one, hr, Option.toList, List.all_append, h.ok]; simp [hok], by rw [List.take_add_one, hr, Option.toList, List.filter_append, List.map_append, ← h.eq]; simp [hl]⟩
  · rw [List.length_append, rcellsL_append]
    simpa [rcellsL] using hown
  · intro g hg'
    obtain ⟨g', cap, rfl, _, hl, _⟩ := Own.form hown (by decide) (by omega)
    simp [Value.ownBlock] at hg'; omega
  · intro i x hi
    rw [List.getElem?_append] at hi
    split at hi
    · exact hmv (h.kin i x hi)
    · rename_i hil
      obtain ⟨h1, h2⟩ := List.getElem?_eq_some_iff.1 hi
      simp at h1
      simp [show i - dl.length = 0 by omega] at h2
      subst h2
      exact hmv hp
theorem PK.fin {w wr : World} {b0 : Nat} {t : Tree} {l : List Rec} {j : Nat} {dl : List (Rec × Value)} {vo : Value} (h : PK w b0 t l j dl vo wr) (hj : l.length ≤ j) (hl : l.length ≤ 9223372036854775807) : l.all Rec.ok = true ∧ RsAt wr vo (l.filter (fun r => Mt.lets r t)) := by
  have ht : l.take j = l := List.take_of_length_le hj
  have he := h.eq
  have ho := h.ok
  rw [ht] at he ho
  refine ⟨ho, ?_⟩
  rw [← he]
  exact RsAt.of_own h.own (by have := congrArg List.length he; simp at this; have := List.length_filter_le (fun r => Mt.lets r t) l; omega) (fun i x hx => (h.kin i x hx).at_)
theorem PK.len {w wr : World} {b0 : Nat} {t : Tree} {l : List Rec} {j : Nat} {dl : List (Rec × Value)} {vo : Value} (h : PK w b0 t l j dl vo wr) : dl.length ≤ j := by
  have := congrArg List.length h.eq
  have h2 := List.length_filter_le (fun r => Mt.lets r t) (l.take j)
  simp at this h2; omega

/-- records and an error -/
def retRs (e : Int) (v : Value) : Ending := .returned (.tuple #[v, .int .i64 e])
theorem Mt.pick_bad {t : Tree} {l : List Rec} {r : Rec} {j : Nat} (hj : l[j]? = some r) (h : r.ok = false) : Mt.pick t l = ([], 1) := by
  unfold Mt.pick
  have : l.all Rec.ok = false := by rw [List.all_eq_false]; exact ⟨r, List.mem_of_getElem? hj, by rw [h]; simp⟩
  rw [this]; split <;> rfl
theorem Mt.pick_no {t : Tree} {l : List Rec} (h : t.ok = false) : Mt.pick t l = ([], 1) := by unfold Mt.pick; rw [h]; rfl
theorem Mt.pick_yes {t : Tree} {l : List Rec} (h : t.ok = true) (hl : l.all Rec.ok = true) : Mt.pick t l = (l.filter (fun r => Mt.lets r t), 0) := by unfold Mt.pick; rw [h, hl]; rfl

set_option maxRecDepth 4000 in
set_option maxHeartbeats 3200000 in
theorem mt_pick (t : Tree) (kv : Value) (l : List Rec) (lv : Value) (w : World) (hka : KAt w kv t.kids) (hrs : RsAt w lv l) (hln : l.length ≤ 1000) (hT : U8 w) :
    Calls Tryd.prog 13 #[treeV t kv, lv] w fun e w' => ∃ v, e = retRs (Mt.pick t l).2 v ∧ RsAt w' v (Mt.pick t l).1 ∧ Keeps w w' := by
  obtain ⟨i0, hi, hz0, hz1, hz2⟩ := info_parts info_rec
  have HC := fun w' (h : Keeps w w') => ex_check t kv w' (hka.keeps h)
  have HM := fun (r : Rec) hv w' (h : Keeps w w') hp => mt_match t kv r hv w' (hka.keeps h) hp (hT.keeps h)
  have h1 : t.check = if t.ok then 0 else 1 := rfl
  rw [h1] at HC
  have hno := Mt.pick_no (t := t) (l := l)
  have hyes := Mt.pick_yes (t := t) (l := l)
  have hbad := fun r j => Mt.pick_bad (t := t) (l := l) (r := r) (j := j)
  have hmd : ∀ r : Rec, t.ok = true → Mt.match' t r = if r.ok then (Mt.lets r t, 0) else (false, 1) := fun r h => by unfold Mt.match'; rw [h, Bool.true_and]
  obtain ⟨a, ha⟩ : ∃ a, t.ok = a := ⟨_, rfl⟩
  rw [ha] at HC hno hyes hmd
  obtain ⟨ad, cap, rfl⟩ := hka.form
  obtain ⟨n, hn⟩ : ∃ n, l.length = n := ⟨_, rfl⟩
  obtain ⟨al, capl, rfl, hll, h0l, g, o, hvs, hal, hcl⟩ := hrs
  rw [hn] at hll hln ⊢
  have hkw := (Keeps.refl w).alloc (.cells #[.int .i64 t.op, .string (str t.name), .string (str t.value), .slice ad t.kids.length cap] 24)
  have hb1 := Blk.new w 24 #[.int .i64 t.op, .string (str t.name), .string (str t.value), .slice ad t.kids.length cap]
  simp only [treeV] at HC HM ⊢
  have HC := Lib.hid HC
  have HM := Lib.hid HM
  have HNN := Lib.hid hn
  have HAL := Lib.hid hal
  have HCL := Lib.hid hcl
  have HLN := Lib.hid hln
  clear hka hT h1 ha hn h0l hal hcl
  cases a
  · have HNO := Lib.hid (hno rfl)
    clear hno hyes hbad hmd
    go_enter Tryd.func13, Tryd.ntmps13
    go_wp2_with fail
    refine (HC.out _ hkw).mono ?_
    rintro e w1 ⟨rfl, hk1⟩
    go_wp2_with fail
    go_ret2
    exact ⟨_, by rw [HNO.out]; rfl, by rw [HNO.out]; exact RsAt.nil _, hkw.trans hk1⟩
  · have HYES := Lib.hid (hyes rfl)
    have HBAD := Lib.hid hbad
    have HMD := Lib.hid (fun r => hmd r rfl)
    clear hno hyes hbad hmd
    go_enter Tryd.func13, Tryd.ntmps13
    go_wp2_with fail
    refine (HC.out _ hkw).mono ?_
    rintro e w1 ⟨rfl, hk1⟩
    have hb1 := hb1.keeps hk1
    have hkw := hkw.trans hk1
    go_wp2_with fail
    go_loopw [6, 16] (fun vo i wr => ∃ (j : Nat) (dl : List (Rec × Value)), j ≤ n ∧ i = .int .i64 j ∧ PK w (w.heap.size + 1) t l j dl vo wr ∧ Blk wr w.heap.size 24 #[.int .i64 t.op, .string (str t.name), .string (str t.value), .slice ad t.kids.length cap]) (fun _ i _ => n - (intOf i).toNat)
    case atStart => exact ⟨0, [], by omega, rfl, PK.start hkw (by omega) t l, hb1⟩
    case round =>
      obtain ⟨j, dl, hj, rfl, hpk, hbr⟩ := hrel
      obtain ⟨ao, capo, rfl, hcap⟩ := hpk.own.slice
      have HPK := Lib.hid hpk
      have HBR := Lib.hid hbr
      clear hpk hbr
      obtain ⟨b0, b1, b2, b3⟩ := HBR.out.four
      have hkr := HPK.out.keeps
      by_cases hlt : j < n
      · obtain ⟨r, hx⟩ : ∃ x, l[j]? = some x := ⟨_, List.getElem?_eq_getElem (by rw [HNN.out]; exact hlt)⟩
        obtain rfl := HAL.out (by intro e; rw [e] at hx; simp at hx)
        obtain ⟨hrc, hrp⟩ := HCL.out j r hx
        obtain ⟨hv, hvd⟩ : ∃ v, hvs j = v := ⟨_, rfl⟩
        rw [hvd] at hrc hrp
        obtain ⟨adh, caph, rfl, -, -⟩ := id hrp
        have hrc := hrc.of (fun _ _ => hkr.cell)
        obtain ⟨c0, c1, c2, c3, c4, c5, c6⟩ := hrc
        have HRP := Lib.hid (hrp.keeps hkr)
        have HX := Lib.hid hx
        have HJB := Lib.hid (show dl.length ≤ 1000 by have := HPK.out.len; have := HLN.out; omega)
        have hl1 := HBR.out.lt
        have hne : ¬ w.heap.size = wr.heap.size := by omega
        have hkal := (Keeps.refl wr).alloc (.cells #[.int .i64 r.at_, .int .i64 r.time, .bool r.bare, .string (str r.key), .bool r.gone, .string (str r.value), .slice adh r.hdrs.length caph] 27)
        have hbx := Blk.new wr 27 #[.int .i64 r.at_, .int .i64 r.time, .bool r.bare, .string (str r.key), .bool r.gone, .string (str r.value), .slice adh r.hdrs.length caph]
        have HMR := HM.out r _ _ (hkr.trans hkal) (HRP.out.keeps hkal)
        rw [HMD.out] at HMR
        simp only [recV, retB] at HMR
        clear hrp hx hl1 hvd
        obtain ⟨y0, y1, y2, y3⟩ := (HBR.out.keeps hkal).four
        cases hrok : r.ok
        · rw [hrok] at HMR
          have HMR := Lib.hid HMR
          have HFIN := Lib.hid (HBAD.out r j HX.out hrok)
          clear hrok
          go_wp2_with fail
          refine HMR.out.mono ?_
          rintro e w2 ⟨rfl, hk2⟩
          go_wp2_with fail
          go_ret2
          exact ⟨_, by rw [HFIN.out]; rfl, by rw [HFIN.out]; exact RsAt.nil _, (hkr.trans hkal).trans hk2⟩
        · rw [hrok] at HMR
          have HROK := Lib.hid hrok
          clear hrok
          cases hle : Mt.lets r t
          · rw [hle] at HMR
            have HMR := Lib.hid HMR
            have HLE := Lib.hid hle
            clear hle
            go_wp2_with fail
            refine HMR.out.mono ?_
            rintro e w2 ⟨rfl, hk2⟩
            go_wp2_with fail
            exact ⟨⟨j + 1, dl, by omega, by go_num, (HPK.out.step (hkal.trans hk2)).skip HX.out HROK.out HLE.out, (HBR.out.keeps hkal).keeps hk2⟩, by simp [intOf]; omega⟩
          · rw [hle] at HMR
            have HMR := Lib.hid HMR
            have HLE := Lib.hid hle
            clear hle
            go_wp2_with fail
            refine HMR.out.mono ?_
            rintro e w2 ⟨rfl, hk2⟩
            have hbx := hbx.keeps hk2
            obtain ⟨⟨z0, z1, z2, z3, z4, z5, z6⟩, zf0, zf1, zf2, zf3, zf4, zf5, zf6⟩ := hbx.seven
            have hk2' := hkal.trans hk2
            have hb10 := Rec.ok_bd HROK.out
            go_wp2_with fail
            refine (rs_clone _ r.hdrs _ (HRP.out.keeps hk2') (by omega)).mono ?_
            rintro e w3 ⟨hvn, rfl, hpn, hk3⟩
            obtain ⟨adn, capn, rfl, -, -⟩ := id hpn
            have hbx := hbx.keeps hk3
            obtain ⟨⟨z0, z1, z2, z3, z4, z5, z6⟩, zf0, zf1, zf2, zf3, zf4, zf5, zf6⟩ := hbx.seven
            have hk3' := hk2'.trans hk3
            have hk4 := hk3'.setCell (p := ⟨wr.heap.size, 6, none⟩) (Nat.le_refl _) (.slice adn r.hdrs.length capn)
            have hk5 := hk4.alloc (.cells #[.int .i64 r.at_, .int .i64 r.time, .bool r.bare, .string (str r.key), .bool r.gone, .string (str r.value), .slice adn r.hdrs.length capn] 27)
            have hpk5 := HPK.out.step hk5
            have hs2 := hk2.size
            rw [World.size_alloc] at hs2
            have hpn5 : PairsIn (fun g => (Value.slice ao dl.length capo).ownBlock ≠ some g) ((w3.setCell ⟨wr.heap.size, 6, none⟩ (.slice adn r.hdrs.length capn)).alloc (.cells #[.int .i64 r.at_, .int .i64 r.time, .bool r.bare, .string (str r.key), .bool r.gone, .string (str r.value), .slice adn r.hdrs.length capn] 27)) (.slice adn r.hdrs.length capn) r.hdrs := hpn.move fun g hg hlt => ⟨fun e => by have := HPK.out.old g e; omega, by
              rw [Below.heap_alloc _ _ _ (by simpa [World.setCell] using hlt), Below.heap_setCell _ _ _ _ (by show g ≠ wr.heap.size; omega)]⟩
            have hb5 := HBR.out.keeps hk5
            have hfd := Feeds.new7 (P := Tryd.prog) (w3.setCell ⟨wr.heap.size, 6, none⟩ (.slice adn r.hdrs.length capn)) 27 [.int .i64 r.at_, .int .i64 r.time, .bool r.bare, .string (str r.key), .bool r.gone, .string (str r.value), .slice adn r.hdrs.length capn] rfl (by intro u hu; simp at hu; rcases hu with rfl | rfl | rfl | rfl | rfl | rfl | rfl <;> rfl) 1
            have hsz3 : (w3.setCell ⟨wr.heap.size, 6, none⟩ (.slice adn r.hdrs.length capn)).heap.size = w3.heap.size := by simp [World.setCell]
            rw [hsz3] at hfd
            have hfd := Lib.hid hfd
            have HPK5 := Lib.hid hpk5
            have HPN5 := Lib.hid hpn5
            have HB5 := Lib.hid hb5
            have hsz5 := Lib.hid (show w.heap.size + 1 ≤ ((w3.setCell ⟨wr.heap.size, 6, none⟩ (.slice adn r.hdrs.length capn)).alloc (.cells #[.int .i64 r.at_, .int .i64 r.time, .bool r.bare, .string (str r.key), .bool r.gone, .string (str r.value), .slice adn r.hdrs.length capn] 27)).heap.size from hb5.lt)
            clear hpk5 hpn5 hb5 hs2 hpn
            go_wp2_with (at_builtin; refine wpList_append_new _ rfl _ _ 33 33 rfl (w.heap.size + 1) 27 i0 (.agg #[.int .i64 0, .int .i64 0, .bool false, .string ⟨#[]⟩, .bool false, .string ⟨#[]⟩, .slice none 0 0]) 7 88 Tryd.underlying33 ⟨_, Tryd.underlying33, fun _ h => by cases h⟩ hi hz0 hz1 hz2 rfl (by decide) (.slice ao dl.length capo) dl.length (rcellsL dl) rfl HPK5.out.own (.slice (some ⟨w3.heap.size, 0, none⟩) 1 1) 1 [.int .i64 r.at_, .int .i64 r.time, .bool r.bare, .string (str r.key), .bool r.gone, .string (str r.value), .slice adn r.hdrs.length capn] rfl hfd.out (by have := HJB.out; unfold maxLen; omega) (by have := HJB.out; omega) hsz5.out ?_; intro v' w' hown hg hnew; have hpk6 := Lib.hid (HPK5.out.more HX.out HROK.out HLE.out HPN5.out hown hg hnew); have hb6 := Lib.hid (HB5.out.grown hg (fun e => by have := HPK5.out.own.base w.heap.size e.symm; omega)); obtain ⟨ad2, cap2, rfl, -⟩ := hown.slice; clear hown hg hnew)
            exact ⟨⟨j + 1, _, by omega, by go_num, hpk6.out, hb6.out⟩, by simp [intOf]; omega⟩
      · obtain rfl : j = n := by omega
        obtain ⟨hall, hfin⟩ := HPK.out.fin (by rw [HNN.out]; omega) (by rw [HNN.out]; exact hll)
        have HY := Lib.hid (HYES.out hall)
        have HFIN := Lib.hid hfin
        clear hall hfin
        go_wp2_with fail
        go_ret2
        exact ⟨_, by rw [HY.out]; rfl, by rw [HY.out]; exact HFIN.out, hkr⟩
end Go.Proofs.YtojcfepbmnfflaaDoor
