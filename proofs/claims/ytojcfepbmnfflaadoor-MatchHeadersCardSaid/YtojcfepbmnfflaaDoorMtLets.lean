/-
  match.lets and match.Match: the walks.
-/
import Derived.Test.YtojcfepbmnfflaaDoorMtFn
import Derived.Test.YtojcfepbmnfflaaDoorExAll
import Derived.Test.YtojcfepbmnfflaaDoorRcCheck
import Derived.Test.YtojcfepbmnfflaaDoorTkHas
import Derived.Test.YtojcfepbmnfflaaDoorExPlF
import Derived.Deep.RegionHeld3
set_option linter.unusedVariables false
namespace Go.Proofs.YtojcfepbmnfflaaDoor
open Go.RowKit

theorem Rec.ok_bd {r : Rec} (h : r.ok = true) : r.hdrs.length ≤ 10 ∧ r.value.length ≤ 1000 ∧ r.key.length ≤ 1000 := by
  simp only [ok, ok2, Bool.and_eq_true, decide_eq_true_eq] at h
  exact ⟨h.1.1.2.2, h.1.1.2.1.2, h.1.1.2.1.1⟩

set_option maxRecDepth 4000 in
theorem mt_pass (t : Tree) (kv : Value) (r : Rec) (hv : Value) (q : Nat) (b : Bool) (w : World) (hka : KAt w kv t.kids) (hhv : ∃ ad cap, hv = .slice ad r.hdrs.length cap)
    (hb : Blk w q 27 #[.int .i64 r.at_, .int .i64 r.time, .bool r.bare, .string (str r.key), .bool r.gone, .string (str r.value), hv])
    (hc : ∀ w', Keeps w w' → Calls Tryd.prog 22 #[treeV t kv, recV r hv] w' fun e w'' => e = .returned (.bool b) ∧ Keeps w' w'') :
    Calls Tryd.prog 31 #[treeV t kv, .pointer (some ⟨q, 0, none⟩)] w fun e w' => e = .returned (.bool b) ∧ Keeps w w' := by
  obtain ⟨ad, cap, rfl⟩ := hka.form
  obtain ⟨ad', cap', rfl⟩ := hhv
  simp only [treeV, recV] at hc ⊢
  have HC := Lib.hid hc
  obtain ⟨⟨q0, q1, q2, q3, q4, q5, q6⟩, -⟩ := (hb.keeps ((Keeps.refl w).alloc (.cells #[.int .i64 t.op, .string (str t.name), .string (str t.value), .slice ad t.kids.length cap] 24))).seven
  have hl := hb.lt
  have hne : ¬ q = w.heap.size := by omega
  clear hka hc hb hl
  go_enter Tryd.func31, Tryd.ntmps31
  go_wp2_with fail
  refine (HC.out _ ((Keeps.refl _).alloc _)).mono ?_
  rintro e w1 ⟨rfl, hk1⟩
  go_wp2_with fail
  go_ret
  exact ⟨rfl, ((Keeps.refl _).alloc _).trans hk1⟩
set_option maxRecDepth 4000 in
theorem mt_fail (t : Tree) (kv : Value) (r : Rec) (hv : Value) (q : Nat) (b : Bool) (w : World) (hka : KAt w kv t.kids) (hhv : ∃ ad cap, hv = .slice ad r.hdrs.length cap)
    (hb : Blk w q 27 #[.int .i64 r.at_, .int .i64 r.time, .bool r.bare, .string (str r.key), .bool r.gone, .string (str r.value), hv])
    (hc : ∀ w', Keeps w w' → Calls Tryd.prog 22 #[treeV t kv, recV r hv] w' fun e w'' => e = .returned (.bool b) ∧ Keeps w' w'') :
    Calls Tryd.prog 32 #[treeV t kv, .pointer (some ⟨q, 0, none⟩)] w fun e w' => e = .returned (.bool !b) ∧ Keeps w w' := by
  obtain ⟨ad, cap, rfl⟩ := hka.form
  obtain ⟨ad', cap', rfl⟩ := hhv
  simp only [treeV, recV] at hc ⊢
  have HC := Lib.hid hc
  obtain ⟨⟨q0, q1, q2, q3, q4, q5, q6⟩, -⟩ := (hb.keeps ((Keeps.refl w).alloc (.cells #[.int .i64 t.op, .string (str t.name), .string (str t.value), .slice ad t.kids.length cap] 24))).seven
  have hl := hb.lt
  have hne : ¬ q = w.heap.size := by omega
  clear hka hc hb hl
  go_enter Tryd.func32, Tryd.ntmps32
  go_wp2_with fail
  refine (HC.out _ ((Keeps.refl _).alloc _)).mono ?_
  rintro e w1 ⟨rfl, hk1⟩
  go_wp2_with fail
  go_ret
  exact ⟨rfl, ((Keeps.refl _).alloc _).trans hk1⟩

set_option maxRecDepth 4000 in
set_option maxHeartbeats 6400000 in
theorem mt_lets (k : Nat) : ∀ (t : Tree) (kv : Value) (r : Rec) (hv : Value) (w : World), Tree.allp k t = true → KAt w kv t.kids → PairsAt w hv r.hdrs → r.ok = true → U8 w →
    Calls Tryd.prog 22 #[treeV t kv, recV r hv] w fun e w' => e = .returned (.bool (Mt.lets r t)) ∧ Keeps w w' := by
  induction k with
  | zero => intro t kv r hv w h; simp [Tree.allp] at h
  | succ k ih =>
    intro t kv r hv w hall hka hpa hrok hT
    simp only [Tree.allp, Bool.and_eq_true] at hall
    obtain ⟨hop, hnl, hvl, hkl⟩ := Tree.fits_bd hall.1
    have hks : ∀ x ∈ t.kids, Tree.allp k x = true := fun x hx => List.all_eq_true.1 hall.2 x hx
    obtain ⟨rb1, rb2, rb3⟩ := Rec.ok_bd hrok
    obtain ⟨ad, cap, hkv⟩ := hka.form
    obtain ⟨ad', cap', hhv, -, -⟩ := id hpa
    have HN := Lib.hid (show Mt.lets r t = if t.op = 1 then t.kids.all (Mt.lets r) else if t.op = 2 then t.kids.any (Mt.lets r) else if t.op = 3 then !(t.kids.all (Mt.lets r)) else Mt.own t.op t.name t.value r by obtain ⟨o, n, v, ks⟩ := t; exact Mt.lets_node r o n v ks)
    rw [HN.out]
    -- the two boxes
    have hkw := ((Keeps.refl w).alloc (.cells #[.int .i64 t.op, .string (str t.name), .string (str t.value), kv] 24)).alloc (.cells #[.int .i64 r.at_, .int .i64 r.time, .bool r.bare, .string (str r.key), .bool r.gone, .string (str r.value), hv] 27)
    have hb1 := (Blk.new w 24 #[.int .i64 t.op, .string (str t.name), .string (str t.value), kv]).keeps ((Keeps.refl _).alloc (.cells #[.int .i64 r.at_, .int .i64 r.time, .bool r.bare, .string (str r.key), .bool r.gone, .string (str r.value), hv] 27))
    have hb2 := Blk.new (w.alloc (.cells #[.int .i64 t.op, .string (str t.name), .string (str t.value), kv] 24)) 27 #[.int .i64 r.at_, .int .i64 r.time, .bool r.bare, .string (str r.key), .bool r.gone, .string (str r.value), hv]
    rw [World.size_alloc] at hb2
    obtain ⟨wb, hwb⟩ : ∃ wb, (w.alloc (.cells #[.int .i64 t.op, .string (str t.name), .string (str t.value), kv] 24)).alloc (.cells #[.int .i64 r.at_, .int .i64 r.time, .bool r.bare, .string (str r.key), .bool r.gone, .string (str r.value), hv] 27) = wb := ⟨_, rfl⟩
    rw [hwb] at hkw hb1 hb2
    have CP := Lib.hid (fun w' (hk : Keeps wb w') => contains_pass (.pointer (some ⟨w.heap.size + 1, 0, none⟩)) (Mt.lets r) t.kids kv w' (hka.keeps (hkw.trans hk))
      (fun x hx kx w2 hk2 hkx => mt_pass x kx r hv _ _ w2 hkx ⟨_, _, hhv⟩ ((hb2.keeps hk).keeps hk2) (fun w3 hk3 => ih x kx r hv w3 (hks x hx) (hkx.keeps hk3) (hpa.keeps (((hkw.trans hk).trans hk2).trans hk3)) hrok (hT.keeps (((hkw.trans hk).trans hk2).trans hk3)))))
    have CF := Lib.hid (fun w' (hk : Keeps wb w') => contains_fail (.pointer (some ⟨w.heap.size + 1, 0, none⟩)) (fun x => !(Mt.lets r x)) t.kids kv w' (hka.keeps (hkw.trans hk))
      (fun x hx kx w2 hk2 hkx => mt_fail x kx r hv _ _ w2 hkx ⟨_, _, hhv⟩ ((hb2.keeps hk).keeps hk2) (fun w3 hk3 => ih x kx r hv w3 (hks x hx) (hkx.keeps hk3) (hpa.keeps (((hkw.trans hk).trans hk2).trans hk3)) hrok (hT.keeps (((hkw.trans hk).trans hk2).trans hk3)))))
    rw [Mt.not_any] at CF
    have HH := fun w' (hk : Keeps wb w') => rc_header r hv t.name w' (hpa.keeps (hkw.trans hk)) (by omega)
    have HW := fun w' (hk : Keeps wb w') => tk_has (str r.value) (by rw [str_size]; omega) (str t.value) (by rw [str_size]; omega) w' (hT.keeps (hkw.trans hk))
    rw [show decide (Tk.fold (str t.value).data.toList ∈ Tk.words (str r.value).data.toList) = Mt.has r.value t.value from rfl] at HW
    have HP := Lib.hid (fun w' => has_prefix r.key t.value w')
    obtain ⟨⟨hx, hy⟩, hH⟩ : ∃ g, r.header t.name = g := ⟨_, rfl⟩
    rw [hH] at HH
    simp only [retH, recV] at HH
    have HH := Lib.hid HH
    have HW := Lib.hid HW
    have HOWN := Lib.hid (show Mt.own t.op t.name t.value r = if t.op = 4 then hy else if t.op = 5 then hy && hx == t.value else if t.op = 6 then !r.bare && Mt.pre r.key t.value else if t.op = 7 then !r.gone && Mt.has r.value t.value else true by unfold Mt.own; rw [hH])
    rw [HOWN.out]
    simp only [treeV, recV]
    subst hkv
    subst hhv
    obtain ⟨op, hopd⟩ : ∃ o, t.op = o := ⟨_, rfl⟩
    rw [hopd] at hop hb1 hwb ⊢
    obtain ⟨al, hal⟩ : ∃ b, t.kids.all (Mt.lets r) = b := ⟨_, rfl⟩
    obtain ⟨an, han⟩ : ∃ b, t.kids.any (Mt.lets r) = b := ⟨_, rfl⟩
    obtain ⟨pr, hpr⟩ : ∃ b, Mt.pre r.key t.value = b := ⟨_, rfl⟩
    obtain ⟨hs, hhs⟩ : ∃ b, Mt.has r.value t.value = b := ⟨_, rfl⟩
    rw [hal] at CF ⊢
    rw [han] at CP ⊢
    rw [hpr] at HP ⊢
    rw [hhs] at HW ⊢
    have hst := str_beq
    obtain ⟨x0, x1, x2, x3⟩ := hb1.four
    obtain ⟨⟨r0, r1, r2, r3, r4, r5, r6⟩, -⟩ := hb2.seven
    clear hal han hpr hhs hH hka hpa hrok hT hall hks ih rb1 rb2 rb3 hnl hvl hkl HN HOWN hopd hb1 hb2
    rcases hop with rfl | rfl | rfl | rfl | rfl | rfl | rfl | rfl
    · go_enter Tryd.func22, Tryd.ntmps22
      go_wp2_with fail
      go_ret
      exact ⟨rfl, hkw⟩
    · go_enter Tryd.func22, Tryd.ntmps22
      go_wp2_with fail
      go_region_held3 (fun w' => Keeps wb w' ∧ w'.cell? ⟨w.heap.size, 0, none⟩ = some (.int .i64 1) ∧ w'.cell? ⟨w.heap.size, 3, none⟩ = some (.slice ad t.kids.length cap)) ((refine (fun hq => ⟨hq, Keeps.cell hq x0, Keeps.cell hq x3⟩) ?_; first | exact (Keeps.refl wb).drew | exact Keeps.trans (And.left ‹Keeps wb _ ∧ _›) (by assumption))) ((go_at_call 33; refine (CF.out _ (And.left ‹Keeps wb _ ∧ _›)).mono ?_; rintro e w' ⟨rfl, hkn⟩))
      have hS := (‹Keeps wb _ ∧ _›).1
      go_wp2_with fail
      go_ret
      exact ⟨by cases al <;> rfl, hkw.trans hS⟩
    · go_enter Tryd.func22, Tryd.ntmps22
      go_wp2_with fail
      refine (CP.out _ (Keeps.refl _)).mono ?_
      rintro e w1 ⟨rfl, hk1⟩
      go_wp2_with fail
      go_ret
      exact ⟨rfl, hkw.trans hk1⟩
    · go_enter Tryd.func22, Tryd.ntmps22
      go_wp2_with fail
      go_region_held3 (fun w' => Keeps wb w' ∧ w'.cell? ⟨w.heap.size, 0, none⟩ = some (.int .i64 3) ∧ w'.cell? ⟨w.heap.size, 3, none⟩ = some (.slice ad t.kids.length cap)) ((refine (fun hq => ⟨hq, Keeps.cell hq x0, Keeps.cell hq x3⟩) ?_; first | exact (Keeps.refl wb).drew | exact Keeps.trans (And.left ‹Keeps wb _ ∧ _›) (by assumption))) ((go_at_call 33; refine (CF.out _ (And.left ‹Keeps wb _ ∧ _›)).mono ?_; rintro e w' ⟨rfl, hkn⟩))
      have hS := (‹Keeps wb _ ∧ _›).1
      go_wp2_with fail
      go_ret
      exact ⟨by cases al <;> rfl, hkw.trans hS⟩
    · go_enter Tryd.func22, Tryd.ntmps22
      go_wp2_with fail
      refine (HH.out _ (Keeps.refl _)).mono ?_
      rintro e w1 ⟨rfl, hk1⟩
      have x0 := hk1.cell x0
      cases hy
      all_goals
        go_wp2_with fail
        go_ret
        exact ⟨rfl, hkw.trans hk1⟩
    · go_enter Tryd.func22, Tryd.ntmps22
      go_wp2_with fail
      refine (HH.out _ (Keeps.refl _)).mono ?_
      rintro e w1 ⟨rfl, hk1⟩
      have x0 := hk1.cell x0
      have x2 := hk1.cell x2
      cases hy
      all_goals
        go_wp2_with fail
        go_ret
        exact ⟨rfl, hkw.trans hk1⟩
    · obtain ⟨bb, hbb⟩ : ∃ b, r.bare = b := ⟨_, rfl⟩
      rw [hbb] at r2 hwb HH ⊢
      cases bb
      · go_enter Tryd.func22, Tryd.ntmps22
        go_wp2_with fail
        refine (HP.out _).mono ?_
        rintro e w1 ⟨rfl, rfl⟩
        go_wp2_with fail
        go_ret
        exact ⟨rfl, hkw⟩
      · go_enter Tryd.func22, Tryd.ntmps22
        go_wp2_with fail
        go_ret
        exact ⟨rfl, hkw⟩
    · obtain ⟨bb, hbb⟩ : ∃ b, r.gone = b := ⟨_, rfl⟩
      rw [hbb] at r4 hwb HH ⊢
      cases bb
      · go_enter Tryd.func22, Tryd.ntmps22
        go_wp2_with fail
        refine (HW.out _ (Keeps.refl _)).mono ?_
        rintro e w1 ⟨rfl, hk1⟩
        go_wp2_with fail
        go_ret
        exact ⟨rfl, hkw.trans hk1⟩
      · go_enter Tryd.func22, Tryd.ntmps22
        go_wp2_with fail
        go_ret
        exact ⟨rfl, hkw⟩

/-- a Boolean and an error -/
def retB (g : Bool × Int) : Ending := .returned (.tuple #[.bool g.1, .int .i64 g.2])
set_option maxRecDepth 4000 in
set_option maxHeartbeats 1600000 in
theorem mt_match (t : Tree) (kv : Value) (r : Rec) (hv : Value) (w : World) (hka : KAt w kv t.kids) (hpa : PairsAt w hv r.hdrs) (hT : U8 w) :
    Calls Tryd.prog 11 #[treeV t kv, recV r hv] w fun e w' => e = retB (Mt.match' t r) ∧ Keeps w w' := by
  have HC := fun w' (h : Keeps w w') => ex_check t kv w' (hka.keeps h)
  have HR := fun w' (h : Keeps w w') => rc_check r hv w' (hpa.keeps h)
  have HL := fun (h1 : t.ok = true) (h2 : r.ok = true) w' (h : Keeps w w') => mt_lets 6 t kv r hv w' (by simp only [Tree.ok, Bool.and_eq_true] at h1; exact h1.2) (hka.keeps h) (hpa.keeps h) h2 (hT.keeps h)
  have HM := Lib.hid (show Mt.match' t r = if t.ok && r.ok then (Mt.lets r t, 0) else (false, 1) from rfl)
  have h1 : t.check = if t.ok then 0 else 1 := rfl
  have h2 : r.check = if r.ok then 0 else 1 := rfl
  rw [HM.out]
  rw [h1] at HC
  rw [h2] at HR
  obtain ⟨a, ha⟩ : ∃ a, t.ok = a := ⟨_, rfl⟩
  obtain ⟨b, hb⟩ : ∃ a, r.ok = a := ⟨_, rfl⟩
  obtain ⟨c, hc⟩ : ∃ a, Mt.lets r t = a := ⟨_, rfl⟩
  rw [ha] at HC HL ⊢
  rw [hb] at HR HL ⊢
  rw [hc] at HL ⊢
  obtain ⟨ad, cap, rfl⟩ := hka.form
  obtain ⟨ad', cap', rfl, -, -⟩ := id hpa
  have hkw := ((Keeps.refl w).alloc (.cells #[.int .i64 t.op, .string (str t.name), .string (str t.value), .slice ad t.kids.length cap] 24)).alloc (.cells #[.int .i64 r.at_, .int .i64 r.time, .bool r.bare, .string (str r.key), .bool r.gone, .string (str r.value), .slice ad' r.hdrs.length cap'] 27)
  have hb1 := (Blk.new w 24 #[.int .i64 t.op, .string (str t.name), .string (str t.value), .slice ad t.kids.length cap]).keeps ((Keeps.refl _).alloc (.cells #[.int .i64 r.at_, .int .i64 r.time, .bool r.bare, .string (str r.key), .bool r.gone, .string (str r.value), .slice ad' r.hdrs.length cap'] 27))
  have hb2 := Blk.new (w.alloc (.cells #[.int .i64 t.op, .string (str t.name), .string (str t.value), .slice ad t.kids.length cap] 24)) 27 #[.int .i64 r.at_, .int .i64 r.time, .bool r.bare, .string (str r.key), .bool r.gone, .string (str r.value), .slice ad' r.hdrs.length cap']
  rw [World.size_alloc] at hb2
  simp only [treeV, recV] at HC HR HL ⊢
  have HC := Lib.hid HC
  have HR := Lib.hid HR
  clear hka hpa hT h1 h2 ha hb hc HM
  cases a
  · go_enter Tryd.func11, Tryd.ntmps11
    go_wp2_with fail
    refine (HC.out _ hkw).mono ?_
    rintro e w1 ⟨rfl, hk1⟩
    go_wp2_with fail
    go_ret2
    exact ⟨rfl, hkw.trans hk1⟩
  · cases b
    · go_enter Tryd.func11, Tryd.ntmps11
      go_wp2_with fail
      refine (HC.out _ hkw).mono ?_
      rintro e w1 ⟨rfl, hk1⟩
      obtain ⟨⟨r0, r1, r2, r3, r4, r5, r6⟩, -⟩ := (hb2.keeps hk1).seven
      go_wp2_with fail
      refine (HR.out _ (hkw.trans hk1)).mono ?_
      rintro e w2 ⟨rfl, hk2⟩
      go_wp2_with fail
      go_ret2
      exact ⟨rfl, (hkw.trans hk1).trans hk2⟩
    · have HL2 := Lib.hid (fun w' h => HL (by simp) (by simp) w' h)
      clear HL
      go_enter Tryd.func11, Tryd.ntmps11
      go_wp2_with fail
      refine (HC.out _ hkw).mono ?_
      rintro e w1 ⟨rfl, hk1⟩
      obtain ⟨⟨r0, r1, r2, r3, r4, r5, r6⟩, -⟩ := (hb2.keeps hk1).seven
      go_wp2_with fail
      refine (HR.out _ (hkw.trans hk1)).mono ?_
      rintro e w2 ⟨rfl, hk2⟩
      obtain ⟨⟨r0, r1, r2, r3, r4, r5, r6⟩, -⟩ := ((hb2.keeps hk1).keeps hk2).seven
      obtain ⟨x0, x1, x2, x3⟩ := ((hb1.keeps hk1).keeps hk2).four
      go_wp2_with fail
      refine (HL2.out _ ((hkw.trans hk1).trans hk2)).mono ?_
      rintro e w3 ⟨rfl, hk3⟩
      go_wp2_with fail
      go_ret2
      exact ⟨rfl, ((hkw.trans hk1).trans hk2).trans hk3⟩
end Go.Proofs.YtojcfepbmnfflaaDoor
