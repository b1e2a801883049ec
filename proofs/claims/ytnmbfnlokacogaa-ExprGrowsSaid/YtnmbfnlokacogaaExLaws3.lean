/-
  The walks of the laws on filters, 3.
-/
import Derived.Test.YtnmbfnlokacogaaExLaws2
set_option linter.unusedVariables false
namespace Go.Proofs.Ytnmbfnlokacogaa
open Go.RowKit
attribute [local go_sem ↓] Go.wp_at_zero Go.wp_at_succ

theorem sm_of {t : Tree} (h : sm t = true) : t.size ≤ 40 ∧ t.height ≤ 20 := by
  unfold sm siz dep at h
  simp only [Bool.and_eq_true, decide_eq_true_eq] at h
  omega
set_option maxRecDepth 4000 in
set_option maxHeartbeats 6400000 in
theorem grows_true (t u : Tree) (kv ku : Value) (w : World) (hk : KAt w kv t.kids) (hu : KAt w ku u.kids) : Calls Try.prog 8 #[treeV t kv, treeV u ku] w fun e w' => e = .returned (.bool true) ∧ Keeps w w' := by
  have HST := fun w' (h : Keeps w w') => ex_small t kv w' (hk.keeps h)
  have HSU := fun w' (h : Keeps w w') => ex_small u ku w' (hu.keeps h)
  have DT := fun w' (h : Keeps w w') => ex_depth t kv w' (hk.keeps h)
  have DU := fun w' (h : Keeps w w') => ex_depth u ku w' (hu.keeps h)
  have ST := fun w' (h : Keeps w w') => ex_size t kv w' (hk.keeps h)
  have SU := fun w' (h : Keeps w w') => ex_size u ku w' (hu.keeps h)
  have HKT := Lib.hid hk
  have HKU := Lib.hid hu
  obtain ⟨ad, cap, rfl⟩ := hk.form
  obtain ⟨ad', cap', rfl⟩ := hu.form
  simp only [treeV] at HST HSU DT DU ST SU ⊢
  have HST := Lib.hid HST
  have HSU := Lib.hid HSU
  clear hk hu
  have hk0 := (Keeps.refl w).alloc (.cells #[.int .i64 t.op, .string (str t.name), .string (str t.value), .slice ad t.kids.length cap] 24)
  have hkw := hk0.alloc (.cells #[.int .i64 u.op, .string (str u.name), .string (str u.value), .slice ad' u.kids.length cap'] 24)
  have hbt := (Blk.new w 24 #[.int .i64 t.op, .string (str t.name), .string (str t.value), .slice ad t.kids.length cap]).keeps ((Keeps.refl _).alloc (.cells #[.int .i64 u.op, .string (str u.name), .string (str u.value), .slice ad' u.kids.length cap'] 24))
  have hbu := Blk.new (w.alloc (.cells #[.int .i64 t.op, .string (str t.name), .string (str t.value), .slice ad t.kids.length cap] 24)) 24 #[.int .i64 u.op, .string (str u.name), .string (str u.value), .slice ad' u.kids.length cap']
  rw [World.size_alloc] at hbu
  obtain ⟨b, hb⟩ : ∃ b, sm t = b := ⟨_, rfl⟩
  obtain ⟨c, hc⟩ : ∃ b, sm u = b := ⟨_, rfl⟩
  rw [hb] at HST
  rw [hc] at HSU
  cases b
  · clear hb hc DT DU ST SU
    go_enter Try.func8, Try.ntmps8
    go_wp2_with fail
    refine (HST.out _ hkw).mono ?_
    rintro e w1 ⟨rfl, hk1⟩
    go_wp2_with fail
    refine (ex_live _).mono ?_
    rintro e w2 ⟨rfl, hk2⟩
    go_wp2_with fail
    go_ret
    exact ⟨rfl, (hkw.trans hk1).trans hk2⟩
  · cases c
    · clear hb hc DT DU ST SU
      go_enter Try.func8, Try.ntmps8
      go_wp2_with fail
      refine (HST.out _ hkw).mono ?_
      rintro e w1 ⟨rfl, hk1⟩
      obtain ⟨u0, u1, u2, u3⟩ := (hbu.keeps hk1).four
      go_wp2_with fail
      refine (HSU.out _ (hkw.trans hk1)).mono ?_
      rintro e w2 ⟨rfl, hk2⟩
      go_wp2_with fail
      refine (ex_live _).mono ?_
      rintro e w3 ⟨rfl, hk3⟩
      go_wp2_with fail
      go_ret
      exact ⟨rfl, ((hkw.trans hk1).trans hk2).trans hk3⟩
    · obtain ⟨t1, t2⟩ := sm_of hb
      obtain ⟨u1, u2⟩ := sm_of hc
      clear hb hc
      -- the two new filters
      have DN := fun kv w h => ex_depth (.node 3 [] [] [t]) kv w h
      have SN := fun kv w h => ex_size (.node 3 [] [] [t]) kv w h
      have DA := fun kv w h => ex_depth (.node 1 [] [] [t, u]) kv w h
      have SA := fun kv w h => ex_size (.node 1 [] [] [t, u]) kv w h
      have hdt : dep t = (t.height : Int) := by unfold dep; omega
      have hdu : dep u = (u.height : Int) := by unfold dep; omega
      have hst : siz t = (t.size : Int) := by unfold siz; omega
      have hsu : siz u = (u.size : Int) := by unfold siz; omega
      have hdn : dep (.node 3 [] [] [t]) = (t.height : Int) + 1 := by unfold dep; simp only [Tree.height, Tree.heights]; omega
      have hsn : siz (.node 3 [] [] [t]) = (t.size : Int) + 1 := by unfold siz; simp only [Tree.size, Tree.sizes]; omega
      have hda : dep (.node 1 [] [] [t, u]) = max (t.height : Int) (u.height : Int) + 1 := by unfold dep; simp only [Tree.height, Tree.heights]; omega
      have hsa : siz (.node 1 [] [] [t, u]) = (t.size : Int) + (u.size : Int) + 1 := by unfold siz; simp only [Tree.size, Tree.sizes]; omega
      rw [hdt] at DT
      rw [hdu] at DU
      rw [hst] at ST
      rw [hsu] at SU
      rw [hdn] at DN
      rw [hsn] at SN
      rw [hda] at DA
      rw [hsa] at SA
      simp only [treeV, Tree.op, Tree.name, Tree.value] at DN SN DA SA
      obtain ⟨a, ha⟩ : ∃ a, (t.height : Int) = a := ⟨_, rfl⟩
      obtain ⟨c, hc⟩ : ∃ a, (u.height : Int) = a := ⟨_, rfl⟩
      obtain ⟨d, hd⟩ : ∃ a, (t.size : Int) = a := ⟨_, rfl⟩
      obtain ⟨e, he⟩ : ∃ a, (u.size : Int) = a := ⟨_, rfl⟩
      rw [ha] at DT DN DA
      rw [hc] at DU DA
      rw [hd] at ST SN SA
      rw [he] at SU SA
      obtain ⟨a1, ha1⟩ : ∃ x, a + 1 = x := ⟨_, rfl⟩
      obtain ⟨d1, hd1⟩ : ∃ x, d + 1 = x := ⟨_, rfl⟩
      obtain ⟨f, hf⟩ : ∃ x, d + e = x := ⟨_, rfl⟩
      obtain ⟨f1, hf1⟩ : ∃ x, f + 1 = x := ⟨_, rfl⟩
      obtain ⟨m, hm⟩ : ∃ x, max a c = x := ⟨_, rfl⟩
      obtain ⟨m1, hm1⟩ : ∃ x, m + 1 = x := ⟨_, rfl⟩
      rw [ha1] at DN
      rw [hd1] at SN
      rw [hf, hf1] at SA
      rw [hm, hm1] at DA
      have wa : IntKind.i64.wrap (a + 1) = a1 := by rw [IntKind.wrap_i64]; omega
      have wd : IntKind.i64.wrap (d + 1) = d1 := by rw [IntKind.wrap_i64]; omega
      have wf : IntKind.i64.wrap (d + e) = f := by rw [IntKind.wrap_i64]; omega
      have wf1 : IntKind.i64.wrap (f + 1) = f1 := by rw [IntKind.wrap_i64]; omega
      have wm1 : IntKind.i64.wrap (m + 1) = m1 := by rw [IntKind.wrap_i64]; omega
      have hmx : (if a < c then c else a) = m := by rw [← hm]; omega
      have DT := Lib.hid DT
      have DU := Lib.hid DU
      have ST := Lib.hid ST
      have SU := Lib.hid SU
      have DN := Lib.hid DN
      have SN := Lib.hid SN
      have DA := Lib.hid DA
      have SA := Lib.hid SA
      clear ha1 hd1 hf hf1 hm hm1
      clear ha hc hd he hdt hdu hst hsu hdn hsn hda hsa t1 t2 u1 u2
      go_enter Try.func8, Try.ntmps8
      go_wp2_with fail
      refine (HST.out _ hkw).mono ?_
      rintro e1 w1 ⟨rfl, hk1⟩
      have hbt := hbt.keeps hk1
      have hbu := hbu.keeps hk1
      have hkw := hkw.trans hk1
      obtain ⟨u0, u1, u2, u3⟩ := hbu.four
      go_wp2_with fail
      refine (HSU.out _ hkw).mono ?_
      rintro e2 w2 ⟨rfl, hk2⟩
      have hbt := hbt.keeps hk2
      have hbu := hbu.keeps hk2
      have hkw := hkw.trans hk2
      obtain ⟨u0, u1, u2, u3⟩ := hbu.four
      obtain ⟨t0, t1, t2, t3⟩ := hbt.four
      have hl1 := hbt.lt
      have hl2 := hbu.lt
      have hne1 : ¬ w.heap.size = w2.heap.size := by omega
      have hne2 : ¬ w.heap.size + 1 = w2.heap.size := by omega
      have hne3 : ¬ w.heap.size = w2.heap.size + 1 := by omega
      have hne4 : ¬ w.heap.size + 1 = w2.heap.size + 1 := by omega
      clear hl1 hl2
      -- the world behind the four blocks
      have k2 := ((Keeps.refl w2).alloc (.cells #[.int .i64 t.op, .string (str t.name), .string (str t.value), .slice ad t.kids.length cap] 24)).alloc (.cells #[.int .i64 3, .string ⟨#[]⟩, .string ⟨#[]⟩, .slice (some ⟨w2.heap.size, 0, none⟩) 1 1] 24)
      obtain ⟨t0', t1', t2', t3'⟩ := (hbt.keeps k2).four
      obtain ⟨u0', u1', u2', u3'⟩ := (hbu.keeps k2).four
      have k3 := k2.alloc (.cells #[.int .i64 t.op, .string (str t.name), .string (str t.value), .slice ad t.kids.length cap, .int .i64 u.op, .string (str u.name), .string (str u.value), .slice ad' u.kids.length cap'] 24)
      have k4 := k3.alloc (.cells #[.int .i64 1, .string ⟨#[]⟩, .string ⟨#[]⟩, .slice (some ⟨w2.heap.size + 1 + 1, 0, none⟩) 2 2] 24)
      have hN := (Blk.new (w2.alloc (.cells #[.int .i64 t.op, .string (str t.name), .string (str t.value), .slice ad t.kids.length cap] 24)) 24 #[.int .i64 3, .string ⟨#[]⟩, .string ⟨#[]⟩, .slice (some ⟨w2.heap.size, 0, none⟩) 1 1])
      rw [World.size_alloc] at hN
      have hC := (Blk.new ((w2.alloc (.cells #[.int .i64 t.op, .string (str t.name), .string (str t.value), .slice ad t.kids.length cap] 24)).alloc (.cells #[.int .i64 3, .string ⟨#[]⟩, .string ⟨#[]⟩, .slice (some ⟨w2.heap.size, 0, none⟩) 1 1] 24)) 24 #[.int .i64 t.op, .string (str t.name), .string (str t.value), .slice ad t.kids.length cap, .int .i64 u.op, .string (str u.name), .string (str u.value), .slice ad' u.kids.length cap'])
      rw [World.size_alloc, World.size_alloc] at hC
      have hA := (Blk.new (((w2.alloc (.cells #[.int .i64 t.op, .string (str t.name), .string (str t.value), .slice ad t.kids.length cap] 24)).alloc (.cells #[.int .i64 3, .string ⟨#[]⟩, .string ⟨#[]⟩, .slice (some ⟨w2.heap.size, 0, none⟩) 1 1] 24)).alloc (.cells #[.int .i64 t.op, .string (str t.name), .string (str t.value), .slice ad t.kids.length cap, .int .i64 u.op, .string (str u.name), .string (str u.value), .slice ad' u.kids.length cap'] 24)) 24 #[.int .i64 1, .string ⟨#[]⟩, .string ⟨#[]⟩, .slice (some ⟨w2.heap.size + 1 + 1, 0, none⟩) 2 2])
      rw [World.size_alloc, World.size_alloc, World.size_alloc] at hA
      have hN4 := (hN.keeps ((Keeps.refl ((w2.alloc (.cells #[.int .i64 t.op, .string (str t.name), .string (str t.value), .slice ad t.kids.length cap] 24)).alloc (.cells #[.int .i64 3, .string ⟨#[]⟩, .string ⟨#[]⟩, .slice (some ⟨w2.heap.size, 0, none⟩) 1 1] 24))).alloc (.cells #[.int .i64 t.op, .string (str t.name), .string (str t.value), .slice ad t.kids.length cap, .int .i64 u.op, .string (str u.name), .string (str u.value), .slice ad' u.kids.length cap'] 24))).keeps ((Keeps.refl (((w2.alloc (.cells #[.int .i64 t.op, .string (str t.name), .string (str t.value), .slice ad t.kids.length cap] 24)).alloc (.cells #[.int .i64 3, .string ⟨#[]⟩, .string ⟨#[]⟩, .slice (some ⟨w2.heap.size, 0, none⟩) 1 1] 24)).alloc (.cells #[.int .i64 t.op, .string (str t.name), .string (str t.value), .slice ad t.kids.length cap, .int .i64 u.op, .string (str u.name), .string (str u.value), .slice ad' u.kids.length cap'] 24))).alloc (.cells #[.int .i64 1, .string ⟨#[]⟩, .string ⟨#[]⟩, .slice (some ⟨w2.heap.size + 1 + 1, 0, none⟩) 2 2] 24))
      have hC4 := hC.keeps ((Keeps.refl (((w2.alloc (.cells #[.int .i64 t.op, .string (str t.name), .string (str t.value), .slice ad t.kids.length cap] 24)).alloc (.cells #[.int .i64 3, .string ⟨#[]⟩, .string ⟨#[]⟩, .slice (some ⟨w2.heap.size, 0, none⟩) 1 1] 24)).alloc (.cells #[.int .i64 t.op, .string (str t.name), .string (str t.value), .slice ad t.kids.length cap, .int .i64 u.op, .string (str u.name), .string (str u.value), .slice ad' u.kids.length cap'] 24))).alloc (.cells #[.int .i64 1, .string ⟨#[]⟩, .string ⟨#[]⟩, .slice (some ⟨w2.heap.size + 1 + 1, 0, none⟩) 2 2] 24))
      have hB4 := (Blk.new w2 24 #[.int .i64 t.op, .string (str t.name), .string (str t.value), .slice ad t.kids.length cap]).keeps ((((Keeps.refl (w2.alloc (.cells #[.int .i64 t.op, .string (str t.name), .string (str t.value), .slice ad t.kids.length cap] 24))).alloc (.cells #[.int .i64 3, .string ⟨#[]⟩, .string ⟨#[]⟩, .slice (some ⟨w2.heap.size, 0, none⟩) 1 1] 24)).alloc (.cells #[.int .i64 t.op, .string (str t.name), .string (str t.value), .slice ad t.kids.length cap, .int .i64 u.op, .string (str u.name), .string (str u.value), .slice ad' u.kids.length cap'] 24)).alloc (.cells #[.int .i64 1, .string ⟨#[]⟩, .string ⟨#[]⟩, .slice (some ⟨w2.heap.size + 1 + 1, 0, none⟩) 2 2] 24))
      have hkt := HKT.out.keeps (hkw.trans k4)
      have hku := HKU.out.keeps (hkw.trans k4)
      have hNK := KAt.one (t := t) hB4 hkt
      have hAK := KAt.two (t := t) (u := u) hC4 hkt hku
      have hbt4 := hbt.keeps k4
      have hbu4 := hbu.keeps k4
      have hkw4 := hkw.trans k4
      clear hN hC hB4 hC4 hkt hku k2 k3 k4
      have HNK := Lib.hid hNK
      have HAK := Lib.hid hAK
      have HN4 := Lib.hid hN4
      have HA4 := Lib.hid hA
      have HT4 := Lib.hid hbt4
      have HU4 := Lib.hid hbu4
      have HK4 := Lib.hid hkw4
      clear hNK hAK hN4 hA hbt4 hbu4 hkw4
      go_upto_region 5 with fail
      generalize hw5 : ((((w2.alloc (.cells #[.int .i64 t.op, .string (str t.name), .string (str t.value), .slice ad t.kids.length cap] 24)).alloc (.cells #[.int .i64 3, .string ⟨#[]⟩, .string ⟨#[]⟩, .slice (some ⟨w2.heap.size, 0, none⟩) 1 1] 24)).alloc (.cells #[.int .i64 t.op, .string (str t.name), .string (str t.value), .slice ad t.kids.length cap, .int .i64 u.op, .string (str u.name), .string (str u.value), .slice ad' u.kids.length cap'] 24)).alloc (.cells #[.int .i64 1, .string ⟨#[]⟩, .string ⟨#[]⟩, .slice (some ⟨w2.heap.size + 1 + 1, 0, none⟩) 2 2] 24)) = w5 at *
      clear t0 t1 t2 t3 u0 u1 u2 u3 t0' t1' t2' t3' u0' u1' u2' u3'
      obtain ⟨t0, t1, t2, t3⟩ := HT4.out.four
      obtain ⟨u0, u1, u2, u3⟩ := HU4.out.four
      obtain ⟨n0, n1, n2, n3⟩ := HN4.out.four
      obtain ⟨a0, a1, a2, a3⟩ := HA4.out.four
      have DN := Lib.hid (fun w' (h : Keeps w5 w') => DN.out _ w' (HNK.out.keeps h))
      have SN := Lib.hid (fun w' (h : Keeps w5 w') => SN.out _ w' (HNK.out.keeps h))
      have DA := Lib.hid (fun w' (h : Keeps w5 w') => DA.out _ w' (HAK.out.keeps h))
      have SA := Lib.hid (fun w' (h : Keeps w5 w') => SA.out _ w' (HAK.out.keeps h))
      clear hw5
      go_region_held3 (fun w' => Keeps w5 w' ∧ w'.cell? ⟨w.heap.size, 0, none⟩ = some (.int .i64 t.op) ∧ w'.cell? ⟨w.heap.size, 1, none⟩ = some (.string (str t.name)) ∧ w'.cell? ⟨w.heap.size, 2, none⟩ = some (.string (str t.value)) ∧ w'.cell? ⟨w.heap.size, 3, none⟩ = some (.slice ad t.kids.length cap) ∧ w'.cell? ⟨w.heap.size + 1, 0, none⟩ = some (.int .i64 u.op) ∧ w'.cell? ⟨w.heap.size + 1, 1, none⟩ = some (.string (str u.name)) ∧ w'.cell? ⟨w.heap.size + 1, 2, none⟩ = some (.string (str u.value)) ∧ w'.cell? ⟨w.heap.size + 1, 3, none⟩ = some (.slice ad' u.kids.length cap') ∧ w'.cell? ⟨w2.heap.size + 1, 0, none⟩ = some (.int .i64 3) ∧ w'.cell? ⟨w2.heap.size + 1, 1, none⟩ = some (.string ⟨#[]⟩) ∧ w'.cell? ⟨w2.heap.size + 1, 2, none⟩ = some (.string ⟨#[]⟩) ∧ w'.cell? ⟨w2.heap.size + 1, 3, none⟩ = some (.slice (some ⟨w2.heap.size, 0, none⟩) 1 1) ∧ w'.cell? ⟨w2.heap.size + 1 + 1 + 1, 0, none⟩ = some (.int .i64 1) ∧ w'.cell? ⟨w2.heap.size + 1 + 1 + 1, 1, none⟩ = some (.string ⟨#[]⟩) ∧ w'.cell? ⟨w2.heap.size + 1 + 1 + 1, 2, none⟩ = some (.string ⟨#[]⟩) ∧ w'.cell? ⟨w2.heap.size + 1 + 1 + 1, 3, none⟩ = some (.slice (some ⟨w2.heap.size + 1 + 1, 0, none⟩) 2 2)) ((refine (fun hq => ⟨hq, Keeps.cell hq t0, Keeps.cell hq t1, Keeps.cell hq t2, Keeps.cell hq t3, Keeps.cell hq u0, Keeps.cell hq u1, Keeps.cell hq u2, Keeps.cell hq u3, Keeps.cell hq n0, Keeps.cell hq n1, Keeps.cell hq n2, Keeps.cell hq n3, Keeps.cell hq a0, Keeps.cell hq a1, Keeps.cell hq a2, Keeps.cell hq a3⟩) ?_; first | exact (Keeps.refl w5).drew | exact (And.left ‹Keeps w5 _ ∧ _›) | exact Keeps.trans (And.left ‹Keeps w5 _ ∧ _›) (by assumption))) ((first
        | (go_at_call_of 13 (Value.slice (some ⟨w2.heap.size, 0, none⟩) 1 1); refine (DN.out _ (And.left ‹Keeps w5 _ ∧ _›)).mono ?_; rintro e w' ⟨rfl, hkn⟩)
        | (go_at_call_of 13 (Value.slice ad t.kids.length cap); refine (DT.out _ (HK4.out.trans (And.left ‹Keeps w5 _ ∧ _›))).mono ?_; rintro e w' ⟨rfl, hkn⟩)
        | (go_at_call_of 13 (Value.slice ad' u.kids.length cap'); refine (DU.out _ (HK4.out.trans (And.left ‹Keeps w5 _ ∧ _›))).mono ?_; rintro e w' ⟨rfl, hkn⟩)
        | (go_at_call_of 15 (Value.slice (some ⟨w2.heap.size, 0, none⟩) 1 1); refine (SN.out _ (And.left ‹Keeps w5 _ ∧ _›)).mono ?_; rintro e w' ⟨rfl, hkn⟩)
        | (go_at_call_of 15 (Value.slice ad t.kids.length cap); refine (ST.out _ (HK4.out.trans (And.left ‹Keeps w5 _ ∧ _›))).mono ?_; rintro e w' ⟨rfl, hkn⟩)
        | (go_at_call_of 15 (Value.slice ad' u.kids.length cap'); refine (SU.out _ (HK4.out.trans (And.left ‹Keeps w5 _ ∧ _›))).mono ?_; rintro e w' ⟨rfl, hkn⟩)
        | (go_at_call 13; refine (DA.out _ (And.left ‹Keeps w5 _ ∧ _›)).mono ?_; rintro e w' ⟨rfl, hkn⟩)
        | (go_at_call 15; refine (SA.out _ (And.left ‹Keeps w5 _ ∧ _›)).mono ?_; rintro e w' ⟨rfl, hkn⟩)
        | (go_at_call 10; refine (ex_live _).mono ?_; rintro e w' ⟨rfl, hkn⟩)))
      have hS := (‹Keeps w5 _ ∧ _›).1
      go_wp2_with fail
      go_ret
      exact ⟨rfl, HK4.out.trans hS⟩
end Go.Proofs.Ytnmbfnlokacogaa
