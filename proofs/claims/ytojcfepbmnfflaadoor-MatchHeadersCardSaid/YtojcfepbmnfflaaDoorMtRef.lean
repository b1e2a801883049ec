/-
  flotsamref08.Lets and Match: the walks.
-/
import Derived.Test.YtojcfepbmnfflaaDoorMtLets
import Derived.Test.YtojcfepbmnfflaaDoorExRefC
import Derived.Test.YtojcfepbmnfflaaDoorRcCheckR
import Derived.Test.YtojcfepbmnfflaaDoorTkRefH
import Derived.BigQuiet
set_option linter.unusedVariables false
namespace Go.Proofs.YtojcfepbmnfflaaDoor
open Go.RowKit

theorem Keeps.drewN (w : World) (n : Nat) : Keeps w (w.drewN n) := ⟨rfl, rfl, rfl, Nat.le_refl _, fun _ _ => rfl⟩
theorem Tree.fits_not {t : Tree} (h : t.fits = true) (ho : t.op = 3) : ∃ x, t.kids = [x] := by
  cases Tree.fits_form h with
  | all => simp [Tree.op] at ho
  | many o ks ho' h2 h30 => simp [Tree.op] at ho; omega
  | not k => exact ⟨k, rfl⟩
  | has n h0 h => simp [Tree.op] at ho
  | is n v h0 h hv => simp [Tree.op] at ho
  | val o v ho' h0 hv => simp [Tree.op] at ho; omega
theorem Mt.words_few {l : List UInt8} (h : l.length ≤ 1000) : (Tk.words l).length ≤ 2 ^ 40 := by
  have := Tk.words_count l.length l [] (Nat.le_refl _)
  rw [Tk.words_from]
  omega

set_option maxRecDepth 4000 in
set_option maxHeartbeats 6400000 in
theorem ref_lets (k : Nat) : ∀ (t : Tree) (kv : Value) (r : Rec) (hv : Value) (w : World), k ≤ 100 → Tree.allp k t = true → KAt w kv t.kids → PairsAt w hv r.hdrs → r.ok = true → U8 w →
    Calls Tryd.prog 24 #[treeV t kv, recV r hv, .int .i64 k] w fun e w' => e = .returned (.bool (Mt.lets r t)) ∧ Keeps w w' := by
  induction k with
  | zero => intro t kv r hv w _ h; simp [Tree.allp] at h
  | succ k ih =>
    intro t kv r hv w hk100 hall hka hpa hrok hT
    simp only [Tree.allp, Bool.and_eq_true] at hall
    obtain ⟨hop, hnl, hvl, hkl⟩ := Tree.fits_bd hall.1
    have hnot := Tree.fits_not hall.1
    have hks : ∀ x ∈ t.kids, Tree.allp k x = true := fun x hx => List.all_eq_true.1 hall.2 x hx
    obtain ⟨rb1, rb2, rb3⟩ := Rec.ok_bd hrok
    obtain ⟨ad', cap', hhv, -, -⟩ := id hpa
    have HN := Lib.hid (show Mt.lets r t = if t.op = 1 then t.kids.all (Mt.lets r) else if t.op = 2 then t.kids.any (Mt.lets r) else if t.op = 3 then !(t.kids.all (Mt.lets r)) else Mt.own t.op t.name t.value r by obtain ⟨o, n, v, ks⟩ := t; exact Mt.lets_node r o n v ks)
    rw [HN.out]
    have hne0 : decide (((k + 1 : Nat) : Int) < 1) = false := by simp; omega
    have hsub : ((k + 1 : Nat) : Int) - 1 = (k : Int) := by omega
    obtain ⟨K1, hK1⟩ : ∃ K, ((k + 1 : Nat) : Int) = K := ⟨_, rfl⟩
    rw [hK1] at hne0 hsub ⊢
    have hKw : IntKind.i64.wrap (K1 - 1) = K1 - 1 := by rw [IntKind.wrap_i64]; omega
    obtain ⟨n, hn⟩ : ∃ n, t.kids.length = n := ⟨_, rfl⟩
    have HNN := Lib.hid hn
    have hkw0 : ∀ (c1 : Value), Keeps w ((w.alloc (.cells #[.int .i64 t.op, .string (str t.name), .string (str t.value), c1] 24)).alloc (.cells #[.int .i64 r.at_, .int .i64 r.time, .bool r.bare, .string (str r.key), .bool r.gone, .string (str r.value), hv] 27)) := fun c1 => ((Keeps.refl w).alloc _).alloc _
    obtain ⟨ks, hks'⟩ : ∃ ks, t.kids = ks := ⟨_, rfl⟩
    rw [hks'] at hka hn hnot hks HNN ⊢
    cases hka with
    | mk ad cap l kvs gg o hll h0 ha hcs hk =>
    have HA := Lib.hid ha
    have HC := Lib.hid hcs
    have HK := Lib.hid hk
    rw [hn] at hll ⊢
    have hkw := hkw0 (.slice ad n cap)
    have hb1 := (Blk.new w 24 #[.int .i64 t.op, .string (str t.name), .string (str t.value), .slice ad n cap]).keeps ((Keeps.refl _).alloc (.cells #[.int .i64 r.at_, .int .i64 r.time, .bool r.bare, .string (str r.key), .bool r.gone, .string (str r.value), hv] 27))
    have hb2 := Blk.new (w.alloc (.cells #[.int .i64 t.op, .string (str t.name), .string (str t.value), .slice ad n cap] 24)) 27 #[.int .i64 r.at_, .int .i64 r.time, .bool r.bare, .string (str r.key), .bool r.gone, .string (str r.value), hv]
    rw [World.size_alloc] at hb2
    obtain ⟨wb, hwb⟩ : ∃ wb, (w.alloc (.cells #[.int .i64 t.op, .string (str t.name), .string (str t.value), .slice ad n cap] 24)).alloc (.cells #[.int .i64 r.at_, .int .i64 r.time, .bool r.bare, .string (str r.key), .bool r.gone, .string (str r.value), hv] 27) = wb := ⟨_, rfl⟩
    rw [hwb] at hkw hb1 hb2
    have HI := fun x (hx : x ∈ ks) kx w' (hk : Keeps wb w') (hkx : KAt w' kx x.kids) => ih x kx r hv w' (by omega) (hks x hx) hkx (hpa.keeps (hkw.trans hk)) hrok (hT.keeps (hkw.trans hk))
    rw [← hsub] at HI
    have HH := fun w' (hk : Keeps wb w') => ref_header r hv t.name w' (hpa.keeps (hkw.trans hk)) (by omega)
    have HW := fun w' (hk : Keeps wb w') => ref_has (str r.value) (by rw [str_size]; omega) (Mt.words_few rb2) (str t.value) (by rw [str_size]; omega) w' (hT.keeps (hkw.trans hk))
    rw [show decide (Tk.fold (str t.value).data.toList ∈ Tk.words (str r.value).data.toList) = Mt.has r.value t.value from rfl] at HW
    obtain ⟨⟨hx, hy⟩, hH⟩ : ∃ g, r.header t.name = g := ⟨_, rfl⟩
    rw [hH] at HH
    simp only [retH, recV, treeV] at HH HI ⊢
    have HH := Lib.hid HH
    have HW := Lib.hid HW
    have HI := Lib.hid HI
    have HOWN := Lib.hid (show Mt.own t.op t.name t.value r = if t.op = 4 then hy else if t.op = 5 then hy && hx == t.value else if t.op = 6 then !r.bare && Mt.pre r.key t.value else if t.op = 7 then !r.gone && Mt.has r.value t.value else true by unfold Mt.own; rw [hH])
    rw [HOWN.out]
    subst hhv
    obtain ⟨op, hopd⟩ : ∃ o, t.op = o := ⟨_, rfl⟩
    rw [hopd] at hop hb1 hwb hnot ⊢
    have hst := str_beq
    have hsz := str_size
    obtain ⟨x0, x1, x2, x3⟩ := hb1.four
    obtain ⟨⟨r0, r1, r2, r3, r4, r5, r6⟩, -⟩ := hb2.seven
    have hrb3 := Lib.hid rb3
    have hvl' := Lib.hid hvl
    clear ha hcs hk hn h0 hH hpa hrok hT hall hks ih rb1 rb2 rb3 hnl hvl hkl HN HOWN hopd hkw0 hk100 hK1 hsub
    rcases hop with rfl | rfl | rfl | rfl | rfl | rfl | rfl | rfl
    all_goals
      go_enter Tryd.func24, Tryd.ntmps24
      go_wp2_with fail
      refine (HH.out _ (Keeps.refl _)).mono ?_
      rintro e w1 ⟨rfl, hk1⟩
      have x0 := hk1.cell x0
      have x1 := hk1.cell x1
      have x2 := hk1.cell x2
      have x3 := hk1.cell x3
      have r0 := hk1.cell r0
      have r1 := hk1.cell r1
      have r2 := hk1.cell r2
      have r3 := hk1.cell r3
      have r4 := hk1.cell r4
      have r5 := hk1.cell r5
      have r6 := hk1.cell r6
    · go_wp2_with fail
      go_ret
      exact ⟨rfl, hkw.trans hk1⟩
    · go_wp2_with fail
      go_loopw [9] (fun i wr => ∃ j : Nat, j ≤ n ∧ i = .int .i64 j ∧ (ks.take j).all (Mt.lets r) = true ∧ Keeps w1 wr) (fun i _ => n - (intOf i).toNat)
      case atStart => exact ⟨0, by omega, rfl, by simp, Keeps.refl _⟩
      case round =>
        obtain ⟨j, hj, rfl, hall, hkr1⟩ := hrel
        have HALL := Lib.hid hall
        have hkr := hk1.trans hkr1
        have x3 := hkr1.cell x3
        have r0 := hkr1.cell r0
        have r1 := hkr1.cell r1
        have r2 := hkr1.cell r2
        have r3 := hkr1.cell r3
        have r4 := hkr1.cell r4
        have r5 := hkr1.cell r5
        have r6 := hkr1.cell r6
        clear hall
        by_cases hlt : j < n
        · obtain ⟨x, hx⟩ : ∃ x, ks[j]? = some x := ⟨_, List.getElem?_eq_getElem (by rw [HNN.out]; exact hlt)⟩
          obtain rfl := HA.out (by intro e; rw [e] at hx; simp at hx)
          obtain ⟨c0, c1, c2, c3⟩ := HC.out j x hx
          have c0 := (hkw.trans hkr).cell c0
          have c1 := (hkw.trans hkr).cell c1
          have c2 := (hkw.trans hkr).cell c2
          have c3 := (hkw.trans hkr).cell c3
          have hkx := HK.out j x hx
          obtain ⟨adx, capx, he'⟩ := hkx.form
          rw [he'] at c3 hkx
          have HKX := Lib.hid (hkx.keeps (hkw.trans hkr))
          have HIX := Lib.hid (HI.out x (List.mem_of_getElem? hx))
          have HX := Lib.hid hx
          clear he' hkx hx
          go_wp2_with fail
          go_region_held3 (fun w' => Keeps wr w' ∧ w'.cell? ⟨w.heap.size, 3, none⟩ = some (.slice (some ⟨gg, o, none⟩) n cap) ∧ w'.cell? ⟨gg, o + j * 4, none⟩ = some (.int .i64 x.op) ∧ w'.cell? ⟨gg, o + j * 4 + 1, none⟩ = some (.string (str x.name)) ∧ w'.cell? ⟨gg, o + j * 4 + 2, none⟩ = some (.string (str x.value)) ∧ w'.cell? ⟨gg, o + j * 4 + 3, none⟩ = some (.slice adx x.kids.length capx) ∧ w'.cell? ⟨w.heap.size + 1, 0, none⟩ = some (.int .i64 r.at_) ∧ w'.cell? ⟨w.heap.size + 1, 1, none⟩ = some (.int .i64 r.time) ∧ w'.cell? ⟨w.heap.size + 1, 2, none⟩ = some (.bool r.bare) ∧ w'.cell? ⟨w.heap.size + 1, 3, none⟩ = some (.string (str r.key)) ∧ w'.cell? ⟨w.heap.size + 1, 4, none⟩ = some (.bool r.gone) ∧ w'.cell? ⟨w.heap.size + 1, 5, none⟩ = some (.string (str r.value)) ∧ w'.cell? ⟨w.heap.size + 1, 6, none⟩ = some (.slice ad' r.hdrs.length cap')) ((refine (fun hq => ⟨hq, Keeps.cell hq x3, Keeps.cell hq c0, Keeps.cell hq c1, Keeps.cell hq c2, Keeps.cell hq c3, Keeps.cell hq r0, Keeps.cell hq r1, Keeps.cell hq r2, Keeps.cell hq r3, Keeps.cell hq r4, Keeps.cell hq r5, Keeps.cell hq r6⟩) ?_; first | exact (Keeps.refl wr).drew | exact Keeps.trans (And.left ‹Keeps wr _ ∧ _›) (by assumption))) ((go_at_call 24; refine (HIX.out _ _ (hkr.trans (And.left ‹Keeps wr _ ∧ _›)) (HKX.out.keeps (And.left ‹Keeps wr _ ∧ _›))).mono ?_; rintro e w' ⟨rfl, hkn⟩))
          have hS := (‹Keeps wr _ ∧ _›).1
          cases hax : Mt.lets r x
          · have hfin := Lib.hid (show ks.all (Mt.lets r) = false by rw [List.all_eq_false]; exact ⟨x, List.mem_of_getElem? HX.out, by rw [hax]; simp⟩)
            go_wp2_with fail
            go_ret
            exact ⟨by rw [hfin.out]; rfl, (hkw.trans hkr).trans hS⟩
          · have HAX := Lib.hid hax
            go_wp2_with fail
            exact ⟨⟨j + 1, by omega, by go_num, by rw [List.take_add_one, HX.out, Option.toList, List.all_append, HALL.out]; simp [HAX.out], hkr1.trans hS⟩, by simp [intOf]; omega⟩
        · obtain rfl : j = n := by omega
          have hfin := Lib.hid (show ks.all (Mt.lets r) = true by have := HALL.out; rwa [List.take_of_length_le (by rw [HNN.out]; omega)] at this)
          go_wp2_with fail
          go_ret
          exact ⟨by rw [hfin.out]; rfl, hkw.trans hkr⟩
    · go_wp2_with fail
      go_loopw [10] (fun i wr => ∃ j : Nat, j ≤ n ∧ i = .int .i64 j ∧ (ks.take j).any (Mt.lets r) = false ∧ Keeps w1 wr) (fun i _ => n - (intOf i).toNat)
      case atStart => exact ⟨0, by omega, rfl, by simp, Keeps.refl _⟩
      case round =>
        obtain ⟨j, hj, rfl, hall, hkr1⟩ := hrel
        have HALL := Lib.hid hall
        have hkr := hk1.trans hkr1
        have x3 := hkr1.cell x3
        have r0 := hkr1.cell r0
        have r1 := hkr1.cell r1
        have r2 := hkr1.cell r2
        have r3 := hkr1.cell r3
        have r4 := hkr1.cell r4
        have r5 := hkr1.cell r5
        have r6 := hkr1.cell r6
        clear hall
        by_cases hlt : j < n
        · obtain ⟨x, hx⟩ : ∃ x, ks[j]? = some x := ⟨_, List.getElem?_eq_getElem (by rw [HNN.out]; exact hlt)⟩
          obtain rfl := HA.out (by intro e; rw [e] at hx; simp at hx)
          obtain ⟨c0, c1, c2, c3⟩ := HC.out j x hx
          have c0 := (hkw.trans hkr).cell c0
          have c1 := (hkw.trans hkr).cell c1
          have c2 := (hkw.trans hkr).cell c2
          have c3 := (hkw.trans hkr).cell c3
          have hkx := HK.out j x hx
          obtain ⟨adx, capx, he'⟩ := hkx.form
          rw [he'] at c3 hkx
          have HKX := Lib.hid (hkx.keeps (hkw.trans hkr))
          have HIX := Lib.hid (HI.out x (List.mem_of_getElem? hx))
          have HX := Lib.hid hx
          clear he' hkx hx
          go_wp2_with fail
          go_region_held3 (fun w' => Keeps wr w' ∧ w'.cell? ⟨w.heap.size, 3, none⟩ = some (.slice (some ⟨gg, o, none⟩) n cap) ∧ w'.cell? ⟨gg, o + j * 4, none⟩ = some (.int .i64 x.op) ∧ w'.cell? ⟨gg, o + j * 4 + 1, none⟩ = some (.string (str x.name)) ∧ w'.cell? ⟨gg, o + j * 4 + 2, none⟩ = some (.string (str x.value)) ∧ w'.cell? ⟨gg, o + j * 4 + 3, none⟩ = some (.slice adx x.kids.length capx) ∧ w'.cell? ⟨w.heap.size + 1, 0, none⟩ = some (.int .i64 r.at_) ∧ w'.cell? ⟨w.heap.size + 1, 1, none⟩ = some (.int .i64 r.time) ∧ w'.cell? ⟨w.heap.size + 1, 2, none⟩ = some (.bool r.bare) ∧ w'.cell? ⟨w.heap.size + 1, 3, none⟩ = some (.string (str r.key)) ∧ w'.cell? ⟨w.heap.size + 1, 4, none⟩ = some (.bool r.gone) ∧ w'.cell? ⟨w.heap.size + 1, 5, none⟩ = some (.string (str r.value)) ∧ w'.cell? ⟨w.heap.size + 1, 6, none⟩ = some (.slice ad' r.hdrs.length cap')) ((refine (fun hq => ⟨hq, Keeps.cell hq x3, Keeps.cell hq c0, Keeps.cell hq c1, Keeps.cell hq c2, Keeps.cell hq c3, Keeps.cell hq r0, Keeps.cell hq r1, Keeps.cell hq r2, Keeps.cell hq r3, Keeps.cell hq r4, Keeps.cell hq r5, Keeps.cell hq r6⟩) ?_; first | exact (Keeps.refl wr).drew | exact Keeps.trans (And.left ‹Keeps wr _ ∧ _›) (by assumption))) ((go_at_call 24; refine (HIX.out _ _ (hkr.trans (And.left ‹Keeps wr _ ∧ _›)) (HKX.out.keeps (And.left ‹Keeps wr _ ∧ _›))).mono ?_; rintro e w' ⟨rfl, hkn⟩))
          have hS := (‹Keeps wr _ ∧ _›).1
          cases hax : Mt.lets r x
          · have HAX := Lib.hid hax
            go_wp2_with fail
            exact ⟨⟨j + 1, by omega, by go_num, by rw [List.take_add_one, HX.out, Option.toList, List.any_append, HALL.out]; simp [HAX.out], hkr1.trans hS⟩, by simp [intOf]; omega⟩
          · have hfin := Lib.hid (show ks.any (Mt.lets r) = true by rw [List.any_eq_true]; exact ⟨x, List.mem_of_getElem? HX.out, hax⟩)
            go_wp2_with fail
            go_ret
            exact ⟨by rw [hfin.out]; rfl, (hkw.trans hkr).trans hS⟩
        · obtain rfl : j = n := by omega
          have hfin := Lib.hid (show ks.any (Mt.lets r) = false by have := HALL.out; rwa [List.take_of_length_le (by rw [HNN.out]; omega)] at this)
          go_wp2_with fail
          go_ret
          exact ⟨by rw [hfin.out]; rfl, hkw.trans hkr⟩
    · obtain ⟨x, hxk⟩ := hnot (by simp)
      subst hxk
      obtain rfl : n = 1 := HNN.out.symm
      obtain rfl := HA.out (by simp)
      obtain ⟨c0, c1, c2, c3⟩ := HC.out 0 x rfl
      have c0 := (hkw.trans hk1).cell c0
      have c1 := (hkw.trans hk1).cell c1
      have c2 := (hkw.trans hk1).cell c2
      have c3 := (hkw.trans hk1).cell c3
      have hkx := HK.out 0 x rfl
      obtain ⟨adx, capx, he'⟩ := hkx.form
      rw [he'] at c3 hkx
      have HKX := Lib.hid (hkx.keeps (hkw.trans hk1))
      have HIX := Lib.hid (HI.out x (by simp))
      simp only [Nat.zero_mul, Nat.add_zero] at c0 c1 c2 c3
      clear he' hkx
      go_wp2_with fail
      go_region_held3 (fun w' => Keeps w1 w' ∧ w'.cell? ⟨w.heap.size, 3, none⟩ = some (.slice (some ⟨gg, o, none⟩) 1 cap) ∧ w'.cell? ⟨gg, o, none⟩ = some (.int .i64 x.op) ∧ w'.cell? ⟨gg, o + 1, none⟩ = some (.string (str x.name)) ∧ w'.cell? ⟨gg, o + 2, none⟩ = some (.string (str x.value)) ∧ w'.cell? ⟨gg, o + 3, none⟩ = some (.slice adx x.kids.length capx) ∧ w'.cell? ⟨w.heap.size + 1, 0, none⟩ = some (.int .i64 r.at_) ∧ w'.cell? ⟨w.heap.size + 1, 1, none⟩ = some (.int .i64 r.time) ∧ w'.cell? ⟨w.heap.size + 1, 2, none⟩ = some (.bool r.bare) ∧ w'.cell? ⟨w.heap.size + 1, 3, none⟩ = some (.string (str r.key)) ∧ w'.cell? ⟨w.heap.size + 1, 4, none⟩ = some (.bool r.gone) ∧ w'.cell? ⟨w.heap.size + 1, 5, none⟩ = some (.string (str r.value)) ∧ w'.cell? ⟨w.heap.size + 1, 6, none⟩ = some (.slice ad' r.hdrs.length cap')) ((refine (fun hq => ⟨hq, Keeps.cell hq x3, Keeps.cell hq c0, Keeps.cell hq c1, Keeps.cell hq c2, Keeps.cell hq c3, Keeps.cell hq r0, Keeps.cell hq r1, Keeps.cell hq r2, Keeps.cell hq r3, Keeps.cell hq r4, Keeps.cell hq r5, Keeps.cell hq r6⟩) ?_; first | exact (Keeps.refl w1).drew | exact Keeps.trans (And.left ‹Keeps w1 _ ∧ _›) (by assumption))) ((go_at_call 24; refine (HIX.out _ _ (hk1.trans (And.left ‹Keeps w1 _ ∧ _›)) (HKX.out.keeps (And.left ‹Keeps w1 _ ∧ _›))).mono ?_; rintro e w' ⟨rfl, hkn⟩))
      have hS := (‹Keeps w1 _ ∧ _›).1
      go_wp2_with fail
      go_ret
      exact ⟨by simp, (hkw.trans hk1).trans hS⟩
    · go_wp2_with fail
      go_ret
      exact ⟨rfl, hkw.trans hk1⟩
    · cases hy
      all_goals
        go_wp2_with fail
        go_ret
        exact ⟨rfl, hkw.trans hk1⟩
    · obtain ⟨bb, hbb⟩ : ∃ b, r.bare = b := ⟨_, rfl⟩
      have hex : (str r.key).extract 0 t.value.length = str (r.key.take t.value.length) := by
        rw [← str_of ((str r.key).extract 0 t.value.length), Lib.extract_data, str_list]; simp
      rw [hbb] at r2 ⊢
      cases bb
      · by_cases hle : t.value.length ≤ r.key.length
        · have hd : decide ((t.value.length : Int) ≤ (r.key.length : Int)) = true := by simpa using hle
          have hd' : decide (t.value.length ≤ r.key.length) = true := by simpa using hle
          have hfin := Lib.hid (show Mt.pre r.key t.value = (r.key.take t.value.length == t.value) by unfold Mt.pre; rw [hd', Bool.true_and])
          go_wp2_with fail
          go_quiet (fail)
          go_wp2_with fail
          go_ret
          exact ⟨by rw [hfin.out]; rfl, (hkw.trans hk1).trans (Keeps.drewN w1 _)⟩
        · have hd : decide ((t.value.length : Int) ≤ (r.key.length : Int)) = false := by simpa using hle
          have hd' : decide (t.value.length ≤ r.key.length) = false := by simpa using hle
          have hfin := Lib.hid (show Mt.pre r.key t.value = false by unfold Mt.pre; rw [hd', Bool.false_and])
          clear hle
          go_wp2_with fail
          go_quiet (fail)
          go_wp2_with fail
          go_ret
          exact ⟨by rw [hfin.out]; rfl, (hkw.trans hk1).trans (Keeps.drewN w1 _)⟩
      · go_wp2_with fail
        go_quiet (fail)
        go_wp2_with fail
        go_ret
        exact ⟨rfl, (hkw.trans hk1).trans (Keeps.drewN w1 _)⟩
    · obtain ⟨bb, hbb⟩ : ∃ b, r.gone = b := ⟨_, rfl⟩
      rw [hbb] at r4 ⊢
      cases bb
      · go_wp2_with fail
        refine (HW.out _ hk1).mono ?_
        rintro e w2 ⟨rfl, hk2⟩
        go_wp2_with fail
        go_ret
        exact ⟨rfl, (hkw.trans hk1).trans hk2⟩
      · go_wp2_with fail
        go_ret
        exact ⟨rfl, hkw.trans hk1⟩

set_option maxRecDepth 4000 in
set_option maxHeartbeats 1600000 in
theorem ref_match (t : Tree) (kv : Value) (r : Rec) (hv : Value) (w : World) (hka : KAt w kv t.kids) (hpa : PairsAt w hv r.hdrs) (hT : U8 w) :
    Calls Tryd.prog 12 #[treeV t kv, recV r hv] w fun e w' => e = retB (Mt.match' t r) ∧ Keeps w w' := by
  have HC := fun w' (h : Keeps w w') => ref_xcheck t kv w' (hka.keeps h)
  have HR := fun w' (h : Keeps w w') => ref_check r hv w' (hpa.keeps h)
  have HL := fun (h1 : t.ok = true) (h2 : r.ok = true) w' (h : Keeps w w') => ref_lets 6 t kv r hv w' (by decide) (by simp only [Tree.ok, Bool.and_eq_true] at h1; exact h1.2) (hka.keeps h) (hpa.keeps h) h2 (hT.keeps h)
  have HL := show ∀ (h1 : t.ok = true) (h2 : r.ok = true) w' (h : Keeps w w'), Calls Tryd.prog 24 #[treeV t kv, recV r hv, .int .i64 6] w' fun e w'' => e = .returned (.bool (Mt.lets r t)) ∧ Keeps w' w'' from HL
  have HM := Lib.hid (show Mt.match' t r = if t.ok && r.ok then (Mt.lets r t, 0) else (false, 1) from rfl)
  have h1 : t.check = if t.ok then 0 else 1 := rfl
  have h2 : r.check = if r.ok then 0 else 1 := rfl
  rw [HM.out]
  rw [h1] at HC
  rw [h2] at HR
  obtain ⟨a, ha⟩ : ∃ a, t.ok = a := ⟨_, rfl⟩
  obtain ⟨b, hb⟩ : ∃ a, r.ok = a := ⟨_, rfl⟩
  obtain ⟨c, hc⟩ : ∃ a, Mt.lets r t = a := ⟨_, rfl⟩
  rw [ha] at HC HL ⊢
  rw [hb] at HR HL ⊢
  rw [hc] at HL ⊢
  obtain ⟨ad, cap, rfl⟩ := hka.form
  obtain ⟨ad', cap', rfl, -, -⟩ := id hpa
  have hkw := ((Keeps.refl w).alloc (.cells #[.int .i64 t.op, .string (str t.name), .string (str t.value), .slice ad t.kids.length cap] 24)).alloc (.cells #[.int .i64 r.at_, .int .i64 r.time, .bool r.bare, .string (str r.key), .bool r.gone, .string (str r.value), .slice ad' r.hdrs.length cap'] 27)
  have hb1 := (Blk.new w 24 #[.int .i64 t.op, .string (str t.name), .string (str t.value), .slice ad t.kids.length cap]).keeps ((Keeps.refl _).alloc (.cells #[.int .i64 r.at_, .int .i64 r.time, .bool r.bare, .string (str r.key), .bool r.gone, .string (str r.value), .slice ad' r.hdrs.length cap'] 27))
  have hb2 := Blk.new (w.alloc (.cells #[.int .i64 t.op, .string (str t.name), .string (str t.value), .slice ad t.kids.length cap] 24)) 27 #[.int .i64 r.at_, .int .i64 r.time, .bool r.bare, .string (str r.key), .bool r.gone, .string (str r.value), .slice ad' r.hdrs.length cap']
  rw [World.size_alloc] at hb2
  simp only [treeV, recV] at HC HR HL ⊢
  have HC := Lib.hid HC
  have HR := Lib.hid HR
  clear hka hpa hT h1 h2 ha hb hc HM
  cases a
  · clear HL
    go_enter Tryd.func12, Tryd.ntmps12
    go_wp2_with fail
    refine (HC.out _ hkw).mono ?_
    rintro e w1 ⟨rfl, hk1⟩
    go_wp2_with fail
    go_ret2
    exact ⟨rfl, hkw.trans hk1⟩
  · cases b
    · clear HL
      go_enter Tryd.func12, Tryd.ntmps12
      go_wp2_with fail
      refine (HC.out _ hkw).mono ?_
      rintro e w1 ⟨rfl, hk1⟩
      obtain ⟨⟨r0, r1, r2, r3, r4, r5, r6⟩, -⟩ := (hb2.keeps hk1).seven
      go_wp2_with fail
      refine (HR.out _ (hkw.trans hk1)).mono ?_
      rintro e w2 ⟨rfl, hk2⟩
      go_wp2_with fail
      go_ret2
      exact ⟨rfl, (hkw.trans hk1).trans hk2⟩
    · have HL2 := Lib.hid (fun w' h => HL (by simp) (by simp) w' h)
      clear HL
      go_enter Tryd.func12, Tryd.ntmps12
      go_wp2_with fail
      refine (HC.out _ hkw).mono ?_
      rintro e w1 ⟨rfl, hk1⟩
      obtain ⟨⟨r0, r1, r2, r3, r4, r5, r6⟩, -⟩ := (hb2.keeps hk1).seven
      go_wp2_with fail
      refine (HR.out _ (hkw.trans hk1)).mono ?_
      rintro e w2 ⟨rfl, hk2⟩
      obtain ⟨⟨r0, r1, r2, r3, r4, r5, r6⟩, -⟩ := ((hb2.keeps hk1).keeps hk2).seven
      obtain ⟨x0, x1, x2, x3⟩ := ((hb1.keeps hk1).keeps hk2).four
      go_wp2_with fail
      refine (HL2.out _ ((hkw.trans hk1).trans hk2)).mono ?_
      rintro e w3 ⟨rfl, hk3⟩
      go_wp2_with fail
      go_ret2
      exact ⟨rfl, ((hkw.trans hk1).trans hk2).trans hk3⟩
end Go.Proofs.YtojcfepbmnfflaaDoor
