/-
  The codec's list[string]: the walks, reading and writing.
  The codec's list[api.Topic]: the walks, reading and writing.
  The codec's list[api.Part]: the walks, reading and writing.
  The codec's list of batches: the walks, reading and writing.
-/
import Derived.Test.YtgbnpehpfadehaaGreatDoorLsPl
set_option linter.unusedVariables false
namespace Go.Proofs.YtgbnpehpfadehaaGreatDoor
open Go.RowKit

theorem info_lS : (Tryz.prog.info? 9).map (fun i => (i.zero, i.size, i.bytes)) = some (some (.string ⟨#[]⟩), 1, 16) := by kernel_rfl

set_option maxRecDepth 4000 in
set_option maxHeartbeats 1600000 in
theorem cd_listS_rd (l : List UInt8) (st : Rd.St) (hl : l.length ≤ 2 ^ 62) (hst : Rd.Fine l st) (most : Nat) (hmost : most ≤ 500) (c q o k : Nat) (Tq Tk : TypeId) (qs : Array Value) (ho : qs[o]? = some (.slice none 0 0)) (hcq : c ≠ q) (hkc : k ≠ c) (hkq : k ≠ q) (w : World)
    (hc : Blk w c 81 (Cs.rd l st).cells) (hq : Blk w q Tq qs) (hk : Blk w k Tk #[.pointer (some ⟨c, 0, none⟩)]) (P : Nat → Prop) :
    Calls Tryz.prog 36 #[.pointer (some ⟨c, 0, none⟩), .pointer (some ⟨q, o, none⟩), .int .i64 (most : Nat), .func (.func 37) #[] #[.pointer (some ⟨k, 0, none⟩)]] w
      (ListDid 1 tcell Tq w c q P ((Cs.rd l st).list (most : Int) (Cs.txt 100) [] []).2 qs o ((Cs.rd l st).list (most : Int) (Cs.txt 100) [] []).1) := by
  obtain ⟨i0, hi, hz0, hz1, hz2⟩ := info_parts info_lS
  have hclt := hc.lt
  have hqlt := hq.lt
  have hklt := hk.lt
  have hqc : ¬ q = c := fun e => hcq e.symm
  have hnc : c ≠ w.heap.size := by omega
  have hnq : q ≠ w.heap.size := by omega
  have hqn' : ¬ q = w.heap.size := hnq
  have HAL := Lib.hid ((Keeps.refl w).alloc (.cells #[.int .i64 0] 3))
  have HNB := Lib.hid (Blk.new w 3 #[.int .i64 0])
  have HC := Lib.hid (hc.keeps HAL.out)
  have HQ := Lib.hid (hq.keeps HAL.out)
  have HK := Lib.hid hk
  have hqo := hq.cell o _ ho
  have HO := Lib.hid ho
  have hosz : o < qs.size := (Array.getElem?_eq_some_iff.1 ho).1
  have NU := Lib.hid (fun w' hc hn => cd_num 0 (by decide) (Cs.rd l st) ⟨hl, hst⟩ 0 (most : Int) 0 (by decide) c w.heap.size 0 3 #[.int .i64 0] rfl hnc w' hc hn)
  have hfine := (show (Cs.rd l st).Fine 0 from ⟨hl, hst⟩).num 0 (most : Int) 0
  have hnum : (Cs.rd l st).num 0 (most : Int) 0 = ((Rd.rn 0 (most : Int) l st).1, Cs.rd l (Rd.rn 0 (most : Int) l st).2) := rfl
  have hlist : (Cs.rd l st).list (most : Int) (Cs.txt 100) [] [] = Cs.eachR (Cs.txt 100) [] (Rd.rn 0 (most : Int) l st).1.toNat (Cs.rd l (Rd.rn 0 (most : Int) l st).2) := by
    unfold Cs.list; rw [if_pos (show (Cs.rd l st).reads = true from rfl)]; rfl
  have hmm0 : (Rd.rn 0 (most : Int) l st).2.2 = 0 → 0 ≤ (Rd.rn 0 (most : Int) l st).1 ∧ (Rd.rn 0 (most : Int) l st).1 ≤ most := fun h => (Rd.rn_ok rfl h).2
  rw [hnum] at NU hfine
  obtain ⟨⟨m, st1⟩, hrn⟩ : ∃ r, Rd.rn 0 (most : Int) l st = r := ⟨_, rfl⟩
  rw [hrn] at NU hfine hlist hmm0
  rw [hlist]
  simp only at hfine hmm0
  obtain ⟨hf1, hm64⟩ := hfine
  have hm64 := hm64 rfl
  have HMM := Lib.hid (fun (h : (Cs.rd l st1).bad = false) => hmm0 (by simpa [Cs.bad] using h))
  have HF1 := Lib.hid hf1
  clear hrn hnum hlist hmm0 hf1 hc hq hk ho hst hl hnc
  go_enter Tryz.func36, Tryz.ntmps36
  go_wp2_with fail
  refine (NU.out _ HC.out HNB.out).mono ?_
  rintro e w1 ⟨rfl, hd⟩
  have hcs1 : w1.cell? ⟨c, 2, none⟩ = some (.bool true) := hd.cb.cs.1
  have hnb1 : Blk w1 w.heap.size 3 #[.int .i64 m] := hd.qb
  have hnc1 := hnb1.cell 0 _ rfl
  have hon := hd.two.only (Only.of_keeps (b := c) HAL.out) (Nat.le_refl _)
  have hq1 := HQ.out.two hd.two hqc hnq
  have hqc1 := hq1.cell o _ HO.out
  have hqf1 := hq1.frozen o
  have HLR := Lib.hid (LR.start (size := 1) (f := tcell) (K := Kin.none _) (m := m) (w := w) (o := o) ⟨(Two.of_only hon).set2 o (.slice none 0 0), hd.cb.other ⟨q, o, none⟩ hcq _, hq1.set o (.slice none 0 0)⟩ (hnb1.other ⟨q, o, none⟩ (by show w.heap.size ≠ q; omega) _))
  have hs1 := World.grownBy.size hon
  clear hd hon hq1
  go_wp2_with fail
  go_loopw [9] (fun i wr => ∃ (dl : List (List UInt8)) (csj : Cs) (vo : Value), i = .int .i64 (dl.length : Nat) ∧ Far (Cs.txt 100) [] id m.toNat (Cs.rd l st1) csj dl ∧ LR 1 tcell (Kin.none _) Tq w c q o m qs csj dl vo wr ∧ csj.reads = true ∧ csj.Fine 10 ∧ (csj.bad = false → 0 ≤ m ∧ m ≤ most)) (fun i _ => m.toNat - (intOf i).toNat)
  case atStart => exact ⟨[], Cs.rd l st1, .slice none 0 0, rfl, Far.start _ _ _ _ _, HLR.out, rfl, HF1.out, HMM.out⟩
  case round =>
    obtain ⟨dl, csj, vo, rfl, hfar, hlr, hrdj, hfj, hmj⟩ := hrel
    obtain ⟨ao, capo, rfl, -⟩ := hlr.own.slice
    have FAR := Lib.hid hfar
    have HL := Lib.hid hlr
    have HFJ := Lib.hid hfj
    have hnbj := hlr.nb.cell 0 _ rfl
    obtain ⟨j, hj⟩ : ∃ j, dl.length = j := ⟨_, rfl⟩
    have hjM : j ≤ m.toNat := by rw [← hj]; exact hfar.le
    obtain ⟨hcj1, hcj2⟩ := hlr.cq.cb.cs
    rw [hrdj] at hcj1
    have HMJ := Lib.hid hmj
    have HRJ := Lib.hid hrdj
    clear hfar hlr hfj hmj hrdj HLR hqc1 hqf1 hcs1 hnc1 hnb1 HMM HF1 HC HQ NU HNB
    have stop : (m.toNat ≤ j ∨ csj.bad = true) → ListDid 1 tcell Tq w c q P (Cs.eachR (Cs.txt 100) [] m.toNat (Cs.rd l st1)).2 qs o (Cs.eachR (Cs.txt 100) [] m.toNat (Cs.rd l st1)).1 (.returned (.tuple #[])) wr := by
      intro hs
      rw [FAR.out.stop (by rw [hj]; exact hs), List.map_id]
      refine ⟨_, rfl, HL.out.cq, Fl.of_own HL.out.own ?_ (fun x => rfl) (fun g hg => .inr (by have := HL.out.own.base g hg; omega))⟩
      have := FAR.out.le
      show dl.length ≤ 9223372036854775807
      omega
    have STOP := Lib.hid stop
    have HJ := Lib.hid hj
    rw [hj]
    clear stop hj
    by_cases hb : csj.bad = true
    · rw [hb] at hcj2
      by_cases hlt : (j : Int) < m
      · have hdl : decide ((j : Int) < m) = true := by simpa using hlt
        have HB := Lib.hid hb
        clear hlt hb
        go_wp2_with fail
        go_end0
        exact STOP.out (.inr HB.out)
      · have hdl : decide ((j : Int) < m) = false := by simpa using hlt
        have HB := Lib.hid hb
        clear hlt hb
        go_wp2_with fail
        go_end0
        exact STOP.out (.inr HB.out)
    · have hb : csj.bad = false := by simpa using hb
      rw [hb] at hcj2
      have HB := Lib.hid hb
      obtain ⟨hm0, hm1⟩ := HMJ.out hb
      by_cases hlt : (j : Int) < m
      · have hdl : decide ((j : Int) < m) = true := by simpa using hlt
        have hj500 : j < 500 := by omega
        have hjm : j < m.toNat := by omega
        have hsr := HL.out.nb.lt
        have hcr : c ≠ wr.heap.size := by omega
        have hqr : ¬ q = wr.heap.size := by omega
        have hkr := HK.out.two HL.out.cq.two hkc hkq
        have hklr := hkr.lt
        have CL := Lib.hid (fun w' hc hq hk => cl_txt 10 (by decide) csj HFJ.out [] (by simp) c wr.heap.size k 9 Tk hcr w' hc hq hk)
        have HXB := Lib.hid (Blk.new wr 9 #[.string ⟨#[]⟩])
        have HCA := Lib.hid (HL.out.cq.cb.keeps ((Keeps.refl wr).alloc (.cells #[.string ⟨#[]⟩] 9)))
        have HKA := Lib.hid (hkr.keeps ((Keeps.refl wr).alloc (.cells #[.string ⟨#[]⟩] 9)))
        have hcj1 := ((Keeps.refl wr).alloc (.cells #[.string ⟨#[]⟩] 9)).cell hcj1
        clear hlt hb hkr
        go_wp2_with fail
        refine (CL.out _ HCA.out HXB.out HKA.out).mono ?_
        rintro e w2 ⟨rfl, hd⟩
        obtain ⟨x, hx⟩ : ∃ x, ((Cs.txt 100) csj []).1 = x := ⟨_, rfl⟩
        rw [hx] at hd
        have ho2 := hd.two.only (Only.of_keeps (b := c) ((Keeps.refl wr).alloc (.cells #[.string ⟨#[]⟩] 9))) (Nat.le_refl _)
        have hqb2 := HL.out.cq.qb.grown ho2 (fun e => hcq (Option.some.inj e).symm)
        have hso := World.grownBy.size ho2
        have hqo2 : w2.cell? ⟨q, o, none⟩ = some (.slice ao dl.length capo) := hqb2.cell o _ (by rw [Array.getElem?_setIfInBounds]; simp [hosz])
        have hown2 := HL.out.own.grown_only ho2 (by omega)
        have x0 : w2.cell? ⟨wr.heap.size, 0, none⟩ = some (.string (str x)) := hd.qb.cell 0 _ rfl
        have HX := Lib.hid hx
        have HD := Lib.hid hd
        have HO2 := Lib.hid ho2
        have HQB2 := Lib.hid hqb2
        have HOWN := Lib.hid hown2
        have hw2 : w.heap.size + 1 ≤ w2.heap.size := by omega
        have hq2 : ¬ q = w2.heap.size := by omega
        have hx2 : ¬ wr.heap.size = w2.heap.size := by have := hd.qb.lt; omega
        have hqo3 := ((Keeps.refl w2).alloc (.cells #[.string (str x)] 9)).cell hqo2
        have hfd := Lib.hid (Feeds.newD (P := Tryz.prog) w2 9 (tcell x) (by simp [tcell, Value.oneCell']) 1)
        have HKA2 := Lib.hid ((Keeps.refl w2).alloc (.cells #[.string (str x)] 9)).drew
        have HE := Lib.hid (show (Kin.none (List UInt8)).E x (fun g => wr.heap.size + 1 ≤ g) w2 from trivial)
        have HRX := Lib.hid (show ((Cs.txt 100) csj []).2.reads = true by rw [Cs.txt_reads]; exact HRJ.out)
        have HFX := Lib.hid (Cs.Fine.of_reads (B := 10) (HFJ.out.txt 100 []) HRX.out)
        have HJ1 := Lib.hid (show dl.length + 1 ≤ 501 by rw [HJ.out]; omega)
        rw [HJ.out] at hqo2 hqo3
        clear hd ho2 hqb2 hown2 hx
        go_wp2_with fail
        go_region_law (first
          | (refine step_append_own rfl _ _ 29 29 rfl (w.heap.size + 1) 9 i0 (.string ⟨#[]⟩) 1 16 Tryz.underlying29 ⟨_, Tryz.underlying29, fun _ h => by cases h⟩ hi hz0 hz1 hz2 rfl (by decide) (.slice ao j capo) dl.length (dl.flatMap tcell) rfl (by have h := HOWN.out.keeps HKA2.out; rw [HJ.out] at h ⊢; exact h) (.slice (some ⟨w2.heap.size, 0, none⟩) 1 1) 1 (tcell x) rfl hfd.out (by have := HJ1.out; unfold maxLen; omega) (by have := HJ1.out; omega) (by simp; omega) ?_; intro v' w4 hown hg hnew; obtain ⟨ad2, cap2, rfl, -⟩ := hown.slice; have hqb4 := (HQB2.out.keeps HKA2.out).grown hg (fun e => by have := HOWN.out.base q (by rw [HJ.out]; exact e.symm); omega); have y0 := hqb4.cell o (.slice ao dl.length capo) (by rw [Array.getElem?_setIfInBounds]; simp [hosz]); have y1 := hqb4.frozen o; have HG := Lib.hid hg; have HOWN4 := Lib.hid hown; have HNEW := Lib.hid hnew; clear hqb4 hown hg hnew))
        all_goals
          go_wp2_with fail
          have hrel : ∃ (dl' : List (List UInt8)) (csj' : Cs) (vo' : Value), Value.int .i64 ((j : Int) + 1) = .int .i64 (dl'.length : Nat) ∧ Far (Cs.txt 100) [] id m.toNat (Cs.rd l st1) csj' dl' ∧ LR 1 tcell (Kin.none _) Tq w c q o m qs csj' dl' vo' (w4.setCell ⟨q, o, none⟩ (.slice ad2 (dl.length + 1) cap2)) ∧ csj'.reads = true ∧ csj'.Fine 10 ∧ (csj'.bad = false → 0 ≤ m ∧ m ≤ most) :=
            ⟨dl ++ [x], _, .slice ad2 (dl.length + 1) cap2, by rw [List.length_append, HJ.out]; rfl, FAR.out.next (by rw [HJ.out]; exact hjm) HB.out HX.out.symm, by have h := LR.next (vo' := .slice ad2 (dl.length + 1) cap2) (size := 1) (f := tcell) (fun _ => rfl) (by decide) HL.out hclt hqlt hcq HO2.out HD.out.cb HKA2.out HE.out HOWN4.out (by rw [HJ.out]; exact HG.out) (fun k' hk' => by have h := HNEW.out k' hk'; rw [HJ.out]; simpa using h); exact h, HRX.out, HFX.out, fun _ => ⟨hm0, hm1⟩⟩
          have hmeas : m.toNat - (j + 1) < m.toNat - j := by omega
          first
            | exact ⟨hrel, by simp [intOf]; omega⟩
            | (refine ⟨?_, by simp [intOf]; omega⟩; (repeat apply Exists.intro); exact ⟨hrel, rfl⟩)
      · have hdl : decide ((j : Int) < m) = false := by simpa using hlt
        have hjm : m.toNat ≤ j := by omega
        clear hlt hb
        go_wp2_with fail
        go_end0
        exact STOP.out (.inl hjm)

set_option maxRecDepth 4000 in
set_option maxHeartbeats 1600000 in
theorem cd_listS_wr (B : Nat) (hB : B ≤ 2 ^ 57) (s : List UInt8) (bd : Bool) (hf : s.length ≤ B) (most : Nat) (hmost : most ≤ 500) (xs : List (List UInt8)) (hxs : ∀ x ∈ xs, x.length ≤ 2 ^ 48) (v : Value) (P : Nat → Prop) (c q o k : Nat) (hP : ∀ g, P g → g ≠ c ∧ g ≠ q) (Tq Tk : TypeId) (qs : Array Value) (ho : qs[o]? = some v) (hcq : c ≠ q) (hkc : k ≠ c) (hkq : k ≠ q) (w : World)
    (hv : Fl 1 tcell P w v xs) (hc : Blk w c 81 (Cs.wr s bd).cells) (hq : Blk w q Tq qs) (hk : Blk w k Tk #[.pointer (some ⟨c, 0, none⟩)]) :
    Calls Tryz.prog 36 #[.pointer (some ⟨c, 0, none⟩), .pointer (some ⟨q, o, none⟩), .int .i64 (most : Nat), .func (.func 37) #[] #[.pointer (some ⟨k, 0, none⟩)]] w
      (ListDid 1 tcell Tq w c q P ((Cs.wr s bd).list (most : Int) (Cs.txt 100) [] xs).2 qs o ((Cs.wr s bd).list (most : Int) (Cs.txt 100) [] xs).1) := by
  have hclt := hc.lt
  have hqlt := hq.lt
  have hklt := hk.lt
  have hqc : ¬ q = c := fun e => hcq e.symm
  have hnc : c ≠ w.heap.size := by omega
  have hnq : q ≠ w.heap.size := by omega
  have hkn : k ≠ w.heap.size := by omega
  obtain ⟨n, hn⟩ : ∃ n, xs.length = n := ⟨_, rfl⟩
  have HV := Lib.hid hv
  obtain ⟨ad, cap, rfl, hnl, h0, g, oo, ha, hcell⟩ := hv
  rw [hn] at hnl ho
  have HAL := Lib.hid ((Keeps.refl w).alloc (.cells #[.int .i64 (n : Nat)] 3))
  have HNB := Lib.hid (Blk.new w 3 #[.int .i64 (n : Nat)])
  have HC := Lib.hid (hc.keeps HAL.out)
  have HQ := Lib.hid (hq.keeps HAL.out)
  have HQ0 := Lib.hid hq
  have HK := Lib.hid hk
  have hqo := hq.cell o _ ho
  have HO := Lib.hid ho
  have NU := Lib.hid (fun w' hc hn' => cd_num B (by omega) (Cs.wr s bd) hf 0 (most : Int) (n : Nat) (by omega) c w.heap.size 0 3 #[.int .i64 (n : Nat)] rfl hnc w' hc hn')
  have hfine := ((show (Cs.wr s bd).Fine B from hf).num 0 (most : Int) (n : Nat)).1
  have hrd0 := Cs.num_reads 0 (most : Int) (Cs.wr s bd) (n : Nat)
  have hnum1 : ((Cs.wr s bd).num 0 (most : Int) (n : Nat)).1 = (n : Nat) := rfl
  have hlist : (Cs.wr s bd).list (most : Int) (Cs.txt 100) [] xs = (xs, Cs.eachW (Cs.txt 100) ((Cs.wr s bd).num 0 (most : Int) (n : Nat)).2 xs) := by
    unfold Cs.list; rw [if_neg (show ¬ (Cs.wr s bd).reads = true from fun h => by cases h), hn]
  rw [hnum1] at NU
  obtain ⟨cs1, hcs⟩ : ∃ r, ((Cs.wr s bd).num 0 (most : Int) (n : Nat)).2 = r := ⟨_, rfl⟩
  rw [hcs] at NU hfine hlist hrd0
  rw [hlist]
  have HSM := Lib.hid (show cs1.bad = false → n ≤ 500 from fun h => by
    rw [← hcs] at h
    have h : (bd || !(decide (0 ≤ ((n : Nat) : Int)) && decide (((n : Nat) : Int) ≤ (most : Int)))) = false := h
    simp at h
    omega)
  have HF1 := Lib.hid hfine
  have HR1 := Lib.hid (show cs1.reads = false from hrd0)
  have HB57 := Lib.hid hB
  have HP := Lib.hid hP
  have HXS := Lib.hid hxs
  have HA := Lib.hid ha
  have HCELL := Lib.hid hcell
  have HN := Lib.hid hn
  clear hcs hnum1 hlist hfine hrd0 hc hq hk ho hf hnc hP hxs ha hcell hn hB
  go_enter Tryz.func36, Tryz.ntmps36
  go_wp2_with fail
  refine (NU.out _ HC.out HNB.out).mono ?_
  rintro e w1 ⟨rfl, hd⟩
  have hcs1 : w1.cell? ⟨c, 2, none⟩ = some (.bool false) := by have h := hd.cb.cs.1; rw [HR1.out] at h; exact h
  have hon := hd.two.only (Only.of_keeps (b := c) HAL.out) (Nat.le_refl _)
  have HLW := Lib.hid (show LW w c (n : Nat) cs1 w1 from ⟨hon, hd.cb, hd.qb⟩)
  clear hd hon
  go_wp2_with fail
  go_loopw [9] (fun i wr => ∃ (j : Nat) (csj : Cs), i = .int .i64 (j : Nat) ∧ j ≤ n ∧ Cs.eachW (Cs.txt 100) cs1 xs = Cs.eachW (Cs.txt 100) csj (xs.drop j) ∧ LW w c (n : Nat) csj wr ∧ csj.reads = false ∧ csj.Fine (B + 10 + j * 562949953421312) ∧ (j ≤ 500 ∨ csj.bad = true) ∧ (csj.bad = false → n ≤ 500)) (fun i _ => n - (intOf i).toNat)
  case atStart => exact ⟨0, cs1, rfl, Nat.zero_le _, rfl, HLW.out, HR1.out, by have := HF1.out; simpa using this, .inl (by decide), fun h => HSM.out h⟩
  case round =>
    obtain ⟨j, csj, rfl, hjn, heq, hlw, hrj, hfj, hj5, hn5⟩ := hrel
    have HEQ := Lib.hid heq
    have HL := Lib.hid hlw
    have HFJ := Lib.hid hfj
    have HRJ := Lib.hid hrj
    have hnbj := hlw.nb.cell 0 _ rfl
    have hcj1 : wr.cell? ⟨c, 2, none⟩ = some (.bool false) := by have h := hlw.cb.cs.1; rw [hrj] at h; exact h
    have hcj2 := hlw.cb.cs.2
    have hqr := HQ0.out.grown hlw.only (fun e => hcq (Option.some.inj e).symm)
    have hqor := hqr.cell o _ HO.out
    have HQR := Lib.hid hqr
    have STOP := Lib.hid (show (n ≤ j ∨ csj.bad = true) → ListDid 1 tcell Tq w c q P (Cs.eachW (Cs.txt 100) cs1 xs) qs o xs (.returned (.tuple #[])) wr from by
      intro hs
      have e : Cs.eachW (Cs.txt 100) cs1 xs = csj := by
        rw [HEQ.out]
        rcases hs with hs | hs
        · rw [List.drop_eq_nil_of_le (by rw [HN.out]; exact hs)]; rfl
        · exact Cs.eachW_skip _ hs _
      rw [e]
      refine ⟨.slice ad xs.length cap, rfl, ⟨Two.of_only HL.out.only, HL.out.cb, ?_⟩, ?_⟩
      · rw [HN.out, set_same HO.out]; exact HQR.out
      · exact HV.out.move (fun g hg hlt => ⟨.inl hg, World.grownBy.block HL.out.only g hlt (fun e => (HP.out g hg).1 (Option.some.inj e))⟩) (fun x => ⟨_, rfl⟩))
    clear heq hlw hfj hrj hqr HLW hcs1 HF1 HR1 NU HC HQ HNB hqo
    by_cases hb : csj.bad = true
    · rw [hb] at hcj2
      have HB := Lib.hid hb
      clear hb hj5 hn5
      by_cases hlt : j < n
      · go_wp2_with fail
        go_end0
        exact STOP.out (.inr HB.out)
      · go_wp2_with fail
        go_end0
        exact STOP.out (.inr HB.out)
    · have hb : csj.bad = false := by simpa using hb
      have hn500 := hn5 hb
      rw [hb] at hcj2
      have HB := Lib.hid hb
      clear hb hj5 hn5
      by_cases hlt : j < n
      · obtain ⟨x, hx⟩ : ∃ x, xs[j]? = some x := ⟨_, List.getElem?_eq_getElem (by rw [HN.out]; exact hlt)⟩
        have hmem : x ∈ xs := List.mem_of_getElem? hx
        obtain ⟨had, hPg⟩ := HA.out (fun e => by rw [e] at hx; simp at hx)
        subst had
        have hgne : g ≠ c ∧ g ≠ q := HP.out g hPg
        have x0 : wr.cell? ⟨g, oo + j, none⟩ = some (.string (str x)) := by have h := HCELL.out j x hx 0 _ rfl; simp only [Nat.mul_one, Nat.add_zero] at h; rw [World.cell?_of_block (World.grownBy.block HL.out.only g (World.block_lt_of_cell? w _ h) (fun e => hgne.1 (Option.some.inj e)))]; exact h
        have hdrop : xs.drop j = x :: xs.drop (j + 1) := by
          rw [List.drop_eq_getElem_cons (by rw [HN.out]; exact hlt)]
          congr 1
          rw [List.getElem?_eq_getElem (by rw [HN.out]; exact hlt)] at hx
          exact Option.some.inj hx
        have heq2 : Cs.eachW (Cs.txt 100) cs1 xs = Cs.eachW (Cs.txt 100) ((Cs.txt 100) csj x).2 (xs.drop (j + 1)) := by
          rw [HEQ.out, hdrop, Cs.eachW, if_neg (by rw [HB.out]; decide)]
        have HEQ2 := Lib.hid heq2
        have hbd := HXS.out x hmem
        have hsr := HL.out.nb.lt
        have hcr : c ≠ wr.heap.size := by omega
        have hqr : ¬ q = wr.heap.size := by omega
        have hkr := HK.out.grown HL.out.only (fun e => hkc (Option.some.inj e))
        have hBj : B + 10 + j * 562949953421312 ≤ 2 ^ 59 := by have := HB57.out; omega
        have CL := Lib.hid (fun w' hc hq hk => cl_txt (B + 10 + j * 562949953421312) (by omega) csj HFJ.out x (by omega) c wr.heap.size k 9 Tk hcr w' hc hq hk)
        have HXB := Lib.hid (Blk.new wr 9 #[.string (str x)])
        have HCA := Lib.hid (HL.out.cb.keeps ((Keeps.refl wr).alloc (.cells #[.string (str x)] 9)))
        have HKA := Lib.hid (hkr.keeps ((Keeps.refl wr).alloc (.cells #[.string (str x)] 9)))
        have HRX := Lib.hid (show ((Cs.txt 100) csj x).2.reads = false by rw [Cs.txt_reads]; exact HRJ.out)
        have HFX := Lib.hid (show ((Cs.txt 100) csj x).2.Fine (B + 10 + (j + 1) * 562949953421312) from (HFJ.out.txt 100 x).mono (by have := hbd; omega))
        have HMEM := Lib.hid hbd
        clear heq2 hdrop hx hmem hkr hbd hBj
        go_wp2_with fail
        refine (CL.out _ HCA.out HXB.out HKA.out).mono ?_
        rintro e w2 ⟨rfl, hd⟩
        have ho2 := hd.two.only (Only.of_keeps (b := c) ((Keeps.refl wr).alloc (.cells #[.string (str x)] 9))) (Nat.le_refl _)
        have HLW2 := Lib.hid (show LW w c (n : Nat) ((Cs.txt 100) csj x).2 w2 from ⟨HL.out.only.trans ho2, hd.cb, HL.out.nb.grown ho2 (fun e => by have := Option.some.inj e; omega)⟩)
        clear hd ho2
        go_wp2_with fail
        exact ⟨⟨j + 1, _, by go_num, by omega, HEQ2.out, HLW2.out, HRX.out, HFX.out, .inl (by omega), fun _ => hn500⟩, by simp [intOf]; omega⟩
      · go_wp2_with fail
        go_end0
        exact STOP.out (.inl (by omega))
end Go.Proofs.YtgbnpehpfadehaaGreatDoor

namespace Go.Proofs.YtgbnpehpfadehaaGreatDoor
open Go.RowKit

theorem info_lT : (Tryz.prog.info? 124).map (fun i => (i.zero, i.size, i.bytes)) = some (some (.agg #[.string ⟨#[]⟩, .int .i64 0]), 2, 24) := by kernel_rfl

set_option maxRecDepth 4000 in
set_option maxHeartbeats 1600000 in
theorem cd_listT_rd (l : List UInt8) (st : Rd.St) (hl : l.length ≤ 2 ^ 62) (hst : Rd.Fine l st) (most : Nat) (hmost : most ≤ 500) (c q o k : Nat) (Tq Tk : TypeId) (qs : Array Value) (ho : qs[o]? = some (.slice none 0 0)) (hcq : c ≠ q) (hkc : k ≠ c) (hkq : k ≠ q) (w : World)
    (hc : Blk w c 81 (Cs.rd l st).cells) (hq : Blk w q Tq qs) (hk : Blk w k Tk #[.pointer (some ⟨c, 0, none⟩)]) (P : Nat → Prop) :
    Calls Tryz.prog 55 #[.pointer (some ⟨c, 0, none⟩), .pointer (some ⟨q, o, none⟩), .int .i64 (most : Nat), .func (.func 56) #[] #[.pointer (some ⟨k, 0, none⟩)]] w
      (ListDid 2 ncell Tq w c q P ((Cs.rd l st).list (most : Int) Cs.nt ([], 0) []).2 qs o ((Cs.rd l st).list (most : Int) Cs.nt ([], 0) []).1) := by
  obtain ⟨i0, hi, hz0, hz1, hz2⟩ := info_parts info_lT
  have hclt := hc.lt
  have hqlt := hq.lt
  have hklt := hk.lt
  have hqc : ¬ q = c := fun e => hcq e.symm
  have hnc : c ≠ w.heap.size := by omega
  have hnq : q ≠ w.heap.size := by omega
  have hqn' : ¬ q = w.heap.size := hnq
  have HAL := Lib.hid ((Keeps.refl w).alloc (.cells #[.int .i64 0] 3))
  have HNB := Lib.hid (Blk.new w 3 #[.int .i64 0])
  have HC := Lib.hid (hc.keeps HAL.out)
  have HQ := Lib.hid (hq.keeps HAL.out)
  have HK := Lib.hid hk
  have hqo := hq.cell o _ ho
  have HO := Lib.hid ho
  have hosz : o < qs.size := (Array.getElem?_eq_some_iff.1 ho).1
  have NU := Lib.hid (fun w' hc hn => cd_num 0 (by decide) (Cs.rd l st) ⟨hl, hst⟩ 0 (most : Int) 0 (by decide) c w.heap.size 0 3 #[.int .i64 0] rfl hnc w' hc hn)
  have hfine := (show (Cs.rd l st).Fine 0 from ⟨hl, hst⟩).num 0 (most : Int) 0
  have hnum : (Cs.rd l st).num 0 (most : Int) 0 = ((Rd.rn 0 (most : Int) l st).1, Cs.rd l (Rd.rn 0 (most : Int) l st).2) := rfl
  have hlist : (Cs.rd l st).list (most : Int) Cs.nt ([], 0) [] = Cs.eachR Cs.nt ([], 0) (Rd.rn 0 (most : Int) l st).1.toNat (Cs.rd l (Rd.rn 0 (most : Int) l st).2) := by
    unfold Cs.list; rw [if_pos (show (Cs.rd l st).reads = true from rfl)]; rfl
  have hmm0 : (Rd.rn 0 (most : Int) l st).2.2 = 0 → 0 ≤ (Rd.rn 0 (most : Int) l st).1 ∧ (Rd.rn 0 (most : Int) l st).1 ≤ most := fun h => (Rd.rn_ok rfl h).2
  rw [hnum] at NU hfine
  obtain ⟨⟨m, st1⟩, hrn⟩ : ∃ r, Rd.rn 0 (most : Int) l st = r := ⟨_, rfl⟩
  rw [hrn] at NU hfine hlist hmm0
  rw [hlist]
  simp only at hfine hmm0
  obtain ⟨hf1, hm64⟩ := hfine
  have hm64 := hm64 rfl
  have HMM := Lib.hid (fun (h : (Cs.rd l st1).bad = false) => hmm0 (by simpa [Cs.bad] using h))
  have HF1 := Lib.hid hf1
  clear hrn hnum hlist hmm0 hf1 hc hq hk ho hst hl hnc
  go_enter Tryz.func55, Tryz.ntmps55
  go_wp2_with fail
  refine (NU.out _ HC.out HNB.out).mono ?_
  rintro e w1 ⟨rfl, hd⟩
  have hcs1 : w1.cell? ⟨c, 2, none⟩ = some (.bool true) := hd.cb.cs.1
  have hnb1 : Blk w1 w.heap.size 3 #[.int .i64 m] := hd.qb
  have hnc1 := hnb1.cell 0 _ rfl
  have hon := hd.two.only (Only.of_keeps (b := c) HAL.out) (Nat.le_refl _)
  have hq1 := HQ.out.two hd.two hqc hnq
  have hqc1 := hq1.cell o _ HO.out
  have hqf1 := hq1.frozen o
  have HLR := Lib.hid (LR.start (size := 2) (f := ncell) (K := Kin.none _) (m := m) (w := w) (o := o) ⟨(Two.of_only hon).set2 o (.slice none 0 0), hd.cb.other ⟨q, o, none⟩ hcq _, hq1.set o (.slice none 0 0)⟩ (hnb1.other ⟨q, o, none⟩ (by show w.heap.size ≠ q; omega) _))
  have hs1 := World.grownBy.size hon
  clear hd hon hq1
  go_wp2_with fail
  go_loopw [9] (fun i wr => ∃ (dl : List (List UInt8 × Int)) (csj : Cs) (vo : Value), i = .int .i64 (dl.length : Nat) ∧ Far Cs.nt ([], 0) id m.toNat (Cs.rd l st1) csj dl ∧ LR 2 ncell (Kin.none _) Tq w c q o m qs csj dl vo wr ∧ csj.reads = true ∧ csj.Fine 10 ∧ (csj.bad = false → 0 ≤ m ∧ m ≤ most)) (fun i _ => m.toNat - (intOf i).toNat)
  case atStart => exact ⟨[], Cs.rd l st1, .slice none 0 0, rfl, Far.start _ _ _ _ _, HLR.out, rfl, HF1.out, HMM.out⟩
  case round =>
    obtain ⟨dl, csj, vo, rfl, hfar, hlr, hrdj, hfj, hmj⟩ := hrel
    obtain ⟨ao, capo, rfl, -⟩ := hlr.own.slice
    have FAR := Lib.hid hfar
    have HL := Lib.hid hlr
    have HFJ := Lib.hid hfj
    have hnbj := hlr.nb.cell 0 _ rfl
    obtain ⟨j, hj⟩ : ∃ j, dl.length = j := ⟨_, rfl⟩
    have hjM : j ≤ m.toNat := by rw [← hj]; exact hfar.le
    obtain ⟨hcj1, hcj2⟩ := hlr.cq.cb.cs
    rw [hrdj] at hcj1
    have HMJ := Lib.hid hmj
    have HRJ := Lib.hid hrdj
    clear hfar hlr hfj hmj hrdj HLR hqc1 hqf1 hcs1 hnc1 hnb1 HMM HF1 HC HQ NU HNB
    have stop : (m.toNat ≤ j ∨ csj.bad = true) → ListDid 2 ncell Tq w c q P (Cs.eachR Cs.nt ([], 0) m.toNat (Cs.rd l st1)).2 qs o (Cs.eachR Cs.nt ([], 0) m.toNat (Cs.rd l st1)).1 (.returned (.tuple #[])) wr := by
      intro hs
      rw [FAR.out.stop (by rw [hj]; exact hs), List.map_id]
      refine ⟨_, rfl, HL.out.cq, Fl.of_own HL.out.own ?_ (fun x => rfl) (fun g hg => .inr (by have := HL.out.own.base g hg; omega))⟩
      have := FAR.out.le
      show dl.length ≤ 9223372036854775807
      omega
    have STOP := Lib.hid stop
    have HJ := Lib.hid hj
    rw [hj]
    clear stop hj
    by_cases hb : csj.bad = true
    · rw [hb] at hcj2
      by_cases hlt : (j : Int) < m
      · have hdl : decide ((j : Int) < m) = true := by simpa using hlt
        have HB := Lib.hid hb
        clear hlt hb
        go_wp2_with fail
        go_end0
        exact STOP.out (.inr HB.out)
      · have hdl : decide ((j : Int) < m) = false := by simpa using hlt
        have HB := Lib.hid hb
        clear hlt hb
        go_wp2_with fail
        go_end0
        exact STOP.out (.inr HB.out)
    · have hb : csj.bad = false := by simpa using hb
      rw [hb] at hcj2
      have HB := Lib.hid hb
      obtain ⟨hm0, hm1⟩ := HMJ.out hb
      by_cases hlt : (j : Int) < m
      · have hdl : decide ((j : Int) < m) = true := by simpa using hlt
        have hj500 : j < 500 := by omega
        have hjm : j < m.toNat := by omega
        have hsr := HL.out.nb.lt
        have hcr : c ≠ wr.heap.size := by omega
        have hqr : ¬ q = wr.heap.size := by omega
        have hkr := HK.out.two HL.out.cq.two hkc hkq
        have hklr := hkr.lt
        have CL := Lib.hid (fun w' hc hq hk => cl_nt2 10 (by decide) csj HFJ.out ([], 0) (by simp) (by decide) c wr.heap.size k 124 Tk hcr w' hc hq hk hkc (by omega))
        have HXB := Lib.hid (Blk.new wr 124 #[.string ⟨#[]⟩, .int .i64 0])
        have HCA := Lib.hid (HL.out.cq.cb.keeps ((Keeps.refl wr).alloc (.cells #[.string ⟨#[]⟩, .int .i64 0] 124)))
        have HKA := Lib.hid (hkr.keeps ((Keeps.refl wr).alloc (.cells #[.string ⟨#[]⟩, .int .i64 0] 124)))
        have hcj1 := ((Keeps.refl wr).alloc (.cells #[.string ⟨#[]⟩, .int .i64 0] 124)).cell hcj1
        clear hlt hb hkr
        go_wp2_with fail
        refine (CL.out _ HCA.out HXB.out HKA.out).mono ?_
        rintro e w2 ⟨rfl, hd⟩
        obtain ⟨x, hx⟩ : ∃ x, (Cs.nt csj ([], 0)).1 = x := ⟨_, rfl⟩
        rw [hx] at hd
        have ho2 := hd.two.only (Only.of_keeps (b := c) ((Keeps.refl wr).alloc (.cells #[.string ⟨#[]⟩, .int .i64 0] 124))) (Nat.le_refl _)
        have hqb2 := HL.out.cq.qb.grown ho2 (fun e => hcq (Option.some.inj e).symm)
        have hso := World.grownBy.size ho2
        have hqo2 : w2.cell? ⟨q, o, none⟩ = some (.slice ao dl.length capo) := hqb2.cell o _ (by rw [Array.getElem?_setIfInBounds]; simp [hosz])
        have hown2 := HL.out.own.grown_only ho2 (by omega)
        have x0 : w2.cell? ⟨wr.heap.size, 0, none⟩ = some (.string (str x.1)) := hd.qb.cell 0 _ rfl
        have x1 : w2.cell? ⟨wr.heap.size, 1, none⟩ = some (.int .i64 x.2) := hd.qb.cell 1 _ rfl
        have HX := Lib.hid hx
        have HD := Lib.hid hd
        have HO2 := Lib.hid ho2
        have HQB2 := Lib.hid hqb2
        have HOWN := Lib.hid hown2
        have hw2 : w.heap.size + 1 ≤ w2.heap.size := by omega
        have hq2 : ¬ q = w2.heap.size := by omega
        have hx2 : ¬ wr.heap.size = w2.heap.size := by have := hd.qb.lt; omega
        have hqo3 := ((Keeps.refl w2).alloc (.cells #[.string (str x.1), .int .i64 x.2] 124)).cell hqo2
        have hfd := Lib.hid (Feeds.newD (P := Tryz.prog) w2 124 (ncell x) (by simp [ncell, Value.oneCell']) 1)
        have HKA2 := Lib.hid ((Keeps.refl w2).alloc (.cells #[.string (str x.1), .int .i64 x.2] 124)).drew
        have HE := Lib.hid (show (Kin.none (List UInt8 × Int)).E x (fun g => wr.heap.size + 1 ≤ g) w2 from trivial)
        have HRX := Lib.hid (show (Cs.nt csj ([], 0)).2.reads = true by rw [Cs.nt_reads]; exact HRJ.out)
        have HFX := Lib.hid (Cs.Fine.of_reads (B := 10) (HFJ.out.nt ([], 0)) HRX.out)
        have HJ1 := Lib.hid (show dl.length + 1 ≤ 501 by rw [HJ.out]; omega)
        rw [HJ.out] at hqo2 hqo3
        clear hd ho2 hqb2 hown2 hx
        go_wp2_with fail
        go_region_law (first
          | (refine step_append_own rfl _ _ 48 48 rfl (w.heap.size + 1) 124 i0 (.agg #[.string ⟨#[]⟩, .int .i64 0]) 2 24 Tryz.underlying48 ⟨_, Tryz.underlying48, fun _ h => by cases h⟩ hi hz0 hz1 hz2 rfl (by decide) (.slice ao j capo) dl.length (dl.flatMap ncell) rfl (by have h := HOWN.out.keeps HKA2.out; rw [HJ.out] at h ⊢; exact h) (.slice (some ⟨w2.heap.size, 0, none⟩) 1 1) 1 (ncell x) rfl hfd.out (by have := HJ1.out; unfold maxLen; omega) (by have := HJ1.out; omega) (by simp; omega) ?_; intro v' w4 hown hg hnew; obtain ⟨ad2, cap2, rfl, -⟩ := hown.slice; have hqb4 := (HQB2.out.keeps HKA2.out).grown hg (fun e => by have := HOWN.out.base q (by rw [HJ.out]; exact e.symm); omega); have y0 := hqb4.cell o (.slice ao dl.length capo) (by rw [Array.getElem?_setIfInBounds]; simp [hosz]); have y1 := hqb4.frozen o; have HG := Lib.hid hg; have HOWN4 := Lib.hid hown; have HNEW := Lib.hid hnew; clear hqb4 hown hg hnew))
        all_goals
          go_wp2_with fail
          have hrel : ∃ (dl' : List (List UInt8 × Int)) (csj' : Cs) (vo' : Value), Value.int .i64 ((j : Int) + 1) = .int .i64 (dl'.length : Nat) ∧ Far Cs.nt ([], 0) id m.toNat (Cs.rd l st1) csj' dl' ∧ LR 2 ncell (Kin.none _) Tq w c q o m qs csj' dl' vo' (w4.setCell ⟨q, o, none⟩ (.slice ad2 (dl.length + 1) cap2)) ∧ csj'.reads = true ∧ csj'.Fine 10 ∧ (csj'.bad = false → 0 ≤ m ∧ m ≤ most) :=
            ⟨dl ++ [x], _, .slice ad2 (dl.length + 1) cap2, by rw [List.length_append, HJ.out]; rfl, FAR.out.next (by rw [HJ.out]; exact hjm) HB.out HX.out.symm, by have h := LR.next (vo' := .slice ad2 (dl.length + 1) cap2) (size := 2) (f := ncell) (fun _ => rfl) (by decide) HL.out hclt hqlt hcq HO2.out HD.out.cb HKA2.out HE.out HOWN4.out (by rw [HJ.out]; exact HG.out) (fun k' hk' => by have h := HNEW.out k' hk'; rw [HJ.out]; simpa using h); exact h, HRX.out, HFX.out, fun _ => ⟨hm0, hm1⟩⟩
          have hmeas : m.toNat - (j + 1) < m.toNat - j := by omega
          first
            | exact ⟨hrel, by simp [intOf]; omega⟩
            | (refine ⟨?_, by simp [intOf]; omega⟩; (repeat apply Exists.intro); exact ⟨hrel, rfl⟩)
      · have hdl : decide ((j : Int) < m) = false := by simpa using hlt
        have hjm : m.toNat ≤ j := by omega
        clear hlt hb
        go_wp2_with fail
        go_end0
        exact STOP.out (.inl hjm)

set_option maxRecDepth 4000 in
set_option maxHeartbeats 1600000 in
theorem cd_listT_wr (B : Nat) (hB : B ≤ 2 ^ 57) (s : List UInt8) (bd : Bool) (hf : s.length ≤ B) (most : Nat) (hmost : most ≤ 500) (xs : List (List UInt8 × Int)) (hxs : ∀ x ∈ xs, x.1.length ≤ 2 ^ 48 ∧ -9223372036854775808 ≤ x.2 ∧ x.2 ≤ 9223372036854775807) (v : Value) (P : Nat → Prop) (c q o k : Nat) (hP : ∀ g, P g → g ≠ c ∧ g ≠ q) (Tq Tk : TypeId) (qs : Array Value) (ho : qs[o]? = some v) (hcq : c ≠ q) (hkc : k ≠ c) (hkq : k ≠ q) (w : World)
    (hv : Fl 2 ncell P w v xs) (hc : Blk w c 81 (Cs.wr s bd).cells) (hq : Blk w q Tq qs) (hk : Blk w k Tk #[.pointer (some ⟨c, 0, none⟩)]) :
    Calls Tryz.prog 55 #[.pointer (some ⟨c, 0, none⟩), .pointer (some ⟨q, o, none⟩), .int .i64 (most : Nat), .func (.func 56) #[] #[.pointer (some ⟨k, 0, none⟩)]] w
      (ListDid 2 ncell Tq w c q P ((Cs.wr s bd).list (most : Int) Cs.nt ([], 0) xs).2 qs o ((Cs.wr s bd).list (most : Int) Cs.nt ([], 0) xs).1) := by
  have hclt := hc.lt
  have hqlt := hq.lt
  have hklt := hk.lt
  have hqc : ¬ q = c := fun e => hcq e.symm
  have hnc : c ≠ w.heap.size := by omega
  have hnq : q ≠ w.heap.size := by omega
  have hkn : k ≠ w.heap.size := by omega
  obtain ⟨n, hn⟩ : ∃ n, xs.length = n := ⟨_, rfl⟩
  have HV := Lib.hid hv
  obtain ⟨ad, cap, rfl, hnl, h0, g, oo, ha, hcell⟩ := hv
  rw [hn] at hnl ho
  have HAL := Lib.hid ((Keeps.refl w).alloc (.cells #[.int .i64 (n : Nat)] 3))
  have HNB := Lib.hid (Blk.new w 3 #[.int .i64 (n : Nat)])
  have HC := Lib.hid (hc.keeps HAL.out)
  have HQ := Lib.hid (hq.keeps HAL.out)
  have HQ0 := Lib.hid hq
  have HK := Lib.hid hk
  have hqo := hq.cell o _ ho
  have HO := Lib.hid ho
  have NU := Lib.hid (fun w' hc hn' => cd_num B (by omega) (Cs.wr s bd) hf 0 (most : Int) (n : Nat) (by omega) c w.heap.size 0 3 #[.int .i64 (n : Nat)] rfl hnc w' hc hn')
  have hfine := ((show (Cs.wr s bd).Fine B from hf).num 0 (most : Int) (n : Nat)).1
  have hrd0 := Cs.num_reads 0 (most : Int) (Cs.wr s bd) (n : Nat)
  have hnum1 : ((Cs.wr s bd).num 0 (most : Int) (n : Nat)).1 = (n : Nat) := rfl
  have hlist : (Cs.wr s bd).list (most : Int) Cs.nt ([], 0) xs = (xs, Cs.eachW Cs.nt ((Cs.wr s bd).num 0 (most : Int) (n : Nat)).2 xs) := by
    unfold Cs.list; rw [if_neg (show ¬ (Cs.wr s bd).reads = true from fun h => by cases h), hn]
  rw [hnum1] at NU
  obtain ⟨cs1, hcs⟩ : ∃ r, ((Cs.wr s bd).num 0 (most : Int) (n : Nat)).2 = r := ⟨_, rfl⟩
  rw [hcs] at NU hfine hlist hrd0
  rw [hlist]
  have HSM := Lib.hid (show cs1.bad = false → n ≤ 500 from fun h => by
    rw [← hcs] at h
    have h : (bd || !(decide (0 ≤ ((n : Nat) : Int)) && decide (((n : Nat) : Int) ≤ (most : Int)))) = false := h
    simp at h
    omega)
  have HF1 := Lib.hid hfine
  have HR1 := Lib.hid (show cs1.reads = false from hrd0)
  have HB57 := Lib.hid hB
  have HP := Lib.hid hP
  have HXS := Lib.hid hxs
  have HA := Lib.hid ha
  have HCELL := Lib.hid hcell
  have HN := Lib.hid hn
  clear hcs hnum1 hlist hfine hrd0 hc hq hk ho hf hnc hP hxs ha hcell hn hB
  go_enter Tryz.func55, Tryz.ntmps55
  go_wp2_with fail
  refine (NU.out _ HC.out HNB.out).mono ?_
  rintro e w1 ⟨rfl, hd⟩
  have hcs1 : w1.cell? ⟨c, 2, none⟩ = some (.bool false) := by have h := hd.cb.cs.1; rw [HR1.out] at h; exact h
  have hon := hd.two.only (Only.of_keeps (b := c) HAL.out) (Nat.le_refl _)
  have HLW := Lib.hid (show LW w c (n : Nat) cs1 w1 from ⟨hon, hd.cb, hd.qb⟩)
  clear hd hon
  go_wp2_with fail
  go_loopw [9] (fun i wr => ∃ (j : Nat) (csj : Cs), i = .int .i64 (j : Nat) ∧ j ≤ n ∧ Cs.eachW Cs.nt cs1 xs = Cs.eachW Cs.nt csj (xs.drop j) ∧ LW w c (n : Nat) csj wr ∧ csj.reads = false ∧ csj.Fine (B + 10 + j * 562949953421312) ∧ (j ≤ 500 ∨ csj.bad = true) ∧ (csj.bad = false → n ≤ 500)) (fun i _ => n - (intOf i).toNat)
  case atStart => exact ⟨0, cs1, rfl, Nat.zero_le _, rfl, HLW.out, HR1.out, by have := HF1.out; simpa using this, .inl (by decide), fun h => HSM.out h⟩
  case round =>
    obtain ⟨j, csj, rfl, hjn, heq, hlw, hrj, hfj, hj5, hn5⟩ := hrel
    have HEQ := Lib.hid heq
    have HL := Lib.hid hlw
    have HFJ := Lib.hid hfj
    have HRJ := Lib.hid hrj
    have hnbj := hlw.nb.cell 0 _ rfl
    have hcj1 : wr.cell? ⟨c, 2, none⟩ = some (.bool false) := by have h := hlw.cb.cs.1; rw [hrj] at h; exact h
    have hcj2 := hlw.cb.cs.2
    have hqr := HQ0.out.grown hlw.only (fun e => hcq (Option.some.inj e).symm)
    have hqor := hqr.cell o _ HO.out
    have HQR := Lib.hid hqr
    have STOP := Lib.hid (show (n ≤ j ∨ csj.bad = true) → ListDid 2 ncell Tq w c q P (Cs.eachW Cs.nt cs1 xs) qs o xs (.returned (.tuple #[])) wr from by
      intro hs
      have e : Cs.eachW Cs.nt cs1 xs = csj := by
        rw [HEQ.out]
        rcases hs with hs | hs
        · rw [List.drop_eq_nil_of_le (by rw [HN.out]; exact hs)]; rfl
        · exact Cs.eachW_skip _ hs _
      rw [e]
      refine ⟨.slice ad xs.length cap, rfl, ⟨Two.of_only HL.out.only, HL.out.cb, ?_⟩, ?_⟩
      · rw [HN.out, set_same HO.out]; exact HQR.out
      · exact HV.out.move (fun g hg hlt => ⟨.inl hg, World.grownBy.block HL.out.only g hlt (fun e => (HP.out g hg).1 (Option.some.inj e))⟩) (fun x => ⟨_, rfl⟩))
    clear heq hlw hfj hrj hqr HLW hcs1 HF1 HR1 NU HC HQ HNB hqo
    by_cases hb : csj.bad = true
    · rw [hb] at hcj2
      have HB := Lib.hid hb
      clear hb hj5 hn5
      by_cases hlt : j < n
      · go_wp2_with fail
        go_end0
        exact STOP.out (.inr HB.out)
      · go_wp2_with fail
        go_end0
        exact STOP.out (.inr HB.out)
    · have hb : csj.bad = false := by simpa using hb
      have hn500 := hn5 hb
      rw [hb] at hcj2
      have HB := Lib.hid hb
      clear hb hj5 hn5
      by_cases hlt : j < n
      · obtain ⟨x, hx⟩ : ∃ x, xs[j]? = some x := ⟨_, List.getElem?_eq_getElem (by rw [HN.out]; exact hlt)⟩
        have hmem : x ∈ xs := List.mem_of_getElem? hx
        obtain ⟨had, hPg⟩ := HA.out (fun e => by rw [e] at hx; simp at hx)
        subst had
        have hgne : g ≠ c ∧ g ≠ q := HP.out g hPg
        have x0 : wr.cell? ⟨g, oo + j * 2, none⟩ = some (.string (str x.1)) := by have h := HCELL.out j x hx 0 _ rfl; rw [World.cell?_of_block (World.grownBy.block HL.out.only g (World.block_lt_of_cell? w _ h) (fun e => hgne.1 (Option.some.inj e)))]; exact h
        have x1 : wr.cell? ⟨g, oo + j * 2 + 1, none⟩ = some (.int .i64 x.2) := by have h := HCELL.out j x hx 1 _ rfl; rw [World.cell?_of_block (World.grownBy.block HL.out.only g (World.block_lt_of_cell? w _ h) (fun e => hgne.1 (Option.some.inj e)))]; exact h
        have hdrop : xs.drop j = x :: xs.drop (j + 1) := by
          rw [List.drop_eq_getElem_cons (by rw [HN.out]; exact hlt)]
          congr 1
          rw [List.getElem?_eq_getElem (by rw [HN.out]; exact hlt)] at hx
          exact Option.some.inj hx
        have heq2 : Cs.eachW Cs.nt cs1 xs = Cs.eachW Cs.nt (Cs.nt csj x).2 (xs.drop (j + 1)) := by
          rw [HEQ.out, hdrop, Cs.eachW, if_neg (by rw [HB.out]; decide)]
        have HEQ2 := Lib.hid heq2
        have hbd := HXS.out x hmem
        have hsr := HL.out.nb.lt
        have hcr : c ≠ wr.heap.size := by omega
        have hqr : ¬ q = wr.heap.size := by omega
        have hkr := HK.out.grown HL.out.only (fun e => hkc (Option.some.inj e))
        have hBj : B + 10 + j * 562949953421312 ≤ 2 ^ 59 := by have := HB57.out; omega
        have CL := Lib.hid (fun w' hc hq hk => cl_nt2 (B + 10 + j * 562949953421312) (by omega) csj HFJ.out x (by omega) hbd.2 c wr.heap.size k 124 Tk hcr w' hc hq hk hkc (by omega))
        have HXB := Lib.hid (Blk.new wr 124 #[.string (str x.1), .int .i64 x.2])
        have HCA := Lib.hid (HL.out.cb.keeps ((Keeps.refl wr).alloc (.cells #[.string (str x.1), .int .i64 x.2] 124)))
        have HKA := Lib.hid (hkr.keeps ((Keeps.refl wr).alloc (.cells #[.string (str x.1), .int .i64 x.2] 124)))
        have HRX := Lib.hid (show (Cs.nt csj x).2.reads = false by rw [Cs.nt_reads]; exact HRJ.out)
        have HFX := Lib.hid (show (Cs.nt csj x).2.Fine (B + 10 + (j + 1) * 562949953421312) from (HFJ.out.nt x).mono (by have := hbd; omega))
        have HMEM := Lib.hid hbd
        clear heq2 hdrop hx hmem hkr hbd hBj
        go_wp2_with fail
        refine (CL.out _ HCA.out HXB.out HKA.out).mono ?_
        rintro e w2 ⟨rfl, hd⟩
        have ho2 := hd.two.only (Only.of_keeps (b := c) ((Keeps.refl wr).alloc (.cells #[.string (str x.1), .int .i64 x.2] 124))) (Nat.le_refl _)
        have HLW2 := Lib.hid (show LW w c (n : Nat) (Cs.nt csj x).2 w2 from ⟨HL.out.only.trans ho2, hd.cb, HL.out.nb.grown ho2 (fun e => by have := Option.some.inj e; omega)⟩)
        clear hd ho2
        go_wp2_with fail
        exact ⟨⟨j + 1, _, by go_num, by omega, HEQ2.out, HLW2.out, HRX.out, HFX.out, .inl (by omega), fun _ => hn500⟩, by simp [intOf]; omega⟩
      · go_wp2_with fail
        go_end0
        exact STOP.out (.inl (by omega))
end Go.Proofs.YtgbnpehpfadehaaGreatDoor

namespace Go.Proofs.YtgbnpehpfadehaaGreatDoor
open Go.RowKit

theorem info_lP : (Tryz.prog.info? 130).map (fun i => (i.zero, i.size, i.bytes)) = some (some (.agg #[.string ⟨#[]⟩, .int .i64 0]), 2, 24) := by kernel_rfl

set_option maxRecDepth 4000 in
set_option maxHeartbeats 1600000 in
theorem cd_listP_rd (l : List UInt8) (st : Rd.St) (hl : l.length ≤ 2 ^ 62) (hst : Rd.Fine l st) (most : Nat) (hmost : most ≤ 500) (c q o k : Nat) (Tq Tk : TypeId) (qs : Array Value) (ho : qs[o]? = some (.slice none 0 0)) (hcq : c ≠ q) (hkc : k ≠ c) (hkq : k ≠ q) (w : World)
    (hc : Blk w c 81 (Cs.rd l st).cells) (hq : Blk w q Tq qs) (hk : Blk w k Tk #[.pointer (some ⟨c, 0, none⟩)]) (P : Nat → Prop) :
    Calls Tryz.prog 57 #[.pointer (some ⟨c, 0, none⟩), .pointer (some ⟨q, o, none⟩), .int .i64 (most : Nat), .func (.func 58) #[] #[.pointer (some ⟨k, 0, none⟩)]] w
      (ListDid 2 ncell Tq w c q P ((Cs.rd l st).list (most : Int) Cs.nt ([], 0) []).2 qs o ((Cs.rd l st).list (most : Int) Cs.nt ([], 0) []).1) := by
  obtain ⟨i0, hi, hz0, hz1, hz2⟩ := info_parts info_lP
  have hclt := hc.lt
  have hqlt := hq.lt
  have hklt := hk.lt
  have hqc : ¬ q = c := fun e => hcq e.symm
  have hnc : c ≠ w.heap.size := by omega
  have hnq : q ≠ w.heap.size := by omega
  have hqn' : ¬ q = w.heap.size := hnq
  have HAL := Lib.hid ((Keeps.refl w).alloc (.cells #[.int .i64 0] 3))
  have HNB := Lib.hid (Blk.new w 3 #[.int .i64 0])
  have HC := Lib.hid (hc.keeps HAL.out)
  have HQ := Lib.hid (hq.keeps HAL.out)
  have HK := Lib.hid hk
  have hqo := hq.cell o _ ho
  have HO := Lib.hid ho
  have hosz : o < qs.size := (Array.getElem?_eq_some_iff.1 ho).1
  have NU := Lib.hid (fun w' hc hn => cd_num 0 (by decide) (Cs.rd l st) ⟨hl, hst⟩ 0 (most : Int) 0 (by decide) c w.heap.size 0 3 #[.int .i64 0] rfl hnc w' hc hn)
  have hfine := (show (Cs.rd l st).Fine 0 from ⟨hl, hst⟩).num 0 (most : Int) 0
  have hnum : (Cs.rd l st).num 0 (most : Int) 0 = ((Rd.rn 0 (most : Int) l st).1, Cs.rd l (Rd.rn 0 (most : Int) l st).2) := rfl
  have hlist : (Cs.rd l st).list (most : Int) Cs.nt ([], 0) [] = Cs.eachR Cs.nt ([], 0) (Rd.rn 0 (most : Int) l st).1.toNat (Cs.rd l (Rd.rn 0 (most : Int) l st).2) := by
    unfold Cs.list; rw [if_pos (show (Cs.rd l st).reads = true from rfl)]; rfl
  have hmm0 : (Rd.rn 0 (most : Int) l st).2.2 = 0 → 0 ≤ (Rd.rn 0 (most : Int) l st).1 ∧ (Rd.rn 0 (most : Int) l st).1 ≤ most := fun h => (Rd.rn_ok rfl h).2
  rw [hnum] at NU hfine
  obtain ⟨⟨m, st1⟩, hrn⟩ : ∃ r, Rd.rn 0 (most : Int) l st = r := ⟨_, rfl⟩
  rw [hrn] at NU hfine hlist hmm0
  rw [hlist]
  simp only at hfine hmm0
  obtain ⟨hf1, hm64⟩ := hfine
  have hm64 := hm64 rfl
  have HMM := Lib.hid (fun (h : (Cs.rd l st1).bad = false) => hmm0 (by simpa [Cs.bad] using h))
  have HF1 := Lib.hid hf1
  clear hrn hnum hlist hmm0 hf1 hc hq hk ho hst hl hnc
  go_enter Tryz.func57, Tryz.ntmps57
  go_wp2_with fail
  refine (NU.out _ HC.out HNB.out).mono ?_
  rintro e w1 ⟨rfl, hd⟩
  have hcs1 : w1.cell? ⟨c, 2, none⟩ = some (.bool true) := hd.cb.cs.1
  have hnb1 : Blk w1 w.heap.size 3 #[.int .i64 m] := hd.qb
  have hnc1 := hnb1.cell 0 _ rfl
  have hon := hd.two.only (Only.of_keeps (b := c) HAL.out) (Nat.le_refl _)
  have hq1 := HQ.out.two hd.two hqc hnq
  have hqc1 := hq1.cell o _ HO.out
  have hqf1 := hq1.frozen o
  have HLR := Lib.hid (LR.start (size := 2) (f := ncell) (K := Kin.none _) (m := m) (w := w) (o := o) ⟨(Two.of_only hon).set2 o (.slice none 0 0), hd.cb.other ⟨q, o, none⟩ hcq _, hq1.set o (.slice none 0 0)⟩ (hnb1.other ⟨q, o, none⟩ (by show w.heap.size ≠ q; omega) _))
  have hs1 := World.grownBy.size hon
  clear hd hon hq1
  go_wp2_with fail
  go_loopw [9] (fun i wr => ∃ (dl : List (List UInt8 × Int)) (csj : Cs) (vo : Value), i = .int .i64 (dl.length : Nat) ∧ Far Cs.nt ([], 0) id m.toNat (Cs.rd l st1) csj dl ∧ LR 2 ncell (Kin.none _) Tq w c q o m qs csj dl vo wr ∧ csj.reads = true ∧ csj.Fine 10 ∧ (csj.bad = false → 0 ≤ m ∧ m ≤ most)) (fun i _ => m.toNat - (intOf i).toNat)
  case atStart => exact ⟨[], Cs.rd l st1, .slice none 0 0, rfl, Far.start _ _ _ _ _, HLR.out, rfl, HF1.out, HMM.out⟩
  case round =>
    obtain ⟨dl, csj, vo, rfl, hfar, hlr, hrdj, hfj, hmj⟩ := hrel
    obtain ⟨ao, capo, rfl, -⟩ := hlr.own.slice
    have FAR := Lib.hid hfar
    have HL := Lib.hid hlr
    have HFJ := Lib.hid hfj
    have hnbj := hlr.nb.cell 0 _ rfl
    obtain ⟨j, hj⟩ : ∃ j, dl.length = j := ⟨_, rfl⟩
    have hjM : j ≤ m.toNat := by rw [← hj]; exact hfar.le
    obtain ⟨hcj1, hcj2⟩ := hlr.cq.cb.cs
    rw [hrdj] at hcj1
    have HMJ := Lib.hid hmj
    have HRJ := Lib.hid hrdj
    clear hfar hlr hfj hmj hrdj HLR hqc1 hqf1 hcs1 hnc1 hnb1 HMM HF1 HC HQ NU HNB
    have stop : (m.toNat ≤ j ∨ csj.bad = true) → ListDid 2 ncell Tq w c q P (Cs.eachR Cs.nt ([], 0) m.toNat (Cs.rd l st1)).2 qs o (Cs.eachR Cs.nt ([], 0) m.toNat (Cs.rd l st1)).1 (.returned (.tuple #[])) wr := by
      intro hs
      rw [FAR.out.stop (by rw [hj]; exact hs), List.map_id]
      refine ⟨_, rfl, HL.out.cq, Fl.of_own HL.out.own ?_ (fun x => rfl) (fun g hg => .inr (by have := HL.out.own.base g hg; omega))⟩
      have := FAR.out.le
      show dl.length ≤ 9223372036854775807
      omega
    have STOP := Lib.hid stop
    have HJ := Lib.hid hj
    rw [hj]
    clear stop hj
    by_cases hb : csj.bad = true
    · rw [hb] at hcj2
      by_cases hlt : (j : Int) < m
      · have hdl : decide ((j : Int) < m) = true := by simpa using hlt
        have HB := Lib.hid hb
        clear hlt hb
        go_wp2_with fail
        go_end0
        exact STOP.out (.inr HB.out)
      · have hdl : decide ((j : Int) < m) = false := by simpa using hlt
        have HB := Lib.hid hb
        clear hlt hb
        go_wp2_with fail
        go_end0
        exact STOP.out (.inr HB.out)
    · have hb : csj.bad = false := by simpa using hb
      rw [hb] at hcj2
      have HB := Lib.hid hb
      obtain ⟨hm0, hm1⟩ := HMJ.out hb
      by_cases hlt : (j : Int) < m
      · have hdl : decide ((j : Int) < m) = true := by simpa using hlt
        have hj500 : j < 500 := by omega
        have hjm : j < m.toNat := by omega
        have hsr := HL.out.nb.lt
        have hcr : c ≠ wr.heap.size := by omega
        have hqr : ¬ q = wr.heap.size := by omega
        have hkr := HK.out.two HL.out.cq.two hkc hkq
        have hklr := hkr.lt
        have CL := Lib.hid (fun w' hc hq hk => cl_nt3 10 (by decide) csj HFJ.out ([], 0) (by simp) (by decide) c wr.heap.size k 130 Tk hcr w' hc hq hk hkc (by omega))
        have HXB := Lib.hid (Blk.new wr 130 #[.string ⟨#[]⟩, .int .i64 0])
        have HCA := Lib.hid (HL.out.cq.cb.keeps ((Keeps.refl wr).alloc (.cells #[.string ⟨#[]⟩, .int .i64 0] 130)))
        have HKA := Lib.hid (hkr.keeps ((Keeps.refl wr).alloc (.cells #[.string ⟨#[]⟩, .int .i64 0] 130)))
        have hcj1 := ((Keeps.refl wr).alloc (.cells #[.string ⟨#[]⟩, .int .i64 0] 130)).cell hcj1
        clear hlt hb hkr
        go_wp2_with fail
        refine (CL.out _ HCA.out HXB.out HKA.out).mono ?_
        rintro e w2 ⟨rfl, hd⟩
        obtain ⟨x, hx⟩ : ∃ x, (Cs.nt csj ([], 0)).1 = x := ⟨_, rfl⟩
        rw [hx] at hd
        have ho2 := hd.two.only (Only.of_keeps (b := c) ((Keeps.refl wr).alloc (.cells #[.string ⟨#[]⟩, .int .i64 0] 130))) (Nat.le_refl _)
        have hqb2 := HL.out.cq.qb.grown ho2 (fun e => hcq (Option.some.inj e).symm)
        have hso := World.grownBy.size ho2
        have hqo2 : w2.cell? ⟨q, o, none⟩ = some (.slice ao dl.length capo) := hqb2.cell o _ (by rw [Array.getElem?_setIfInBounds]; simp [hosz])
        have hown2 := HL.out.own.grown_only ho2 (by omega)
        have x0 : w2.cell? ⟨wr.heap.size, 0, none⟩ = some (.string (str x.1)) := hd.qb.cell 0 _ rfl
        have x1 : w2.cell? ⟨wr.heap.size, 1, none⟩ = some (.int .i64 x.2) := hd.qb.cell 1 _ rfl
        have HX := Lib.hid hx
        have HD := Lib.hid hd
        have HO2 := Lib.hid ho2
        have HQB2 := Lib.hid hqb2
        have HOWN := Lib.hid hown2
        have hw2 : w.heap.size + 1 ≤ w2.heap.size := by omega
        have hq2 : ¬ q = w2.heap.size := by omega
        have hx2 : ¬ wr.heap.size = w2.heap.size := by have := hd.qb.lt; omega
        have hqo3 := ((Keeps.refl w2).alloc (.cells #[.string (str x.1), .int .i64 x.2] 130)).cell hqo2
        have hfd := Lib.hid (Feeds.newD (P := Tryz.prog) w2 130 (ncell x) (by simp [ncell, Value.oneCell']) 1)
        have HKA2 := Lib.hid ((Keeps.refl w2).alloc (.cells #[.string (str x.1), .int .i64 x.2] 130)).drew
        have HE := Lib.hid (show (Kin.none (List UInt8 × Int)).E x (fun g => wr.heap.size + 1 ≤ g) w2 from trivial)
        have HRX := Lib.hid (show (Cs.nt csj ([], 0)).2.reads = true by rw [Cs.nt_reads]; exact HRJ.out)
        have HFX := Lib.hid (Cs.Fine.of_reads (B := 10) (HFJ.out.nt ([], 0)) HRX.out)
        have HJ1 := Lib.hid (show dl.length + 1 ≤ 501 by rw [HJ.out]; omega)
        rw [HJ.out] at hqo2 hqo3
        clear hd ho2 hqb2 hown2 hx
        go_wp2_with fail
        go_region_law (first
          | (refine step_append_own rfl _ _ 49 49 rfl (w.heap.size + 1) 130 i0 (.agg #[.string ⟨#[]⟩, .int .i64 0]) 2 24 Tryz.underlying49 ⟨_, Tryz.underlying49, fun _ h => by cases h⟩ hi hz0 hz1 hz2 rfl (by decide) (.slice ao j capo) dl.length (dl.flatMap ncell) rfl (by have h := HOWN.out.keeps HKA2.out; rw [HJ.out] at h ⊢; exact h) (.slice (some ⟨w2.heap.size, 0, none⟩) 1 1) 1 (ncell x) rfl hfd.out (by have := HJ1.out; unfold maxLen; omega) (by have := HJ1.out; omega) (by simp; omega) ?_; intro v' w4 hown hg hnew; obtain ⟨ad2, cap2, rfl, -⟩ := hown.slice; have hqb4 := (HQB2.out.keeps HKA2.out).grown hg (fun e => by have := HOWN.out.base q (by rw [HJ.out]; exact e.symm); omega); have y0 := hqb4.cell o (.slice ao dl.length capo) (by rw [Array.getElem?_setIfInBounds]; simp [hosz]); have y1 := hqb4.frozen o; have HG := Lib.hid hg; have HOWN4 := Lib.hid hown; have HNEW := Lib.hid hnew; clear hqb4 hown hg hnew))
        all_goals
          go_wp2_with fail
          have hrel : ∃ (dl' : List (List UInt8 × Int)) (csj' : Cs) (vo' : Value), Value.int .i64 ((j : Int) + 1) = .int .i64 (dl'.length : Nat) ∧ Far Cs.nt ([], 0) id m.toNat (Cs.rd l st1) csj' dl' ∧ LR 2 ncell (Kin.none _) Tq w c q o m qs csj' dl' vo' (w4.setCell ⟨q, o, none⟩ (.slice ad2 (dl.length + 1) cap2)) ∧ csj'.reads = true ∧ csj'.Fine 10 ∧ (csj'.bad = false → 0 ≤ m ∧ m ≤ most) :=
            ⟨dl ++ [x], _, .slice ad2 (dl.length + 1) cap2, by rw [List.length_append, HJ.out]; rfl, FAR.out.next (by rw [HJ.out]; exact hjm) HB.out HX.out.symm, by have h := LR.next (vo' := .slice ad2 (dl.length + 1) cap2) (size := 2) (f := ncell) (fun _ => rfl) (by decide) HL.out hclt hqlt hcq HO2.out HD.out.cb HKA2.out HE.out HOWN4.out (by rw [HJ.out]; exact HG.out) (fun k' hk' => by have h := HNEW.out k' hk'; rw [HJ.out]; simpa using h); exact h, HRX.out, HFX.out, fun _ => ⟨hm0, hm1⟩⟩
          have hmeas : m.toNat - (j + 1) < m.toNat - j := by omega
          first
            | exact ⟨hrel, by simp [intOf]; omega⟩
            | (refine ⟨?_, by simp [intOf]; omega⟩; (repeat apply Exists.intro); exact ⟨hrel, rfl⟩)
      · have hdl : decide ((j : Int) < m) = false := by simpa using hlt
        have hjm : m.toNat ≤ j := by omega
        clear hlt hb
        go_wp2_with fail
        go_end0
        exact STOP.out (.inl hjm)

set_option maxRecDepth 4000 in
set_option maxHeartbeats 1600000 in
theorem cd_listP_wr (B : Nat) (hB : B ≤ 2 ^ 57) (s : List UInt8) (bd : Bool) (hf : s.length ≤ B) (most : Nat) (hmost : most ≤ 500) (xs : List (List UInt8 × Int)) (hxs : ∀ x ∈ xs, x.1.length ≤ 2 ^ 48 ∧ -9223372036854775808 ≤ x.2 ∧ x.2 ≤ 9223372036854775807) (v : Value) (P : Nat → Prop) (c q o k : Nat) (hP : ∀ g, P g → g ≠ c ∧ g ≠ q) (Tq Tk : TypeId) (qs : Array Value) (ho : qs[o]? = some v) (hcq : c ≠ q) (hkc : k ≠ c) (hkq : k ≠ q) (w : World)
    (hv : Fl 2 ncell P w v xs) (hc : Blk w c 81 (Cs.wr s bd).cells) (hq : Blk w q Tq qs) (hk : Blk w k Tk #[.pointer (some ⟨c, 0, none⟩)]) :
    Calls Tryz.prog 57 #[.pointer (some ⟨c, 0, none⟩), .pointer (some ⟨q, o, none⟩), .int .i64 (most : Nat), .func (.func 58) #[] #[.pointer (some ⟨k, 0, none⟩)]] w
      (ListDid 2 ncell Tq w c q P ((Cs.wr s bd).list (most : Int) Cs.nt ([], 0) xs).2 qs o ((Cs.wr s bd).list (most : Int) Cs.nt ([], 0) xs).1) := by
  have hclt := hc.lt
  have hqlt := hq.lt
  have hklt := hk.lt
  have hqc : ¬ q = c := fun e => hcq e.symm
  have hnc : c ≠ w.heap.size := by omega
  have hnq : q ≠ w.heap.size := by omega
  have hkn : k ≠ w.heap.size := by omega
  obtain ⟨n, hn⟩ : ∃ n, xs.length = n := ⟨_, rfl⟩
  have HV := Lib.hid hv
  obtain ⟨ad, cap, rfl, hnl, h0, g, oo, ha, hcell⟩ := hv
  rw [hn] at hnl ho
  have HAL := Lib.hid ((Keeps.refl w).alloc (.cells #[.int .i64 (n : Nat)] 3))
  have HNB := Lib.hid (Blk.new w 3 #[.int .i64 (n : Nat)])
  have HC := Lib.hid (hc.keeps HAL.out)
  have HQ := Lib.hid (hq.keeps HAL.out)
  have HQ0 := Lib.hid hq
  have HK := Lib.hid hk
  have hqo := hq.cell o _ ho
  have HO := Lib.hid ho
  have NU := Lib.hid (fun w' hc hn' => cd_num B (by omega) (Cs.wr s bd) hf 0 (most : Int) (n : Nat) (by omega) c w.heap.size 0 3 #[.int .i64 (n : Nat)] rfl hnc w' hc hn')
  have hfine := ((show (Cs.wr s bd).Fine B from hf).num 0 (most : Int) (n : Nat)).1
  have hrd0 := Cs.num_reads 0 (most : Int) (Cs.wr s bd) (n : Nat)
  have hnum1 : ((Cs.wr s bd).num 0 (most : Int) (n : Nat)).1 = (n : Nat) := rfl
  have hlist : (Cs.wr s bd).list (most : Int) Cs.nt ([], 0) xs = (xs, Cs.eachW Cs.nt ((Cs.wr s bd).num 0 (most : Int) (n : Nat)).2 xs) := by
    unfold Cs.list; rw [if_neg (show ¬ (Cs.wr s bd).reads = true from fun h => by cases h), hn]
  rw [hnum1] at NU
  obtain ⟨cs1, hcs⟩ : ∃ r, ((Cs.wr s bd).num 0 (most : Int) (n : Nat)).2 = r := ⟨_, rfl⟩
  rw [hcs] at NU hfine hlist hrd0
  rw [hlist]
  have HSM := Lib.hid (show cs1.bad = false → n ≤ 500 from fun h => by
    rw [← hcs] at h
    have h : (bd || !(decide (0 ≤ ((n : Nat) : Int)) && decide (((n : Nat) : Int) ≤ (most : Int)))) = false := h
    simp at h
    omega)
  have HF1 := Lib.hid hfine
  have HR1 := Lib.hid (show cs1.reads = false from hrd0)
  have HB57 := Lib.hid hB
  have HP := Lib.hid hP
  have HXS := Lib.hid hxs
  have HA := Lib.hid ha
  have HCELL := Lib.hid hcell
  have HN := Lib.hid hn
  clear hcs hnum1 hlist hfine hrd0 hc hq hk ho hf hnc hP hxs ha hcell hn hB
  go_enter Tryz.func57, Tryz.ntmps57
  go_wp2_with fail
  refine (NU.out _ HC.out HNB.out).mono ?_
  rintro e w1 ⟨rfl, hd⟩
  have hcs1 : w1.cell? ⟨c, 2, none⟩ = some (.bool false) := by have h := hd.cb.cs.1; rw [HR1.out] at h; exact h
  have hon := hd.two.only (Only.of_keeps (b := c) HAL.out) (Nat.le_refl _)
  have HLW := Lib.hid (show LW w c (n : Nat) cs1 w1 from ⟨hon, hd.cb, hd.qb⟩)
  clear hd hon
  go_wp2_with fail
  go_loopw [9] (fun i wr => ∃ (j : Nat) (csj : Cs), i = .int .i64 (j : Nat) ∧ j ≤ n ∧ Cs.eachW Cs.nt cs1 xs = Cs.eachW Cs.nt csj (xs.drop j) ∧ LW w c (n : Nat) csj wr ∧ csj.reads = false ∧ csj.Fine (B + 10 + j * 562949953421312) ∧ (j ≤ 500 ∨ csj.bad = true) ∧ (csj.bad = false → n ≤ 500)) (fun i _ => n - (intOf i).toNat)
  case atStart => exact ⟨0, cs1, rfl, Nat.zero_le _, rfl, HLW.out, HR1.out, by have := HF1.out; simpa using this, .inl (by decide), fun h => HSM.out h⟩
  case round =>
    obtain ⟨j, csj, rfl, hjn, heq, hlw, hrj, hfj, hj5, hn5⟩ := hrel
    have HEQ := Lib.hid heq
    have HL := Lib.hid hlw
    have HFJ := Lib.hid hfj
    have HRJ := Lib.hid hrj
    have hnbj := hlw.nb.cell 0 _ rfl
    have hcj1 : wr.cell? ⟨c, 2, none⟩ = some (.bool false) := by have h := hlw.cb.cs.1; rw [hrj] at h; exact h
    have hcj2 := hlw.cb.cs.2
    have hqr := HQ0.out.grown hlw.only (fun e => hcq (Option.some.inj e).symm)
    have hqor := hqr.cell o _ HO.out
    have HQR := Lib.hid hqr
    have STOP := Lib.hid (show (n ≤ j ∨ csj.bad = true) → ListDid 2 ncell Tq w c q P (Cs.eachW Cs.nt cs1 xs) qs o xs (.returned (.tuple #[])) wr from by
      intro hs
      have e : Cs.eachW Cs.nt cs1 xs = csj := by
        rw [HEQ.out]
        rcases hs with hs | hs
        · rw [List.drop_eq_nil_of_le (by rw [HN.out]; exact hs)]; rfl
        · exact Cs.eachW_skip _ hs _
      rw [e]
      refine ⟨.slice ad xs.length cap, rfl, ⟨Two.of_only HL.out.only, HL.out.cb, ?_⟩, ?_⟩
      · rw [HN.out, set_same HO.out]; exact HQR.out
      · exact HV.out.move (fun g hg hlt => ⟨.inl hg, World.grownBy.block HL.out.only g hlt (fun e => (HP.out g hg).1 (Option.some.inj e))⟩) (fun x => ⟨_, rfl⟩))
    clear heq hlw hfj hrj hqr HLW hcs1 HF1 HR1 NU HC HQ HNB hqo
    by_cases hb : csj.bad = true
    · rw [hb] at hcj2
      have HB := Lib.hid hb
      clear hb hj5 hn5
      by_cases hlt : j < n
      · go_wp2_with fail
        go_end0
        exact STOP.out (.inr HB.out)
      · go_wp2_with fail
        go_end0
        exact STOP.out (.inr HB.out)
    · have hb : csj.bad = false := by simpa using hb
      have hn500 := hn5 hb
      rw [hb] at hcj2
      have HB := Lib.hid hb
      clear hb hj5 hn5
      by_cases hlt : j < n
      · obtain ⟨x, hx⟩ : ∃ x, xs[j]? = some x := ⟨_, List.getElem?_eq_getElem (by rw [HN.out]; exact hlt)⟩
        have hmem : x ∈ xs := List.mem_of_getElem? hx
        obtain ⟨had, hPg⟩ := HA.out (fun e => by rw [e] at hx; simp at hx)
        subst had
        have hgne : g ≠ c ∧ g ≠ q := HP.out g hPg
        have x0 : wr.cell? ⟨g, oo + j * 2, none⟩ = some (.string (str x.1)) := by have h := HCELL.out j x hx 0 _ rfl; rw [World.cell?_of_block (World.grownBy.block HL.out.only g (World.block_lt_of_cell? w _ h) (fun e => hgne.1 (Option.some.inj e)))]; exact h
        have x1 : wr.cell? ⟨g, oo + j * 2 + 1, none⟩ = some (.int .i64 x.2) := by have h := HCELL.out j x hx 1 _ rfl; rw [World.cell?_of_block (World.grownBy.block HL.out.only g (World.block_lt_of_cell? w _ h) (fun e => hgne.1 (Option.some.inj e)))]; exact h
        have hdrop : xs.drop j = x :: xs.drop (j + 1) := by
          rw [List.drop_eq_getElem_cons (by rw [HN.out]; exact hlt)]
          congr 1
          rw [List.getElem?_eq_getElem (by rw [HN.out]; exact hlt)] at hx
          exact Option.some.inj hx
        have heq2 : Cs.eachW Cs.nt cs1 xs = Cs.eachW Cs.nt (Cs.nt csj x).2 (xs.drop (j + 1)) := by
          rw [HEQ.out, hdrop, Cs.eachW, if_neg (by rw [HB.out]; decide)]
        have HEQ2 := Lib.hid heq2
        have hbd := HXS.out x hmem
        have hsr := HL.out.nb.lt
        have hcr : c ≠ wr.heap.size := by omega
        have hqr : ¬ q = wr.heap.size := by omega
        have hkr := HK.out.grown HL.out.only (fun e => hkc (Option.some.inj e))
        have hBj : B + 10 + j * 562949953421312 ≤ 2 ^ 59 := by have := HB57.out; omega
        have CL := Lib.hid (fun w' hc hq hk => cl_nt3 (B + 10 + j * 562949953421312) (by omega) csj HFJ.out x (by omega) hbd.2 c wr.heap.size k 130 Tk hcr w' hc hq hk hkc (by omega))
        have HXB := Lib.hid (Blk.new wr 130 #[.string (str x.1), .int .i64 x.2])
        have HCA := Lib.hid (HL.out.cb.keeps ((Keeps.refl wr).alloc (.cells #[.string (str x.1), .int .i64 x.2] 130)))
        have HKA := Lib.hid (hkr.keeps ((Keeps.refl wr).alloc (.cells #[.string (str x.1), .int .i64 x.2] 130)))
        have HRX := Lib.hid (show (Cs.nt csj x).2.reads = false by rw [Cs.nt_reads]; exact HRJ.out)
        have HFX := Lib.hid (show (Cs.nt csj x).2.Fine (B + 10 + (j + 1) * 562949953421312) from (HFJ.out.nt x).mono (by have := hbd; omega))
        have HMEM := Lib.hid hbd
        clear heq2 hdrop hx hmem hkr hbd hBj
        go_wp2_with fail
        refine (CL.out _ HCA.out HXB.out HKA.out).mono ?_
        rintro e w2 ⟨rfl, hd⟩
        have ho2 := hd.two.only (Only.of_keeps (b := c) ((Keeps.refl wr).alloc (.cells #[.string (str x.1), .int .i64 x.2] 130))) (Nat.le_refl _)
        have HLW2 := Lib.hid (show LW w c (n : Nat) (Cs.nt csj x).2 w2 from ⟨HL.out.only.trans ho2, hd.cb, HL.out.nb.grown ho2 (fun e => by have := Option.some.inj e; omega)⟩)
        clear hd ho2
        go_wp2_with fail
        exact ⟨⟨j + 1, _, by go_num, by omega, HEQ2.out, HLW2.out, HRX.out, HFX.out, .inl (by omega), fun _ => hn500⟩, by simp [intOf]; omega⟩
      · go_wp2_with fail
        go_end0
        exact STOP.out (.inl (by omega))
end Go.Proofs.YtgbnpehpfadehaaGreatDoor

namespace Go.Proofs.YtgbnpehpfadehaaGreatDoor
open Go.RowKit

/-- what the codec's list of batches leaves -/
def ListDidB (Tq : TypeId) (w : World) (c q : Nat) (P : Nat → Prop) (cs : Cs) (qs : Array Value) (o : Nat) (xs : List Bat) (e : Ending) (w' : World) : Prop :=
  ∃ v, e = .returned (.tuple #[]) ∧ CQ Tq w c q cs (qs.setIfInBounds o v) w' ∧ BsIn (fun g => P g ∨ w.heap.size ≤ g) w' v xs
theorem Tab.lt {w : World} (h : Tab w) : 0 < w.heap.size := World.block_lt_of_cell? w _ (h 0 (by decide))

set_option maxRecDepth 4000 in
set_option maxHeartbeats 1600000 in
theorem cd_listB_rd (l : List UInt8) (st : Rd.St) (hl : l.length ≤ 2 ^ 62) (hst : Rd.Fine l st) (most : Nat) (hmost : most ≤ 500) (c q o k : Nat) (Tq Tk : TypeId) (qs : Array Value) (ho : qs[o]? = some (.slice none 0 0)) (hcq : c ≠ q) (hkc : k ≠ c) (hkq : k ≠ q) (w : World)
    (hc : Blk w c 81 (Cs.rd l st).cells) (hq : Blk w q Tq qs) (hk : Blk w k Tk #[.pointer (some ⟨c, 0, none⟩)]) (ht : Tab w) (hcg : c ≠ 0) (hqg : q ≠ 0) (P : Nat → Prop) :
    Calls Tryz.prog 53 #[.pointer (some ⟨c, 0, none⟩), .pointer (some ⟨q, o, none⟩), .int .i64 (most : Nat), .func (.func 54) #[] #[.pointer (some ⟨k, 0, none⟩)]] w
      (ListDidB Tq w c q P ((Cs.rd l st).list (most : Int) (Cs.bat false) Bat.none []).2 qs o ((Cs.rd l st).list (most : Int) (Cs.bat false) Bat.none []).1) := by
  obtain ⟨i0, hi, hz0, hz1, hz2⟩ := info_parts info_bat
  have HTAB := Lib.hid ht
  have htl := ht.lt
  have hclt := hc.lt
  have hqlt := hq.lt
  have hklt := hk.lt
  have hqc : ¬ q = c := fun e => hcq e.symm
  have hnc : c ≠ w.heap.size := by omega
  have hnq : q ≠ w.heap.size := by omega
  have hqn' : ¬ q = w.heap.size := hnq
  have HAL := Lib.hid ((Keeps.refl w).alloc (.cells #[.int .i64 0] 3))
  have HNB := Lib.hid (Blk.new w 3 #[.int .i64 0])
  have HC := Lib.hid (hc.keeps HAL.out)
  have HQ := Lib.hid (hq.keeps HAL.out)
  have HK := Lib.hid hk
  have hqo := hq.cell o _ ho
  have HO := Lib.hid ho
  have hosz : o < qs.size := (Array.getElem?_eq_some_iff.1 ho).1
  have NU := Lib.hid (fun w' hc hn => cd_num 0 (by decide) (Cs.rd l st) ⟨hl, hst⟩ 0 (most : Int) 0 (by decide) c w.heap.size 0 3 #[.int .i64 0] rfl hnc w' hc hn)
  have hfine := (show (Cs.rd l st).Fine 0 from ⟨hl, hst⟩).num 0 (most : Int) 0
  have hnum : (Cs.rd l st).num 0 (most : Int) 0 = ((Rd.rn 0 (most : Int) l st).1, Cs.rd l (Rd.rn 0 (most : Int) l st).2) := rfl
  have hlist : (Cs.rd l st).list (most : Int) (Cs.bat false) Bat.none [] = Cs.eachR (Cs.bat false) Bat.none (Rd.rn 0 (most : Int) l st).1.toNat (Cs.rd l (Rd.rn 0 (most : Int) l st).2) := by
    unfold Cs.list; rw [if_pos (show (Cs.rd l st).reads = true from rfl)]; rfl
  have hmm0 : (Rd.rn 0 (most : Int) l st).2.2 = 0 → 0 ≤ (Rd.rn 0 (most : Int) l st).1 ∧ (Rd.rn 0 (most : Int) l st).1 ≤ most := fun h => (Rd.rn_ok rfl h).2
  rw [hnum] at NU hfine
  obtain ⟨⟨m, st1⟩, hrn⟩ : ∃ r, Rd.rn 0 (most : Int) l st = r := ⟨_, rfl⟩
  rw [hrn] at NU hfine hlist hmm0
  rw [hlist]
  simp only at hfine hmm0
  obtain ⟨hf1, hm64⟩ := hfine
  have hm64 := hm64 rfl
  have HMM := Lib.hid (fun (h : (Cs.rd l st1).bad = false) => hmm0 (by simpa [Cs.bad] using h))
  have HF1 := Lib.hid hf1
  clear hrn hnum hlist hmm0 hf1 hc hq hk ho hst hl hnc
  go_enter Tryz.func53, Tryz.ntmps53
  go_wp2_with fail
  refine (NU.out _ HC.out HNB.out).mono ?_
  rintro e w1 ⟨rfl, hd⟩
  have hcs1 : w1.cell? ⟨c, 2, none⟩ = some (.bool true) := hd.cb.cs.1
  have hnb1 : Blk w1 w.heap.size 3 #[.int .i64 m] := hd.qb
  have hnc1 := hnb1.cell 0 _ rfl
  have hon := hd.two.only (Only.of_keeps (b := c) HAL.out) (Nat.le_refl _)
  have hq1 := HQ.out.two hd.two hqc hnq
  have hqc1 := hq1.cell o _ HO.out
  have hqf1 := hq1.frozen o
  have HLR := Lib.hid (LR.start (size := 6) (f := bcell) (K := Kin.bat) (m := m) (w := w) (o := o) ⟨(Two.of_only hon).set2 o (.slice none 0 0), hd.cb.other ⟨q, o, none⟩ hcq _, hq1.set o (.slice none 0 0)⟩ (hnb1.other ⟨q, o, none⟩ (by show w.heap.size ≠ q; omega) _))
  have hs1 := World.grownBy.size hon
  clear hd hon hq1
  go_wp2_with fail
  go_loopw [9] (fun i wr => ∃ (dl : List (Bat × Value)) (csj : Cs) (vo : Value), i = .int .i64 (dl.length : Nat) ∧ Far (Cs.bat false) Bat.none Prod.fst m.toNat (Cs.rd l st1) csj dl ∧ LR 6 bcell Kin.bat Tq w c q o m qs csj dl vo wr ∧ csj.reads = true ∧ csj.Fine 10 ∧ (csj.bad = false → 0 ≤ m ∧ m ≤ most)) (fun i _ => m.toNat - (intOf i).toNat)
  case atStart => exact ⟨[], Cs.rd l st1, .slice none 0 0, rfl, Far.start _ _ _ _ _, HLR.out, rfl, HF1.out, HMM.out⟩
  case round =>
    obtain ⟨dl, csj, vo, rfl, hfar, hlr, hrdj, hfj, hmj⟩ := hrel
    obtain ⟨ao, capo, rfl, -⟩ := hlr.own.slice
    have FAR := Lib.hid hfar
    have HL := Lib.hid hlr
    have HFJ := Lib.hid hfj
    have hnbj := hlr.nb.cell 0 _ rfl
    obtain ⟨j, hj⟩ : ∃ j, dl.length = j := ⟨_, rfl⟩
    have hjM : j ≤ m.toNat := by rw [← hj]; exact hfar.le
    obtain ⟨hcj1, hcj2⟩ := hlr.cq.cb.cs
    rw [hrdj] at hcj1
    have HMJ := Lib.hid hmj
    have HRJ := Lib.hid hrdj
    clear hfar hlr hfj hmj hrdj HLR hqc1 hqf1 hcs1 hnc1 hnb1 HMM HF1 HC HQ NU HNB
    have stop : (m.toNat ≤ j ∨ csj.bad = true) → ListDidB Tq w c q P (Cs.eachR (Cs.bat false) Bat.none m.toNat (Cs.rd l st1)).2 qs o (Cs.eachR (Cs.bat false) Bat.none m.toNat (Cs.rd l st1)).1 (.returned (.tuple #[])) wr := by
      intro hs
      rw [FAR.out.stop (by rw [hj]; exact hs)]
      refine ⟨_, rfl, HL.out.cq, BsIn.of_own HL.out.own ?_ (fun g hg => .inr (by have := HL.out.own.base g hg; omega)) (fun i x hx => RsIn.mono (HL.out.kin i x hx) (fun g hg => .inr (by omega)))⟩
      have := FAR.out.le
      show dl.length ≤ 9223372036854775807
      omega
    have STOP := Lib.hid stop
    have HJ := Lib.hid hj
    rw [hj]
    clear stop hj
    by_cases hb : csj.bad = true
    · rw [hb] at hcj2
      by_cases hlt : (j : Int) < m
      · have hdl : decide ((j : Int) < m) = true := by simpa using hlt
        have HB := Lib.hid hb
        clear hlt hb
        go_wp2_with fail
        go_end0
        exact STOP.out (.inr HB.out)
      · have hdl : decide ((j : Int) < m) = false := by simpa using hlt
        have HB := Lib.hid hb
        clear hlt hb
        go_wp2_with fail
        go_end0
        exact STOP.out (.inr HB.out)
    · have hb : csj.bad = false := by simpa using hb
      rw [hb] at hcj2
      have HB := Lib.hid hb
      obtain ⟨hm0, hm1⟩ := HMJ.out hb
      by_cases hlt : (j : Int) < m
      · have hdl : decide ((j : Int) < m) = true := by simpa using hlt
        have hj500 : j < 500 := by omega
        have hjm : j < m.toNat := by omega
        have hsr := HL.out.nb.lt
        have hcr : c ≠ wr.heap.size := by omega
        have hqr : ¬ q = wr.heap.size := by omega
        have hkr := HK.out.two HL.out.cq.two hkc hkq
        have hklr := hkr.lt
        have CL := Lib.hid (fun w' ht hc hq hk => cl_bat 10 (by decide) csj HFJ.out Bat.none (.slice none 0 0) (fun _ => False) c wr.heap.size k Tk (fun g h => h.elim) 25 hcr w' (RsIn.nil _ _) (fun _ => ⟨rfl, rfl⟩) ht hcg (by have := HL.out.nb.lt; omega) hc hq hk)
        have HTA := Lib.hid ((HTAB.out.two HL.out.cq.two hcg hqg).keeps ((Keeps.refl wr).alloc (.cells #[.int .i64 0, .int .i64 0, .int .i64 0, .int .i64 0, .int .i64 0, .slice none 0 0] 25)))
        have HXB := Lib.hid (Blk.new wr 25 #[.int .i64 0, .int .i64 0, .int .i64 0, .int .i64 0, .int .i64 0, .slice none 0 0])
        have HCA := Lib.hid (HL.out.cq.cb.keeps ((Keeps.refl wr).alloc (.cells #[.int .i64 0, .int .i64 0, .int .i64 0, .int .i64 0, .int .i64 0, .slice none 0 0] 25)))
        have HKA := Lib.hid (hkr.keeps ((Keeps.refl wr).alloc (.cells #[.int .i64 0, .int .i64 0, .int .i64 0, .int .i64 0, .int .i64 0, .slice none 0 0] 25)))
        have hcj1 := ((Keeps.refl wr).alloc (.cells #[.int .i64 0, .int .i64 0, .int .i64 0, .int .i64 0, .int .i64 0, .slice none 0 0] 25)).cell hcj1
        clear hlt hb hkr
        go_wp2_with fail
        refine (CL.out _ HTA.out HCA.out HXB.out HKA.out).mono ?_
        rintro e w2 ⟨lvx, rfl, hd, hrx⟩
        obtain ⟨bx, hx⟩ : ∃ x, ((Cs.bat false) csj Bat.none).1 = x := ⟨_, rfl⟩
        rw [hx] at hd hrx
        obtain ⟨adx, capx, rfl⟩ := hrx.form
        have ho2 := hd.two.only (Only.of_keeps (b := c) ((Keeps.refl wr).alloc (.cells #[.int .i64 0, .int .i64 0, .int .i64 0, .int .i64 0, .int .i64 0, .slice none 0 0] 25))) (Nat.le_refl _)
        have hqb2 := HL.out.cq.qb.grown ho2 (fun e => hcq (Option.some.inj e).symm)
        have hso := World.grownBy.size ho2
        have hqo2 : w2.cell? ⟨q, o, none⟩ = some (.slice ao dl.length capo) := hqb2.cell o _ (by rw [Array.getElem?_setIfInBounds]; simp [hosz])
        have hown2 := HL.out.own.grown_only ho2 (by omega)
        have hqx : Blk w2 wr.heap.size 25 #[.int .i64 bx.base, .int .i64 bx.span, .int .i64 bx.prod, .int .i64 bx.epoch, .int .i64 bx.seq, .slice adx bx.recs.length capx] := hd.qb
        obtain ⟨x0, x1, x2, x3, x4, x5⟩ := hqx.six
        have HX := Lib.hid hx
        have HD := Lib.hid hd
        have HO2 := Lib.hid ho2
        have HQB2 := Lib.hid hqb2
        have HOWN := Lib.hid hown2
        have hw2 : w.heap.size + 1 ≤ w2.heap.size := by omega
        have hq2 : ¬ q = w2.heap.size := by omega
        have hx2 : ¬ wr.heap.size = w2.heap.size := by have := hd.qb.lt; omega
        have hqo3 := ((Keeps.refl w2).alloc (.cells #[.int .i64 bx.base, .int .i64 bx.span, .int .i64 bx.prod, .int .i64 bx.epoch, .int .i64 bx.seq, .slice adx bx.recs.length capx] 25)).cell hqo2
        have hfd := Lib.hid (Feeds.newD (P := Tryz.prog) w2 25 (bcell (bx, .slice adx bx.recs.length capx)) (by simp [bcell, Value.oneCell']) 1)
        have HKA2 := Lib.hid ((Keeps.refl w2).alloc (.cells #[.int .i64 bx.base, .int .i64 bx.span, .int .i64 bx.prod, .int .i64 bx.epoch, .int .i64 bx.seq, .slice adx bx.recs.length capx] 25)).drew
        have HE := Lib.hid (show Kin.bat.E (bx, .slice adx bx.recs.length capx) (fun g => wr.heap.size + 1 ≤ g) w2 from RsIn.mono hrx (fun g hg => by rcases hg with hg | hg; exact hg.elim; simpa using hg))
        have HRX := Lib.hid (show ((Cs.bat false) csj Bat.none).2.reads = true by rw [Cs.bat_reads]; exact HRJ.out)
        have HFX := Lib.hid (Cs.Fine.of_reads (B := 10) (HFJ.out.bat false Bat.none) HRX.out)
        have HJ1 := Lib.hid (show dl.length + 1 ≤ 501 by rw [HJ.out]; omega)
        rw [HJ.out] at hqo2 hqo3
        clear hd ho2 hqb2 hown2 hx hrx hqx
        go_wp2_with fail
        go_region_law (first
          | (refine step_append_own rfl _ _ 47 47 rfl (w.heap.size + 1) 25 i0 (.agg #[.int .i64 0, .int .i64 0, .int .i64 0, .int .i64 0, .int .i64 0, .slice none 0 0]) 6 64 Tryz.underlying47 ⟨_, Tryz.underlying47, fun _ h => by cases h⟩ hi hz0 hz1 hz2 rfl (by decide) (.slice ao j capo) dl.length (dl.flatMap bcell) rfl (by have h := HOWN.out.keeps HKA2.out; rw [HJ.out] at h ⊢; exact h) (.slice (some ⟨w2.heap.size, 0, none⟩) 1 1) 1 (bcell (bx, .slice adx bx.recs.length capx)) rfl hfd.out (by have := HJ1.out; unfold maxLen; omega) (by have := HJ1.out; omega) (by simp; omega) ?_; intro v' w4 hown hg hnew; obtain ⟨ad2, cap2, rfl, -⟩ := hown.slice; have hqb4 := (HQB2.out.keeps HKA2.out).grown hg (fun e => by have := HOWN.out.base q (by rw [HJ.out]; exact e.symm); omega); have y0 := hqb4.cell o (.slice ao dl.length capo) (by rw [Array.getElem?_setIfInBounds]; simp [hosz]); have y1 := hqb4.frozen o; have HG := Lib.hid hg; have HOWN4 := Lib.hid hown; have HNEW := Lib.hid hnew; clear hqb4 hown hg hnew))
        all_goals
          go_wp2_with fail
          have hrel : ∃ (dl' : List (Bat × Value)) (csj' : Cs) (vo' : Value), Value.int .i64 ((j : Int) + 1) = .int .i64 (dl'.length : Nat) ∧ Far (Cs.bat false) Bat.none Prod.fst m.toNat (Cs.rd l st1) csj' dl' ∧ LR 6 bcell Kin.bat Tq w c q o m qs csj' dl' vo' (w4.setCell ⟨q, o, none⟩ (.slice ad2 (dl.length + 1) cap2)) ∧ csj'.reads = true ∧ csj'.Fine 10 ∧ (csj'.bad = false → 0 ≤ m ∧ m ≤ most) :=
            ⟨dl ++ [(bx, .slice adx bx.recs.length capx)], _, .slice ad2 (dl.length + 1) cap2, by rw [List.length_append, HJ.out]; rfl, FAR.out.next (by rw [HJ.out]; exact hjm) HB.out HX.out.symm, by have h := LR.next (vo' := .slice ad2 (dl.length + 1) cap2) (size := 6) (f := bcell) (fun _ => rfl) (by decide) HL.out hclt hqlt hcq HO2.out HD.out.cb HKA2.out HE.out HOWN4.out (by rw [HJ.out]; exact HG.out) (fun k' hk' => by have h := HNEW.out k' hk'; rw [HJ.out]; simpa using h); exact h, HRX.out, HFX.out, fun _ => ⟨hm0, hm1⟩⟩
          have hmeas : m.toNat - (j + 1) < m.toNat - j := by omega
          first
            | exact ⟨hrel, by simp [intOf]; omega⟩
            | (refine ⟨?_, by simp [intOf]; omega⟩; (repeat apply Exists.intro); exact ⟨hrel, rfl⟩)
      · have hdl : decide ((j : Int) < m) = false := by simpa using hlt
        have hjm : m.toNat ≤ j := by omega
        clear hlt hb
        go_wp2_with fail
        go_end0
        exact STOP.out (.inl hjm)

set_option maxRecDepth 4000 in
set_option maxHeartbeats 1600000 in
theorem cd_listB_wr (B : Nat) (hB : B ≤ 2 ^ 57) (s : List UInt8) (bd : Bool) (hf : s.length ≤ B) (most : Nat) (hmost : most ≤ 500) (xs : List Bat) (v : Value) (P : Nat → Prop) (c q o k : Nat) (hP : ∀ g, P g → g ≠ c ∧ g ≠ q) (Tq Tk : TypeId) (qs : Array Value) (ho : qs[o]? = some v) (hcq : c ≠ q) (hkc : k ≠ c) (hkq : k ≠ q) (w : World)
    (hv : BsIn P w v xs) (hc : Blk w c 81 (Cs.wr s bd).cells) (hq : Blk w q Tq qs) (hk : Blk w k Tk #[.pointer (some ⟨c, 0, none⟩)]) (ht : Tab w) (hcg : c ≠ 0) (hqg : q ≠ 0) :
    Calls Tryz.prog 53 #[.pointer (some ⟨c, 0, none⟩), .pointer (some ⟨q, o, none⟩), .int .i64 (most : Nat), .func (.func 54) #[] #[.pointer (some ⟨k, 0, none⟩)]] w
      (ListDidB Tq w c q P ((Cs.wr s bd).list (most : Int) (Cs.bat false) Bat.none xs).2 qs o ((Cs.wr s bd).list (most : Int) (Cs.bat false) Bat.none xs).1) := by
  have HTAB := Lib.hid ht
  have htl := ht.lt
  have hclt := hc.lt
  have hqlt := hq.lt
  have hklt := hk.lt
  have hqc : ¬ q = c := fun e => hcq e.symm
  have hnc : c ≠ w.heap.size := by omega
  have hnq : q ≠ w.heap.size := by omega
  have hkn : k ≠ w.heap.size := by omega
  obtain ⟨n, hn⟩ : ∃ n, xs.length = n := ⟨_, rfl⟩
  have HV := Lib.hid hv
  obtain ⟨ad, cap, rfl, hnl, h0, g, oo, lv, ha, hcell⟩ := hv
  rw [hn] at hnl ho
  have HAL := Lib.hid ((Keeps.refl w).alloc (.cells #[.int .i64 (n : Nat)] 3))
  have HNB := Lib.hid (Blk.new w 3 #[.int .i64 (n : Nat)])
  have HC := Lib.hid (hc.keeps HAL.out)
  have HQ := Lib.hid (hq.keeps HAL.out)
  have HQ0 := Lib.hid hq
  have HK := Lib.hid hk
  have hqo := hq.cell o _ ho
  have HO := Lib.hid ho
  have NU := Lib.hid (fun w' hc hn' => cd_num B (by omega) (Cs.wr s bd) hf 0 (most : Int) (n : Nat) (by omega) c w.heap.size 0 3 #[.int .i64 (n : Nat)] rfl hnc w' hc hn')
  have hfine := ((show (Cs.wr s bd).Fine B from hf).num 0 (most : Int) (n : Nat)).1
  have hrd0 := Cs.num_reads 0 (most : Int) (Cs.wr s bd) (n : Nat)
  have hnum1 : ((Cs.wr s bd).num 0 (most : Int) (n : Nat)).1 = (n : Nat) := rfl
  have hlist : (Cs.wr s bd).list (most : Int) (Cs.bat false) Bat.none xs = (xs, Cs.eachW (Cs.bat false) ((Cs.wr s bd).num 0 (most : Int) (n : Nat)).2 xs) := by
    unfold Cs.list; rw [if_neg (show ¬ (Cs.wr s bd).reads = true from fun h => by cases h), hn]
  rw [hnum1] at NU
  obtain ⟨cs1, hcs⟩ : ∃ r, ((Cs.wr s bd).num 0 (most : Int) (n : Nat)).2 = r := ⟨_, rfl⟩
  rw [hcs] at NU hfine hlist hrd0
  rw [hlist]
  have HSM := Lib.hid (show cs1.bad = false → n ≤ 500 from fun h => by
    rw [← hcs] at h
    have h : (bd || !(decide (0 ≤ ((n : Nat) : Int)) && decide (((n : Nat) : Int) ≤ (most : Int)))) = false := h
    simp at h
    omega)
  have HF1 := Lib.hid hfine
  have HR1 := Lib.hid (show cs1.reads = false from hrd0)
  have HB57 := Lib.hid hB
  have HP := Lib.hid hP
  have HA := Lib.hid ha
  have HCELL := Lib.hid hcell
  have HN := Lib.hid hn
  clear hcs hnum1 hlist hfine hrd0 hc hq hk ho hf hnc hP ha hcell hn hB
  go_enter Tryz.func53, Tryz.ntmps53
  go_wp2_with fail
  refine (NU.out _ HC.out HNB.out).mono ?_
  rintro e w1 ⟨rfl, hd⟩
  have hcs1 : w1.cell? ⟨c, 2, none⟩ = some (.bool false) := by have h := hd.cb.cs.1; rw [HR1.out] at h; exact h
  have hon := hd.two.only (Only.of_keeps (b := c) HAL.out) (Nat.le_refl _)
  have HLW := Lib.hid (show LW w c (n : Nat) cs1 w1 from ⟨hon, hd.cb, hd.qb⟩)
  clear hd hon
  go_wp2_with fail
  go_loopw [9] (fun i wr => ∃ (j : Nat) (csj : Cs), i = .int .i64 (j : Nat) ∧ j ≤ n ∧ Cs.eachW (Cs.bat false) cs1 xs = Cs.eachW (Cs.bat false) csj (xs.drop j) ∧ LW w c (n : Nat) csj wr ∧ csj.reads = false ∧ csj.Fine (B + 10 + j * 562949953421312) ∧ (j ≤ 500 ∨ csj.bad = true) ∧ (csj.bad = false → n ≤ 500)) (fun i _ => n - (intOf i).toNat)
  case atStart => exact ⟨0, cs1, rfl, Nat.zero_le _, rfl, HLW.out, HR1.out, by have := HF1.out; simpa using this, .inl (by decide), fun h => HSM.out h⟩
  case round =>
    obtain ⟨j, csj, rfl, hjn, heq, hlw, hrj, hfj, hj5, hn5⟩ := hrel
    have HEQ := Lib.hid heq
    have HL := Lib.hid hlw
    have HFJ := Lib.hid hfj
    have HRJ := Lib.hid hrj
    have hnbj := hlw.nb.cell 0 _ rfl
    have hcj1 : wr.cell? ⟨c, 2, none⟩ = some (.bool false) := by have h := hlw.cb.cs.1; rw [hrj] at h; exact h
    have hcj2 := hlw.cb.cs.2
    have hqr := HQ0.out.grown hlw.only (fun e => hcq (Option.some.inj e).symm)
    have hqor := hqr.cell o _ HO.out
    have HQR := Lib.hid hqr
    have STOP := Lib.hid (show (n ≤ j ∨ csj.bad = true) → ListDidB Tq w c q P (Cs.eachW (Cs.bat false) cs1 xs) qs o xs (.returned (.tuple #[])) wr from by
      intro hs
      have e : Cs.eachW (Cs.bat false) cs1 xs = csj := by
        rw [HEQ.out]
        rcases hs with hs | hs
        · rw [List.drop_eq_nil_of_le (by rw [HN.out]; exact hs)]; rfl
        · exact Cs.eachW_skip _ hs _
      rw [e]
      refine ⟨.slice ad xs.length cap, rfl, ⟨Two.of_only HL.out.only, HL.out.cb, ?_⟩, ?_⟩
      · rw [HN.out, set_same HO.out]; exact HQR.out
      · exact HV.out.move (fun g hg hlt => ⟨.inl hg, World.grownBy.block HL.out.only g hlt (fun e => (HP.out g hg).1 (Option.some.inj e))⟩))
    clear heq hlw hfj hrj hqr HLW hcs1 HF1 HR1 NU HC HQ HNB hqo
    by_cases hb : csj.bad = true
    · rw [hb] at hcj2
      have HB := Lib.hid hb
      clear hb hj5 hn5
      by_cases hlt : j < n
      · go_wp2_with fail
        go_end0
        exact STOP.out (.inr HB.out)
      · go_wp2_with fail
        go_end0
        exact STOP.out (.inr HB.out)
    · have hb : csj.bad = false := by simpa using hb
      have hn500 := hn5 hb
      rw [hb] at hcj2
      have HB := Lib.hid hb
      clear hb hj5 hn5
      by_cases hlt : j < n
      · obtain ⟨x, hx⟩ : ∃ x, xs[j]? = some x := ⟨_, List.getElem?_eq_getElem (by rw [HN.out]; exact hlt)⟩
        have hmem : x ∈ xs := List.mem_of_getElem? hx
        obtain ⟨had, hPg⟩ := HA.out (fun e => by rw [e] at hx; simp at hx)
        subst had
        have hgne : g ≠ c ∧ g ≠ q := HP.out g hPg
        obtain ⟨hbc, hbr⟩ := HCELL.out j x hx
        have hgblk : wr.heap[g]? = w.heap[g]? := World.grownBy.block HL.out.only g (World.block_lt_of_cell? w _ hbc.1) (fun e => hgne.1 (Option.some.inj e))
        obtain ⟨adx, capx, hlv⟩ := hbr.form
        rw [hlv] at hbc hbr
        obtain ⟨x0, x1, x2, x3, x4, x5⟩ := hbc
        have x0 := (World.cell?_of_block hgblk).trans x0
        have x1 := (World.cell?_of_block hgblk).trans x1
        have x2 := (World.cell?_of_block hgblk).trans x2
        have x3 := (World.cell?_of_block hgblk).trans x3
        have x4 := (World.cell?_of_block hgblk).trans x4
        have x5 := (World.cell?_of_block hgblk).trans x5
        have hdrop : xs.drop j = x :: xs.drop (j + 1) := by
          rw [List.drop_eq_getElem_cons (by rw [HN.out]; exact hlt)]
          congr 1
          rw [List.getElem?_eq_getElem (by rw [HN.out]; exact hlt)] at hx
          exact Option.some.inj hx
        have heq2 : Cs.eachW (Cs.bat false) cs1 xs = Cs.eachW (Cs.bat false) ((Cs.bat false) csj x).2 (xs.drop (j + 1)) := by
          rw [HEQ.out, hdrop, Cs.eachW, if_neg (by rw [HB.out]; decide)]
        have HEQ2 := Lib.hid heq2
        have hsr := HL.out.nb.lt
        have hcr : c ≠ wr.heap.size := by omega
        have hqr : ¬ q = wr.heap.size := by omega
        have hkr := HK.out.grown HL.out.only (fun e => hkc (Option.some.inj e))
        have hBj : B + 10 + j * 562949953421312 ≤ 2 ^ 59 := by have := HB57.out; omega
        have CL := Lib.hid (fun w' hr ht hc hq hk => cl_bat (B + 10 + j * 562949953421312) (by omega) csj HFJ.out x (.slice adx x.recs.length capx) (fun g' => P g' ∧ g' < w.heap.size) c wr.heap.size k Tk (fun g' h => ⟨(HP.out g' h.1).1, by have := h.2; omega⟩) 25 hcr w' hr (fun h => by rw [HRJ.out] at h; cases h) ht hcg (by omega) hc hq hk)
        have HTA := Lib.hid ((HTAB.out.only HL.out.only hcg).keeps ((Keeps.refl wr).alloc (.cells #[.int .i64 x.base, .int .i64 x.span, .int .i64 x.prod, .int .i64 x.epoch, .int .i64 x.seq, .slice adx x.recs.length capx] 25)))
        have HRA := Lib.hid (show RsIn (fun g' => P g' ∧ g' < w.heap.size) (wr.alloc (.cells #[.int .i64 x.base, .int .i64 x.span, .int .i64 x.prod, .int .i64 x.epoch, .int .i64 x.seq, .slice adx x.recs.length capx] 25)) (.slice adx x.recs.length capx) x.recs from hbr.move (fun g' hg' hlt => ⟨⟨hg', hlt⟩, by rw [((Keeps.refl wr).alloc _).block (Nat.lt_of_lt_of_le hlt (World.grownBy.size HL.out.only))]; exact World.grownBy.block HL.out.only g' hlt (fun e => (HP.out g' hg').1 (Option.some.inj e))⟩))
        have HXB := Lib.hid (Blk.new wr 25 #[.int .i64 x.base, .int .i64 x.span, .int .i64 x.prod, .int .i64 x.epoch, .int .i64 x.seq, .slice adx x.recs.length capx])
        have HCA := Lib.hid (HL.out.cb.keeps ((Keeps.refl wr).alloc (.cells #[.int .i64 x.base, .int .i64 x.span, .int .i64 x.prod, .int .i64 x.epoch, .int .i64 x.seq, .slice adx x.recs.length capx] 25)))
        have HKA := Lib.hid (hkr.keeps ((Keeps.refl wr).alloc (.cells #[.int .i64 x.base, .int .i64 x.span, .int .i64 x.prod, .int .i64 x.epoch, .int .i64 x.seq, .slice adx x.recs.length capx] 25)))
        have HRX := Lib.hid (show ((Cs.bat false) csj x).2.reads = false by rw [Cs.bat_reads]; exact HRJ.out)
        have HFX := Lib.hid (show ((Cs.bat false) csj x).2.Fine (B + 10 + (j + 1) * 562949953421312) from (HFJ.out.bat false x).mono (by omega))
        clear heq2 hdrop hx hmem hkr hBj hbr hgblk hlv
        go_wp2_with fail
        refine (CL.out _ HRA.out HTA.out HCA.out HXB.out HKA.out).mono ?_
        rintro e w2 ⟨lvx, rfl, hd, hrx⟩
        have ho2 := hd.two.only (Only.of_keeps (b := c) ((Keeps.refl wr).alloc (.cells #[.int .i64 x.base, .int .i64 x.span, .int .i64 x.prod, .int .i64 x.epoch, .int .i64 x.seq, .slice adx x.recs.length capx] 25))) (Nat.le_refl _)
        have HLW2 := Lib.hid (show LW w c (n : Nat) ((Cs.bat false) csj x).2 w2 from ⟨HL.out.only.trans ho2, hd.cb, HL.out.nb.grown ho2 (fun e => by have := Option.some.inj e; omega)⟩)
        clear hd ho2 hrx
        go_wp2_with fail
        exact ⟨⟨j + 1, _, by go_num, by omega, HEQ2.out, HLW2.out, HRX.out, HFX.out, .inl (by omega), fun _ => hn500⟩, by simp [intOf]; omega⟩
      · go_wp2_with fail
        go_end0
        exact STOP.out (.inl (by omega))
end Go.Proofs.YtgbnpehpfadehaaGreatDoor
