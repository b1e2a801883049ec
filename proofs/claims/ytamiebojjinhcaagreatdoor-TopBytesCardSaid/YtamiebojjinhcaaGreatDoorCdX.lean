/-
  The codec's batch: the walk.
  The codec's filter: the walk.
-/
import Derived.Test.YtamiebojjinhcaaGreatDoorCdE
import Derived.Test.YtamiebojjinhcaaGreatDoorBtDec
import Derived.Test.YtamiebojjinhcaaGreatDoorExParse
import Derived.Test.YtamiebojjinhcaaGreatDoorExWrite
set_option linter.unusedVariables false
namespace Go.Proofs.YtamiebojjinhcaaGreatDoor
open Go.RowKit

/-- a batch's cells within a block's -/
structure BQ (qs : Array Value) (o : Nat) (b : Bat) (lv : Value) : Prop where
  h0 : qs[o]? = some (.int .i64 b.base)
  h1 : qs[o + 1]? = some (.int .i64 b.span)
  h2 : qs[o + 2]? = some (.int .i64 b.prod)
  h3 : qs[o + 3]? = some (.int .i64 b.epoch)
  h4 : qs[o + 4]? = some (.int .i64 b.seq)
  h5 : qs[o + 5]? = some lv
def setB (qs : Array Value) (o : Nat) (b : Bat) (lv : Value) : Array Value :=
  (((((qs.setIfInBounds o (.int .i64 b.base)).setIfInBounds (o + 1) (.int .i64 b.span)).setIfInBounds (o + 2) (.int .i64 b.prod)).setIfInBounds (o + 3) (.int .i64 b.epoch)).setIfInBounds (o + 4) (.int .i64 b.seq)).setIfInBounds (o + 5) lv
theorem BQ.same {qs : Array Value} {o : Nat} {b : Bat} {lv : Value} (h : BQ qs o b lv) : setB qs o b lv = qs := by
  unfold setB
  rw [set_same h.h0, set_same h.h1, set_same h.h2, set_same h.h3, set_same h.h4, set_same h.h5]
theorem Tab.two {c q : Nat} {w w' : World} (h : Tab w) (k : Two c q w w') (hc : c ≠ 0) (hq : q ≠ 0) : Tab w' := fun i hi => by
  have := h i hi
  rw [World.cell?_of_block (k.block _ (World.block_lt_of_cell? w _ this) (fun e => hc e.symm) (fun e => hq e.symm))]
  exact this
/-- what the codec's batch leaves -/
def BatDid (Tq : TypeId) (w : World) (c q : Nat) (P : Nat → Prop) (cs : Cs) (qs : Array Value) (o : Nat) (b : Bat) (e : Ending) (w' : World) : Prop :=
  ∃ lv, e = .returned (.tuple #[]) ∧ CQ Tq w c q cs (setB qs o b lv) w' ∧ RsIn (fun g => P g ∨ w.heap.size ≤ g) w' lv b.recs
theorem Tab.only {c : Nat} {w w' : World} (h : Tab w) (k : Only c w w') (hc : c ≠ 0) : Tab w' := fun i hi => by
  have := h i hi
  rw [World.cell?_of_block (World.grownBy.block k _ (World.block_lt_of_cell? w _ this) (fun e => hc (Option.some.inj e).symm))]
  exact this
theorem wr_bat (opt : Bool) (s : List UInt8) (bd : Bool) (b : Bat) (h : (opt && b.empty) = false) : (Cs.wr s bd).bat opt b = (b, ((Cs.wr s (bd || !b.ok)).txt 60008 b.enc.1).2) := by
  unfold Cs.bat Cs.txt
  simp only [h, Bool.false_or]
  have : decide ((b.enc.1.length : Int) ≤ 60008) = true := by
    unfold Bat.enc
    cases hok : b.ok
    · simp
    · have := (Bat.ok_of hok).2.2
      have := Bat.bytes_length b
      simp; omega
  rw [this]
  simp
theorem wr_bat0 (s : List UInt8) (bd : Bool) (b : Bat) (h : b.empty = true) : (Cs.wr s bd).bat true b = (b, ((Cs.wr s bd).txt 60008 []).2) := by
  unfold Cs.bat Cs.txt
  simp [h]

set_option maxRecDepth 4000 in
set_option maxHeartbeats 1600000 in
theorem cd_bat_wr (B : Nat) (hB : B ≤ 2 ^ 60) (s : List UInt8) (bd : Bool) (hf : s.length ≤ B) (opt : Bool) (b : Bat) (lv : Value) (P : Nat → Prop) (c q o : Nat) (hP : ∀ g, P g → g ≠ c ∧ g ≠ q) (Tq : TypeId) (qs : Array Value) (ho : BQ qs o b lv) (hcq : c ≠ q) (w : World)
    (hrs : RsIn P w lv b.recs) (ht : Tab w) (hcg : c ≠ 0) (hqg : q ≠ 0)
    (hc : Blk w c 97 (Cs.wr s bd).cells) (hq : Blk w q Tq qs) :
    Calls Tryz.prog 43 #[.pointer (some ⟨c, 0, none⟩), .pointer (some ⟨q, o, none⟩), .bool opt] w (BatDid Tq w c q P ((Cs.wr s bd).bat opt b).2 qs o ((Cs.wr s bd).bat opt b).1) := by
  have hclt := hc.lt
  have hqlt := hq.lt
  have hqc : ¬ q = c := fun e => hcq e.symm
  have hsc : c ≠ w.heap.size := by omega
  have hsq : q ≠ w.heap.size := by omega
  have hsc' : ¬ c = w.heap.size := hsc
  have hsq' : ¬ q = w.heap.size := hsq
  have HAL := Lib.hid ((Keeps.refl w).alloc (.cells #[.string ⟨#[]⟩] 9))
  have HSB := Lib.hid (Blk.new w 9 #[.string ⟨#[]⟩])
  have HC := Lib.hid (hc.keeps HAL.out)
  have HQ := Lib.hid (hq.keeps HAL.out)
  have HTB := Lib.hid (ht.keeps HAL.out)
  have HRS := Lib.hid (hrs.keeps HAL.out)
  have HRS0 := Lib.hid hrs
  have HSAME := Lib.hid ho.same
  have HP := Lib.hid hP
  obtain ⟨ad, cap, rfl⟩ := hrs.form
  have hc' : Blk (w.alloc (.cells #[.string ⟨#[]⟩] 9)) c 97 (cdc s 0 false bd) := HC.out
  obtain ⟨⟨c0, c1, c2, c3⟩, f0, f1, f2, f3⟩ := hc'.cdc
  have b0 := HQ.out.cell o _ ho.h0
  have b1 := HQ.out.cell (o + 1) _ ho.h1
  have b2 := HQ.out.cell (o + 2) _ ho.h2
  have b3 := HQ.out.cell (o + 3) _ ho.h3
  have b4 := HQ.out.cell (o + 4) _ ho.h4
  have b5 := HQ.out.cell (o + 5) _ ho.h5
  have EM := fun w' (h : Keeps (w.alloc (.cells #[.string ⟨#[]⟩] 9)) w') => cd_empty b (.slice ad b.recs.length cap) w' (HRS.out.at_.keeps h)
  have EN := Lib.hid (fun w' (h : Keeps (w.alloc (.cells #[.string ⟨#[]⟩] 9)) w') => bt_encode b (.slice ad b.recs.length cap) w' (HRS.out.at_.keeps h) (HTB.out.keeps h))
  obtain ⟨m, hm⟩ : ∃ m, (opt && b.empty) = m := ⟨_, rfl⟩
  cases m
  · have HW := Lib.hid (wr_bat opt s bd b hm)
    have henl : b.enc.1.length ≤ 60008 := by
      unfold Bat.enc
      cases hok : b.ok
      · simp
      · have := (Bat.ok_of hok).2.2
        have := Bat.bytes_length b
        simp; omega
    have hen2 : (b.enc.2 == 0) = b.ok := by unfold Bat.enc; cases b.ok <;> rfl
    obtain ⟨⟨t, z⟩, he⟩ : ∃ r, b.enc = r := ⟨_, rfl⟩
    rw [he] at henl hen2 EN HW
    obtain ⟨k, hk⟩ : ∃ k, b.ok = k := ⟨_, rfl⟩
    rw [hk] at hen2 HW
    simp only [retS] at EN henl hen2 HW
    rw [HW.out]
    have TX := Lib.hid (fun w' hc hs => cd_txt B (by omega) (Cs.wr s (bd || !k)) hf 60008 t (by omega) c w.heap.size 0 9 #[.string (str t)] rfl hsc w' hc hs)
    clear he hk HW hc hq hrs ht hf ho henl hP hB
    obtain ⟨em, hem⟩ : ∃ e, b.empty = e := ⟨_, rfl⟩
    rw [hem] at EM hm
    have EM := Lib.hid EM
    clear hem
    cases opt
    rotate_left
    have hem2 : em = false := hm
    subst hem2
    all_goals
      clear hm
      go_enter Tryz.func43, Tryz.ntmps43
      go_wp2_with fail
    · refine (EM.out _ (Keeps.refl _)).mono ?_
      rintro e w0 ⟨rfl, hk0⟩
      obtain ⟨⟨c0, c1, c2, c3⟩, f0, f1, f2, f3⟩ := (hc'.keeps hk0).cdc
      have b0 := hk0.cell b0
      have b1 := hk0.cell b1
      have b2 := hk0.cell b2
      have b3 := hk0.cell b3
      have b4 := hk0.cell b4
      have b5 := hk0.cell b5
      go_wp2_with fail
      refine (EN.out _ hk0).mono ?_
      rintro e w1 ⟨rfl, hk1⟩
      have hkw := hk0.trans hk1
      have hc1 := hc'.keeps hkw
      have sb1 := HSB.out.keeps hkw
      have q1 := HQ.out.keeps hkw
      obtain ⟨⟨x0, x1, x2, x3⟩, y0, y1, y2, y3⟩ := hc1.cdc
      have s1c := sb1.cell 0 _ rfl
      go_wp2_with fail
      refine (cd_want c s 0 false bd k _ hc1).mono ?_
      rintro e w2 ⟨rfl, hb2, ho2⟩
      have sb2 := sb1.grown ho2 (by simp; omega)
      have s2c := sb2.cell 0 _ rfl
      have s2f := sb2.frozen 0
      go_wp2_with fail
      refine (TX.out _ (hb2.other ⟨w.heap.size, 0, none⟩ hsc _) (sb2.set 0 (.string (str t)))).mono ?_
      rintro e w3 ⟨rfl, hd⟩
      have hcc : Blk w3 c 97 (cdc (s ++ Vi.text t) 0 false ((bd || !k) || !decide ((t.length : Int) ≤ 60008))) := hd.cb
      obtain ⟨⟨e0, e1, e2, e3⟩, -⟩ := hcc.cdc
      have hon := hd.two.only (((Only.of_keeps (b := c) (HAL.out.trans hkw)).trans ho2).set_new (p := ⟨w.heap.size, 0, none⟩) (Nat.le_refl _) (.string (str t))) (Nat.le_refl _)
      have HQ3 := Lib.hid (((q1.grown ho2 (by simp; exact hqc)).other ⟨w.heap.size, 0, none⟩ hsq (.string (str t))).two hd.two hqc hsq)
      have HON := Lib.hid hon
      have HD := Lib.hid hd
      clear hcc hon hd q1 sb1 sb2 hb2 ho2 hc1
      go_wp2_with fail
      go_end0
      exact ⟨.slice ad b.recs.length cap, rfl, ⟨Two.of_only HON.out, HD.out.cb, by rw [HSAME.out]; exact HQ3.out⟩, HRS0.out.move (fun g hg hlt => ⟨.inl hg, World.grownBy.block HON.out g hlt (fun e => (HP.out g hg).1 (Option.some.inj e))⟩)⟩
    · refine (EN.out _ (Keeps.refl _)).mono ?_
      rintro e w1 ⟨rfl, hk1⟩
      have hk0 := Keeps.refl (w.alloc (.cells #[.string ⟨#[]⟩] 9))
      have hkw := hk0.trans hk1
      have hc1 := hc'.keeps hkw
      have sb1 := HSB.out.keeps hkw
      have q1 := HQ.out.keeps hkw
      obtain ⟨⟨x0, x1, x2, x3⟩, y0, y1, y2, y3⟩ := hc1.cdc
      have s1c := sb1.cell 0 _ rfl
      go_wp2_with fail
      refine (cd_want c s 0 false bd k _ hc1).mono ?_
      rintro e w2 ⟨rfl, hb2, ho2⟩
      have sb2 := sb1.grown ho2 (by simp; omega)
      have s2c := sb2.cell 0 _ rfl
      have s2f := sb2.frozen 0
      go_wp2_with fail
      refine (TX.out _ (hb2.other ⟨w.heap.size, 0, none⟩ hsc _) (sb2.set 0 (.string (str t)))).mono ?_
      rintro e w3 ⟨rfl, hd⟩
      have hcc : Blk w3 c 97 (cdc (s ++ Vi.text t) 0 false ((bd || !k) || !decide ((t.length : Int) ≤ 60008))) := hd.cb
      obtain ⟨⟨e0, e1, e2, e3⟩, -⟩ := hcc.cdc
      have hon := hd.two.only (((Only.of_keeps (b := c) (HAL.out.trans hkw)).trans ho2).set_new (p := ⟨w.heap.size, 0, none⟩) (Nat.le_refl _) (.string (str t))) (Nat.le_refl _)
      have HQ3 := Lib.hid (((q1.grown ho2 (by simp; exact hqc)).other ⟨w.heap.size, 0, none⟩ hsq (.string (str t))).two hd.two hqc hsq)
      have HON := Lib.hid hon
      have HD := Lib.hid hd
      clear hcc hon hd q1 sb1 sb2 hb2 ho2 hc1
      go_wp2_with fail
      go_end0
      exact ⟨.slice ad b.recs.length cap, rfl, ⟨Two.of_only HON.out, HD.out.cb, by rw [HSAME.out]; exact HQ3.out⟩, HRS0.out.move (fun g hg hlt => ⟨.inl hg, World.grownBy.block HON.out g hlt (fun e => (HP.out g hg).1 (Option.some.inj e))⟩)⟩
  · have hm2 : opt = true ∧ b.empty = true := by simpa using hm
    obtain ⟨rfl, hem⟩ := hm2
    have HW := Lib.hid (wr_bat0 s bd b hem)
    rw [hem] at EM
    have EM := Lib.hid EM
    rw [HW.out]
    have TX := Lib.hid (fun w' hc hs => cd_txt B (by omega) (Cs.wr s bd) hf 60008 [] (by simp) c w.heap.size 0 9 #[.string ⟨#[]⟩] rfl hsc w' hc hs)
    clear HW hc hq hrs ht hf ho hP hB hem hm
    go_enter Tryz.func43, Tryz.ntmps43
    go_wp2_with fail
    refine (EM.out _ (Keeps.refl _)).mono ?_
    rintro e w1 ⟨rfl, hk1⟩
    obtain ⟨⟨c0, c1, c2, c3⟩, f0, f1, f2, f3⟩ := (hc'.keeps hk1).cdc
    go_wp2_with fail
    refine (TX.out _ (HC.out.keeps hk1) (HSB.out.keeps hk1)).mono ?_
    rintro e w3 ⟨rfl, hd⟩
    have hcc : Blk w3 c 97 (cdc (s ++ Vi.text []) 0 false (bd || !decide ((([] : List UInt8).length : Int) ≤ 60008))) := hd.cb
    obtain ⟨⟨e0, e1, e2, e3⟩, -⟩ := hcc.cdc
    have hon := hd.two.only (Only.of_keeps (b := c) (HAL.out.trans hk1)) (Nat.le_refl _)
    have HON := Lib.hid hon
    have HD := Lib.hid hd
    clear hcc hon hd
    go_wp2_with fail
    go_end0
    exact ⟨.slice ad b.recs.length cap, rfl, ⟨Two.of_only HON.out, HD.out.cb, by rw [HSAME.out]; exact (HQ.out.keeps hk1).two HD.out.two hqc hsq⟩, HRS0.out.move (fun g hg hlt => ⟨.inl hg, World.grownBy.block HON.out g hlt (fun e => (HP.out g hg).1 (Option.some.inj e))⟩)⟩

theorem rd_bat (opt : Bool) (l : List UInt8) (st : Rd.St) (t : List UInt8) (st1 : Rd.St) (ht : Rd.txt 60008 l st = (t, st1)) :
    (st1.2 ≠ 0 ∨ (opt = true ∧ t = []) → Rd.rb opt l st = (Bat.none, st1)) ∧
      (st1.2 = 0 → ¬ (opt = true ∧ t = []) → Rd.rb opt l st = ((Bat.dec t 0).1, Rd.want (decide ((Bat.dec t 0).2.2 = 0) && decide ((Bat.dec t 0).2.1 = (t.length : Int))) st1)) := by
  constructor
  · intro h
    unfold Rd.rb; rw [ht]; simp only; rw [if_pos h]
  · intro h0 h1
    unfold Rd.rb; rw [ht]; simp only; rw [if_neg (by rintro (h | h); exact h h0; exact h1 h)]
theorem cells_rd (l : List UInt8) (st : Rd.St) (b : Bool) (h : st.2 = 0) : (Cs.rd l (Rd.want b st)).cells = cdc l st.1 true (false || !b) := by
  show cdc l (Rd.want b st).1 true (decide ((Rd.want b st).2 ≠ 0)) = _
  rw [(bad_want b st).1, (bad_want b st).2, h]
  rfl

set_option maxRecDepth 4000 in
set_option maxHeartbeats 800000 in
theorem cd_bat_rd (l : List UInt8) (st : Rd.St) (hl : l.length ≤ 2 ^ 62) (hst : Rd.Fine l st) (opt : Bool) (P : Nat → Prop) (c q o : Nat) (Tq : TypeId) (qs : Array Value) (ho : BQ qs o Bat.none (.slice none 0 0)) (hcq : c ≠ q) (w : World)
    (ht : Tab w) (hcg : c ≠ 0) (hqg : q ≠ 0)
    (hc : Blk w c 97 (Cs.rd l st).cells) (hq : Blk w q Tq qs) :
    Calls Tryz.prog 43 #[.pointer (some ⟨c, 0, none⟩), .pointer (some ⟨q, o, none⟩), .bool opt] w (BatDid Tq w c q P (Cs.rd l (Rd.rb opt l st).2) qs o (Rd.rb opt l st).1) := by
  have hclt := hc.lt
  have hqlt := hq.lt
  have hqc : ¬ q = c := fun e => hcq e.symm
  have hsc : c ≠ w.heap.size := by omega
  have hsq : q ≠ w.heap.size := by omega
  have hsc' : ¬ c = w.heap.size := hsc
  have hsq' : ¬ q = w.heap.size := hsq
  have HAL := Lib.hid ((Keeps.refl w).alloc (.cells #[.string ⟨#[]⟩] 9))
  have HSB := Lib.hid (Blk.new w 9 #[.string ⟨#[]⟩])
  have HC := Lib.hid (hc.keeps HAL.out)
  have HQ := Lib.hid (hq.keeps HAL.out)
  have HT0 := Lib.hid ht
  have HSAME := Lib.hid ho.same
  have HBQ := Lib.hid ho
  have hc' : Blk (w.alloc (.cells #[.string ⟨#[]⟩] 9)) c 97 (cdc l st.1 true (decide (st.2 ≠ 0))) := HC.out
  obtain ⟨⟨c0, c1, c2, c3⟩, f0, f1, f2, f3⟩ := hc'.cdc
  have TX := Lib.hid (fun w' hc hs => cd_txt 0 (by decide) (Cs.rd l st) ⟨hl, hst⟩ 60008 [] (by simp) c w.heap.size 0 9 #[.string ⟨#[]⟩] rfl hsc w' hc hs)
  have hfin := hst.txt (most := 60008) (l := l) (by omega)
  obtain ⟨⟨t, st1⟩, htx⟩ : ∃ r, Rd.txt 60008 l st = r := ⟨_, rfl⟩
  obtain ⟨hr1, hr2⟩ := rd_bat opt l st t st1 htx
  have e1 : (Cs.rd l st).txt 60008 [] = (t, Cs.rd l st1) := by show ((Rd.txt 60008 l st).1, Cs.rd l (Rd.txt 60008 l st).2) = _; rw [htx]
  rw [e1] at TX
  rw [htx] at hfin
  have htl : t.length ≤ 60008 := by have := hfin.2; simp only at this; omega
  have hz : (str t).size = t.length := str_size t
  have hsl := str_toList
  have DE := Lib.hid (fun w' ht => bt_decode t (by omega) 0 w' ht)
  clear hfin htx e1 hc hq ht ho hst hl hc'
  by_cases hs : st1.2 = 0
  · by_cases hem : opt = true ∧ t = []
    · obtain ⟨rfl, rfl⟩ := hem
      rw [hr1 (.inr ⟨rfl, rfl⟩)]
      have hb : decide (st1.2 ≠ 0) = false := by simpa using hs
      clear hr1 hr2
      go_enter Tryz.func43, Tryz.ntmps43
      go_wp2_with fail
      refine (TX.out _ HC.out HSB.out).mono ?_
      rintro e w3 ⟨rfl, hd⟩
      have hcc : Blk w3 c 97 (cdc l st1.1 true (decide (st1.2 ≠ 0))) := hd.cb
      rw [hb] at hcc
      obtain ⟨⟨e0, e1, e2, e3⟩, -⟩ := hcc.cdc
      have s3 : w3.cell? ⟨w.heap.size, 0, none⟩ = some (.string (str [])) := hd.qb.cell 0 _ rfl
      have hon := hd.two.only (Only.of_keeps (b := c) HAL.out) (Nat.le_refl _)
      have HON := Lib.hid hon
      have HD := Lib.hid hd
      clear hcc hon hd hs hb
      go_wp2_with fail
      go_end0
      exact ⟨.slice none 0 0, rfl, ⟨Two.of_only HON.out, HD.out.cb, by rw [HSAME.out]; exact HQ.out.two HD.out.two hqc hsq⟩, RsIn.nil _ _⟩
    · rw [hr2 hs hem]
      have hb : decide (st1.2 ≠ 0) = false := by simpa using hs
      have HCR := Lib.hid (fun b => cells_rd l st1 b hs)
      obtain ⟨⟨g1, tz, e'⟩, hg⟩ : ∃ g, Bat.dec t 0 = g := ⟨_, rfl⟩
      rw [hg] at DE ⊢
      obtain ⟨z1, hz1⟩ : ∃ z1, (e' == 0) = z1 := ⟨_, rfl⟩
      obtain ⟨z2, hz2⟩ : ∃ z2, (tz == (t.length : Int)) = z2 := ⟨_, rfl⟩
      have hzz : (decide (e' = 0) && decide (tz = (t.length : Int))) = (z1 && z2) := by rw [← hz1, ← hz2]; rfl
      rw [hzz]
      clear hr1 hr2 hzz hg hs
      have hem2 : opt = true → (t == []) = false ∧ t.isEmpty = false := fun h => by
        cases t with
        | nil => exact absurd ⟨h, rfl⟩ hem
        | cons a r => exact ⟨rfl, rfl⟩
      clear hem
      cases opt
      rotate_left
      obtain ⟨hem3, hem4⟩ := hem2 rfl
      all_goals
        clear hem2
        cases z1
        all_goals
          go_enter Tryz.func43, Tryz.ntmps43
          go_wp2_with fail
          refine (TX.out _ HC.out HSB.out).mono ?_
          rintro e w3 ⟨rfl, hd⟩
          have hcc : Blk w3 c 97 (cdc l st1.1 true (decide (st1.2 ≠ 0))) := hd.cb
          rw [hb] at hcc
          obtain ⟨⟨x0, x1, x2, x3⟩, -⟩ := hcc.cdc
          have s3 : w3.cell? ⟨w.heap.size, 0, none⟩ = some (.string (str t)) := hd.qb.cell 0 _ rfl
          have HON := Lib.hid (hd.two.only (Only.of_keeps (b := c) HAL.out) (Nat.le_refl _))
          have HQ3 := Lib.hid (HQ.out.two hd.two hqc hsq)
          have HCC := Lib.hid hcc
          have HTB3 := Lib.hid (Tab.only HT0.out HON.out hcg)
          have hw3 := hd.qb.lt
          clear hcc hd
          go_wp2_with fail
          refine (DE.out _ HTB3.out).mono ?_
          rintro e w4 ⟨lv, rfl, hrs4, hk4⟩
          obtain ⟨ad, cap, rfl⟩ := hrs4.form
          simp only [retBt, batV]
          have s4 := (hk4.alloc (.cells #[.int .i64 g1.base, .int .i64 g1.span, .int .i64 g1.prod, .int .i64 g1.epoch, .int .i64 g1.seq, .slice ad g1.recs.length cap] 24)).cell s3
          have hc4 := HCC.out.keeps (hk4.alloc (.cells #[.int .i64 g1.base, .int .i64 g1.span, .int .i64 g1.prod, .int .i64 g1.epoch, .int .i64 g1.seq, .slice ad g1.recs.length cap] 24))
          have hx4 := Blk.new w4 24 #[.int .i64 g1.base, .int .i64 g1.span, .int .i64 g1.prod, .int .i64 g1.epoch, .int .i64 g1.seq, .slice ad g1.recs.length cap]
          have hs4 := hk4.size
          have hne4 : ¬ w.heap.size = w4.heap.size := by omega
          have hq4 := HQ3.out.keeps (hk4.alloc (.cells #[.int .i64 g1.base, .int .i64 g1.span, .int .i64 g1.prod, .int .i64 g1.epoch, .int .i64 g1.seq, .slice ad g1.recs.length cap] 24))
          have HON4 := Lib.hid (HON.out.trans (Only.of_keeps (hk4.alloc (.cells #[.int .i64 g1.base, .int .i64 g1.span, .int .i64 g1.prod, .int .i64 g1.epoch, .int .i64 g1.seq, .slice ad g1.recs.length cap] 24))))
          have HR4 := Lib.hid (hrs4.alloc (.cells #[.int .i64 g1.base, .int .i64 g1.span, .int .i64 g1.prod, .int .i64 g1.epoch, .int .i64 g1.seq, .slice ad g1.recs.length cap] 24))
          have HW3 := Lib.hid (show w.heap.size ≤ w3.heap.size by omega)
          have HC4 := Lib.hid hc4
          have HX4 := Lib.hid hx4
          have HQ4 := Lib.hid hq4
          have HWQ := Lib.hid (show q ≠ w4.heap.size ∧ c ≠ w4.heap.size by omega)
          clear hrs4 hc4 hx4 hq4 hk4 s3 hs4 hw3
          go_wp2_with fail
          first | (with_reducible refine (cd_want c l st1.1 true false false _ HC4.out).mono ?_) | (with_reducible refine (cd_want c l st1.1 true false z2 _ HC4.out).mono ?_)
          rintro e w5 ⟨rfl, hb5, ho5⟩
          have hq5 := HQ4.out.grown ho5 (by simp; exact hqc)
          obtain ⟨y0, y1, y2, y3, y4, y5⟩ := (HX4.out.grown ho5 (by have := HWQ.out.2; simp; omega)).six
          have u0 := hq5.cell o _ HBQ.out.h0
          have u1 := hq5.cell (o + 1) _ HBQ.out.h1
          have u2 := hq5.cell (o + 2) _ HBQ.out.h2
          have u3 := hq5.cell (o + 3) _ HBQ.out.h3
          have u4 := hq5.cell (o + 4) _ HBQ.out.h4
          have u5 := hq5.cell (o + 5) _ HBQ.out.h5
          have v0 := hq5.frozen o
          have v1 := hq5.frozen (o + 1)
          have v2 := hq5.frozen (o + 2)
          have v3 := hq5.frozen (o + 3)
          have v4 := hq5.frozen (o + 4)
          have v5 := hq5.frozen (o + 5)
          have HB5 := Lib.hid hb5
          have HO5 := Lib.hid ho5
          have HQ5 := Lib.hid hq5
          clear hb5 ho5 hq5 hne4 s4
          go_wp2_with fail
          go_end0
          refine ⟨.slice ad g1.recs.length cap, rfl, ⟨(((((((Two.of_only (HON4.out.trans HO5.out)).set2 o _).set2 (o + 1) _).set2 (o + 2) _).set2 (o + 3) _).set2 (o + 4) _).set2 (o + 5) _), ?_, ?_⟩, ?_⟩
          · rw [HCR.out]
            exact ((((((HB5.out.other ⟨q, o, none⟩ hcq _).other ⟨q, o + 1, none⟩ hcq _).other ⟨q, o + 2, none⟩ hcq _).other ⟨q, o + 3, none⟩ hcq _).other ⟨q, o + 4, none⟩ hcq _).other ⟨q, o + 5, none⟩ hcq _)
          · exact ((((((HQ5.out.set o _).set (o + 1) _).set (o + 2) _).set (o + 3) _).set (o + 4) _).set (o + 5) _)
          · refine HR4.out.move (fun g hg hlt => ⟨.inr (Nat.le_trans HW3.out hg), ?_⟩)
            refine Two.block (b := c) (q := q) (((((((Two.of_only HO5.out).set2 o _).set2 (o + 1) _).set2 (o + 2) _).set2 (o + 3) _).set2 (o + 4) _).set2 (o + 5) _) g hlt ?_ ?_
            · have := HW3.out; omega
            · have := HW3.out; omega
  · rw [hr1 (.inl hs)]
    have hb : decide (st1.2 ≠ 0) = true := by simpa using hs
    clear hr1 hr2 hs
    go_enter Tryz.func43, Tryz.ntmps43
    go_wp2_with fail
    refine (TX.out _ HC.out HSB.out).mono ?_
    rintro e w3 ⟨rfl, hd⟩
    have hcc : Blk w3 c 97 (cdc l st1.1 true (decide (st1.2 ≠ 0))) := hd.cb
    rw [hb] at hcc
    obtain ⟨⟨e0, e1, e2, e3⟩, -⟩ := hcc.cdc
    have hon := hd.two.only (Only.of_keeps (b := c) HAL.out) (Nat.le_refl _)
    have HON := Lib.hid hon
    have HD := Lib.hid hd
    clear hcc hon hd hb
    go_wp2_with fail
    go_end0
    exact ⟨.slice none 0 0, rfl, ⟨Two.of_only HON.out, HD.out.cb, by rw [HSAME.out]; exact HQ.out.two HD.out.two hqc hsq⟩, RsIn.nil _ _⟩

theorem cd_bat (B : Nat) (hB : B ≤ 2 ^ 60) (cs : Cs) (hf : cs.Fine B) (opt : Bool) (b : Bat) (lv : Value) (P : Nat → Prop) (c q o : Nat) (hP : ∀ g, P g → g ≠ c ∧ g ≠ q) (Tq : TypeId) (qs : Array Value) (ho : BQ qs o b lv) (hcq : c ≠ q) (w : World)
    (hrs : RsIn P w lv b.recs) (hrd : cs.reads = true → b = Bat.none ∧ lv = .slice none 0 0) (ht : Tab w) (hcg : c ≠ 0) (hqg : q ≠ 0)
    (hc : Blk w c 97 cs.cells) (hq : Blk w q Tq qs) :
    Calls Tryz.prog 43 #[.pointer (some ⟨c, 0, none⟩), .pointer (some ⟨q, o, none⟩), .bool opt] w (BatDid Tq w c q P (cs.bat opt b).2 qs o (cs.bat opt b).1) := by
  cases cs with
  | rd l st =>
    obtain ⟨rfl, rfl⟩ := hrd rfl
    exact cd_bat_rd l st hf.1 hf.2 opt P c q o Tq qs ho hcq w ht hcg hqg hc hq
  | wr s bd => exact cd_bat_wr B hB s bd hf opt b lv P c q o hP Tq qs ho hcq w hrs ht hcg hqg hc hq
end Go.Proofs.YtamiebojjinhcaaGreatDoor

namespace Go.Proofs.YtamiebojjinhcaaGreatDoor
open Go.RowKit

/-- a filter's cells within a block's -/
structure FQ (qs : Array Value) (o : Nat) (x : Tree) (kv : Value) : Prop where
  h0 : qs[o]? = some (.int .i64 x.op)
  h1 : qs[o + 1]? = some (.string (str x.name))
  h2 : qs[o + 2]? = some (.string (str x.value))
  h3 : qs[o + 3]? = some kv
def setF (qs : Array Value) (o : Nat) (x : Tree) (kv : Value) : Array Value :=
  (((qs.setIfInBounds o (.int .i64 x.op)).setIfInBounds (o + 1) (.string (str x.name))).setIfInBounds (o + 2) (.string (str x.value))).setIfInBounds (o + 3) kv
theorem FQ.same {qs : Array Value} {o : Nat} {x : Tree} {kv : Value} (h : FQ qs o x kv) : setF qs o x kv = qs := by
  unfold setF
  rw [set_same h.h0, set_same h.h1, set_same h.h2, set_same h.h3]
/-- what the codec's filter leaves -/
def FltDid (Tq : TypeId) (w : World) (c q : Nat) (P : Nat → Prop) (cs : Cs) (qs : Array Value) (o : Nat) (x : Tree) (e : Ending) (w' : World) : Prop :=
  ∃ kv, e = .returned (.tuple #[]) ∧ CQ Tq w c q cs (setF qs o x kv) w' ∧ KIn (fun g => P g ∨ w.heap.size ≤ g) w' kv x.kids
theorem wr_flt (s : List UInt8) (bd : Bool) (x : Tree) : (Cs.wr s bd).flt x = (x, ((Cs.wr s (bd || !x.ok)).txt 60000 x.print.1).2) := by
  unfold Cs.flt Cs.txt
  simp only [Bool.not_and, Bool.or_assoc]
theorem rd_flt (l : List UInt8) (st : Rd.St) (t : List UInt8) (st1 : Rd.St) (ht : Rd.txt 60000 l st = (t, st1)) :
    (st1.2 ≠ 0 → Rd.rx l st = (Tree.none, st1)) ∧ (st1.2 = 0 → Rd.rx l st = ((Tree.parse t).1, Rd.want (decide ((Tree.parse t).2 = 0)) st1)) := by
  constructor
  · intro h
    unfold Rd.rx; rw [ht]; simp only; rw [if_pos h]
  · intro h0
    unfold Rd.rx; rw [ht]; simp only; rw [if_neg (fun h => h h0)]

set_option maxRecDepth 4000 in
set_option maxHeartbeats 1600000 in
theorem cd_flt_wr (B : Nat) (hB : B ≤ 2 ^ 60) (s : List UInt8) (bd : Bool) (hf : s.length ≤ B) (x : Tree) (kv : Value) (P : Nat → Prop) (c q o : Nat) (hP : ∀ g, P g → g ≠ c ∧ g ≠ q) (Tq : TypeId) (qs : Array Value) (ho : FQ qs o x kv) (hcq : c ≠ q) (w : World)
    (hrs : KIn P w kv x.kids) (hc : Blk w c 97 (Cs.wr s bd).cells) (hq : Blk w q Tq qs) :
    Calls Tryz.prog 44 #[.pointer (some ⟨c, 0, none⟩), .pointer (some ⟨q, o, none⟩)] w (FltDid Tq w c q P ((Cs.wr s bd).flt x).2 qs o ((Cs.wr s bd).flt x).1) := by
  have hclt := hc.lt
  have hqlt := hq.lt
  have hqc : ¬ q = c := fun e => hcq e.symm
  have hsc : c ≠ w.heap.size := by omega
  have hsq : q ≠ w.heap.size := by omega
  have hsc' : ¬ c = w.heap.size := hsc
  have hsq' : ¬ q = w.heap.size := hsq
  have HAL := Lib.hid ((Keeps.refl w).alloc (.cells #[.string ⟨#[]⟩] 9))
  have HSB := Lib.hid (Blk.new w 9 #[.string ⟨#[]⟩])
  have HC := Lib.hid (hc.keeps HAL.out)
  have HQ := Lib.hid (hq.keeps HAL.out)
  have HRS0 := Lib.hid hrs
  have HSAME := Lib.hid ho.same
  have HP := Lib.hid hP
  obtain ⟨ad, cap, rfl⟩ := hrs.at_.form
  have hc' : Blk (w.alloc (.cells #[.string ⟨#[]⟩] 9)) c 97 (cdc s 0 false bd) := HC.out
  obtain ⟨⟨c0, c1, c2, c3⟩, f0, f1, f2, f3⟩ := hc'.cdc
  have b0 := HQ.out.cell o _ ho.h0
  have b1 := HQ.out.cell (o + 1) _ ho.h1
  have b2 := HQ.out.cell (o + 2) _ ho.h2
  have b3 := HQ.out.cell (o + 3) _ ho.h3
  have EN := Lib.hid (fun w' (h : Keeps (w.alloc (.cells #[.string ⟨#[]⟩] 9)) w') => ex_print x (.slice ad x.kids.length cap) w' ((hrs.at_.keeps HAL.out).keeps h))
  have HW := Lib.hid (wr_flt s bd x)
  have henl : x.print.1.length ≤ 2 ^ 60 := by
    unfold Tree.print
    cases hok : x.ok
    · simp
    · simp only [Tree.ok, Bool.and_eq_true] at hok
      have := Tree.bytes_len 6 x hok.2
      have hsz : x.size ≤ 30 := by have := hok.1; simp only [decide_eq_true_eq] at this; omega
      simp; omega
  have hen2 : (x.print.2 == 0) = x.ok := by unfold Tree.print; cases x.ok <;> rfl
  obtain ⟨⟨t, z⟩, he⟩ : ∃ r, x.print = r := ⟨_, rfl⟩
  rw [he] at henl hen2 EN HW
  obtain ⟨k, hk⟩ : ∃ k, x.ok = k := ⟨_, rfl⟩
  rw [hk] at hen2 HW
  simp only [retS] at EN henl hen2 HW
  rw [HW.out]
  have TX := Lib.hid (fun w' hc hs => cd_txt B (by omega) (Cs.wr s (bd || !k)) hf 60000 t henl c w.heap.size 0 9 #[.string (str t)] rfl hsc w' hc hs)
  clear he hk HW hc hq hrs hf ho henl hP hB
  go_enter Tryz.func44, Tryz.ntmps44
  go_wp2_with fail
  refine (EN.out _ (Keeps.refl _)).mono ?_
  rintro e w1 ⟨rfl, hkw⟩
  have hc1 := hc'.keeps hkw
  have sb1 := HSB.out.keeps hkw
  have q1 := HQ.out.keeps hkw
  obtain ⟨⟨x0, x1, x2, x3⟩, y0, y1, y2, y3⟩ := hc1.cdc
  have s1c := sb1.cell 0 _ rfl
  go_wp2_with fail
  refine (cd_want c s 0 false bd k _ hc1).mono ?_
  rintro e w2 ⟨rfl, hb2, ho2⟩
  have sb2 := sb1.grown ho2 (by simp; omega)
  have s2c := sb2.cell 0 _ rfl
  have s2f := sb2.frozen 0
  go_wp2_with fail
  refine (TX.out _ (hb2.other ⟨w.heap.size, 0, none⟩ hsc _) (sb2.set 0 (.string (str t)))).mono ?_
  rintro e w3 ⟨rfl, hd⟩
  have hcc : Blk w3 c 97 (cdc (s ++ Vi.text t) 0 false ((bd || !k) || !decide ((t.length : Int) ≤ 60000))) := hd.cb
  obtain ⟨⟨e0, e1, e2, e3⟩, -⟩ := hcc.cdc
  have hon := hd.two.only (((Only.of_keeps (b := c) (HAL.out.trans hkw)).trans ho2).set_new (p := ⟨w.heap.size, 0, none⟩) (Nat.le_refl _) (.string (str t))) (Nat.le_refl _)
  have HQ3 := Lib.hid (((q1.grown ho2 (by simp; exact hqc)).other ⟨w.heap.size, 0, none⟩ hsq (.string (str t))).two hd.two hqc hsq)
  have HON := Lib.hid hon
  have HD := Lib.hid hd
  clear hcc hon hd q1 sb1 sb2 hb2 ho2 hc1
  go_wp2_with fail
  go_end0
  exact ⟨.slice ad x.kids.length cap, rfl, ⟨Two.of_only HON.out, HD.out.cb, by rw [HSAME.out]; exact HQ3.out⟩, HRS0.out.move (fun g hg hlt => ⟨.inl hg, World.grownBy.block HON.out g hlt (fun e => (HP.out g hg).1 (Option.some.inj e))⟩)⟩

set_option maxRecDepth 4000 in
set_option maxHeartbeats 1600000 in
theorem cd_flt_rd (l : List UInt8) (st : Rd.St) (hl : l.length ≤ 2 ^ 62) (hst : Rd.Fine l st) (P : Nat → Prop) (c q o : Nat) (Tq : TypeId) (qs : Array Value) (ho : FQ qs o Tree.none (.slice none 0 0)) (hcq : c ≠ q) (w : World)
    (hc : Blk w c 97 (Cs.rd l st).cells) (hq : Blk w q Tq qs) :
    Calls Tryz.prog 44 #[.pointer (some ⟨c, 0, none⟩), .pointer (some ⟨q, o, none⟩)] w (FltDid Tq w c q P (Cs.rd l (Rd.rx l st).2) qs o (Rd.rx l st).1) := by
  have hclt := hc.lt
  have hqlt := hq.lt
  have hqc : ¬ q = c := fun e => hcq e.symm
  have hsc : c ≠ w.heap.size := by omega
  have hsq : q ≠ w.heap.size := by omega
  have hsc' : ¬ c = w.heap.size := hsc
  have hsq' : ¬ q = w.heap.size := hsq
  have HAL := Lib.hid ((Keeps.refl w).alloc (.cells #[.string ⟨#[]⟩] 9))
  have HSB := Lib.hid (Blk.new w 9 #[.string ⟨#[]⟩])
  have HC := Lib.hid (hc.keeps HAL.out)
  have HQ := Lib.hid (hq.keeps HAL.out)
  have HSAME := Lib.hid ho.same
  have HBQ := Lib.hid ho
  have hc' : Blk (w.alloc (.cells #[.string ⟨#[]⟩] 9)) c 97 (cdc l st.1 true (decide (st.2 ≠ 0))) := HC.out
  obtain ⟨⟨c0, c1, c2, c3⟩, f0, f1, f2, f3⟩ := hc'.cdc
  have TX := Lib.hid (fun w' hc hs => cd_txt 0 (by decide) (Cs.rd l st) ⟨hl, hst⟩ 60000 [] (by simp) c w.heap.size 0 9 #[.string ⟨#[]⟩] rfl hsc w' hc hs)
  have hfin := hst.txt (most := 60000) (l := l) (by omega)
  obtain ⟨⟨t, st1⟩, htx⟩ : ∃ r, Rd.txt 60000 l st = r := ⟨_, rfl⟩
  obtain ⟨hr1, hr2⟩ := rd_flt l st t st1 htx
  have e1 : (Cs.rd l st).txt 60000 [] = (t, Cs.rd l st1) := by show ((Rd.txt 60000 l st).1, Cs.rd l (Rd.txt 60000 l st).2) = _; rw [htx]
  rw [e1] at TX
  rw [htx] at hfin
  have htl : t.length ≤ 60000 := by have := hfin.2; simp only at this; omega
  have hz : (str t).size = t.length := str_size t
  have DE := Lib.hid (fun w' => ex_parse_in t (by omega) w')
  clear hfin htx e1 hc hq ho hst hl hc'
  by_cases hs : st1.2 = 0
  · rw [hr2 hs]
    have hb : decide (st1.2 ≠ 0) = false := by simpa using hs
    have HCR := Lib.hid (fun b => cells_rd l st1 b hs)
    obtain ⟨⟨g1, e'⟩, hg⟩ : ∃ g, Tree.parse t = g := ⟨_, rfl⟩
    rw [hg] at DE ⊢
    obtain ⟨z1, hz1⟩ : ∃ z1, (e' == 0) = z1 := ⟨_, rfl⟩
    have hzz : decide (e' = 0) = z1 := hz1
    simp only
    rw [hzz]
    clear hr1 hr2 hzz hg hs
    go_enter Tryz.func44, Tryz.ntmps44
    go_wp2_with fail
    refine (TX.out _ HC.out HSB.out).mono ?_
    rintro e w3 ⟨rfl, hd⟩
    have hcc : Blk w3 c 97 (cdc l st1.1 true (decide (st1.2 ≠ 0))) := hd.cb
    rw [hb] at hcc
    obtain ⟨⟨x0, x1, x2, x3⟩, -⟩ := hcc.cdc
    have s3 : w3.cell? ⟨w.heap.size, 0, none⟩ = some (.string (str t)) := hd.qb.cell 0 _ rfl
    have HON := Lib.hid (hd.two.only (Only.of_keeps (b := c) HAL.out) (Nat.le_refl _))
    have HQ3 := Lib.hid (HQ.out.two hd.two hqc hsq)
    have HCC := Lib.hid hcc
    have hw3 := hd.qb.lt
    clear hcc hd
    go_wp2_with fail
    refine (DE.out _).mono ?_
    rintro e w4 ⟨kv, rfl, hrs4, hk4⟩
    obtain ⟨ad, cap, rfl⟩ := hrs4.at_.form
    simp only [retX, treeV]
    have hka := hk4.alloc (.cells #[.int .i64 g1.op, .string (str g1.name), .string (str g1.value), .slice ad g1.kids.length cap] 27)
    have hc4 := HCC.out.keeps hka
    have hx4 := Blk.new w4 27 #[.int .i64 g1.op, .string (str g1.name), .string (str g1.value), .slice ad g1.kids.length cap]
    have hs4 := hk4.size
    have hq4 := HQ3.out.keeps hka
    have HON4 := Lib.hid (HON.out.trans (Only.of_keeps hka))
    have HR4 := Lib.hid (hrs4.move (T := fun g => w3.heap.size ≤ g) (w' := w4.alloc (.cells #[.int .i64 g1.op, .string (str g1.name), .string (str g1.value), .slice ad g1.kids.length cap] 27)) (fun g hg hlt => ⟨hg, ((Keeps.refl w4).alloc _).block hlt⟩))
    have HW3 := Lib.hid (show w.heap.size ≤ w3.heap.size by omega)
    have HC4 := Lib.hid hc4
    have HX4 := Lib.hid hx4
    have HQ4 := Lib.hid hq4
    have HWQ := Lib.hid (show q ≠ w4.heap.size ∧ c ≠ w4.heap.size by omega)
    clear hrs4 hc4 hx4 hq4 hk4 s3 hs4 hw3 hka
    go_wp2_with fail
    refine (cd_want c l st1.1 true false z1 _ HC4.out).mono ?_
    rintro e w5 ⟨rfl, hb5, ho5⟩
    have hq5 := HQ4.out.grown ho5 (by simp; exact hqc)
    have hx5 := HX4.out.grown ho5 (by have := HWQ.out.2; simp; omega)
    have y0 := hx5.cell 0 _ rfl
    have y1 := hx5.cell 1 _ rfl
    have y2 := hx5.cell 2 _ rfl
    have y3 := hx5.cell 3 _ rfl
    have u0 := hq5.cell o _ HBQ.out.h0
    have u1 := hq5.cell (o + 1) _ HBQ.out.h1
    have u2 := hq5.cell (o + 2) _ HBQ.out.h2
    have u3 := hq5.cell (o + 3) _ HBQ.out.h3
    have v0 := hq5.frozen o
    have v1 := hq5.frozen (o + 1)
    have v2 := hq5.frozen (o + 2)
    have v3 := hq5.frozen (o + 3)
    have HB5 := Lib.hid hb5
    have HO5 := Lib.hid ho5
    have HQ5 := Lib.hid hq5
    clear hb5 ho5 hq5 hx5
    go_wp2_with fail
    go_end0
    refine ⟨.slice ad g1.kids.length cap, rfl, ⟨(((((Two.of_only (HON4.out.trans HO5.out)).set2 o _).set2 (o + 1) _).set2 (o + 2) _).set2 (o + 3) _), ?_, ?_⟩, ?_⟩
    · rw [HCR.out]
      exact ((((HB5.out.other ⟨q, o, none⟩ hcq _).other ⟨q, o + 1, none⟩ hcq _).other ⟨q, o + 2, none⟩ hcq _).other ⟨q, o + 3, none⟩ hcq _)
    · exact ((((HQ5.out.set o _).set (o + 1) _).set (o + 2) _).set (o + 3) _)
    · refine HR4.out.move (fun g hg hlt => ⟨.inr (Nat.le_trans HW3.out hg), ?_⟩)
      refine Two.block (b := c) (q := q) (((((Two.of_only HO5.out).set2 o _).set2 (o + 1) _).set2 (o + 2) _).set2 (o + 3) _) g hlt ?_ ?_
      · have := HW3.out; omega
      · have := HW3.out; omega
  · rw [hr1 hs]
    have hb : decide (st1.2 ≠ 0) = true := by simpa using hs
    clear hr1 hr2 hs
    go_enter Tryz.func44, Tryz.ntmps44
    go_wp2_with fail
    refine (TX.out _ HC.out HSB.out).mono ?_
    rintro e w3 ⟨rfl, hd⟩
    have hcc : Blk w3 c 97 (cdc l st1.1 true (decide (st1.2 ≠ 0))) := hd.cb
    rw [hb] at hcc
    obtain ⟨⟨e0, e1, e2, e3⟩, -⟩ := hcc.cdc
    have hon := hd.two.only (Only.of_keeps (b := c) HAL.out) (Nat.le_refl _)
    have HON := Lib.hid hon
    have HD := Lib.hid hd
    clear hcc hon hd hb
    go_wp2_with fail
    go_end0
    exact ⟨.slice none 0 0, rfl, ⟨Two.of_only HON.out, HD.out.cb, by rw [HSAME.out]; exact HQ.out.two HD.out.two hqc hsq⟩, KIn.nil _ _⟩
theorem cd_flt (B : Nat) (hB : B ≤ 2 ^ 60) (cs : Cs) (hf : cs.Fine B) (x : Tree) (kv : Value) (P : Nat → Prop) (c q o : Nat) (hP : ∀ g, P g → g ≠ c ∧ g ≠ q) (Tq : TypeId) (qs : Array Value) (ho : FQ qs o x kv) (hcq : c ≠ q) (w : World)
    (hrs : KIn P w kv x.kids) (hrd : cs.reads = true → x = Tree.none ∧ kv = .slice none 0 0) (hc : Blk w c 97 cs.cells) (hq : Blk w q Tq qs) :
    Calls Tryz.prog 44 #[.pointer (some ⟨c, 0, none⟩), .pointer (some ⟨q, o, none⟩)] w (FltDid Tq w c q P (cs.flt x).2 qs o (cs.flt x).1) := by
  cases cs with
  | rd l st =>
    obtain ⟨rfl, rfl⟩ := hrd rfl
    exact cd_flt_rd l st hf.1 hf.2 P c q o Tq qs ho hcq w hc hq
  | wr s bd => exact cd_flt_wr B hB s bd hf x kv P c q o hP Tq qs ho hcq w hrs hc hq
end Go.Proofs.YtamiebojjinhcaaGreatDoor
