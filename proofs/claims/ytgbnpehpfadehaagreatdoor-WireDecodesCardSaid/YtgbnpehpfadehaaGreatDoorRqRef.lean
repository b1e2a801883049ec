/-
  The document's request and Encode of a request: the walks.
-/
import Derived.Test.YtgbnpehpfadehaaGreatDoorRqTold
import Derived.Test.YtgbnpehpfadehaaGreatDoorRqSame
import Derived.Test.YtgbnpehpfadehaaGreatDoorCdE
import Derived.Test.YtgbnpehpfadehaaGreatDoorBtRef
import Derived.Test.YtgbnpehpfadehaaGreatDoorExText
import Derived.Test.YtgbnpehpfadehaaGreatDoorExWrite
import Derived.Deep.Cut
set_option linter.unusedVariables false
namespace Go.Proofs.YtgbnpehpfadehaaGreatDoor
open Go.RowKit

/-- what the document's request answers -/
def Req.refB (q : Req) : List UInt8 × Bool := if q.ok0 then (q.body, decide (q.body.length ≤ 60000)) else ([], false)
theorem Req.refB_enc (q : Req) : q.enc = if q.refB.2 then (q.refB.1, 0) else ([], 1) := by
  unfold Req.enc Req.refB Req.ok
  cases h : q.ok0 <;> simp
theorem Req.ok1_eq (q : Req) : q.ok1 = (!decide (q.kind < 1) && (!decide (14 < q.kind) && (decide (-1 ≤ q.index ∧ q.index ≤ 2199023255552) && (decide (-1 ≤ q.count ∧ q.count ≤ 2199023255552) && (decide (-1 ≤ q.from_ ∧ q.from_ ≤ 2199023255552) && (decide (-1 ≤ q.member ∧ q.member ≤ 2199023255552) && (decide (-1 ≤ q.gen ∧ q.gen ≤ 2199023255552) && (!decide ((100 : Int) < (q.name.length : Int)) && (!decide ((100 : Int) < (q.group.length : Int)) && !decide ((20 : Int) < (q.topics.length : Int))))))))))) := by
  rw [Bool.eq_iff_iff]
  unfold Req.ok1
  simp only [Bool.and_eq_true, decide_eq_true_eq, may_iff, Bool.not_eq_true', decide_eq_false_iff_not]
  omega
theorem Req.bad1 {q : Req} (h : q.ok1 = false) : q.refB = ([], false) := by unfold Req.refB Req.ok0; rw [h]; rfl
theorem Req.bad2 {q : Req} (h : q.bat.optOk = false) : q.refB = ([], false) := by unfold Req.refB Req.ok0; rw [h]; simp
theorem Req.bad3 {q : Req} (h : q.filter.ok = false) : q.refB = ([], false) := by unfold Req.refB Req.ok0; rw [h]; simp
theorem Req.bad4 {q : Req} {j : Nat} {x : List UInt8} (hx : q.topics[j]? = some x) (h : ¬ x.length ≤ 100) : q.refB = ([], false) := by
  have : q.topics.all (fun t => decide (t.length ≤ 100)) = false := by
    rw [List.all_eq_false]; exact ⟨x, List.mem_of_getElem? hx, by simpa using h⟩
  unfold Req.refB Req.ok0; rw [this]; simp
theorem Req.good {q : Req} (h1 : q.ok1 = true) (h2 : q.bat.optOk = true) (h3 : q.filter.ok = true) (h4 : ∀ (j : Nat) (x : List UInt8), q.topics[j]? = some x → x.length ≤ 100) : q.refB = (q.body, decide (q.body.length ≤ 60000)) := by
  have : q.topics.all (fun t => decide (t.length ≤ 100)) = true := by
    rw [List.all_eq_true]; intro x hx
    obtain ⟨j, hj⟩ := List.mem_iff_getElem?.1 hx
    simpa using h4 j x hj
  unfold Req.refB Req.ok0; rw [h1, h2, h3, this]; rfl
theorem Bat.opt_len {b : Bat} (h : b.optOk = true) : b.opt.length ≤ 70000 := by
  unfold Bat.opt
  split
  · simp
  · rename_i he
    unfold Bat.optOk at h
    have hok : b.ok = true := by
      cases hb : b.empty
      · rw [hb] at h; simpa using h
      · exact absurd hb he
    have := (Bat.ok_of hok).2.2
    have := Bat.bytes_length b
    omega
theorem Tree.ok_len {t : Tree} (h : t.ok = true) : t.bytes.length ≤ 70000 := by
  unfold Tree.ok at h
  simp only [Bool.and_eq_true, decide_eq_true_eq] at h
  have := bytes_len 6 t h.2
  omega
theorem ref_text_l (l : List UInt8) (hl : l.length ≤ 70000) (w : World) : Calls Tryz.prog 50 #[.string (str l)] w fun e w' => e = .returned (.string (str (Vi.text l))) ∧ Keeps w w' := by
  have := ref_text (str l) (by rw [str_size]; omega) w
  rw [str_list] at this
  exact this
theorem text_len10 (l : List UInt8) : (Vi.text l).length ≤ l.length + 10 := by
  unfold Vi.text
  have := Vi.put_length (l.length : Int)
  simp only [List.length_append]; omega
theorem texts_take {l : List (List UInt8)} {j : Nat} {x : List UInt8} (h : l[j]? = some x) : (l.take j).flatMap Vi.text ++ Vi.text x = (l.take (j + 1)).flatMap Vi.text := by
  rw [List.take_add_one, h]; simp

set_option maxRecDepth 8000 in
set_option maxHeartbeats 16000000 in
theorem ref_request (q : Req) (S : Nat → Prop) (a b c : Value) (w : World) (h : ReqIn S w q a b c) :
    Calls Tryz.prog 20 #[reqV q a b c] w fun e w' => e = .returned (.tuple #[.string (str q.refB.1), .bool q.refB.2]) ∧ Keeps w w' := by
  have HNO := fun w' (k : Keeps w w') => ref_none q.bat a w' (h.1.at_.keeps k)
  have HEN := fun w' (k : Keeps w w') => ref_bencode q.bat a w' (h.1.at_.keeps k)
  have HPR := fun w' (k : Keeps w w') => ref_print q.filter b w' (h.2.1.at_.keeps k)
  have HBAD1 := fun h => Req.bad1 (q := q) h
  have HBAD2 := fun h => Req.bad2 (q := q) h
  have HBAD3 := fun h => Req.bad3 (q := q) h
  have HBAD4 := fun j x hx h => Req.bad4 (q := q) (j := j) (x := x) hx h
  have HGOOD := fun h1 h2 h3 h4 => Req.good (q := q) h1 h2 h3 h4
  have hok1 := Req.ok1_eq q
  obtain ⟨a1, n1, p1, a2, n2, p2, a3, n3, p3, rfl, rfl, rfl⟩ := h.form
  obtain ⟨ad, cap, hv, hll, h0l, g, og, hal, hcl⟩ := h.2.2
  cases hv
  obtain ⟨n3, hn3⟩ : ∃ n, q.topics.length = n := ⟨_, rfl⟩
  rw [hn3] at hll hok1 ⊢
  clear h h0l
  have hbody : q.body = Vi.put q.kind ++ (Vi.text q.name ++ (Vi.put q.index ++ (Vi.put q.count ++ (Vi.put q.from_ ++ (Vi.put (flagI q.flag) ++ (Vi.text q.bat.opt ++ (Vi.text q.filter.bytes ++ (Vi.text q.group ++ (Vi.put q.member ++ (Vi.put q.gen ++ (Vi.put (n3 : Int) ++ q.topics.flatMap Vi.text))))))))))) := by rw [← hn3]; rfl
  obtain ⟨R1, R2, hR⟩ : ∃ r1 r2, q.refB = (r1, r2) := ⟨_, _, rfl⟩
  rw [hR]
  simp only [hR] at HBAD1 HBAD2 HBAD3 HBAD4 HGOOD
  clear hR
  have HNN := Lib.hid hn3
  have HAL := Lib.hid hal
  have HCL := Lib.hid hcl
  clear hn3 hal hcl
  have hopt : q.bat.optOk = true → q.bat.opt.length ≤ 70000 := Bat.opt_len
  have hflt : q.filter.ok = true → q.filter.bytes.length ≤ 70000 := Tree.ok_len
  have hprt : q.filter.print = if q.filter.ok then (q.filter.bytes, 0) else ([], 1) := rfl
  have henc : q.bat.enc = if q.bat.ok then (q.bat.bytes, 0) else ([], 1) := rfl
  have hop2 : q.bat.opt = if q.bat.empty then [] else q.bat.bytes := rfl
  have hop3 : q.bat.optOk = (q.bat.empty || q.bat.ok) := rfl
  simp only [reqV, reqCells, batV, treeV] at HNO HEN HPR ⊢
  have HB0 := Lib.hid (Blk.new w 35 #[.int .i64 q.kind, .string (str q.name), .int .i64 q.index, .int .i64 q.count, .int .i64 q.from_, .bool q.flag, .int .i64 q.bat.base, .int .i64 q.bat.span, .int .i64 q.bat.prod, .int .i64 q.bat.epoch, .int .i64 q.bat.seq, .slice a1 n1 p1, .int .i64 q.filter.op, .string (str q.filter.name), .string (str q.filter.value), .slice a2 n2 p2, .string (str q.group), .int .i64 q.member, .int .i64 q.gen, .slice a3 n3 p3])
  have HK := Lib.hid ((Keeps.refl w).alloc (.cells #[.int .i64 q.kind, .string (str q.name), .int .i64 q.index, .int .i64 q.count, .int .i64 q.from_, .bool q.flag, .int .i64 q.bat.base, .int .i64 q.bat.span, .int .i64 q.bat.prod, .int .i64 q.bat.epoch, .int .i64 q.bat.seq, .slice a1 n1 p1, .int .i64 q.filter.op, .string (str q.filter.name), .string (str q.filter.value), .slice a2 n2 p2, .string (str q.group), .int .i64 q.member, .int .i64 q.gen, .slice a3 n3 p3] 35))
  have HN1 := fun w => ref_num19 q.index w
  have HN2 := fun w => ref_num19 q.count w
  have HN3 := fun w => ref_num19 q.from_ w
  have HN4 := fun w => ref_num19 q.member w
  have HN5 := fun w => ref_num19 q.gen w
  obtain ⟨k1, h1⟩ : ∃ k, decide (q.kind < 1) = k := ⟨_, rfl⟩
  obtain ⟨k2, h2⟩ : ∃ k, decide (14 < q.kind) = k := ⟨_, rfl⟩
  obtain ⟨m1, g1⟩ : ∃ k, decide (-1 ≤ q.index ∧ q.index ≤ 2199023255552) = k := ⟨_, rfl⟩
  obtain ⟨m2, g2⟩ : ∃ k, decide (-1 ≤ q.count ∧ q.count ≤ 2199023255552) = k := ⟨_, rfl⟩
  obtain ⟨m3, g3⟩ : ∃ k, decide (-1 ≤ q.from_ ∧ q.from_ ≤ 2199023255552) = k := ⟨_, rfl⟩
  obtain ⟨m4, g4⟩ : ∃ k, decide (-1 ≤ q.member ∧ q.member ≤ 2199023255552) = k := ⟨_, rfl⟩
  obtain ⟨m5, g5⟩ : ∃ k, decide (-1 ≤ q.gen ∧ q.gen ≤ 2199023255552) = k := ⟨_, rfl⟩
  obtain ⟨d1, h3⟩ : ∃ k, decide ((100 : Int) < (q.name.length : Int)) = k := ⟨_, rfl⟩
  obtain ⟨d2, h4⟩ : ∃ k, decide ((100 : Int) < (q.group.length : Int)) = k := ⟨_, rfl⟩
  obtain ⟨d3, h5⟩ : ∃ k, decide ((20 : Int) < (n3 : Int)) = k := ⟨_, rfl⟩
  rw [h1, h2, g1, g2, g3, g4, g5, h3, h4, h5] at hok1
  rw [g1] at HN1
  rw [g2] at HN2
  rw [g3] at HN3
  rw [g4] at HN4
  rw [g5] at HN5
  have HN1 := Lib.hid HN1
  have HN2 := Lib.hid HN2
  have HN3 := Lib.hid HN3
  have HN4 := Lib.hid HN4
  have HN5 := Lib.hid HN5
  have HNO := Lib.hid HNO
  have HEN := Lib.hid HEN
  have HPR := Lib.hid HPR
  have HBAD1 := Lib.hid HBAD1
  have HBAD2 := Lib.hid HBAD2
  have HBAD3 := Lib.hid HBAD3
  have HBAD4 := Lib.hid HBAD4
  have HGOOD := Lib.hid HGOOD
  have HBODY0 := Lib.hid hbody
  have HOPT := Lib.hid hopt
  have HFLT := Lib.hid hflt
  have HPRT := Lib.hid hprt
  have HENC := Lib.hid henc
  have HOP2 := Lib.hid hop2
  have HOP3 := Lib.hid hop3
  have G1 := Lib.hid g1
  have G2 := Lib.hid g2
  have G3 := Lib.hid g3
  have G4 := Lib.hid g4
  have G5 := Lib.hid g5
  have hsz := str_size
  clear hbody hopt hflt hprt henc hop2 hop3 g1 g2 g3 g4 g5
  cases k1
  case true =>
    have hz := Lib.hid (HBAD1.out (by rw [hok1]; simp))
    clear hok1
    go_enter Tryz.func20, Tryz.ntmps20
    go_wp2_with fail
    go_ret2
    exact ⟨by rw [(Prod.mk.inj hz.out).1, (Prod.mk.inj hz.out).2]; rfl, HK.out⟩
  cases k2
  case true =>
    have hz := Lib.hid (HBAD1.out (by rw [hok1]; simp))
    clear hok1
    go_enter Tryz.func20, Tryz.ntmps20
    go_wp2_with fail
    go_ret2
    exact ⟨by rw [(Prod.mk.inj hz.out).1, (Prod.mk.inj hz.out).2]; rfl, HK.out⟩
  cases m1
  case false =>
    have hz := Lib.hid (HBAD1.out (by rw [hok1]; simp))
    clear hok1
    go_enter Tryz.func20, Tryz.ntmps20
    go_wp2_with fail
    refine (HN1.out _).mono ?_
    rintro e w1 ⟨rfl, hk1⟩
    have q0 := (HB0.out.keeps hk1).cell 3 _ rfl
    go_wp2_with fail
    go_ret2
    exact ⟨by rw [(Prod.mk.inj hz.out).1, (Prod.mk.inj hz.out).2]; rfl, HK.out.trans hk1⟩
  cases m2
  case false =>
    have hz := Lib.hid (HBAD1.out (by rw [hok1]; simp))
    clear hok1
    go_enter Tryz.func20, Tryz.ntmps20
    go_wp2_with fail
    refine (HN1.out _).mono ?_
    rintro e w1 ⟨rfl, hk1⟩
    have q0 := (HB0.out.keeps hk1).cell 3 _ rfl
    go_wp2_with fail
    refine (HN2.out _).mono ?_
    rintro e w2 ⟨rfl, hk2⟩
    have hk2 := hk1.trans hk2
    have q0 := (HB0.out.keeps hk2).cell 4 _ rfl
    go_wp2_with fail
    go_ret2
    exact ⟨by rw [(Prod.mk.inj hz.out).1, (Prod.mk.inj hz.out).2]; rfl, HK.out.trans hk2⟩
  cases m3
  case false =>
    have hz := Lib.hid (HBAD1.out (by rw [hok1]; simp))
    clear hok1
    go_enter Tryz.func20, Tryz.ntmps20
    go_wp2_with fail
    refine (HN1.out _).mono ?_
    rintro e w1 ⟨rfl, hk1⟩
    have q0 := (HB0.out.keeps hk1).cell 3 _ rfl
    go_wp2_with fail
    refine (HN2.out _).mono ?_
    rintro e w2 ⟨rfl, hk2⟩
    have hk2 := hk1.trans hk2
    have q0 := (HB0.out.keeps hk2).cell 4 _ rfl
    go_wp2_with fail
    refine (HN3.out _).mono ?_
    rintro e w3 ⟨rfl, hk3⟩
    have hk3 := hk2.trans hk3
    have q0 := (HB0.out.keeps hk3).cell 17 _ rfl
    go_wp2_with fail
    go_ret2
    exact ⟨by rw [(Prod.mk.inj hz.out).1, (Prod.mk.inj hz.out).2]; rfl, HK.out.trans hk3⟩
  cases m4
  case false =>
    have hz := Lib.hid (HBAD1.out (by rw [hok1]; simp))
    clear hok1
    go_enter Tryz.func20, Tryz.ntmps20
    go_wp2_with fail
    refine (HN1.out _).mono ?_
    rintro e w1 ⟨rfl, hk1⟩
    have q0 := (HB0.out.keeps hk1).cell 3 _ rfl
    go_wp2_with fail
    refine (HN2.out _).mono ?_
    rintro e w2 ⟨rfl, hk2⟩
    have hk2 := hk1.trans hk2
    have q0 := (HB0.out.keeps hk2).cell 4 _ rfl
    go_wp2_with fail
    refine (HN3.out _).mono ?_
    rintro e w3 ⟨rfl, hk3⟩
    have hk3 := hk2.trans hk3
    have q0 := (HB0.out.keeps hk3).cell 17 _ rfl
    go_wp2_with fail
    refine (HN4.out _).mono ?_
    rintro e w4 ⟨rfl, hk4⟩
    have hk4 := hk3.trans hk4
    have q0 := (HB0.out.keeps hk4).cell 18 _ rfl
    go_wp2_with fail
    go_ret2
    exact ⟨by rw [(Prod.mk.inj hz.out).1, (Prod.mk.inj hz.out).2]; rfl, HK.out.trans hk4⟩
  cases m5
  case false =>
    have hz := Lib.hid (HBAD1.out (by rw [hok1]; simp))
    clear hok1
    go_enter Tryz.func20, Tryz.ntmps20
    go_wp2_with fail
    refine (HN1.out _).mono ?_
    rintro e w1 ⟨rfl, hk1⟩
    have q0 := (HB0.out.keeps hk1).cell 3 _ rfl
    go_wp2_with fail
    refine (HN2.out _).mono ?_
    rintro e w2 ⟨rfl, hk2⟩
    have hk2 := hk1.trans hk2
    have q0 := (HB0.out.keeps hk2).cell 4 _ rfl
    go_wp2_with fail
    refine (HN3.out _).mono ?_
    rintro e w3 ⟨rfl, hk3⟩
    have hk3 := hk2.trans hk3
    have q0 := (HB0.out.keeps hk3).cell 17 _ rfl
    go_wp2_with fail
    refine (HN4.out _).mono ?_
    rintro e w4 ⟨rfl, hk4⟩
    have hk4 := hk3.trans hk4
    have q0 := (HB0.out.keeps hk4).cell 18 _ rfl
    go_wp2_with fail
    refine (HN5.out _).mono ?_
    rintro e w5 ⟨rfl, hk5⟩
    have hk5 := hk4.trans hk5
    have q0 := (HB0.out.keeps hk5).cell 1 _ rfl
    have q1 := (HB0.out.keeps hk5).cell 16 _ rfl
    have q2 := (HB0.out.keeps hk5).cell 19 _ rfl
    go_wp2_with fail
    go_ret2
    exact ⟨by rw [(Prod.mk.inj hz.out).1, (Prod.mk.inj hz.out).2]; rfl, HK.out.trans hk5⟩
  cases d1
  case true =>
    have hz := Lib.hid (HBAD1.out (by rw [hok1]; simp))
    clear hok1
    go_enter Tryz.func20, Tryz.ntmps20
    go_wp2_with fail
    refine (HN1.out _).mono ?_
    rintro e w1 ⟨rfl, hk1⟩
    have q0 := (HB0.out.keeps hk1).cell 3 _ rfl
    go_wp2_with fail
    refine (HN2.out _).mono ?_
    rintro e w2 ⟨rfl, hk2⟩
    have hk2 := hk1.trans hk2
    have q0 := (HB0.out.keeps hk2).cell 4 _ rfl
    go_wp2_with fail
    refine (HN3.out _).mono ?_
    rintro e w3 ⟨rfl, hk3⟩
    have hk3 := hk2.trans hk3
    have q0 := (HB0.out.keeps hk3).cell 17 _ rfl
    go_wp2_with fail
    refine (HN4.out _).mono ?_
    rintro e w4 ⟨rfl, hk4⟩
    have hk4 := hk3.trans hk4
    have q0 := (HB0.out.keeps hk4).cell 18 _ rfl
    go_wp2_with fail
    refine (HN5.out _).mono ?_
    rintro e w5 ⟨rfl, hk5⟩
    have hk5 := hk4.trans hk5
    have q0 := (HB0.out.keeps hk5).cell 1 _ rfl
    have q1 := (HB0.out.keeps hk5).cell 16 _ rfl
    have q2 := (HB0.out.keeps hk5).cell 19 _ rfl
    go_wp2_with fail
    go_ret2
    exact ⟨by rw [(Prod.mk.inj hz.out).1, (Prod.mk.inj hz.out).2]; rfl, HK.out.trans hk5⟩
  cases d2
  case true =>
    have hz := Lib.hid (HBAD1.out (by rw [hok1]; simp))
    clear hok1
    go_enter Tryz.func20, Tryz.ntmps20
    go_wp2_with fail
    refine (HN1.out _).mono ?_
    rintro e w1 ⟨rfl, hk1⟩
    have q0 := (HB0.out.keeps hk1).cell 3 _ rfl
    go_wp2_with fail
    refine (HN2.out _).mono ?_
    rintro e w2 ⟨rfl, hk2⟩
    have hk2 := hk1.trans hk2
    have q0 := (HB0.out.keeps hk2).cell 4 _ rfl
    go_wp2_with fail
    refine (HN3.out _).mono ?_
    rintro e w3 ⟨rfl, hk3⟩
    have hk3 := hk2.trans hk3
    have q0 := (HB0.out.keeps hk3).cell 17 _ rfl
    go_wp2_with fail
    refine (HN4.out _).mono ?_
    rintro e w4 ⟨rfl, hk4⟩
    have hk4 := hk3.trans hk4
    have q0 := (HB0.out.keeps hk4).cell 18 _ rfl
    go_wp2_with fail
    refine (HN5.out _).mono ?_
    rintro e w5 ⟨rfl, hk5⟩
    have hk5 := hk4.trans hk5
    have q0 := (HB0.out.keeps hk5).cell 1 _ rfl
    have q1 := (HB0.out.keeps hk5).cell 16 _ rfl
    have q2 := (HB0.out.keeps hk5).cell 19 _ rfl
    go_wp2_with fail
    go_ret2
    exact ⟨by rw [(Prod.mk.inj hz.out).1, (Prod.mk.inj hz.out).2]; rfl, HK.out.trans hk5⟩
  cases d3
  case true =>
    have hz := Lib.hid (HBAD1.out (by rw [hok1]; simp))
    clear hok1
    go_enter Tryz.func20, Tryz.ntmps20
    go_wp2_with fail
    refine (HN1.out _).mono ?_
    rintro e w1 ⟨rfl, hk1⟩
    have q0 := (HB0.out.keeps hk1).cell 3 _ rfl
    go_wp2_with fail
    refine (HN2.out _).mono ?_
    rintro e w2 ⟨rfl, hk2⟩
    have hk2 := hk1.trans hk2
    have q0 := (HB0.out.keeps hk2).cell 4 _ rfl
    go_wp2_with fail
    refine (HN3.out _).mono ?_
    rintro e w3 ⟨rfl, hk3⟩
    have hk3 := hk2.trans hk3
    have q0 := (HB0.out.keeps hk3).cell 17 _ rfl
    go_wp2_with fail
    refine (HN4.out _).mono ?_
    rintro e w4 ⟨rfl, hk4⟩
    have hk4 := hk3.trans hk4
    have q0 := (HB0.out.keeps hk4).cell 18 _ rfl
    go_wp2_with fail
    refine (HN5.out _).mono ?_
    rintro e w5 ⟨rfl, hk5⟩
    have hk5 := hk4.trans hk5
    have q0 := (HB0.out.keeps hk5).cell 1 _ rfl
    have q1 := (HB0.out.keeps hk5).cell 16 _ rfl
    have q2 := (HB0.out.keeps hk5).cell 19 _ rfl
    go_wp2_with fail
    go_ret2
    exact ⟨by rw [(Prod.mk.inj hz.out).1, (Prod.mk.inj hz.out).2]; rfl, HK.out.trans hk5⟩
  have HOK1 := Lib.hid (show q.ok1 = true by rw [hok1]; rfl)
  clear hok1
  have hkb : 1 ≤ q.kind ∧ q.kind ≤ 14 := by simp at h1 h2; omega
  have hnb : q.name.length ≤ 100 := by simp at h3; omega
  have hgb : q.group.length ≤ 100 := by simp at h4; omega
  have hn20 : n3 ≤ 20 := by simp at h5; omega
  have HKB := Lib.hid hkb
  have HNB := Lib.hid hnb
  have HGB := Lib.hid hgb
  clear hkb hnb hgb
  go_enter Tryz.func20, Tryz.ntmps20
  go_wp2_with fail
  refine (HN1.out _).mono ?_
  rintro e w1 ⟨rfl, hk1⟩
  have q0 := (HB0.out.keeps hk1).cell 3 _ rfl
  go_wp2_with fail
  refine (HN2.out _).mono ?_
  rintro e w2 ⟨rfl, hk2⟩
  have hk2 := hk1.trans hk2
  have q0 := (HB0.out.keeps hk2).cell 4 _ rfl
  go_wp2_with fail
  refine (HN3.out _).mono ?_
  rintro e w3 ⟨rfl, hk3⟩
  have hk3 := hk2.trans hk3
  have q0 := (HB0.out.keeps hk3).cell 17 _ rfl
  go_wp2_with fail
  refine (HN4.out _).mono ?_
  rintro e w4 ⟨rfl, hk4⟩
  have hk4 := hk3.trans hk4
  have q0 := (HB0.out.keeps hk4).cell 18 _ rfl
  go_wp2_with fail
  refine (HN5.out _).mono ?_
  rintro e w5 ⟨rfl, hk5⟩
  have hk5 := hk4.trans hk5
  have q0 := (HB0.out.keeps hk5).cell 1 _ rfl
  have q1 := (HB0.out.keeps hk5).cell 16 _ rfl
  have q2 := (HB0.out.keeps hk5).cell 19 _ rfl
  have HW5 := Lib.hid (HB0.out.keeps hk5)
  have r0 := (HB0.out.keeps hk5).cell 6 _ rfl
  have r1 := (HB0.out.keeps hk5).cell 7 _ rfl
  have r2 := (HB0.out.keeps hk5).cell 8 _ rfl
  have r3 := (HB0.out.keeps hk5).cell 9 _ rfl
  have r4 := (HB0.out.keeps hk5).cell 10 _ rfl
  have r5 := (HB0.out.keeps hk5).cell 11 _ rfl
  go_wp2_with fail
  refine (HNO.out _ (HK.out.trans hk5)).mono ?_
  rintro e w6 ⟨rfl, hk6⟩
  have hk6 := hk5.trans hk6
  have HK6 := Lib.hid (HK.out.trans hk6)
  have HB6 := Lib.hid (HB0.out.keeps hk6)
  have q0 := HB6.out.cell 6 _ rfl
  have q1 := HB6.out.cell 7 _ rfl
  have q2 := HB6.out.cell 8 _ rfl
  have q3 := HB6.out.cell 9 _ rfl
  have q4 := HB6.out.cell 10 _ rfl
  have q5 := HB6.out.cell 11 _ rfl
  clear h1 h2 h3 h4 h5 hk5 hk6 HW5 r0 r1 r2 r3 r4 r5
  go_upto_if 71 with fail
  go_cut [4] from 12 (fun s4 wx => ∃ (wn : World), wn = wx ∧ s4 = .string (str q.bat.opt) ∧ q.bat.optOk = true ∧ Keeps w6 wn)
  case first =>
    cases hem : q.bat.empty
    · cases hbo : q.bat.ok
      · have hz := Lib.hid (HBAD2.out (by rw [HOP3.out, hem, hbo]; rfl))
        have HE := HEN.out _ HK6.out
        rw [HENC.out, hbo] at HE
        simp only [retS, Bool.false_eq_true, if_false] at HE
        have HE := Lib.hid HE
        go_wp2_with fail
        refine HE.out.mono ?_
        rintro e w7 ⟨rfl, hk7⟩
        go_wp2_with fail
        go_ret2
        exact ⟨by rw [(Prod.mk.inj hz.out).1, (Prod.mk.inj hz.out).2]; rfl, HK6.out.trans hk7⟩
      · have ho := Lib.hid (show q.bat.opt = q.bat.bytes by rw [HOP2.out, hem]; rfl)
        have hok2 := Lib.hid (show q.bat.optOk = true by rw [HOP3.out, hem, hbo]; rfl)
        have HE := HEN.out _ HK6.out
        rw [HENC.out, hbo] at HE
        simp only [retS, if_true] at HE
        have HE := Lib.hid HE
        go_wp2_with fail
        refine HE.out.mono ?_
        rintro e w7 ⟨rfl, hk7⟩
        go_wp2_with fail
        go_meet
        exact ⟨_, rfl, by rw [ho.out], hok2.out, hk7⟩
    · have ho := Lib.hid (show q.bat.opt = [] by rw [HOP2.out, hem]; rfl)
      have hok2 := Lib.hid (show q.bat.optOk = true by rw [HOP3.out, hem]; rfl)
      go_wp2_with fail
      go_meet
      exact ⟨_, rfl, by rw [ho.out]; rfl, hok2.out, Keeps.refl _⟩
  case rest =>
  obtain ⟨w7, rfl, rfl, hok2, hk7⟩ := hcut
  have HOK2 := Lib.hid hok2
  have hBl := HOPT.out hok2
  have HK7 := Lib.hid (HK6.out.trans hk7)
  have HB7 := Lib.hid (HB6.out.keeps hk7)
  clear hok2 hk7 q0 q1 q2 q3 q4 q5
  have q0 := HB7.out.cell 12 _ rfl
  have q1 := HB7.out.cell 13 _ rfl
  have q2 := HB7.out.cell 14 _ rfl
  have q3 := HB7.out.cell 15 _ rfl
  have HE := HPR.out _ HK7.out
  obtain ⟨XB, hXB⟩ : ∃ X, q.bat.opt = X := ⟨_, rfl⟩
  rw [hXB] at hBl ⊢
  have HXB := Lib.hid hXB
  have HBL := Lib.hid hBl
  clear hBl hXB
  cases hfo : q.filter.ok
  · have hz := Lib.hid (HBAD3.out hfo)
    rw [HPRT.out, hfo] at HE
    simp only [retS, Bool.false_eq_true, if_false] at HE
    have HE := Lib.hid HE
    go_wp2_with fail
    refine HE.out.mono ?_
    rintro e w8 ⟨rfl, hk8⟩
    go_wp2_with fail
    go_ret2
    exact ⟨by rw [(Prod.mk.inj hz.out).1, (Prod.mk.inj hz.out).2]; rfl, HK7.out.trans hk8⟩
  rw [HPRT.out, hfo] at HE
  simp only [retS, if_true] at HE
  have HXL := Lib.hid (HFLT.out hfo)
  have HOK3 := Lib.hid hfo
  obtain ⟨XX, hXX⟩ : ∃ X, q.filter.bytes = X := ⟨_, rfl⟩
  rw [hXX] at HXL HE
  have HXX := Lib.hid hXX
  have HE := Lib.hid HE
  clear hfo hXX
  go_wp2_with fail
  refine HE.out.mono ?_
  rintro e w8 ⟨rfl, hk8⟩
  have HK8 := Lib.hid (HK7.out.trans hk8)
  have HB8 := Lib.hid (HB7.out.keeps hk8)
  clear hk8 q0 q1 q2 q3
  have qf := HB8.out.cell 5 _ rfl
  obtain ⟨fb, hfb⟩ : ∃ f, q.flag = f := ⟨_, rfl⟩
  have q0 : w8.cell? ⟨w.heap.size, 5, none⟩ = some (.bool fb) := by rw [← hfb]; exact qf
  have HFB := Lib.hid hfb
  clear hfb qf
  go_upto_if 90 with fail
  go_cut [9] from 12 (fun s9 wx => ∃ (wn : World), wn = wx ∧ s9 = .int .i64 (flagI q.flag) ∧ Keeps w8 wn)
  case first =>
    cases fb
    all_goals
      go_wp2_with fail
      go_meet
      exact ⟨_, rfl, by rw [HFB.out]; rfl, Keeps.refl _⟩
  case rest =>
  obtain ⟨w9, rfl, rfl, hk9⟩ := hcut
  have HK9 := Lib.hid (HK8.out.trans hk9)
  have HB9 := Lib.hid (HB8.out.keeps hk9)
  clear hk9
  have b0 := HB9.out.cell 0 _ rfl
  have b1 := HB9.out.cell 1 _ rfl
  have b2 := HB9.out.cell 2 _ rfl
  have b3 := HB9.out.cell 3 _ rfl
  have b4 := HB9.out.cell 4 _ rfl
  have b16 := HB9.out.cell 16 _ rfl
  have b17 := HB9.out.cell 17 _ rfl
  have b18 := HB9.out.cell 18 _ rfl
  have b19 := HB9.out.cell 19 _ rfl
  obtain ⟨fl, hfl⟩ : ∃ f, flagI q.flag = f := ⟨_, rfl⟩
  have hflb := flagI_bd q.flag
  rw [hfl] at hflb ⊢
  have HFLB := Lib.hid hflb
  obtain ⟨A0, hA0⟩ : ∃ A, Vi.put q.kind = A := ⟨_, rfl⟩
  have l0 : A0.length ≤ 10 := by rw [← hA0]; exact Vi.put_length _
  have P0 := Lib.hid hA0
  obtain ⟨A1, hA1⟩ : ∃ A, Vi.text q.name = A := ⟨_, rfl⟩
  have l1 : A1.length ≤ 70010 := by rw [← hA1]; have := text_len10 q.name; have := HNB.out; omega
  have P1 := Lib.hid hA1
  obtain ⟨A2, hA2⟩ : ∃ A, Vi.put q.index = A := ⟨_, rfl⟩
  have l2 : A2.length ≤ 10 := by rw [← hA2]; exact Vi.put_length _
  have P2 := Lib.hid hA2
  obtain ⟨A3, hA3⟩ : ∃ A, Vi.put q.count = A := ⟨_, rfl⟩
  have l3 : A3.length ≤ 10 := by rw [← hA3]; exact Vi.put_length _
  have P3 := Lib.hid hA3
  obtain ⟨A4, hA4⟩ : ∃ A, Vi.put q.from_ = A := ⟨_, rfl⟩
  have l4 : A4.length ≤ 10 := by rw [← hA4]; exact Vi.put_length _
  have P4 := Lib.hid hA4
  obtain ⟨A5, hA5⟩ : ∃ A, Vi.put fl = A := ⟨_, rfl⟩
  have l5 : A5.length ≤ 10 := by rw [← hA5]; exact Vi.put_length _
  have P5 := Lib.hid hA5
  obtain ⟨A6, hA6⟩ : ∃ A, Vi.text XB = A := ⟨_, rfl⟩
  have l6 : A6.length ≤ 70010 := by rw [← hA6]; have := text_len10 XB; have := HBL.out; omega
  have P6 := Lib.hid hA6
  obtain ⟨A7, hA7⟩ : ∃ A, Vi.text XX = A := ⟨_, rfl⟩
  have l7 : A7.length ≤ 70010 := by rw [← hA7]; have := text_len10 XX; have := HXL.out; omega
  have P7 := Lib.hid hA7
  obtain ⟨A8, hA8⟩ : ∃ A, Vi.text q.group = A := ⟨_, rfl⟩
  have l8 : A8.length ≤ 70010 := by rw [← hA8]; have := text_len10 q.group; have := HGB.out; omega
  have P8 := Lib.hid hA8
  obtain ⟨A9, hA9⟩ : ∃ A, Vi.put q.member = A := ⟨_, rfl⟩
  have l9 : A9.length ≤ 10 := by rw [← hA9]; exact Vi.put_length _
  have P9 := Lib.hid hA9
  obtain ⟨A10, hA10⟩ : ∃ A, Vi.put q.gen = A := ⟨_, rfl⟩
  have l10 : A10.length ≤ 10 := by rw [← hA10]; exact Vi.put_length _
  have P10 := Lib.hid hA10
  obtain ⟨A11, hA11⟩ : ∃ A, Vi.put (n3 : Int) = A := ⟨_, rfl⟩
  have l11 : A11.length ≤ 10 := by rw [← hA11]; exact Vi.put_length _
  have P11 := Lib.hid hA11
  have HAB2 := Lib.hid (show ∀ x : Int, x = q.kind ∨ x = q.index ∨ x = q.count ∨ x = q.from_ ∨ x = fl ∨ x = q.member ∨ x = q.gen ∨ x = (n3 : Int) → -9223372036854775808 ≤ x ∧ x ≤ 9223372036854775807 by
    have h1 := G1.out; have h2 := G2.out; have h3 := G3.out; have h4 := G4.out; have h5 := G5.out; have hR := HKB.out; have hF := HFLB.out
    simp only [decide_eq_true_eq] at h1 h2 h3 h4 h5
    intro x hx; omega)
  have HTB := Lib.hid (show ∀ x : List UInt8, x = q.name ∨ x = XB ∨ x = XX ∨ x = q.group → x.length ≤ 70000 by
    have h1 := HNB.out; have h2 := HGB.out; have h3 := HBL.out; have h4 := HXL.out
    rintro x (rfl | rfl | rfl | rfl) <;> omega)
  have s1 : ¬ 9223372036854775807 < A0.length + A1.length := by omega
  have s2 : ¬ 9223372036854775807 < A0.length + A1.length + A2.length := by omega
  have s3 : ¬ 9223372036854775807 < A0.length + (A1.length + A2.length) + A3.length := by omega
  have s4 : ¬ 9223372036854775807 < A0.length + (A1.length + (A2.length + A3.length)) + A4.length := by omega
  have s5 : ¬ 9223372036854775807 < A0.length + (A1.length + (A2.length + (A3.length + A4.length))) + A5.length := by omega
  have s6 : ¬ 9223372036854775807 < A0.length + (A1.length + (A2.length + (A3.length + (A4.length + A5.length)))) + A6.length := by omega
  have s7 : ¬ 9223372036854775807 < A0.length + (A1.length + (A2.length + (A3.length + (A4.length + (A5.length + A6.length))))) + A7.length := by omega
  have s8 : ¬ 9223372036854775807 < A0.length + (A1.length + (A2.length + (A3.length + (A4.length + (A5.length + (A6.length + A7.length)))))) + A8.length := by omega
  have s9 : ¬ 9223372036854775807 < A0.length + (A1.length + (A2.length + (A3.length + (A4.length + (A5.length + (A6.length + (A7.length + A8.length))))))) + A9.length := by omega
  have s10 : ¬ 9223372036854775807 < A0.length + (A1.length + (A2.length + (A3.length + (A4.length + (A5.length + (A6.length + (A7.length + (A8.length + A9.length)))))))) + A10.length := by omega
  have s11 : ¬ 9223372036854775807 < A0.length + (A1.length + (A2.length + (A3.length + (A4.length + (A5.length + (A6.length + (A7.length + (A8.length + (A9.length + A10.length))))))))) + A11.length := by omega
  obtain ⟨L0, hL0⟩ : ∃ L, A0 ++ (A1 ++ (A2 ++ (A3 ++ (A4 ++ (A5 ++ (A6 ++ (A7 ++ (A8 ++ (A9 ++ (A10 ++ A11)))))))))) = L := ⟨_, rfl⟩
  have HL0l := Lib.hid (show L0.length ≤ 300000 by rw [← hL0]; simp only [List.length_append]; omega)
  have HL0 := Lib.hid hL0
  have HBODY := Lib.hid (show q.body = L0 ++ q.topics.flatMap Vi.text by rw [HBODY0.out, hfl, HXB.out, HXX.out, hA0, hA1, hA2, hA3, hA4, hA5, hA6, hA7, hA8, hA9, hA10, hA11, ← hL0]; simp only [List.append_assoc])
  have hap := str_append
  clear hL0 hfl hflb hA0 hA1 hA2 hA3 hA4 hA5 hA6 hA7 hA8 hA9 hA10 hA11
  go_wp2_with fail
  go_region_held3 (fun w' => Keeps w9 w' ∧ w'.cell? ⟨w.heap.size, 0, none⟩ = some (.int .i64 q.kind) ∧ w'.cell? ⟨w.heap.size, 1, none⟩ = some (.string (str q.name)) ∧ w'.cell? ⟨w.heap.size, 2, none⟩ = some (.int .i64 q.index) ∧ w'.cell? ⟨w.heap.size, 3, none⟩ = some (.int .i64 q.count) ∧ w'.cell? ⟨w.heap.size, 4, none⟩ = some (.int .i64 q.from_) ∧ w'.cell? ⟨w.heap.size, 16, none⟩ = some (.string (str q.group)) ∧ w'.cell? ⟨w.heap.size, 17, none⟩ = some (.int .i64 q.member) ∧ w'.cell? ⟨w.heap.size, 18, none⟩ = some (.int .i64 q.gen) ∧ w'.cell? ⟨w.heap.size, 19, none⟩ = some (.slice a3 n3 p3)) ((refine (fun hq => ⟨hq, Keeps.cell hq b0, Keeps.cell hq b1, Keeps.cell hq b2, Keeps.cell hq b3, Keeps.cell hq b4, Keeps.cell hq b16, Keeps.cell hq b17, Keeps.cell hq b18, Keeps.cell hq b19⟩) ?_; first | exact (Keeps.refl _).drew | exact Keeps.trans (And.left ‹Keeps w9 _ ∧ _›) (by assumption))) ((first | (go_at_call 50; refine (ref_text_l _ (HTB.out _ (by simp)) _).mono ?_; rintro e w' ⟨rfl, hkn⟩; (first | rw [P1.out] | rw [P6.out] | rw [P7.out] | rw [P8.out])) | (go_at_call 49; refine (ref_put _ (HAB2.out _ (by simp)).1 (HAB2.out _ (by simp)).2 _).mono ?_; rintro e w' ⟨rfl, hkn⟩; (first | rw [P0.out] | rw [P2.out] | rw [P3.out] | rw [P4.out] | rw [P5.out] | rw [P9.out] | rw [P10.out] | rw [P11.out]))))
  have hS := (‹Keeps w9 _ ∧ _›).1
  clear s1 s2 s3 s4 s5 s6 s7 s8 s9 s10 s11 b0 b1 b2 b3 b4 b16 b17 b18 b19 l0 l1 l2 l3 l4 l5 l6 l7 l8 l9 l10 l11
  go_wp2_with fail
  rw [HL0.out]
  have HN20 := Lib.hid hn20
  clear hn20
  go_loopw [10, 11] (fun u i wr => ∃ (j : Nat) (L : List UInt8), j ≤ n3 ∧ i = .int .i64 j ∧ u = .string (str L) ∧ L = L0 ++ (q.topics.take j).flatMap Vi.text ∧ L.length ≤ 300000 + 110 * j ∧ (∀ (k : Nat) (x : List UInt8), k < j → q.topics[k]? = some x → x.length ≤ 100) ∧ Keeps w9 wr) (fun _ i _ => n3 - (intOf i).toNat)
  case atStart => exact ⟨0, L0, by omega, rfl, rfl, by simp, by have := HL0l.out; omega, fun k x hk => by omega, hS⟩
  case round =>
    obtain ⟨j, L, hj, rfl, rfl, hL, hLl, hq, hkr⟩ := hrel
    have HL := Lib.hid hL
    have HLl := Lib.hid hLl
    have HQ := Lib.hid hq
    have hkw := HK9.out.trans hkr
    have q0 := (HB9.out.keeps hkr).cell 19 _ rfl
    have hn20 := HN20.out
    clear hL hLl hq
    by_cases hlt : j < n3
    · obtain ⟨x, hx⟩ : ∃ x, q.topics[j]? = some x := ⟨_, List.getElem?_eq_getElem (by rw [HNN.out]; exact hlt)⟩
      obtain ⟨rfl, -⟩ := HAL.out (by intro e; rw [e] at hx; simp at hx)
      have c0 : wr.cell? ⟨g, og + j, none⟩ = some (.string (str x)) := by have h := HCL.out j x hx 0 _ rfl; simp only [Nat.mul_one, Nat.add_zero] at h; exact hkw.cell h
      have HX := Lib.hid hx
      by_cases hxl : x.length ≤ 100
      · have d1 : decide ((100 : Int) < (x.length : Int)) = false := by simp; omega
        have HTX := ref_text_l x (by omega)
        have hcat : ¬ 9223372036854775807 < L.length + (Vi.text x).length := by have := HLl.out; have := text_len10 x; omega
        have HST := Lib.hid (show L ++ Vi.text x = L0 ++ (q.topics.take (j + 1)).flatMap Vi.text by rw [HL.out, List.append_assoc, texts_take hx])
        have HSL := Lib.hid (show (L ++ Vi.text x).length ≤ 300000 + 110 * (j + 1) by have := HLl.out; have := text_len10 x; rw [List.length_append]; omega)
        have HXL2 := Lib.hid hxl
        generalize Vi.text x = XT at HTX hcat HST HSL
        have HTX := Lib.hid HTX
        clear hx hxl
        go_wp2_with fail
        refine (HTX.out _).mono ?_
        rintro e w5 ⟨rfl, hk5⟩
        go_wp2_with fail
        refine ⟨⟨j + 1, L ++ XT, by omega, by go_num, rfl, HST.out, HSL.out, fun k y hk hy => ?_, hkr.trans hk5⟩, by simp [intOf]; omega⟩
        by_cases hkj : k < j
        · exact HQ.out k y hkj hy
        · obtain rfl : k = j := by omega
          rw [HX.out] at hy
          cases hy
          exact HXL2.out
      · have d1 : decide ((100 : Int) < (x.length : Int)) = true := by simp; omega
        have hz := Lib.hid (HBAD4.out j x hx hxl)
        clear hx hxl
        go_wp2_with fail
        go_ret2
        exact ⟨by rw [(Prod.mk.inj hz.out).1, (Prod.mk.inj hz.out).2]; rfl, hkw⟩
    · obtain rfl : j = n3 := by omega
      have hT : q.topics.take j = q.topics := List.take_of_length_le (by rw [HNN.out]; omega)
      have hG := HGOOD.out HOK1.out HOK2.out HOK3.out (fun k x hx => HQ.out k x (by have := (List.getElem?_eq_some_iff.1 hx).1; rw [HNN.out] at this; exact this) hx)
      have hBY := HBODY.out
      have hLE := HL.out
      rw [hT] at hLE
      rw [← hLE] at hBY
      rw [hBY] at hG
      clear hT hBY hLE
      obtain ⟨hG1, hG2⟩ := Prod.mk.inj hG
      have HG1 := Lib.hid hG1
      have HG2 := Lib.hid hG2
      clear hG hG1 hG2
      by_cases hl6 : L.length ≤ 60000
      · have d1 : decide ((L.length : Int) ≤ 60000) = true := by simp; omega
        have d2 := Lib.hid (show decide (L.length ≤ 60000) = true by simpa using hl6)
        clear hl6
        go_wp2_with fail
        go_ret2
        exact ⟨by rw [HG1.out, HG2.out, d2.out]; rfl, hkw⟩
      · have d1 : decide ((L.length : Int) ≤ 60000) = false := by simp; omega
        have d2 := Lib.hid (show decide (L.length ≤ 60000) = false by simpa using hl6)
        clear hl6
        go_wp2_with fail
        go_ret2
        exact ⟨by rw [HG1.out, HG2.out, d2.out]; rfl, hkw⟩

end Go.Proofs.YtgbnpehpfadehaaGreatDoor
