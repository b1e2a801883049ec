/-
  flotsamref05.Same, SameAll of batches that are the same: the walks.
  Requests and replies handed from the document's type to the program's and back: the walks.
-/
import Derived.Test.YtamiebojjinhcaaGreatDoorBs
import Derived.Test.YtamiebojjinhcaaGreatDoorRs
import Derived.Test.YtamiebojjinhcaaGreatDoorCdDec
import Derived.Test.YtamiebojjinhcaaGreatDoorOwn
set_option linter.unusedVariables false
namespace Go.Proofs.YtamiebojjinhcaaGreatDoor
open Go.RowKit

set_option maxRecDepth 4000 in
set_option maxHeartbeats 3200000 in
theorem bt_same (b : Bat) (v v' : Value) (w : World) (h : RsAt w v b.recs) (h' : RsAt w v' b.recs) (hb : ∀ r ∈ b.recs, r.hdrs.length ≤ 2 ^ 50) :
    Calls Tryz.prog 11 #[batV b v, batV b v'] w fun e w' => e = .returned (.bool true) ∧ Keeps w w' := by
  have HS := fun w' (k : Keeps w w') => rs_same b.recs v v' w' (h.keeps k) (h'.keeps k) hb
  obtain ⟨ad, cap, rfl⟩ := h.form
  obtain ⟨ad', cap', rfl⟩ := h'.form
  simp only [batV]
  have hk0 := ((Keeps.refl w).alloc (.cells #[.int .i64 b.base, .int .i64 b.span, .int .i64 b.prod, .int .i64 b.epoch, .int .i64 b.seq, .slice ad b.recs.length cap] 24)).alloc (.cells #[.int .i64 b.base, .int .i64 b.span, .int .i64 b.prod, .int .i64 b.epoch, .int .i64 b.seq, .slice ad' b.recs.length cap'] 24)
  have HS := Lib.hid HS
  clear h h' hb
  go_enter Tryz.func11, Tryz.ntmps11
  go_wp2_with fail
  refine (HS.out _ hk0).mono ?_
  rintro e w1 ⟨rfl, hk1⟩
  go_wp2_with fail
  go_ret
  exact ⟨rfl, hk0.trans hk1⟩

end Go.Proofs.YtamiebojjinhcaaGreatDoor

namespace Go.Proofs.YtamiebojjinhcaaGreatDoor
open Go.RowKit

theorem results_cell1 {P : Program} {f : Func} {tmps : Array Value} {w : World} {a b : Nat} {T : TypeId} {v : Value} (hf : f.results = #[.cell a T]) (ha : tmps.getD a undef = .pointer (some ⟨b, 0, none⟩))
    (hl : (loadVar T ⟨b, 0, none⟩).run P w = .ok v w) : (results f tmps).run P w = .ok v w := by
  rw [Array.getD_eq_getD_getElem?] at ha
  unfold results
  rw [hf]
  simp [asAddr, ha, hl]
section
variable {P : Program} {ops : Array Oper} {Q : Exit → Act → World → Prop} {md : Region.Mode} {S : World → Prop} {fuel : Nat} {listed : Array Bool} {a : Act} {w : World}
/-- a load of many cells, taken -/
theorem held_big (i : Nat) (d : Option Tmp) (ty : TypeId) (x : Operand) (b : Nat) (cs : List Value) (td : TypeDesc) (h1 : Region.noSelect ops = true) (h2 : Region.free md ops listed i = true) (h3 : (Region.ready md ops listed).contains i = true)
    (h4 : (ops[i]?).map (fun o => (o.dst, o.op, Region.wanted o (yielded ops a.tmps))) = some (d, .load ty x, true)) (hx : a.eval x = .pointer (some ⟨b, 0, none⟩)) (hQ : ∀ c a w, Q (.panic c) (a.put d (.agg cs.toArray)) w → Q (.panic c) a w) (hS : S w)
    (hc : ∀ w, S w → w.rangeAt b 0 cs) (hu : P.underlying ty = some td) (hd : td.isRow = true) (hi : (P.info? ty).map (·.size) = some cs.length)
    (h : wpAnyH P md ops Q S fuel (listed.setIfInBounds i true) (a.put d (.agg cs.toArray)) w) : wpAnyH P md ops Q S (fuel + 1) listed a w := by
  obtain ⟨o, ho, he⟩ := Option.map_eq_some_iff.1 h4
  simp only [Prod.mk.injEq] at he
  obtain ⟨rfl, hop, hw⟩ := he
  exact wpAnyH_take ho h1 h2 h3 hQ (yieldsIf_load_mid hw ty x hop b 0 hx cs td hc hu hd hi) hS h
end
theorem size_rq19 {q : Req} {lv kv tv : Value} : (Tryz.prog.info? 30).map (·.size) = some (reqList q lv kv tv).length := by kernel_rfl
theorem rng_of_blk {w : World} {b : Nat} {T : TypeId} {cs : Array Value} (h : Blk w b T cs) : w.rangeAt b 0 cs.toList :=
  fun j v hj => by rw [Nat.zero_add]; exact h.cell j v (by simpa using hj)


set_option maxRecDepth 8000 in
set_option maxHeartbeats 1600000 in
theorem ask_req (q : Req) (a1 : Option Addr) (n1 p1 : Nat) (a2 : Option Addr) (n2 p2 : Nat) (a3 : Option Addr) (n3 p3 : Nat) (w : World) :
    Calls Tryz.prog 7 #[reqV q (.slice a1 n1 p1) (.slice a2 n2 p2) (.slice a3 n3 p3)] w fun e w' => e = .returned (reqV q (.slice a1 n1 p1) (.slice a2 n2 p2) (.slice a3 n3 p3)) ∧ Keeps w w' := by
  have hkA := (Keeps.refl w).alloc (.cells #[.int .i64 q.kind, .string (str q.name), .int .i64 q.index, .int .i64 q.count, .int .i64 q.from_, .bool q.flag, .int .i64 q.bat.base, .int .i64 q.bat.span, .int .i64 q.bat.prod, .int .i64 q.bat.epoch, .int .i64 q.bat.seq, .slice a1 n1 p1, .int .i64 q.filter.op, .string (str q.filter.name), .string (str q.filter.value), .slice a2 n2 p2, .string (str q.group), .int .i64 q.member, .int .i64 q.gen, .slice a3 n3 p3] 30)
  have hkB := (Keeps.refl (w.alloc (.cells #[.int .i64 q.kind, .string (str q.name), .int .i64 q.index, .int .i64 q.count, .int .i64 q.from_, .bool q.flag, .int .i64 q.bat.base, .int .i64 q.bat.span, .int .i64 q.bat.prod, .int .i64 q.bat.epoch, .int .i64 q.bat.seq, .slice a1 n1 p1, .int .i64 q.filter.op, .string (str q.filter.name), .string (str q.filter.value), .slice a2 n2 p2, .string (str q.group), .int .i64 q.member, .int .i64 q.gen, .slice a3 n3 p3] 30))).alloc (.cells #[.int .i64 0, .string ⟨#[]⟩, .int .i64 0, .int .i64 0, .int .i64 0, .bool false, .int .i64 0, .int .i64 0, .int .i64 0, .int .i64 0, .int .i64 0, .slice none 0 0, .int .i64 0, .string ⟨#[]⟩, .string ⟨#[]⟩, .slice none 0 0, .string ⟨#[]⟩, .int .i64 0, .int .i64 0, .slice none 0 0] 36)
  have hb0 := (Blk.new w 30 #[.int .i64 q.kind, .string (str q.name), .int .i64 q.index, .int .i64 q.count, .int .i64 q.from_, .bool q.flag, .int .i64 q.bat.base, .int .i64 q.bat.span, .int .i64 q.bat.prod, .int .i64 q.bat.epoch, .int .i64 q.bat.seq, .slice a1 n1 p1, .int .i64 q.filter.op, .string (str q.filter.name), .string (str q.filter.value), .slice a2 n2 p2, .string (str q.group), .int .i64 q.member, .int .i64 q.gen, .slice a3 n3 p3]).keeps hkB
  have hb1 := Blk.new (w.alloc (.cells #[.int .i64 q.kind, .string (str q.name), .int .i64 q.index, .int .i64 q.count, .int .i64 q.from_, .bool q.flag, .int .i64 q.bat.base, .int .i64 q.bat.span, .int .i64 q.bat.prod, .int .i64 q.bat.epoch, .int .i64 q.bat.seq, .slice a1 n1 p1, .int .i64 q.filter.op, .string (str q.filter.name), .string (str q.filter.value), .slice a2 n2 p2, .string (str q.group), .int .i64 q.member, .int .i64 q.gen, .slice a3 n3 p3] 30)) 36 #[.int .i64 0, .string ⟨#[]⟩, .int .i64 0, .int .i64 0, .int .i64 0, .bool false, .int .i64 0, .int .i64 0, .int .i64 0, .int .i64 0, .int .i64 0, .slice none 0 0, .int .i64 0, .string ⟨#[]⟩, .string ⟨#[]⟩, .slice none 0 0, .string ⟨#[]⟩, .int .i64 0, .int .i64 0, .slice none 0 0]
  rw [World.size_alloc] at hb1
  have HK := Lib.hid (hkA.trans hkB)
  clear hkA hkB
  simp only [reqV, reqCells] at *
  go_enter Tryz.func7, Tryz.ntmps7
  go_upto_region 1 with fail
  generalize hW : ((w.alloc (.cells #[.int .i64 q.kind, .string (str q.name), .int .i64 q.index, .int .i64 q.count, .int .i64 q.from_, .bool q.flag, .int .i64 q.bat.base, .int .i64 q.bat.span, .int .i64 q.bat.prod, .int .i64 q.bat.epoch, .int .i64 q.bat.seq, .slice a1 n1 p1, .int .i64 q.filter.op, .string (str q.filter.name), .string (str q.filter.value), .slice a2 n2 p2, .string (str q.group), .int .i64 q.member, .int .i64 q.gen, .slice a3 n3 p3] 30)).alloc (.cells #[.int .i64 0, .string ⟨#[]⟩, .int .i64 0, .int .i64 0, .int .i64 0, .bool false, .int .i64 0, .int .i64 0, .int .i64 0, .int .i64 0, .int .i64 0, .slice none 0 0, .int .i64 0, .string ⟨#[]⟩, .string ⟨#[]⟩, .slice none 0 0, .string ⟨#[]⟩, .int .i64 0, .int .i64 0, .slice none 0 0] 36)) = W at *
  clear hW
  have c0 := hb0.cell 0 _ rfl
  have c1 := hb0.cell 1 _ rfl
  have c2 := hb0.cell 2 _ rfl
  have c3 := hb0.cell 3 _ rfl
  have c4 := hb0.cell 4 _ rfl
  have c5 := hb0.cell 5 _ rfl
  have c6 := hb0.cell 6 _ rfl
  have c7 := hb0.cell 7 _ rfl
  have c8 := hb0.cell 8 _ rfl
  have c9 := hb0.cell 9 _ rfl
  have c10 := hb0.cell 10 _ rfl
  have c11 := hb0.cell 11 _ rfl
  have c12 := hb0.cell 12 _ rfl
  have c13 := hb0.cell 13 _ rfl
  have c14 := hb0.cell 14 _ rfl
  have c15 := hb0.cell 15 _ rfl
  have c16 := hb0.cell 16 _ rfl
  have c17 := hb0.cell 17 _ rfl
  have c18 := hb0.cell 18 _ rfl
  have c19 := hb0.cell 19 _ rfl
  have hb1 : Blk W (w.heap.size + 1) 36 (reqCells Req.none (.slice none 0 0) (.slice none 0 0) (.slice none 0 0)) := hb1
  have HTH := Lib.hid (there_req (q' := q) (x := .slice a1 n1 p1) (y := .slice a2 n2 p2) (z := .slice a3 n3 p3) hb1)
  have HQ2 := Lib.hid (setCells_req (q' := q) (x := .slice a1 n1 p1) (y := .slice a2 n2 p2) (z := .slice a3 n3 p3) hb1)
  have HLV := Lib.hid (run_loadVar_mid (P := Tryz.prog) _ (w.heap.size + 1) 0 36 (reqList q (.slice a1 n1 p1) (.slice a2 n2 p2) (.slice a3 n3 p3)) _ (rng_of_blk HQ2.out) Tryz.underlying36 rfl size_req)
  clear hb0 hb1
  refine wp_region_lit ?_
  iterate 25
    refine wpList_plain (by rfl) fun _ hK => ?_
    go_simp
    refine hK _ _ ?_
    clear hK
    try simp only [Act.put, List.setIfInBounds_toArray, List.set_cons_zero, List.set_cons_succ]
  refine wpList_store_mid (by rfl) 36 (.tmp 2) (.tmp 27) (by rfl) (w.heap.size + 1) 0 (reqCells q (.slice a1 n1 p1) (.slice a2 n2 p2) (.slice a3 n3 p3)) (by rfl) (by rfl) HTH.out size_req' one_req ?_
  have HKF := Lib.hid (Keeps.setCells (q := w.heap.size + 1) (Nat.le_succ _) (reqCells q (.slice a1 n1 p1) (.slice a2 n2 p2) (.slice a3 n3 p3)).toList 0 HK.out)
  have hlv := HLV.out
  generalize W.setCells (w.heap.size + 1) 0 (reqCells q (.slice a1 n1 p1) (.slice a2 n2 p2) (.slice a3 n3 p3)).toList = wf at *
  go_wp2_with fail
  exact bodyPost_ret (v := reqV q (.slice a1 n1 p1) (.slice a2 n2 p2) (.slice a3 n3 p3)) (results_cell1 rfl rfl hlv) rfl ⟨rfl, HKF.out⟩

end Go.Proofs.YtamiebojjinhcaaGreatDoor
