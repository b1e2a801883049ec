/-
  wire's Decode and Read: the walks.
  wire's Decode and Read: the walks.
-/
import Derived.Test.YtgbnpehpfadehaaDoorWide
set_option linter.unusedVariables false
namespace Go.Proofs.YtgbnpehpfadehaaDoor
open Go.RowKit
theorem Req.dec_if (l : List UInt8) : Req.dec l = if (Rd.rq l).2.2 = 0 ∧ (Rd.rq l).2.1 = (l.length : Int) ∧ l.length ≤ 60000 then ((Rd.rq l).1, 0) else (Req.none, 3) := rfl
theorem Rep.dec_if (l : List UInt8) : Rep.dec l = if (Rd.rr l).2.2 = 0 ∧ (Rd.rr l).2.1 = (l.length : Int) ∧ l.length ≤ 60000 then ((Rd.rr l).1, 0) else (Rep.none, 3) := rfl
theorem ReqB.none : ReqB Req.none := ⟨by decide, by decide, by decide, fun x hx => by simp [Req.none] at hx⟩
theorem RepB.none : RepB Rep.none := ⟨by decide, fun x hx => by simp [Rep.none] at hx, fun x hx => by simp [Rep.none] at hx⟩
theorem one_rep {q : Rep} {a1 a2 a3 : Option Addr} {n1 p1 n2 p2 n3 p3 : Nat} : (repCells q (.slice a1 n1 p1) (.slice a2 n2 p2) (.slice a3 n3 p3)).all (·.oneCell') = true := by
  unfold repCells
  exact all_oneCell_toArray (by simp [Value.oneCell'])
theorem setCells_rep {w : World} {b : Nat} {T : TypeId} {q q' : Rep} {lv kv tv x y z : Value} (h : Blk w b T (repCells q lv kv tv)) : Blk (w.setCells b 0 (repCells q' x y z).toList) b T (repCells q' x y z) := by
  have h2 := Blk.setCells (repCells q' x y z).toList 0 _ h
  rw [setMany_all (by rfl), Array.toArray_toList] at h2
  exact h2
theorem there_rep {w : World} {b : Nat} {T : TypeId} {q q' : Rep} {lv kv tv x y z : Value} (h : Blk w b T (repCells q lv kv tv)) : w.there b 0 (repCells q' x y z).size := fun j hj => by
  have hj : j < 10 := hj
  refine ⟨?_, h.frozen _⟩
  rw [Nat.zero_add, h.cell j (repCells q lv kv tv)[j] (Array.getElem?_eq_getElem (show j < 10 from hj))]; rfl
theorem size_rep' {q : Rep} {x y z : Value} : (Tryd.prog.info? 54).map (·.size) = some (repCells q x y z).size := by kernel_rfl


/-- what Decode leaves -/
def ReqRet (g : Req × Int) (w : World) (e : Ending) (w' : World) : Prop := ∃ a b c, e = .returned (.tuple #[reqV g.1 a b c, .int .i64 g.2]) ∧ ReqIn (fun i => w.heap.size ≤ i) w' g.1 a b c ∧ Keeps w w'

set_option maxRecDepth 8000 in
set_option maxHeartbeats 800000 in
theorem rd_req (l : List UInt8) (hl : l.length ≤ 2 ^ 62) (w : World) (ht : Tab w) :
    Calls Tryd.prog 38 #[.string (str l), .func (.func 34) #[] #[]] w (ReqRet (Req.dec l) w) := by
  have htl := ht.lt
  have hif := Req.dec_if l
  have HK0 := Lib.hid ((Keeps.refl w).alloc (.cells #[.int .i64 0, .string ⟨#[]⟩, .int .i64 0, .int .i64 0, .int .i64 0, .bool false, .int .i64 0, .int .i64 0, .int .i64 0, .int .i64 0, .int .i64 0, .slice none 0 0, .int .i64 0, .string ⟨#[]⟩, .string ⟨#[]⟩, .slice none 0 0, .string ⟨#[]⟩, .int .i64 0, .int .i64 0, .slice none 0 0] 36))
  have HK1 := Lib.hid (HK0.out.alloc (.cells #[.string (str l), .int .i64 0, .bool true, .bool false] 108))
  have HK2 := Lib.hid (HK1.out.alloc (.cells #[.int .i64 0, .string ⟨#[]⟩, .int .i64 0, .int .i64 0, .int .i64 0, .bool false, .int .i64 0, .int .i64 0, .int .i64 0, .int .i64 0, .int .i64 0, .slice none 0 0, .int .i64 0, .string ⟨#[]⟩, .string ⟨#[]⟩, .slice none 0 0, .string ⟨#[]⟩, .int .i64 0, .int .i64 0, .slice none 0 0] 36))
  have hb0 := ((Blk.new w 36 #[.int .i64 0, .string ⟨#[]⟩, .int .i64 0, .int .i64 0, .int .i64 0, .bool false, .int .i64 0, .int .i64 0, .int .i64 0, .int .i64 0, .int .i64 0, .slice none 0 0, .int .i64 0, .string ⟨#[]⟩, .string ⟨#[]⟩, .slice none 0 0, .string ⟨#[]⟩, .int .i64 0, .int .i64 0, .slice none 0 0]).keeps ((Keeps.refl (w.alloc (.cells #[.int .i64 0, .string ⟨#[]⟩, .int .i64 0, .int .i64 0, .int .i64 0, .bool false, .int .i64 0, .int .i64 0, .int .i64 0, .int .i64 0, .int .i64 0, .slice none 0 0, .int .i64 0, .string ⟨#[]⟩, .string ⟨#[]⟩, .slice none 0 0, .string ⟨#[]⟩, .int .i64 0, .int .i64 0, .slice none 0 0] 36))).alloc (.cells #[.string (str l), .int .i64 0, .bool true, .bool false] 108))).keeps ((Keeps.refl ((w.alloc (.cells #[.int .i64 0, .string ⟨#[]⟩, .int .i64 0, .int .i64 0, .int .i64 0, .bool false, .int .i64 0, .int .i64 0, .int .i64 0, .int .i64 0, .int .i64 0, .slice none 0 0, .int .i64 0, .string ⟨#[]⟩, .string ⟨#[]⟩, .slice none 0 0, .string ⟨#[]⟩, .int .i64 0, .int .i64 0, .slice none 0 0] 36)).alloc (.cells #[.string (str l), .int .i64 0, .bool true, .bool false] 108))).alloc (.cells #[.int .i64 0, .string ⟨#[]⟩, .int .i64 0, .int .i64 0, .int .i64 0, .bool false, .int .i64 0, .int .i64 0, .int .i64 0, .int .i64 0, .int .i64 0, .slice none 0 0, .int .i64 0, .string ⟨#[]⟩, .string ⟨#[]⟩, .slice none 0 0, .string ⟨#[]⟩, .int .i64 0, .int .i64 0, .slice none 0 0] 36))
  have hb1 := (Blk.new (w.alloc (.cells #[.int .i64 0, .string ⟨#[]⟩, .int .i64 0, .int .i64 0, .int .i64 0, .bool false, .int .i64 0, .int .i64 0, .int .i64 0, .int .i64 0, .int .i64 0, .slice none 0 0, .int .i64 0, .string ⟨#[]⟩, .string ⟨#[]⟩, .slice none 0 0, .string ⟨#[]⟩, .int .i64 0, .int .i64 0, .slice none 0 0] 36)) 108 #[.string (str l), .int .i64 0, .bool true, .bool false]).keeps ((Keeps.refl ((w.alloc (.cells #[.int .i64 0, .string ⟨#[]⟩, .int .i64 0, .int .i64 0, .int .i64 0, .bool false, .int .i64 0, .int .i64 0, .int .i64 0, .int .i64 0, .int .i64 0, .slice none 0 0, .int .i64 0, .string ⟨#[]⟩, .string ⟨#[]⟩, .slice none 0 0, .string ⟨#[]⟩, .int .i64 0, .int .i64 0, .slice none 0 0] 36)).alloc (.cells #[.string (str l), .int .i64 0, .bool true, .bool false] 108))).alloc (.cells #[.int .i64 0, .string ⟨#[]⟩, .int .i64 0, .int .i64 0, .int .i64 0, .bool false, .int .i64 0, .int .i64 0, .int .i64 0, .int .i64 0, .int .i64 0, .slice none 0 0, .int .i64 0, .string ⟨#[]⟩, .string ⟨#[]⟩, .slice none 0 0, .string ⟨#[]⟩, .int .i64 0, .int .i64 0, .slice none 0 0] 36))
  have hb2 := Blk.new ((w.alloc (.cells #[.int .i64 0, .string ⟨#[]⟩, .int .i64 0, .int .i64 0, .int .i64 0, .bool false, .int .i64 0, .int .i64 0, .int .i64 0, .int .i64 0, .int .i64 0, .slice none 0 0, .int .i64 0, .string ⟨#[]⟩, .string ⟨#[]⟩, .slice none 0 0, .string ⟨#[]⟩, .int .i64 0, .int .i64 0, .slice none 0 0] 36)).alloc (.cells #[.string (str l), .int .i64 0, .bool true, .bool false] 108)) 36 #[.int .i64 0, .string ⟨#[]⟩, .int .i64 0, .int .i64 0, .int .i64 0, .bool false, .int .i64 0, .int .i64 0, .int .i64 0, .int .i64 0, .int .i64 0, .slice none 0 0, .int .i64 0, .string ⟨#[]⟩, .string ⟨#[]⟩, .slice none 0 0, .string ⟨#[]⟩, .int .i64 0, .int .i64 0, .slice none 0 0]
  rw [World.size_alloc] at hb1
  rw [World.size_alloc, World.size_alloc] at hb2
  have HB0 := Lib.hid (show Blk (((w.alloc (.cells #[.int .i64 0, .string ⟨#[]⟩, .int .i64 0, .int .i64 0, .int .i64 0, .bool false, .int .i64 0, .int .i64 0, .int .i64 0, .int .i64 0, .int .i64 0, .slice none 0 0, .int .i64 0, .string ⟨#[]⟩, .string ⟨#[]⟩, .slice none 0 0, .string ⟨#[]⟩, .int .i64 0, .int .i64 0, .slice none 0 0] 36)).alloc (.cells #[.string (str l), .int .i64 0, .bool true, .bool false] 108)).alloc (.cells #[.int .i64 0, .string ⟨#[]⟩, .int .i64 0, .int .i64 0, .int .i64 0, .bool false, .int .i64 0, .int .i64 0, .int .i64 0, .int .i64 0, .int .i64 0, .slice none 0 0, .int .i64 0, .string ⟨#[]⟩, .string ⟨#[]⟩, .slice none 0 0, .string ⟨#[]⟩, .int .i64 0, .int .i64 0, .slice none 0 0] 36)) w.heap.size 36 (reqCells Req.none (.slice none 0 0) (.slice none 0 0) (.slice none 0 0)) from hb0)
  have HB1 := Lib.hid (show Blk (((w.alloc (.cells #[.int .i64 0, .string ⟨#[]⟩, .int .i64 0, .int .i64 0, .int .i64 0, .bool false, .int .i64 0, .int .i64 0, .int .i64 0, .int .i64 0, .int .i64 0, .slice none 0 0, .int .i64 0, .string ⟨#[]⟩, .string ⟨#[]⟩, .slice none 0 0, .string ⟨#[]⟩, .int .i64 0, .int .i64 0, .slice none 0 0] 36)).alloc (.cells #[.string (str l), .int .i64 0, .bool true, .bool false] 108)).alloc (.cells #[.int .i64 0, .string ⟨#[]⟩, .int .i64 0, .int .i64 0, .int .i64 0, .bool false, .int .i64 0, .int .i64 0, .int .i64 0, .int .i64 0, .int .i64 0, .slice none 0 0, .int .i64 0, .string ⟨#[]⟩, .string ⟨#[]⟩, .slice none 0 0, .string ⟨#[]⟩, .int .i64 0, .int .i64 0, .slice none 0 0] 36)) (w.heap.size + 1) 108 (Cs.rd l (0, 0)).cells from hb1)
  have HB2 := Lib.hid (show Blk (((w.alloc (.cells #[.int .i64 0, .string ⟨#[]⟩, .int .i64 0, .int .i64 0, .int .i64 0, .bool false, .int .i64 0, .int .i64 0, .int .i64 0, .int .i64 0, .int .i64 0, .slice none 0 0, .int .i64 0, .string ⟨#[]⟩, .string ⟨#[]⟩, .slice none 0 0, .string ⟨#[]⟩, .int .i64 0, .int .i64 0, .slice none 0 0] 36)).alloc (.cells #[.string (str l), .int .i64 0, .bool true, .bool false] 108)).alloc (.cells #[.int .i64 0, .string ⟨#[]⟩, .int .i64 0, .int .i64 0, .int .i64 0, .bool false, .int .i64 0, .int .i64 0, .int .i64 0, .int .i64 0, .int .i64 0, .slice none 0 0, .int .i64 0, .string ⟨#[]⟩, .string ⟨#[]⟩, .slice none 0 0, .string ⟨#[]⟩, .int .i64 0, .int .i64 0, .slice none 0 0] 36)) (w.heap.size + 1 + 1) 36 (reqCells Req.none (.slice none 0 0) (.slice none 0 0) (.slice none 0 0)) from hb2)
  have hnil := ReqIn.nil (fun _ => False) (((w.alloc (.cells #[.int .i64 0, .string ⟨#[]⟩, .int .i64 0, .int .i64 0, .int .i64 0, .bool false, .int .i64 0, .int .i64 0, .int .i64 0, .int .i64 0, .int .i64 0, .slice none 0 0, .int .i64 0, .string ⟨#[]⟩, .string ⟨#[]⟩, .slice none 0 0, .string ⟨#[]⟩, .int .i64 0, .int .i64 0, .slice none 0 0] 36)).alloc (.cells #[.string (str l), .int .i64 0, .bool true, .bool false] 108)).alloc (.cells #[.int .i64 0, .string ⟨#[]⟩, .int .i64 0, .int .i64 0, .int .i64 0, .bool false, .int .i64 0, .int .i64 0, .int .i64 0, .int .i64 0, .int .i64 0, .slice none 0 0, .int .i64 0, .string ⟨#[]⟩, .string ⟨#[]⟩, .slice none 0 0, .string ⟨#[]⟩, .int .i64 0, .int .i64 0, .slice none 0 0] 36))
  have DO := cd_req 0 (by decide) (Cs.rd l (0, 0)) ⟨hl, by unfold Rd.Fine; simp⟩ Req.none ReqB.none (.slice none 0 0) (.slice none 0 0) (.slice none 0 0) (fun _ => False) (w.heap.size + 1) w.heap.size (fun g h => h.elim) (by omega) _ hnil.1 hnil.2.1 hnil.2.2 (fun _ => ⟨rfl, rfl, rfl, rfl⟩) (ht.keeps HK2.out) (by omega) (by omega) HB1.out HB0.out
  rw [Cs.req_rd] at DO
  obtain ⟨⟨q, st⟩, hq⟩ : ∃ r, Rd.rq l = r := ⟨_, rfl⟩
  rw [hq] at hif DO
  simp only at hif DO
  have DO := Lib.hid DO
  have hz := str_size l
  have hne : ¬ w.heap.size + 1 = w.heap.size := by omega
  have hne2 : ¬ w.heap.size + 1 + 1 = w.heap.size := by omega
  have hne3 : ¬ w.heap.size + 1 + 1 = w.heap.size + 1 := by omega
  clear hb0 hb1 hb2 hq hl ht hnil
  by_cases h1 : st.2 = 0
  · have D1 := Lib.hid (show decide (st.2 ≠ 0) = false by simpa using h1)
    by_cases h2 : st.1 = (l.length : Int)
    · have d2 : (st.1 != (l.length : Int)) = false := by simpa using h2
      by_cases h3 : l.length ≤ 60000
      · have d3 : decide (60000 < (l.length : Int)) = false := by simp; omega
        have HE := Lib.hid (hif.trans (if_pos ⟨h1, h2, h3⟩))
        clear hif h1 h2 h3
        go_enter Tryd.func38, Tryd.ntmps38
        go_wp2_with fail
        refine DO.out.mono ?_
        rintro e w1 ⟨a, b, c, rfl, hd, hin⟩
        have hcc : Blk w1 (w.heap.size + 1) 108 (cdc l st.1 true (decide (st.2 ≠ 0))) := hd.cb
        rw [D1.out] at hcc
        obtain ⟨⟨x0, x1, x2, x3⟩, -⟩ := hcc.cdc
        have HD := Lib.hid hd
        obtain ⟨s1, n1, p1, s2, n2, p2, s3, n3, p3, rfl, rfl, rfl⟩ := ReqIn.form (S := fun g => False ∨ (((w.alloc (.cells #[.int .i64 0, .string ⟨#[]⟩, .int .i64 0, .int .i64 0, .int .i64 0, .bool false, .int .i64 0, .int .i64 0, .int .i64 0, .int .i64 0, .int .i64 0, .slice none 0 0, .int .i64 0, .string ⟨#[]⟩, .string ⟨#[]⟩, .slice none 0 0, .string ⟨#[]⟩, .int .i64 0, .int .i64 0, .slice none 0 0] 36)).alloc (.cells #[.string (str l), .int .i64 0, .bool true, .bool false] 108)).alloc (.cells #[.int .i64 0, .string ⟨#[]⟩, .int .i64 0, .int .i64 0, .int .i64 0, .bool false, .int .i64 0, .int .i64 0, .int .i64 0, .int .i64 0, .int .i64 0, .slice none 0 0, .int .i64 0, .string ⟨#[]⟩, .string ⟨#[]⟩, .slice none 0 0, .string ⟨#[]⟩, .int .i64 0, .int .i64 0, .slice none 0 0] 36)).heap.size ≤ g) hin
        have HIN := Lib.hid (show ReqIn (fun g => False ∨ (((w.alloc (.cells #[.int .i64 0, .string ⟨#[]⟩, .int .i64 0, .int .i64 0, .int .i64 0, .bool false, .int .i64 0, .int .i64 0, .int .i64 0, .int .i64 0, .int .i64 0, .slice none 0 0, .int .i64 0, .string ⟨#[]⟩, .string ⟨#[]⟩, .slice none 0 0, .string ⟨#[]⟩, .int .i64 0, .int .i64 0, .slice none 0 0] 36)).alloc (.cells #[.string (str l), .int .i64 0, .bool true, .bool false] 108)).alloc (.cells #[.int .i64 0, .string ⟨#[]⟩, .int .i64 0, .int .i64 0, .int .i64 0, .bool false, .int .i64 0, .int .i64 0, .int .i64 0, .int .i64 0, .int .i64 0, .slice none 0 0, .int .i64 0, .string ⟨#[]⟩, .string ⟨#[]⟩, .slice none 0 0, .string ⟨#[]⟩, .int .i64 0, .int .i64 0, .slice none 0 0] 36)).heap.size ≤ g) w1 q _ _ _ from hin)
        have hqb := hd.qb
        have HRA := Lib.hid (rng_req hqb)
        have HTH := Lib.hid (there_req (q' := q) (x := .slice s1 n1 p1) (y := .slice s2 n2 p2) (z := .slice s3 n3 p3) hqb)
        have HQ2 := Lib.hid (setCells_req (q' := q) (x := .slice s1 n1 p1) (y := .slice s2 n2 p2) (z := .slice s3 n3 p3) hqb)
        have HLV := Lib.hid (run_loadVar_mid (P := Tryd.prog) _ w.heap.size 0 36 (reqList q (.slice s1 n1 p1) (.slice s2 n2 p2) (.slice s3 n3 p3)) _ (rng_req HQ2.out) Tryd.underlying36 rfl size_req)
        clear hd hcc hin D1 hqb
        go_upto_region 6 with fail
        refine wp_region_lit ?_
        refine wpList_load_mid (by rfl) 36 (.tmp 4) (by rfl) w.heap.size 0 (by rfl) (reqList q (.slice s1 n1 p1) (.slice s2 n2 p2) (.slice s3 n3 p3)) _ HRA.out Tryd.underlying36 (by rfl) size_req ?_
        simp only [Act.put, List.setIfInBounds_toArray, List.set_cons_zero, List.set_cons_succ]
        refine wpList_store_mid (by rfl) 36 (.tmp 4) (.tmp 33) (by rfl) w.heap.size 0 (reqCells q (.slice s1 n1 p1) (.slice s2 n2 p2) (.slice s3 n3 p3)) (by rfl) (by rfl) HTH.out size_req' one_req ?_
        generalize hW : w1.setCells w.heap.size 0 (reqCells q (.slice s1 n1 p1) (.slice s2 n2 p2) (.slice s3 n3 p3)).toList = W at *
        go_wp2_with fail
        have hlv := HLV.out
        refine bodyPost_ret (v := .tuple #[reqV q (.slice s1 n1 p1) (.slice s2 n2 p2) (.slice s3 n3 p3), .int .i64 0]) (results_cell2 rfl rfl rfl hlv) rfl ?_
        subst hW
        rw [HE.out]
        refine ⟨_, _, _, rfl, ReqIn.move (fun g hg hlt => ⟨?_, ?_⟩) HIN.out, Keeps.setCells (Nat.le_refl _) _ 0 (HD.out.two.keeps HK2.out (Nat.le_succ _) (Nat.le_refl _))⟩
        · rcases hg with hg | hg
          · exact hg.elim
          · simp only [World.size_alloc] at hg; omega
        · rcases hg with hg | hg
          · exact hg.elim
          · simp only [World.size_alloc] at hg
            exact (Two.setCells2 (c := w.heap.size + 1) _ 0 (Two.refl (w.heap.size + 1) w.heap.size w1)).block g hlt (by omega) (by omega)
      · have d3 : decide (60000 < (l.length : Int)) = true := by simp; omega
        have HE := Lib.hid (hif.trans (if_neg (fun h => h3 h.2.2)))
        clear hif h1 h2 h3
        go_enter Tryd.func38, Tryd.ntmps38
        go_wp2_with fail
        refine DO.out.mono ?_
        rintro e w1 ⟨a, b, c, rfl, hd, hin⟩
        have hcc : Blk w1 (w.heap.size + 1) 108 (cdc l st.1 true (decide (st.2 ≠ 0))) := hd.cb
        rw [D1.out] at hcc
        obtain ⟨⟨x0, x1, x2, x3⟩, -⟩ := hcc.cdc
        have HD := Lib.hid hd
        have hqb := hd.qb
        have hnb := HB2.out.two hd.two (by omega) (by omega)
        have HRA := Lib.hid (rng_req hnb)
        have HTH := Lib.hid (there_req (q' := Req.none) (x := .slice none 0 0) (y := .slice none 0 0) (z := .slice none 0 0) hqb)
        have HQ2 := Lib.hid (setCells_req (q' := Req.none) (x := .slice none 0 0) (y := .slice none 0 0) (z := .slice none 0 0) hqb)
        have HLV := Lib.hid (run_loadVar_mid (P := Tryd.prog) _ w.heap.size 0 36 (reqList Req.none (.slice none 0 0) (.slice none 0 0) (.slice none 0 0)) _ (rng_req HQ2.out) Tryd.underlying36 rfl size_req)
        clear hd hcc hin D1 hqb hnb
        go_upto_region 5 with fail
        refine wp_region_lit ?_
        refine wpList_load_mid (by rfl) 36 (.tmp 7) (by rfl) (w.heap.size + 1 + 1) 0 (by rfl) (reqList Req.none (.slice none 0 0) (.slice none 0 0) (.slice none 0 0)) _ HRA.out Tryd.underlying36 (by rfl) size_req ?_
        simp only [Act.put, List.setIfInBounds_toArray, List.set_cons_zero, List.set_cons_succ]
        refine wpList_store_mid (by rfl) 36 (.tmp 4) (.tmp 32) (by rfl) w.heap.size 0 (reqCells Req.none (.slice none 0 0) (.slice none 0 0) (.slice none 0 0)) (by rfl) (by rfl) HTH.out size_req' one_req ?_
        generalize hW : w1.setCells w.heap.size 0 (reqCells Req.none (.slice none 0 0) (.slice none 0 0) (.slice none 0 0)).toList = W at *
        go_wp2_with fail
        have hlv := HLV.out
        refine bodyPost_ret (v := .tuple #[reqV Req.none (.slice none 0 0) (.slice none 0 0) (.slice none 0 0), .int .i64 3]) (results_cell2 rfl rfl rfl hlv) rfl ?_
        subst hW
        rw [HE.out]
        exact ⟨_, _, _, rfl, ReqIn.nil _ _, Keeps.setCells (Nat.le_refl _) _ 0 (HD.out.two.keeps HK2.out (Nat.le_succ _) (Nat.le_refl _))⟩
    · have d2 : (st.1 != (l.length : Int)) = true := by simpa using h2
      have HE := Lib.hid (hif.trans (if_neg (fun h => h2 h.2.1)))
      clear hif h1 h2
      go_enter Tryd.func38, Tryd.ntmps38
      go_wp2_with fail
      refine DO.out.mono ?_
      rintro e w1 ⟨a, b, c, rfl, hd, hin⟩
      have hcc : Blk w1 (w.heap.size + 1) 108 (cdc l st.1 true (decide (st.2 ≠ 0))) := hd.cb
      rw [D1.out] at hcc
      obtain ⟨⟨x0, x1, x2, x3⟩, -⟩ := hcc.cdc
      have HD := Lib.hid hd
      have hqb := hd.qb
      have hnb := HB2.out.two hd.two (by omega) (by omega)
      have HRA := Lib.hid (rng_req hnb)
      have HTH := Lib.hid (there_req (q' := Req.none) (x := .slice none 0 0) (y := .slice none 0 0) (z := .slice none 0 0) hqb)
      have HQ2 := Lib.hid (setCells_req (q' := Req.none) (x := .slice none 0 0) (y := .slice none 0 0) (z := .slice none 0 0) hqb)
      have HLV := Lib.hid (run_loadVar_mid (P := Tryd.prog) _ w.heap.size 0 36 (reqList Req.none (.slice none 0 0) (.slice none 0 0) (.slice none 0 0)) _ (rng_req HQ2.out) Tryd.underlying36 rfl size_req)
      clear hd hcc hin D1 hqb hnb
      go_upto_region 5 with fail
      refine wp_region_lit ?_
      refine wpList_load_mid (by rfl) 36 (.tmp 7) (by rfl) (w.heap.size + 1 + 1) 0 (by rfl) (reqList Req.none (.slice none 0 0) (.slice none 0 0) (.slice none 0 0)) _ HRA.out Tryd.underlying36 (by rfl) size_req ?_
      simp only [Act.put, List.setIfInBounds_toArray, List.set_cons_zero, List.set_cons_succ]
      refine wpList_store_mid (by rfl) 36 (.tmp 4) (.tmp 32) (by rfl) w.heap.size 0 (reqCells Req.none (.slice none 0 0) (.slice none 0 0) (.slice none 0 0)) (by rfl) (by rfl) HTH.out size_req' one_req ?_
      generalize hW : w1.setCells w.heap.size 0 (reqCells Req.none (.slice none 0 0) (.slice none 0 0) (.slice none 0 0)).toList = W at *
      go_wp2_with fail
      have hlv := HLV.out
      refine bodyPost_ret (v := .tuple #[reqV Req.none (.slice none 0 0) (.slice none 0 0) (.slice none 0 0), .int .i64 3]) (results_cell2 rfl rfl rfl hlv) rfl ?_
      subst hW
      rw [HE.out]
      exact ⟨_, _, _, rfl, ReqIn.nil _ _, Keeps.setCells (Nat.le_refl _) _ 0 (HD.out.two.keeps HK2.out (Nat.le_succ _) (Nat.le_refl _))⟩
  · have D1 := Lib.hid (show decide (st.2 ≠ 0) = true by simpa using h1)
    have HE := Lib.hid (hif.trans (if_neg (fun h => h1 h.1)))
    clear hif h1
    go_enter Tryd.func38, Tryd.ntmps38
    go_wp2_with fail
    refine DO.out.mono ?_
    rintro e w1 ⟨a, b, c, rfl, hd, hin⟩
    have hcc : Blk w1 (w.heap.size + 1) 108 (cdc l st.1 true (decide (st.2 ≠ 0))) := hd.cb
    rw [D1.out] at hcc
    obtain ⟨⟨x0, x1, x2, x3⟩, -⟩ := hcc.cdc
    have HD := Lib.hid hd
    have hqb := hd.qb
    have hnb := HB2.out.two hd.two (by omega) (by omega)
    have HRA := Lib.hid (rng_req hnb)
    have HTH := Lib.hid (there_req (q' := Req.none) (x := .slice none 0 0) (y := .slice none 0 0) (z := .slice none 0 0) hqb)
    have HQ2 := Lib.hid (setCells_req (q' := Req.none) (x := .slice none 0 0) (y := .slice none 0 0) (z := .slice none 0 0) hqb)
    have HLV := Lib.hid (run_loadVar_mid (P := Tryd.prog) _ w.heap.size 0 36 (reqList Req.none (.slice none 0 0) (.slice none 0 0) (.slice none 0 0)) _ (rng_req HQ2.out) Tryd.underlying36 rfl size_req)
    clear hd hcc hin D1 hqb hnb
    go_upto_region 5 with fail
    refine wp_region_lit ?_
    refine wpList_load_mid (by rfl) 36 (.tmp 7) (by rfl) (w.heap.size + 1 + 1) 0 (by rfl) (reqList Req.none (.slice none 0 0) (.slice none 0 0) (.slice none 0 0)) _ HRA.out Tryd.underlying36 (by rfl) size_req ?_
    simp only [Act.put, List.setIfInBounds_toArray, List.set_cons_zero, List.set_cons_succ]
    refine wpList_store_mid (by rfl) 36 (.tmp 4) (.tmp 32) (by rfl) w.heap.size 0 (reqCells Req.none (.slice none 0 0) (.slice none 0 0) (.slice none 0 0)) (by rfl) (by rfl) HTH.out size_req' one_req ?_
    generalize hW : w1.setCells w.heap.size 0 (reqCells Req.none (.slice none 0 0) (.slice none 0 0) (.slice none 0 0)).toList = W at *
    go_wp2_with fail
    have hlv := HLV.out
    refine bodyPost_ret (v := .tuple #[reqV Req.none (.slice none 0 0) (.slice none 0 0) (.slice none 0 0), .int .i64 3]) (results_cell2 rfl rfl rfl hlv) rfl ?_
    subst hW
    rw [HE.out]
    exact ⟨_, _, _, rfl, ReqIn.nil _ _, Keeps.setCells (Nat.le_refl _) _ 0 (HD.out.two.keeps HK2.out (Nat.le_succ _) (Nat.le_refl _))⟩


/-- what Read leaves -/
def RepRet (g : Rep × Int) (w : World) (e : Ending) (w' : World) : Prop := ∃ a b c, e = .returned (.tuple #[repV g.1 a b c, .int .i64 g.2]) ∧ RepIn (fun i => w.heap.size ≤ i) w' g.1 a b c ∧ Keeps w w'

set_option maxRecDepth 8000 in
set_option maxHeartbeats 800000 in
theorem rd_rep (l : List UInt8) (hl : l.length ≤ 2 ^ 62) (w : World) (ht : Tab w) :
    Calls Tryd.prog 45 #[.string (str l), .func (.func 43) #[] #[]] w (RepRet (Rep.dec l) w) := by
  have htl := ht.lt
  have hif := Rep.dec_if l
  have HK0 := Lib.hid ((Keeps.refl w).alloc (.cells #[.int .i64 0, .int .i64 0, .int .i64 0, .int .i64 0, .int .i64 0, .int .i64 0, .int .i64 0, .slice none 0 0, .slice none 0 0, .slice none 0 0] 54))
  have HK1 := Lib.hid (HK0.out.alloc (.cells #[.string (str l), .int .i64 0, .bool true, .bool false] 108))
  have HK2 := Lib.hid (HK1.out.alloc (.cells #[.int .i64 0, .int .i64 0, .int .i64 0, .int .i64 0, .int .i64 0, .int .i64 0, .int .i64 0, .slice none 0 0, .slice none 0 0, .slice none 0 0] 54))
  have hb0 := ((Blk.new w 54 #[.int .i64 0, .int .i64 0, .int .i64 0, .int .i64 0, .int .i64 0, .int .i64 0, .int .i64 0, .slice none 0 0, .slice none 0 0, .slice none 0 0]).keeps ((Keeps.refl (w.alloc (.cells #[.int .i64 0, .int .i64 0, .int .i64 0, .int .i64 0, .int .i64 0, .int .i64 0, .int .i64 0, .slice none 0 0, .slice none 0 0, .slice none 0 0] 54))).alloc (.cells #[.string (str l), .int .i64 0, .bool true, .bool false] 108))).keeps ((Keeps.refl ((w.alloc (.cells #[.int .i64 0, .int .i64 0, .int .i64 0, .int .i64 0, .int .i64 0, .int .i64 0, .int .i64 0, .slice none 0 0, .slice none 0 0, .slice none 0 0] 54)).alloc (.cells #[.string (str l), .int .i64 0, .bool true, .bool false] 108))).alloc (.cells #[.int .i64 0, .int .i64 0, .int .i64 0, .int .i64 0, .int .i64 0, .int .i64 0, .int .i64 0, .slice none 0 0, .slice none 0 0, .slice none 0 0] 54))
  have hb1 := (Blk.new (w.alloc (.cells #[.int .i64 0, .int .i64 0, .int .i64 0, .int .i64 0, .int .i64 0, .int .i64 0, .int .i64 0, .slice none 0 0, .slice none 0 0, .slice none 0 0] 54)) 108 #[.string (str l), .int .i64 0, .bool true, .bool false]).keeps ((Keeps.refl ((w.alloc (.cells #[.int .i64 0, .int .i64 0, .int .i64 0, .int .i64 0, .int .i64 0, .int .i64 0, .int .i64 0, .slice none 0 0, .slice none 0 0, .slice none 0 0] 54)).alloc (.cells #[.string (str l), .int .i64 0, .bool true, .bool false] 108))).alloc (.cells #[.int .i64 0, .int .i64 0, .int .i64 0, .int .i64 0, .int .i64 0, .int .i64 0, .int .i64 0, .slice none 0 0, .slice none 0 0, .slice none 0 0] 54))
  have hb2 := Blk.new ((w.alloc (.cells #[.int .i64 0, .int .i64 0, .int .i64 0, .int .i64 0, .int .i64 0, .int .i64 0, .int .i64 0, .slice none 0 0, .slice none 0 0, .slice none 0 0] 54)).alloc (.cells #[.string (str l), .int .i64 0, .bool true, .bool false] 108)) 54 #[.int .i64 0, .int .i64 0, .int .i64 0, .int .i64 0, .int .i64 0, .int .i64 0, .int .i64 0, .slice none 0 0, .slice none 0 0, .slice none 0 0]
  rw [World.size_alloc] at hb1
  rw [World.size_alloc, World.size_alloc] at hb2
  have HB0 := Lib.hid (show Blk (((w.alloc (.cells #[.int .i64 0, .int .i64 0, .int .i64 0, .int .i64 0, .int .i64 0, .int .i64 0, .int .i64 0, .slice none 0 0, .slice none 0 0, .slice none 0 0] 54)).alloc (.cells #[.string (str l), .int .i64 0, .bool true, .bool false] 108)).alloc (.cells #[.int .i64 0, .int .i64 0, .int .i64 0, .int .i64 0, .int .i64 0, .int .i64 0, .int .i64 0, .slice none 0 0, .slice none 0 0, .slice none 0 0] 54)) w.heap.size 54 (repCells Rep.none (.slice none 0 0) (.slice none 0 0) (.slice none 0 0)) from hb0)
  have HB1 := Lib.hid (show Blk (((w.alloc (.cells #[.int .i64 0, .int .i64 0, .int .i64 0, .int .i64 0, .int .i64 0, .int .i64 0, .int .i64 0, .slice none 0 0, .slice none 0 0, .slice none 0 0] 54)).alloc (.cells #[.string (str l), .int .i64 0, .bool true, .bool false] 108)).alloc (.cells #[.int .i64 0, .int .i64 0, .int .i64 0, .int .i64 0, .int .i64 0, .int .i64 0, .int .i64 0, .slice none 0 0, .slice none 0 0, .slice none 0 0] 54)) (w.heap.size + 1) 108 (Cs.rd l (0, 0)).cells from hb1)
  have HB2 := Lib.hid (show Blk (((w.alloc (.cells #[.int .i64 0, .int .i64 0, .int .i64 0, .int .i64 0, .int .i64 0, .int .i64 0, .int .i64 0, .slice none 0 0, .slice none 0 0, .slice none 0 0] 54)).alloc (.cells #[.string (str l), .int .i64 0, .bool true, .bool false] 108)).alloc (.cells #[.int .i64 0, .int .i64 0, .int .i64 0, .int .i64 0, .int .i64 0, .int .i64 0, .int .i64 0, .slice none 0 0, .slice none 0 0, .slice none 0 0] 54)) (w.heap.size + 1 + 1) 54 (repCells Rep.none (.slice none 0 0) (.slice none 0 0) (.slice none 0 0)) from hb2)
  have hnil := RepIn.nil (fun _ => False) (((w.alloc (.cells #[.int .i64 0, .int .i64 0, .int .i64 0, .int .i64 0, .int .i64 0, .int .i64 0, .int .i64 0, .slice none 0 0, .slice none 0 0, .slice none 0 0] 54)).alloc (.cells #[.string (str l), .int .i64 0, .bool true, .bool false] 108)).alloc (.cells #[.int .i64 0, .int .i64 0, .int .i64 0, .int .i64 0, .int .i64 0, .int .i64 0, .int .i64 0, .slice none 0 0, .slice none 0 0, .slice none 0 0] 54))
  have DO := cd_rep 0 (by decide) (Cs.rd l (0, 0)) ⟨hl, by unfold Rd.Fine; simp⟩ Rep.none RepB.none (.slice none 0 0) (.slice none 0 0) (.slice none 0 0) (fun _ => False) (w.heap.size + 1) w.heap.size (fun g h => h.elim) (by omega) _ hnil.1 hnil.2.1 hnil.2.2 (fun _ => ⟨rfl, rfl, rfl, rfl⟩) (ht.keeps HK2.out) (by omega) (by omega) HB1.out HB0.out
  rw [Cs.rep_rd] at DO
  obtain ⟨⟨q, st⟩, hq⟩ : ∃ r, Rd.rr l = r := ⟨_, rfl⟩
  rw [hq] at hif DO
  simp only at hif DO
  have DO := Lib.hid DO
  have hz := str_size l
  have hne : ¬ w.heap.size + 1 = w.heap.size := by omega
  have hne2 : ¬ w.heap.size + 1 + 1 = w.heap.size := by omega
  have hne3 : ¬ w.heap.size + 1 + 1 = w.heap.size + 1 := by omega
  clear hb0 hb1 hb2 hq hl ht hnil
  by_cases h1 : st.2 = 0
  · have D1 := Lib.hid (show decide (st.2 ≠ 0) = false by simpa using h1)
    by_cases h2 : st.1 = (l.length : Int)
    · have d2 : (st.1 != (l.length : Int)) = false := by simpa using h2
      by_cases h3 : l.length ≤ 60000
      · have d3 : decide (60000 < (l.length : Int)) = false := by simp; omega
        have HE := Lib.hid (hif.trans (if_pos ⟨h1, h2, h3⟩))
        clear hif h1 h2 h3
        go_enter Tryd.func45, Tryd.ntmps45
        go_wp2_with fail
        refine DO.out.mono ?_
        rintro e w1 ⟨a, b, c, rfl, hd, hin⟩
        have hcc : Blk w1 (w.heap.size + 1) 108 (cdc l st.1 true (decide (st.2 ≠ 0))) := hd.cb
        rw [D1.out] at hcc
        obtain ⟨⟨x0, x1, x2, x3⟩, -⟩ := hcc.cdc
        have HD := Lib.hid hd
        obtain ⟨s1, n1, p1, s2, n2, p2, s3, n3, p3, rfl, rfl, rfl⟩ := RepIn.form (S := fun g => False ∨ (((w.alloc (.cells #[.int .i64 0, .int .i64 0, .int .i64 0, .int .i64 0, .int .i64 0, .int .i64 0, .int .i64 0, .slice none 0 0, .slice none 0 0, .slice none 0 0] 54)).alloc (.cells #[.string (str l), .int .i64 0, .bool true, .bool false] 108)).alloc (.cells #[.int .i64 0, .int .i64 0, .int .i64 0, .int .i64 0, .int .i64 0, .int .i64 0, .int .i64 0, .slice none 0 0, .slice none 0 0, .slice none 0 0] 54)).heap.size ≤ g) hin
        have HIN := Lib.hid (show RepIn (fun g => False ∨ (((w.alloc (.cells #[.int .i64 0, .int .i64 0, .int .i64 0, .int .i64 0, .int .i64 0, .int .i64 0, .int .i64 0, .slice none 0 0, .slice none 0 0, .slice none 0 0] 54)).alloc (.cells #[.string (str l), .int .i64 0, .bool true, .bool false] 108)).alloc (.cells #[.int .i64 0, .int .i64 0, .int .i64 0, .int .i64 0, .int .i64 0, .int .i64 0, .int .i64 0, .slice none 0 0, .slice none 0 0, .slice none 0 0] 54)).heap.size ≤ g) w1 q _ _ _ from hin)
        have hqb := hd.qb
        have HRA := Lib.hid (rng_rep hqb)
        have HTH := Lib.hid (there_rep (q' := q) (x := .slice s1 n1 p1) (y := .slice s2 n2 p2) (z := .slice s3 n3 p3) hqb)
        have HQ2 := Lib.hid (setCells_rep (q' := q) (x := .slice s1 n1 p1) (y := .slice s2 n2 p2) (z := .slice s3 n3 p3) hqb)
        have HLV := Lib.hid (run_loadVar_mid (P := Tryd.prog) _ w.heap.size 0 54 (repList q (.slice s1 n1 p1) (.slice s2 n2 p2) (.slice s3 n3 p3)) _ (rng_rep HQ2.out) Tryd.underlying54 rfl size_rep)
        clear hd hcc hin D1 hqb
        go_upto_region 6 with fail
        refine wp_region_lit ?_
        refine wpList_load_mid (by rfl) 54 (.tmp 4) (by rfl) w.heap.size 0 (by rfl) (repList q (.slice s1 n1 p1) (.slice s2 n2 p2) (.slice s3 n3 p3)) _ HRA.out Tryd.underlying54 (by rfl) size_rep ?_
        simp only [Act.put, List.setIfInBounds_toArray, List.set_cons_zero, List.set_cons_succ]
        refine wpList_store_mid (by rfl) 54 (.tmp 4) (.tmp 33) (by rfl) w.heap.size 0 (repCells q (.slice s1 n1 p1) (.slice s2 n2 p2) (.slice s3 n3 p3)) (by rfl) (by rfl) HTH.out size_rep' one_rep ?_
        generalize hW : w1.setCells w.heap.size 0 (repCells q (.slice s1 n1 p1) (.slice s2 n2 p2) (.slice s3 n3 p3)).toList = W at *
        go_wp2_with fail
        have hlv := HLV.out
        refine bodyPost_ret (v := .tuple #[repV q (.slice s1 n1 p1) (.slice s2 n2 p2) (.slice s3 n3 p3), .int .i64 0]) (results_cell2 rfl rfl rfl hlv) rfl ?_
        subst hW
        rw [HE.out]
        refine ⟨_, _, _, rfl, RepIn.move (fun g hg hlt => ⟨?_, ?_⟩) HIN.out, Keeps.setCells (Nat.le_refl _) _ 0 (HD.out.two.keeps HK2.out (Nat.le_succ _) (Nat.le_refl _))⟩
        · rcases hg with hg | hg
          · exact hg.elim
          · simp only [World.size_alloc] at hg; omega
        · rcases hg with hg | hg
          · exact hg.elim
          · simp only [World.size_alloc] at hg
            exact (Two.setCells2 (c := w.heap.size + 1) _ 0 (Two.refl (w.heap.size + 1) w.heap.size w1)).block g hlt (by omega) (by omega)
      · have d3 : decide (60000 < (l.length : Int)) = true := by simp; omega
        have HE := Lib.hid (hif.trans (if_neg (fun h => h3 h.2.2)))
        clear hif h1 h2 h3
        go_enter Tryd.func45, Tryd.ntmps45
        go_wp2_with fail
        refine DO.out.mono ?_
        rintro e w1 ⟨a, b, c, rfl, hd, hin⟩
        have hcc : Blk w1 (w.heap.size + 1) 108 (cdc l st.1 true (decide (st.2 ≠ 0))) := hd.cb
        rw [D1.out] at hcc
        obtain ⟨⟨x0, x1, x2, x3⟩, -⟩ := hcc.cdc
        have HD := Lib.hid hd
        have hqb := hd.qb
        have hnb := HB2.out.two hd.two (by omega) (by omega)
        have HRA := Lib.hid (rng_rep hnb)
        have HTH := Lib.hid (there_rep (q' := Rep.none) (x := .slice none 0 0) (y := .slice none 0 0) (z := .slice none 0 0) hqb)
        have HQ2 := Lib.hid (setCells_rep (q' := Rep.none) (x := .slice none 0 0) (y := .slice none 0 0) (z := .slice none 0 0) hqb)
        have HLV := Lib.hid (run_loadVar_mid (P := Tryd.prog) _ w.heap.size 0 54 (repList Rep.none (.slice none 0 0) (.slice none 0 0) (.slice none 0 0)) _ (rng_rep HQ2.out) Tryd.underlying54 rfl size_rep)
        clear hd hcc hin D1 hqb hnb
        go_upto_region 5 with fail
        refine wp_region_lit ?_
        refine wpList_load_mid (by rfl) 54 (.tmp 7) (by rfl) (w.heap.size + 1 + 1) 0 (by rfl) (repList Rep.none (.slice none 0 0) (.slice none 0 0) (.slice none 0 0)) _ HRA.out Tryd.underlying54 (by rfl) size_rep ?_
        simp only [Act.put, List.setIfInBounds_toArray, List.set_cons_zero, List.set_cons_succ]
        refine wpList_store_mid (by rfl) 54 (.tmp 4) (.tmp 32) (by rfl) w.heap.size 0 (repCells Rep.none (.slice none 0 0) (.slice none 0 0) (.slice none 0 0)) (by rfl) (by rfl) HTH.out size_rep' one_rep ?_
        generalize hW : w1.setCells w.heap.size 0 (repCells Rep.none (.slice none 0 0) (.slice none 0 0) (.slice none 0 0)).toList = W at *
        go_wp2_with fail
        have hlv := HLV.out
        refine bodyPost_ret (v := .tuple #[repV Rep.none (.slice none 0 0) (.slice none 0 0) (.slice none 0 0), .int .i64 3]) (results_cell2 rfl rfl rfl hlv) rfl ?_
        subst hW
        rw [HE.out]
        exact ⟨_, _, _, rfl, RepIn.nil _ _, Keeps.setCells (Nat.le_refl _) _ 0 (HD.out.two.keeps HK2.out (Nat.le_succ _) (Nat.le_refl _))⟩
    · have d2 : (st.1 != (l.length : Int)) = true := by simpa using h2
      have HE := Lib.hid (hif.trans (if_neg (fun h => h2 h.2.1)))
      clear hif h1 h2
      go_enter Tryd.func45, Tryd.ntmps45
      go_wp2_with fail
      refine DO.out.mono ?_
      rintro e w1 ⟨a, b, c, rfl, hd, hin⟩
      have hcc : Blk w1 (w.heap.size + 1) 108 (cdc l st.1 true (decide (st.2 ≠ 0))) := hd.cb
      rw [D1.out] at hcc
      obtain ⟨⟨x0, x1, x2, x3⟩, -⟩ := hcc.cdc
      have HD := Lib.hid hd
      have hqb := hd.qb
      have hnb := HB2.out.two hd.two (by omega) (by omega)
      have HRA := Lib.hid (rng_rep hnb)
      have HTH := Lib.hid (there_rep (q' := Rep.none) (x := .slice none 0 0) (y := .slice none 0 0) (z := .slice none 0 0) hqb)
      have HQ2 := Lib.hid (setCells_rep (q' := Rep.none) (x := .slice none 0 0) (y := .slice none 0 0) (z := .slice none 0 0) hqb)
      have HLV := Lib.hid (run_loadVar_mid (P := Tryd.prog) _ w.heap.size 0 54 (repList Rep.none (.slice none 0 0) (.slice none 0 0) (.slice none 0 0)) _ (rng_rep HQ2.out) Tryd.underlying54 rfl size_rep)
      clear hd hcc hin D1 hqb hnb
      go_upto_region 5 with fail
      refine wp_region_lit ?_
      refine wpList_load_mid (by rfl) 54 (.tmp 7) (by rfl) (w.heap.size + 1 + 1) 0 (by rfl) (repList Rep.none (.slice none 0 0) (.slice none 0 0) (.slice none 0 0)) _ HRA.out Tryd.underlying54 (by rfl) size_rep ?_
      simp only [Act.put, List.setIfInBounds_toArray, List.set_cons_zero, List.set_cons_succ]
      refine wpList_store_mid (by rfl) 54 (.tmp 4) (.tmp 32) (by rfl) w.heap.size 0 (repCells Rep.none (.slice none 0 0) (.slice none 0 0) (.slice none 0 0)) (by rfl) (by rfl) HTH.out size_rep' one_rep ?_
      generalize hW : w1.setCells w.heap.size 0 (repCells Rep.none (.slice none 0 0) (.slice none 0 0) (.slice none 0 0)).toList = W at *
      go_wp2_with fail
      have hlv := HLV.out
      refine bodyPost_ret (v := .tuple #[repV Rep.none (.slice none 0 0) (.slice none 0 0) (.slice none 0 0), .int .i64 3]) (results_cell2 rfl rfl rfl hlv) rfl ?_
      subst hW
      rw [HE.out]
      exact ⟨_, _, _, rfl, RepIn.nil _ _, Keeps.setCells (Nat.le_refl _) _ 0 (HD.out.two.keeps HK2.out (Nat.le_succ _) (Nat.le_refl _))⟩
  · have D1 := Lib.hid (show decide (st.2 ≠ 0) = true by simpa using h1)
    have HE := Lib.hid (hif.trans (if_neg (fun h => h1 h.1)))
    clear hif h1
    go_enter Tryd.func45, Tryd.ntmps45
    go_wp2_with fail
    refine DO.out.mono ?_
    rintro e w1 ⟨a, b, c, rfl, hd, hin⟩
    have hcc : Blk w1 (w.heap.size + 1) 108 (cdc l st.1 true (decide (st.2 ≠ 0))) := hd.cb
    rw [D1.out] at hcc
    obtain ⟨⟨x0, x1, x2, x3⟩, -⟩ := hcc.cdc
    have HD := Lib.hid hd
    have hqb := hd.qb
    have hnb := HB2.out.two hd.two (by omega) (by omega)
    have HRA := Lib.hid (rng_rep hnb)
    have HTH := Lib.hid (there_rep (q' := Rep.none) (x := .slice none 0 0) (y := .slice none 0 0) (z := .slice none 0 0) hqb)
    have HQ2 := Lib.hid (setCells_rep (q' := Rep.none) (x := .slice none 0 0) (y := .slice none 0 0) (z := .slice none 0 0) hqb)
    have HLV := Lib.hid (run_loadVar_mid (P := Tryd.prog) _ w.heap.size 0 54 (repList Rep.none (.slice none 0 0) (.slice none 0 0) (.slice none 0 0)) _ (rng_rep HQ2.out) Tryd.underlying54 rfl size_rep)
    clear hd hcc hin D1 hqb hnb
    go_upto_region 5 with fail
    refine wp_region_lit ?_
    refine wpList_load_mid (by rfl) 54 (.tmp 7) (by rfl) (w.heap.size + 1 + 1) 0 (by rfl) (repList Rep.none (.slice none 0 0) (.slice none 0 0) (.slice none 0 0)) _ HRA.out Tryd.underlying54 (by rfl) size_rep ?_
    simp only [Act.put, List.setIfInBounds_toArray, List.set_cons_zero, List.set_cons_succ]
    refine wpList_store_mid (by rfl) 54 (.tmp 4) (.tmp 32) (by rfl) w.heap.size 0 (repCells Rep.none (.slice none 0 0) (.slice none 0 0) (.slice none 0 0)) (by rfl) (by rfl) HTH.out size_rep' one_rep ?_
    generalize hW : w1.setCells w.heap.size 0 (repCells Rep.none (.slice none 0 0) (.slice none 0 0) (.slice none 0 0)).toList = W at *
    go_wp2_with fail
    have hlv := HLV.out
    refine bodyPost_ret (v := .tuple #[repV Rep.none (.slice none 0 0) (.slice none 0 0) (.slice none 0 0), .int .i64 3]) (results_cell2 rfl rfl rfl hlv) rfl ?_
    subst hW
    rw [HE.out]
    exact ⟨_, _, _, rfl, RepIn.nil _ _, Keeps.setCells (Nat.le_refl _) _ 0 (HD.out.two.keeps HK2.out (Nat.le_succ _) (Nat.le_refl _))⟩

end Go.Proofs.YtgbnpehpfadehaaDoor

namespace Go.Proofs.YtgbnpehpfadehaaDoor
open Go.RowKit


set_option maxRecDepth 8000 in
set_option maxHeartbeats 800000 in
theorem wire_Decode (l : List UInt8) (hl : l.length ≤ 2 ^ 62) (w : World) (ht : Tab w) :
    Calls Tryd.prog 17 #[.string (str l)] w (ReqRet (Req.dec l) w) := by
  have RD := Lib.hid (fun w' ht => rd_req l hl w' ht)
  have HK0 := Lib.hid ((Keeps.refl w).alloc (.cells #[.int .i64 0, .string ⟨#[]⟩, .int .i64 0, .int .i64 0, .int .i64 0, .bool false, .int .i64 0, .int .i64 0, .int .i64 0, .int .i64 0, .int .i64 0, .slice none 0 0, .int .i64 0, .string ⟨#[]⟩, .string ⟨#[]⟩, .slice none 0 0, .string ⟨#[]⟩, .int .i64 0, .int .i64 0, .slice none 0 0] 36))
  have HB0 := Lib.hid (show Blk (w.alloc (.cells #[.int .i64 0, .string ⟨#[]⟩, .int .i64 0, .int .i64 0, .int .i64 0, .bool false, .int .i64 0, .int .i64 0, .int .i64 0, .int .i64 0, .int .i64 0, .slice none 0 0, .int .i64 0, .string ⟨#[]⟩, .string ⟨#[]⟩, .slice none 0 0, .string ⟨#[]⟩, .int .i64 0, .int .i64 0, .slice none 0 0] 36)) w.heap.size 36 (reqCells Req.none (.slice none 0 0) (.slice none 0 0) (.slice none 0 0)) from Blk.new _ _ _)
  have HTB := Lib.hid (ht.keeps HK0.out)
  obtain ⟨⟨q, z⟩, hq⟩ : ∃ r, Req.dec l = r := ⟨_, rfl⟩
  rw [hq] at RD ⊢
  clear ht hl hq
  go_enter Tryd.func17, Tryd.ntmps17
  go_wp2_with fail
  refine (RD.out _ HTB.out).mono ?_
  rintro e w1 ⟨a, b, c, rfl, hin, hk⟩
  obtain ⟨s1, n1, p1, s2, n2, p2, s3, n3, p3, rfl, rfl, rfl⟩ := ReqIn.form (S := fun g => (w.alloc (.cells #[.int .i64 0, .string ⟨#[]⟩, .int .i64 0, .int .i64 0, .int .i64 0, .bool false, .int .i64 0, .int .i64 0, .int .i64 0, .int .i64 0, .int .i64 0, .slice none 0 0, .int .i64 0, .string ⟨#[]⟩, .string ⟨#[]⟩, .slice none 0 0, .string ⟨#[]⟩, .int .i64 0, .int .i64 0, .slice none 0 0] 36)).heap.size ≤ g) hin
  have hqb := HB0.out.keeps hk
  have HIN := Lib.hid (show ReqIn (fun g => (w.alloc (.cells #[.int .i64 0, .string ⟨#[]⟩, .int .i64 0, .int .i64 0, .int .i64 0, .bool false, .int .i64 0, .int .i64 0, .int .i64 0, .int .i64 0, .int .i64 0, .slice none 0 0, .int .i64 0, .string ⟨#[]⟩, .string ⟨#[]⟩, .slice none 0 0, .string ⟨#[]⟩, .int .i64 0, .int .i64 0, .slice none 0 0] 36)).heap.size ≤ g) w1 q _ _ _ from hin)
  have HTH := Lib.hid (there_req (q' := q) (x := .slice s1 n1 p1) (y := .slice s2 n2 p2) (z := .slice s3 n3 p3) hqb)
  have HQ2 := Lib.hid (setCells_req (q' := q) (x := .slice s1 n1 p1) (y := .slice s2 n2 p2) (z := .slice s3 n3 p3) hqb)
  have HLV := Lib.hid (run_loadVar_mid (P := Tryd.prog) _ w.heap.size 0 36 (reqList q (.slice s1 n1 p1) (.slice s2 n2 p2) (.slice s3 n3 p3)) _ (rng_req HQ2.out) Tryd.underlying36 rfl size_req)
  have HK := Lib.hid (HK0.out.trans hk)
  clear hqb hin hk
  rename_i hKK
  refine hKK _ _ ?_
  iterate 2
    refine wpList_plain (by rfl) fun _ hK => ?_
    go_simp
    refine hK _ _ ?_
    clear hK
  try simp only [Act.put, List.setIfInBounds_toArray, List.set_cons_zero, List.set_cons_succ]
  refine wpList_store_mid (by rfl) 36 (.tmp 2) (.tmp 6) (by rfl) w.heap.size 0 (reqCells q (.slice s1 n1 p1) (.slice s2 n2 p2) (.slice s3 n3 p3)) (by rfl) (by rfl) HTH.out size_req' one_req ?_
  generalize hW : w1.setCells w.heap.size 0 (reqCells q (.slice s1 n1 p1) (.slice s2 n2 p2) (.slice s3 n3 p3)).toList = W at *
  go_wp2_with fail
  have hlv := HLV.out
  refine bodyPost_ret (v := .tuple #[reqV q (.slice s1 n1 p1) (.slice s2 n2 p2) (.slice s3 n3 p3), .int .i64 z]) (results_cell2 rfl rfl rfl hlv) rfl ?_
  subst hW
  refine ⟨_, _, _, rfl, ReqIn.move (fun g hg hlt => ⟨?_, ?_⟩) HIN.out, Keeps.setCells (Nat.le_refl _) _ 0 HK.out⟩
  · simp only [World.size_alloc] at hg; omega
  · simp only [World.size_alloc] at hg
    exact (Two.setCells2 (c := w.heap.size) _ 0 (Two.refl w.heap.size w.heap.size w1)).block g hlt (by omega) (by omega)


set_option maxRecDepth 8000 in
set_option maxHeartbeats 800000 in
theorem wire_Read (l : List UInt8) (hl : l.length ≤ 2 ^ 62) (w : World) (ht : Tab w) :
    Calls Tryd.prog 24 #[.string (str l)] w (RepRet (Rep.dec l) w) := by
  have RD := Lib.hid (fun w' ht => rd_rep l hl w' ht)
  have HK0 := Lib.hid ((Keeps.refl w).alloc (.cells #[.int .i64 0, .int .i64 0, .int .i64 0, .int .i64 0, .int .i64 0, .int .i64 0, .int .i64 0, .slice none 0 0, .slice none 0 0, .slice none 0 0] 54))
  have HB0 := Lib.hid (show Blk (w.alloc (.cells #[.int .i64 0, .int .i64 0, .int .i64 0, .int .i64 0, .int .i64 0, .int .i64 0, .int .i64 0, .slice none 0 0, .slice none 0 0, .slice none 0 0] 54)) w.heap.size 54 (repCells Rep.none (.slice none 0 0) (.slice none 0 0) (.slice none 0 0)) from Blk.new _ _ _)
  have HTB := Lib.hid (ht.keeps HK0.out)
  obtain ⟨⟨q, z⟩, hq⟩ : ∃ r, Rep.dec l = r := ⟨_, rfl⟩
  rw [hq] at RD ⊢
  clear ht hl hq
  go_enter Tryd.func24, Tryd.ntmps24
  go_wp2_with fail
  refine (RD.out _ HTB.out).mono ?_
  rintro e w1 ⟨a, b, c, rfl, hin, hk⟩
  obtain ⟨s1, n1, p1, s2, n2, p2, s3, n3, p3, rfl, rfl, rfl⟩ := RepIn.form (S := fun g => (w.alloc (.cells #[.int .i64 0, .int .i64 0, .int .i64 0, .int .i64 0, .int .i64 0, .int .i64 0, .int .i64 0, .slice none 0 0, .slice none 0 0, .slice none 0 0] 54)).heap.size ≤ g) hin
  have hqb := HB0.out.keeps hk
  have HIN := Lib.hid (show RepIn (fun g => (w.alloc (.cells #[.int .i64 0, .int .i64 0, .int .i64 0, .int .i64 0, .int .i64 0, .int .i64 0, .int .i64 0, .slice none 0 0, .slice none 0 0, .slice none 0 0] 54)).heap.size ≤ g) w1 q _ _ _ from hin)
  have HTH := Lib.hid (there_rep (q' := q) (x := .slice s1 n1 p1) (y := .slice s2 n2 p2) (z := .slice s3 n3 p3) hqb)
  have HQ2 := Lib.hid (setCells_rep (q' := q) (x := .slice s1 n1 p1) (y := .slice s2 n2 p2) (z := .slice s3 n3 p3) hqb)
  have HLV := Lib.hid (run_loadVar_mid (P := Tryd.prog) _ w.heap.size 0 54 (repList q (.slice s1 n1 p1) (.slice s2 n2 p2) (.slice s3 n3 p3)) _ (rng_rep HQ2.out) Tryd.underlying54 rfl size_rep)
  have HK := Lib.hid (HK0.out.trans hk)
  clear hqb hin hk
  rename_i hKK
  refine hKK _ _ ?_
  iterate 2
    refine wpList_plain (by rfl) fun _ hK => ?_
    go_simp
    refine hK _ _ ?_
    clear hK
  try simp only [Act.put, List.setIfInBounds_toArray, List.set_cons_zero, List.set_cons_succ]
  refine wpList_store_mid (by rfl) 54 (.tmp 2) (.tmp 6) (by rfl) w.heap.size 0 (repCells q (.slice s1 n1 p1) (.slice s2 n2 p2) (.slice s3 n3 p3)) (by rfl) (by rfl) HTH.out size_rep' one_rep ?_
  generalize hW : w1.setCells w.heap.size 0 (repCells q (.slice s1 n1 p1) (.slice s2 n2 p2) (.slice s3 n3 p3)).toList = W at *
  go_wp2_with fail
  have hlv := HLV.out
  refine bodyPost_ret (v := .tuple #[repV q (.slice s1 n1 p1) (.slice s2 n2 p2) (.slice s3 n3 p3), .int .i64 z]) (results_cell2 rfl rfl rfl hlv) rfl ?_
  subst hW
  refine ⟨_, _, _, rfl, RepIn.move (fun g hg hlt => ⟨?_, ?_⟩) HIN.out, Keeps.setCells (Nat.le_refl _) _ 0 HK.out⟩
  · simp only [World.size_alloc] at hg; omega
  · simp only [World.size_alloc] at hg
    exact (Two.setCells2 (c := w.heap.size) _ 0 (Two.refl w.heap.size w.heap.size w1)).block g hlt (by omega) (by omega)

end Go.Proofs.YtgbnpehpfadehaaDoor
