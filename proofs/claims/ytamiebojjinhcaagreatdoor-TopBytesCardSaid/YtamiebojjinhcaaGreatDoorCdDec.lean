/-
  wire's Encode, Decode, Answer, Read: the walks.
  Requests loaded and stored whole: one rule each, for the walk.
  wire's Decode and Read: the walks.
  wire's Decode and Read: the walks.
-/
import Derived.Test.YtamiebojjinhcaaGreatDoorCdReq
import Derived.Test.YtamiebojjinhcaaGreatDoorCs
import Derived.Deep.MidRow
set_option linter.unusedVariables false
namespace Go.Proofs.YtamiebojjinhcaaGreatDoor
open Go.RowKit


/-- the machine's numbers, and texts of a size -/
def ReqB (q : Req) : Prop := ((-9223372036854775808 ≤ q.kind ∧ q.kind ≤ 9223372036854775807) ∧ (-9223372036854775808 ≤ q.index ∧ q.index ≤ 9223372036854775807) ∧ (-9223372036854775808 ≤ q.count ∧ q.count ≤ 9223372036854775807) ∧ (-9223372036854775808 ≤ q.from_ ∧ q.from_ ≤ 9223372036854775807) ∧ (-9223372036854775808 ≤ q.member ∧ q.member ≤ 9223372036854775807) ∧ (-9223372036854775808 ≤ q.gen ∧ q.gen ≤ 9223372036854775807)) ∧ q.name.length ≤ 2 ^ 48 ∧ q.group.length ≤ 2 ^ 48 ∧ ∀ x ∈ q.topics, x.length ≤ 2 ^ 48
def reqV (q : Req) (lv kv tv : Value) : Value := .agg (reqCells q lv kv tv)
/-- its slices in memory, all blocks in S -/
def ReqIn (S : Nat → Prop) (w : World) (q : Req) (lv kv tv : Value) : Prop := RsIn S w lv q.bat.recs ∧ KIn S w kv q.filter.kids ∧ Fl 1 tcell S w tv q.topics
theorem ReqIn.move {S T : Nat → Prop} {w w' : World} {q : Req} {lv kv tv : Value} (hm : ∀ g, S g → g < w.heap.size → T g ∧ w'.heap[g]? = w.heap[g]?) (h : ReqIn S w q lv kv tv) : ReqIn T w' q lv kv tv :=
  ⟨RsIn.move hm h.1, KIn.move hm h.2.1, Fl.move hm (fun x => ⟨_, rfl⟩) h.2.2⟩
def reqList (q : Req) (lv kv tv : Value) : List Value := (reqCells q lv kv tv).toList
theorem size_req {q : Req} {lv kv tv : Value} : (Tryz.prog.info? 36).map (·.size) = some (reqList q lv kv tv).length := by kernel_rfl
theorem rng_req {w : World} {b : Nat} {q : Req} {lv kv tv : Value} (h : Blk w b 36 (reqCells q lv kv tv)) : w.rangeAt b 0 (reqList q lv kv tv) :=
  fun j v hj => by rw [Nat.zero_add]; exact h.cell j v (by simpa [reqList] using hj)
theorem ReqIn.nil (S : Nat → Prop) (w : World) : ReqIn S w Req.none (.slice none 0 0) (.slice none 0 0) (.slice none 0 0) := ⟨RsIn.nil _ _, KIn.nil _ _, Fl.nil⟩
theorem ReqIn.form {S : Nat → Prop} {w : World} {q : Req} {lv kv tv : Value} (h : ReqIn S w q lv kv tv) : ∃ a1 n1 c1 a2 n2 c2 a3 n3 c3, lv = .slice a1 n1 c1 ∧ kv = .slice a2 n2 c2 ∧ tv = .slice a3 n3 c3 := by
  obtain ⟨a1, c1, rfl⟩ := h.1.form
  obtain ⟨a2, c2, rfl⟩ := h.2.1.at_.form
  obtain ⟨a3, c3, rfl⟩ := h.2.2.form
  exact ⟨_, _, _, _, _, _, _, _, _, rfl, rfl, rfl⟩

set_option maxRecDepth 8000 in
set_option maxHeartbeats 1600000 in
theorem wr_req (q : Req) (hb : ReqB q) (lv kv tv : Value) (w : World) (hin : ReqIn (fun g => g < w.heap.size) w q lv kv tv) (ht : Tab w) :
    Calls Tryz.prog 20 #[reqV q lv kv tv, .func (.func 21) #[] #[]] w fun e w' => e = retS q.enc ∧ Keeps w w' := by
  obtain ⟨s, b, hreq, hiff, hs⟩ := Cs.req_wr q
  have htl := ht.lt
  have HK1 := Lib.hid ((Keeps.refl w).alloc (.cells (reqCells q lv kv tv) 36))
  have HK2 := Lib.hid (HK1.out.alloc (.cells #[.string ⟨#[]⟩, .int .i64 0, .bool false, .bool false] 97))
  have HKK := Lib.hid ((Keeps.refl (w.alloc (.cells (reqCells q lv kv tv) 36))).alloc (.cells #[.string ⟨#[]⟩, .int .i64 0, .bool false, .bool false] 97))
  have HQ := Lib.hid ((Blk.new w 36 (reqCells q lv kv tv)).keeps HKK.out)
  have hcb := Blk.new (w.alloc (.cells (reqCells q lv kv tv) 36)) 97 #[.string ⟨#[]⟩, .int .i64 0, .bool false, .bool false]
  rw [World.size_alloc] at hcb
  have HC := Lib.hid (show Blk ((w.alloc (.cells (reqCells q lv kv tv) 36)).alloc (.cells #[.string ⟨#[]⟩, .int .i64 0, .bool false, .bool false] 97)) (w.heap.size + 1) 97 (Cs.wr [] false).cells from hcb)
  have HIN := Lib.hid (hin.move (T := fun g => g < w.heap.size) (fun g hg hlt => ⟨hg, HK2.out.block hlt⟩))
  have DO := Lib.hid (cd_req 0 (by decide) (Cs.wr [] false) (Nat.le_refl 0) q hb lv kv tv (fun g => g < w.heap.size) (w.heap.size + 1) w.heap.size (fun g h => by omega) (by omega) _ HIN.out.1 HIN.out.2.1 HIN.out.2.2 (fun h => by cases h) (ht.keeps HK2.out) (by omega) (by omega) HC.out HQ.out)
  rw [hreq] at DO
  have hen1 : b = true → q.enc = ([], 1) := fun h => by
    have : ¬ q.ok = true := fun hok => by have := (hiff.2 hok).1; rw [h] at this; cases this
    unfold Req.enc; rw [if_neg this]
  have hen2 : b = false → 60000 < s.length → q.enc = ([], 1) := fun h hl => by
    have : ¬ q.ok = true := fun hok => by have := (hiff.2 hok).2; omega
    unfold Req.enc; rw [if_neg this]
  have hen3 : b = false → ¬ 60000 < s.length → q.enc = (s, 0) := fun h hl => by
    have : q.ok = true := hiff.1 ⟨h, by omega⟩
    unfold Req.enc; rw [if_pos this, hs h]
  have hz := str_size s
  have hne : ¬ w.heap.size + 1 = w.heap.size := by omega
  obtain ⟨a1, n1, p1, a2, n2, p2, a3, n3, p3, rfl, rfl, rfl⟩ := hin.form
  simp only [reqV, reqCells] at *
  clear hreq hiff hs hin ht hcb hb
  have tail : ∀ w1, CQ 36 ((w.alloc (.cells (reqCells q (.slice a1 n1 p1) (.slice a2 n2 p2) (.slice a3 n3 p3)) 36)).alloc (.cells #[.string ⟨#[]⟩, .int .i64 0, .bool false, .bool false] 97)) (w.heap.size + 1) w.heap.size (Cs.wr s b) #[] w1 → True := fun _ _ => trivial
  clear tail
  cases b
  · by_cases hl : 60000 < s.length
    · have HE := Lib.hid (hen2 rfl hl)
      have hd : decide (60000 < (s.length : Int)) = true := by simp; omega
      clear hen1 hen2 hen3 hl
      go_enter Tryz.func20, Tryz.ntmps20
      go_wp2_with fail
      refine DO.out.mono ?_
      rintro e w1 ⟨l1, l2, l3, rfl, hd, -⟩
      have hcc : Blk w1 (w.heap.size + 1) 97 (cdc s 0 false false) := hd.cb
      obtain ⟨⟨x0, x1, x2, x3⟩, -⟩ := hcc.cdc
      have HT := Lib.hid hd.two
      clear hd hcc
      go_wp2_with fail
      go_ret2
      exact ⟨by rw [HE.out]; rfl, HT.out.keeps HK2.out (by omega) (Nat.le_refl _)⟩
    · have HE := Lib.hid (hen3 rfl hl)
      have hd : decide (60000 < (s.length : Int)) = false := by simp; omega
      clear hen1 hen2 hen3 hl
      go_enter Tryz.func20, Tryz.ntmps20
      go_wp2_with fail
      refine DO.out.mono ?_
      rintro e w1 ⟨l1, l2, l3, rfl, hd, -⟩
      have hcc : Blk w1 (w.heap.size + 1) 97 (cdc s 0 false false) := hd.cb
      obtain ⟨⟨x0, x1, x2, x3⟩, -⟩ := hcc.cdc
      have HT := Lib.hid hd.two
      clear hd hcc
      go_wp2_with fail
      go_ret2
      exact ⟨by rw [HE.out]; rfl, HT.out.keeps HK2.out (by omega) (Nat.le_refl _)⟩
  · have HE := Lib.hid (hen1 rfl)
    clear hen1 hen2 hen3
    go_enter Tryz.func20, Tryz.ntmps20
    go_wp2_with fail
    refine DO.out.mono ?_
    rintro e w1 ⟨l1, l2, l3, rfl, hd, -⟩
    have hcc : Blk w1 (w.heap.size + 1) 97 (cdc s 0 false true) := hd.cb
    obtain ⟨⟨x0, x1, x2, x3⟩, -⟩ := hcc.cdc
    have HT := Lib.hid hd.two
    clear hd hcc
    go_wp2_with fail
    go_ret2
    exact ⟨by rw [HE.out]; rfl, HT.out.keeps HK2.out (by omega) (Nat.le_refl _)⟩

set_option maxRecDepth 8000 in
set_option maxHeartbeats 1600000 in
theorem wire_Encode (q : Req) (hb : ReqB q) (lv kv tv : Value) (w : World) (hin : ReqIn (fun g => g < w.heap.size) w q lv kv tv) (ht : Tab w) :
    Calls Tryz.prog 6 #[reqV q lv kv tv] w fun e w' => e = retS q.enc ∧ Keeps w w' := by
  have HK1 := Lib.hid ((Keeps.refl w).alloc (.cells (reqCells q lv kv tv) 36))
  have WR := fun wA (hk : Keeps w wA) => wr_req q hb lv kv tv wA (hin.move (fun g hg hlt => ⟨Nat.lt_of_lt_of_le hlt hk.size, hk.block hlt⟩)) (ht.keeps hk)
  obtain ⟨⟨s, z⟩, hs⟩ : ∃ r, q.enc = r := ⟨_, rfl⟩
  rw [hs] at WR ⊢
  have WR := Lib.hid WR
  obtain ⟨a1, n1, p1, a2, n2, p2, a3, n3, p3, rfl, rfl, rfl⟩ := hin.form
  have HBX := Lib.hid (Blk.new w 36 (reqCells q (.slice a1 n1 p1) (.slice a2 n2 p2) (.slice a3 n3 p3)))
  simp only [reqV, reqCells, retS] at *
  clear hs hin ht hb
  go_enter Tryz.func6, Tryz.ntmps6
  go_upto_region 0 with fail
  go_cut [1] from 2 (fun s1 wx => s1 = .pointer (some ⟨w.heap.size, 0, none⟩) ∧ ∃ wn, wn = wx ∧ Keeps w wn ∧ Blk wn w.heap.size 36 (reqCells q (.slice a1 n1 p1) (.slice a2 n2 p2) (.slice a3 n3 p3)))
  case first =>
    go_wp2_with fail
    go_meet
    exact ⟨rfl, _, rfl, HK1.out, HBX.out⟩
  case rest =>
  obtain ⟨rfl, wn, rfl, hkn, hbn⟩ := hcut
  have HRA := Lib.hid (rng_req hbn)
  clear hbn
  rename_i hKK
  refine hKK _ _ ?_
  apply wp_seq_k
  intro _ _
  refine wp_region_lit ?_
  refine wpList_load_mid (by rfl) 36 (.tmp 1) (by rfl) w.heap.size 0 (by rfl) (reqList q (.slice a1 n1 p1) (.slice a2 n2 p2) (.slice a3 n3 p3)) _ HRA.out Tryz.underlying36 (by rfl) size_req ?_
  simp only [reqList, reqCells, Act.put, List.setIfInBounds_toArray, List.set_cons_zero, List.set_cons_succ]
  go_wp2_with fail
  try simp only [reqList, reqCells]
  refine (WR.out _ hkn).mono ?_
  rintro e w1 ⟨rfl, hk⟩
  go_wp2_with fail
  go_ret2
  exact ⟨rfl, hkn.trans hk⟩


/-- the machine's numbers, and texts of a size -/
def RepB (q : Rep) : Prop := ((-9223372036854775808 ≤ q.err ∧ q.err ≤ 9223372036854775807) ∧ (-9223372036854775808 ≤ q.at_ ∧ q.at_ ≤ 9223372036854775807) ∧ (-9223372036854775808 ≤ q.start ∧ q.start ≤ 9223372036854775807) ∧ (-9223372036854775808 ≤ q.end_ ∧ q.end_ ≤ 9223372036854775807) ∧ (-9223372036854775808 ≤ q.member ∧ q.member ≤ 9223372036854775807) ∧ (-9223372036854775808 ≤ q.gen ∧ q.gen ≤ 9223372036854775807) ∧ (-9223372036854775808 ≤ q.leader ∧ q.leader ≤ 9223372036854775807)) ∧ (∀ x ∈ q.topics, x.1.length ≤ 2 ^ 48 ∧ -9223372036854775808 ≤ x.2 ∧ x.2 ≤ 9223372036854775807) ∧ ∀ x ∈ q.parts, x.1.length ≤ 2 ^ 48 ∧ -9223372036854775808 ≤ x.2 ∧ x.2 ≤ 9223372036854775807
def repV (q : Rep) (bv tv pv : Value) : Value := .agg (repCells q bv tv pv)
/-- its slices in memory, all blocks in S -/
def RepIn (S : Nat → Prop) (w : World) (q : Rep) (bv tv pv : Value) : Prop := BsIn S w bv q.bats ∧ Fl 2 ncell S w tv q.topics ∧ Fl 2 ncell S w pv q.parts
theorem RepIn.move {S T : Nat → Prop} {w w' : World} {q : Rep} {bv tv pv : Value} (hm : ∀ g, S g → g < w.heap.size → T g ∧ w'.heap[g]? = w.heap[g]?) (h : RepIn S w q bv tv pv) : RepIn T w' q bv tv pv :=
  ⟨BsIn.move hm h.1, Fl.move hm (fun x => ⟨_, rfl⟩) h.2.1, Fl.move hm (fun x => ⟨_, rfl⟩) h.2.2⟩
def repList (q : Rep) (bv tv pv : Value) : List Value := (repCells q bv tv pv).toList
theorem RepIn.nil (S : Nat → Prop) (w : World) : RepIn S w Rep.none (.slice none 0 0) (.slice none 0 0) (.slice none 0 0) := ⟨BsIn.nil _ _, Fl.nil, Fl.nil⟩
theorem RepIn.form {S : Nat → Prop} {w : World} {q : Rep} {bv tv pv : Value} (h : RepIn S w q bv tv pv) : ∃ a1 n1 c1 a2 n2 c2 a3 n3 c3, bv = .slice a1 n1 c1 ∧ tv = .slice a2 n2 c2 ∧ pv = .slice a3 n3 c3 := by
  obtain ⟨a1, c1, rfl⟩ := h.1.at_.form
  obtain ⟨a2, c2, rfl⟩ := h.2.1.form
  obtain ⟨a3, c3, rfl⟩ := h.2.2.form
  exact ⟨_, _, _, _, _, _, _, _, _, rfl, rfl, rfl⟩

end Go.Proofs.YtamiebojjinhcaaGreatDoor

namespace Go.Proofs.YtamiebojjinhcaaGreatDoor
open Go.RowKit

/-- the n cells from here on, if they are there -/
def wide (w : World) (n b o : Nat) : Option (Array Value) :=
  if ∀ j, j < n → (w.cell? ⟨b, o + j, none⟩).isSome = true then some ((List.range n).map fun j => (w.cell? ⟨b, o + j, none⟩).getD undef).toArray else none
def slowLoad (ty : TypeId) (p : Value) : Sem Value := Instr.loadAt ty p
def slowStore (ty : TypeId) (p v : Value) : Sem Unit := Instr.storeAt ty p v
/-- may these cells be stored from here on? -/
noncomputable def wideOk (w : World) (n b o : Nat) (c : Array Value) : Bool := open Classical in decide (w.there b o n ∧ c.size = n ∧ c.all (·.oneCell') = true)
def setMany (cs : Array Value) : Nat → List Value → Array Value
  | _, [] => cs
  | o, v :: r => setMany (cs.setIfInBounds o v) (o + 1) r
theorem Blk.setCells {b : Nat} {t : TypeId} : ∀ (vs : List Value) (o : Nat) (cs : Array Value) {w : World}, Blk w b t cs → Blk (w.setCells b o vs) b t (setMany cs o vs)
  | [], _, _, _, h => h
  | v :: r, o, cs, w, h => Blk.setCells r (o + 1) (cs.setIfInBounds o v) (h.set o v)
theorem Two.setCells2 {c q : Nat} {w0 : World} : ∀ (vs : List Value) (o : Nat) {w : World}, Two c q w0 w → Two c q w0 (w.setCells q o vs)
  | [], _, _, h => h
  | v :: r, o, w, h => Two.setCells2 r (o + 1) (h.set2 o v)
theorem Keeps.setCells {w0 : World} {q : Nat} (hq : w0.heap.size ≤ q) : ∀ (vs : List Value) (o : Nat) {w : World}, Keeps w0 w → Keeps w0 (w.setCells q o vs)
  | [], _, _, h => h
  | v :: r, o, w, h => Keeps.setCells hq r (o + 1) (h.setCell hq v)
theorem one_req {q : Req} {a1 a2 a3 : Option Addr} {n1 p1 n2 p2 n3 p3 : Nat} : (reqCells q (.slice a1 n1 p1) (.slice a2 n2 p2) (.slice a3 n3 p3)).all (·.oneCell') = true := by
  unfold reqCells
  exact all_oneCell_toArray (by simp [Value.oneCell'])
theorem setMany_get : ∀ (vs : List Value) (o : Nat) (cs : Array Value) (i : Nat), (setMany cs o vs)[i]? = if o ≤ i ∧ i < o + vs.length ∧ i < cs.size then vs[i - o]? else cs[i]?
  | [], o, cs, i => by rw [if_neg (by simp only [List.length_nil]; omega)]; rfl
  | v :: r, o, cs, i => by
    rw [setMany, setMany_get r, Array.getElem?_setIfInBounds]
    simp only [Array.size_setIfInBounds, List.length_cons]
    by_cases h1 : o + 1 ≤ i ∧ i < o + 1 + r.length ∧ i < cs.size
    · rw [if_pos h1, if_pos (by omega), show i - o = (i - (o + 1)) + 1 by omega, List.getElem?_cons_succ]
    · rw [if_neg h1]
      by_cases h2 : o = i
      · subst h2
        by_cases h3 : o < cs.size
        · rw [if_pos rfl, if_pos h3, if_pos (by omega), Nat.sub_self]; rfl
        · rw [if_pos rfl, if_neg h3, if_neg (by omega), Array.getElem?_eq_none (by omega)]
      · rw [if_neg h2, if_neg (by omega)]
theorem setMany_all {cs : Array Value} {vs : List Value} (h : vs.length = cs.size) : setMany cs 0 vs = vs.toArray := by
  apply Array.ext_getElem?
  intro i
  rw [setMany_get]
  by_cases hi : i < vs.length
  · rw [if_pos (by omega)]; simp
  · rw [if_neg (by omega), Array.getElem?_eq_none (by omega), Array.getElem?_eq_none (by simp; omega)]
theorem setCells_req {w : World} {b : Nat} {T : TypeId} {q q' : Req} {lv kv tv x y z : Value} (h : Blk w b T (reqCells q lv kv tv)) : Blk (w.setCells b 0 (reqCells q' x y z).toList) b T (reqCells q' x y z) := by
  have h2 := Blk.setCells (reqCells q' x y z).toList 0 _ h
  rw [setMany_all (by rfl), Array.toArray_toList] at h2
  exact h2
theorem there_req {w : World} {b : Nat} {T : TypeId} {q q' : Req} {lv kv tv x y z : Value} (h : Blk w b T (reqCells q lv kv tv)) : w.there b 0 (reqCells q' x y z).size := fun j hj => by
  have hj : j < 20 := hj
  refine ⟨?_, h.frozen _⟩
  rw [Nat.zero_add, h.cell j (reqCells q lv kv tv)[j] (Array.getElem?_eq_getElem (show j < 20 from hj))]; rfl
theorem size_req' {q : Req} {x y z : Value} : (Tryz.prog.info? 36).map (·.size) = some (reqCells q x y z).size := by kernel_rfl
theorem results_cell2 {P : Program} {f : Func} {tmps : Array Value} {w : World} {a s b : Nat} {T : TypeId} {v x : Value} (hf : f.results = #[.cell a T, .tmp s]) (ha : tmps.getD a undef = .pointer (some ⟨b, 0, none⟩)) (hs : tmps.getD s undef = x)
    (hl : (loadVar T ⟨b, 0, none⟩).run P w = .ok v w) : (results f tmps).run P w = .ok (.tuple #[v, x]) w := by
  rw [Array.getD_eq_getD_getElem?] at ha hs
  unfold results
  rw [hf]
  simp [asAddr, ha, hs, hl]
end Go.Proofs.YtamiebojjinhcaaGreatDoor

namespace Go.Proofs.YtamiebojjinhcaaGreatDoor
open Go.RowKit
theorem Req.dec_if (l : List UInt8) : Req.dec l = if (Rd.rq l).2.2 = 0 ∧ (Rd.rq l).2.1 = (l.length : Int) ∧ l.length ≤ 60000 then ((Rd.rq l).1, 0) else (Req.none, 3) := rfl
theorem Rep.dec_if (l : List UInt8) : Rep.dec l = if (Rd.rr l).2.2 = 0 ∧ (Rd.rr l).2.1 = (l.length : Int) ∧ l.length ≤ 60000 then ((Rd.rr l).1, 0) else (Rep.none, 3) := rfl
theorem ReqB.none : ReqB Req.none := ⟨by decide, by decide, by decide, fun x hx => by simp [Req.none] at hx⟩
theorem RepB.none : RepB Rep.none := ⟨by decide, fun x hx => by simp [Rep.none] at hx, fun x hx => by simp [Rep.none] at hx⟩
/-- what Decode leaves -/
def ReqRet (g : Req × Int) (w : World) (e : Ending) (w' : World) : Prop := ∃ a b c, e = .returned (.tuple #[reqV g.1 a b c, .int .i64 g.2]) ∧ ReqIn (fun i => w.heap.size ≤ i) w' g.1 a b c ∧ Keeps w w'

set_option maxRecDepth 8000 in
set_option maxHeartbeats 800000 in
theorem rd_req (l : List UInt8) (hl : l.length ≤ 2 ^ 62) (w : World) (ht : Tab w) :
    Calls Tryz.prog 24 #[.string (str l), .func (.func 21) #[] #[]] w (ReqRet (Req.dec l) w) := by
  have htl := ht.lt
  have hif := Req.dec_if l
  have HK0 := Lib.hid ((Keeps.refl w).alloc (.cells #[.int .i64 0, .string ⟨#[]⟩, .int .i64 0, .int .i64 0, .int .i64 0, .bool false, .int .i64 0, .int .i64 0, .int .i64 0, .int .i64 0, .int .i64 0, .slice none 0 0, .int .i64 0, .string ⟨#[]⟩, .string ⟨#[]⟩, .slice none 0 0, .string ⟨#[]⟩, .int .i64 0, .int .i64 0, .slice none 0 0] 36))
  have HK1 := Lib.hid (HK0.out.alloc (.cells #[.string (str l), .int .i64 0, .bool true, .bool false] 97))
  have HK2 := Lib.hid (HK1.out.alloc (.cells #[.int .i64 0, .string ⟨#[]⟩, .int .i64 0, .int .i64 0, .int .i64 0, .bool false, .int .i64 0, .int .i64 0, .int .i64 0, .int .i64 0, .int .i64 0, .slice none 0 0, .int .i64 0, .string ⟨#[]⟩, .string ⟨#[]⟩, .slice none 0 0, .string ⟨#[]⟩, .int .i64 0, .int .i64 0, .slice none 0 0] 36))
  have hb0 := ((Blk.new w 36 #[.int .i64 0, .string ⟨#[]⟩, .int .i64 0, .int .i64 0, .int .i64 0, .bool false, .int .i64 0, .int .i64 0, .int .i64 0, .int .i64 0, .int .i64 0, .slice none 0 0, .int .i64 0, .string ⟨#[]⟩, .string ⟨#[]⟩, .slice none 0 0, .string ⟨#[]⟩, .int .i64 0, .int .i64 0, .slice none 0 0]).keeps ((Keeps.refl (w.alloc (.cells #[.int .i64 0, .string ⟨#[]⟩, .int .i64 0, .int .i64 0, .int .i64 0, .bool false, .int .i64 0, .int .i64 0, .int .i64 0, .int .i64 0, .int .i64 0, .slice none 0 0, .int .i64 0, .string ⟨#[]⟩, .string ⟨#[]⟩, .slice none 0 0, .string ⟨#[]⟩, .int .i64 0, .int .i64 0, .slice none 0 0] 36))).alloc (.cells #[.string (str l), .int .i64 0, .bool true, .bool false] 97))).keeps ((Keeps.refl ((w.alloc (.cells #[.int .i64 0, .string ⟨#[]⟩, .int .i64 0, .int .i64 0, .int .i64 0, .bool false, .int .i64 0, .int .i64 0, .int .i64 0, .int .i64 0, .int .i64 0, .slice none 0 0, .int .i64 0, .string ⟨#[]⟩, .string ⟨#[]⟩, .slice none 0 0, .string ⟨#[]⟩, .int .i64 0, .int .i64 0, .slice none 0 0] 36)).alloc (.cells #[.string (str l), .int .i64 0, .bool true, .bool false] 97))).alloc (.cells #[.int .i64 0, .string ⟨#[]⟩, .int .i64 0, .int .i64 0, .int .i64 0, .bool false, .int .i64 0, .int .i64 0, .int .i64 0, .int .i64 0, .int .i64 0, .slice none 0 0, .int .i64 0, .string ⟨#[]⟩, .string ⟨#[]⟩, .slice none 0 0, .string ⟨#[]⟩, .int .i64 0, .int .i64 0, .slice none 0 0] 36))
  have hb1 := (Blk.new (w.alloc (.cells #[.int .i64 0, .string ⟨#[]⟩, .int .i64 0, .int .i64 0, .int .i64 0, .bool false, .int .i64 0, .int .i64 0, .int .i64 0, .int .i64 0, .int .i64 0, .slice none 0 0, .int .i64 0, .string ⟨#[]⟩, .string ⟨#[]⟩, .slice none 0 0, .string ⟨#[]⟩, .int .i64 0, .int .i64 0, .slice none 0 0] 36)) 97 #[.string (str l), .int .i64 0, .bool true, .bool false]).keeps ((Keeps.refl ((w.alloc (.cells #[.int .i64 0, .string ⟨#[]⟩, .int .i64 0, .int .i64 0, .int .i64 0, .bool false, .int .i64 0, .int .i64 0, .int .i64 0, .int .i64 0, .int .i64 0, .slice none 0 0, .int .i64 0, .string ⟨#[]⟩, .string ⟨#[]⟩, .slice none 0 0, .string ⟨#[]⟩, .int .i64 0, .int .i64 0, .slice none 0 0] 36)).alloc (.cells #[.string (str l), .int .i64 0, .bool true, .bool false] 97))).alloc (.cells #[.int .i64 0, .string ⟨#[]⟩, .int .i64 0, .int .i64 0, .int .i64 0, .bool false, .int .i64 0, .int .i64 0, .int .i64 0, .int .i64 0, .int .i64 0, .slice none 0 0, .int .i64 0, .string ⟨#[]⟩, .string ⟨#[]⟩, .slice none 0 0, .string ⟨#[]⟩, .int .i64 0, .int .i64 0, .slice none 0 0] 36))
  have hb2 := Blk.new ((w.alloc (.cells #[.int .i64 0, .string ⟨#[]⟩, .int .i64 0, .int .i64 0, .int .i64 0, .bool false, .int .i64 0, .int .i64 0, .int .i64 0, .int .i64 0, .int .i64 0, .slice none 0 0, .int .i64 0, .string ⟨#[]⟩, .string ⟨#[]⟩, .slice none 0 0, .string ⟨#[]⟩, .int .i64 0, .int .i64 0, .slice none 0 0] 36)).alloc (.cells #[.string (str l), .int .i64 0, .bool true, .bool false] 97)) 36 #[.int .i64 0, .string ⟨#[]⟩, .int .i64 0, .int .i64 0, .int .i64 0, .bool false, .int .i64 0, .int .i64 0, .int .i64 0, .int .i64 0, .int .i64 0, .slice none 0 0, .int .i64 0, .string ⟨#[]⟩, .string ⟨#[]⟩, .slice none 0 0, .string ⟨#[]⟩, .int .i64 0, .int .i64 0, .slice none 0 0]
  rw [World.size_alloc] at hb1
  rw [World.size_alloc, World.size_alloc] at hb2
  have HB0 := Lib.hid (show Blk (((w.alloc (.cells #[.int .i64 0, .string ⟨#[]⟩, .int .i64 0, .int .i64 0, .int .i64 0, .bool false, .int .i64 0, .int .i64 0, .int .i64 0, .int .i64 0, .int .i64 0, .slice none 0 0, .int .i64 0, .string ⟨#[]⟩, .string ⟨#[]⟩, .slice none 0 0, .string ⟨#[]⟩, .int .i64 0, .int .i64 0, .slice none 0 0] 36)).alloc (.cells #[.string (str l), .int .i64 0, .bool true, .bool false] 97)).alloc (.cells #[.int .i64 0, .string ⟨#[]⟩, .int .i64 0, .int .i64 0, .int .i64 0, .bool false, .int .i64 0, .int .i64 0, .int .i64 0, .int .i64 0, .int .i64 0, .slice none 0 0, .int .i64 0, .string ⟨#[]⟩, .string ⟨#[]⟩, .slice none 0 0, .string ⟨#[]⟩, .int .i64 0, .int .i64 0, .slice none 0 0] 36)) w.heap.size 36 (reqCells Req.none (.slice none 0 0) (.slice none 0 0) (.slice none 0 0)) from hb0)
  have HB1 := Lib.hid (show Blk (((w.alloc (.cells #[.int .i64 0, .string ⟨#[]⟩, .int .i64 0, .int .i64 0, .int .i64 0, .bool false, .int .i64 0, .int .i64 0, .int .i64 0, .int .i64 0, .int .i64 0, .slice none 0 0, .int .i64 0, .string ⟨#[]⟩, .string ⟨#[]⟩, .slice none 0 0, .string ⟨#[]⟩, .int .i64 0, .int .i64 0, .slice none 0 0] 36)).alloc (.cells #[.string (str l), .int .i64 0, .bool true, .bool false] 97)).alloc (.cells #[.int .i64 0, .string ⟨#[]⟩, .int .i64 0, .int .i64 0, .int .i64 0, .bool false, .int .i64 0, .int .i64 0, .int .i64 0, .int .i64 0, .int .i64 0, .slice none 0 0, .int .i64 0, .string ⟨#[]⟩, .string ⟨#[]⟩, .slice none 0 0, .string ⟨#[]⟩, .int .i64 0, .int .i64 0, .slice none 0 0] 36)) (w.heap.size + 1) 97 (Cs.rd l (0, 0)).cells from hb1)
  have HB2 := Lib.hid (show Blk (((w.alloc (.cells #[.int .i64 0, .string ⟨#[]⟩, .int .i64 0, .int .i64 0, .int .i64 0, .bool false, .int .i64 0, .int .i64 0, .int .i64 0, .int .i64 0, .int .i64 0, .slice none 0 0, .int .i64 0, .string ⟨#[]⟩, .string ⟨#[]⟩, .slice none 0 0, .string ⟨#[]⟩, .int .i64 0, .int .i64 0, .slice none 0 0] 36)).alloc (.cells #[.string (str l), .int .i64 0, .bool true, .bool false] 97)).alloc (.cells #[.int .i64 0, .string ⟨#[]⟩, .int .i64 0, .int .i64 0, .int .i64 0, .bool false, .int .i64 0, .int .i64 0, .int .i64 0, .int .i64 0, .int .i64 0, .slice none 0 0, .int .i64 0, .string ⟨#[]⟩, .string ⟨#[]⟩, .slice none 0 0, .string ⟨#[]⟩, .int .i64 0, .int .i64 0, .slice none 0 0] 36)) (w.heap.size + 1 + 1) 36 (reqCells Req.none (.slice none 0 0) (.slice none 0 0) (.slice none 0 0)) from hb2)
  have hnil := ReqIn.nil (fun _ => False) (((w.alloc (.cells #[.int .i64 0, .string ⟨#[]⟩, .int .i64 0, .int .i64 0, .int .i64 0, .bool false, .int .i64 0, .int .i64 0, .int .i64 0, .int .i64 0, .int .i64 0, .slice none 0 0, .int .i64 0, .string ⟨#[]⟩, .string ⟨#[]⟩, .slice none 0 0, .string ⟨#[]⟩, .int .i64 0, .int .i64 0, .slice none 0 0] 36)).alloc (.cells #[.string (str l), .int .i64 0, .bool true, .bool false] 97)).alloc (.cells #[.int .i64 0, .string ⟨#[]⟩, .int .i64 0, .int .i64 0, .int .i64 0, .bool false, .int .i64 0, .int .i64 0, .int .i64 0, .int .i64 0, .int .i64 0, .slice none 0 0, .int .i64 0, .string ⟨#[]⟩, .string ⟨#[]⟩, .slice none 0 0, .string ⟨#[]⟩, .int .i64 0, .int .i64 0, .slice none 0 0] 36))
  have DO := cd_req 0 (by decide) (Cs.rd l (0, 0)) ⟨hl, by unfold Rd.Fine; simp⟩ Req.none ReqB.none (.slice none 0 0) (.slice none 0 0) (.slice none 0 0) (fun _ => False) (w.heap.size + 1) w.heap.size (fun g h => h.elim) (by omega) _ hnil.1 hnil.2.1 hnil.2.2 (fun _ => ⟨rfl, rfl, rfl, rfl⟩) (ht.keeps HK2.out) (by omega) (by omega) HB1.out HB0.out
  rw [Cs.req_rd] at DO
  obtain ⟨⟨q, st⟩, hq⟩ : ∃ r, Rd.rq l = r := ⟨_, rfl⟩
  rw [hq] at hif DO
  simp only at hif DO
  have DO := Lib.hid DO
  have hz := str_size l
  have hne : ¬ w.heap.size + 1 = w.heap.size := by omega
  have hne2 : ¬ w.heap.size + 1 + 1 = w.heap.size := by omega
  have hne3 : ¬ w.heap.size + 1 + 1 = w.heap.size + 1 := by omega
  clear hb0 hb1 hb2 hq hl ht hnil
  by_cases h1 : st.2 = 0
  · have D1 := Lib.hid (show decide (st.2 ≠ 0) = false by simpa using h1)
    by_cases h2 : st.1 = (l.length : Int)
    · have d2 : (st.1 != (l.length : Int)) = false := by simpa using h2
      by_cases h3 : l.length ≤ 60000
      · have d3 : decide (60000 < (l.length : Int)) = false := by simp; omega
        have HE := Lib.hid (hif.trans (if_pos ⟨h1, h2, h3⟩))
        clear hif h1 h2 h3
        go_enter Tryz.func24, Tryz.ntmps24
        go_wp2_with fail
        refine DO.out.mono ?_
        rintro e w1 ⟨a, b, c, rfl, hd, hin⟩
        have hcc : Blk w1 (w.heap.size + 1) 97 (cdc l st.1 true (decide (st.2 ≠ 0))) := hd.cb
        rw [D1.out] at hcc
        obtain ⟨⟨x0, x1, x2, x3⟩, -⟩ := hcc.cdc
        have HD := Lib.hid hd
        obtain ⟨s1, n1, p1, s2, n2, p2, s3, n3, p3, rfl, rfl, rfl⟩ := ReqIn.form (S := fun g => False ∨ (((w.alloc (.cells #[.int .i64 0, .string ⟨#[]⟩, .int .i64 0, .int .i64 0, .int .i64 0, .bool false, .int .i64 0, .int .i64 0, .int .i64 0, .int .i64 0, .int .i64 0, .slice none 0 0, .int .i64 0, .string ⟨#[]⟩, .string ⟨#[]⟩, .slice none 0 0, .string ⟨#[]⟩, .int .i64 0, .int .i64 0, .slice none 0 0] 36)).alloc (.cells #[.string (str l), .int .i64 0, .bool true, .bool false] 97)).alloc (.cells #[.int .i64 0, .string ⟨#[]⟩, .int .i64 0, .int .i64 0, .int .i64 0, .bool false, .int .i64 0, .int .i64 0, .int .i64 0, .int .i64 0, .int .i64 0, .slice none 0 0, .int .i64 0, .string ⟨#[]⟩, .string ⟨#[]⟩, .slice none 0 0, .string ⟨#[]⟩, .int .i64 0, .int .i64 0, .slice none 0 0] 36)).heap.size ≤ g) hin
        have HIN := Lib.hid (show ReqIn (fun g => False ∨ (((w.alloc (.cells #[.int .i64 0, .string ⟨#[]⟩, .int .i64 0, .int .i64 0, .int .i64 0, .bool false, .int .i64 0, .int .i64 0, .int .i64 0, .int .i64 0, .int .i64 0, .slice none 0 0, .int .i64 0, .string ⟨#[]⟩, .string ⟨#[]⟩, .slice none 0 0, .string ⟨#[]⟩, .int .i64 0, .int .i64 0, .slice none 0 0] 36)).alloc (.cells #[.string (str l), .int .i64 0, .bool true, .bool false] 97)).alloc (.cells #[.int .i64 0, .string ⟨#[]⟩, .int .i64 0, .int .i64 0, .int .i64 0, .bool false, .int .i64 0, .int .i64 0, .int .i64 0, .int .i64 0, .int .i64 0, .slice none 0 0, .int .i64 0, .string ⟨#[]⟩, .string ⟨#[]⟩, .slice none 0 0, .string ⟨#[]⟩, .int .i64 0, .int .i64 0, .slice none 0 0] 36)).heap.size ≤ g) w1 q _ _ _ from hin)
        have hqb := hd.qb
        have HRA := Lib.hid (rng_req hqb)
        have HTH := Lib.hid (there_req (q' := q) (x := .slice s1 n1 p1) (y := .slice s2 n2 p2) (z := .slice s3 n3 p3) hqb)
        have HQ2 := Lib.hid (setCells_req (q' := q) (x := .slice s1 n1 p1) (y := .slice s2 n2 p2) (z := .slice s3 n3 p3) hqb)
        have HLV := Lib.hid (run_loadVar_mid (P := Tryz.prog) _ w.heap.size 0 36 (reqList q (.slice s1 n1 p1) (.slice s2 n2 p2) (.slice s3 n3 p3)) _ (rng_req HQ2.out) Tryz.underlying36 rfl size_req)
        clear hd hcc hin D1 hqb
        go_upto_region 6 with fail
        refine wp_region_lit ?_
        refine wpList_load_mid (by rfl) 36 (.tmp 4) (by rfl) w.heap.size 0 (by rfl) (reqList q (.slice s1 n1 p1) (.slice s2 n2 p2) (.slice s3 n3 p3)) _ HRA.out Tryz.underlying36 (by rfl) size_req ?_
        simp only [Act.put, List.setIfInBounds_toArray, List.set_cons_zero, List.set_cons_succ]
        refine wpList_store_mid (by rfl) 36 (.tmp 4) (.tmp 33) (by rfl) w.heap.size 0 (reqCells q (.slice s1 n1 p1) (.slice s2 n2 p2) (.slice s3 n3 p3)) (by rfl) (by rfl) HTH.out size_req' one_req ?_
        generalize hW : w1.setCells w.heap.size 0 (reqCells q (.slice s1 n1 p1) (.slice s2 n2 p2) (.slice s3 n3 p3)).toList = W at *
        go_wp2_with fail
        have hlv := HLV.out
        refine bodyPost_ret (v := .tuple #[reqV q (.slice s1 n1 p1) (.slice s2 n2 p2) (.slice s3 n3 p3), .int .i64 0]) (results_cell2 rfl rfl rfl hlv) rfl ?_
        subst hW
        rw [HE.out]
        refine ⟨_, _, _, rfl, ReqIn.move (fun g hg hlt => ⟨?_, ?_⟩) HIN.out, Keeps.setCells (Nat.le_refl _) _ 0 (HD.out.two.keeps HK2.out (Nat.le_succ _) (Nat.le_refl _))⟩
        · rcases hg with hg | hg
          · exact hg.elim
          · simp only [World.size_alloc] at hg; omega
        · rcases hg with hg | hg
          · exact hg.elim
          · simp only [World.size_alloc] at hg
            exact (Two.setCells2 (c := w.heap.size + 1) _ 0 (Two.refl (w.heap.size + 1) w.heap.size w1)).block g hlt (by omega) (by omega)
      · have d3 : decide (60000 < (l.length : Int)) = true := by simp; omega
        have HE := Lib.hid (hif.trans (if_neg (fun h => h3 h.2.2)))
        clear hif h1 h2 h3
        go_enter Tryz.func24, Tryz.ntmps24
        go_wp2_with fail
        refine DO.out.mono ?_
        rintro e w1 ⟨a, b, c, rfl, hd, hin⟩
        have hcc : Blk w1 (w.heap.size + 1) 97 (cdc l st.1 true (decide (st.2 ≠ 0))) := hd.cb
        rw [D1.out] at hcc
        obtain ⟨⟨x0, x1, x2, x3⟩, -⟩ := hcc.cdc
        have HD := Lib.hid hd
        have hqb := hd.qb
        have hnb := HB2.out.two hd.two (by omega) (by omega)
        have HRA := Lib.hid (rng_req hnb)
        have HTH := Lib.hid (there_req (q' := Req.none) (x := .slice none 0 0) (y := .slice none 0 0) (z := .slice none 0 0) hqb)
        have HQ2 := Lib.hid (setCells_req (q' := Req.none) (x := .slice none 0 0) (y := .slice none 0 0) (z := .slice none 0 0) hqb)
        have HLV := Lib.hid (run_loadVar_mid (P := Tryz.prog) _ w.heap.size 0 36 (reqList Req.none (.slice none 0 0) (.slice none 0 0) (.slice none 0 0)) _ (rng_req HQ2.out) Tryz.underlying36 rfl size_req)
        clear hd hcc hin D1 hqb hnb
        go_upto_region 5 with fail
        refine wp_region_lit ?_
        refine wpList_load_mid (by rfl) 36 (.tmp 7) (by rfl) (w.heap.size + 1 + 1) 0 (by rfl) (reqList Req.none (.slice none 0 0) (.slice none 0 0) (.slice none 0 0)) _ HRA.out Tryz.underlying36 (by rfl) size_req ?_
        simp only [Act.put, List.setIfInBounds_toArray, List.set_cons_zero, List.set_cons_succ]
        refine wpList_store_mid (by rfl) 36 (.tmp 4) (.tmp 32) (by rfl) w.heap.size 0 (reqCells Req.none (.slice none 0 0) (.slice none 0 0) (.slice none 0 0)) (by rfl) (by rfl) HTH.out size_req' one_req ?_
        generalize hW : w1.setCells w.heap.size 0 (reqCells Req.none (.slice none 0 0) (.slice none 0 0) (.slice none 0 0)).toList = W at *
        go_wp2_with fail
        have hlv := HLV.out
        refine bodyPost_ret (v := .tuple #[reqV Req.none (.slice none 0 0) (.slice none 0 0) (.slice none 0 0), .int .i64 3]) (results_cell2 rfl rfl rfl hlv) rfl ?_
        subst hW
        rw [HE.out]
        exact ⟨_, _, _, rfl, ReqIn.nil _ _, Keeps.setCells (Nat.le_refl _) _ 0 (HD.out.two.keeps HK2.out (Nat.le_succ _) (Nat.le_refl _))⟩
    · have d2 : (st.1 != (l.length : Int)) = true := by simpa using h2
      have HE := Lib.hid (hif.trans (if_neg (fun h => h2 h.2.1)))
      clear hif h1 h2
      go_enter Tryz.func24, Tryz.ntmps24
      go_wp2_with fail
      refine DO.out.mono ?_
      rintro e w1 ⟨a, b, c, rfl, hd, hin⟩
      have hcc : Blk w1 (w.heap.size + 1) 97 (cdc l st.1 true (decide (st.2 ≠ 0))) := hd.cb
      rw [D1.out] at hcc
      obtain ⟨⟨x0, x1, x2, x3⟩, -⟩ := hcc.cdc
      have HD := Lib.hid hd
      have hqb := hd.qb
      have hnb := HB2.out.two hd.two (by omega) (by omega)
      have HRA := Lib.hid (rng_req hnb)
      have HTH := Lib.hid (there_req (q' := Req.none) (x := .slice none 0 0) (y := .slice none 0 0) (z := .slice none 0 0) hqb)
      have HQ2 := Lib.hid (setCells_req (q' := Req.none) (x := .slice none 0 0) (y := .slice none 0 0) (z := .slice none 0 0) hqb)
      have HLV := Lib.hid (run_loadVar_mid (P := Tryz.prog) _ w.heap.size 0 36 (reqList Req.none (.slice none 0 0) (.slice none 0 0) (.slice none 0 0)) _ (rng_req HQ2.out) Tryz.underlying36 rfl size_req)
      clear hd hcc hin D1 hqb hnb
      go_upto_region 5 with fail
      refine wp_region_lit ?_
      refine wpList_load_mid (by rfl) 36 (.tmp 7) (by rfl) (w.heap.size + 1 + 1) 0 (by rfl) (reqList Req.none (.slice none 0 0) (.slice none 0 0) (.slice none 0 0)) _ HRA.out Tryz.underlying36 (by rfl) size_req ?_
      simp only [Act.put, List.setIfInBounds_toArray, List.set_cons_zero, List.set_cons_succ]
      refine wpList_store_mid (by rfl) 36 (.tmp 4) (.tmp 32) (by rfl) w.heap.size 0 (reqCells Req.none (.slice none 0 0) (.slice none 0 0) (.slice none 0 0)) (by rfl) (by rfl) HTH.out size_req' one_req ?_
      generalize hW : w1.setCells w.heap.size 0 (reqCells Req.none (.slice none 0 0) (.slice none 0 0) (.slice none 0 0)).toList = W at *
      go_wp2_with fail
      have hlv := HLV.out
      refine bodyPost_ret (v := .tuple #[reqV Req.none (.slice none 0 0) (.slice none 0 0) (.slice none 0 0), .int .i64 3]) (results_cell2 rfl rfl rfl hlv) rfl ?_
      subst hW
      rw [HE.out]
      exact ⟨_, _, _, rfl, ReqIn.nil _ _, Keeps.setCells (Nat.le_refl _) _ 0 (HD.out.two.keeps HK2.out (Nat.le_succ _) (Nat.le_refl _))⟩
  · have D1 := Lib.hid (show decide (st.2 ≠ 0) = true by simpa using h1)
    have HE := Lib.hid (hif.trans (if_neg (fun h => h1 h.1)))
    clear hif h1
    go_enter Tryz.func24, Tryz.ntmps24
    go_wp2_with fail
    refine DO.out.mono ?_
    rintro e w1 ⟨a, b, c, rfl, hd, hin⟩
    have hcc : Blk w1 (w.heap.size + 1) 97 (cdc l st.1 true (decide (st.2 ≠ 0))) := hd.cb
    rw [D1.out] at hcc
    obtain ⟨⟨x0, x1, x2, x3⟩, -⟩ := hcc.cdc
    have HD := Lib.hid hd
    have hqb := hd.qb
    have hnb := HB2.out.two hd.two (by omega) (by omega)
    have HRA := Lib.hid (rng_req hnb)
    have HTH := Lib.hid (there_req (q' := Req.none) (x := .slice none 0 0) (y := .slice none 0 0) (z := .slice none 0 0) hqb)
    have HQ2 := Lib.hid (setCells_req (q' := Req.none) (x := .slice none 0 0) (y := .slice none 0 0) (z := .slice none 0 0) hqb)
    have HLV := Lib.hid (run_loadVar_mid (P := Tryz.prog) _ w.heap.size 0 36 (reqList Req.none (.slice none 0 0) (.slice none 0 0) (.slice none 0 0)) _ (rng_req HQ2.out) Tryz.underlying36 rfl size_req)
    clear hd hcc hin D1 hqb hnb
    go_upto_region 5 with fail
    refine wp_region_lit ?_
    refine wpList_load_mid (by rfl) 36 (.tmp 7) (by rfl) (w.heap.size + 1 + 1) 0 (by rfl) (reqList Req.none (.slice none 0 0) (.slice none 0 0) (.slice none 0 0)) _ HRA.out Tryz.underlying36 (by rfl) size_req ?_
    simp only [Act.put, List.setIfInBounds_toArray, List.set_cons_zero, List.set_cons_succ]
    refine wpList_store_mid (by rfl) 36 (.tmp 4) (.tmp 32) (by rfl) w.heap.size 0 (reqCells Req.none (.slice none 0 0) (.slice none 0 0) (.slice none 0 0)) (by rfl) (by rfl) HTH.out size_req' one_req ?_
    generalize hW : w1.setCells w.heap.size 0 (reqCells Req.none (.slice none 0 0) (.slice none 0 0) (.slice none 0 0)).toList = W at *
    go_wp2_with fail
    have hlv := HLV.out
    refine bodyPost_ret (v := .tuple #[reqV Req.none (.slice none 0 0) (.slice none 0 0) (.slice none 0 0), .int .i64 3]) (results_cell2 rfl rfl rfl hlv) rfl ?_
    subst hW
    rw [HE.out]
    exact ⟨_, _, _, rfl, ReqIn.nil _ _, Keeps.setCells (Nat.le_refl _) _ 0 (HD.out.two.keeps HK2.out (Nat.le_succ _) (Nat.le_refl _))⟩


/-- what Read leaves -/
def RepRet (g : Rep × Int) (w : World) (e : Ending) (w' : World) : Prop := ∃ a b c, e = .returned (.tuple #[repV g.1 a b c, .int .i64 g.2]) ∧ RepIn (fun i => w.heap.size ≤ i) w' g.1 a b c ∧ Keeps w w'

end Go.Proofs.YtamiebojjinhcaaGreatDoor

namespace Go.Proofs.YtamiebojjinhcaaGreatDoor
open Go.RowKit


set_option maxRecDepth 8000 in
set_option maxHeartbeats 800000 in
theorem wire_Decode (l : List UInt8) (hl : l.length ≤ 2 ^ 62) (w : World) (ht : Tab w) :
    Calls Tryz.prog 10 #[.string (str l)] w (ReqRet (Req.dec l) w) := by
  have RD := Lib.hid (fun w' ht => rd_req l hl w' ht)
  have HK0 := Lib.hid ((Keeps.refl w).alloc (.cells #[.int .i64 0, .string ⟨#[]⟩, .int .i64 0, .int .i64 0, .int .i64 0, .bool false, .int .i64 0, .int .i64 0, .int .i64 0, .int .i64 0, .int .i64 0, .slice none 0 0, .int .i64 0, .string ⟨#[]⟩, .string ⟨#[]⟩, .slice none 0 0, .string ⟨#[]⟩, .int .i64 0, .int .i64 0, .slice none 0 0] 36))
  have HB0 := Lib.hid (show Blk (w.alloc (.cells #[.int .i64 0, .string ⟨#[]⟩, .int .i64 0, .int .i64 0, .int .i64 0, .bool false, .int .i64 0, .int .i64 0, .int .i64 0, .int .i64 0, .int .i64 0, .slice none 0 0, .int .i64 0, .string ⟨#[]⟩, .string ⟨#[]⟩, .slice none 0 0, .string ⟨#[]⟩, .int .i64 0, .int .i64 0, .slice none 0 0] 36)) w.heap.size 36 (reqCells Req.none (.slice none 0 0) (.slice none 0 0) (.slice none 0 0)) from Blk.new _ _ _)
  have HTB := Lib.hid (ht.keeps HK0.out)
  obtain ⟨⟨q, z⟩, hq⟩ : ∃ r, Req.dec l = r := ⟨_, rfl⟩
  rw [hq] at RD ⊢
  clear ht hl hq
  go_enter Tryz.func10, Tryz.ntmps10
  go_wp2_with fail
  refine (RD.out _ HTB.out).mono ?_
  rintro e w1 ⟨a, b, c, rfl, hin, hk⟩
  obtain ⟨s1, n1, p1, s2, n2, p2, s3, n3, p3, rfl, rfl, rfl⟩ := ReqIn.form (S := fun g => (w.alloc (.cells #[.int .i64 0, .string ⟨#[]⟩, .int .i64 0, .int .i64 0, .int .i64 0, .bool false, .int .i64 0, .int .i64 0, .int .i64 0, .int .i64 0, .int .i64 0, .slice none 0 0, .int .i64 0, .string ⟨#[]⟩, .string ⟨#[]⟩, .slice none 0 0, .string ⟨#[]⟩, .int .i64 0, .int .i64 0, .slice none 0 0] 36)).heap.size ≤ g) hin
  have hqb := HB0.out.keeps hk
  have HIN := Lib.hid (show ReqIn (fun g => (w.alloc (.cells #[.int .i64 0, .string ⟨#[]⟩, .int .i64 0, .int .i64 0, .int .i64 0, .bool false, .int .i64 0, .int .i64 0, .int .i64 0, .int .i64 0, .int .i64 0, .slice none 0 0, .int .i64 0, .string ⟨#[]⟩, .string ⟨#[]⟩, .slice none 0 0, .string ⟨#[]⟩, .int .i64 0, .int .i64 0, .slice none 0 0] 36)).heap.size ≤ g) w1 q _ _ _ from hin)
  have HTH := Lib.hid (there_req (q' := q) (x := .slice s1 n1 p1) (y := .slice s2 n2 p2) (z := .slice s3 n3 p3) hqb)
  have HQ2 := Lib.hid (setCells_req (q' := q) (x := .slice s1 n1 p1) (y := .slice s2 n2 p2) (z := .slice s3 n3 p3) hqb)
  have HLV := Lib.hid (run_loadVar_mid (P := Tryz.prog) _ w.heap.size 0 36 (reqList q (.slice s1 n1 p1) (.slice s2 n2 p2) (.slice s3 n3 p3)) _ (rng_req HQ2.out) Tryz.underlying36 rfl size_req)
  have HK := Lib.hid (HK0.out.trans hk)
  clear hqb hin hk
  rename_i hKK
  refine hKK _ _ ?_
  iterate 2
    refine wpList_plain (by rfl) fun _ hK => ?_
    go_simp
    refine hK _ _ ?_
    clear hK
  try simp only [Act.put, List.setIfInBounds_toArray, List.set_cons_zero, List.set_cons_succ]
  refine wpList_store_mid (by rfl) 36 (.tmp 2) (.tmp 6) (by rfl) w.heap.size 0 (reqCells q (.slice s1 n1 p1) (.slice s2 n2 p2) (.slice s3 n3 p3)) (by rfl) (by rfl) HTH.out size_req' one_req ?_
  generalize hW : w1.setCells w.heap.size 0 (reqCells q (.slice s1 n1 p1) (.slice s2 n2 p2) (.slice s3 n3 p3)).toList = W at *
  go_wp2_with fail
  have hlv := HLV.out
  refine bodyPost_ret (v := .tuple #[reqV q (.slice s1 n1 p1) (.slice s2 n2 p2) (.slice s3 n3 p3), .int .i64 z]) (results_cell2 rfl rfl rfl hlv) rfl ?_
  subst hW
  refine ⟨_, _, _, rfl, ReqIn.move (fun g hg hlt => ⟨?_, ?_⟩) HIN.out, Keeps.setCells (Nat.le_refl _) _ 0 HK.out⟩
  · simp only [World.size_alloc] at hg; omega
  · simp only [World.size_alloc] at hg
    exact (Two.setCells2 (c := w.heap.size) _ 0 (Two.refl w.heap.size w.heap.size w1)).block g hlt (by omega) (by omega)


end Go.Proofs.YtamiebojjinhcaaGreatDoor
