/-
  The contracts of the library that this seat reaches, laid at its translation (written by the kit's lay-plain).
  Functions that the walk takes by contracts: slices.Collect of a map's keys (at most one), at texts and at offsets' keys.
  slices.AppendSeq of an empty map's keys, the keys being offsets' keys.
-/
import Derived.Shelf.SlIter.Collect
import Derived.Ground.GgzProg
import Derived.Test.YtamiebojjinhcaaGreatDoorChecked
import Derived.Test.YtamiebojjinhcaaGreatDoorSxI
set_option linter.unusedVariables false
namespace Go.Proofs
open Go.Shelf
def Tryz.collect176_ren : Go.Shelf.Ren := ⟨fun | 8 => 176 | 11 => 211 | n => n, fun | 26 => 9 | 28 => 295 | 24 => 28 | 0 => 0 | 33 => 312 | 4 => 4 | n => n, fun | n => n⟩
theorem Tryz.collect176 : Go.Proofs.SlLaysZ.n8 Tryz.prog Tryz.collect176_ren := {
  mixed := by kernel_rfl
  f8 := ⟨Tryz.f176.name, by decide, Tryz.func176.trans (congrArg some (by kernel_rfl))⟩
  f11 := ⟨Tryz.f211.name, by decide, Tryz.func211.trans (congrArg some (by kernel_rfl))⟩
  t0 := Tryz.underlying0
  a0 := Tryz.isAgg0
  z0 := Tryz.sizeOf0
  v0 := Tryz.zeroValue0
  t24 := Tryz.underlying28
  a24 := Tryz.isAgg28
  z24 := Tryz.sizeOf28
  v24 := Tryz.zeroValue28
  t26 := Tryz.underlying9
  a26 := Tryz.isAgg9
  z26 := Tryz.sizeOf9
  v26 := Tryz.zeroValue9
  t28 := Tryz.underlying295
  a28 := Tryz.isAgg295
  z28 := Tryz.sizeOf295
  v28 := Tryz.zeroValue295
  i26 := by kernel_rfl }
def Tryz.keysit178_ren : Go.Shelf.Ren := ⟨fun | 10 => 178 | n => n, fun | 33 => 312 | 23 => 123 | 0 => 0 | 4 => 4 | 26 => 9 | 3 => 280 | n => n, fun | n => n⟩
theorem Tryz.keysit178 : Go.Proofs.SlLaysZ.n10 Tryz.prog Tryz.keysit178_ren := {
  mixed := by kernel_rfl
  f10 := ⟨Tryz.f178.name, by decide, Tryz.func178.trans (congrArg some (by kernel_rfl))⟩
  t0 := Tryz.underlying0
  a0 := Tryz.isAgg0
  z0 := Tryz.sizeOf0
  v0 := Tryz.zeroValue0
  t4 := Tryz.underlying4
  a4 := Tryz.isAgg4
  z4 := Tryz.sizeOf4
  v4 := Tryz.zeroValue4
  t23 := Tryz.underlying123
  a23 := Tryz.isAgg123
  z23 := Tryz.sizeOf123
  v23 := Tryz.zeroValue123
  t26 := Tryz.underlying9
  a26 := Tryz.isAgg9
  z26 := Tryz.sizeOf9
  v26 := Tryz.zeroValue9
  t33 := Tryz.underlying312
  a33 := Tryz.isAgg312
  z33 := Tryz.sizeOf312
  v33 := Tryz.zeroValue312 }
def Tryz.keysit223_ren : Go.Shelf.Ren := ⟨fun | 10 => 223 | n => n, fun | 33 => 312 | 23 => 248 | 0 => 0 | 4 => 4 | 26 => 9 | 3 => 290 | n => n, fun | n => n⟩
theorem Tryz.keysit223 : Go.Proofs.SlLaysZ.n10 Tryz.prog Tryz.keysit223_ren := {
  mixed := by kernel_rfl
  f10 := ⟨Tryz.f223.name, by decide, Tryz.func223.trans (congrArg some (by kernel_rfl))⟩
  t0 := Tryz.underlying0
  a0 := Tryz.isAgg0
  z0 := Tryz.sizeOf0
  v0 := Tryz.zeroValue0
  t4 := Tryz.underlying4
  a4 := Tryz.isAgg4
  z4 := Tryz.sizeOf4
  v4 := Tryz.zeroValue4
  t23 := Tryz.underlying248
  a23 := Tryz.isAgg248
  z23 := Tryz.sizeOf248
  v23 := Tryz.zeroValue248
  t26 := Tryz.underlying9
  a26 := Tryz.isAgg9
  z26 := Tryz.sizeOf9
  v26 := Tryz.zeroValue9
  t33 := Tryz.underlying312
  a33 := Tryz.isAgg312
  z33 := Tryz.sizeOf312
  v33 := Tryz.zeroValue312 }
end Go.Proofs

set_option linter.unusedSimpArgs false
namespace Go.Proofs.YtamiebojjinhcaaGreatDoor.Sx
variable {B : World}
open Go.WideElems (Fit rd rg)
open Go.RowKit

/-- slices.Collect of a map's keys: none or one. -/
def collectS (same : Nat → Bool) (T : Nat) (args : List SV) (σ : SW) : Option (SV × SW) := match args with
  | [.func g [] [.ptr (some (b, 0))]] => match same g with
    | false => none
    | true => match σ.h.get b with
      | some (.cells _ _ (.map (some m) :: _)) => match σ.h.get m with
        | some (.map [] _) => some (.sl none 0 (.known 0), σ)
        | some (.map [(.str k, _, c)] cl) => if c < cl ∧ k.length ≤ 1000 then σ.appK (.new (.cells T true [.str k])) fun τ => some (.sl (some (σ.n, 0)) 1 (.unk 1), τ) else none
        | _ => none
      | _ => none
  | _ => none

theorem collect_args {ρ : Rho} {σ : SW} {w : World} {g b : Nat} {us : List Value} (hv : VRs ρ [.func g [] [.ptr (some (b, 0))]] us) : ∃ B N, us = [.func (.func g) #[] #[.pointer (some ⟨B, 0, none⟩)]] ∧ ρ b = some (B, N) := by
  obtain ⟨u, rfl, hu⟩ := VRs.one hv
  cases hu with
  | func _ h1 h2 =>
    rename_i fs cs
    obtain ⟨p, hp, hpr⟩ := VRs.one h2
    cases hpr with
    | ptr _ eb =>
      have hf : fs = #[] := by
        have := h1.length
        simp at this
        exact Array.eq_empty_of_size_eq_zero this.symm
      subst hf
      have hc : cs = #[.pointer (some ⟨_, 0, none⟩)] := Array.ext' (by simpa using hp)
      subst hc
      exact ⟨_, _, rfl, eb⟩
/-- Of the elements nothing is asked. -/
def anyElem (_ : Value) : Option (DataW Unit × List MemPlace) := some (.lit (.bool true), [])
theorem owns_none {k : TypeId} {w : World} {M : Nat} {c : Nat} {ds : Array MapEntry} (h : w.heap[M]? = some (.map ds c)) (h0 : ds = #[]) : w.ownsMap Tryz.prog k anyElem M 0 (.map []) := by
  subst h0
  refine ⟨#[], c, h, ⟨by simp, ⟨by simp, by simp, by simp⟩, by simp⟩, by simp, by simp⟩
theorem owns_one {w : World} {M : Nat} {c : Nat} {e : MapEntry} {s : ByteArray} (h : w.heap[M]? = some (.map #[e] c)) (hk : e.key = .string s) (hs : s.size ≤ 1000) (hc : e.born < c) : w.ownsMap Tryz.prog 9 anyElem M 1 (.map [(.string s.data.toList, .lit (.bool true))]) := by
  have hkey : keyOf Tryz.prog 9 e.key = some (.string s.data.toList) := by
    rw [hk]
    unfold keyOf mapKey
    rw [show Tryz.prog.underlying 9 = some .string from Tryz.keysit178.t26]
    have : s.size ≤ maxLen := by simp only [maxLen]; omega
    simp [this]
  have hrd : rd Tryz.prog 9 anyElem e = some (.string s.data.toList, .lit (.bool true)) := by
    obtain ⟨ek, ev, eb⟩ := e
    exact Go.WideElems.rd_mk (R := anyElem) (yv := (.lit (.bool true), [])) hkey rfl
  refine ⟨#[e], c, h, ⟨by simp [maxLen], ⟨by simpa using hc, by simp, by simp⟩, by simp [hrd]⟩, by simp, ?_⟩
  simp [rg, hrd, DataW.insert]
/-- slices.Collect[string] where the iterator gives the keys of a map that is there. -/
theorem collect_gives {w : World} {g M nn : Nat} {D0 : DataW Unit} (hg : g = 178 ∨ g = 223) {B : Nat} (hB : B < w.heap.size) (hm : w.cell? ⟨B, 0, none⟩ = some (.map (some M))) (hown : w.ownsMap Tryz.prog 9 anyElem M nn D0) (hsz : Maps.size D0 ≤ 1) :
    Calls Tryz.prog 176 #[.func (.func g) #[] #[.pointer (some ⟨B, 0, none⟩)]] w fun e w' => ∃ (v : Value) (ss : List (List UInt8)), e = .returned v ∧ ss.Perm (strKeys D0) ∧ w'.ownsRow w.heap.size 9 1 v ss.length (ss.map encStr) ∧ (v = .slice none 0 0 ↔ ss = []) ∧ Below w.heap.size w w' := by
  have hseq : SeqGives Fence.wide 2 Tryz.prog g #[.pointer (some ⟨B, 0, none⟩)] encStr (fun ss => ss.Perm (strKeys D0)) (Maps.size D0) w := by
    rcases hg with rfl | rfl
    · exact AnyZ.keys_gives Tryz.keysit178 Fence.wide 2 trivial rfl (by omega) B M nn D0 w hB hm hown
    · exact AnyZ.keys_gives Tryz.keysit223 Fence.wide 2 trivial rfl (by omega) B M nn D0 w hB hm hown
  have heg : ∀ args w, (callFunc g args).run Tryz.prog w = .ok (.enter g args) w := by
    rcases hg with rfl | rfl
    · exact Tryz.keysit178.f10.enters rfl
    · exact Tryz.keysit223.f10.enters rfl
  exact callsIn_wide.1 (AnyZ.collect_in Tryz.collect176 Fence.wide 4 trivial trivial rfl (by omega) g _ trivial heg _ _ (by simp only [maxLen]; omega) (by omega) w hseq)
theorem collectS_spec {args : List SV} {σ σ' : SW} {v : SV} (h : collectS (fun g => Nat.beq g 178 || Nat.beq g 223) 9 args σ = some (v, σ')) {ρ : Rho} {us : List Value} {w : World} (hv : VRs ρ args us) (hw : WR B ρ σ w) :
    Calls Tryz.prog 176 us.toArray w fun e w' => ∃ ρ' u, ρ.le ρ' ∧ e = .returned u ∧ VR ρ' v u ∧ WR B ρ' σ' w' := by
  unfold collectS at h
  split at h
  · rename_i g b
    split at h
    · cases h
    · rename_i hg
      have hg' : g = 178 ∨ g = 223 := by
        rw [Bool.or_eq_true] at hg
        exact hg.imp Nat.eq_of_beq_eq_true Nat.eq_of_beq_eq_true
      obtain ⟨B, N, rfl, eb⟩ := collect_args (σ := σ) (w := w) hv
      split at h
      · rename_i e x m cs hgb
        obtain ⟨B', N', cur, fr, h1, h2, h3, h4, h5, h6, h7⟩ := hw.obj _ _ hgb
        rw [h1] at eb; injection eb with eb; injection eb with q1 q2; subst q1; subst q2
        obtain ⟨mv, hmv, hmr⟩ := h6.get (i := 0) (s := .map (some m)) (by simp)
        cases hmr with
        | map em =>
          rename_i M NM
          have hcell : w.cell? ⟨B', 0, none⟩ = some (.map (some M)) := by
            rw [cell_at h2]
            rw [List.getElem?_take] at hmv
            split at hmv
            · simpa using hmv
            · cases hmv
          have hB := hw.low _ _ _ h1
          split at h
          · rename_i cl hgm
            injection h with h; injection h with q1 q2; subst q1; subst q2
            obtain ⟨M', N2, ds, g1, g2, g3⟩ := hw.obj _ _ hgm
            rw [g1] at em; injection em with em; injection em with q1 q2; subst q1
            have hds : ds = #[] := by
              have := g3.length
              simp at this
              exact Array.eq_empty_of_size_eq_zero this.symm
            refine (collect_gives hg' hB hcell (owns_none g2 hds) (by simp [Maps.size])).mono ?_
            rintro e w' ⟨v, ss, rfl, hperm, hrow, hnil, hbel⟩
            have hss : ss = [] := by simpa [strKeys] using hperm
            have hvn := hnil.2 hss
            subst hvn
            exact ⟨ρ, _, .refl ρ, rfl, .nsl 0 0, hw.keeps hbel⟩
          · rename_i k vv c cl hgm
            split at h
            · rename_i hcond
              simp only [SW.appK_eq] at h
              injection h with h; injection h with q1 q2; subst q1; subst q2
              obtain ⟨M', N2, ds, g1, g2, g3⟩ := hw.obj _ _ hgm
              rw [g1] at em; injection em with em; injection em with q1 q2; subst q1
              generalize hdl : ds.toList = dl at g3
              cases g3 with
              | cons hk hvv hcc hrest =>
                rename_i ent dl
                cases hrest
                have hds : ds = #[ent] := Array.ext' (by simpa using hdl)
                subst hds
                generalize hkx : SV.str k = kx at hk
                generalize hky : ent.key = ky at hk
                cases hk <;> cases hkx
                rename_i s
                have hsz : s.size ≤ 1000 := by have := hcond.2; simpa using this
                have hborn : ent.born < cl := by rw [← hcc]; exact hcond.1
                refine (collect_gives hg' hB hcell (owns_one g2 hky hsz hborn) (by simp [Maps.size])).mono ?_
                rintro e w' ⟨v, ss, rfl, hperm, hrow, hnil, hbel⟩
                have hss : ss = [s.data.toList] := by simpa [strKeys, strOf] using hperm
                subst hss
                rcases hrow.2 with ⟨hv0, _⟩ | ⟨gb, cap, cur2, hv1, hge, hhp, hn1, hn2, hn3, hn4⟩
                · exact absurd (hnil.1 hv0) (by simp)
                · subst hv1
                  have hgl : gb < w'.heap.size := (Array.getElem?_eq_some_iff.1 hhp).1
                  simp at hn1 hn3 hn4
                  refine ⟨ρ.put σ.n (gb, cap), _, Rho.put_le hw _, rfl, .slu 0 1 1 cap (Rho.put_at _ _ _) (by simpa using hn1) (by omega), ?_⟩
                  refine hw.named _ gb cap hbel hgl hge ?_
                  refine ⟨gb, cap, cur2, (0, 0), Rho.put_at _ _ _, hhp, hn3, by simpa using hn1, (fun h => by cases h), ?_, fun q _ h => by simp at h⟩
                  rw [show ([SV.str (s.data.toList.map UInt8.toNat)] : List SV).length = 1 from rfl, hn4]
                  exact .cons (VR.str' rfl) .nil
            · cases h
          · cases h
      · cases h
  · cases h
end Go.Proofs.YtamiebojjinhcaaGreatDoor.Sx

set_option linter.unusedSimpArgs false
namespace Go.Proofs.YtamiebojjinhcaaGreatDoor.Sx
open Go.RowKit Go.Maps Go.Sort Go.Shelf

theorem run_next_none (w : World) (ty : TypeId) (M c : Nat) (hb : w.heap[M]? = some (.map #[] c)) :
    (Instr.next (.pointer (some ⟨w.heap.size, 0, none⟩)) false ty).run Tryz.prog (w.alloc (.mapIter (some M) c #[] c)) = .ok (.tuple #[.bool false]) (w.alloc (.mapIter (some M) c #[] c)) := by
  rcases run_next_map (P := Tryz.prog) w ty M c c #[] #[] c hb (by simp) (Nat.le_refl _) with h | ⟨e, he, _⟩
  · exact h.2
  · simp [leftOf] at he
set_option maxRecDepth 100000 in
set_option maxHeartbeats 1000000 in
theorem keys0_in (n l B M c : Nat) (W : World) (hm : W.cell? ⟨B, 0, none⟩ = some (.map (some M))) (hb : W.heap[M]? = some (.map #[] c)) :
    CallsIn Fence.wide n Tryz.prog 141 #[.func (.yield l) #[] #[], .pointer (some ⟨B, 0, none⟩)] W fun e W' => (∃ v, e = .returned v) ∧ W' = W.alloc (.mapIter (some M) c #[] c) := by
  have t0 := Tryz.underlying0; have a0 := Tryz.isAgg0; have z0 := Tryz.sizeOf0; have t4 := Tryz.underlying4; have a4 := Tryz.isAgg4; have z4 := Tryz.sizeOf4; have t232 := Tryz.underlying232; have a232 := Tryz.isAgg232; have z232 := Tryz.sizeOf232
  refine callsIn_of_wp Tryz.func141 rfl trivial ?_ rfl
  simp only [Tryz.ntmps141, List.size_toArray, List.length_cons, List.length_nil, Nat.reduceAdd, Nat.reduceSub, Array.replicate_succ, Array.replicate_zero, List.push_toArray, List.append_toArray, List.nil_append, List.cons_append]
  have hrg := run_range_map (P := Tryz.prog) W 232 169 3 M #[] c (by kernel_rfl) hb
  have hnx := fun ty => run_next_none W ty M c hb
  gi_wp2
  refine wpIn_loop_rounds 1 ?_
  rw [roundsIn_succ]
  gi_wp2
  go_end0
  exact ⟨⟨_, rfl⟩, rfl⟩
/-- A range over a function, begun. -/
theorem wpIn_rangeFunc_begun {P : Program} {n f : Nat} {lb : Array Value} {g : Operand} {ps : Array Tmp} {assign body : Code} {Q : Exit → Act → World → Prop} {a : Act} {w : World} (hn : 1 ≤ n) (hg : a.eval g = .func (.func f) #[] lb) (eg : ∀ args w, (callFunc f args).run P w = .ok (.enter f args) w)
    (h : ∀ r : Loop, r.state = .ready → r.pending = none → CallsIn Fence.wide (n - 1) P f (#[.func (.yield (w.heap.size + 1)) #[] #[]] ++ lb) ((w.alloc (.deferred (some []))).alloc (.loop r))
      (rangePost Fence.wide n P (w.heap.size + 1) Q { a with defers := [{ target := .collected w.heap.size, args := #[] }] ++ a.defers })) : (Code.rangeFunc g ps assign body).wpIn Fence.wide n P Q a w := by
  refine wpIn_rangeFunc ?_
  intro fn hfn
  rw [show Fence.wide.round = none from rfl]
  obtain ⟨r, hr⟩ : ∃ r : Loop, r = { state := .ready, pending := none, fn, tmps := a.tmps, params := ps, assign, body, defers := w.heap.size } := ⟨_, rfl⟩
  have h1 : (Instr.enterLoop fn a.tmps ps assign body none).run P w = .ok (w.heap.size + 1, [{ target := .collected w.heap.size, args := #[] }]) ((w.alloc (.deferred (some []))).alloc (.loop r)) := by
    rw [hr]; exact run_enterLoop_outer (P := P) (w := w) fn a.tmps ps assign body
  have h5 := h r (by rw [hr]) (by rw [hr])
  clear hr h
  generalize (w.alloc (.deferred (some []))).alloc (.loop r) = w1 at h1 h5
  generalize w.heap.size + 1 = l at h1 h5
  have h2 : (resolve a.eval (rangeCall g l) 0).run P w1 = .ok { target := .fn (.func f) lb, args := #[.func (.yield l) #[] #[]] } w1 := by
    unfold rangeCall resolve
    simp [hg, Deferred.ofValue]
    rfl
  have h4 : (invoke (.fn (.func f) lb) #[.func (.yield l) #[] #[]]).run P w1 = .ok (.enter f (#[.func (.yield l) #[] #[]] ++ lb)) w1 := by
    simp [invoke, go_sem, eg]
  exact ⟨l, _, w1, _, w1, f, _, w1, h1, h2, fun _ _ => True.intro, h4, fun _ => hn, h5⟩
set_option maxRecDepth 100000 in
set_option maxHeartbeats 2000000 in
theorem append0_in (B M c : Nat) (w : World) (hB : B < w.heap.size) (hm : w.cell? ⟨B, 0, none⟩ = some (.map (some M))) (hb : w.heap[M]? = some (.map #[] c)) :
    Calls Tryz.prog 170 #[.slice none 0 0, .func (.func 141) #[] #[.pointer (some ⟨B, 0, none⟩)]] w fun e w' => e = .returned (.slice none 0 0) ∧ Below w.heap.size w w' := by
  have t0 := Tryz.underlying0; have a0 := Tryz.isAgg0; have z0 := Tryz.sizeOf0; have t164 := Tryz.underlying164; have a164 := Tryz.isAgg164; have z164 := Tryz.sizeOf164; have t230 := Tryz.underlying230; have a230 := Tryz.isAgg230; have z230 := Tryz.sizeOf230
  have hM : M < w.heap.size := (Array.getElem?_eq_some_iff.1 hb).1
  have eg : ∀ args w, (callFunc 141 args).run Tryz.prog w = .ok (.enter 141 args) w := Go.Proofs.enters_of Tryz.func141 (by kernel_rfl) rfl
  refine callsIn_wide (n := 4).1 ?_
  refine callsIn_of_wp_marks Tryz.func170 rfl trivial ?_ rfl
  simp only [Tryz.ntmps170, List.size_toArray, List.length_cons, List.length_nil, Nat.reduceAdd, Nat.reduceSub, Array.replicate_succ, Array.replicate_zero, List.push_toArray, List.append_toArray, List.nil_append, List.cons_append]
  gi_wp2
  refine wpIn_rangeFunc_begun (f := 141) (lb := #[.pointer (some ⟨B, 0, none⟩)]) (by omega) rfl eg ?_
  obtain ⟨W0, hW0⟩ : ∃ W0, w.alloc (.cells #[.slice none 0 0] 164) = W0 := ⟨_, rfl⟩
  have hs0 : W0.heap.size = w.heap.size + 1 := by rw [← hW0]; simp
  have hv0 : W0.heap[w.heap.size]? = some (.cells #[.slice none 0 0] 164 (0, 0)) := by rw [← hW0]; exact World.alloc_heap_new w _
  have hb0 : Below w.heap.size w W0 := by rw [← hW0]; exact (Below.refl _ w).alloc (Nat.le_refl _) _
  rw [hW0]
  intro r hrs0 hrp
  have hrs : r.state ≠ .busy := by rw [hrs0]; simp
  · skip
    obtain ⟨W1, hW1⟩ : ∃ W1, (W0.alloc (.deferred (some []))).alloc (.loop r) = W1 := ⟨_, rfl⟩
    have hold : ∀ k, k < W0.heap.size → W1.heap[k]? = W0.heap[k]? := fun k hk => by
      rw [← hW1]; exact (Below.heap_alloc _ _ k (by simp; omega)).trans (Below.heap_alloc _ _ k hk)
    have hb1 : Below w.heap.size w W1 := by rw [← hW1]; exact (hb0.alloc hb0.size _).alloc (by have := hb0.size; simp; omega) _
    have hs1 : W1.heap.size = W0.heap.size + 2 := by rw [← hW1]; simp
    have hL1 : W1.heap[W0.heap.size + 1]? = some (.loop r) := by rw [← hW1]; have := World.alloc_heap_new (W0.alloc (.deferred (some []))) (.loop r); rwa [World.size_alloc] at this
    have hK1 : W1.heap[W0.heap.size]? = some (.deferred (some [])) := by rw [← hW1]; exact (Below.heap_alloc _ _ _ (by simp)).trans (World.alloc_heap_new W0 _)
    rw [hW1]
    refine (keys0_in 3 (W0.heap.size + 1) B M c W1 ((hb1.cell (p := ⟨B, 0, none⟩) hB).trans hm) ((hb1.block M hM).trans hb)).mono ?_
    rintro e W2 ⟨⟨v0, rfl⟩, rfl⟩
    obtain ⟨W2, hW2⟩ : ∃ W2, W1.alloc (.mapIter (some M) c #[] c) = W2 := ⟨_, rfl⟩
    have hold2 : ∀ k, k < W1.heap.size → W2.heap[k]? = W1.heap[k]? := fun k hk => by rw [← hW2]; exact Below.heap_alloc _ _ k hk
    have hb2 : Below w.heap.size w W2 := by rw [← hW2]; exact hb1.alloc hb1.size _
    have hL2 := (hold2 (W0.heap.size + 1) (by omega)).trans hL1
    have hK2 := (hold2 W0.heap.size (by omega)).trans hK1
    have hv2 : W2.heap[w.heap.size]? = some (.cells #[.slice none 0 0] 164 (0, 0)) := (hold2 _ (by omega)).trans ((hold _ (by omega)).trans hv0)
    rw [hW2]
    have hend := run_endLoop (P := Tryz.prog) hL2 hrs
    obtain ⟨W3, hW3⟩ : ∃ W3, W2.putObj (W0.heap.size + 1) (.loop { r with state := .exhausted }) = W3 := ⟨_, rfl⟩
    rw [hW3, hrp] at hend
    have hg3 : W2.grownBy W3 (some (W0.heap.size + 1)) := by rw [← hW3]; exact Go.Proofs.grownBy_putObj_a _ _ _
    have hv3 : W3.heap[w.heap.size]? = some (.cells #[.slice none 0 0] 164 (0, 0)) := by rw [← hW3]; exact (World.putObj_heap_other (by omega)).trans hv2
    have hK3 : W3.heap[W0.heap.size]? = some (.deferred (some [])) := by rw [← hW3]; exact (World.putObj_heap_other (by omega)).trans hK2
    have hb3 : Below w.heap.size w W3 := hb2.grown hg3 hb2.size (fun k e => by cases e; omega)
    obtain ⟨hc3, hf3⟩ := Go.Proofs.cell_of_box_a hv3
    clear hW3 hW2
    refine ⟨none, W3, hend, ?_⟩
    gi_wp2
    rw [← hs0]
    refine ⟨by simp, .inl ⟨_, _, rfl, run_takeDeferred hK3, ?_⟩⟩
    exact ⟨_, results_tmp rfl _ _ _, rfl, hb3.grown (Go.Proofs.grownBy_putObj_a _ _ _) hb3.size (fun k e => by cases e; omega)⟩
end Go.Proofs.YtamiebojjinhcaaGreatDoor.Sx
