/-
  All operations that read alone.
  The operations that read alone: one theorem.
-/
import Derived.Test.YtamiebojjinhcaaGreatDoorSxQ
set_option linter.unusedVariables false
set_option linter.unusedSimpArgs false
namespace Go.Proofs.YtamiebojjinhcaaGreatDoor.Sx
variable {P : Program} {ρ : Rho} {σ : SW} {w : World}

theorem extract_toList (s : ByteArray) (l h : Nat) : (s.extract l h).data.toList = (s.data.toList.drop l).take (h - l) := by
  simp [ByteArray.data_extract, Array.toList_extract, List.extract_eq_take_drop]
/-- The bounds of a text. -/
theorem sliceString_spec {t : Nat} (ht : P.underlying t = some .string) {lo hi : Option Operand} {a : Act} {s : List Nat} {xs : List SV} {r : SV} (h : sliceS .string lo.isSome hi.isSome false (.str s :: xs) = some r) {u : Value} (hu : VR ρ (.str s) u)
    (hx : VRs ρ xs ((lo.toList ++ hi.toList).map a.eval)) : ∃ z, (Instr.sliceAt t u (lo.map a.eval) (hi.map a.eval) none).run P w = .ok z w ∧ VR ρ r z := by
  generalize hs : SV.str s = x at hu
  cases hu <;> cases hs
  rename_i s
  have fin : ∀ l q, (Value.string (s.extract l q)) = .string (s.extract l q) → VR ρ (.str (((s.data.toList.map UInt8.toNat).drop l).take (q - l))) (.string (s.extract l q)) := fun l q _ => by
    refine VR.str' ?_
    rw [extract_toList, List.map_take, List.map_drop]
  have hsz : (s.data.toList.map UInt8.toNat).length = s.size := by simp
  simp only [sliceS, hsz] at h
  cases lo with
  | none =>
    cases hi with
    | none =>
      cases hx
      simp only [Option.isSome] at h
      injection h with h; subst h
      refine ⟨_, ?_, fin 0 s.size rfl⟩
      · simp [Instr.sliceAt, Instr.slice, Instr.sliceBounds, run_underlying ht]
    | some hi =>
      cases hx with
      | cons h1 h2 =>
        cases h2
        simp only [Option.isSome] at h
        split at h
        · rename_i l q heq
          injection h with h; subst h
          split at heq
          · rename_i q' hb
            injection heq with heq; injection heq with e1 e2; subst e1; subst e2
            obtain ⟨hr, hle⟩ := boundS_spec (P := P) (w := w) hb h1 .sliceAlen
            refine ⟨_, ?_, fin 0 q' rfl⟩
            have hr' : (Instr.sliceBound (a.eval hi) s.size .sliceAlen).run P w = .ok q' w := hr
            simp [Instr.sliceAt, Instr.slice, Instr.sliceBounds, run_underlying ht, hr']
          · cases heq
        · cases h
  | some lo =>
    cases hi with
    | none =>
      cases hx with
      | cons h1 h2 =>
        cases h2
        simp only [Option.isSome] at h
        split at h
        · rename_i l q heq
          injection h with h; subst h
          split at heq
          · rename_i q' hb
            injection heq with heq; injection heq with e1 e2; subst e1; subst e2
            obtain ⟨hr, hle⟩ := boundS_spec (P := P) (w := w) hb h1 .sliceB
            have hr' : (Instr.sliceBound (a.eval lo) s.size .sliceB).run P w = .ok q' w := hr
            refine ⟨.string (s.extract q' s.size), ?_, ?_⟩
            · simp [Instr.sliceAt, Instr.slice, Instr.sliceBounds, run_underlying ht, hr']
            · exact fin q' s.size rfl
          · cases heq
        · cases h
    | some hi =>
      cases hx with
      | cons h1 h2 =>
        cases h2 with
        | cons h2 h3 =>
          cases h3
          simp only [Option.isSome] at h
          split at h
          · rename_i l q heq
            injection h with h; subst h
            split at heq
            · rename_i q' hb
              split at heq
              · rename_i l' hb'
                injection heq with heq; injection heq with e1 e2; subst e1; subst e2
                obtain ⟨hr, hle⟩ := boundS_spec (P := P) (w := w) hb h2 .sliceAlen
                obtain ⟨hr2, hle2⟩ := boundS_spec (P := P) (w := w) hb' h1 .sliceB
                have hr' : (Instr.sliceBound (a.eval hi) s.size .sliceAlen).run P w = .ok q' w := hr
                refine ⟨_, ?_, fin l' q' rfl⟩
                simp [Instr.sliceAt, Instr.slice, Instr.sliceBounds, run_underlying ht, hr', hr2]
              · cases heq
            · cases heq
          · cases h
theorem addr_zero (a : Addr) : a.add 0 = a := by simp [Addr.add]
/-- A slice's room is at least what a bound was checked against. -/
theorem capOk_spec {a : Option (Nat × Nat)} {n h : Nat} {c : Cap} {b : Option Addr} {m k : Nat} (hv : VR ρ (.sl a n c) (.slice b m k)) (hc : capOk c h = true) (hn : h ≤ n) : h ≤ k := by
  generalize hx : SV.sl a n c = x at hv
  generalize hy : Value.slice b m k = y at hv
  cases hv <;> cases hx <;> cases hy
  · simpa [capOk] using hc
  · simpa [capOk] using hc
  · omega
theorem VR.slice_h {a : Option (Nat × Nat)} {n h : Nat} {c : Cap} {b : Option Addr} {m k : Nat} (hv : VR ρ (.sl a n c) (.slice b m k)) (hn : h ≤ n) : VR ρ (.sl a h c) (.slice b h k) := by
  generalize hx : SV.sl a n c = x at hv
  generalize hy : Value.slice b m k = y at hv
  cases hv <;> cases hx <;> cases hy
  · exact .nsl _ _
  · rename_i e; exact .slk _ _ _ e
  · exact .slu _ _ _ _ (by assumption) (by omega) (by assumption)
theorem VR.slice_form {a : Option (Nat × Nat)} {n : Nat} {c : Cap} {u : Value} (hv : VR ρ (.sl a n c) u) : ∃ b k, u = .slice b n k := by
  cases hv <;> exact ⟨_, _, rfl⟩
theorem VR.slice_zero {a : Option (Nat × Nat)} {n : Nat} {c : Cap} {b : Option Addr} {m k : Nat} (hv : VR ρ (.sl a n c) (.slice b m k)) : VR ρ (.sl a 0 (.known 0)) (.slice b 0 0) := by
  generalize hx : SV.sl a n c = x at hv
  generalize hy : Value.slice b m k = y at hv
  cases hv <;> cases hx <;> cases hy
  · exact .nsl _ _
  · rename_i e; exact .slk _ _ _ e
  · rename_i e h1 h2; exact .slk _ _ _ e
theorem slicePart_spec {t e : Nat} (ht : P.underlying t = some (.slice e)) {sz : Nat} (hsz : sizeS P e = some sz) {lo hi mx : Option Operand} {a : Act} {x : SV} {xs : List SV} {r : SV} (h : sliceS (.slice e) lo.isSome hi.isSome mx.isSome (x :: xs) = some r) {u : Value} (hu : VR ρ x u)
    (hx : VRs ρ xs ((lo.toList ++ hi.toList ++ mx.toList).map a.eval)) : ∃ z, (Instr.sliceAt t u (lo.map a.eval) (hi.map a.eval) (mx.map a.eval)).run P w = .ok z w ∧ VR ρ r z := by
  cases mx with
  | none =>
    unfold sliceS at h
    split at h
    · exact absurd (by assumption : TypeDesc.slice e = TypeDesc.string) (by simp)
    · rename_i b n c r' heq1 heq2 heq3
      injection heq3 with e1 e2; subst e1; subst e2
      obtain ⟨b', k, rfl⟩ := hu.slice_form
      cases lo with
      | none =>
        cases hi with
        | none =>
          cases hx
          simp only [Option.isSome] at h
          injection h with h; subst h
          refine ⟨_, ?_, hu⟩
          simp [Instr.sliceAt, Instr.slice, Instr.sliceBounds, run_underlying ht, sizeS_spec hsz, addr_zero]
          try (cases b' <;> simp [addr_zero])
        | some hi =>
          cases hx with
          | cons h1 h2 =>
            cases h2
            simp only [Option.isSome] at h
            split at h
            · rename_i q hb
              split at h
              · rename_i hco
                injection h with h; subst h
                have hle := (boundS_spec (P := P) (w := w) hb h1 .sliceAcap).2
                have hqk := capOk_spec hu hco hle
                have hr : (Instr.sliceBound (a.eval hi) k .sliceAcap).run P w = .ok q w := by
                  refine (boundS_spec (P := P) (w := w) (x := _) (y := k) (n := q) ?_ h1 .sliceAcap).1
                  unfold boundS at hb ⊢
                  split at hb
                  · split at hb
                    · split at hb
                      · injection hb with hb; subst hb; simp [hqk]
                      · cases hb
                    · cases hb
                  · cases hb
                refine ⟨.slice b' q k, ?_, hu.slice_h hle⟩
                simp [Instr.sliceAt, Instr.slice, Instr.sliceBounds, run_underlying ht, sizeS_spec hsz, hr]
                try (cases b' <;> simp [addr_zero])
              · cases h
            · cases h
      | some lo =>
        cases hi with
        | none =>
          cases hx with
          | cons h1 h2 =>
            cases h2
            simp only [Option.isSome] at h
            split at h
            · rename_i hb
              injection h with h; subst h
              have hr := (boundS_spec (P := P) (w := w) hb h1 .sliceB).1
              refine ⟨_, ?_, hu⟩
              simp [Instr.sliceAt, Instr.slice, Instr.sliceBounds, run_underlying ht, sizeS_spec hsz, hr]
              try (cases b' <;> simp [addr_zero])
            · cases h
        | some hi => simp only [Option.isSome] at h; cases h
    · exact absurd (by assumption : (none : Option Operand).isSome = true) (by simp)
    · cases h
  | some mx =>
    unfold sliceS at h
    split at h
    · exact absurd (by assumption : TypeDesc.slice e = TypeDesc.string) (by simp)
    · exact absurd (by assumption : (some mx : Option Operand).isSome = false) (by simp)
    · rename_i b n c r' heq1 heq2 heq3
      injection heq3 with e1 e2; subst e1; subst e2
      obtain ⟨b', k, rfl⟩ := hu.slice_form
      cases lo with
      | some lo => cases hi <;> simp only [Option.isSome] at h <;> cases h
      | none =>
        cases hi with
        | none => simp only [Option.isSome] at h; cases h
        | some hi =>
          cases hx with
          | cons h1 h2 =>
            cases h2 with
            | cons h2 h3 =>
              cases h3
              simp only [Option.isSome] at h
              split at h
              · rename_i m' q' hb1 hb2
                injection h with h; subst h
                obtain ⟨hr1, l1⟩ := boundS_spec (P := P) (w := w) hb1 h2 .slice3Acap
                obtain ⟨hr2, l2⟩ := boundS_spec (P := P) (w := w) hb2 h1 .slice3B
                have hm0 : m' = 0 := by omega
                have hq0 : q' = 0 := by omega
                subst hm0; subst hq0
                have hr1' : (Instr.sliceBound (a.eval mx) k .slice3Acap).run P w = .ok 0 w := by
                  refine (boundS_spec (P := P) (w := w) (x := _) (y := k) (n := 0) ?_ h2 .slice3Acap).1
                  unfold boundS at hb1 ⊢
                  split at hb1
                  · split at hb1
                    · split at hb1
                      · injection hb1 with hb1; subst hb1; simp
                      · cases hb1
                    · cases hb1
                  · cases hb1
                refine ⟨.slice b' 0 0, ?_, hu.slice_zero⟩
                simp [Instr.sliceAt, Instr.slice, Instr.sliceBounds, run_underlying ht, sizeS_spec hsz, hr1', hr2]
              · cases h
    · cases h
theorem sliceArr_spec {t n e : Nat} (ht : P.underlying t = some (.array n e)) {lo hi mx : Option Operand} {a : Act} {x r : SV} (h : sliceArr n (sizeS P e) lo.isSome hi.isSome mx.isSome x = some r) {u : Value} (hu : VR ρ x u) :
    ∃ z, (Instr.sliceAt t u (lo.map a.eval) (hi.map a.eval) (mx.map a.eval)).run P w = .ok z w ∧ VR ρ r z := by
  unfold sliceArr at h
  split at h
  · rename_i sz ad hz h1 h2 h3
    injection h with h; subst h
    cases lo <;> simp at h1
    cases hi <;> simp at h2
    cases mx <;> simp at h3
    obtain ⟨b, o⟩ := ad
    cases hu with
    | ptr _ eb =>
      refine ⟨_, ?_, .slk _ _ _ eb⟩
      simp [Instr.sliceAt, Instr.sureAddr, Instr.sliceBounds, run_underlying ht, sizeS_spec hz, addr_zero]
  · cases h
theorem lenS_spec {t : Nat} {d : TypeDesc} (hd : P.underlying t = some d) {x r : SV} {h : H} (hl : lenS d x h = some r) {u : Value} (hu : VR ρ x u) (ho : ∀ i o, h.get i = some o → OR ρ w i o) {ts : Array TypeId} (hts : ts[0]? = some t) (ty : TypeId) :
    ∃ z, (Builtin.len_ ts ty #[u]).run P w = .ok z w ∧ VR ρ r z := by
  unfold lenS at hl
  split at hl
  · injection hl with hl; subst hl
    cases hu
    rename_i s
    refine ⟨.int .i64 s.size, by simp [Builtin.len_, hts, run_underlying hd, goInt], ?_⟩
    have hsz : (s.data.toList.map UInt8.toNat).length = s.size := by simp
    rw [hsz]
    exact .int _ _
  · injection hl with hl; subst hl
    obtain ⟨b, k, rfl⟩ := hu.slice_form
    exact ⟨_, by first | (simp [Builtin.len_, hts, run_underlying hd, goInt]; done) | (simp [Builtin.len_, hts, run_underlying hd, goInt]; rfl), .int _ _⟩
  · injection hl with hl; subst hl
    cases hu
    exact ⟨_, by first | (simp [Builtin.len_, hts, run_underlying hd, goInt]; done) | (simp [Builtin.len_, hts, run_underlying hd, goInt]; rfl), .int _ _⟩
  · split at hl
    · rename_i b es c hg
      injection hl with hl; subst hl
      cases hu with
      | map eb =>
        obtain ⟨g, N, ds, h1, h2, h3⟩ := ho _ _ hg
        rw [h1] at eb; injection eb with eb; injection eb with e1 e2; subst e1
        refine ⟨.int .i64 ds.size, by simp [Builtin.len_, hts, run_underlying hd, goInt, MapKept.run_getObj_map h2], ?_⟩
        rw [h3.length]
        exact .int _ _
    · cases hl
  · cases hl

theorem foldl_lay (off : Nat) : ∀ (us : List Value) (j : Nat) (ds : Array Value), off + j + us.length ≤ ds.size → ((us.zipIdx j).foldl (fun cs (x : Value × Nat) => cs.setIfInBounds (off + x.2) x.1) ds).toList = ds.toList.take (off + j) ++ us ++ ds.toList.drop (off + j + us.length)
  | [], j, ds, _ => by simp
  | u :: us, j, ds, h => by
    simp only [List.zipIdx_cons, List.foldl_cons]
    rw [foldl_lay off us (j + 1) _ (by simp at h ⊢; omega)]
    have e := list_seg_step ds.toList (off + j) u us (by simp at h ⊢; omega)
    simpa [Array.toList_setIfInBounds, Nat.add_assoc] using e
theorem fillS_spec {place : Nat → Option (Nat × Nat)} : ∀ (ix : List Nat) {vs : List SV} {us : List Value} {cells : List SV} {ds : Array Value} {r : List SV}, VRs ρ vs us → VRs ρ cells ds.toList → fillS place cells (ix.zip vs) = some r →
    ∃ z, Instr.fill place ds (ix.zip us) = some z ∧ VRs ρ r z.toList
  | [], vs, us, cells, ds, r, _, hc, h => by simp [fillS] at h; subst h; exact ⟨ds, by simp [Instr.fill], hc⟩
  | i :: ix, [], us, cells, ds, r, hv, hc, h => by cases hv; simp [fillS] at h; subst h; exact ⟨ds, by simp [Instr.fill], hc⟩
  | i :: ix, v :: vs, us, cells, ds, r, hv, hc, h => by
    cases hv with
    | cons hv hvs =>
      rename_i u us
      simp only [List.zip_cons_cons, fillS] at h
      split at h
      · cases h
      · rename_i off size hp
        split at h
        · rename_i hcond
          split at h
          · rename_i cells' hlay
            have hcu := hv.cells
            have hl := lay_spec' hlay (by omega)
            have hlen := hcu.length
            have hlen2 := hc.length
            have hlen3 : v.cells.length = u.cells.size := by simpa using hlen
            have hlen4 : cells.length = ds.size := by simpa using hlen2
            have hfold := foldl_lay off u.cells.toList 0 ds (by simp; omega)
            have hr' : VRs ρ cells' (u.cells.toList.zipIdx.foldl (fun cs (x : Value × Nat) => cs.setIfInBounds (off + x.2) x.1) ds).toList := by
              rw [hfold, hl]
              simpa using hc.laid hcu off
            obtain ⟨z, hz, hzr⟩ := fillS_spec ix hvs hr' h
            refine ⟨z, ?_, hzr⟩
            simp only [List.zip_cons_cons, Instr.fill, hp]
            rw [if_neg (by simp; omega), ← hz]
            congr 1
            rw [← Array.foldl_toList]
            simp
          · cases h
        · cases h
theorem VRs.one {x : SV} {us : List Value} (h : VRs ρ [x] us) : ∃ u, us = [u] ∧ VR ρ x u := by
  cases h with | cons a b => cases b; exact ⟨_, rfl, a⟩
theorem VRs.two {x y : SV} {us : List Value} (h : VRs ρ [x, y] us) : ∃ u v, us = [u, v] ∧ VR ρ x u ∧ VR ρ y v := by
  cases h with | cons a b => obtain ⟨v, rfl, hv⟩ := b.one; exact ⟨_, _, rfl, a, hv⟩
theorem VRs.three {x y z : SV} {us : List Value} (h : VRs ρ [x, y, z] us) : ∃ u v r, us = [u, v, r] ∧ VR ρ x u ∧ VR ρ y v ∧ VR ρ z r := by
  cases h with | cons a b => obtain ⟨v, r, rfl, hv, hr⟩ := b.two; exact ⟨_, _, _, rfl, a, hv, hr⟩
end Go.Proofs.YtamiebojjinhcaaGreatDoor.Sx

set_option linter.unusedSimpArgs false
namespace Go.Proofs.YtamiebojjinhcaaGreatDoor.Sx
variable {P : Program} {ρ : Rho} {σ : SW} {w : World}

theorem args_of {args : Array Operand} {f : Operand → Value} {l : List Value} (h : args.toList.map f = l) : args.map f = l.toArray := by
  apply Array.ext'
  simp [h]
theorem run_builtin (b : Builtin) (args : Array Operand) (ts : Array TypeId) (f : Operand → Value) (dst : Option Tmp) (ty : TypeId) (pos : String) (after : Array Edge) (g : Option (Nat × Bool)) :
    (execOp f { dst, op := .call { callee := .builtin b, args, argTypes := ts }, type := ty, pos, after, guard := g }).run P w =
      (builtin b ts ty (args.map fun | .const _ => true | _ => false) (args.map f)).run P w := by
  simp [execOp, resolve, invoke]
  rfl
theorem run_complexS (ts : Array TypeId) (t : TypeId) (k : FloatKind) (a b : Nat) : (Builtin.complex_ ts t #[.float k a, .float k b]).run P w = .ok (.complex k a b) w := by
  show Sem.run P (if k = k then pure (Value.complex k a b) else stuck "complex: parts of different kinds") w = _
  rw [if_pos rfl]; rfl
theorem run_realS (ts : Array TypeId) (t : TypeId) (k : FloatKind) (a b : Nat) : (Builtin.real_ ts t #[.complex k a b]).run P w = .ok (.float k a) w := rfl
theorem run_imagS (ts : Array TypeId) (t : TypeId) (k : FloatKind) (a b : Nat) : (Builtin.imag_ ts t #[.complex k a b]).run P w = .ok (.float k b) w := rfl
theorem mapFst (ps : Array (Nat × Operand)) (f : Operand → Value) : (ps.map fun (i, x) => (i, f x)).toList = (ps.toList.map Prod.fst).zip (ps.toList.map fun p => f p.2) := by
  rw [Array.toList_map]
  induction ps.toList with
  | nil => rfl
  | cons p l ih => simp at ih ⊢; exact ih

/-- **WHAT READS ALONE, SAID OF THE MODEL.** -/
theorem pureS_spec {op : Op} {vs : List SV} {r : SV} {a : Act} (h : pureS P σ.h op vs = some r) (hv : VRs ρ vs (op.operands.toList.map a.eval)) (ho : ∀ i o, σ.h.get i = some o → OR ρ w i o)
    (dst : Option Tmp) (ty : TypeId) (pos : String) (after : Array Edge) (g : Option (Nat × Bool)) :
    ∃ u, (execOp a.eval { dst, op, type := ty, pos, after, guard := g }).run P w = .ok (.value u) w ∧ VR ρ r u := by
  unfold pureS at h
  split at h
  · -- move
    injection h with h; subst h
    obtain ⟨u, e, hu⟩ := VRs.one hv
    simp [Op.operands] at e
    exact ⟨u, by simp [execOp, e], hu⟩
  · -- assign
    injection h with h; subst h
    obtain ⟨u, e, hu⟩ := VRs.one hv
    simp [Op.operands] at e
    exact ⟨u, by simp [execOp, e], hu⟩
  · -- pick
    rename_i _ co ao bo c x y
    injection h with h; subst h
    obtain ⟨u, v, z, e, hu, hx, hz⟩ := VRs.three hv
    simp [Op.operands] at e
    cases hu
    refine ⟨if c then v else z, ?_, ?_⟩
    · cases c <;> simp [execOp, e, asBool]
    · cases c <;> simp <;> assumption
  · -- build
    rename_i t ps
    have hv' : VRs ρ vs (ps.toList.map fun p => a.eval p.2) := by simpa [Op.operands, List.map_map, Function.comp_def] using hv
    split at h
    · rename_i z fs hz hu
      split at h
      · rename_i pl hpl
        split at h
        · rename_i cs hf
          injection h with h; subst h
          obtain ⟨it, zv, hit, hzv, hzz⟩ := zeroS_info hz
          obtain ⟨d, hd, hr⟩ := fillS_spec _ hv' (VR.cells (VR.ofVal (ρ := ρ) hzz)) hf
          refine ⟨.agg d, ?_, .agg hr⟩
          have hb : P.built t (ps.map fun (i, x) => (i, a.eval x)).toList = some d := by
            rw [mapFst]
            simp only [Program.built, hit, hu, hzv, hpl]
            simpa using hd
          simp [execOp, run_build w t _ d hb]
        · cases h
      · cases h
    · rename_i z n e hz hu
      split at h
      · rename_i sz hsz
        split at h
        · rename_i cs hf
          injection h with h; subst h
          obtain ⟨it, zv, hit, hzv, hzz⟩ := zeroS_info hz
          obtain ⟨ie, hie, rfl⟩ := sizeS_info hsz
          obtain ⟨d, hd, hr⟩ := fillS_spec _ hv' (VR.cells (VR.ofVal (ρ := ρ) hzz)) hf
          refine ⟨.agg d, ?_, .agg hr⟩
          have hb : P.built t (ps.map fun (i, x) => (i, a.eval x)).toList = some d := by
            rw [mapFst]
            simp only [Program.built, hit, hu, hzv, hie]
            exact hd
          simp [execOp, run_build w t _ d hb]
        · cases h
      · cases h
    · cases h
  · -- load
    rename_i t x b o
    obtain ⟨u, e, hu⟩ := VRs.one hv
    simp [Op.operands] at e
    cases hu with
    | ptr _ eb =>
      obtain ⟨u, h1, h2⟩ := run_loadS (i := b) h (fun o' h' => ho b o' h') eb
      exact ⟨u, by simp [execOp, e, Instr.loadAt, Instr.sureAddr, h1], h2⟩
  · -- nilCheck
    rename_i x v
    obtain ⟨u, e, hu⟩ := VRs.one hv
    simp [Op.operands] at e
    split at h
    · cases h
    · cases h
    · cases h
    · injection h with h; subst h
      refine ⟨u, ?_, hu⟩
      cases hu <;> first | (simp [execOp, e]; done) | (exfalso; simp_all; done)
  · -- binOp
    rename_i op t x y yt sx sy
    obtain ⟨u, v, e, hu, hx⟩ := VRs.two hv
    simp [Op.operands] at e
    obtain ⟨h1, z, h2, h3⟩ := binS_spec (w := w) h hu hx x y
    exact ⟨z, by simp [execOp, e, h1, h2], h3⟩
  · -- unOp
    obtain ⟨u, e, hu⟩ := VRs.one hv
    simp [Op.operands] at e
    obtain ⟨z, h2, h3⟩ := unS_spec (P := P) (w := w) h hu
    exact ⟨z, by simp [execOp, e, h2], h3⟩
  · -- convert
    obtain ⟨u, e, hu⟩ := VRs.one hv
    simp [Op.operands] at e
    obtain ⟨z, h2, h3⟩ := convT_spec h hu ho
    exact ⟨z, by simp [execOp, e, h2], h3⟩
  · -- makeInterface
    rename_i t x v
    obtain ⟨u, e, hu⟩ := VRs.one hv
    simp [Op.operands] at e
    split at h
    · cases h
    · cases h
    · rename_i d hd1 hd2
      injection h with h; subst h
      refine ⟨.iface t u, ?_, .iface t hu⟩
      cases d <;> first
        | (simp [execOp, e, Instr.makeInterface, run_underlying hd2]; done)
        | exact (hd1 _ rfl).elim
  · -- makeFunc
    rename_i f first captured
    injection h with h; subst h
    have hv' : VRs ρ vs (first.toList.map a.eval ++ captured.toList.map a.eval) := by simpa [Op.operands] using hv
    refine ⟨.func (.func f) (first.map a.eval) (captured.map a.eval), by simp [execOp, Instr.makeFunc], .func f ?_ ?_⟩
    · have := hv'.take first.size
      rwa [show (List.map a.eval first.toList ++ List.map a.eval captured.toList).take first.size = (first.map a.eval).toList by simp] at this
    · have := hv'.drop first.size
      rwa [show (List.map a.eval first.toList ++ List.map a.eval captured.toList).drop first.size = (captured.map a.eval).toList by simp] at this
  · -- slice
    rename_i t x lo hi mx sx xs
    have hv0 : VRs ρ (sx :: xs) (a.eval x :: (lo.toList ++ hi.toList ++ mx.toList).map a.eval) := by
      cases lo <;> cases hi <;> cases mx <;> simpa [Op.operands] using hv
    cases hv0 with
    | cons hu' hvs' =>
      have go : (∃ z, (Instr.sliceAt t (a.eval x) (lo.map a.eval) (hi.map a.eval) (mx.map a.eval)).run P w = .ok z w ∧ VR ρ r z) → ∃ u, (execOp a.eval { dst, op := .slice t x lo hi mx, type := ty, pos, after, guard := g }).run P w = .ok (.value u) w ∧ VR ρ r u :=
        fun ⟨z, h1, h2⟩ => ⟨z, by simp [execOp, h1], h2⟩
      refine go ?_
      split at h
      · rename_i n e ht
        exact sliceArr_spec ht h hu'
      · rename_i e ht
        split at h
        · rename_i sz hsz
          exact slicePart_spec ht hsz h hu' hvs'
        · cases h
      · rename_i ht
        cases mx with
        | some m => unfold sliceS at h; simp at h
        | none =>
          cases sx with
          | str l => exact sliceString_spec ht h hu' (by simpa using hvs')
          | _ => unfold sliceS at h; simp at h
      · cases h
  · -- fieldAddr
    obtain ⟨u, e, hu⟩ := VRs.one hv
    simp [Op.operands] at e
    obtain ⟨z, h2, h3⟩ := fieldAtS_spec (w := w) h hu
    exact ⟨z, by simp [execOp, e, h2], h3⟩
  · -- field
    obtain ⟨u, e, hu⟩ := VRs.one hv
    simp [Op.operands] at e
    obtain ⟨z, h2, h3⟩ := fieldS_spec (w := w) h hu
    exact ⟨z, by simp [execOp, e, h2], h3⟩
  · -- indexAddr
    obtain ⟨u, v, e, hu, hx⟩ := VRs.two hv
    simp [Op.operands] at e
    obtain ⟨z, h2, h3⟩ := indexAtS_spec (w := w) h hu hx
    exact ⟨z, by simp [execOp, e, h2], h3⟩
  · -- index
    obtain ⟨u, v, e, hu, hx⟩ := VRs.two hv
    simp [Op.operands] at e
    obtain ⟨z, h2, h3⟩ := indexS_spec (w := w) h hu hx
    exact ⟨z, by simp [execOp, e, h2], h3⟩
  · -- lookup
    obtain ⟨u, v, e, hu, hx⟩ := VRs.two hv
    simp [Op.operands] at e
    obtain ⟨z, h2, h3⟩ := lookupS_spec (w := w) h hu hx ho
    exact ⟨z, by simp [execOp, e, h2], h3⟩
  · -- extract
    rename_i _ ix cs
    obtain ⟨u, e, hu⟩ := VRs.one hv
    simp [Op.operands] at e
    cases hu with
    | tuple hvs =>
      obtain ⟨u, h1, h2⟩ := hvs.get h
      rename_i us
      have h1' : us[ix]? = some u := by simpa using h1
      exact ⟨u, by simp [execOp, e, Instr.extract, h1'], h2⟩
  · -- builtins
    rename_i b ts args _
    have hv' : VRs ρ vs (args.toList.map a.eval) := by simpa [Op.operands, Call.operands] using hv
    split at h
    · -- len
      obtain ⟨u, e, hu⟩ := VRs.one hv'
      have e' := args_of e
      split at h
      · rename_i t ht
        split at h
        · rename_i d hd
          obtain ⟨z, h1, h2⟩ := lenS_spec hd h hu ho ht ty
          refine ⟨z, ?_, h2⟩
          rw [run_builtin, e']
          simp [builtin, h1]
        · cases h
      · cases h
    · -- min
      injection h with h; subst h
      obtain ⟨u, v, e, hu, hx⟩ := VRs.two hv'
      have e' := args_of e
      cases hu; cases hx
      refine ⟨_, ?_, .int _ _⟩
      rw [run_builtin, e']
      simp [builtin, run_min_int2]
    · -- max
      injection h with h; subst h
      obtain ⟨u, v, e, hu, hx⟩ := VRs.two hv'
      have e' := args_of e
      cases hu; cases hx
      refine ⟨_, ?_, .int _ _⟩
      rw [run_builtin, e']
      simp [builtin, run_max_int2]
    · -- complex
      obtain ⟨u, v, e, hu, hx⟩ := VRs.two hv'
      have e' := args_of e
      split at h
      · rename_i hk
        subst hk
        injection h with h; subst h
        cases hu; cases hx
        refine ⟨_, ?_, .cpx _ _ _⟩
        rw [run_builtin, e']
        simp [builtin, run_complexS]
      · cases h
    · -- real
      injection h with h; subst h
      obtain ⟨u, e, hu⟩ := VRs.one hv'
      have e' := args_of e
      cases hu
      refine ⟨_, ?_, .flt _ _⟩
      rw [run_builtin, e']
      simp [builtin, run_realS]
    · -- imag
      injection h with h; subst h
      obtain ⟨u, e, hu⟩ := VRs.one hv'
      have e' := args_of e
      cases hu
      refine ⟨_, ?_, .flt _ _⟩
      rw [run_builtin, e']
      simp [builtin, run_imagS]
    · -- where a slice begins of nil
      injection h with h; subst h
      obtain ⟨u, e, hu⟩ := VRs.one hv'
      have e' := args_of e
      cases hu
      refine ⟨_, ?_, .nptr⟩
      rw [run_builtin, e']
      simp [builtin, Lib.run_unsafeSliceData_nil]
    · -- where a slice begins
      obtain ⟨u, e, hu⟩ := VRs.one hv'
      have e' := args_of e
      split at h
      · cases h
      · injection h with h; subst h
        rename_i ad _ _ _
        obtain ⟨b, o⟩ := ad
        cases hu with
        | slk _ _ _ eb =>
          refine ⟨_, ?_, .ptr _ eb⟩
          rw [run_builtin, e']
          simp [builtin, Lib.run_unsafeSliceData_row]
      · split at h
        · cases h
        · injection h with h; subst h
          rename_i ad _ _ _ _
          obtain ⟨b, o⟩ := ad
          cases hu with
          | slu _ _ _ c eb hl _ =>
            refine ⟨_, ?_, .ptr _ eb⟩
            rw [run_builtin, e']
            simp [builtin, Lib.run_unsafeSliceData_row, show c ≠ 0 by omega]
    · cases h
  · cases h
end Go.Proofs.YtamiebojjinhcaaGreatDoor.Sx
