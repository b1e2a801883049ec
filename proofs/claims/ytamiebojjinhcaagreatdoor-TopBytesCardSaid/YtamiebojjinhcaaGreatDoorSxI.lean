/-
  Regions, code, calls: the walk is sound.
  Regions of a drawn order: whatever order is drawn, what stands behind is what stands behind the text's order.
  Regions of a drawn order: what is checked of them is enough.
  Regions of a drawn order, joined.
-/
import Derived.Test.YtamiebojjinhcaaGreatDoorSxF
import Derived.LoopN
import Derived.Scope
set_option linter.unusedVariables false
set_option linter.unusedSimpArgs false
namespace Go.Proofs.YtamiebojjinhcaaGreatDoor.Sx
variable {B : World}
variable {P : Program} {ρ : Rho} {σ : SW} {w : World}

def TR (ρ : Rho) (t : List SV) (a : Act) : Prop := VRs ρ t a.tmps.toList ∧ a.defers = []
theorem TR.mono {ρ' : Rho} {t : List SV} {a : Act} (h : TR ρ t a) (hl : ρ.le ρ') : TR ρ' t a := ⟨h.1.mono hl, h.2⟩
theorem TR.put {t : List SV} {a : Act} (h : TR ρ t a) (d : Option Nat) {v : SV} {u : Value} (hv : VR ρ v u) : TR ρ (Sx.put d v t) (a.put d u) := by
  cases d with
  | none => exact h
  | some i =>
    refine ⟨?_, h.2⟩
    simp only [Sx.put, Act.put, Array.toList_setIfInBounds]
    exact h.1.set i hv
theorem ev_spec {t : List SV} {a : Act} (ht : TR ρ t a) (hz : ∃ N, ρ 0 = some (0, N)) {x : Operand} {v : SV} (h : ev t x = some v) : VR ρ v (a.eval x) := by
  cases x with
  | tmp i =>
    obtain ⟨u, h1, h2⟩ := ht.1.get h
    have h1' : a.tmps[i]? = some u := by simpa using h1
    simpa [Act.eval, h1'] using h2
  | const c => exact VR.ofVal h
  | global g =>
    cases g with
    | zero =>
      simp only [ev] at h
      injection h with h; subst h
      obtain ⟨N, hN⟩ := hz
      exact .ptr 0 hN
    | succ g => simp [ev] at h
  | func f =>
    simp only [ev] at h
    injection h with h; subst h
    exact .func f .nil .nil
theorem evs_spec {t : List SV} {a : Act} (ht : TR ρ t a) (hz : ∃ N, ρ 0 = some (0, N)) : ∀ {l : List Operand} {vs : List SV}, evs t l = some vs → VRs ρ vs (l.map a.eval)
  | [], vs, h => by simp [evs] at h; subst h; exact .nil
  | x :: l, vs, h => by
    unfold evs at h
    split at h
    · rename_i v vs' h1 h2
      injection h with h; subst h
      exact .cons (ev_spec ht hz h1) (evs_spec ht hz h2)
    · cases h
theorem VR.bool_iff {v : SV} {u : Value} (h : VR ρ v u) (b : Bool) : v = .bool b ↔ u = .bool b := by
  cases h <;> simp
theorem wantS_spec {t : List SV} {a : Act} (ht : TR ρ t a) {ops : Array Oper} {o : Oper} : Region.wanted o (yielded ops a.tmps) = wantS ops.toList o.guard t := by
  unfold Region.wanted wantS
  cases o.guard with
  | none => rfl
  | some jw =>
    obtain ⟨j, b⟩ := jw
    simp only [yielded]
    cases hj : ops[j]? with
    | none => simp [hj]
    | some o' =>
      simp only [hj, Option.bind_some, Array.getElem?_toList]
      cases hd : o'.dst with
      | none => simp
      | some d =>
        simp only [Option.bind_some]
        cases hs : t[d]? with
        | none =>
          have : a.tmps[d]? = none := by
            have hl := ht.1.length
            simp at hs hl ⊢
            omega
          simp [this]
        | some s =>
          obtain ⟨u, h1, h2⟩ := ht.1.get hs
          have h1' : a.tmps[d]? = some u := by simpa using h1
          simp only [h1']
          cases h2 <;> first | rfl | (simp; done) | simp
/-- A call that keeps what such values stand for. -/
def Enters (P : Program) (f : Nat) : Prop := ∀ us w, (callFunc f us).run P w = .ok (.enter f us) w
def CallOK (P : Program) (call : Caller) : Prop := ∀ f args σ v σ', call f args σ = some (v, σ') → Enters P f ∧
  ∀ {B : World} ρ us w, VRs ρ args us → WR B ρ σ w → Calls P f us.toArray w fun e w' => ∃ ρ' u, ρ.le ρ' ∧ e = .returned u ∧ VR ρ' v u ∧ WR B ρ' σ' w'
def SameOK (P : Program) (same : Nat → Bool) : Prop := ∀ f, same f = true → ∀ x w, (callFunc f #[x]).run P w = .ok (.value x) w

theorem calleeS_spec {op : Op} {vs : List SV} {f : Nat} {args : List SV} {a : Act} (h : calleeS P op vs = some (f, args)) (hv : VRs ρ vs (op.operands.toList.map a.eval))
    (dst : Option Tmp) (ty : TypeId) (pos : String) (after : Array Edge) (g : Option (Nat × Bool)) :
    ∃ us, VRs ρ args us ∧ ∀ w, (execOp a.eval { dst, op, type := ty, pos, after, guard := g }).run P w = (callFunc f us.toArray).run P w := by
  unfold calleeS at h
  split at h
  · rename_i fo cargs ts f' first captured args'
    injection h with h; injection h with e1 e2; subst e1; subst e2
    have hv' : VRs ρ (.func f' first captured :: args') (a.eval fo :: cargs.toList.map a.eval) := by simpa [Op.operands, Call.operands] using hv
    cases hv' with
    | cons hf ha =>
      generalize hu : a.eval fo = u at hf
      cases hf with
      | func _ h1 h2 =>
        rename_i us vs'
        refine ⟨us.toList ++ cargs.toList.map a.eval ++ vs'.toList, (h1.append ha).append h2, fun w => ?_⟩
        simp only [execOp, resolve, hu, Deferred.ofValue, Sem.run_bind, Sem.run_pure, Result.andThen_ok, invoke]
        congr 2
        apply Array.ext'
        simp
  · rename_i ro name cargs ts t v args'
    have hv' : VRs ρ (.iface t v :: args') (a.eval ro :: cargs.toList.map a.eval) := by simpa [Op.operands, Call.operands] using hv
    cases hv' with
    | cons hf ha =>
      generalize hu : a.eval ro = u at hf
      cases hf with
      | iface _ hvv =>
        rename_i u
        split at h
        · rename_i i e hi hp
          split at h
          · rename_i m hm
            split at h
            · rename_i f' hps hmf
              injection h with h; injection h with e1 e2; subst e1; subst e2
              refine ⟨u :: cargs.toList.map a.eval, .cons hvv ha, fun w => ?_⟩
              have hpath : m.path.toList = [] := by
                have : m.path = #[] := Array.eq_empty_of_size_eq_zero hps
                simp [this]
              have hpe : m.path.isEmpty = true := by simp [Array.isEmpty, hps]
              have hmeth : ∀ n, (Go.method (n + 1) t u name).run P w = .ok (f', u) w := fun n => by
                simp [Go.method, typeInfo, hi, hm, hpath, follow, hmf, receiverAt, run_underlying hp, Place.get]
              have hsz : P.types.size + Made.depth = (P.types.size + (Made.depth - 1)) + 1 := by simp [Made.depth]
              simp only [execOp, resolve, hu, Sem.run_bind, Sem.run_pure, Result.andThen_ok, invoke]
              have h0 : (#[Value.iface t u] ++ cargs.map a.eval)[0]? = some (.iface t u) := by
                rw [Array.getElem?_append_left (by simp)]; rfl
              have h1 : (#[Value.iface t u] ++ cargs.map a.eval).extract 1 (#[Value.iface t u] ++ cargs.map a.eval).size = cargs.map a.eval := by
                apply Array.ext'
                simp
                rw [List.take_of_length_le (by simp)]
              simp only [h0, h1, callMethod, Sem.run_bind, run_program, Result.andThen_ok, hsz, hmeth]
              congr 2
              apply Array.ext'
              simp
            · cases h
          · cases h
        · cases h
  · cases h
theorem Left.put {t : List SV} {a : Act} (ht : TR ρ t a) {r : SV} {n : Next} (h : Left ρ r n) (d : Option Nat) : ∃ u, (n = .value u ∨ (n = .skip ∧ u = undef)) ∧ TR ρ (Sx.put d r t) (a.put d u) := by
  rcases h with ⟨rfl, rfl⟩ | ⟨u, rfl, hu⟩
  · exact ⟨undef, .inr ⟨rfl, rfl⟩, ht.put d .undef⟩
  · exact ⟨u, .inl rfl, ht.put d hu⟩
theorem stepS_spec (hw : WR B ρ σ w) {op : Op} {vs : List SV} {r : SV} {d : Delta} {a : Act} (h : stepS P σ op vs = some (r, d)) (hv : VRs ρ vs (op.operands.toList.map a.eval))
    (dst : Option Tmp) (ty : TypeId) (pos : String) (after : Array Edge) (g : Option (Nat × Bool)) :
    ∃ ρ' w' n, ρ.le ρ' ∧ (execOp a.eval { dst, op, type := ty, pos, after, guard := g }).run P w = .ok n w' ∧ Left ρ' r n ∧ WR B ρ' (σ.app d) w' := by
  unfold stepS at h
  split at h
  · exact effS_spec hw h hv dst ty pos after g
  · split at h
    · rename_i v hp
      injection h with h; injection h with e1 e2; subst e1; subst e2
      obtain ⟨u, h1, h2⟩ := pureS_spec hp hv hw.obj dst ty pos after g
      exact ⟨ρ, w, .value u, .refl ρ, h1, .inr ⟨u, rfl, h2⟩, hw⟩
    · exact effS_spec hw h hv dst ty pos after g

/-- **ONE OPERATION.** -/
theorem valS_spec {same : Nat → Bool} {call : Caller} (hs : SameOK P same) (hc : CallOK P call) {ops : Array Oper} {o : Oper} {t : List SV} {σ σ' : SW} {v : SV} (h : valS P same call ops.toList o t σ = some (v, σ')) :
    ∀ (ρ : Rho) (a : Act) (w : World) (K : Act → World → Prop) (Q : Exit → Act → World → Prop), TR ρ t a → WR B ρ σ w → (∀ ρ' a' w', ρ.le ρ' → TR ρ' (Sx.put o.dst v t) a' → WR B ρ' σ' w' → K a' w') →
      if Region.wanted o (yielded ops a.tmps) then o.wp P a w K Q else K (a.put o.dst undef) w := by
  intro ρ a w K Q ht hw hK
  unfold valS at h
  obtain ⟨dst, op, ty, pos, after, g⟩ := o
  simp only at h hK
  rw [wantS_spec ht]
  split at h
  · rename_i hg
    injection h with h; injection h with e1 e2; subst e1; subst e2
    simp only [hg]
    exact hK ρ _ w (.refl ρ) (ht.put dst .undef) hw
  · rename_i hg
    simp only [hg, if_true]
    split at h
    · cases h
    · rename_i vs hvs
      split at h
      · rename_i f args hcal
        split at h
        · rename_i hsm
          split at h
          · rename_i v
            injection h with h; injection h with e1 e2; subst e1; subst e2
            obtain ⟨us, h1, h2⟩ := calleeS_spec hcal (evs_spec ht hw.zero hvs) dst ty pos after g
            obtain ⟨u, rfl, hu⟩ := VRs.one h1
            unfold Oper.wp
            rw [h2 w, hs f hsm u w]
            exact hK ρ _ w (.refl ρ) (ht.put dst hu) hw
          · cases h
        · rename_i hsm
          split at h
          · rename_i v σ' hcall
            simp only [fV_eq] at h
            injection h with h; injection h with e1 e2; subst e1; subst e2
            obtain ⟨hent, hcal2⟩ := hc f args σ v σ' hcall
            obtain ⟨us, h1, h2⟩ := calleeS_spec hcal (evs_spec ht hw.zero hvs) dst ty pos after g
            unfold Oper.wp
            rw [h2 w, hent us.toArray w]
            refine (hcal2 ρ us w h1 hw).mono ?_
            rintro e w' ⟨ρ', u, hle, rfl, hu, hw'⟩
            exact hK ρ' _ w' hle ((ht.mono hle).put dst hu) hw'
          · cases h
      · split at h
        · rename_i v d hst
          simp only [fV_eq, SW.appK_eq] at h
          injection h with h; injection h with e1 e2; subst e1; subst e2
          obtain ⟨ρ', w', n, hle, hrun, hleft, hw'⟩ := stepS_spec hw hst (evs_spec ht hw.zero hvs) dst ty pos after g
          obtain ⟨u, hn, htr⟩ := hleft.put (ht.mono hle) dst
          unfold Oper.wp
          rw [hrun]
          rcases hn with rfl | ⟨rfl, rfl⟩
          · exact hK ρ' _ w' hle htr hw'
          · exact hK ρ' _ w' hle htr hw'
        · cases h
theorem oneS_val {β : Type} {same : Nat → Bool} {call : Caller} {ops : List Oper} {o : Oper} {t : List SV} {σ : SW} {k : List SV → SW → Option β} {r : β} (h : oneS P same call ops o t σ k = some r) :
    ∃ v σ', valS P same call ops o t σ = some (v, σ') ∧ k (Sx.put o.dst v t) σ' = some r := by
  unfold oneS at h
  split at h
  · rename_i v σ' hv
    simp only [putK_eq] at h
    exact ⟨v, σ', hv, h⟩
  · cases h
theorem oneS_of {β : Type} {same : Nat → Bool} {call : Caller} {ops : List Oper} {o : Oper} {t : List SV} {σ σ' : SW} {v : SV} (h : valS P same call ops o t σ = some (v, σ')) (k : List SV → SW → Option β) : oneS P same call ops o t σ k = k (Sx.put o.dst v t) σ' := by
  unfold oneS
  rw [h]
  simp
/-- **OPERATIONS, IN THE ORDER OF THE TEXT.** -/
theorem opsS_spec {β : Type} {same : Nat → Bool} {call : Caller} (hs : SameOK P same) (hc : CallOK P call) {ops : Array Oper} : ∀ (l : List Oper) {t : List SV} {σ : SW} {k : List SV → SW → Option β} {r : β}, opsS P same call ops.toList l t σ k = some r →
    ∃ t' σ', k t' σ' = some r ∧ ∀ {B : World} (ρ : Rho) (a : Act) (w : World) (Q : Exit → Act → World → Prop), TR ρ t a → WR B ρ σ w → (∀ ρ' a' w', ρ.le ρ' → TR ρ' t' a' → WR B ρ' σ' w' → Q .normal a' w') → wpList P ops Q l a w
  | [], t, σ, k, r, h => ⟨t, σ, h, fun ρ a w Q ht hw hQ => wpList_nil (hQ ρ a w (.refl ρ) ht hw)⟩
  | o :: l, t, σ, k, r, h => by
    simp only [opsS] at h
    obtain ⟨v, σ1, hv, h1⟩ := oneS_val h
    obtain ⟨t2, σ2, h2, hrest⟩ := opsS_spec hs hc l h1
    refine ⟨t2, σ2, h2, fun ρ a w Q ht hw hQ => wpList_step fun K hK => ?_⟩
    exact valS_spec hs hc hv ρ a w K Q ht hw fun ρ' a' w' hle ht' hw' => hK a' w' (hrest ρ' a' w' Q ht' hw' fun ρ2 a2 w2 hle2 ht2 hw2 => hQ ρ2 a2 w2 (hle.trans hle2) ht2 hw2)

def SX.out : SX → Exit
  | .normal => .normal
  | .exit i => .exit i
  | .ret => .ret
/-- What stands behind a piece of code. -/
def Post (B : World) (ρ : Rho) (x : SX) (t : List SV) (σ : SW) : Exit → Act → World → Prop := fun e a w => e = x.out ∧ ∃ ρ', ρ.le ρ' ∧ TR ρ' t a ∧ WR B ρ' σ w
def DrawsOK (P : Program) (draws : Draws) : Prop := ∀ call, CallOK P call → ∀ (id : Nat) (ops : Array Oper) t σ t' σ', draws call ops.toList t σ = some (t', σ') →
  ∀ {B : World} ρ a w, TR ρ t a → WR B ρ σ w → (Code.region id ops true).wp P (Post B ρ .normal t' σ') a w
def CodeOK (P : Program) (same : Nat → Bool) (call : Caller) (draws : Draws) (n : Nat) : Prop := ∀ {c : Code} {t : List SV} {σ : SW} {x : SX} {t' : List SV} {σ' : SW}, codeS P same call draws n c t σ = some (x, t', σ') →
    ∀ {B : World} ρ a w, TR ρ t a → WR B ρ σ w → c.wp P (Post B ρ x t' σ') a w
theorem loopS_spec {same : Nat → Bool} {call : Caller} {draws : Draws} {N : Nat} (hA : ∀ m, m < N → CodeOK P same call draws m) : ∀ (n : Nat), n ≤ N → ∀ {b : Code} {t : List SV} {σ : SW} {x : SX} {t' : List SV} {σ' : SW}, codeS P same call draws n (.loop b) t σ = some (x, t', σ') →
    ∀ {B : World} ρ a w, TR ρ t a → WR B ρ σ w → ∀ Q, (∀ e a w, Post B ρ x t' σ' e a w → Q e a w) → Code.rounds P b Q n a w
  | 0, _, b, t, σ, x, t', σ', h, _, _, _, _, _, _, _, _ => by simp [codeS] at h
  | n + 1, hn, b, t, σ, x, t', σ', h, B, ρ, a, w, ht, hw, Q, hQ => by
    simp only [codeS] at h
    rw [rounds_succ]
    split at h
    · rename_i t1 σ1 h1
      refine wp_mono (hA n (by omega) h1 ρ a w ht hw) ?_
      rintro e a' w' ⟨rfl, ρ', hle, ht', hw'⟩
      refine loopS_spec hA n (by omega) h ρ' a' w' ht' hw' Q ?_
      rintro e a2 w2 ⟨rfl, ρ2, hle2, ht2, hw2⟩
      exact hQ _ a2 w2 ⟨rfl, ρ2, hle.trans hle2, ht2, hw2⟩
    · rename_i hne
      refine wp_mono (hA n (by omega) h ρ a w ht hw) ?_
      rintro e a' w' ⟨rfl, hp⟩
      cases x with
      | normal => exact absurd h (hne _ _)
      | exit i => exact hQ _ a' w' ⟨rfl, hp⟩
      | ret => exact hQ _ a' w' ⟨rfl, hp⟩
/-- **CODE.** -/
theorem codeS_spec {same : Nat → Bool} {call : Caller} {draws : Draws} (hs : SameOK P same) (hc : CallOK P call) (hd : DrawsOK P draws) (n : Nat) : CodeOK P same call draws n := by
  induction n using Nat.strongRecOn with
  | _ n ih =>
  cases n with
  | zero => intro c t σ x t' σ' h; simp [codeS] at h
  | succ n =>
    intro c t σ x t' σ' h B ρ a w ht hw
    have hall := ih
    replace ih : CodeOK P same call draws n := ih n (by omega)
    unfold codeS at h
    split at h
    · injection h with h; injection h with e1 h; injection h with e2 e3; subst e1; subst e2; subst e3
      exact wp_skip ⟨rfl, ρ, .refl ρ, ht, hw⟩
    · injection h with h; injection h with e1 h; injection h with e2 e3; subst e1; subst e2; subst e3
      exact wp_label ⟨rfl, ρ, .refl ρ, ht, hw⟩
    · rename_i id ops
      split at h
      · rename_i t1 σ1 hdr
        injection h with h; injection h with e1 h; injection h with e2 e3; subst e1; subst e2; subst e3
        exact hd call hc id ops t σ t1 σ1 hdr ρ a w ht hw
      · cases h
    · rename_i id ops
      obtain ⟨t1, σ1, h1, h4⟩ := opsS_spec hs hc _ h
      injection h1 with h1; injection h1 with e1 h1; injection h1 with e2 e3; subst e1; subst e2; subst e3
      exact wp_region_list (h4 ρ a w _ ht hw fun ρ' a' w' hle ht' hw' => ⟨rfl, ρ', hle, ht', hw'⟩)
    · rename_i c1 c2
      split at h
      · rename_i t1 σ1 h1
        have ih1 := ih h1 ρ a w ht hw
        refine wp_seq (wp_mono ih1 ?_)
        rintro e a' w' ⟨rfl, ρ', hle, ht', hw'⟩
        have ih2 := ih h ρ' a' w' ht' hw'
        refine wp_mono ih2 ?_
        rintro e a2 w2 ⟨rfl, ρ2, hle2, ht2, hw2⟩
        exact ⟨rfl, ρ2, hle.trans hle2, ht2, hw2⟩
      · rename_i hne
        have ih1 := ih h ρ a w ht hw
        refine wp_seq (wp_mono ih1 ?_)
        rintro e a' w' ⟨rfl, hp⟩
        cases x with
        | normal => exact absurd h (hne _ _)
        | exit i => exact ⟨rfl, hp⟩
        | ret => exact ⟨rfl, hp⟩
    · rename_i c c1 c2
      split at h
      · rename_i hev
        have hv := ev_spec ht hw.zero hev
        have hb := (VR.bool_iff hv true).1 rfl
        exact wp_cond_true hb (ih h ρ a w ht hw)
      · rename_i hev
        have hv := ev_spec ht hw.zero hev
        have hb := (VR.bool_iff hv false).1 rfl
        exact wp_cond_false hb (ih h ρ a w ht hw)
      · cases h
    · rename_i id b
      split at h
      · rename_i i t1 σ1 h1
        have ih := ih h1 ρ a w ht hw
        refine wp_block (wp_mono ih ?_)
        rintro e a' w' ⟨rfl, hp⟩
        split at h
        · rename_i hi
          injection h with h; injection h with e1 h; injection h with e2 e3; subst e1; subst e2; subst e3
          have := Nat.eq_of_beq_eq_true hi
          subst this
          simp only [SX.out, Exit.inBlock, if_true]
          exact ⟨rfl, hp⟩
        · rename_i hi
          injection h with h; injection h with e1 h; injection h with e2 e3; subst e1; subst e2; subst e3
          have hne : ¬ i = id := fun e => hi (by subst e; exact Nat.beq_refl i)
          simp only [SX.out, Exit.inBlock, hne, if_false]
          exact ⟨rfl, hp⟩
      · rename_i hne
        have ih := ih h ρ a w ht hw
        refine wp_block (wp_mono ih ?_)
        rintro e a' w' ⟨rfl, hp⟩
        cases x with
        | normal => exact ⟨rfl, hp⟩
        | exit i => exact absurd h (hne _ _ _)
        | ret => exact ⟨rfl, hp⟩
    · rename_i b
      have h' : codeS P same call draws (n + 1) (.loop b) t σ = some (x, t', σ') := by
        simp only [codeS]
        exact h
      exact wp_loop_rounds (n + 1) (loopS_spec hall (n + 1) (Nat.le_refl _) h' ρ a w ht hw _ fun e a w hp => hp)
    · have ih := ih h ρ a w ht hw
      refine wp_scope_straight (wp_mono ih ?_)
      rintro e a' w' ⟨rfl, hp⟩
      cases x <;> exact ⟨rfl, hp⟩
    · injection h with h; injection h with e1 h; injection h with e2 e3; subst e1; subst e2; subst e3
      exact wp_exit ⟨rfl, ρ, .refl ρ, ht, hw⟩
    · injection h with h; injection h with e1 h; injection h with e2 e3; subst e1; subst e2; subst e3
      exact wp_ret ⟨rfl, ρ, .refl ρ, ht, hw⟩
    · cases h
def resSem (tmps : Array Value) : ResultVar → Sem Value
  | .tmp t => pure (tmps.getD t undef)
  | .cell c t => do loadVar t (← asAddr (tmps.getD c undef))
theorem results_eq (fn : Func) (tmps : Array Value) : results fn tmps = (do
    let vs ← fn.results.mapM (resSem tmps)
    pure (if h : vs.size = 1 then vs[0] else .tuple vs)) := by
  have : (fun r => match r with
    | .tmp t => pure (tmps.getD t undef)
    | .cell a t => do loadVar t (← asAddr (tmps.getD a undef)) : ResultVar → Sem Value) = resSem tmps := by
    funext r
    cases r <;> rfl
  rw [← this]
  rfl
theorem resultS_spec {t : List SV} {a : Act} (ht : TR ρ t a) (hw : WR B ρ σ w) {r : ResultVar} {v : SV} (h : resultS P σ.h t r = some v) :
    ∃ u, (resSem a.tmps r).run P w = .ok u w ∧ VR ρ v u := by
  cases r with
  | tmp i =>
    obtain ⟨u, h1, h2⟩ := ht.1.get h
    have h1' : a.tmps[i]? = some u := by simpa using h1
    exact ⟨u, by simp [resSem, h1'], h2⟩
  | cell c ty =>
    simp only [resultS] at h
    split at h
    · rename_i b o hc
      obtain ⟨u, h1, h2⟩ := ht.1.get hc
      have h1' : a.tmps[c]? = some u := by simpa using h1
      cases h2 with
      | ptr _ eb =>
        obtain ⟨u, h3, h4⟩ := run_loadS (P := P) (i := b) h (fun o' h' => hw.obj b o' h') eb
        exact ⟨u, by simp [resSem, h1', asAddr, h3], h4⟩
    · cases h
theorem resultsS_spec {t : List SV} {a : Act} (ht : TR ρ t a) (hw : WR B ρ σ w) : ∀ {rs : List ResultVar} {vs : List SV}, resultsS P σ.h t rs = some vs →
    ∃ us : List Value, (rs.mapM (resSem a.tmps)).run P w = .ok us w ∧ VRs ρ vs us
  | [], vs, h => by simp [resultsS] at h; subst h; exact ⟨[], by simp, .nil⟩
  | r :: rs, vs, h => by
    unfold resultsS at h
    split at h
    · rename_i v vs' h1 h2
      injection h with h; subst h
      obtain ⟨u, h3, h4⟩ := resultS_spec ht hw h1
      obtain ⟨us, h5, h6⟩ := resultsS_spec ht hw h2
      exact ⟨u :: us, by rw [List.mapM_cons]; simp only [Sem.run_bind, h3, Result.andThen_ok, h5, Sem.run_pure], .cons h4 h6⟩
    · cases h
def HookOK (P : Program) (hook : Nat → Option (List SV → SW → Option (SV × SW))) : Prop := ∀ f g, hook f = some g → Enters P f ∧ ∀ args σ v σ', g args σ = some (v, σ') → ∀ {B : World} ρ us w, VRs ρ args us → WR B ρ σ w →
  Calls P f us.toArray w fun e w' => ∃ ρ' u, ρ.le ρ' ∧ e = .returned u ∧ VR ρ' v u ∧ WR B ρ' σ' w'
def NamesOK (P : Program) : Prop := ∀ (f : Nat) (fn : Func), P.funcs[f]? = some fn → fn.name ≠ "runtime.NumGoroutine"
theorem enters_of {f : Nat} {fn : Func} {c : Code} (hf : P.funcs[f]? = some fn) (hb : fn.body = some c) (hn : NamesOK P) : Enters P f := fun us w => by
  have := hn f fn hf
  simp [callFunc, hf, hb, this]
/-- **CALLS.** -/
theorem callS_spec {same : Nat → Bool} {hook : Nat → Option (List SV → SW → Option (SV × SW))} {draws : Draws} (hs : SameOK P same) (hh : HookOK P hook) (hd : DrawsOK P draws) (hn : NamesOK P) (fuel : Nat) : ∀ n, CallOK P (callS P same hook draws fuel n)
  | 0, f, args, σ, v, σ', h => by simp [callS] at h
  | n + 1, f, args, σ, v, σ', h => by
    have ih := callS_spec hs hh hd hn fuel n
    simp only [callS] at h
    split at h
    · rename_i g hg
      obtain ⟨h1, h2⟩ := hh f g hg
      exact ⟨h1, h2 args σ v σ' h⟩
    · split at h
      · cases h
      · rename_i fn hf
        split at h
        · cases h
        · rename_i c hb
          refine ⟨enters_of hf hb hn, fun {B} ρ us w hus hw => ?_⟩
          simp only [fL_eq] at h
          split at h
          · cases h
          · cases h
          · rename_i x t1 σ1 hne hcode
            have ht : TR ρ (args ++ undefs (fn.ntmps - args.length)) { tmps := us.toArray ++ Array.replicate (fn.ntmps - us.toArray.size) undef, defers := [] } := by
              refine ⟨?_, rfl⟩
              have hl := hus.length
              simp only [Array.toList_append, Array.toList_replicate, List.size_toArray]
              rw [← hl]
              exact hus.append (VRs.undefs _)
            refine calls_of_wp hf hb (wp_mono (codeS_spec hs ih hd fuel hcode ρ _ w ht hw) ?_)
            rintro e a' w' ⟨rfl, ρ', hle, ht', hw'⟩
            have fin : ∀ {v'}, (match resultsS P σ1.h t1 fn.results.toList with
                | some [v] => some (v, σ1)
                | some vs => some (.tuple vs, σ1)
                | none => none) = some (v', σ') → a'.defers = [] ∧ ∃ u, (results fn a'.tmps).run P w' = .ok u w' ∧ ∃ ρ' u', ρ.le ρ' ∧ Ending.returned u = .returned u' ∧ VR ρ' v' u' ∧ WR B ρ' σ' w' := by
              intro v' h
              refine ⟨ht'.2, ?_⟩
              have hres : ∀ us' : List Value, (fn.results.toList.mapM (resSem a'.tmps)).run P w' = .ok us' w' → (results fn a'.tmps).run P w' = .ok (if h : us'.toArray.size = 1 then us'.toArray[0] else .tuple us'.toArray) w' := fun us' hu => by
                rw [results_eq]
                simp only [Array.mapM_eq_mapM_toList, Sem.run_bind, Sem.run_map, hu, Result.andThen_ok, Sem.run_pure]
              split at h
              · rename_i v1 hr
                injection h with h; injection h with e1 e2; subst e1; subst e2
                obtain ⟨us', h1, h2⟩ := resultsS_spec (P := P) ht' hw' hr
                obtain ⟨u, rfl, hu⟩ := VRs.one h2
                exact ⟨u, by rw [hres _ h1]; simp, ρ', u, hle, rfl, hu, hw'⟩
              · rename_i vs hne1 hr
                injection h with h; injection h with e1 e2; subst e1; subst e2
                obtain ⟨us', h1, h2⟩ := resultsS_spec (P := P) ht' hw' hr
                have hl := h2.length
                have hn1 : us'.length ≠ 1 := by
                  intro h1
                  rw [h1] at hl
                  match vs, hl with
                  | [v], _ => exact hne1 v rfl
                exact ⟨.tuple us'.toArray, by rw [hres _ h1]; simp [hn1], ρ', _, hle, rfl, .tuple h2, hw'⟩
              · cases h
            cases x with
            | exit i => exact absurd rfl (hne _)
            | normal => exact fin h
            | ret => exact fin h
end Go.Proofs.YtamiebojjinhcaaGreatDoor.Sx

set_option linter.unusedSimpArgs false
namespace Go.Proofs.YtamiebojjinhcaaGreatDoor.Sx
variable {B : World}
variable {P : Program}

section draw
variable {ops : Array Oper}
def dstOf (ops : Array Oper) (i : Nat) : Option Nat := (ops[i]?).bind (·.dst)
/-- The temporaries, when those have come that `L` tells. -/
def tmL (ops : Array Oper) (v : Nat → SV) (t0 : List SV) (L : Nat → Bool) : Nat → List SV
  | 0 => t0
  | n + 1 => if L n then Sx.put (dstOf ops n) (v n) (tmL ops v t0 L n) else tmL ops v t0 L n
theorem put_length (d : Option Nat) (v : SV) (t : List SV) : (Sx.put d v t).length = t.length := by cases d <;> simp [Sx.put]
theorem put_ne {d : Option Nat} {v : SV} {t : List SV} {u : Nat} (h : d ≠ some u) : (Sx.put d v t)[u]? = t[u]? := by
  cases d with
  | none => rfl
  | some i =>
    have : i ≠ u := fun e => h (by rw [e])
    simp [Sx.put, List.getElem?_set_ne this]
theorem put_eq {v : SV} {t : List SV} {u : Nat} : (Sx.put (some u) v t)[u]? = if u < t.length then some v else none := by
  simp [Sx.put, List.getElem?_set]
section tm
variable {v : Nat → SV} {t0 : List SV}
theorem tmL_length (L : Nat → Bool) : ∀ n, (tmL ops v t0 L n).length = t0.length
  | 0 => rfl
  | n + 1 => by
    simp only [tmL]
    split
    · rw [put_length, tmL_length L n]
    · exact tmL_length L n
theorem tmL_congr {A B : Nat → Bool} : ∀ {n : Nat}, (∀ i, i < n → A i = B i) → tmL ops v t0 A n = tmL ops v t0 B n
  | 0, _ => rfl
  | n + 1, h => by
    simp only [tmL]
    rw [h n (by omega), tmL_congr fun i hi => h i (by omega)]
theorem tmL_same {A B : Nat → Bool} {u : Nat} : ∀ {n : Nat}, (∀ i, i < n → dstOf ops i = some u → A i = B i) → (tmL ops v t0 A n)[u]? = (tmL ops v t0 B n)[u]?
  | 0, _ => rfl
  | n + 1, h => by
    have ih := tmL_same (A := A) (B := B) (u := u) (n := n) fun i hi => h i (by omega)
    simp only [tmL]
    by_cases hd : dstOf ops n = some u
    · rw [h n (by omega) hd]
      split
      · rw [hd, put_eq, put_eq, tmL_length, tmL_length]
      · exact ih
    · split <;> split <;> (try simp only [put_ne hd]) <;> exact ih
theorem tmL_last {L : Nat → Bool} {i u : Nat} (hi : L i = true) (hd : dstOf ops i = some u) : ∀ {n : Nat}, i < n → (∀ j, i < j → j < n → dstOf ops j = some u → L j = false) → (tmL ops v t0 L n)[u]? = if u < t0.length then some (v i) else none
  | 0, h, _ => by omega
  | n + 1, h, hj => by
    simp only [tmL]
    by_cases hin : i = n
    · subst hin
      rw [if_pos hi, hd, put_eq, tmL_length]
    · have ih := tmL_last hi hd (n := n) (by omega) fun j h1 h2 => hj j h1 (by omega)
      by_cases hdn : dstOf ops n = some u
      · rw [hj n (by omega) (by omega) hdn]
        exact ih
      · split
        · rw [put_ne hdn]; exact ih
        · exact ih
theorem tmL_add {L L' : Nat → Bool} {i n : Nat} (hi : i < n) (hL : ∀ j, j < n → L' j = (L j || decide (j = i))) (hlate : ∀ j u, i < j → j < n → dstOf ops i = some u → dstOf ops j = some u → L j = false) :
    tmL ops v t0 L' n = Sx.put (dstOf ops i) (v i) (tmL ops v t0 L n) := by
  apply List.ext_getElem?
  intro u
  by_cases hd : dstOf ops i = some u
  · rw [tmL_last (L := L') (by rw [hL i hi]; simp) hd hi fun j h1 h2 h3 => by rw [hL j h2, hlate j u h1 h2 hd h3]; simp; omega]
    rw [hd, put_eq, tmL_length]
  · rw [put_ne hd]
    refine tmL_same fun j hj hdj => ?_
    have : j ≠ i := fun e => hd (by rw [← e]; exact hdj)
    rw [hL j hj]
    simp [this]
end tm

inductive Anc (ops : Array Oper) : Nat → Nat → Prop
  | edge {i : Nat} {o : Oper} {e : Edge} : ops[i]? = some o → e ∈ o.after → Region.binds .any e = true → Anc ops i e.on
  | step {i j : Nat} {o : Oper} {e : Edge} : ops[i]? = some o → e ∈ o.after → Region.binds .any e = true → Anc ops e.on j → Anc ops i j
def Closed (ops : Array Oper) (L : Nat → Bool) : Prop := ∀ i o, ops[i]? = some o → L i = true → ∀ e ∈ o.after, Region.binds .any e = true → L e.on = true
def Back (ops : Array Oper) : Prop := ∀ i o, ops[i]? = some o → ∀ e ∈ o.after, Region.binds .any e = true → e.on < i
theorem Anc.lt (hb : Back ops) {i j : Nat} (h : Anc ops i j) : j < i := by
  induction h with
  | edge ho he hbd => exact hb _ _ ho _ he hbd
  | step ho he hbd _ ih => exact Nat.lt_trans ih (hb _ _ ho _ he hbd)
theorem Anc.closed {L : Nat → Bool} (hL : Closed ops L) {i j : Nat} (h : Anc ops i j) (hi : L i = true) : L j = true := by
  induction h with
  | edge ho he hbd => exact hL _ _ ho hi _ he hbd
  | step ho he hbd hrest ih => exact ih (hL _ _ ho hi _ he hbd)
theorem Anc.ready {L : Nat → Bool} (hL : Closed ops L) {i j : Nat} (h : Anc ops i j) {o : Oper} (ho : ops[i]? = some o) (hr : ∀ e ∈ o.after, Region.binds .any e = true → L e.on = true) : L j = true := by
  cases h with
  | edge ho' he hbd => rw [ho] at ho'; injection ho' with ho'; subst ho'; exact hr _ he hbd
  | step ho' he hbd hrest => rw [ho] at ho'; injection ho' with ho'; subst ho'; exact hrest.closed hL (hr _ he hbd)
theorem Anc.oper {i j : Nat} (h : Anc ops i j) : ∃ o, ops[i]? = some o := by
  cases h with
  | edge ho _ _ => exact ⟨_, ho⟩
  | step ho _ _ _ => exact ⟨_, ho⟩
def Names (ops : Array Oper) : Prop := ∀ i j o o' d, ops[i]? = some o → ops[j]? = some o' → i ≠ j → o'.dst = some d → (d ∈ looks ops.toList o ∨ o.dst = some d) → Anc ops i j ∨ Anc ops j i

def cnt (L : Nat → Bool) : Nat → Nat
  | 0 => 0
  | n + 1 => cnt L n + if L n then 0 else 1
theorem cnt_congr {A B : Nat → Bool} : ∀ {n : Nat}, (∀ i, i < n → A i = B i) → cnt A n = cnt B n
  | 0, _ => rfl
  | n + 1, h => by simp only [cnt]; rw [h n (by omega), cnt_congr fun i hi => h i (by omega)]
theorem cnt_add {L L' : Nat → Bool} {i : Nat} : ∀ {n : Nat}, i < n → L i = false → (∀ j, j < n → L' j = (L j || decide (j = i))) → cnt L n = cnt L' n + 1
  | 0, h, _, _ => by omega
  | n + 1, h, hi, hL => by
    simp only [cnt]
    by_cases hin : i = n
    · subst hin
      have : cnt L i = cnt L' i := cnt_congr fun j hj => by rw [hL j (by omega)]; simp; omega
      rw [hL i (by omega), hi, this]
      simp
    · have ih := cnt_add (n := n) (by omega) hi fun j hj => hL j (by omega)
      have : L' n = L n := by rw [hL n (by omega)]; simp; omega
      rw [ih, this]
      omega
theorem cnt_zero {L : Nat → Bool} : ∀ {n : Nat}, cnt L n = 0 → ∀ i, i < n → L i = true
  | 0, _, i, h => by omega
  | n + 1, h, i, hi => by
    simp only [cnt] at h
    by_cases hin : i = n
    · subst hin
      cases hL : L i with
      | true => rfl
      | false => rw [hL] at h; simp at h
    · exact cnt_zero (n := n) (by omega) i (by omega)

/-- **WHATEVER ORDER**: a step from any point leads where it should. -/
theorem draw_main (hback : Back ops) (hnames : Names ops) (v : Nat → SV) (t0 : List SV) (hp : (Nat → Bool) → SW)
    (hstep : ∀ (L L' : Nat → Bool) (i : Nat) (o : Oper), ops[i]? = some o → Closed ops L → (∀ e ∈ o.after, Region.binds .any e = true → L e.on = true) → L i = false → (∀ j, j < ops.size → L' j = (L j || decide (j = i))) →
      ∀ t, (∀ u ∈ looks ops.toList o, t[u]? = (tmL ops v t0 (fun j => decide (j < i)) ops.size)[u]?) → ∀ (ρ : Rho) (a : Act) (w : World) (K : Act → World → Prop) (Q : Exit → Act → World → Prop), TR ρ t a → WR B ρ (hp L) w →
      (∀ ρ' a' w', ρ.le ρ' → TR ρ' (Sx.put o.dst (v i) t) a' → WR B ρ' (hp L') w' → K a' w') → if Region.wanted o (yielded ops a.tmps) then o.wp P a w K Q else K (a.put o.dst undef) w)
    {t' : List SV} {σ' : SW} (hend : ∀ L, (∀ i, i < ops.size → L i = true) → hp L = σ') (htend : tmL ops v t0 (fun _ => true) ops.size = t') (ρ0 : Rho) :
    ∀ (fuel : Nat) (listed : Array Bool), listed.size = ops.size → Closed ops (fun i => listed.getD i false) → cnt (fun i => listed.getD i false) ops.size ≤ fuel → ∀ (ρ : Rho) (a : Act) (w : World), ρ0.le ρ →
      TR ρ (tmL ops v t0 (fun i => listed.getD i false) ops.size) a → WR B ρ (hp fun i => listed.getD i false) w → wpAny P .any ops (Post B ρ0 .normal t' σ') fuel listed a w := by
  have gd : ∀ (listed : Array Bool), listed.size = ops.size → ∀ i, i < ops.size → listed.getD i true = listed.getD i false := fun listed hs i hi => by
    simp [Array.getD, hs, hi]
  have hfin : ∀ (listed : Array Bool), listed.size = ops.size → (∀ i, i < ops.size → listed.getD i false = true) → ∀ (ρ : Rho) (a : Act) (w : World), ρ0.le ρ →
      TR ρ (tmL ops v t0 (fun i => listed.getD i false) ops.size) a → WR B ρ (hp fun i => listed.getD i false) w → Post B ρ0 .normal t' σ' .normal a w := fun listed hs hall ρ a w hle ht hw => by
    rw [hend _ hall] at hw
    rw [tmL_congr (B := fun _ => true) hall, htend] at ht
    exact ⟨rfl, ρ, hle, ht, hw⟩
  have hnone : ∀ (listed : Array Bool), listed.size = ops.size → Region.ready .any ops listed = [] → ∀ i, i < ops.size → listed.getD i false = true := fun listed hs hr i => by
    induction i using Nat.strongRecOn with
    | _ i ih =>
      intro hi
      cases hL : listed.getD i false with
      | true => rfl
      | false =>
        exfalso
        have ho : ops[i]? = some ops[i] := Array.getElem?_eq_getElem hi
        have : i ∈ Region.ready .any ops listed := mem_ready.2 ⟨by rw [gd listed hs i hi, hL], _, ho, fun e he hb => ih e.on (hback i _ ho e he hb) (Nat.lt_trans (hback i _ ho e he hb) hi)⟩
        rw [hr] at this
        cases this
  intro fuel
  induction fuel with
  | zero =>
    intro listed hs hcl hc ρ a w hle ht hw
    have hall := cnt_zero (Nat.le_zero.1 hc)
    refine ⟨?_, hfin listed hs hall ρ a w hle ht hw⟩
    apply List.eq_nil_iff_forall_not_mem.2
    intro i hi
    obtain ⟨h1, o, ho, _⟩ := mem_ready.1 hi
    have hlt : i < ops.size := (Array.getElem?_eq_some_iff.1 ho).1
    rw [gd listed hs i hlt, hall i hlt] at h1
    cases h1
  | succ fuel ih =>
    intro listed hs hcl hc ρ a w hle ht hw
    refine ⟨fun hr => hfin listed hs (hnone listed hs hr) ρ a w hle ht hw, fun i hi => ?_⟩
    obtain ⟨h1, o, ho, hrd⟩ := mem_ready.1 hi
    have hlt : i < ops.size := (Array.getElem?_eq_some_iff.1 ho).1
    have hLi : listed.getD i false = false := by rw [← gd listed hs i hlt]; exact h1
    have hL' : ∀ j, j < ops.size → (listed.setIfInBounds i true).getD j false = (listed.getD j false || decide (j = i)) := fun j hj => by
      by_cases hji : j = i
      · subst hji; simp [Array.getD, hs, hlt]
      · rw [getD_set_ne false (Ne.symm hji)]; simp [hji]
    have hdi : dstOf ops i = o.dst := by simp [dstOf, ho]
    -- who writes what it looks at, or what it writes
    have hwr : ∀ j, j < ops.size → j ≠ i → ∀ d, dstOf ops j = some d → (d ∈ looks ops.toList o ∨ o.dst = some d) → listed.getD j false = decide (j < i) := fun j hj hne d hd hlook => by
      have hoj : ops[j]? = some ops[j] := Array.getElem?_eq_getElem hj
      have hdj : (ops[j]).dst = some d := by simpa [dstOf, hoj] using hd
      rcases hnames i j o _ d ho hoj (Ne.symm hne) hdj hlook with h | h
      · have hlt' := h.lt hback
        simp [hlt', h.ready hcl ho hrd]
      · have hlt' := h.lt hback
        have : ¬ j < i := by omega
        cases hLj : listed.getD j false with
        | false => simp [this]
        | true =>
          have := h.closed hcl hLj
          try simp only at this
          rw [hLi] at this
          cases this
    have hagree : ∀ u ∈ looks ops.toList o, (tmL ops v t0 (fun i => listed.getD i false) ops.size)[u]? = (tmL ops v t0 (fun j => decide (j < i)) ops.size)[u]? := fun u hu => by
      refine tmL_same fun j hj hdj => ?_
      by_cases hji : j = i
      · subst hji; show listed.getD j false = _; rw [hLi]; simp
      · exact hwr j hj hji u hdj (.inl hu)
    have hadd : tmL ops v t0 (fun j => (listed.setIfInBounds i true).getD j false) ops.size = Sx.put o.dst (v i) (tmL ops v t0 (fun i => listed.getD i false) ops.size) := by
      rw [tmL_add hlt hL' fun j u h1 h2 h3 h4 => ?_, hdi]
      have := hwr j h2 (by omega) u h4 (.inr (by rw [← hdi]; exact h3))
      show listed.getD j false = _
      rw [this]
      simp
      omega
    have hcl' : Closed ops fun j => (listed.setIfInBounds i true).getD j false := fun j oj hoj hLj e he hb => by
      have hjl : j < ops.size := (Array.getElem?_eq_some_iff.1 hoj).1
      have hel : e.on < ops.size := Nat.lt_trans (hback j oj hoj e he hb) hjl
      have hLj : (listed.setIfInBounds i true).getD j false = true := hLj
      show (listed.setIfInBounds i true).getD e.on false = true
      rw [hL' j hjl] at hLj
      rw [hL' e.on hel]
      simp only [Bool.or_eq_true, decide_eq_true_eq] at hLj ⊢
      rcases hLj with h | h
      · exact .inl (hcl j oj hoj h e he hb)
      · subst h
        rw [ho] at hoj; injection hoj with hoj; subst hoj
        exact .inl (hrd e he hb)
    have hc' : cnt (fun j => (listed.setIfInBounds i true).getD j false) ops.size ≤ fuel := by
      have := cnt_add hlt hLi hL'
      omega
    have hfinal := hstep (fun i => listed.getD i false) (fun j => (listed.setIfInBounds i true).getD j false) i o ho hcl hrd hLi hL' _ hagree ρ a w (wpAny P .any ops (Post B ρ0 .normal t' σ') fuel (listed.setIfInBounds i true)) (Post B ρ0 .normal t' σ') ht hw
      fun ρ' a' w' hle' ht' hw' => ih (listed.setIfInBounds i true) (by simpa using hs) hcl' hc' ρ' a' w' (hle.trans hle') (by rw [hadd]; exact ht') hw'
    unfold wpOp
    simp only [ho]
    split
    · rename_i hwant; rw [if_pos hwant] at hfinal; exact .inl hfinal
    · rename_i hwant; rw [if_neg hwant] at hfinal; exact hfinal
end draw
end Go.Proofs.YtamiebojjinhcaaGreatDoor.Sx

set_option linter.unusedSimpArgs false
namespace Go.Proofs.YtamiebojjinhcaaGreatDoor.Sx
variable {P : Program}

theorem allIx_spec {f : Nat → Oper → Bool} : ∀ {l : List Oper} {i : Nat}, allIx f l i = true → ∀ j o, l[j]? = some o → f (i + j) o = true
  | [], _, _, j, o, h => by simp at h
  | x :: l, i, h, j, o, ho => by
    simp only [allIx, Bool.and_eq_true] at h
    cases j with
    | zero => simp at ho; subst ho; exact h.1
    | succ j =>
      have := allIx_spec h.2 j o (by simpa using ho)
      rwa [show i + (j + 1) = i.succ + j by omega]
theorem backS_spec {i : Nat} : ∀ {l : List Edge}, backS i l = true → ∀ e ∈ l, Region.binds .any e = true → e.on < i
  | [], _, e, he, _ => by cases he
  | x :: l, h, e, he, hb => by
    simp only [backS, Bool.and_eq_true, Bool.or_eq_true] at h
    rcases List.mem_cons.1 he with rfl | he
    · rcases h.1 with h1 | h1
      · simp [hb] at h1
      · simpa using h1
    · exact backS_spec h.2 e he hb
theorem ancE_spec {acc : List Nat} {j : Nat} : ∀ {l : List Edge}, (ancE acc l).testBit j = true → ∃ e ∈ l, Region.binds .any e = true ∧ (e.on = j ∨ (acc.getD e.on 0).testBit j = true)
  | [], h => by simp [ancE] at h
  | e :: l, h => by
    simp only [ancE] at h
    split at h
    · rename_i hb
      have h' : ((2 ^ e.on ||| acc.getD e.on 0) ||| ancE acc l).testBit j = true := h
      rw [Nat.testBit_or, Nat.testBit_or, Bool.or_eq_true, Bool.or_eq_true] at h'
      rcases h' with (h' | h') | h'
      · rw [Nat.testBit_two_pow] at h'
        exact ⟨e, by simp, hb, .inl (by simpa using h')⟩
      · exact ⟨e, by simp, hb, .inr h'⟩
      · obtain ⟨e', h1, h2, h3⟩ := ancE_spec h'
        exact ⟨e', by simp [h1], h2, h3⟩
    · obtain ⟨e', h1, h2, h3⟩ := ancE_spec h
      exact ⟨e', by simp [h1], h2, h3⟩
theorem ancS_spec {ops : Array Oper} : ∀ {l : List Oper} {acc : List Nat}, (∀ j, l[j]? = ops[acc.length + j]?) → (∀ i j, (acc.getD i 0).testBit j = true → Anc ops i j) → ∀ i j, ((ancS l acc).getD i 0).testBit j = true → Anc ops i j
  | [], acc, _, h, i, j, hb => h i j hb
  | o :: l, acc, hl, h, i, j, hb => by
    simp only [ancS] at hb
    refine ancS_spec (fun k => ?_) (fun i j hij => ?_) i j hb
    · have := hl (k + 1)
      simp only [List.getElem?_cons_succ] at this
      rw [this]
      congr 1
      simp
      omega
    · by_cases hi : i < acc.length
      · refine h i j ?_
        rw [List.getD_eq_getElem?_getD] at hij ⊢
        rwa [List.getElem?_append_left hi] at hij
      · by_cases hi2 : i = acc.length
        · subst hi2
          have ho : ops[acc.length]? = some o := by have := hl 0; simpa using this.symm
          simp at hij
          obtain ⟨e, he, hbd, h3⟩ := ancE_spec hij
          have he' : e ∈ o.after := by simpa using he
          rcases h3 with h3 | h3
          · subst h3; exact .edge ho he' hbd
          · exact .step ho he' hbd (h _ _ h3)
        · exfalso
          have : (acc ++ [ancE acc o.after.toList]).getD i 0 = 0 := by
            rw [List.getD_eq_getElem?_getD, List.getElem?_eq_none (by simp; omega)]
            rfl
          rw [this] at hij
          simp at hij
theorem anc_of {ops : Array Oper} {i j : Nat} (h : ((ancS ops.toList []).getD i 0).testBit j = true) : Anc ops i j :=
  ancS_spec (fun j => by simp) (fun i j h => by simp at h) i j h
theorem has_iff {d : Nat} : ∀ {l : List Nat}, has l d = true ↔ d ∈ l
  | [] => by simp [has]
  | x :: l => by
    simp only [has, Bool.or_eq_true, List.mem_cons, has_iff]
    constructor
    · rintro (h | h)
      · exact .inl (Nat.eq_of_beq_eq_true h).symm
      · exact .inr h
    · rintro (h | h)
      · exact .inl (by subst h; exact Nat.beq_refl d)
      · exact .inr h
theorem statS_spec {ops : Array Oper} (h : statS ops.toList = true) : Back ops ∧ Names ops := by
  unfold statS at h
  constructor
  · intro i o ho e he hb
    have := allIx_spec h i o (by simpa using ho)
    simp only [Nat.zero_add, Bool.and_eq_true] at this
    exact backS_spec this.1 e (by simpa using he) hb
  · intro i j o o' d ho ho' hij hd hl
    have := allIx_spec h i o (by simpa using ho)
    simp only [Nat.zero_add, Bool.and_eq_true] at this
    have h2 := allIx_spec this.2 j o' (by simpa using ho')
    simp only [Nat.zero_add, apartS, hd, Bool.or_eq_true, Bool.not_eq_true'] at h2
    rcases h2 with ((h2 | h2) | h2) | h2
    · exfalso
      rw [Bool.or_eq_false_iff] at h2
      rcases hl with hl | hl
      · rw [has_iff.2 hl] at h2; exact absurd h2.1 (by simp)
      · rw [hl] at h2; simp at h2
    · exact absurd (Nat.eq_of_beq_eq_true h2) hij
    · exact .inl (anc_of h2)
    · exact .inr (anc_of h2)

/-! ### What an operation looks at -/
section congr
variable {same : Nat → Bool} {ops : List Oper} {o : Oper} {t t' : List SV}
theorem wantS_congr (h : ∀ u ∈ looks ops o, t[u]? = t'[u]?) : wantS ops o.guard t = wantS ops o.guard t' := by
  unfold wantS
  cases hg : o.guard with
  | none => rfl
  | some jw =>
    obtain ⟨j, b⟩ := jw
    simp only
    cases hj : ops[j]? with
    | none => rfl
    | some o' =>
      simp only
      cases hd : o'.dst with
      | none => rfl
      | some d =>
        simp only
        rw [h d]
        simp [looks, hg, hj, hd]
theorem evs_congr : ∀ {l : List Operand}, (∀ u, Operand.tmp u ∈ l → t[u]? = t'[u]?) → evs t l = evs t' l
  | [], _ => rfl
  | x :: l, h => by
    have hx : ev t x = ev t' x := by
      cases x <;> simp only [ev]
      exact h _ (by simp)
    have ih : evs t l = evs t' l := evs_congr fun u hu => h u (List.mem_cons_of_mem _ hu)
    simp only [evs, hx, ih]
theorem evs_looks (h : ∀ u ∈ looks ops o, t[u]? = t'[u]?) : evs t o.op.operands.toList = evs t' o.op.operands.toList :=
  evs_congr fun u hu => h u (by
    unfold looks
    refine List.mem_append_left _ (List.mem_filterMap.2 ⟨.tmp u, hu, rfl⟩))
theorem valP_congr (h : ∀ u ∈ looks ops o, t[u]? = t'[u]?) (hp : H) : valP P same ops o t hp = valP P same ops o t' hp := by
  unfold valP
  rw [wantS_congr h, evs_looks h]
theorem valS_congr (h : ∀ u ∈ looks ops o, t[u]? = t'[u]?) (call : Caller) (σ : SW) : valS P same call ops o t σ = valS P same call ops o t' σ := by
  unfold valS
  rw [wantS_congr h, evs_looks h]
theorem valS_of_valP {σ : SW} {v : SV} (h : valP P same ops o t σ.h = some v) (call : Caller) : valS P same call ops o t σ = some (v, σ) := by
  unfold valP at h
  unfold valS
  cases hw : wantS ops o.guard t with
  | false => simp only [hw] at h ⊢; injection h with h; subst h; rfl
  | true =>
    simp only [hw] at h ⊢
    cases hvs : evs t o.op.operands.toList with
    | none => simp only [hvs] at h; cases h
    | some vs =>
      simp only [hvs] at h ⊢
      cases hc : calleeS P o.op vs with
      | some p =>
        obtain ⟨f, args⟩ := p
        simp only [hc] at h ⊢
        cases hs : same f with
        | false => simp only [hs] at h; cases h
        | true =>
          simp only [hs] at h ⊢
          split at h
          · rename_i v'; injection h with h; subst h; rfl
          · cases h
      | none =>
        simp only [hc] at h ⊢
        cases he : isEff o.op with
        | true => simp only [he] at h; cases h
        | false =>
          simp only [he] at h
          simp [stepS, he, h, SW.app]
end congr

theorem eqL_eq : ∀ {a b : List Nat}, eqL a b = true → a = b
  | [], b, h => by cases b <;> simp_all [eqL]
  | x :: a, b, h => by
    cases b with
    | nil => simp [eqL] at h
    | cons y b =>
      simp only [eqL, Bool.and_eq_true] at h
      rw [Nat.eq_of_beq_eq_true h.1, eqL_eq h.2]
mutual
theorem SV.beq_eq : ∀ {a b : SV}, SV.beq a b = true → a = b
  | .bool _, b, h => by cases b <;> simp_all [SV.beq]
  | .int _ _, b, h => by cases b <;> simp_all [SV.beq]
  | .flt _ _, b, h => by cases b <;> simp_all [SV.beq]
  | .cpx _ _ _, b, h => by cases b <;> simp_all [SV.beq]
  | .str x, b, h => by
    cases b <;> simp only [SV.beq] at h <;> try (cases h; done)
    rw [eqL_eq h]
  | .ptr _, b, h => by cases b <;> simp_all [SV.beq]
  | .sl a l (.known c), b, h => by
    cases b with
    | sl _ _ c' => cases c' <;> simp_all [SV.beq]
    | _ => simp [SV.beq] at h
  | .sl a l (.unk c), b, h => by
    cases b with
    | sl _ _ c' => cases c' <;> simp_all [SV.beq]
    | _ => simp [SV.beq] at h
  | .map _, b, h => by cases b <;> simp_all [SV.beq]
  | .func _ x y, b, h => by
    cases b <;> simp only [SV.beq] at h <;> try (cases h; done)
    simp only [Bool.and_eq_true] at h
    rw [Nat.eq_of_beq_eq_true h.1.1, SV.beqs_eq h.1.2, SV.beqs_eq h.2]
  | .nilFunc, b, h => by cases b <;> simp_all [SV.beq]
  | .iface _ x, b, h => by
    cases b <;> simp only [SV.beq] at h <;> try (cases h; done)
    simp only [Bool.and_eq_true] at h
    rw [Nat.eq_of_beq_eq_true h.1, SV.beq_eq h.2]
  | .nilIface, b, h => by cases b <;> simp_all [SV.beq]
  | .agg x, b, h => by
    cases b <;> simp only [SV.beq] at h <;> try (cases h; done)
    rw [SV.beqs_eq h]
  | .tuple x, b, h => by
    cases b <;> simp only [SV.beq] at h <;> try (cases h; done)
    rw [SV.beqs_eq h]
theorem SV.beqs_eq : ∀ {a b : List SV}, SV.beqs a b = true → a = b
  | [], b, h => by cases b <;> simp_all [SV.beqs]
  | x :: a, b, h => by
    cases b with
    | nil => simp [SV.beqs] at h
    | cons y b =>
      simp only [SV.beqs, Bool.and_eq_true] at h
      rw [SV.beq_eq h.1, SV.beqs_eq h.2]
end
end Go.Proofs.YtamiebojjinhcaaGreatDoor.Sx

set_option linter.unusedSimpArgs false
namespace Go.Proofs.YtamiebojjinhcaaGreatDoor.Sx
variable {P : Program}

section lex
variable {same : Nat → Bool} {call : Caller} {ops : List Oper}
/-- One step of the walk in the text's order. -/
theorem lexS_cons {o : Oper} {os : List Oper} {t : List SV} {σ : SW} {rs : List Rec} {tf : List SV} {σf : SW} (h : lexS P same call ops (o :: os) t σ = some (rs, tf, σf)) :
    ∃ r rs' σ', rs = r :: rs' ∧ r.t = t ∧ r.σ = σ ∧ lexS P same call ops os (Sx.put o.dst r.v t) σ' = some (rs', tf, σf) ∧
      ((r.eff = false ∧ σ' = σ ∧ valP P same ops o t σ.h = some r.v) ∨ (r.eff = true ∧ valS P same call ops o t σ = some (r.v, σ'))) := by
  simp only [lexS] at h
  split at h
  · rename_i v hv
    simp only [fV_eq, putK_eq] at h
    split at h
    · rename_i rs' p hr
      injection h with h; injection h with e1 e2
      subst e1; subst e2
      exact ⟨⟨false, v, t, σ⟩, rs', σ, rfl, rfl, rfl, hr, .inl ⟨rfl, rfl, hv⟩⟩
    · cases h
  · split at h
    · rename_i v σ' hv
      simp only [putK_eq] at h
      split at h
      · rename_i rs' p hr
        injection h with h; injection h with e1 e2
        subst e1; subst e2
        exact ⟨⟨true, v, t, σ⟩, rs', σ', rfl, rfl, rfl, hr, .inr ⟨rfl, hv⟩⟩
      · cases h
    · cases h
theorem lexS_head : ∀ {os : List Oper} {t : List SV} {σ : SW} {rs : List Rec} {tf : List SV} {σf : SW}, lexS P same call ops os t σ = some (rs, tf, σf) → rs.length = os.length ∧ (stages σf rs)[0]? = some σ
  | [], t, σ, rs, tf, σf, h => by
    simp only [lexS] at h
    injection h with h; injection h with e1 h; injection h with e2 e3
    subst e1; subst e2; subst e3
    exact ⟨rfl, rfl⟩
  | o :: os, t, σ, rs, tf, σf, h => by
    obtain ⟨r, rs', σ', rfl, ht, hσ, hr, hc⟩ := lexS_cons h
    obtain ⟨h1, h2⟩ := lexS_head hr
    refine ⟨by simp [h1], ?_⟩
    rcases hc with ⟨he, rfl, _⟩ | ⟨he, _⟩
    · simpa [stages, he] using h2
    · simp [stages, he, hσ]
theorem lexS_at : ∀ {os : List Oper} {t : List SV} {σ : SW} {rs : List Rec} {tf : List SV} {σf : SW}, lexS P same call ops os t σ = some (rs, tf, σf) → ∀ (j : Nat) (r : Rec) (o : Oper), rs[j]? = some r → os[j]? = some o →
    (r.eff = false → valP P same ops o r.t r.σ.h = some r.v) ∧ (r.eff = true → ∃ σ', valS P same call ops o r.t r.σ = some (r.v, σ') ∧ (stages σf (rs.drop (j + 1)))[0]? = some σ') ∧ (stages σf (rs.drop j))[0]? = some r.σ
  | [], t, σ, rs, tf, σf, h, j, r, o, hr, ho => by simp at ho
  | o :: os, t, σ, rs, tf, σf, h, j, r, o', hr, ho => by
    have hhd := (lexS_head h).2
    obtain ⟨r0, rs', σ', rfl, ht, hσ, hrest, hc⟩ := lexS_cons h
    cases j with
    | zero =>
      simp at hr ho
      subst hr; subst ho
      refine ⟨fun he => ?_, fun he => ?_, ?_⟩
      · rcases hc with ⟨_, _, hv⟩ | ⟨he', _⟩
        · rw [ht, hσ]; exact hv
        · rw [he] at he'; cases he'
      · rcases hc with ⟨he', _, _⟩ | ⟨_, hv⟩
        · rw [he] at he'; cases he'
        · exact ⟨σ', by rw [ht, hσ]; exact hv, by simpa using (lexS_head hrest).2⟩
      · simp only [List.drop_zero]; rw [hhd, hσ]
    | succ j =>
      simp at hr ho
      have := lexS_at hrest j r o' hr ho
      simpa using this
theorem lexS_tm {opsA : Array Oper} {v : Nat → SV} {t0 : List SV} : ∀ {os : List Oper} {t : List SV} {σ : SW} {rs : List Rec} {tf : List SV} {σf : SW} (k : Nat), lexS P same call ops os t σ = some (rs, tf, σf) → (∀ (j : Nat) (r : Rec), rs[j]? = some r → v (k + j) = r.v) →
    (∀ (j : Nat) (o : Oper), os[j]? = some o → dstOf opsA (k + j) = o.dst) → t = tmL opsA v t0 (fun _ => true) k → (∀ (j : Nat) (r : Rec), rs[j]? = some r → r.t = tmL opsA v t0 (fun _ => true) (k + j)) ∧ tf = tmL opsA v t0 (fun _ => true) (k + os.length)
  | [], t, σ, rs, tf, σf, k, h, _, _, ht => by
    simp only [lexS] at h
    injection h with h; injection h with e1 h; injection h with e2 e3
    subst e1; subst e2; subst e3
    exact ⟨fun j r hr => by simp at hr, by simpa using ht⟩
  | o :: os, t, σ, rs, tf, σf, k, h, hv, hd, ht => by
    obtain ⟨r0, rs', σ', rfl, ht0, hσ, hrest, hc⟩ := lexS_cons h
    have hnext : Sx.put o.dst r0.v t = tmL opsA v t0 (fun _ => true) (k + 1) := by
      simp only [tmL, if_true]
      rw [← ht]
      have h1 := hv 0 r0 (by simp)
      have h2 := hd 0 o (by simp)
      simp at h1 h2
      rw [h1, h2]
    obtain ⟨h1, h2⟩ := lexS_tm (k + 1) hrest (fun j r hr => by rw [show k + 1 + j = k + (j + 1) by omega]; exact hv (j + 1) r (by simpa using hr)) (fun j o ho => by rw [show k + 1 + j = k + (j + 1) by omega]; exact hd (j + 1) o (by simpa using ho)) hnext
    refine ⟨fun j r hr => ?_, by rw [h2]; congr 1; simp; omega⟩
    cases j with
    | zero => simp at hr; subst hr; rw [ht0]; simpa using ht
    | succ j => rw [h1 j r (by simpa using hr)]; congr 1; omega
end lex
theorem tmL_lt {ops : Array Oper} {v : Nat → SV} {t0 : List SV} {i : Nat} : ∀ {n : Nat}, tmL ops v t0 (fun j => decide (j < i)) n = tmL ops v t0 (fun _ => true) (min i n)
  | 0 => by simp [tmL]
  | n + 1 => by
    simp only [tmL]
    by_cases h : n < i
    · rw [show min i (n + 1) = n + 1 by omega]
      simp only [tmL, h, decide_true, if_true]
      rw [tmL_lt, show min i n = n by omega]
    · rw [show min i (n + 1) = min i n by omega]
      simp only [h, decide_false, Bool.false_eq_true, if_false]
      exact tmL_lt
theorem effs_split : ∀ {rs : List Rec} (i j : Nat) {r : Rec}, rs[j]? = some r → r.eff = true → effs rs i = effs (rs.take j) i ++ (i + j) :: effs (rs.drop (j + 1)) (i + j + 1)
  | [], i, j, r, h, _ => by simp at h
  | x :: rs, i, 0, r, h, he => by
    simp at h; subst h
    simp [effs, he]
  | x :: rs, i, j + 1, r, h, he => by
    have ih := effs_split (rs := rs) (i + 1) j (by simpa using h) he
    simp only [effs, List.take_succ_cons, List.drop_succ_cons]
    rw [show i + (j + 1) = i.succ + j by omega]
    split <;> simp [ih]
theorem effs_mem : ∀ {rs : List Rec} {i x : Nat}, x ∈ effs rs i → i ≤ x ∧ x < i + rs.length ∧ ∃ r, rs[x - i]? = some r ∧ r.eff = true
  | [], i, x, h => by simp [effs] at h
  | r :: rs, i, x, h => by
    have key : ∀ {x}, x ∈ effs rs (i + 1) → i ≤ x ∧ x < i + (r :: rs).length ∧ ∃ r', (r :: rs)[x - i]? = some r' ∧ r'.eff = true := fun {x} hx => by
      obtain ⟨h1, h2, r', h3, h4⟩ := effs_mem hx
      refine ⟨by omega, by simp; omega, r', ?_, h4⟩
      rw [show x - i = (x - (i + 1)) + 1 by omega]
      simpa using h3
    simp only [effs] at h
    split at h
    · rename_i he
      rcases List.mem_cons.1 h with rfl | h
      · exact ⟨Nat.le_refl _, by simp, r, by simp, he⟩
      · exact key h
    · exact key h
theorem stages_at {σf : SW} : ∀ {rs : List Rec} (i j m : Nat), j ≤ rs.length → (stages σf rs)[(effs (rs.take j) i).length + m]? = (stages σf (rs.drop j))[m]?
  | rs, i, 0, m, _ => by simp [effs]
  | [], i, j + 1, m, h => by simp at h
  | r :: rs, i, j + 1, m, h => by
    have ih := stages_at (σf := σf) (rs := rs) (i + 1) j m (by simpa using h)
    simp only [List.take_succ_cons, List.drop_succ_cons, effs, stages]
    cases he : r.eff with
    | true =>
      simp only [List.length_cons]
      rw [show (effs (rs.take j) i.succ).length + 1 + m = ((effs (rs.take j) i.succ).length + m) + 1 by omega, List.getElem?_cons_succ]
      exact ih
    | false => exact ih
theorem stages_length {σf : SW} : ∀ {rs : List Rec} (i : Nat), (stages σf rs).length = (effs rs i).length + 1
  | [], i => rfl
  | r :: rs, i => by
    simp only [stages, effs]
    cases r.eff <;> simp [stages_length (rs := rs) (i + 1)]
theorem chainS_split {an : List Nat} : ∀ {pre : List Nat} {x : Nat} {post : List Nat}, chainS an (pre ++ x :: post) = true → (∀ y ∈ post, (an.getD y 0).testBit x = true) ∧ ∀ z ∈ pre, (an.getD x 0).testBit z = true
  | [], x, post, h => by
    simp only [List.nil_append, chainS, Bool.and_eq_true, List.all_eq_true] at h
    exact ⟨h.1, by simp⟩
  | z :: pre, x, post, h => by
    simp only [List.cons_append, chainS, Bool.and_eq_true, List.all_eq_true] at h
    obtain ⟨h1, h2⟩ := chainS_split h.2
    refine ⟨h1, fun y hy => ?_⟩
    rcases List.mem_cons.1 hy with rfl | hy
    · exact h.1 x (by simp)
    · exact h2 y hy
theorem chainS_prefix {an : List Nat} {L : Nat → Bool} (hL : ∀ x y, (an.getD y 0).testBit x = true → L y = true → L x = true) : ∀ {es : List Nat}, chainS an es = true → ∃ past rest, es = past ++ rest ∧ (∀ x ∈ past, L x = true) ∧ ∀ x ∈ rest, L x = false
  | [], _ => ⟨[], [], rfl, by simp, by simp⟩
  | x :: es, h => by
    simp only [chainS, Bool.and_eq_true, List.all_eq_true] at h
    cases hx : L x with
    | true =>
      obtain ⟨past, rest, e, h1, h2⟩ := chainS_prefix hL h.2
      refine ⟨x :: past, rest, by simp [e], fun y hy => ?_, h2⟩
      rcases List.mem_cons.1 hy with rfl | hy
      · exact hx
      · exact h1 y hy
    | false =>
      refine ⟨[], x :: es, rfl, by simp, fun y hy => ?_⟩
      rcases List.mem_cons.1 hy with rfl | hy
      · exact hx
      · cases hy' : L y with
        | false => rfl
        | true =>
          have := hL x y (h.1 y hy) hy'
          rw [hx] at this; cases this
theorem filter_split {L : Nat → Bool} {past rest : List Nat} (h1 : ∀ x ∈ past, L x = true) (h2 : ∀ x ∈ rest, L x = false) : (past ++ rest).filter L = past := by
  rw [List.filter_append, List.filter_eq_self.2 h1, List.filter_eq_nil_iff.2 (fun x hx => by rw [h2 x hx]; simp), List.append_nil]
theorem steadyS_spec {same : Nat → Bool} {ops : List Oper} {an : List Nat} {i : Nat} {o : Oper} {r : Rec} : ∀ (rest past : List Nat) (hs : List SW), steadyS P same ops an i o r past rest hs = true → ∀ m, m ≤ rest.length → ∀ σ, hs[m]? = some σ → mayNow an i (past ++ rest.take m) (rest.drop m) = true →
    valP P same ops o r.t σ.h = some r.v
  | rest, past, [], _, m, _, σ, hσ, _ => by simp at hσ
  | rest, past, σ0 :: hs, h, 0, _, σ, hσ, hm => by
    simp at hσ; subst hσ
    unfold steadyS at h
    simp only [Bool.and_eq_true, Bool.or_eq_true, Bool.not_eq_true'] at h
    rcases h.1 with h1 | h1
    · simp at hm; rw [hm] at h1; cases h1
    · split at h1
      · rename_i v hv; rw [hv, SV.beq_eq h1]
      · cases h1
  | [], past, σ0 :: hs, h, m + 1, hm', σ, hσ, hm => by simp at hm'
  | j :: rest, past, σ0 :: hs, h, m + 1, hm', σ, hσ, hm => by
    unfold steadyS at h
    simp only [Bool.and_eq_true] at h
    refine steadyS_spec rest (past ++ [j]) hs h.2 m (by simpa using hm') σ (by simpa using hσ) ?_
    simpa using hm
theorem steadyAll_spec {same : Nat → Bool} {ops : List Oper} {an es : List Nat} {hs : List SW} : ∀ {os : List Oper} {rs : List Rec} (i : Nat), steadyAll P same ops an es hs os rs i = true → ∀ (j : Nat) (o : Oper) (r : Rec), os[j]? = some o → rs[j]? = some r → r.eff = true ∨ steadyS P same ops an (i + j) o r [] es hs = true
  | [], rs, i, h, j, o, r, ho, hr => by simp at ho
  | o' :: os, [], i, h, j, o, r, ho, hr => by simp at hr
  | o' :: os, r' :: rs, i, h, j, o, r, ho, hr => by
    simp only [steadyAll, Bool.and_eq_true, Bool.or_eq_true] at h
    cases j with
    | zero => simp at ho hr; subst ho; subst hr; exact h.1
    | succ j =>
      have := steadyAll_spec (i + 1) h.2 j o r (by simpa using ho) (by simpa using hr)
      rwa [show i + (j + 1) = i + 1 + j by omega]
theorem cnt_le (L : Nat → Bool) : ∀ n, cnt L n ≤ n
  | 0 => Nat.le_refl 0
  | n + 1 => by simp only [cnt]; have := cnt_le L n; split <;> omega
theorem tmL_none {ops : Array Oper} {v : Nat → SV} {t0 : List SV} : ∀ n, tmL ops v t0 (fun _ => false) n = t0
  | 0 => rfl
  | n + 1 => by simp only [tmL, Bool.false_eq_true, if_false]; exact tmL_none n

/-- **A REGION THAT PASSES THE CHECK.** -/
theorem drawS_ok (hm : P.follows .mixedOrders = true) {same : Nat → Bool} (hsame : SameOK P same) : DrawsOK P (drawS P same) := by
  intro call hc id ops t σ t' σ' h B ρ0 a0 w0 ht0 hw0
  unfold drawS at h
  cases hst : statS ops.toList with
  | false => simp only [hst] at h; cases h
  | true =>
    simp only [hst] at h
    obtain ⟨hback, hnames⟩ := statS_spec hst
    cases hlex : lexS P same call ops.toList ops.toList t σ with
    | none => simp only [hlex] at h; cases h
    | some q =>
      obtain ⟨rs, tf, σf⟩ := q
      simp only [hlex] at h
      -- what the check gives
      have hsum : t' = tf ∧ σ' = σf ∧ chainS (ancS ops.toList []) (effs rs 0) = true ∧ ∀ (i : Nat) (o : Oper) (r : Rec), ops.toList[i]? = some o → rs[i]? = some r → r.eff = false → ∀ past rest, effs rs 0 = past ++ rest → mayNow (ancS ops.toList []) i past rest = true →
          ∀ τ, (stages σf rs)[past.length]? = some τ → valP P same ops.toList o r.t τ.h = some r.v := by
        split at h
        · rename_i hes
          injection h with h; injection h with e1 e2; subst e1; subst e2
          refine ⟨rfl, rfl, by rw [hes]; rfl, fun i o r ho hr he past rest hpr hmay τ hτ => ?_⟩
          rw [hes] at hpr
          have hp0 : past = [] := by cases past with | nil => rfl | cons _ _ => simp at hpr
          subst hp0
          obtain ⟨h1, _, h3⟩ := lexS_at hlex i r o hr ho
          have hlt : i < rs.length := (List.getElem?_eq_some_iff.1 hr).1
          have h4 := stages_at (σf := σf) (rs := rs) 0 i 0 (by omega)
          have h5 : effs (rs.take i) 0 = [] := by
            cases hx : effs (rs.take i) 0 with
            | nil => rfl
            | cons y ys =>
              exfalso
              obtain ⟨_, h6, r', h7, h8⟩ := effs_mem (rs := rs.take i) (i := 0) (x := y) (by rw [hx]; simp)
              have h9 : rs[y]? = some r' := by
                have h7' := h7
                simp only [Nat.sub_zero, List.getElem?_take] at h7'
                split at h7'
                · exact h7'
                · cases h7'
              have := effs_split 0 y h9 h8
              rw [hes] at this
              simp at this
          rw [h5] at h4
          simp only [List.length_nil, Nat.zero_add] at h4 hτ
          rw [hτ, h3] at h4
          injection h4 with h4
          rw [h4]
          exact h1 he
        · rename_i hne
          split at h
          · rename_i hck
            injection h with h; injection h with e1 e2; subst e1; subst e2
            simp only [Bool.and_eq_true] at hck
            refine ⟨rfl, rfl, hck.1, fun i o r ho hr he past rest hpr hmay τ hτ => ?_⟩
            rcases steadyAll_spec 0 hck.2 i o r ho hr with h1 | h1
            · rw [he] at h1; cases h1
            · rw [Nat.zero_add] at h1
              refine steadyS_spec _ [] _ h1 past.length (by rw [hpr]; simp) τ hτ ?_
              rw [hpr]
              simpa using hmay
          · cases h
      obtain ⟨rfl, rfl, hchain, hpure⟩ := hsum
      have hlen := (lexS_head hlex).1
      have hlenA : rs.length = ops.size := by simpa using hlen
      let v : Nat → SV := fun i => ((rs[i]?).map (·.v)).getD undefS
      have hv : ∀ (j : Nat) (r : Rec), rs[j]? = some r → v j = r.v := fun j r hr => by simp [v, hr]
      obtain ⟨htm, htf⟩ := lexS_tm (opsA := ops) (v := v) (t0 := t) 0 hlex (fun j r hr => by rw [Nat.zero_add]; exact hv j r hr) (fun j o ho => by rw [Nat.zero_add]; simp [dstOf] at ho ⊢; rw [ho]; rfl) rfl
      generalize hesd : effs rs 0 = es at hchain hpure
      let hp : (Nat → Bool) → SW := fun L => ((stages σ' rs)[(es.filter L).length]?).getD σ'
      have hlens := stages_length (σf := σ') (rs := rs) 0
      rw [hesd] at hlens
      have hlast : (stages σ' rs)[es.length]? = some σ' := by
        have := stages_at (σf := σ') (rs := rs) 0 rs.length 0 (Nat.le_refl _)
        simp only [List.take_length, Nat.add_zero, List.drop_length, hesd] at this
        rw [this]
        rfl
      have hin : ∀ x ∈ es, x < ops.size := fun x hx => by
        rw [← hesd] at hx
        have := (effs_mem hx).2.1
        omega
      refine wp_region_any hm ?_
      have hmain := draw_main (B := B) (P := P) hback hnames v t hp ?_ (t' := t') (σ' := σ') ?_ ?_ ρ0 ops.size (Array.replicate ops.size false) (by simp) ?_ ?_ ρ0 a0 { w0 with drawn := w0.drawn + 1 } (.refl ρ0) ?_ ?_
      · exact hmain
      · -- a step
        intro L L' i o ho hcl hrd hLi hL' tt hag ρ a w K Q htr hwr hK
        have hol : ops.toList[i]? = some o := by simpa using ho
        have hlt : i < ops.size := (Array.getElem?_eq_some_iff.1 ho).1
        have hri : ∃ r, rs[i]? = some r := ⟨_, List.getElem?_eq_getElem (by omega)⟩
        obtain ⟨r, hr⟩ := hri
        obtain ⟨h1, h2, h3⟩ := lexS_at hlex i r o hr hol
        have hrt : r.t = tmL ops v t (fun j => decide (j < i)) ops.size := by
          rw [htm i r hr, Nat.zero_add, tmL_lt, show min i ops.size = i by omega]
        have hag' : ∀ u ∈ looks ops.toList o, tt[u]? = r.t[u]? := fun u hu => by rw [hag u hu, hrt]
        rw [hv i r hr] at hK
        have hancL : ∀ x y, ((ancS ops.toList []).getD y 0).testBit x = true → L y = true → L x = true := fun x y hb hy => (anc_of hb).closed hcl hy
        cases he : r.eff with
        | true =>
          obtain ⟨σ1, hval, hσ1⟩ := h2 he
          have hsp := effs_split (rs := rs) 0 i hr he
          rw [hesd, Nat.zero_add] at hsp
          generalize hpre : effs (rs.take i) 0 = pre at hsp
          generalize hpost : effs (rs.drop (i + 1)) (i + 1) = post at hsp
          obtain ⟨hc1, hc2⟩ := chainS_split (by rw [hsp] at hchain; exact hchain)
          have hpreL : ∀ z ∈ pre, L z = true := fun z hz => (anc_of (hc2 z hz)).ready hcl ho hrd
          have hpostL : ∀ z ∈ post, L z = false := fun z hz => by
            cases hz' : L z with
            | false => rfl
            | true =>
              have := (anc_of (hc1 z hz)).closed hcl hz'
              rw [hLi] at this; cases this
          have hpostgt : ∀ z ∈ post, i < z := fun z hz => by
            rw [← hpost] at hz
            have := (effs_mem hz).1
            omega
          have hf1 : es.filter L = pre := by
            rw [hsp]
            refine filter_split hpreL fun x hx => ?_
            rcases List.mem_cons.1 hx with rfl | hx
            · exact hLi
            · exact hpostL x hx
          have hf2 : es.filter L' = pre ++ [i] := by
            have : es = (pre ++ [i]) ++ post := by rw [hsp]; simp
            have hmem : ∀ x, x ∈ pre ++ [i] ∨ x ∈ post → x < ops.size := fun x hx => hin x (by rw [this]; simpa [or_assoc] using hx)
            rw [this]
            refine filter_split (fun x hx => ?_) fun x hx => ?_
            · rw [hL' x (hmem x (.inl hx))]
              rcases List.mem_append.1 hx with hx | hx
              · simp [hpreL x hx]
              · simp at hx; simp [hx]
            · rw [hL' x (hmem x (.inr hx)), hpostL x hx]
              have := hpostgt x hx
              simp
              omega
          have hile : i ≤ rs.length := by omega
          have hhp1 : hp L = r.σ := by
            have := stages_at (σf := σ') (rs := rs) 0 i 0 hile
            rw [hpre, Nat.add_zero, h3] at this
            simp only [hp, hf1, this]
            rfl
          have hhp2 : hp L' = σ1 := by
            have := stages_at (σf := σ') (rs := rs) 0 i 1 hile
            have hdrop : rs.drop i = r :: rs.drop (i + 1) := by
              rw [List.drop_eq_getElem_cons (by omega)]
              congr 1
              rw [List.getElem?_eq_getElem (by omega)] at hr
              injection hr
            rw [hpre, hdrop] at this
            simp only [stages, he, List.getElem?_cons_succ] at this
            rw [hσ1] at this
            simp only [hp, hf2, List.length_append, List.length_singleton, this]
            rfl
          rw [hhp1] at hwr
          rw [hhp2] at hK
          rw [← valS_congr hag' call r.σ] at hval
          exact valS_spec hsame hc hval ρ a w K Q htr hwr hK
        | false =>
          obtain ⟨past, rest, hpr, hp1, hp2⟩ := chainS_prefix hancL hchain
          have hf1 : es.filter L = past := by rw [hpr]; exact filter_split hp1 hp2
          have hnin : i ∉ es := fun hx => by
            rw [← hesd] at hx
            obtain ⟨_, _, r', h6, h7⟩ := effs_mem hx
            rw [Nat.sub_zero, hr] at h6
            injection h6 with h6
            subst h6
            rw [he] at h7; cases h7
          have hf2 : es.filter L' = es.filter L := by
            refine List.filter_congr fun x hx => ?_
            rw [hL' x (hin x hx)]
            have : x ≠ i := fun e => hnin (by rw [← e]; exact hx)
            simp [this]
          have hhp : hp L' = hp L := by simp only [hp, hf2]
          have hk : past.length < (stages σ' rs).length := by rw [hlens, hpr]; simp; omega
          have hτ : (stages σ' rs)[past.length]? = some (hp L) := by
            simp only [hp, hf1, List.getElem?_eq_getElem hk]
            rfl
          have hmay : mayNow (ancS ops.toList []) i past rest = true := by
            simp only [mayNow, Bool.and_eq_true, List.all_eq_true, Bool.not_eq_true']
            constructor
            · intro j hj
              cases hb : ((ancS ops.toList []).getD j 0).testBit i with
              | false => rfl
              | true =>
                have := (anc_of hb).closed hcl (hp1 j hj)
                rw [hLi] at this; cases this
            · intro j hj
              cases hb : ((ancS ops.toList []).getD i 0).testBit j with
              | false => rfl
              | true =>
                have := (anc_of hb).ready hcl ho hrd
                rw [hp2 j hj] at this; cases this
          have hvp := hpure i o r hol hr he past rest hpr hmay _ hτ
          rw [← valP_congr hag'] at hvp
          rw [hhp] at hK
          exact valS_spec hsame hc (valS_of_valP hvp call) ρ a w K Q htr hwr hK
      · -- the end
        intro L hL
        have : es.filter L = es := List.filter_eq_self.2 fun x hx => hL x (hin x hx)
        simp only [hp, this, hlast]
        rfl
      · rw [htf]; simp
      · intro i o ho hL
        simp [Array.getD] at hL
      · exact cnt_le _ _
      · rw [tmL_congr (B := fun _ => false) (fun i hi => by simp [Array.getD, hi]), tmL_none]
        exact ht0
      · have hall : (fun i => (Array.replicate ops.size false).getD i false) = fun _ => false := by
          funext i
          simp [Array.getD]
        have h0 : hp (fun _ => false) = σ := by
          have := (lexS_head hlex).2
          have hn : es.filter (fun _ => false) = [] := List.filter_eq_nil_iff.2 fun x _ => by simp
          simp [hp, hn, this]
        rw [hall, h0]
        exact hw0.heap rfl
end Go.Proofs.YtamiebojjinhcaaGreatDoor.Sx
