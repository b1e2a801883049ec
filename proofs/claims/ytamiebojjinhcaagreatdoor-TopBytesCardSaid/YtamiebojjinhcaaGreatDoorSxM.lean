/-
  Regions of a drawn order in which one slice is built apart from the chain of those that act.
  Such regions: what is checked of them is enough.
-/
import Derived.Test.YtamiebojjinhcaaGreatDoorSxI
set_option linter.unusedVariables false
set_option linter.unusedSimpArgs false
namespace Go.Proofs.YtamiebojjinhcaaGreatDoor.Sx
variable {B : World}

def beqE : List (SV × SV × Nat) → List (SV × SV × Nat) → Bool
  | [], [] => true
  | (a, b, c) :: es, (d, e, f) :: ds => SV.beq a d && SV.beq b e && Nat.beq c f && beqE es ds
  | _, _ => false
def SO.beq : SO → SO → Bool
  | .cells e x cs, .cells f y ds => Nat.beq e f && (x == y) && SV.beqs cs ds
  | .map es c, .map ds d => Nat.beq c d && beqE es ds
  | .dead, .dead => true
  | .hole, .hole => true
  | .tab cs, .tab ds => SV.beqs cs ds
  | _, _ => false
def beqO : Option SO → Option SO → Bool
  | none, none => true
  | some a, some b => SO.beq a b
  | _, _ => false
def H.beq : H → H → Bool
  | .nil, .nil => true
  | .node o l r, .node p m s => beqO o p && H.beq l m && H.beq r s
  | _, _ => false
theorem beqE_eq : ∀ {a b : List (SV × SV × Nat)}, beqE a b = true → a = b
  | [], b, h => by cases b <;> simp_all [beqE]
  | (a, b, c) :: es, ds, h => by
    cases ds with
    | nil => simp [beqE] at h
    | cons d ds =>
      obtain ⟨d, e, f⟩ := d
      simp only [beqE, Bool.and_eq_true] at h
      rw [SV.beq_eq h.1.1.1, SV.beq_eq h.1.1.2, Nat.eq_of_beq_eq_true h.1.2, beqE_eq h.2]
theorem SO.beq_eq {a b : SO} (h : SO.beq a b = true) : a = b := by
  cases a <;> cases b <;> simp only [SO.beq] at h <;> try (first | rfl | cases h; done)
  · simp only [Bool.and_eq_true, beq_iff_eq] at h
    rw [Nat.eq_of_beq_eq_true h.1.1, h.1.2, SV.beqs_eq h.2]
  · simp only [Bool.and_eq_true] at h
    rw [Nat.eq_of_beq_eq_true h.1, beqE_eq h.2]
  · rw [SV.beqs_eq h]
theorem beqO_eq {a b : Option SO} (h : beqO a b = true) : a = b := by
  cases a <;> cases b <;> simp only [beqO] at h <;> try (first | rfl | cases h; done)
  rw [SO.beq_eq h]
theorem H.beq_eq : ∀ {a b : H}, H.beq a b = true → a = b
  | .nil, b, h => by cases b <;> simp_all [H.beq]
  | .node o l r, b, h => by
    cases b with
    | nil => simp [H.beq] at h
    | node p m s =>
      simp only [H.beq, Bool.and_eq_true] at h
      rw [beqO_eq h.1.1, H.beq_eq h.1.2, H.beq_eq h.2]

/-! ### A name kept for later -/
section hole
variable {ρ : Rho} {σ : SW} {w : World}
theorem WR.hole (hw : WR B ρ σ w) : WR B ρ (σ.app (.new .hole)) w := by
  have hn : ρ σ.n = none := by
    cases h : ρ σ.n with
    | none => rfl
    | some p => have := hw.fresh _ _ h; omega
  have key : ∀ i o, (H.set deep σ.h σ.n .hole).get i = some o → (i = σ.n ∧ i + 1 < 2 ^ deep ∧ o = .hole) ∨ σ.h.get i = some o := fun i o h => by
    by_cases hi : σ.n = i
    · subst hi
      rcases H.get_set_eq deep σ.h σ.n .hole with ⟨hd, k⟩ | ⟨_, k⟩
      · rw [k] at h; injection h with h; exact .inl ⟨rfl, hd, h.symm⟩
      · rw [k] at h; exact .inr h
    · rw [H.get_set_ne _ _ _ _ _ hi] at h; exact .inr h
  refine ⟨fun i p h => by have := hw.fresh i p h; simp only [SW.app]; omega, hw.low, fun i o h => ?_, fun i o h => ?_, fun i j o1 o2 a A C h1 d1 h2 d2 e1 e2 => ?_, hw.zero, hw.base.1, fun i o g N h hwr e => ?_⟩
  · rcases key i o h with ⟨_, h1, _⟩ | h
    · exact h1
    · exact hw.lim i o h
  · rcases key i o h with ⟨h1, _, h2⟩ | h
    · subst h2; rw [h1]; exact hn
    · exact hw.obj i o h
  · rcases key i o1 h1 with ⟨g1, _, _⟩ | h1
    · rw [g1, hn] at e1; cases e1
    · rcases key j o2 h2 with ⟨g2, _, _⟩ | h2
      · rw [g2, hn] at e2; cases e2
      · exact hw.inj i j o1 o2 a A C h1 d1 h2 d2 e1 e2
  · rcases key i o h with ⟨_, _, h2⟩ | h
    · subst h2; cases hwr
    · exact hw.base.2 i o g N h hwr e
/-- It is filled. -/
theorem WR.fill (hw : WR B ρ σ w) {m : Nat} (hm : m < σ.n) (hi : σ.h.get m = some .hole) {w' : World} {o : SO} {b : Obj} {N : Nat} (hw' : w'.heap = w.heap.push b) (ho : OR (ρ.put m (w.heap.size, N)) w' m o) (hq : Quiet w w' := by exact ⟨rfl, rfl, rfl⟩) :
    ρ.le (ρ.put m (w.heap.size, N)) ∧ WR B (ρ.put m (w.heap.size, N)) ⟨H.set deep σ.h m o, σ.n⟩ w' := by
  have hn : ρ m = none := hw.obj m _ hi
  have hs : w'.heap.size = w.heap.size + 1 := by rw [hw']; simp
  have hk : ∀ k, k < w.heap.size → w'.heap[k]? = w.heap[k]? := fun k hk => by rw [hw', Array.getElem?_push]; simp; omega
  have hle : ρ.le (ρ.put m (w.heap.size, N)) := fun i p h => by
    unfold Rho.put
    rw [if_neg (fun e => by subst e; rw [hn] at h; cases h)]
    exact h
  have hpn : ∀ i, i ≠ m → ρ i = none → (ρ.put m (w.heap.size, N)) i = none := fun i hi h => by unfold Rho.put; rw [if_neg hi]; exact h
  have old : ∀ j p, (ρ.put m (w.heap.size, N)) j = some p → j ≠ m → ρ j = some p := fun j p h hj => by
    unfold Rho.put at h; rw [if_neg hj] at h; exact h
  have hlim := hw.lim m _ hi
  have hset : (H.set deep σ.h m o).get m = some o := by
    rcases H.get_set_eq deep σ.h m o with ⟨_, k⟩ | ⟨k, _⟩
    · exact k
    · omega
  refine ⟨hle, fun i p h => ?_, fun i a M h => ?_, fun i o' h => ?_, fun i o' h => ?_, fun i j o1 o2 a A C h1 d1 h2 d2 e1 e2 => ?_, ?_, hw.base.1.trans ((hq.below (by omega) hk).mono hw.base.1.size), fun i o1 a M h hwr e => ?_⟩
  · by_cases hj : i = m
    · subst hj; exact hm
    · exact hw.fresh i p (old i p h hj)
  · by_cases hj : i = m
    · subst hj
      simp at h
      omega
    · have := hw.low i a M (old i _ h hj); omega
  · by_cases hj : m = i
    · subst hj; exact hlim
    · rw [H.get_set_ne _ _ _ _ _ hj] at h; exact hw.lim _ _ h
  · by_cases hj : m = i
    · subst hj; rw [hset] at h; injection h with h; subst h; exact ho
    · rw [H.get_set_ne _ _ _ _ _ hj] at h
      exact (hw.obj i o' h).mono hle (hpn i (Ne.symm hj)) fun a M e => hk a (hw.low i a M e)
  · have key : ∀ i o1, (H.set deep σ.h m o).get i = some o1 → i ≠ m → σ.h.get i = some o1 := fun i o1 h hi => by
      rwa [H.get_set_ne _ _ _ _ _ (Ne.symm hi)] at h
    by_cases hi' : i = m
    · by_cases hj : j = m
      · omega
      · exfalso
        subst hi'
        have e2' := old j _ e2 hj
        simp at e1
        have := hw.low j _ _ e2'
        omega
    · by_cases hj : j = m
      · exfalso
        subst hj
        have e1' := old i _ e1 hi'
        simp at e2
        have := hw.low i _ _ e1'
        omega
      · exact hw.inj i j o1 o2 a A C (key i o1 h1 hi') d1 (key j o2 h2 hj) d2 (old i _ e1 hi') (old j _ e2 hj)
  · obtain ⟨N0, h0⟩ := hw.zero
    exact ⟨N0, hle _ _ h0⟩
  · by_cases hj : i = m
    · subst hj
      simp at e
      have := hw.base.1.size
      omega
    · rw [H.get_set_ne _ _ _ _ _ (Ne.symm hj)] at h
      exact hw.base.2 i o1 a M h hwr (old i _ e hj)
end hole

/-! ### The check -/
section check
variable (P : Program)
def buildS (n : Nat) (t len : Nat) (ps : Array (Nat × Operand)) (vs : List SV) : Option (SV × SO) := match P.underlying t with
    | some (.slice e) => match sizeS P e, zeroS P e with
      | some k, some z => if len * k ≤ 10000 ∧ z.cells.length = k ∧ len * k ≠ 0 then (match fillS (fun i => some (i * k, k)) (repeatL z.cells len) ((ps.toList.map Prod.fst).zip vs) with
        | some cs => some (.sl (some (n, 0)) len (.known len), .cells e false cs)
        | none => none) else none
      | _, _ => none
    | _ => none
def pickBS : List Oper → Nat → Option Nat → Option Nat
  | [], _, r => r
  | o :: os, i, r => pickBS os (.succ i) (match o.guard, o.op with
    | none, .buildSlice .. => some i
    | _, _ => r)
def floatV (m : Nat) (o : Oper) (t : List SV) : Option (SV × SO) := match o.guard, o.op with
  | none, .buildSlice bt len ps => match evs t (ps.toList.map Prod.snd) with
    | some vs => buildS P m bt len ps vs
    | none => none
  | _, _ => none
/-- The walk in the text's order, the f-th being done beforehand. -/
def lexF (same : Nat → Bool) (call : Caller) (ops : List Oper) (f m : Nat) (vf : SV) (ob : SO) : List Oper → Nat → List SV → SW → Option (List Rec × List SV × SW)
  | [], _, t, σ => some ([], t, σ)
  | o :: os, i, t, σ => match Nat.beq i f with
    | true => (match floatV P m o t with
      | some (v, b) => if SV.beq v vf && SO.beq b ob then (match lexF same call ops f m vf ob os (.succ i) (put o.dst vf t) σ with
        | some (rs, p) => some (⟨false, vf, t, σ⟩ :: rs, p)
        | none => none) else none
      | none => none)
    | false => (match valP P same ops o t σ.h with
      | some v => (match lexF same call ops f m vf ob os (.succ i) (put o.dst v t) σ with
        | some (rs, p) => some (⟨false, v, t, σ⟩ :: rs, p)
        | none => none)
      | none => match valS P same call ops o t σ with
        | some (v, σ') => (match lexF same call ops f m vf ob os (.succ i) (put o.dst v t) σ' with
          | some (rs, p) => some (⟨true, v, t, σ⟩ :: rs, p)
          | none => none)
        | none => none)
/-- The worlds ahead of it: those that act and do not wait for it. -/
def walkB (same : Nat → Bool) (call : Caller) (ops : List Oper) (an : List Nat) (f : Nat) : List Oper → List Rec → Nat → SW → Option (List SW)
  | o :: os, r :: rs, i, τ => match r.eff && !(an.getD i 0).testBit f with
    | false => walkB same call ops an f os rs (.succ i) τ
    | true => match valS P same call ops o r.t τ with
      | some (v, τ') => if SV.beq v r.v then (match walkB same call ops an f os rs (.succ i) τ' with
        | some l => some (τ :: l)
        | none => none) else none
      | none => none
  | [], [], _, τ => some [τ]
  | _, _, _, _ => none
def relS (m : Nat) (ob : SO) : List SW → List SW → Bool
  | [], _ => true
  | τ :: bs, σ :: as => Nat.blt m τ.n && (match τ.h.get m with
    | some .hole => true
    | _ => false) && Nat.beq τ.n σ.n && H.beq (H.set deep τ.h m ob) σ.h && relS m ob bs as
  | _, _ => false
def steadyF (same : Nat → Bool) (ops : List Oper) (an : List Nat) (f : Nat) (es : List Nat) (hs : List SW) (eb : List Nat) (hb : List SW) : List Oper → List Rec → Nat → Bool
  | o :: os, r :: rs, i => (r.eff || Nat.beq i f || (((an.getD f 0).testBit i || steadyS P same ops an i o r [] es hs) && ((an.getD i 0).testBit f || steadyS P same ops an i o r [] eb hb))) && steadyF same ops an f es hs eb hb os rs (.succ i)
  | [], [], _ => true
  | _, _, _ => false
def floatS (same : Nat → Bool) : Draws := fun call ops t σ => match statS ops with
  | false => none
  | true => match pickBS ops 0 none, lexS P same call ops ops t σ with
    | some f, some (rs0, _, _) => match rs0[f]?, ops[f]? with
      | some r0, some o => match floatV P σ.n o r0.t with
        | some (vf, ob) => match lexF P same call ops f σ.n vf ob ops 0 t ⟨H.set deep σ.h σ.n ob, σ.n + 1⟩ with
          | some (rs, t', σ') => match walkB P same call ops (ancS ops []) f ops rs 0 (σ.app (.new .hole)) with
            | some bs => if chainS (ancS ops []) (effs rs 0) && relS σ.n ob bs (stages σ' rs) &&
                steadyF P same ops (ancS ops []) f (effs rs 0) (stages σ' rs) ((effs rs 0).filter fun j => !((ancS ops []).getD j 0).testBit f) bs ops rs 0 then some (t', σ') else none
            | none => none
          | none => none
        | none => none
      | _, _ => none
    | _, _ => none
end check
end Go.Proofs.YtamiebojjinhcaaGreatDoor.Sx

set_option linter.unusedSimpArgs false
namespace Go.Proofs.YtamiebojjinhcaaGreatDoor.Sx
variable {B : World}
variable {P : Program}

section run
variable {ρ : Rho} {σ : SW} {w : World}
/-- The slice is built, whenever. -/
theorem floatV_spec {m : Nat} {o : Oper} {t : List SV} {vf : SV} {ob : SO} {a : Act} (h : floatV P m o t = some (vf, ob)) (ht : TR ρ t a) (hw : WR B ρ σ w) (hm : m < σ.n) (hi : σ.h.get m = some .hole) :
    o.guard = none ∧ ∃ u w' ρ', (execOp a.eval o).run P w = .ok (.value u) w' ∧ ρ.le ρ' ∧ VR ρ' vf u ∧ WR B ρ' ⟨H.set deep σ.h m ob, σ.n⟩ w' := by
  obtain ⟨dst, op, ty, pos, after, g⟩ := o
  unfold floatV at h
  split at h
  · rename_i bt len ps hg hop
    simp only at hg hop
    subst hg; subst hop
    refine ⟨rfl, ?_⟩
    split at h
    · rename_i vs hvs
      have hv' := evs_spec ht hw.zero hvs
      rw [List.map_map] at hv'
      unfold buildS at h
      split at h
      · rename_i e hte
        split at h
        · rename_i n z hn hz
          split at h
          · rename_i hcond
            obtain ⟨hc1, hc2, hpos⟩ := hcond
            split at h
            · rename_i cs hf
              injection h with h; injection h with e1 e2; subst e1; subst e2
              obtain ⟨i, hi', rfl⟩ := sizeS_info hn
              obtain ⟨i', zv, hi2, hzv, hzz⟩ := zeroS_info hz
              rw [hi'] at hi2; injection hi2 with hi2; subst hi2
              have hzr := VR.cells (VR.ofVal (ρ := ρ) hzz)
              have hmade := hzr.made (n := len) (k := len * i.size) (by rw [hc2])
              obtain ⟨ds, hd, hr⟩ := fillS_spec _ hv' hmade hf
              have hd' : Instr.fill (fun i_1 => some (i_1 * i.size, i.size)) (madeCells zv.cells (len * i.size)) (ps.map fun (i, x) => (i, a.eval x)).toList = some ds := by rw [mapFst]; exact hd
              have hrun := run_buildSlice (P := P) w bt e len (ps.map fun (i, x) => (i, a.eval x)) ds i zv hte hi' hzv (by omega) hpos (by unfold madeCells at hd'; exact hd')
              have hl := hr.length
              have hfill := hw.fill hm hi (w' := w.alloc (.cells ds e)) (o := .cells e false cs) (b := .cells ds e) (N := ds.size) rfl
              have hle : ρ.le (ρ.put m (w.heap.size, ds.size)) := fun j p hj => by
                unfold Rho.put
                rw [if_neg (fun e => by subst e; rw [hw.obj _ _ hi] at hj; cases hj)]
                exact hj
              have hor : OR (ρ.put m (w.heap.size, ds.size)) (w.alloc (.cells ds e)) m (.cells e false cs) := by
                refine ⟨w.heap.size, ds.size, ds, (0, 0), Rho.put_at _ _ _, (by show (w.heap.push _)[w.heap.size]? = _; simp), rfl, by simpa using Nat.le_of_eq hl, fun _ => by simpa using hl, ?_, fun q _ hq => by simp at hq⟩
                rw [hl, List.take_length]
                exact hr.mono hle
              refine ⟨.slice (some ⟨w.heap.size, 0, none⟩) len len, w.alloc (.cells ds e), _, ?_, hle, .slk _ _ _ (Rho.put_at _ _ _), (hfill hor).2⟩
              simp [execOp, hrun]
            · cases h
          · cases h
        · cases h
      · cases h
    · cases h
  · cases h
theorem floatV_congr {m : Nat} {o : Oper} {ops : List Oper} {t t' : List SV} (h : ∀ u ∈ looks ops o, t[u]? = t'[u]?) : floatV P m o t = floatV P m o t' := by
  unfold floatV
  split
  · rename_i bt len ps hg hop
    have : evs t (ps.toList.map Prod.snd) = evs t' (ps.toList.map Prod.snd) := evs_congr fun u hu => h u (by
      unfold looks
      refine List.mem_append_left _ (List.mem_filterMap.2 ⟨.tmp u, ?_, rfl⟩)
      rw [hop]
      simpa [Op.operands] using hu)
    rw [this]
  · rfl
end run

section walks
variable {same : Nat → Bool} {call : Caller} {ops : List Oper} {f m : Nat} {vf : SV} {ob : SO}
theorem lexF_cons {o : Oper} {os : List Oper} {i : Nat} {t : List SV} {σ : SW} {rs : List Rec} {tf : List SV} {σf : SW} (h : lexF P same call ops f m vf ob (o :: os) i t σ = some (rs, tf, σf)) :
    ∃ r rs' σ', rs = r :: rs' ∧ r.t = t ∧ r.σ = σ ∧ lexF P same call ops f m vf ob os (i + 1) (Sx.put o.dst r.v t) σ' = some (rs', tf, σf) ∧
      ((i = f ∧ r.eff = false ∧ σ' = σ ∧ r.v = vf ∧ floatV P m o t = some (vf, ob)) ∨ (i ≠ f ∧ r.eff = false ∧ σ' = σ ∧ valP P same ops o t σ.h = some r.v) ∨ (i ≠ f ∧ r.eff = true ∧ valS P same call ops o t σ = some (r.v, σ'))) := by
  simp only [lexF] at h
  split at h
  · rename_i hif
    have hif := Nat.eq_of_beq_eq_true hif
    split at h
    · rename_i v b hv
      split at h
      · rename_i hck
        simp only [Bool.and_eq_true] at hck
        have e1 := SV.beq_eq hck.1
        have e2 := SO.beq_eq hck.2
        subst e1; subst e2
        split at h
        · rename_i rs' p hr
          injection h with h; injection h with e1 e2; subst e1; subst e2
          exact ⟨⟨false, v, t, σ⟩, rs', σ, rfl, rfl, rfl, hr, .inl ⟨hif, rfl, rfl, rfl, hv⟩⟩
        · cases h
      · cases h
    · cases h
  · rename_i hif
    have hif : i ≠ f := fun e => by subst e; rw [Nat.beq_refl] at hif; cases hif
    split at h
    · rename_i v hv
      split at h
      · rename_i rs' p hr
        injection h with h; injection h with e1 e2; subst e1; subst e2
        exact ⟨⟨false, v, t, σ⟩, rs', σ, rfl, rfl, rfl, hr, .inr (.inl ⟨hif, rfl, rfl, hv⟩)⟩
      · cases h
    · split at h
      · rename_i v σ' hv
        split at h
        · rename_i rs' p hr
          injection h with h; injection h with e1 e2; subst e1; subst e2
          exact ⟨⟨true, v, t, σ⟩, rs', σ', rfl, rfl, rfl, hr, .inr (.inr ⟨hif, rfl, hv⟩)⟩
        · cases h
      · cases h
theorem lexF_head : ∀ {os : List Oper} {i : Nat} {t : List SV} {σ : SW} {rs : List Rec} {tf : List SV} {σf : SW}, lexF P same call ops f m vf ob os i t σ = some (rs, tf, σf) → rs.length = os.length ∧ (stages σf rs)[0]? = some σ
  | [], i, t, σ, rs, tf, σf, h => by
    simp only [lexF] at h
    injection h with h; injection h with e1 h; injection h with e2 e3
    subst e1; subst e2; subst e3
    exact ⟨rfl, rfl⟩
  | o :: os, i, t, σ, rs, tf, σf, h => by
    obtain ⟨r, rs', σ', rfl, ht, hσ, hr, hc⟩ := lexF_cons h
    obtain ⟨h1, h2⟩ := lexF_head hr
    refine ⟨by simp [h1], ?_⟩
    rcases hc with ⟨_, he, rfl, _⟩ | ⟨_, he, rfl, _⟩ | ⟨_, he, _⟩
    · simpa [stages, he] using h2
    · simpa [stages, he] using h2
    · simp [stages, he, hσ]
/-- Those that act: each from its world to the next. -/
theorem lexF_acts : ∀ {os : List Oper} {i : Nat} {t : List SV} {σ : SW} {rs : List Rec} {tf : List SV} {σf : SW}, lexF P same call ops f m vf ob os i t σ = some (rs, tf, σf) →
    ∀ pre x post, effs rs i = pre ++ x :: post → i ≤ x ∧ ∃ o r σ1 σ2, os[x - i]? = some o ∧ rs[x - i]? = some r ∧ (stages σf rs)[pre.length]? = some σ1 ∧ (stages σf rs)[pre.length + 1]? = some σ2 ∧ valS P same call ops o r.t σ1 = some (r.v, σ2)
  | [], i, t, σ, rs, tf, σf, h, pre, x, post, he => by
    simp only [lexF] at h
    injection h with h; injection h with e1 h; subst e1
    simp [effs] at he
  | o :: os, i, t, σ, rs, tf, σf, h, pre, x, post, he => by
    obtain ⟨r, rs', σ', rfl, ht, hσ, hr, hc⟩ := lexF_cons h
    have hx : ∀ {x}, i + 1 ≤ x → x - i = (x - (i + 1)) + 1 := fun {x} h => by omega
    have pure : r.eff = false → i ≤ x ∧ ∃ o' r' σ1 σ2, (o :: os)[x - i]? = some o' ∧ (r :: rs')[x - i]? = some r' ∧ (stages σf (r :: rs'))[pre.length]? = some σ1 ∧ (stages σf (r :: rs'))[pre.length + 1]? = some σ2 ∧ valS P same call ops o' r'.t σ1 = some (r'.v, σ2) := fun hf => by
      simp only [effs, hf] at he
      obtain ⟨h1, o', r', σ1, σ2, h2, h3, h4, h5, h6⟩ := lexF_acts hr pre x post he
      exact ⟨by omega, o', r', σ1, σ2, by rw [hx h1, List.getElem?_cons_succ]; exact h2, by rw [hx h1, List.getElem?_cons_succ]; exact h3, by simpa [stages, hf] using h4, by simpa [stages, hf] using h5, h6⟩
    rcases hc with ⟨_, hf, _⟩ | ⟨_, hf, _⟩ | ⟨_, hf, hv⟩
    · exact pure hf
    · exact pure hf
    · simp only [effs, hf] at he
      cases pre with
      | nil =>
        simp only [List.nil_append, List.cons.injEq] at he
        obtain ⟨e1, e2⟩ := he
        subst e1
        refine ⟨Nat.le_refl _, o, r, σ, σ', by simp, by simp, by simp [stages, hf, hσ], ?_, by rw [ht]; exact hv⟩
        have := (lexF_head hr).2
        simpa [stages, hf] using this
      | cons y pre =>
        simp only [List.cons_append, List.cons.injEq] at he
        obtain ⟨e1, e2⟩ := he
        obtain ⟨h1, o', r', σ1, σ2, h2, h3, h4, h5, h6⟩ := lexF_acts hr pre x post e2
        exact ⟨by omega, o', r', σ1, σ2, by rw [hx h1, List.getElem?_cons_succ]; exact h2, by rw [hx h1, List.getElem?_cons_succ]; exact h3, by simpa [stages, hf] using h4, by simpa [stages, hf] using h5, h6⟩
theorem walkB_acts {an : List Nat} : ∀ {os : List Oper} {rs : List Rec} {i : Nat} {τ : SW} {bs : List SW}, walkB P same call ops an f os rs i τ = some bs →
    bs.length = ((effs rs i).filter fun j => !(an.getD j 0).testBit f).length + 1 ∧ bs[0]? = some τ ∧
    ∀ pre x post, ((effs rs i).filter fun j => !(an.getD j 0).testBit f) = pre ++ x :: post → i ≤ x ∧ ∃ o r σ1 σ2, os[x - i]? = some o ∧ rs[x - i]? = some r ∧ bs[pre.length]? = some σ1 ∧ bs[pre.length + 1]? = some σ2 ∧ valS P same call ops o r.t σ1 = some (r.v, σ2)
  | [], [], i, τ, bs, h => by
    simp only [walkB] at h
    injection h with h; subst h
    refine ⟨rfl, rfl, fun pre x post he => ?_⟩
    simp [effs] at he
  | [], _ :: _, i, τ, bs, h => by simp [walkB] at h
  | _ :: _, [], i, τ, bs, h => by simp [walkB] at h
  | o :: os, r :: rs, i, τ, bs, h => by
    have hx : ∀ {x}, i + 1 ≤ x → x - i = (x - (i + 1)) + 1 := fun {x} h => by omega
    simp only [walkB] at h
    have hfil : ((effs (r :: rs) i).filter fun j => !(an.getD j 0).testBit f) = if (r.eff && !(an.getD i 0).testBit f) = true then i :: ((effs rs (i + 1)).filter fun j => !(an.getD j 0).testBit f) else (effs rs (i + 1)).filter fun j => !(an.getD j 0).testBit f := by
      simp only [effs]
      cases r.eff with
      | false => simp
      | true => simp only [Bool.true_and, List.filter_cons]
    rw [hfil]
    split at h
    · rename_i hc
      rw [hc, if_neg (by simp)]
      obtain ⟨h1, h2, h3⟩ := walkB_acts h
      refine ⟨h1, h2, fun pre x post he => ?_⟩
      obtain ⟨h4, o', r', σ1, σ2, h5, h6, h7, h8, h9⟩ := h3 pre x post he
      exact ⟨by omega, o', r', σ1, σ2, by rw [hx h4, List.getElem?_cons_succ]; exact h5, by rw [hx h4, List.getElem?_cons_succ]; exact h6, h7, h8, h9⟩
    · rename_i hc
      rw [hc, if_pos rfl]
      split at h
      · rename_i v τ' hv
        split at h
        · rename_i hb
          split at h
          · rename_i l hl
            injection h with h; subst h
            obtain ⟨h1, h2, h3⟩ := walkB_acts hl
            refine ⟨by simp [h1], rfl, fun pre x post he => ?_⟩
            cases pre with
            | nil =>
              simp only [List.nil_append, List.cons.injEq] at he
              obtain ⟨e1, e2⟩ := he
              subst e1
              rw [SV.beq_eq hb] at hv
              exact ⟨Nat.le_refl _, o, r, τ, τ', by simp, by simp, rfl, by simpa using h2, hv⟩
            | cons y pre =>
              simp only [List.cons_append, List.cons.injEq] at he
              obtain ⟨e1, e2⟩ := he
              obtain ⟨h4, o', r', σ1, σ2, h5, h6, h7, h8, h9⟩ := h3 pre x post e2
              exact ⟨by omega, o', r', σ1, σ2, by rw [hx h4, List.getElem?_cons_succ]; exact h5, by rw [hx h4, List.getElem?_cons_succ]; exact h6, by simpa using h7, by simpa using h8, h9⟩
          · cases h
        · cases h
      · cases h
theorem lexF_tm {opsA : Array Oper} {v : Nat → SV} {t0 : List SV} : ∀ {os : List Oper} {t : List SV} {σ : SW} {rs : List Rec} {tf : List SV} {σf : SW} (k : Nat), lexF P same call ops f m vf ob os k t σ = some (rs, tf, σf) → (∀ (j : Nat) (r : Rec), rs[j]? = some r → v (k + j) = r.v) →
    (∀ (j : Nat) (o : Oper), os[j]? = some o → dstOf opsA (k + j) = o.dst) → t = tmL opsA v t0 (fun _ => true) k → (∀ (j : Nat) (r : Rec), rs[j]? = some r → r.t = tmL opsA v t0 (fun _ => true) (k + j)) ∧ tf = tmL opsA v t0 (fun _ => true) (k + os.length)
  | [], t, σ, rs, tf, σf, k, h, _, _, ht => by
    simp only [lexF] at h
    injection h with h; injection h with e1 h; injection h with e2 e3
    subst e1; subst e2; subst e3
    exact ⟨fun j r hr => by simp at hr, by simpa using ht⟩
  | o :: os, t, σ, rs, tf, σf, k, h, hv, hd, ht => by
    obtain ⟨r0, rs', σ', rfl, ht0, hσ, hrest, hc⟩ := lexF_cons h
    have hnext : Sx.put o.dst r0.v t = tmL opsA v t0 (fun _ => true) (k + 1) := by
      simp only [tmL, if_true]
      rw [← ht]
      have h1 := hv 0 r0 (by simp)
      have h2 := hd 0 o (by simp)
      simp at h1 h2
      rw [h1, h2]
    obtain ⟨h1, h2⟩ := lexF_tm (k + 1) hrest (fun j r hr => by rw [show k + 1 + j = k + (j + 1) by omega]; exact hv (j + 1) r (by simpa using hr)) (fun j o ho => by rw [show k + 1 + j = k + (j + 1) by omega]; exact hd (j + 1) o (by simpa using ho)) hnext
    refine ⟨fun j r hr => ?_, by rw [h2]; congr 1; simp; omega⟩
    cases j with
    | zero => simp at hr; subst hr; rw [ht0]; simpa using ht
    | succ j => rw [h1 j r (by simpa using hr)]; congr 1; omega
/-- The f-th. -/
theorem lexF_at : ∀ {os : List Oper} {i : Nat} {t : List SV} {σ : SW} {rs : List Rec} {tf : List SV} {σf : SW}, lexF P same call ops f m vf ob os i t σ = some (rs, tf, σf) → ∀ (j : Nat) (o : Oper) (r : Rec), os[j]? = some o → rs[j]? = some r →
    (i + j = f → r.eff = false ∧ r.v = vf ∧ floatV P m o r.t = some (vf, ob))
  | [], i, t, σ, rs, tf, σf, h, j, o, r, ho, hr => by simp at ho
  | o' :: os, i, t, σ, rs, tf, σf, h, j, o, r, ho, hr => by
    obtain ⟨r0, rs', σ', rfl, ht, hσ, hrest, hc⟩ := lexF_cons h
    cases j with
    | zero =>
      simp at ho hr
      subst ho; subst hr
      intro hif
      rcases hc with ⟨_, h1, _, h2, h3⟩ | ⟨h1, _⟩ | ⟨h1, _⟩
      · exact ⟨h1, h2, by rw [ht]; exact h3⟩
      · exact absurd hif h1
      · exact absurd hif h1
    | succ j =>
      simp at ho hr
      intro hif
      exact lexF_at hrest j o r ho hr (by omega)
end walks
theorem relS_spec {m : Nat} {ob : SO} : ∀ {bs as : List SW}, relS m ob bs as = true → ∀ (k : Nat) (τ : SW), bs[k]? = some τ → m < τ.n ∧ τ.h.get m = some .hole ∧ as[k]? = some ⟨H.set deep τ.h m ob, τ.n⟩
  | [], as, h, k, τ, hk => by simp at hk
  | τ0 :: bs, [], h, k, τ, hk => by simp [relS] at h
  | τ0 :: bs, σ0 :: as, h, k, τ, hk => by
    simp only [relS, Bool.and_eq_true] at h
    obtain ⟨⟨⟨⟨h1, h2⟩, h3⟩, h4⟩, h5⟩ := h
    cases k with
    | zero =>
      simp at hk
      subst hk
      refine ⟨Nat.le_of_ble_eq_true h1, ?_, ?_⟩
      · cases hg : τ0.h.get m with
        | none => simp [hg] at h2
        | some o => cases o <;> simp [hg] at h2 <;> rfl
      · obtain ⟨h, n⟩ := σ0
        have e1 := Nat.eq_of_beq_eq_true h3
        have e2 := H.beq_eq h4
        simp only at e1 e2
        subst e1; subst e2
        rfl
    | succ k =>
      simp at hk
      have := relS_spec h5 k τ hk
      simpa using this
theorem steadyF_spec {same : Nat → Bool} {ops : List Oper} {an : List Nat} {f : Nat} {es : List Nat} {hs : List SW} {eb : List Nat} {hb : List SW} : ∀ {os : List Oper} {rs : List Rec} (i : Nat), steadyF P same ops an f es hs eb hb os rs i = true → ∀ (j : Nat) (o : Oper) (r : Rec), os[j]? = some o → rs[j]? = some r →
    r.eff = true ∨ i + j = f ∨ (((an.getD f 0).testBit (i + j) = true ∨ steadyS P same ops an (i + j) o r [] es hs = true) ∧ ((an.getD (i + j) 0).testBit f = true ∨ steadyS P same ops an (i + j) o r [] eb hb = true))
  | [], rs, i, h, j, o, r, ho, hr => by simp at ho
  | o' :: os, [], i, h, j, o, r, ho, hr => by simp at hr
  | o' :: os, r' :: rs, i, h, j, o, r, ho, hr => by
    simp only [steadyF, Bool.and_eq_true, Bool.or_eq_true] at h
    cases j with
    | zero =>
      simp at ho hr; subst ho; subst hr
      rcases h.1 with (h1 | h1) | h1
      · exact .inl h1
      · exact .inr (.inl (Nat.eq_of_beq_eq_true h1))
      · exact .inr (.inr h1)
    | succ j =>
      have := steadyF_spec (i + 1) h.2 j o r (by simpa using ho) (by simpa using hr)
      rwa [show i + (j + 1) = i + 1 + j by omega]
theorem chainS_filter {an : List Nat} {q : Nat → Bool} : ∀ {es : List Nat}, chainS an es = true → chainS an (es.filter q) = true
  | [], _ => rfl
  | x :: es, h => by
    simp only [chainS, Bool.and_eq_true, List.all_eq_true] at h
    have ih := chainS_filter (q := q) h.2
    rw [List.filter_cons]
    split
    · simp only [chainS, Bool.and_eq_true, List.all_eq_true]
      exact ⟨fun j hj => h.1 j (List.mem_filter.1 hj).1, ih⟩
    · exact ih
/-- A step along a chain of worlds. -/
theorem step_gen {same : Nat → Bool} {call : Caller} {ops : Array Oper} {rs : List Rec} {es : List Nat} {hs : List SW} (hback : Back ops) (hchain : chainS (ancS ops.toList []) es = true) (hlen : hs.length = es.length + 1) (hin : ∀ x ∈ es, x < ops.size)
    (hact : ∀ pre x post, es = pre ++ x :: post → ∃ o r σ1 σ2, ops.toList[x]? = some o ∧ rs[x]? = some r ∧ hs[pre.length]? = some σ1 ∧ hs[pre.length + 1]? = some σ2 ∧ valS P same call ops.toList o r.t σ1 = some (r.v, σ2))
    {L L' : Nat → Bool} {i : Nat} {o : Oper} {r : Rec} (ho : ops[i]? = some o) (hr : rs[i]? = some r) (hcl : Closed ops L) (hrd : ∀ e ∈ o.after, Region.binds .any e = true → L e.on = true) (hLi : L i = false) (hL' : ∀ j, j < ops.size → L' j = (L j || decide (j = i)))
    (hor : i ∈ es ∨ (i ∉ es ∧ steadyS P same ops.toList (ancS ops.toList []) i o r [] es hs = true)) :
    ∃ σ1 σ2, hs[(es.filter L).length]? = some σ1 ∧ hs[(es.filter L').length]? = some σ2 ∧ valS P same call ops.toList o r.t σ1 = some (r.v, σ2) := by
  have hancL : ∀ x y, ((ancS ops.toList []).getD y 0).testBit x = true → L y = true → L x = true := fun x y hb hy => (anc_of hb).closed hcl hy
  rcases hor with hmem | ⟨hnin, hst⟩
  · obtain ⟨pre, post, hsp⟩ := List.append_of_mem hmem
    obtain ⟨hc1, hc2⟩ := chainS_split (by rw [hsp] at hchain; exact hchain)
    have hpreL : ∀ z ∈ pre, L z = true := fun z hz => (anc_of (hc2 z hz)).ready hcl ho hrd
    have hpostL : ∀ z ∈ post, L z = false := fun z hz => by
      cases hz' : L z with
      | false => rfl
      | true =>
        have := (anc_of (hc1 z hz)).closed hcl hz'
        rw [hLi] at this; cases this
    have hpostne : ∀ z ∈ post, z ≠ i := fun z hz e => by
      have := (anc_of (hc1 z hz)).lt hback
      omega
    have hf1 : es.filter L = pre := by
      rw [hsp]
      refine filter_split hpreL fun x hx => ?_
      rcases List.mem_cons.1 hx with rfl | hx
      · exact hLi
      · exact hpostL x hx
    have hf2 : es.filter L' = pre ++ [i] := by
      have : es = (pre ++ [i]) ++ post := by rw [hsp]; simp
      have hmem : ∀ x, x ∈ pre ++ [i] ∨ x ∈ post → x < ops.size := fun x hx => hin x (by rw [this]; simpa [or_assoc] using hx)
      rw [this]
      refine filter_split (fun x hx => ?_) fun x hx => ?_
      · rw [hL' x (hmem x (.inl hx))]
        rcases List.mem_append.1 hx with hx | hx
        · simp [hpreL x hx]
        · simp at hx; simp [hx]
      · rw [hL' x (hmem x (.inr hx)), hpostL x hx]
        simp [hpostne x hx]
    obtain ⟨o', r', σ1, σ2, h1, h2, h3, h4, h5⟩ := hact pre i post hsp
    have ho' : o' = o := by
      have : ops.toList[i]? = some o := by simpa using ho
      rw [this] at h1; injection h1 with h1; exact h1.symm
    have hr' : r' = r := by rw [hr] at h2; injection h2 with h2; exact h2.symm
    subst ho'; subst hr'
    exact ⟨σ1, σ2, by rw [hf1]; exact h3, by rw [hf2]; simpa using h4, h5⟩
  · obtain ⟨past, rest, hpr, hp1, hp2⟩ := chainS_prefix hancL hchain
    have hf1 : es.filter L = past := by rw [hpr]; exact filter_split hp1 hp2
    have hf2 : es.filter L' = es.filter L := by
      refine List.filter_congr fun x hx => ?_
      rw [hL' x (hin x hx)]
      have : x ≠ i := fun e => hnin (by rw [← e]; exact hx)
      simp [this]
    have hk : past.length < hs.length := by rw [hlen, hpr]; simp; omega
    have hτ : hs[past.length]? = some hs[past.length] := List.getElem?_eq_getElem hk
    have hmay : mayNow (ancS ops.toList []) i past rest = true := by
      simp only [mayNow, Bool.and_eq_true, List.all_eq_true, Bool.not_eq_true']
      constructor
      · intro j hj
        cases hb : ((ancS ops.toList []).getD j 0).testBit i with
        | false => rfl
        | true =>
          have := (anc_of hb).closed hcl (hp1 j hj)
          rw [hLi] at this; cases this
      · intro j hj
        cases hb : ((ancS ops.toList []).getD i 0).testBit j with
        | false => rfl
        | true =>
          have := (anc_of hb).ready hcl ho hrd
          rw [hp2 j hj] at this; cases this
    have hvp := steadyS_spec _ [] _ hst past.length (by rw [hpr]; simp) _ hτ (by rw [hpr]; simpa using hmay)
    refine ⟨hs[past.length], hs[past.length], by rw [hf1]; exact hτ, by rw [hf2, hf1]; exact hτ, valS_of_valP hvp call⟩

/-- **SUCH A REGION.** -/
theorem floatS_ok (hm : P.follows .mixedOrders = true) {same : Nat → Bool} (hsame : SameOK P same) : DrawsOK P (floatS P same) := by
  intro call hc id ops t σ t' σ' h B ρ0 a0 w0 ht0 hw0
  unfold floatS at h
  cases hst : statS ops.toList with
  | false => simp only [hst] at h; cases h
  | true =>
  simp only [hst] at h
  obtain ⟨hback, hnames⟩ := statS_spec hst
  split at h
  · rename_i f rs0 _ _ _ _
    split at h
    · rename_i r0 of hr0 hof
      split at h
      · rename_i vf ob hfv
        split at h
        · rename_i rs tf σf hlex
          split at h
          · rename_i bs hwalk
            split at h
            · rename_i hck
              injection h with h; injection h with e1 e2; subst e1; subst e2
              simp only [Bool.and_eq_true] at hck
              obtain ⟨⟨hchain, hrel⟩, hsteady⟩ := hck
              clear hfv hr0
              have hfl : f < ops.size := by
                have := (List.getElem?_eq_some_iff.1 hof).1
                simpa using this
              have hwB := walkB_acts hwalk
              generalize hesd : effs rs 0 = es at hchain hrel hsteady hwB
              generalize hebd : (es.filter fun j => !((ancS ops.toList []).getD j 0).testBit f) = eb at hsteady hwB
              obtain ⟨hlenB, hB0, hactB⟩ := hwB
              have hchainB : chainS (ancS ops.toList []) eb = true := by rw [← hebd]; exact chainS_filter hchain
              have hlen := (lexF_head hlex).1
              have hlenA : rs.length = ops.size := by simpa using hlen
              have hlens := stages_length (σf := σf) (rs := rs) 0
              rw [hesd] at hlens
              have hactA : ∀ pre x post, es = pre ++ x :: post → ∃ o r σ1 σ2, ops.toList[x]? = some o ∧ rs[x]? = some r ∧ (stages σf rs)[pre.length]? = some σ1 ∧ (stages σf rs)[pre.length + 1]? = some σ2 ∧ valS P same call ops.toList o r.t σ1 = some (r.v, σ2) := fun pre x post he => by
                obtain ⟨_, h2⟩ := lexF_acts hlex pre x post (by rw [hesd]; exact he)
                simpa using h2
              have hactB' : ∀ pre x post, eb = pre ++ x :: post → ∃ o r σ1 σ2, ops.toList[x]? = some o ∧ rs[x]? = some r ∧ bs[pre.length]? = some σ1 ∧ bs[pre.length + 1]? = some σ2 ∧ valS P same call ops.toList o r.t σ1 = some (r.v, σ2) := fun pre x post he => by
                obtain ⟨_, h2⟩ := hactB pre x post he
                simpa using h2
              let v : Nat → SV := fun i => ((rs[i]?).map (·.v)).getD undefS
              have hv : ∀ (j : Nat) (r : Rec), rs[j]? = some r → v j = r.v := fun j r hr => by simp [v, hr]
              obtain ⟨htm, htf⟩ := lexF_tm (opsA := ops) (v := v) (t0 := t) 0 hlex (fun j r hr => by rw [Nat.zero_add]; exact hv j r hr) (fun j o ho => by rw [Nat.zero_add]; simp [dstOf] at ho ⊢; rw [ho]; rfl) rfl
              have hin : ∀ x ∈ es, x < ops.size := fun x hx => by
                rw [← hesd] at hx
                have := (effs_mem hx).2.1
                omega
              have hinB : ∀ x ∈ eb, x < ops.size := fun x hx => by
                rw [← hebd] at hx
                exact hin x (List.mem_filter.1 hx).1
              have hfes : f ∉ es := fun hx => by
                rw [← hesd] at hx
                obtain ⟨_, _, r', h6, h7⟩ := effs_mem hx
                rw [Nat.sub_zero] at h6
                have := (lexF_at hlex f _ r' hof h6 (by omega)).1
                rw [this] at h7; cases h7
              let hp : (Nat → Bool) → SW := fun L => if L f then ((stages σf rs)[(es.filter L).length]?).getD σf else (bs[(eb.filter L).length]?).getD σf
              refine wp_region_any hm ?_
              have hmain := draw_main (B := B) (P := P) hback hnames v t hp ?_ (t' := tf) (σ' := σf) ?_ ?_ ρ0 ops.size (Array.replicate ops.size false) (by simp) ?_ ?_ ρ0 a0 { w0 with drawn := w0.drawn + 1 } (.refl ρ0) ?_ ?_
              · exact hmain
              · -- a step
                intro L L' i o ho hcl hrd hLi hL' tt hag ρ a w K Q htr hwr hK
                have hol : ops.toList[i]? = some o := by simpa using ho
                have hlt : i < ops.size := (Array.getElem?_eq_some_iff.1 ho).1
                have hri : ∃ r, rs[i]? = some r := ⟨_, List.getElem?_eq_getElem (by omega)⟩
                obtain ⟨r, hr⟩ := hri
                have hrt : r.t = tmL ops v t (fun j => decide (j < i)) ops.size := by
                  rw [htm i r hr, Nat.zero_add, tmL_lt, show min i ops.size = i by omega]
                have hag' : ∀ u ∈ looks ops.toList o, tt[u]? = r.t[u]? := fun u hu => by rw [hag u hu, hrt]
                rw [hv i r hr] at hK
                by_cases hif : i = f
                · -- the slice
                  subst hif
                  obtain ⟨_, hvf, hfv⟩ := lexF_at hlex i o r hol hr (by omega)
                  have hL'f : L' i = true := by rw [hL' i hlt]; simp
                  have e1 : es.filter L' = es.filter L := by
                    refine List.filter_congr fun x hx => ?_
                    rw [hL' x (hin x hx)]
                    have : x ≠ i := fun e => hfes (by rw [← e]; exact hx)
                    simp [this]
                  have e2 : es.filter L = eb.filter L := by
                    rw [← hebd, List.filter_filter]
                    refine List.filter_congr fun x hx => ?_
                    cases hx' : L x with
                    | false => simp
                    | true =>
                      cases hb : ((ancS ops.toList []).getD x 0).testBit i with
                      | false => simp
                      | true =>
                        have := (anc_of hb).closed hcl hx'
                        rw [hLi] at this; cases this
                  have hk : (eb.filter L).length < bs.length := by
                    have := List.length_filter_le L eb
                    omega
                  have hτ : bs[(eb.filter L).length]? = some bs[(eb.filter L).length] := List.getElem?_eq_getElem hk
                  generalize bs[(eb.filter L).length] = τ at hτ
                  obtain ⟨g1, g2, g3⟩ := relS_spec hrel _ _ hτ
                  have hp1 : hp L = τ := by simp only [hp, hLi, hτ]; rfl
                  have hp2 : hp L' = ⟨H.set deep τ.h σ.n ob, τ.n⟩ := by simp only [hp, hL'f, if_true, e1, e2, g3]; rfl
                  rw [hp1] at hwr
                  rw [hp2] at hK
                  rw [← floatV_congr hag'] at hfv
                  obtain ⟨hgd, u, w', ρ', hrun, hle, hvr, hw'⟩ := floatV_spec hfv htr hwr g1 g2
                  have hwant : Region.wanted o (yielded ops a.tmps) = true := by simp [Region.wanted, hgd]
                  rw [hwant, if_pos rfl]
                  unfold Oper.wp
                  rw [hrun]
                  rw [hvf] at hK
                  exact hK ρ' _ w' hle ((htr.mono hle).put o.dst hvr) hw'
                · have hst := steadyF_spec 0 hsteady i o r hol hr
                  rw [Nat.zero_add] at hst
                  have hL'f : L' f = L f := by
                    rw [hL' f hfl]
                    have : ¬ f = i := fun e => hif e.symm
                    simp [this]
                  have heff : i ∈ es ↔ r.eff = true := by
                    constructor
                    · intro hx
                      rw [← hesd] at hx
                      obtain ⟨_, _, r', h6, h7⟩ := effs_mem hx
                      rw [Nat.sub_zero, hr] at h6
                      injection h6 with h6
                      rw [h6]; exact h7
                    · intro he
                      have := effs_split 0 i hr he
                      rw [← hesd, this]
                      simp
                  cases hLf : L f with
                  | true =>
                    have hor : i ∈ es ∨ (i ∉ es ∧ steadyS P same ops.toList (ancS ops.toList []) i o r [] es (stages σf rs) = true) := by
                      by_cases he : r.eff = true
                      · exact .inl (heff.2 he)
                      · refine .inr ⟨fun hx => he (heff.1 hx), ?_⟩
                        rcases hst with h1 | h1 | ⟨h1, _⟩
                        · exact absurd h1 he
                        · exact absurd h1 hif
                        · rcases h1 with h1 | h1
                          · have := (anc_of h1).closed hcl hLf
                            rw [hLi] at this; cases this
                          · exact h1
                    obtain ⟨σ1, σ2, h1, h2, h3⟩ := step_gen hback hchain hlens hin hactA ho hr hcl hrd hLi hL' hor
                    have hp1 : hp L = σ1 := by simp only [hp, hLf, if_true, h1]; rfl
                    have hp2 : hp L' = σ2 := by simp only [hp, hL'f, hLf, if_true, h2]; rfl
                    rw [hp1] at hwr
                    rw [hp2] at hK
                    rw [← valS_congr hag' call σ1] at h3
                    exact valS_spec hsame hc h3 ρ a w K Q htr hwr hK
                  | false =>
                    have hnf : ((ancS ops.toList []).getD i 0).testBit f = false := by
                      cases hb : ((ancS ops.toList []).getD i 0).testBit f with
                      | false => rfl
                      | true =>
                        have := (anc_of hb).ready hcl ho hrd
                        rw [hLf] at this; cases this
                    have hor : i ∈ eb ∨ (i ∉ eb ∧ steadyS P same ops.toList (ancS ops.toList []) i o r [] eb bs = true) := by
                      by_cases he : r.eff = true
                      · refine .inl ?_
                        rw [← hebd]
                        exact List.mem_filter.2 ⟨heff.2 he, by rw [hnf]; rfl⟩
                      · refine .inr ⟨fun hx => ?_, ?_⟩
                        · rw [← hebd] at hx
                          exact he (heff.1 (List.mem_filter.1 hx).1)
                        · rcases hst with h1 | h1 | ⟨_, h1⟩
                          · exact absurd h1 he
                          · exact absurd h1 hif
                          · rcases h1 with h1 | h1
                            · rw [hnf] at h1; cases h1
                            · exact h1
                    obtain ⟨σ1, σ2, h1, h2, h3⟩ := step_gen hback hchainB hlenB hinB hactB' ho hr hcl hrd hLi hL' hor
                    have hp1 : hp L = σ1 := by simp only [hp, hLf, h1]; rfl
                    have hp2 : hp L' = σ2 := by simp only [hp, hL'f, hLf, h2]; rfl
                    rw [hp1] at hwr
                    rw [hp2] at hK
                    rw [← valS_congr hag' call σ1] at h3
                    exact valS_spec hsame hc h3 ρ a w K Q htr hwr hK
              · -- the end
                intro L hL
                have e1 : es.filter L = es := List.filter_eq_self.2 fun x hx => hL x (hin x hx)
                have hlast : (stages σf rs)[es.length]? = some σf := by
                  have := stages_at (σf := σf) (rs := rs) 0 rs.length 0 (Nat.le_refl _)
                  simp only [List.take_length, Nat.add_zero, List.drop_length, hesd] at this
                  rw [this]
                  rfl
                simp only [hp, hL f hfl, if_true, e1, hlast]
                rfl
              · rw [htf]; simp
              · intro i o ho hL
                simp [Array.getD] at hL
              · exact cnt_le _ _
              · rw [tmL_congr (B := fun _ => false) (fun i hi => by simp [Array.getD, hi]), tmL_none]
                exact ht0
              · have hall : (fun i => (Array.replicate ops.size false).getD i false) = fun _ => false := by
                  funext i
                  simp [Array.getD]
                have h0 : hp (fun _ => false) = σ.app (.new .hole) := by
                  have hn : eb.filter (fun _ => false) = [] := List.filter_eq_nil_iff.2 fun x _ => by simp
                  simp [hp, hn, hB0]
                rw [hall, h0]
                exact (hw0.hole).heap rfl
            · cases h
          · cases h
        · cases h
      · cases h
    · cases h
  · cases h
end Go.Proofs.YtamiebojjinhcaaGreatDoor.Sx
