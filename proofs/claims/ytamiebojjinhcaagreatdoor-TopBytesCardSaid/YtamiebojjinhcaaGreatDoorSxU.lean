/-
  Both checks of drawn regions, over trees.
  The functions that the walk takes by contracts, and what it wants of the program.
  Pieces of a function: from a state that is written down to another.
-/
import Derived.Test.YtamiebojjinhcaaGreatDoorSxM
import Derived.Test.YtamiebojjinhcaaGreatDoorSxY
import Derived.Test.YtamiebojjinhcaaGreatDoorSxJ
import Derived.Lib.Builder
set_option linter.unusedVariables false
set_option linter.unusedSimpArgs false
namespace Go.Proofs.YtamiebojjinhcaaGreatDoor.Sx

noncomputable def T.upTo (g : T) : Nat → Nat → List SV
  | 0, _ => []
  | .succ k, i => match g.get i with
    | some v => v :: T.upTo g k (.succ i)
    | none => []
theorem T.upTo_eq {g : T} {t : List SV} (h : rep g t) : ∀ k i, g.upTo k i = (t.drop i).take k
  | 0, i => by simp [T.upTo]
  | k + 1, i => by
    unfold T.upTo
    rw [h i]
    by_cases hi : i < t.length
    · rw [List.getElem?_eq_getElem hi, List.drop_eq_getElem_cons hi, List.take_succ_cons]
      simp only []
      rw [T.upTo_eq h k]
    · rw [List.getElem?_eq_none (by omega), List.drop_eq_nil_of_le (by omega)]
      simp
variable (P : Program)
noncomputable def floatQ (same : Nat → Bool) : DrawsQ := fun call ops g σ => match g.get 1000 with
  | some _ => none
  | none => bind2 (floatS P same call ops (g.upTo 1000 0) σ) fun t' σ' => padQ t' t'.length fun g' => some (g', σ')
noncomputable def drawsQ (same : Nat → Bool) : DrawsQ := fun call ops g σ => Option.rec (motive := fun _ => Option (T × SW)) (floatQ P same call ops g σ) some (drawQ P same call ops g σ)
def drawsS (same : Nat → Bool) : Draws := fun call ops t σ => match drawS P same call ops t σ with
  | some r => some r
  | none => floatS P same call ops t σ
variable {P}
theorem drawsQ_ok (hm : P.follows .mixedOrders = true) {same : Nat → Bool} (hsame : SameOK P same) : DrawsQOK P (drawsQ P same) := by
  intro call hc id ops g σ g' σ' h t hg
  unfold drawsQ at h
  cases hd : drawQ P same call ops.toList g σ with
  | some r =>
    rw [hd] at h
    injection h with h
    subst h
    exact drawQ_ok hm hsame call hc id ops g σ g' σ' hd t hg
  | none =>
    rw [hd] at h
    have h' : floatQ P same call ops.toList g σ = some (g', σ') := h
    unfold floatQ at h'
    split at h'
    · cases h'
    · rename_i h1000
      obtain ⟨t', σ1, h1, h2⟩ := bind2_some h'
      obtain ⟨g2, h3, h4⟩ := padQ_spec h2
      injection h4 with h4; injection h4 with e1 e2; subst e1; subst e2
      have hup : g.upTo 1000 0 = t := by
        rw [T.upTo_eq hg]
        rw [hg 1000] at h1000
        have := List.getElem?_eq_none_iff.1 h1000
        simp only [List.drop_zero]
        exact List.take_of_length_le this
      rw [hup] at h1
      refine ⟨t', by simpa [undefs] using h3, fun ρ a w ht hw => floatS_ok hm hsame call hc id ops t σ t' σ1 h1 ρ a w ht hw⟩
end Go.Proofs.YtamiebojjinhcaaGreatDoor.Sx

set_option linter.unusedSimpArgs false
namespace Go.Proofs.YtamiebojjinhcaaGreatDoor.Sx
variable {B : World}
open Go.RowKit Go.Maps Go.Sort Go.Shelf

/-- slices.AppendSeq of an empty map's keys to nil. -/
def append0S (args : List SV) (σ : SW) : Option (SV × SW) := match args with
  | [.sl none 0 (.known 0), .func g [] [.ptr (some (b, 0))]] => match Nat.beq g 141 with
    | false => none
    | true => match σ.h.get b with
      | some (.cells _ _ (.map (some m) :: _)) => match σ.h.get m with
        | some (.map [] _) => some (.sl none 0 (.known 0), σ)
        | _ => none
      | _ => none
  | _ => none
theorem append0S_spec {args : List SV} {σ σ' : SW} {v : SV} (h : append0S args σ = some (v, σ')) {ρ : Rho} {us : List Value} {w : World} (hv : VRs ρ args us) (hw : WR B ρ σ w) :
    Calls Tryz.prog 170 us.toArray w fun e w' => ∃ ρ' u, ρ.le ρ' ∧ e = .returned u ∧ VR ρ' v u ∧ WR B ρ' σ' w' := by
  unfold append0S at h
  split at h
  · rename_i g b
    split at h
    · cases h
    · rename_i hg
      have hg' := Nat.eq_of_beq_eq_true hg
      subst hg'
      cases hv with
      | cons ha hb =>
      cases ha
      obtain ⟨B, N, rfl, eb⟩ := collect_args (σ := σ) (w := w) hb
      split at h
      · rename_i e x m cs hgb
        obtain ⟨B', N', cur, fr, h1, h2, h3, h4, h5, h6, h7⟩ := hw.obj _ _ hgb
        rw [h1] at eb; injection eb with eb; injection eb with q1 q2; subst q1; subst q2
        obtain ⟨mv, hmv, hmr⟩ := h6.get (i := 0) (s := .map (some m)) (by simp)
        cases hmr with
        | map em =>
          rename_i M NM
          have hcell : w.cell? ⟨B', 0, none⟩ = some (.map (some M)) := by
            rw [cell_at h2]
            rw [List.getElem?_take] at hmv
            split at hmv
            · simpa using hmv
            · cases hmv
          have hB := hw.low _ _ _ h1
          split at h
          · rename_i cl hgm
            injection h with h; injection h with q1 q2; subst q1; subst q2
            obtain ⟨M', N2, ds, g1, g2, g3⟩ := hw.obj _ _ hgm
            rw [g1] at em; injection em with em; injection em with q1 q2; subst q1
            have hds : ds = #[] := by
              have := g3.length
              simp at this
              exact Array.eq_empty_of_size_eq_zero this.symm
            subst hds
            refine (append0_in B' M' cl w hB hcell g2).mono ?_
            rintro e w' ⟨rfl, hbel⟩
            exact ⟨ρ, _, .refl ρ, rfl, .nsl 0 0, hw.keeps hbel⟩
          · cases h
      · cases h
  · cases h
def sameW (f : Nat) : Bool := Nat.beq f 122
def hookW (f : Nat) : Option (List SV → SW → Option (SV × SW)) := match Nat.beq f 176 with
  | true => some (collectS (fun g => Nat.beq g 178 || Nat.beq g 223) 9)
  | false => match Nat.beq f 170 with
    | true => some append0S
    | false => none
theorem hookW_ok : HookOK Tryz.prog hookW := by
  intro f g h
  unfold hookW at h
  split at h
  · rename_i hf
    have := Nat.eq_of_beq_eq_true hf
    subst this
    injection h with h; subst h
    exact ⟨fun us w => Go.Proofs.enters_of Tryz.func176 (by kernel_rfl) rfl us w, fun args σ v σ' hr {_} ρ us w hv hw => collectS_spec hr hv hw⟩
  · split at h
    · rename_i hf
      have := Nat.eq_of_beq_eq_true hf
      subst this
      injection h with h; subst h
      exact ⟨fun us w => Go.Proofs.enters_of Tryz.func170 (by kernel_rfl) rfl us w, fun args σ v σ' hr {_} ρ us w hv hw => append0S_spec hr hv hw⟩
    · cases h
theorem sameW_ok : SameOK Tryz.prog sameW := by
  intro f h x w
  have := Nat.eq_of_beq_eq_true h
  subst this
  rw [run_callFunc_extern Tryz.func122 (by kernel_rfl) (by kernel_rfl) (by kernel_rfl) (e := Extern.AbiNoEscape.same) (by kernel_rfl)]
  rw [Lib.run_noEscape]
  rfl
theorem names_all : (Tryz.prog.funcs.toList.all fun fn => !(fn.name == "runtime.NumGoroutine")) = true := by kernel_rfl
theorem namesW_ok : NamesOK Tryz.prog := by
  intro f fn h e
  have h1 := List.all_eq_true.1 names_all fn (by
    have : Tryz.prog.funcs.toList[f]? = some fn := by simpa using h
    exact List.mem_of_getElem? this)
  rw [e] at h1
  simp at h1
theorem mixedW : Tryz.prog.follows .mixedOrders = true := by kernel_rfl
theorem drawsW_ok : DrawsQOK Tryz.prog (drawsQ Tryz.prog sameW) := drawsQ_ok mixedW sameW_ok
end Go.Proofs.YtamiebojjinhcaaGreatDoor.Sx

set_option linter.unusedSimpArgs false
namespace Go.Proofs.YtamiebojjinhcaaGreatDoor.Sx
open Go.RowKit
variable {B : World}

def build : List (Nat × SO) → H
  | [] => .nil
  | (i, o) :: l => H.set deep (build l) i o
noncomputable def subL (h : H) : List (Nat × SO) → Bool
  | [] => true
  | (i, o) :: l => (match getQ h i with
    | some p => SO.beq p o
    | none => false) && subL h l
noncomputable def treeIs (g : T) : Nat → List SV → Bool
  | i, [] => (match g.get i with
    | some _ => false
    | none => true)
  | i, v :: t => (match g.get i with
    | some u => SV.beq u v
    | none => false) && treeIs g (.succ i) t
theorem build_get : ∀ {l : List (Nat × SO)} {i : Nat} {o : SO}, (build l).get i = some o → (i, o) ∈ l
  | [], i, o, h => by simp [build, H.get] at h
  | (j, p) :: l, i, o, h => by
    simp only [build] at h
    by_cases hij : j = i
    · subst hij
      rcases H.get_set_eq deep (build l) j p with ⟨_, k⟩ | ⟨_, k⟩
      · rw [k] at h; injection h with h; subst h; simp
      · rw [k] at h; exact List.mem_cons_of_mem _ (build_get h)
    · rw [H.get_set_ne _ _ _ _ _ hij] at h
      exact List.mem_cons_of_mem _ (build_get h)
theorem subL_spec {h : H} : ∀ {l : List (Nat × SO)}, subL h l = true → ∀ i o, (i, o) ∈ l → h.get i = some o
  | [], _, i, o, hm => by cases hm
  | (j, p) :: l, hs, i, o, hm => by
    simp only [subL, Bool.and_eq_true] at hs
    rcases List.mem_cons.1 hm with e | hm
    · injection e with e1 e2
      subst e1; subst e2
      have h1 := hs.1
      rw [getQ_eq] at h1
      split at h1
      · rename_i q hq; rw [hq, SO.beq_eq h1]
      · cases h1
    · exact subL_spec hs.2 i o hm
theorem WR.sub {ρ : Rho} {σ τ : SW} {w : World} (hw : WR B ρ σ w) (hn : τ.n = σ.n) (hs : ∀ i o, τ.h.get i = some o → σ.h.get i = some o) : WR B ρ τ w :=
  ⟨fun i p h => by rw [hn]; exact hw.fresh i p h, hw.low, fun i o h => hw.lim i o (hs i o h), fun i o h => hw.obj i o (hs i o h), fun i j o o' g N M h1 d1 h2 d2 => hw.inj i j o o' g N M (hs i o h1) d1 (hs j o' h2) d2, hw.zero, hw.base.1, fun i o g N h => hw.base.2 i o g N (hs i o h)⟩
theorem treeIs_spec {g : T} {t : List SV} (hg : rep g t) : ∀ {l : List SV} {i : Nat}, treeIs g i l = true → t.drop i = l
  | [], i, h => by
    simp only [treeIs] at h
    split at h
    · cases h
    · rename_i hn
      rw [hg i] at hn
      exact List.drop_eq_nil_of_le (List.getElem?_eq_none_iff.1 hn)
  | v :: l, i, h => by
    simp only [treeIs, Bool.and_eq_true] at h
    have h1 := h.1
    rw [hg i] at h1
    split at h1
    · rename_i u hu
      have hi := (List.getElem?_eq_some_iff.1 hu).1
      rw [List.drop_eq_getElem_cons hi, treeIs_spec hg (i := i + 1) h.2]
      rw [List.getElem?_eq_getElem hi] at hu
      injection hu with hu
      rw [hu, SV.beq_eq h1]
    · cases h1
/-- The walk of this program. -/
noncomputable def callW : Caller := callQ Tryz.prog sameW hookW (drawsQ Tryz.prog sameW) 3000 60
noncomputable def codeW (c : Code) : T → SW → CR := codeQ Tryz.prog sameW callW (drawsQ Tryz.prog sameW) 3000 c
theorem codeW_spec (c : Code) : CodesOK Tryz.prog c (codeW c) := codeQ_spec sameW_ok (callQ_spec sameW_ok hookW_ok drawsW_ok namesW_ok 3000 60) drawsW_ok 3000 c
noncomputable def pieceOK (c : Code) (t : List SV) (n : Nat) (l : List (Nat × SO)) (t' : List SV) (n' : Nat) (l' : List (Nat × SO)) : Bool :=
  match padQ t t.length fun g => codeW c g ⟨build l, n⟩ with
  | some (.normal, g, σ) => treeIs g 0 t' && Nat.beq σ.n n' && subL σ.h l'
  | _ => false
theorem pieceOK_spec {c : Code} {t : List SV} {n : Nat} {l : List (Nat × SO)} {t' : List SV} {n' : Nat} {l' : List (Nat × SO)} (h : pieceOK c t n l t' n' l' = true) (ρ : Rho) (a : Act) (w : World) (ht : TR ρ t a) (hw : WR B ρ ⟨build l, n⟩ w) :
    c.wp Tryz.prog (Post B ρ .normal t' ⟨build l', n'⟩) a w := by
  unfold pieceOK at h
  split at h
  · rename_i g σ hp
    obtain ⟨g0, h1, h2⟩ := padQ_spec hp
    have h1 : rep g0 t := by simpa [undefs] using h1
    obtain ⟨t1, h3, h4⟩ := codeW_spec c h1 h2
    simp only [Bool.and_eq_true] at h
    obtain ⟨⟨e1, e2⟩, e3⟩ := h
    have e1 := treeIs_spec h3 e1
    have e2 := Nat.eq_of_beq_eq_true e2
    simp only [List.drop_zero] at e1
    subst e1
    refine wp_mono (h4 ρ a w ht hw) ?_
    rintro e a' w' ⟨rfl, ρ', hle, ht', hw'⟩
    exact ⟨rfl, ρ', hle, ht', hw'.sub e2.symm fun i o hio => subL_spec e3 i o (build_get hio)⟩
  · cases h
noncomputable def lastOK (c : Code) (t : List SV) (n : Nat) (l : List (Nat × SO)) : Bool :=
  match padQ t t.length fun g => codeW c g ⟨build l, n⟩ with
  | some (.ret, g, σ) => (match g.get 0 with
    | some (.bool b) => b
    | _ => false)
  | _ => false
theorem lastOK_spec {c : Code} {t : List SV} {n : Nat} {l : List (Nat × SO)} (h : lastOK c t n l = true) (ρ : Rho) (a : Act) (w : World) (ht : TR ρ t a) (hw : WR B ρ ⟨build l, n⟩ w) :
    c.wp Tryz.prog (fun e a' w' => e = .ret ∧ a'.defers = [] ∧ a'.tmps[0]? = some (.bool true) ∧ Below B.heap.size B w') a w := by
  unfold lastOK at h
  split at h
  · rename_i g σ hp
    obtain ⟨g0, h1, h2⟩ := padQ_spec hp
    have h1 : rep g0 t := by simpa [undefs] using h1
    obtain ⟨t1, h3, h4⟩ := codeW_spec c h1 h2
    refine wp_mono (h4 ρ a w ht hw) ?_
    rintro e a' w' ⟨rfl, ρ', hle, ht', hw'⟩
    refine ⟨rfl, ht'.2, ?_, hw'.base.1⟩
    rw [h3 0] at h
    split at h
    · rename_i b hb
      subst h
      obtain ⟨u, h5, h6⟩ := ht'.1.get hb
      have := (VR.bool_iff h6 true).1 rfl
      subst this
      simpa using h5
    · cases h
  · cases h
def fstC : Code → Code
  | .seq a _ => a
  | c => c
def sndC : Code → Code
  | .seq _ b => b
  | c => c
noncomputable def bodyW : Code := match Tryz.f5.body with
  | some c => c
  | none => .skip
def initT : List SV := undefs 77
def initL : List (Nat × SO) := [(0, .tab ([0, 0x105ec76f, 0x20bd8ede, 0x30e349b1, 0x417b1dbc, 0x5125dad3, 0x61c69362, 0x7198540d, 0x82f63b78, 0x92a8fc17, 0xa24bb5a6, 0xb21572c9, 0xc38d26c4, 0xd3d3e1ab, 0xe330a81a, 0xf36e6f75].map fun n => .int .u32 (.ofNat n)))]
end Go.Proofs.YtamiebojjinhcaaGreatDoor.Sx
