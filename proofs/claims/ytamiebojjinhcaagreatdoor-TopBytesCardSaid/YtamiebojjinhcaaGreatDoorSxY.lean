/-
  The walk once more, quick for the kernel: recursors in place of matches; it reckons the same.
  The quick walk: regions, code, calls; what it reckons is so.
-/
import Derived.Test.YtamiebojjinhcaaGreatDoorSxI
set_option linter.unusedVariables false
set_option linter.unusedSimpArgs false
namespace Go.Proofs.YtamiebojjinhcaaGreatDoor.Sx

/-- Temporaries: a tree over their numbers' digits. -/
inductive T where
  | nil
  | node (v : SV) (l r : T)
abbrev Env := Nat → Option SV
section q
variable {β : Type}
noncomputable def T.get (t : T) : Nat → Option SV :=
  T.rec (motive := fun _ => Nat → Option SV) (fun _ => none)
    (fun x _ _ ihl ihr i => Nat.rec (motive := fun _ => Option SV) (some x) (fun j _ => Nat.rec (motive := fun _ => Option SV) (ihl (Nat.div j 2)) (fun _ _ => ihr (Nat.div j 2)) (Nat.mod j 2)) i) t
noncomputable def T.set (v : SV) (t : T) : Nat → T :=
  T.rec (motive := fun _ => Nat → T) (fun _ => .nil)
    (fun x l r ihl ihr i => Nat.rec (motive := fun _ => T) (.node v l r) (fun j _ => Nat.rec (motive := fun _ => T) (.node x (ihl (Nat.div j 2)) r) (fun _ _ => .node x l (ihr (Nat.div j 2))) (Nat.mod j 2)) i) t
noncomputable def T.setK (v : SV) (t : T) : Nat → (T → Option β) → Option β :=
  T.rec (motive := fun _ => Nat → (T → Option β) → Option β) (fun _ k => k .nil)
    (fun x l r ihl ihr i k => Nat.rec (motive := fun _ => Option β) (k (.node v l r)) (fun j _ => Nat.rec (motive := fun _ => Option β) (ihl (Nat.div j 2) fun l => k (.node x l r)) (fun _ _ => ihr (Nat.div j 2) fun r => k (.node x l r)) (Nat.mod j 2)) i) t
noncomputable def putQ (d : Option Nat) (v : SV) (t : T) (k : T → Option β) : Option β :=
  Option.rec (motive := fun _ => Option β) (k t) (fun i => T.setK v t i k) d
noncomputable def T.put (d : Option Nat) (v : SV) (t : T) : T := Option.rec (motive := fun _ => T) t (fun i => T.set v t i) d
noncomputable def bindQ {α : Type} (o : Option α) (k : α → Option β) : Option β := Option.rec (motive := fun _ => Option β) none k o
noncomputable def nthQ (t : List SV) : Nat → Option SV :=
  List.rec (motive := fun _ => Nat → Option SV) (fun _ => none) (fun x _ ih i => Nat.rec (motive := fun _ => Option SV) (some x) (fun j _ => ih j) i) t
noncomputable def getQ (h : H) : Nat → Option SO :=
  H.rec (motive := fun _ => Nat → Option SO) (fun _ => none)
    (fun o _ _ ihl ihr i => Nat.rec (motive := fun _ => Option SO) o (fun j _ => Nat.rec (motive := fun _ => Option SO) (ihl (Nat.div j 2)) (fun _ _ => ihr (Nat.div j 2)) (Nat.mod j 2)) i) h
noncomputable def evQ (g : Env) (x : Operand) : Option SV :=
  Operand.rec (motive := fun _ => Option SV) (fun i => g i) (fun v => ofVal v) (fun g => Nat.rec (motive := fun _ => Option SV) (some (.ptr (some (0, 0)))) (fun _ _ => none) g) (fun f => some (.func f [] [])) x
noncomputable def evsG (g : Env) : List Operand → Option (List SV)
  | [] => some []
  | x :: xs => match evQ g x, evsG g xs with
    | some v, some vs => some (v :: vs)
    | _, _ => none
end q
section eqs
variable {β : Type}
theorem bindQ_eq {α : Type} (o : Option α) (k : α → Option β) : bindQ o k = match o with
  | some v => k v
  | none => none := by cases o <;> rfl
theorem bindQ_some {α : Type} {o : Option α} {k : α → Option β} {r : β} (h : bindQ o k = some r) : ∃ v, o = some v ∧ k v = some r := by
  cases o with
  | none => cases h
  | some v => exact ⟨v, rfl, h⟩
theorem nthQ_eq : ∀ (t : List SV) (i : Nat), nthQ t i = t[i]?
  | [], i => by simp [nthQ]
  | x :: t, 0 => rfl
  | x :: t, i + 1 => by
    have := nthQ_eq t i
    simp only [List.getElem?_cons_succ, ← this]
    rfl
theorem T.setK_eq (v : SV) : ∀ (t : T) (i : Nat) (k : T → Option β), T.setK v t i k = k (T.set v t i)
  | .nil, i, k => rfl
  | .node x l r, 0, k => rfl
  | .node x l r, i + 1, k => by
    have h1 := T.setK_eq v l (i / 2) fun l => k (.node x l r)
    have h2 := T.setK_eq v r (i / 2) fun r => k (.node x l r)
    show Nat.rec (motive := fun _ => Option β) (T.setK v l (i / 2) fun l => k (.node x l r)) (fun _ _ => T.setK v r (i / 2) fun r => k (.node x l r)) (i % 2) = k (Nat.rec (motive := fun _ => T) (.node x (T.set v l (i / 2)) r) (fun _ _ => .node x l (T.set v r (i / 2))) (i % 2))
    rw [h1, h2]
    cases i % 2 <;> rfl
theorem putQ_eq (d : Option Nat) (v : SV) (t : T) (k : T → Option β) : putQ d v t k = k (T.put d v t) := by
  cases d with
  | none => rfl
  | some i => exact T.setK_eq v t i k
theorem T.get_set (v : SV) : ∀ (t : T) (i j : Nat), (T.set v t i).get j = if i = j then (t.get j).map (fun _ => v) else t.get j
  | .nil, i, j => by
    show (none : Option SV) = if i = j then Option.map (fun _ => v) none else none
    split <;> rfl
  | .node x l r, 0, 0 => rfl
  | .node x l r, 0, j + 1 => rfl
  | .node x l r, i + 1, 0 => by
    show (Nat.rec (motive := fun _ => T) (.node x (T.set v l (i / 2)) r) (fun _ _ => .node x l (T.set v r (i / 2))) (i % 2)).get 0 = _
    cases i % 2 <;> rfl
  | .node x l r, i + 1, j + 1 => by
    have h1 := T.get_set v l (i / 2) (j / 2)
    have h2 := T.get_set v r (i / 2) (j / 2)
    have hg : ∀ l r, (T.node x l r).get (j + 1) = Nat.rec (motive := fun _ => Option SV) (l.get (j / 2)) (fun _ _ => r.get (j / 2)) (j % 2) := fun l r => rfl
    show (Nat.rec (motive := fun _ => T) (.node x (T.set v l (i / 2)) r) (fun _ _ => .node x l (T.set v r (i / 2))) (i % 2)).get (j + 1) = _
    have hi := Nat.mod_two_eq_zero_or_one i
    have hj := Nat.mod_two_eq_zero_or_one j
    rcases hi with hi | hi <;> rcases hj with hj | hj <;> rw [hi]
    · show (T.node x (T.set v l (i / 2)) r).get (j + 1) = _
      rw [hg, hg, hj]
      show (T.set v l (i / 2)).get (j / 2) = if i + 1 = j + 1 then Option.map (fun _ => v) (l.get (j / 2)) else l.get (j / 2)
      rw [h1]
      have : i / 2 = j / 2 ↔ i + 1 = j + 1 := by omega
      simp only [this]
    · show (T.node x (T.set v l (i / 2)) r).get (j + 1) = _
      have : ¬ i + 1 = j + 1 := by omega
      rw [hg, hg, hj, if_neg this]
      rfl
    · show (T.node x l (T.set v r (i / 2))).get (j + 1) = _
      have : ¬ i + 1 = j + 1 := by omega
      rw [hg, hg, hj, if_neg this]
      rfl
    · show (T.node x l (T.set v r (i / 2))).get (j + 1) = _
      rw [hg, hg, hj]
      show (T.set v r (i / 2)).get (j / 2) = if i + 1 = j + 1 then Option.map (fun _ => v) (r.get (j / 2)) else r.get (j / 2)
      rw [h2]
      have : i / 2 = j / 2 ↔ i + 1 = j + 1 := by omega
      simp only [this]
/-- A tree for a list. -/
def rep (g : T) (t : List SV) : Prop := ∀ i, g.get i = t[i]?
theorem rep.env {g : T} {t : List SV} (h : rep g t) : g.get = fun i => t[i]? := funext h
theorem rep.put {g : T} {t : List SV} (h : rep g t) (d : Option Nat) (v : SV) : rep (T.put d v g) (Sx.put d v t) := by
  cases d with
  | none => exact h
  | some i =>
    intro j
    show (T.set v g i).get j = (t.set i v)[j]?
    rw [T.get_set, h j, List.getElem?_set]
    by_cases hij : i = j
    · subst hij
      simp only [if_true]
      by_cases hl : i < t.length
      · simp [hl]
      · simp [hl]
    · simp only [hij, if_false]
theorem getQ_eq : ∀ (h : H) (i : Nat), getQ h i = h.get i
  | .nil, i => rfl
  | .node o l r, 0 => rfl
  | .node o l r, i + 1 => by
    have h1 := getQ_eq l (i / 2)
    have h2 := getQ_eq r (i / 2)
    simp only [H.get]
    show Nat.rec (motive := fun _ => Option SO) (getQ l (i / 2)) (fun _ _ => getQ r (i / 2)) (i % 2) = _
    rw [h1, h2]
    cases i % 2 <;> rfl
theorem evQ_eq (t : List SV) (x : Operand) : evQ (fun i => t[i]?) x = ev t x := by
  cases x with
  | tmp i => rfl
  | const v => rfl
  | global g => cases g <;> rfl
  | func f => rfl
theorem evsG_eq (t : List SV) : ∀ (l : List Operand), evsG (fun i => t[i]?) l = evs t l
  | [] => rfl
  | x :: l => by simp only [evsG, evs, evQ_eq, evsG_eq t l]; rfl
theorem evs_one (t : Env) (x : Operand) : evsG t [x] = match evQ t x with
  | some v => some [v]
  | none => none := by
  simp only [evsG]
  cases evQ t x <;> rfl
theorem evs_two (t : Env) (x y : Operand) : evsG t [x, y] = match evQ t x with
  | some v => (match evQ t y with
    | some u => some [v, u]
    | none => none)
  | none => none := by
  simp only [evsG]
  cases evQ t x <;> cases evQ t y <;> rfl
theorem evs_three (t : Env) (x y z : Operand) : evsG t [x, y, z] = match evQ t x with
  | some v => (match evQ t y with
    | some u => (match evQ t z with
      | some r => some [v, u, r]
      | none => none)
    | none => none)
  | none => none := by
  simp only [evsG]
  cases evQ t x <;> cases evQ t y <;> cases evQ t z <;> rfl
end eqs

abbrev QP := Program → (Nat → Bool) → Env → H → Option SV
abbrev QF := Program → (Nat → Bool) → Caller → Env → SW → Option (SV × SW)
/-- The old ways. -/
noncomputable def genP (op : Op) : QP := fun P same t h => match evsG t op.operands.toList with
    | none => none
    | some vs => match calleeS P op vs with
      | some (f, args) => match same f with
        | true => (match args with
          | [v] => some v
          | _ => none)
        | false => none
      | none => match isEff op with
        | true => none
        | false => pureS P h op vs
noncomputable def genF (op : Op) : QF := fun P same call t σ => match evsG t op.operands.toList with
    | none => none
    | some vs => match calleeS P op vs with
      | some (f, args) => match same f with
        | true => (match args with
          | [v] => some (v, σ)
          | _ => none)
        | false => match call f args σ with
          | some (v, σ) => fV v fun v => some (v, σ)
          | none => none
      | none => match stepS P σ op vs with
        | some (v, d) => fV v fun v => σ.appK d fun σ => some (v, σ)
        | none => none
theorem genF_of_genP {op : Op} {P : Program} {same : Nat → Bool} {t : Env} {σ : SW} {v : SV} (h : genP op P same t σ.h = some v) (call : Caller) : genF op P same call t σ = some (v, σ) := by
  unfold genP at h
  unfold genF
  cases hvs : evsG t op.operands.toList with
  | none => simp only [hvs] at h; cases h
  | some vs =>
    simp only [hvs] at h ⊢
    cases hc : calleeS P op vs with
    | some p =>
      obtain ⟨f, args⟩ := p
      simp only [hc] at h ⊢
      cases hs : same f with
      | false => simp only [hs] at h; cases h
      | true =>
        simp only [hs] at h ⊢
        split at h
        · rename_i v'; injection h with h; subst h; rfl
        · cases h
    | none =>
      simp only [hc] at h ⊢
      cases he : isEff op with
      | true => simp only [he] at h; cases h
      | false =>
        simp only [he] at h
        simp [stepS, he, h, SW.app]
/-- If it reads alone: what it yields; if not: the old way. -/
noncomputable def liftQ (op : Op) (p : QP) : QF := fun P same call t σ => Option.rec (motive := fun _ => Option (SV × SW)) (genF op P same call t σ) (fun v => fV v fun v => some (v, σ)) (p P same t σ.h)
theorem liftQ_eq {op : Op} {p : QP} (hp : ∀ P same t h, p P same t h = genP op P same t h) (P : Program) (same : Nat → Bool) (call : Caller) (t : Env) (σ : SW) : liftQ op p P same call t σ = genF op P same call t σ := by
  unfold liftQ
  cases h : p P same t σ.h with
  | none => rfl
  | some v =>
    rw [hp] at h
    simp only [fV_eq]
    exact (genF_of_genP h call).symm

/-! ### Operations by their kinds -/
noncomputable def unQ (x : Operand) (g : Program → SV → H → Option SV) : QP := fun P same t h => bindQ (evQ t x) fun v => g P v h
noncomputable def duQ (x y : Operand) (g : Program → SV → SV → H → Option SV) : QP := fun P same t h => bindQ (evQ t x) fun v => bindQ (evQ t y) fun u => g P v u h
noncomputable def moveG : Program → SV → H → Option SV := fun _ v _ => some v
noncomputable def pickQ (c a b : Operand) : QP := fun P same t h => bindQ (evQ t c) fun c => bindQ (evQ t a) fun a => bindQ (evQ t b) fun b => match c with
  | .bool true => some a
  | .bool false => some b
  | _ => none
def nilG : Program → SV → H → Option SV := fun _ v _ => match v with
  | .ptr none | .nilIface | .nilFunc => none
  | v => some v
noncomputable def wrapQ (k : IntKind) (n : Int) : Int := match k, n with
  | .i64, .ofNat m => match Nat.blt m 9223372036854775808 with
    | true => .ofNat m
    | false => IntKind.i64.wrap (.ofNat m)
  | k, n => k.wrap n
theorem wrapQ_eq (k : IntKind) (n : Int) : wrapQ k n = k.wrap n := by
  unfold wrapQ
  split
  · rename_i m
    split
    · rename_i h
      have h' : m < 9223372036854775808 := by
        have := Nat.le_of_ble_eq_true h
        omega
      have hw : IntKind.i64.wrap (Int.ofNat m) = if Int.ofNat m % 18446744073709551616 ≥ 9223372036854775808 then Int.ofNat m % 18446744073709551616 - 18446744073709551616 else Int.ofNat m % 18446744073709551616 := by
        simp [IntKind.wrap, IntKind.bits, IntKind.signed]
      rw [hw]
      have e1 : (Int.ofNat m) % 18446744073709551616 = Int.ofNat m := by
        rw [Int.ofNat_eq_natCast]; omega
      rw [e1, if_neg]
      rw [Int.ofNat_eq_natCast]; omega
    · rfl
  · rfl
def sameK (k k' : IntKind) : Bool := match k, k' with
  | .i64, .i64 => true
  | .u8, .u8 => true
  | k, k' => decide (k = k')
theorem sameK_iff {k k' : IntKind} : sameK k k' = true ↔ k = k' := by
  unfold sameK
  split <;> simp
noncomputable def binI (op : BinOp) : IntKind → IntKind → Int → Int → Option SV := match op with
  | .add => fun k k' x y => match sameK k k' with
    | true => fI (wrapQ k (Int.add x y)) fun n => some (.int k n)
    | false => none
  | .sub => fun k k' x y => match sameK k k' with
    | true => fI (wrapQ k (Int.sub x y)) fun n => some (.int k n)
    | false => none
  | .eql => fun k k' x y => match sameK k k' with
    | true => fB (decide (x = y)) fun b => some (.bool b)
    | false => none
  | .neq => fun k k' x y => match sameK k k' with
    | true => fB (!decide (x = y)) fun b => some (.bool b)
    | false => none
  | .lss => fun k k' x y => match sameK k k' with
    | true => fB (decide (x < y)) fun b => some (.bool b)
    | false => none
  | .leq => fun k k' x y => match sameK k k' with
    | true => fB (decide (x ≤ y)) fun b => some (.bool b)
    | false => none
  | .gtr => fun k k' x y => match sameK k k' with
    | true => fB (decide (x > y)) fun b => some (.bool b)
    | false => none
  | .geq => fun k k' x y => match sameK k k' with
    | true => fB (decide (x ≥ y)) fun b => some (.bool b)
    | false => none
  | .shl => fun k k' a b => if b < 0 then none else some (.int k (k.wrap (a * 2 ^ min b.toNat k.bits)))
  | .shr => fun k k' a b => if b < 0 then none else some (.int k (a.fdiv (2 ^ min b.toNat k.bits)))
  | op => fun k k' x y => match sameK k k' with
    | true => intOp op k x y
    | false => none
noncomputable def binG (op : BinOp) (ty : Nat) : Program → SV → SV → H → Option SV := fun P x y _ => match x with
  | .int k a => (match y with
    | .int k' b => binI op k k' a b
    | y => binS P op ty (.int k a) y)
  | x => binS P op ty x y
theorem binI_eq (P : Program) (op : BinOp) (ty : Nat) (k k' : IntKind) (a b : Int) : binI op k k' a b = binS P op ty (.int k a) (.int k' b) := by
  have hc : ∀ (r : Option SV), (match sameK k k' with
    | true => r
    | false => none) = if k = k' then r else none := fun r => by
    by_cases h : k = k'
    · rw [if_pos h, sameK_iff.2 h]
    · rw [if_neg h]
      cases hs : sameK k k' with
      | true => exact absurd (sameK_iff.1 hs) h
      | false => rfl
  cases op <;> simp only [binI, binS, intOp, hc, wrapQ_eq, fI_eq, fB_eq] <;> rfl
theorem binG_eq (P : Program) (op : BinOp) (ty : Nat) (x y : SV) (h : H) : binG op ty P x y h = binS P op ty x y := by
  unfold binG
  split
  · split
    · exact binI_eq P op ty _ _ _ _
    · rfl
  · rfl
noncomputable def loadG (ty : Nat) : Program → SV → H → Option SV := fun P x h => match x with
  | .ptr (some (b, o)) => (match getQ h b with
    | some (.cells _ _ cs) => (match isAggS P ty with
      | some false => nthQ cs o
      | _ => partT P ty cs o)
    | some (.tab cs) => (match isAggS P ty with
      | some false => nthQ cs o
      | _ => partT P ty cs o)
    | _ => none)
  | _ => none
theorem loadG_eq (P : Program) (ty : Nat) (b o : Nat) (h : H) : loadG ty P (.ptr (some (b, o))) h = loadS P h ty b o := by
  unfold loadG loadS
  simp only [getQ_eq]
  cases h.get b with
  | none => rfl
  | some q => cases q with
    | map _ _ => rfl
    | dead => rfl
    | hole => rfl
    | tab cs =>
      simp only []
      split
      · rename_i ha
        simp only [partT, ha, nthQ_eq]
      · rfl
    | cells e x cs =>
      simp only []
      split
      · rename_i ha
        simp only [partT, ha, nthQ_eq]
      · rfl
noncomputable def fieldAtG (ty f : Nat) : Program → SV → H → Option SV := fun P x _ => fieldAtS P ty x f
noncomputable def unG (op : UnOp) : Program → SV → H → Option SV := fun _ x _ => unS op x
noncomputable def convG (s d : Nat) : Program → SV → H → Option SV := fun P x h => convT P s d x h
def extractG (i : Nat) : Program → SV → H → Option SV := fun _ x _ => match x with
  | .tuple vs => vs[i]?
  | _ => none
noncomputable def indexAtG (ty : Nat) : Program → SV → SV → H → Option SV := fun P x i _ => indexAtS P ty x i
noncomputable def indexG (ty : Nat) : Program → SV → SV → H → Option SV := fun P x i _ => indexS P ty x i

section kinds
variable {P : Program} {same : Nat → Bool} {t : Env} {h : H}
theorem unQ_eq {op : Op} {x : Operand} {g : Program → SV → H → Option SV} (ho : op.operands.toList = [x]) (hc : ∀ P v, calleeS P op [v] = none) (he : isEff op = false) (hg : ∀ P v h, g P v h = pureS P h op [v]) : unQ x g P same t h = genP op P same t h := by
  unfold unQ genP
  rw [ho, evs_one, bindQ_eq]
  cases evQ t x with
  | none => rfl
  | some v => simp only [hc, he, hg]
theorem duQ_eq {op : Op} {x y : Operand} {g : Program → SV → SV → H → Option SV} (ho : op.operands.toList = [x, y]) (hc : ∀ P v u, calleeS P op [v, u] = none) (he : isEff op = false) (hg : ∀ P v u h, g P v u h = pureS P h op [v, u]) : duQ x y g P same t h = genP op P same t h := by
  unfold duQ genP
  rw [ho, evs_two]
  simp only [bindQ_eq]
  cases evQ t x with
  | none => rfl
  | some v => cases evQ t y with
    | none => rfl
    | some u => simp only [hc, he, hg]
end kinds
noncomputable def opP (op : Op) : QP := Op.rec (motive := fun _ => QP)
  (fun x => unQ x moveG)
  (fun x => unQ x moveG)
  (fun c a b => pickQ c a b)
  (fun e => genP (.alloc e))
  (fun e v => genP (.box e v))
  (fun t p => genP (.build t p))
  (fun t l p => genP (.buildSlice t l p))
  (fun t m k v => genP (.insert t m k v))
  (fun t a => unQ a (loadG t))
  (fun t a v => genP (.store t a v))
  (fun g => genP (.ready g))
  (fun g => genP (.waits g))
  (fun x => unQ x nilG)
  (fun o t x y u => duQ x y (binG o t))
  (fun o t x => unQ x (unG o))
  (fun s d x => unQ x (convG s d))
  (fun d x => genP (.sliceToArrayPointer d x))
  (fun t x => genP (.makeInterface t x))
  (fun f a c => genP (.makeFunc f a c))
  (fun t r => genP (.makeMap t r))
  (fun t s => genP (.makeChan t s))
  (fun t l c => genP (.makeSlice t l c))
  (fun t x l h m => genP (.slice t x l h m))
  (fun t x f => unQ x (fieldAtG t f))
  (fun t x f => genP (.field t x f))
  (fun t x i => duQ x i (indexAtG t))
  (fun t x i => duQ x i (indexG t))
  (fun t x i c => genP (.lookup t x i c))
  (fun t m k v => genP (.mapUpdate t m k v))
  (fun t m k => genP (.mapEntry t m k))
  (fun t m s v => genP (.entryStore t m s v))
  (fun t x => genP (.range t x))
  (fun i s => genP (.next i s))
  (fun i => genP (.entry i))
  (fun x t a c => genP (.typeAssert x t a c))
  (fun t i => unQ t (extractG i))
  (fun c => genP (.call c))
  (fun c => genP (.go c))
  (fun c => genP (.defer c))
  (fun x => genP (.panic x))
  (fun c x => genP (.send c x))
  (fun t c k => genP (.recv t c k))
  (fun c b => genP (.select c b))
  op
noncomputable def opF (op : Op) : QF := Op.rec (motive := fun _ => QF)
  (fun x => liftQ (.move x) (unQ x moveG))
  (fun x => liftQ (.assign x) (unQ x moveG))
  (fun c a b => liftQ (.pick c a b) (pickQ c a b))
  (fun e => genF (.alloc e))
  (fun e v => genF (.box e v))
  (fun t p => genF (.build t p))
  (fun t l p => genF (.buildSlice t l p))
  (fun t m k v => genF (.insert t m k v))
  (fun t a => liftQ (.load t a) (unQ a (loadG t)))
  (fun t a v => genF (.store t a v))
  (fun g => genF (.ready g))
  (fun g => genF (.waits g))
  (fun x => liftQ (.nilCheck x) (unQ x nilG))
  (fun o t x y u => liftQ (.binOp o t x y u) (duQ x y (binG o t)))
  (fun o t x => liftQ (.unOp o t x) (unQ x (unG o)))
  (fun s d x => liftQ (.convert s d x) (unQ x (convG s d)))
  (fun d x => genF (.sliceToArrayPointer d x))
  (fun t x => genF (.makeInterface t x))
  (fun f a c => genF (.makeFunc f a c))
  (fun t r => genF (.makeMap t r))
  (fun t s => genF (.makeChan t s))
  (fun t l c => genF (.makeSlice t l c))
  (fun t x l h m => genF (.slice t x l h m))
  (fun t x f => liftQ (.fieldAddr t x f) (unQ x (fieldAtG t f)))
  (fun t x f => genF (.field t x f))
  (fun t x i => liftQ (.indexAddr t x i) (duQ x i (indexAtG t)))
  (fun t x i => liftQ (.index t x i) (duQ x i (indexG t)))
  (fun t x i c => genF (.lookup t x i c))
  (fun t m k v => genF (.mapUpdate t m k v))
  (fun t m k => genF (.mapEntry t m k))
  (fun t m s v => genF (.entryStore t m s v))
  (fun t x => genF (.range t x))
  (fun i s => genF (.next i s))
  (fun i => genF (.entry i))
  (fun x t a c => genF (.typeAssert x t a c))
  (fun t i => liftQ (.extract t i) (unQ t (extractG i)))
  (fun c => genF (.call c))
  (fun c => genF (.go c))
  (fun c => genF (.defer c))
  (fun x => genF (.panic x))
  (fun c x => genF (.send c x))
  (fun t c k => genF (.recv t c k))
  (fun c b => genF (.select c b))
  op

theorem opP_eq (op : Op) (P : Program) (same : Nat → Bool) (t : Env) (h : H) : opP op P same t h = genP op P same t h := by
  cases op <;> try rfl
  case move x => exact unQ_eq rfl (fun _ _ => rfl) rfl fun _ _ _ => rfl
  case assign x => exact unQ_eq rfl (fun _ _ => rfl) rfl fun _ _ _ => rfl
  case nilCheck x => exact unQ_eq rfl (fun _ _ => rfl) rfl fun _ v _ => rfl
  case load ty x =>
    refine unQ_eq rfl (fun _ _ => rfl) rfl fun P v h => ?_
    cases v <;> try rfl
    case ptr a =>
      rcases a with _ | ⟨b, o⟩
      · rfl
      · exact loadG_eq P ty b o h
  case fieldAddr ty x f => exact unQ_eq rfl (fun _ _ => rfl) rfl fun _ _ _ => rfl
  case unOp op ty x => exact unQ_eq rfl (fun _ _ => rfl) rfl fun _ _ _ => rfl
  case convert s d x => exact unQ_eq rfl (fun _ _ => rfl) rfl fun _ _ _ => rfl
  case extract x i => exact unQ_eq rfl (fun _ _ => rfl) rfl fun _ v _ => by cases v <;> rfl
  case binOp op ty x y u => exact duQ_eq rfl (fun _ _ _ => rfl) rfl fun P v u h => binG_eq P op ty v u h
  case indexAddr ty x i => exact duQ_eq rfl (fun _ _ _ => rfl) rfl fun _ _ _ _ => rfl
  case index ty x i => exact duQ_eq rfl (fun _ _ _ => rfl) rfl fun _ _ _ _ => rfl
  case pick c a b =>
    show pickQ c a b P same t h = _
    unfold pickQ genP
    rw [show (Op.pick c a b).operands.toList = [c, a, b] from rfl, evs_three]
    simp only [bindQ_eq]
    cases evQ t c with
    | none => rfl
    | some v => cases evQ t a with
      | none => rfl
      | some u => cases evQ t b with
        | none => rfl
        | some r =>
          show _ = pureS P h (.pick c a b) [v, u, r]
          cases v <;> try rfl
          case bool q => cases q <;> rfl
theorem opF_eq (op : Op) (P : Program) (same : Nat → Bool) (call : Caller) (t : Env) (σ : SW) : opF op P same call t σ = genF op P same call t σ := by
  cases op <;> try rfl
  all_goals exact liftQ_eq (fun P same t h => opP_eq _ P same t h) P same call t σ

section walk
variable (P : Program)
def wantG (ops : List Oper) (g : Nat × Bool) (t : Env) : Bool := match ops[g.1]? with
    | some o => match o.dst with
      | some d => match t d with
        | some (.bool b) => b == g.2
        | _ => false
      | none => false
    | none => false
theorem wantG_eq (ops : List Oper) (g : Nat × Bool) (t : List SV) : wantG ops g (fun i => t[i]?) = wantS ops (some g) t := by
  obtain ⟨j, w⟩ := g
  rfl
noncomputable def valPQ (same : Nat → Bool) (ops : List Oper) (o : Oper) (t : Env) (h : H) : Option SV :=
  Option.rec (motive := fun _ => Option SV) (opP o.op P same t h) (fun g => Bool.rec (motive := fun _ => Option SV) (some undefS) (opP o.op P same t h) (wantG ops g t)) o.guard
noncomputable def valQ (same : Nat → Bool) (call : Caller) (ops : List Oper) (o : Oper) (t : Env) (σ : SW) : Option (SV × SW) :=
  Option.rec (motive := fun _ => Option (SV × SW)) (opF o.op P same call t σ) (fun g => Bool.rec (motive := fun _ => Option (SV × SW)) (some (undefS, σ)) (opF o.op P same call t σ) (wantG ops g t)) o.guard
theorem valPQ_eq (same : Nat → Bool) (ops : List Oper) (o : Oper) (t : List SV) (h : H) : valPQ P same ops o (fun i => t[i]?) h = valP P same ops o t h := by
  unfold valPQ valP
  cases o.guard with
  | none => simp only [opP_eq, wantS, genP, evsG_eq]; rfl
  | some g =>
    simp only [opP_eq, wantG_eq, genP, evsG_eq]
    cases wantS ops (some g) t <;> rfl
theorem valQ_eq (same : Nat → Bool) (call : Caller) (ops : List Oper) (o : Oper) (t : List SV) (σ : SW) : valQ P same call ops o (fun i => t[i]?) σ = valS P same call ops o t σ := by
  unfold valQ valS
  cases o.guard with
  | none => simp only [opF_eq, wantS, genF, evsG_eq]; rfl
  | some g =>
    simp only [opF_eq, wantG_eq, genF, evsG_eq]
    cases wantS ops (some g) t <;> rfl
variable {β : Type}
noncomputable def bind2 {α γ : Type} (o : Option (α × γ)) (k : α → γ → Option β) : Option β := Option.rec (motive := fun _ => Option β) none (fun p => Prod.rec (motive := fun _ => Option β) k p) o
theorem bind2_some {α γ : Type} {o : Option (α × γ)} {k : α → γ → Option β} {r : β} (h : bind2 o k = some r) : ∃ x t, o = some (x, t) ∧ k x t = some r := by
  cases o with
  | none => cases h
  | some p => obtain ⟨x, t⟩ := p; exact ⟨x, t, rfl, h⟩
noncomputable def opsQ (same : Nat → Bool) (call : Caller) (ops : List Oper) (l : List Oper) : T → SW → (T → SW → Option β) → Option β :=
  List.rec (motive := fun _ => T → SW → (T → SW → Option β) → Option β) (fun t σ k => k t σ)
    (fun o _ ih t σ k => bind2 (valQ P same call ops o t.get σ) fun v σ => putQ o.dst v t fun t => ih t σ k) l
theorem opsQ_spec {same : Nat → Bool} {call : Caller} {ops : List Oper} : ∀ {l : List Oper} {g : T} {t : List SV} {σ : SW} {k : T → SW → Option β} {r : β}, rep g t → opsQ P same call ops l g σ k = some r →
    ∃ g' t' σ', rep g' t' ∧ k g' σ' = some r ∧ opsS P same call ops l t σ (fun t σ => some (t, σ)) = some (t', σ')
  | [], g, t, σ, k, r, hg, h => ⟨g, t, σ, hg, h, rfl⟩
  | o :: l, g, t, σ, k, r, hg, h => by
    have h' : bind2 (valQ P same call ops o g.get σ) (fun v σ => putQ o.dst v g fun t => opsQ P same call ops l t σ k) = some r := h
    obtain ⟨v, σ1, h1, h2⟩ := bind2_some h'
    rw [putQ_eq] at h2
    rw [hg.env, valQ_eq] at h1
    obtain ⟨g', t', σ', h3, h4, h5⟩ := opsQ_spec (hg.put o.dst v) h2
    refine ⟨g', t', σ', h3, h4, ?_⟩
    simp only [opsS, oneS, h1, putK_eq]
    exact h5
end walk
end Go.Proofs.YtamiebojjinhcaaGreatDoor.Sx

set_option linter.unusedSimpArgs false
namespace Go.Proofs.YtamiebojjinhcaaGreatDoor.Sx
variable {B : World}
variable (P : Program)

section draw
/-- An operation of the walk, its temporaries a tree. -/
structure Red where
  eff : Bool
  v : SV
  t : T
  σ : SW
noncomputable def T.list (g : T) (n : Nat) : List SV := (List.range n).map fun i => (g.get i).getD undefS
theorem rep.list {g : T} {t : List SV} (h : rep g t) : g.list t.length = t := by
  apply List.ext_getElem?
  intro i
  unfold T.list
  rw [List.getElem?_map]
  by_cases hi : i < t.length
  · rw [List.getElem?_range hi, List.getElem?_eq_getElem hi]
    simp only [Option.map_some, h i, List.getElem?_eq_getElem hi, Option.getD_some]
  · rw [List.getElem?_eq_none (by simpa using hi), List.getElem?_eq_none (by simpa using hi)]
    rfl
noncomputable def Red.old (n : Nat) (r : Red) : Rec := ⟨r.eff, r.v, r.t.list n, r.σ⟩
noncomputable def lexQ (same : Nat → Bool) (call : Caller) (ops : List Oper) (l : List Oper) : T → SW → Option (List Red × T × SW) :=
  List.rec (motive := fun _ => T → SW → Option (List Red × T × SW)) (fun t σ => some ([], t, σ))
    (fun o _ ih t σ => Option.rec (motive := fun _ => Option (List Red × T × SW))
      (bind2 (valQ P same call ops o t.get σ) fun v σ' => putQ o.dst v t fun t' => bind2 (ih t' σ') fun rs p => some (⟨true, v, t, σ⟩ :: rs, p))
      (fun v => fV v fun v => putQ o.dst v t fun t' => bind2 (ih t' σ) fun rs p => some (⟨false, v, t, σ⟩ :: rs, p)) (valPQ P same ops o t.get σ.h)) l
theorem put_len (d : Option Nat) (v : SV) (t : List SV) : (Sx.put d v t).length = t.length := by cases d <;> simp [Sx.put]
theorem lexQ_spec {same : Nat → Bool} {call : Caller} {ops : List Oper} : ∀ {l : List Oper} {g : T} {t : List SV} {σ : SW} {rs : List Red} {g' : T} {σ' : SW}, rep g t → lexQ P same call ops l g σ = some (rs, g', σ') →
    ∃ t', rep g' t' ∧ t'.length = t.length ∧ lexS P same call ops l t σ = some (rs.map (Red.old t.length), t', σ')
  | [], g, t, σ, rs, g', σ', hg, h => by
    injection h with h; injection h with e1 h; injection h with e2 e3; subst e1; subst e2; subst e3
    exact ⟨t, hg, rfl, rfl⟩
  | o :: l, g, t, σ, rs, g', σ', hg, h => by
    have h' : Option.rec (motive := fun _ => Option (List Red × T × SW))
      (bind2 (valQ P same call ops o g.get σ) fun v σ' => putQ o.dst v g fun t' => bind2 (lexQ P same call ops l t' σ') fun rs p => some (⟨true, v, g, σ⟩ :: rs, p))
      (fun v => fV v fun v => putQ o.dst v g fun t' => bind2 (lexQ P same call ops l t' σ) fun rs p => some (⟨false, v, g, σ⟩ :: rs, p)) (valPQ P same ops o g.get σ.h) = some (rs, g', σ') := h
    clear h
    rw [hg.env, valQ_eq, valPQ_eq] at h'
    simp only [lexS]
    cases hp : valP P same ops o t σ.h with
    | none =>
      simp only [hp] at h' ⊢
      obtain ⟨v, σ1, h1, h2⟩ := bind2_some h'
      rw [putQ_eq] at h2
      obtain ⟨rs1, p, h3, h4⟩ := bind2_some h2
      injection h4 with h4; injection h4 with e1 e2; subst e1; subst e2
      obtain ⟨t', h5, h6, h7⟩ := lexQ_spec (hg.put o.dst v) h3
      rw [put_len] at h6 h7
      refine ⟨t', h5, h6, ?_⟩
      simp only [h1, putK_eq, h7]
      simp only [List.map_cons, Red.old, hg.list]
    | some v =>
      simp only [hp] at h' ⊢
      simp only [fV_eq, putQ_eq] at h'
      obtain ⟨rs1, p, h3, h4⟩ := bind2_some h'
      injection h4 with h4; injection h4 with e1 e2; subst e1; subst e2
      obtain ⟨t', h5, h6, h7⟩ := lexQ_spec (hg.put o.dst v) h3
      rw [put_len] at h6 h7
      refine ⟨t', h5, h6, ?_⟩
      simp only [fV_eq, putK_eq, h7]
      simp only [List.map_cons, Red.old, hg.list]
noncomputable def effsQ (rs : List Red) : Nat → List Nat := List.rec (motive := fun _ => Nat → List Nat) (fun _ => []) (fun r _ ih i => Bool.rec (motive := fun _ => List Nat) (ih (.succ i)) (i :: ih (.succ i)) r.eff) rs
noncomputable def stagesQ (σf : SW) (rs : List Red) : List SW := List.rec (motive := fun _ => List SW) [σf] (fun r _ ih => Bool.rec (motive := fun _ => List SW) ih (r.σ :: ih) r.eff) rs
theorem effsQ_eq (n : Nat) : ∀ (rs : List Red) (i : Nat), effsQ rs i = effs (rs.map (Red.old n)) i
  | [], i => rfl
  | r :: rs, i => by
    have := effsQ_eq n rs (.succ i)
    simp only [List.map_cons, effs, ← this, Red.old]
    obtain ⟨e, v, t, σ⟩ := r
    cases e <;> rfl
theorem stagesQ_eq (n : Nat) (σf : SW) : ∀ (rs : List Red), stagesQ σf rs = stages σf (rs.map (Red.old n))
  | [] => rfl
  | r :: rs => by
    have := stagesQ_eq n σf rs
    simp only [List.map_cons, stages, ← this, Red.old]
    obtain ⟨e, v, t, σ⟩ := r
    cases e <;> rfl
noncomputable def steadyQ (same : Nat → Bool) (ops : List Oper) (an : List Nat) (i : Nat) (o : Oper) (r : Red) : (past rest : List Nat) → List SW → Bool
  | _, _, [] => true
  | past, rest, σ :: hs => (!mayNow an i past rest || (match valPQ P same ops o r.t.get σ.h with
      | some v => SV.beq v r.v
      | none => false)) && (match rest with
      | [] => true
      | j :: rest => steadyQ same ops an i o r (past ++ [j]) rest hs)
theorem steadyQ_eq (same : Nat → Bool) (ops : List Oper) (an : List Nat) (i : Nat) (o : Oper) (r : Red) {t : List SV} (ht : rep r.t t) : ∀ (past rest : List Nat) (hs : List SW), steadyQ P same ops an i o r past rest hs = steadyS P same ops an i o (r.old t.length) past rest hs
  | _, _, [] => by simp only [steadyQ, steadyS]
  | past, rest, σ :: hs => by
    unfold steadyQ steadyS
    rw [ht.env, valPQ_eq]
    simp only [Red.old, ht.list]
    cases rest with
    | nil => rfl
    | cons j rest =>
      have := steadyQ_eq same ops an i o r ht (past ++ [j]) rest hs
      simp only [Red.old, ht.list] at this
      simp only [this]
      rfl
noncomputable def steadyAllQ (same : Nat → Bool) (ops : List Oper) (an : List Nat) (es : List Nat) (hs : List SW) : List Oper → List Red → Nat → Bool
  | o :: os, r :: rs, i => (r.eff || steadyQ P same ops an i o r [] es hs) && steadyAllQ same ops an es hs os rs (.succ i)
  | [], [], _ => true
  | _, _, _ => false
theorem steadyAllQ_eq (same : Nat → Bool) (ops : List Oper) (an : List Nat) (es : List Nat) (hs : List SW) (n : Nat) : ∀ (os : List Oper) (rs : List Red) (i : Nat), (∀ r ∈ rs, ∃ t, rep r.t t ∧ t.length = n) → steadyAllQ P same ops an es hs os rs i = steadyAll P same ops an es hs os (rs.map (Red.old n)) i
  | o :: os, r :: rs, i, h => by
    obtain ⟨t, ht, hn⟩ := h r (by simp)
    have h1 := steadyQ_eq P same ops an i o r ht [] es hs
    rw [hn] at h1
    simp only [List.map_cons, steadyAllQ, steadyAll, h1, steadyAllQ_eq same ops an es hs n os rs _ fun r hr => h r (List.mem_cons_of_mem _ hr)]
    rfl
  | [], [], _, _ => by simp only [List.map_nil, steadyAllQ, steadyAll]
  | [], _ :: _, _, _ => by simp only [List.map_cons, steadyAllQ, steadyAll]
  | _ :: _, [], _, _ => by simp only [List.map_nil, steadyAllQ, steadyAll]
theorem lexQ_rep {same : Nat → Bool} {call : Caller} {ops : List Oper} : ∀ {l : List Oper} {g : T} {t : List SV} {σ : SW} {rs : List Red} {g' : T} {σ' : SW}, rep g t → lexQ P same call ops l g σ = some (rs, g', σ') → ∀ r ∈ rs, ∃ t', rep r.t t' ∧ t'.length = t.length
  | [], g, t, σ, rs, g', σ', hg, h => by
    injection h with h; injection h with e1 h; subst e1
    intro r hr; cases hr
  | o :: l, g, t, σ, rs, g', σ', hg, h => by
    have h' : Option.rec (motive := fun _ => Option (List Red × T × SW))
      (bind2 (valQ P same call ops o g.get σ) fun v σ' => putQ o.dst v g fun t' => bind2 (lexQ P same call ops l t' σ') fun rs p => some (⟨true, v, g, σ⟩ :: rs, p))
      (fun v => fV v fun v => putQ o.dst v g fun t' => bind2 (lexQ P same call ops l t' σ) fun rs p => some (⟨false, v, g, σ⟩ :: rs, p)) (valPQ P same ops o g.get σ.h) = some (rs, g', σ') := h
    clear h
    intro r hr
    cases hp : valPQ P same ops o g.get σ.h with
    | none =>
      simp only [hp] at h'
      obtain ⟨v, σ1, h1, h2⟩ := bind2_some h'
      rw [putQ_eq] at h2
      obtain ⟨rs1, p, h3, h4⟩ := bind2_some h2
      injection h4 with h4; injection h4 with e1 e2; subst e1; subst e2
      rcases List.mem_cons.1 hr with rfl | hr
      · exact ⟨t, hg, rfl⟩
      · obtain ⟨t', h5, h6⟩ := lexQ_rep (hg.put o.dst v) h3 r hr
        exact ⟨t', h5, by rw [h6, put_len]⟩
    | some v =>
      simp only [hp] at h'
      simp only [fV_eq, putQ_eq] at h'
      obtain ⟨rs1, p, h3, h4⟩ := bind2_some h'
      injection h4 with h4; injection h4 with e1 e2; subst e1; subst e2
      rcases List.mem_cons.1 hr with rfl | hr
      · exact ⟨t, hg, rfl⟩
      · obtain ⟨t', h5, h6⟩ := lexQ_rep (hg.put o.dst v) h3 r hr
        exact ⟨t', h5, by rw [h6, put_len]⟩
abbrev DrawsQ := Caller → List Oper → T → SW → Option (T × SW)
noncomputable def drawQ (same : Nat → Bool) : DrawsQ := fun call ops t σ => match statS ops with
  | false => none
  | true => match lexQ P same call ops ops t σ with
    | none => none
    | some (rs, t', σ') => match effsQ rs 0 with
      | [] => some (t', σ')
      | es => if chainS (ancS ops []) es && steadyAllQ P same ops (ancS ops []) es (stagesQ σ' rs) ops rs 0 then some (t', σ') else none
theorem drawQ_spec {same : Nat → Bool} {call : Caller} {ops : List Oper} {g : T} {t : List SV} {σ : SW} {g' : T} {σ' : SW} (hg : rep g t) (h : drawQ P same call ops g σ = some (g', σ')) : ∃ t', rep g' t' ∧ drawS P same call ops t σ = some (t', σ') := by
  unfold drawQ at h
  unfold drawS
  cases hst : statS ops with
  | false => simp only [hst] at h; cases h
  | true =>
    simp only [hst] at h ⊢
    cases hlex : lexQ P same call ops ops g σ with
    | none => simp only [hlex] at h; cases h
    | some q =>
      obtain ⟨rs, gf, σf⟩ := q
      simp only [hlex] at h
      obtain ⟨t', h1, h2, h3⟩ := lexQ_spec P hg hlex
      have hr := lexQ_rep P hg hlex
      have hst := steadyAllQ_eq P same ops (ancS ops []) (effsQ rs 0) (stagesQ σf rs) t.length ops rs 0 hr
      rw [effsQ_eq t.length, stagesQ_eq t.length] at hst
      rw [effsQ_eq t.length, stagesQ_eq t.length] at h
      simp only [h3]
      split at h
      · rename_i hes
        injection h with h; injection h with e1 e2; subst e1; subst e2
        exact ⟨t', h1, by simp only [hes]⟩
      · rename_i es hne
        rw [hst] at h
        split at h
        · rename_i hck
          injection h with h; injection h with e1 e2; subst e1; subst e2
          refine ⟨t', h1, ?_⟩
          split
          · rename_i hes; exact absurd hes hne
          · rw [if_pos hck]
        · cases h
/-- What such a tree stands for. -/
def TT (ρ : Rho) (g : T) (a : Act) : Prop := ∃ t, rep g t ∧ TR ρ t a
def DrawsQOK (P : Program) (draws : DrawsQ) : Prop := ∀ call, CallOK P call → ∀ (id : Nat) (ops : Array Oper) g σ g' σ', draws call ops.toList g σ = some (g', σ') →
  ∀ t, rep g t → ∃ t', rep g' t' ∧ ∀ {B : World} ρ a w, TR ρ t a → WR B ρ σ w → (Code.region id ops true).wp P (Post B ρ .normal t' σ') a w
theorem drawQ_ok {P : Program} (hm : P.follows .mixedOrders = true) {same : Nat → Bool} (hsame : SameOK P same) : DrawsQOK P (drawQ P same) := by
  intro call hc id ops g σ g' σ' h t hg
  obtain ⟨t', h1, h2⟩ := drawQ_spec P hg h
  exact ⟨t', h1, fun ρ a w ht hw => drawS_ok hm hsame call hc id ops t σ t' σ' h2 ρ a w ht hw⟩
end draw

abbrev CR := Option (SX × T × SW)
section code
variable {β : Type}
noncomputable def bind3 (o : CR) (k : SX → T → SW → Option β) : Option β :=
  Option.rec (motive := fun _ => Option β) none (fun p => Prod.rec (motive := fun _ => Option β) (fun x q => Prod.rec (motive := fun _ => Option β) (fun t σ => k x t σ) q) p) o
theorem bind3_some {o : CR} {k : SX → T → SW → Option β} {r : β} (h : bind3 o k = some r) : ∃ x t σ, o = some (x, t, σ) ∧ k x t σ = some r := by
  cases o with
  | none => cases h
  | some p => obtain ⟨x, t, σ⟩ := p; exact ⟨x, t, σ, rfl, h⟩
end code
noncomputable def thenQ (k : T → SW → CR) (x : SX) (t : T) (σ : SW) : CR := SX.rec (motive := fun _ => CR) (k t σ) (fun i => some (.exit i, t, σ)) (some (.ret, t, σ)) x
noncomputable def loopQ (f : T → SW → CR) (n : Nat) : T → SW → CR :=
  Nat.rec (motive := fun _ => T → SW → CR) (fun _ _ => none) (fun _ ih t σ => bind3 (f t σ) fun x t σ => thenQ ih x t σ) n
def condQ (v : SV) : Option Bool := match v with
  | .bool b => some b
  | _ => none
noncomputable def codeQ (same : Nat → Bool) (call : Caller) (draws : DrawsQ) (fuel : Nat) (c : Code) : T → SW → CR :=
  Code.rec (motive := fun _ => T → SW → CR)
    (fun t σ => some (.normal, t, σ))
    (fun id ops draw => Bool.rec (motive := fun _ => T → SW → CR) (fun t σ => opsQ P same call ops.toList ops.toList t σ fun t σ => some (.normal, t, σ)) (fun t σ => bind2 (draws call ops.toList t σ) fun t σ => some (.normal, t, σ)) draw)
    (fun _ _ iha ihb t σ => bind3 (iha t σ) fun x t σ => thenQ ihb x t σ)
    (fun c _ _ iha ihb t σ => bindQ (bindQ (evQ t.get c) condQ) fun b => Bool.rec (motive := fun _ => CR) (ihb t σ) (iha t σ) b)
    (fun id _ ih t σ => bind3 (ih t σ) fun x t σ => SX.rec (motive := fun _ => CR) (some (.normal, t, σ)) (fun i => Bool.rec (motive := fun _ => CR) (some (.exit i, t, σ)) (some (.normal, t, σ)) (Nat.beq i id)) (some (.ret, t, σ)) x)
    (fun _ ih => loopQ ih fuel)
    (fun _ _ _ _ _ _ _ _ => none)
    (fun i t σ => some (.exit i, t, σ))
    (fun _ ih => ih)
    (fun _ t σ => some (.normal, t, σ))
    (fun _ _ _ => none)
    (fun t σ => some (.ret, t, σ))
    (fun _ _ _ => none) c
def CodesOK (P : Program) (c : Code) (f : T → SW → CR) : Prop := ∀ {g : T} {t : List SV} {σ : SW} {x : SX} {g' : T} {σ' : SW}, rep g t → f g σ = some (x, g', σ') → ∃ t', rep g' t' ∧ ∀ {B : World} ρ a w, TR ρ t a → WR B ρ σ w → c.wp P (Post B ρ x t' σ') a w
variable {P}
theorem loopQ_spec {b : Code} {f : T → SW → CR} (hf : CodesOK P b f) : ∀ (n : Nat) {g : T} {t : List SV} {σ : SW} {x : SX} {g' : T} {σ' : SW}, rep g t → loopQ f n g σ = some (x, g', σ') →
    ∃ t', rep g' t' ∧ ∀ {B : World} ρ a w, TR ρ t a → WR B ρ σ w → ∀ Q, (∀ e a w, Post B ρ x t' σ' e a w → Q e a w) → Code.rounds P b Q n a w
  | 0, g, t, σ, x, g', σ', hg, h => by cases h
  | n + 1, g, t, σ, x, g', σ', hg, h => by
    have h' : bind3 (f g σ) (fun x t σ => thenQ (loopQ f n) x t σ) = some (x, g', σ') := h
    obtain ⟨x1, g1, σ1, h1, h2⟩ := bind3_some h'
    obtain ⟨t1, hg1, hwp⟩ := hf hg h1
    cases x1 with
    | normal =>
      obtain ⟨t', hg', hrest⟩ := loopQ_spec hf n hg1 h2
      refine ⟨t', hg', fun ρ a w ht hw Q hQ => ?_⟩
      rw [rounds_succ]
      refine wp_mono (hwp ρ a w ht hw) ?_
      rintro e a' w' ⟨rfl, ρ', hle, ht', hw'⟩
      refine hrest ρ' a' w' ht' hw' Q ?_
      rintro e a2 w2 ⟨rfl, ρ2, hle2, ht2, hw2⟩
      exact hQ _ a2 w2 ⟨rfl, ρ2, hle.trans hle2, ht2, hw2⟩
    | exit i =>
      injection h2 with h2; injection h2 with e1 h2; injection h2 with e2 e3; subst e1; subst e2; subst e3
      refine ⟨t1, hg1, fun ρ a w ht hw Q hQ => ?_⟩
      rw [rounds_succ]
      refine wp_mono (hwp ρ a w ht hw) ?_
      rintro e a' w' ⟨rfl, hp⟩
      exact hQ _ a' w' ⟨rfl, hp⟩
    | ret =>
      injection h2 with h2; injection h2 with e1 h2; injection h2 with e2 e3; subst e1; subst e2; subst e3
      refine ⟨t1, hg1, fun ρ a w ht hw Q hQ => ?_⟩
      rw [rounds_succ]
      refine wp_mono (hwp ρ a w ht hw) ?_
      rintro e a' w' ⟨rfl, hp⟩
      exact hQ _ a' w' ⟨rfl, hp⟩
/-- **CODE.** -/
theorem codeQ_spec {same : Nat → Bool} {call : Caller} {draws : DrawsQ} (hs : SameOK P same) (hc : CallOK P call) (hd : DrawsQOK P draws) (fuel : Nat) (c : Code) : CodesOK P c (codeQ P same call draws fuel c) := by
  induction c with
  | skip =>
    intro g t σ x g' σ' hg h
    injection h with h; injection h with e1 h; injection h with e2 e3; subst e1; subst e2; subst e3
    exact ⟨t, hg, fun ρ a w ht hw => wp_skip ⟨rfl, ρ, .refl ρ, ht, hw⟩⟩
  | label l =>
    intro g t σ x g' σ' hg h
    injection h with h; injection h with e1 h; injection h with e2 e3; subst e1; subst e2; subst e3
    exact ⟨t, hg, fun ρ a w ht hw => wp_label ⟨rfl, ρ, .refl ρ, ht, hw⟩⟩
  | region id ops draw =>
    intro g t σ x g' σ' hg h
    cases draw with
    | true =>
      have h' : bind2 (draws call ops.toList g σ) (fun t σ => (some (.normal, t, σ) : CR)) = some (x, g', σ') := h
      obtain ⟨g1, σ1, hdr, h2⟩ := bind2_some h'
      injection h2 with h; injection h with e1 h; injection h with e2 e3; subst e1; subst e2; subst e3
      exact hd call hc id ops g σ g1 σ1 hdr t hg
    | false =>
      have h' : opsQ P same call ops.toList ops.toList g σ (fun t σ => (some (.normal, t, σ) : CR)) = some (x, g', σ') := h
      obtain ⟨g1, t1, σ1, hg1, h1, h4⟩ := opsQ_spec P hg h'
      injection h1 with h1; injection h1 with e1 h1; injection h1 with e2 e3; subst e1; subst e2; subst e3
      obtain ⟨t2, σ2, h5, h6⟩ := opsS_spec hs hc _ h4
      injection h5 with h5; injection h5 with e1 e2; subst e1; subst e2
      exact ⟨_, hg1, fun ρ a w ht hw => wp_region_list (h6 ρ a w _ ht hw fun ρ' a' w' hle ht' hw' => ⟨rfl, ρ', hle, ht', hw'⟩)⟩
  | seq c1 c2 ih1 ih2 =>
    intro g t σ x g' σ' hg h
    have h' : bind3 (codeQ P same call draws fuel c1 g σ) (fun x t σ => thenQ (codeQ P same call draws fuel c2) x t σ) = some (x, g', σ') := h
    obtain ⟨x1, g1, σ1, h1, h2⟩ := bind3_some h'
    obtain ⟨t1, hg1, hwp1⟩ := ih1 hg h1
    cases x1 with
    | normal =>
      obtain ⟨t2, hg2, hwp2⟩ := ih2 hg1 h2
      refine ⟨t2, hg2, fun ρ a w ht hw => wp_seq (wp_mono (hwp1 ρ a w ht hw) ?_)⟩
      rintro e a' w' ⟨rfl, ρ', hle, ht', hw'⟩
      refine wp_mono (hwp2 ρ' a' w' ht' hw') ?_
      rintro e a2 w2 ⟨rfl, ρ2, hle2, ht2, hw2⟩
      exact ⟨rfl, ρ2, hle.trans hle2, ht2, hw2⟩
    | exit i =>
      injection h2 with h2; injection h2 with e1 h2; injection h2 with e2 e3; subst e1; subst e2; subst e3
      refine ⟨t1, hg1, fun ρ a w ht hw => wp_seq (wp_mono (hwp1 ρ a w ht hw) ?_)⟩
      rintro e a' w' ⟨rfl, hp⟩
      exact ⟨rfl, hp⟩
    | ret =>
      injection h2 with h2; injection h2 with e1 h2; injection h2 with e2 e3; subst e1; subst e2; subst e3
      refine ⟨t1, hg1, fun ρ a w ht hw => wp_seq (wp_mono (hwp1 ρ a w ht hw) ?_)⟩
      rintro e a' w' ⟨rfl, hp⟩
      exact ⟨rfl, hp⟩
  | cond c c1 c2 ih1 ih2 =>
    intro g t σ x g' σ' hg h
    have h' : bindQ (bindQ (evQ g.get c) condQ) (fun b => Bool.rec (motive := fun _ => CR) (codeQ P same call draws fuel c2 g σ) (codeQ P same call draws fuel c1 g σ) b) = some (x, g', σ') := h
    obtain ⟨b, h1, h2⟩ := bindQ_some h'
    obtain ⟨v, h3, h4⟩ := bindQ_some h1
    have hv : v = .bool b := by
      unfold condQ at h4
      split at h4
      · injection h4 with h4; rw [h4]
      · cases h4
    subst hv
    rw [hg.env, evQ_eq] at h3
    cases b with
    | true =>
      obtain ⟨t1, hg1, hwp⟩ := ih1 hg h2
      exact ⟨t1, hg1, fun ρ a w ht hw => wp_cond_true ((VR.bool_iff (ev_spec ht hw.zero h3) true).1 rfl) (hwp ρ a w ht hw)⟩
    | false =>
      obtain ⟨t1, hg1, hwp⟩ := ih2 hg h2
      exact ⟨t1, hg1, fun ρ a w ht hw => wp_cond_false ((VR.bool_iff (ev_spec ht hw.zero h3) false).1 rfl) (hwp ρ a w ht hw)⟩
  | block id b ih =>
    intro g t σ x g' σ' hg h
    have h' : bind3 (codeQ P same call draws fuel b g σ) (fun x t σ => SX.rec (motive := fun _ => CR) (some (.normal, t, σ)) (fun i => Bool.rec (motive := fun _ => CR) (some (.exit i, t, σ)) (some (.normal, t, σ)) (Nat.beq i id)) (some (.ret, t, σ)) x) = some (x, g', σ') := h
    obtain ⟨x1, g1, σ1, h1, h2⟩ := bind3_some h'
    obtain ⟨t1, hg1, hwp⟩ := ih hg h1
    cases x1 with
    | normal =>
      injection h2 with h2; injection h2 with e1 h2; injection h2 with e2 e3; subst e1; subst e2; subst e3
      refine ⟨t1, hg1, fun ρ a w ht hw => wp_block (wp_mono (hwp ρ a w ht hw) ?_)⟩
      rintro e a' w' ⟨rfl, hp⟩
      exact ⟨rfl, hp⟩
    | ret =>
      injection h2 with h2; injection h2 with e1 h2; injection h2 with e2 e3; subst e1; subst e2; subst e3
      refine ⟨t1, hg1, fun ρ a w ht hw => wp_block (wp_mono (hwp ρ a w ht hw) ?_)⟩
      rintro e a' w' ⟨rfl, hp⟩
      exact ⟨rfl, hp⟩
    | exit i =>
      cases hi : Nat.beq i id with
      | true =>
        simp only [hi] at h2
        injection h2 with h2; injection h2 with e1 h2; injection h2 with e2 e3; subst e1; subst e2; subst e3
        have := Nat.eq_of_beq_eq_true hi
        subst this
        refine ⟨t1, hg1, fun ρ a w ht hw => wp_block (wp_mono (hwp ρ a w ht hw) ?_)⟩
        rintro e a' w' ⟨rfl, hp⟩
        simp only [SX.out, Exit.inBlock, if_true]
        exact ⟨rfl, hp⟩
      | false =>
        simp only [hi] at h2
        injection h2 with h2; injection h2 with e1 h2; injection h2 with e2 e3; subst e1; subst e2; subst e3
        have hne : ¬ i = id := fun e => by subst e; rw [Nat.beq_refl] at hi; cases hi
        refine ⟨t1, hg1, fun ρ a w ht hw => wp_block (wp_mono (hwp ρ a w ht hw) ?_)⟩
        rintro e a' w' ⟨rfl, hp⟩
        simp only [SX.out, Exit.inBlock, hne, if_false]
        exact ⟨rfl, hp⟩
  | loop b ih =>
    intro g t σ x g' σ' hg h
    obtain ⟨t1, hg1, hr⟩ := loopQ_spec ih fuel hg h
    exact ⟨t1, hg1, fun ρ a w ht hw => wp_loop_rounds fuel (hr ρ a w ht hw _ fun e a w hp => hp)⟩
  | scope b ih =>
    intro g t σ x g' σ' hg h
    obtain ⟨t1, hg1, hwp⟩ := ih hg h
    refine ⟨t1, hg1, fun ρ a w ht hw => wp_scope_straight (wp_mono (hwp ρ a w ht hw) ?_)⟩
    rintro e a' w' ⟨rfl, hp⟩
    cases x <;> exact ⟨rfl, hp⟩
  | exit i =>
    intro g t σ x g' σ' hg h
    injection h with h; injection h with e1 h; injection h with e2 e3; subst e1; subst e2; subst e3
    exact ⟨t, hg, fun ρ a w ht hw => wp_exit ⟨rfl, ρ, .refl ρ, ht, hw⟩⟩
  | ret =>
    intro g t σ x g' σ' hg h
    injection h with h; injection h with e1 h; injection h with e2 e3; subst e1; subst e2; subst e3
    exact ⟨t, hg, fun ρ a w ht hw => wp_ret ⟨rfl, ρ, .refl ρ, ht, hw⟩⟩
  | rangeFunc f ps c1 c2 _ _ => intro g t σ x g' σ' hg h; cases h
  | goto l => intro g t σ x g' σ' hg h; cases h
  | refuse w => intro g t σ x g' σ' hg h; cases h

/-! ### Calls -/
noncomputable def undefsT (fuel : Nat) : Nat → T :=
  Nat.rec (motive := fun _ => Nat → T) (fun _ => .nil) (fun _ ih n => Nat.rec (motive := fun _ => T) .nil (fun m _ => .node undefS (ih (Nat.div (Nat.succ m) 2)) (ih (Nat.div m 2))) n) fuel
theorem undefs_get (n i : Nat) : (undefs n)[i]? = if i < n then some undefS else none := by
  induction n generalizing i with
  | zero => simp [undefs]
  | succ n ih =>
    cases i with
    | zero => simp [undefs]
    | succ i =>
      simp only [undefs, List.getElem?_cons_succ, ih]
      have : i < n ↔ i + 1 < n + 1 := by omega
      simp only [this]
theorem undefsT_get : ∀ (fuel n i : Nat), n < 2 ^ fuel → (undefsT fuel n).get i = if i < n then some undefS else none
  | 0, n, i, h => by
    have : n = 0 := by simpa using h
    subst this
    simp only [Nat.not_lt_zero, if_false]
    rfl
  | f + 1, 0, i, h => by
    simp only [Nat.not_lt_zero, if_false]
    rfl
  | f + 1, n + 1, 0, h => by
    simp only [Nat.zero_lt_succ, if_true]
    rfl
  | f + 1, n + 1, i + 1, h => by
    have h2 : 2 ^ (f + 1) = 2 * 2 ^ f := by rw [Nat.pow_succ, Nat.mul_comm]
    have h1 := undefsT_get f ((n + 1) / 2) (i / 2) (by omega)
    have h3 := undefsT_get f (n / 2) (i / 2) (by omega)
    show Nat.rec (motive := fun _ => Option SV) ((undefsT f ((n + 1) / 2)).get (i / 2)) (fun _ _ => (undefsT f (n / 2)).get (i / 2)) (i % 2) = _
    rw [h1, h3]
    rcases Nat.mod_two_eq_zero_or_one i with hi | hi <;> rw [hi]
    · show (if i / 2 < (n + 1) / 2 then some undefS else none) = _
      have : i / 2 < (n + 1) / 2 ↔ i + 1 < n + 1 := by omega
      simp only [this]
    · show (if i / 2 < n / 2 then some undefS else none) = _
      have : i / 2 < n / 2 ↔ i + 1 < n + 1 := by omega
      simp only [this]
theorem undefsT_rep {fuel n : Nat} (h : n < 2 ^ fuel) : rep (undefsT fuel n) (undefs n) := fun i => by rw [undefsT_get _ _ _ h, undefs_get]
noncomputable def setsQ {β : Type} (args : List SV) : Nat → T → (T → Option β) → Option β :=
  List.rec (motive := fun _ => Nat → T → (T → Option β) → Option β) (fun _ t k => k t) (fun x _ ih i t k => T.setK x t i fun t => ih (Nat.succ i) t k) args
/-- The temporaries of a call. -/
noncomputable def padQ {β : Type} (args : List SV) (n : Nat) (k : T → Option β) : Option β :=
  Bool.rec (motive := fun _ => Option β) none (Bool.rec (motive := fun _ => Option β) none (setsQ args 0 (undefsT 10 n) k) (Nat.ble args.length n)) (Nat.blt n 1000)
theorem setsQ_eq {β : Type} : ∀ (args pre : List SV) (m : Nat) (g : T) (k : T → Option β) (r : β), rep g (pre ++ undefs m) → args.length ≤ m → setsQ args pre.length g k = some r → ∃ g', rep g' (pre ++ args ++ undefs (m - args.length)) ∧ k g' = some r
  | [], pre, m, g, k, r, hg, _, h => ⟨g, by simpa using hg, h⟩
  | x :: args, pre, m, g, k, r, hg, hl, h => by
    have h' : T.setK x g pre.length (fun t => setsQ args (Nat.succ pre.length) t k) = some r := h
    rw [T.setK_eq] at h'
    cases m with
    | zero => simp at hl
    | succ m =>
      have hset := hg.put (some pre.length) x
      have e : Sx.put (some pre.length) x (pre ++ undefs (m + 1)) = (pre ++ [x]) ++ undefs m := by
        simp only [Sx.put, undefs]
        rw [List.set_append_right _ _ (Nat.le_refl _)]
        simp
      rw [e] at hset
      obtain ⟨g', h1, h2⟩ := setsQ_eq args (pre ++ [x]) m _ k r hset (by simpa using hl) (by rw [List.length_append]; exact h')
      refine ⟨g', ?_, h2⟩
      have : m + 1 - (x :: args).length = m - args.length := by simp
      rw [this]
      simpa using h1
theorem padQ_spec {β : Type} {args : List SV} {n : Nat} {k : T → Option β} {r : β} (h : padQ args n k = some r) : ∃ g, rep g (args ++ undefs (n - args.length)) ∧ k g = some r := by
  unfold padQ at h
  cases h1 : Nat.blt n 1000 with
  | false => rw [h1] at h; cases h
  | true =>
    cases h2 : Nat.ble args.length n with
    | false => rw [h1, h2] at h; cases h
    | true =>
      rw [h1, h2] at h
      have hn : n < 2 ^ 10 := by
        have := Nat.le_of_ble_eq_true h1
        omega
      obtain ⟨g, h3, h4⟩ := setsQ_eq args [] n (undefsT 10 n) k r (undefsT_rep hn) (Nat.le_of_ble_eq_true h2) h
      exact ⟨g, by simpa using h3, h4⟩
noncomputable def resultQ (P : Program) (h : H) (t : T) : ResultVar → Option SV
  | .tmp i => t.get i
  | .cell a ty => match t.get a with
    | some (.ptr (some (b, o))) => loadS P h ty b o
    | _ => none
noncomputable def resultsQ (P : Program) (h : H) (t : T) : List ResultVar → Option (List SV)
  | [] => some []
  | r :: rs => match resultQ P h t r, resultsQ P h t rs with
    | some v, some vs => some (v :: vs)
    | _, _ => none
theorem resultsQ_eq {P : Program} {h : H} {g : T} {t : List SV} (hg : rep g t) : ∀ rs, resultsQ P h g rs = resultsS P h t rs
  | [] => rfl
  | r :: rs => by
    have h1 : resultQ P h g r = resultS P h t r := by cases r <;> simp only [resultQ, resultS, hg _] <;> rfl
    simp only [resultsQ, resultsS, h1, resultsQ_eq hg rs]
    rfl
variable (P)
noncomputable def bodyQ (same : Nat → Bool) (draws : DrawsQ) (fuel : Nat) (call : Caller) (fn : Func) (args : List SV) (σ : SW) : Option (SV × SW) :=
  bindQ fn.body fun c => padQ args fn.ntmps fun t => bind3 (codeQ P same call draws fuel c t σ) fun x t σ => match x with
    | .exit _ => none
    | _ => match resultsQ P σ.h t fn.results.toList with
      | some [v] => some (v, σ)
      | some vs => some (.tuple vs, σ)
      | none => none
noncomputable def callQ (same : Nat → Bool) (hook : Nat → Option (List SV → SW → Option (SV × SW))) (draws : DrawsQ) (fuel : Nat) (n : Nat) : Caller :=
  Nat.rec (motive := fun _ => Caller) (fun _ _ _ => none) (fun _ ih f args σ => Option.rec (motive := fun _ => Option (SV × SW)) (bindQ P.funcs[f]? fun fn => bodyQ P same draws fuel ih fn args σ) (fun g => g args σ) (hook f)) n
variable {P}
/-- **CALLS.** -/
theorem callQ_spec {same : Nat → Bool} {hook : Nat → Option (List SV → SW → Option (SV × SW))} {draws : DrawsQ} (hs : SameOK P same) (hh : HookOK P hook) (hd : DrawsQOK P draws) (hn : NamesOK P) (fuel : Nat) : ∀ n, CallOK P (callQ P same hook draws fuel n)
  | 0, f, args, σ, v, σ', h => by cases h
  | n + 1, f, args, σ, v, σ', h => by
    have ih := callQ_spec hs hh hd hn fuel n
    have h' : Option.rec (motive := fun _ => Option (SV × SW)) (bindQ P.funcs[f]? fun fn => bodyQ P same draws fuel (callQ P same hook draws fuel n) fn args σ) (fun g => g args σ) (hook f) = some (v, σ') := h
    clear h
    cases hg : hook f with
    | some g =>
      simp only [hg] at h'
      obtain ⟨h1, h2⟩ := hh f g hg
      exact ⟨h1, h2 args σ v σ' h'⟩
    | none =>
      simp only [hg] at h'
      obtain ⟨fn, hf, h⟩ := bindQ_some h'
      obtain ⟨c, hb, h⟩ := bindQ_some h
      refine ⟨enters_of hf hb hn, fun {B} ρ us w hus hw => ?_⟩
      obtain ⟨g0, hg0, h⟩ := padQ_spec h
      obtain ⟨x, g1, σ1, hcode, h⟩ := bind3_some h
      obtain ⟨t1, hg1, hwp⟩ := codeQ_spec hs ih hd fuel c hg0 hcode
      have ht : TR ρ (args ++ undefs (fn.ntmps - args.length)) { tmps := us.toArray ++ Array.replicate (fn.ntmps - us.toArray.size) undef, defers := [] } := by
        refine ⟨?_, rfl⟩
        have hl := hus.length
        simp only [Array.toList_append, Array.toList_replicate, List.size_toArray]
        rw [← hl]
        exact hus.append (VRs.undefs _)
      refine calls_of_wp hf hb (wp_mono (hwp ρ _ w ht hw) ?_)
      rintro e a' w' ⟨rfl, ρ', hle, ht', hw'⟩
      simp only [resultsQ_eq hg1] at h
      have fin : ∀ {v'}, (match resultsS P σ1.h t1 fn.results.toList with
          | some [v] => some (v, σ1)
          | some vs => some (.tuple vs, σ1)
          | none => none) = some (v', σ') → a'.defers = [] ∧ ∃ u, (results fn a'.tmps).run P w' = .ok u w' ∧ ∃ ρ' u', ρ.le ρ' ∧ Ending.returned u = .returned u' ∧ VR ρ' v' u' ∧ WR B ρ' σ' w' := by
        intro v' h
        refine ⟨ht'.2, ?_⟩
        have hres : ∀ us' : List Value, (fn.results.toList.mapM (resSem a'.tmps)).run P w' = .ok us' w' → (results fn a'.tmps).run P w' = .ok (if h : us'.toArray.size = 1 then us'.toArray[0] else .tuple us'.toArray) w' := fun us' hu => by
          rw [results_eq]
          simp only [Array.mapM_eq_mapM_toList, Sem.run_bind, Sem.run_map, hu, Result.andThen_ok, Sem.run_pure]
        split at h
        · rename_i v1 hr
          injection h with h; injection h with e1 e2; subst e1; subst e2
          obtain ⟨us', h1, h2⟩ := resultsS_spec (P := P) ht' hw' hr
          obtain ⟨u, rfl, hu⟩ := VRs.one h2
          exact ⟨u, by rw [hres _ h1]; simp, ρ', u, hle, rfl, hu, hw'⟩
        · rename_i vs hne1 hr
          injection h with h; injection h with e1 e2; subst e1; subst e2
          obtain ⟨us', h1, h2⟩ := resultsS_spec (P := P) ht' hw' hr
          have hl := h2.length
          have hn1 : us'.length ≠ 1 := by
            intro h1
            rw [h1] at hl
            match vs, hl with
            | [v], _ => exact hne1 v rfl
          exact ⟨.tuple us'.toArray, by rw [hres _ h1]; simp [hn1], ρ', _, hle, rfl, .tuple h2, hw'⟩
        · cases h
      cases x with
      | exit i => cases h
      | normal => exact fin h
      | ret => exact fin h
end Go.Proofs.YtamiebojjinhcaaGreatDoor.Sx
