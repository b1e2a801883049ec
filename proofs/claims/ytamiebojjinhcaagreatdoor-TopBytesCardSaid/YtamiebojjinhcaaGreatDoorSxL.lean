/-
  A walk that the kernel reckons: values, objects and worlds whose blocks have names of their own; a run over them, as a plain function.
  What such values and worlds stand for: values of the model, its heap; blocks by a map of their names.
  The walk's small steps: what the model's own steps come to at what such values stand for.
-/
import Derived.WalkKit
import Derived.Orders
import Derived.Below
import Derived.MapKept
import Derived.Deep.MidRow
import Derived.Lib.Builder
import Derived.Lib.UnsafeStr
import Derived.Laws.StructEq
import Derived.Laws.BytesString
import Derived.LaidEqlPtr
set_option linter.unusedVariables false
namespace Go.Proofs.YtamiebojjinhcaaGreatDoor.Sx

/-- A slice's room: known, or not (then: cells an element). -/
inductive Cap where
  | known (c : Nat)
  | unk (s : Nat)

inductive SV where
  | bool (b : Bool)
  | int (k : IntKind) (n : Int)
  | flt (k : FloatKind) (b : Nat)
  | cpx (k : FloatKind) (a b : Nat)
  | str (l : List Nat)
  | ptr (a : Option (Nat × Nat))
  | sl (a : Option (Nat × Nat)) (l : Nat) (c : Cap)
  | map (r : Option Nat)
  | func (f : Nat) (first captured : List SV)
  | nilFunc
  | iface (t : Nat) (v : SV)
  | nilIface
  | agg (cs : List SV)
  | tuple (vs : List SV)

inductive SO where
  | cells (e : Nat) (x : Bool) (cs : List SV)
  | map (es : List (SV × SV × Nat)) (clock : Nat)
  | dead
  | hole
  /-- An array that is but read. -/
  | tab (cs : List SV)

/-- Objects by their names: a tree over the name's digits (1, 2). -/
inductive H where
  | nil
  | node (o : Option SO) (l r : H)

def H.get : H → Nat → Option SO
  | .nil, _ => none
  | .node o l r, i => match i with
    | 0 => o
    | .succ j => match j % 2 with
      | 0 => l.get (j / 2)
      | .succ _ => r.get (j / 2)

def H.set : Nat → H → Nat → SO → H
  | 0, h, _, _ => h
  | .succ n, .nil, i, v => match i with
    | 0 => .node (some v) .nil .nil
    | .succ j => match j % 2 with
      | 0 => .node none (H.set n .nil (j / 2) v) .nil
      | .succ _ => .node none .nil (H.set n .nil (j / 2) v)
  | .succ n, .node o l r, i, v => match i with
    | 0 => .node (some v) l r
    | .succ j => match j % 2 with
      | 0 => .node o (H.set n l (j / 2) v) r
      | .succ _ => .node o l (H.set n r (j / 2) v)

structure SW where
  h : H
  n : Nat

inductive Delta where
  | none
  | new (o : SO)
  | upd (i : Nat) (o : SO)
  | grow (i : Nat) (o : SO)

def deep : Nat := 20

def SW.app (σ : SW) : Delta → SW
  | .none => σ
  | .new o => ⟨H.set deep σ.h σ.n o, σ.n + 1⟩
  | .upd i o => ⟨H.set deep σ.h i o, σ.n⟩
  | .grow i o => ⟨H.set deep (H.set deep σ.h i .dead) σ.n o, σ.n + 1⟩

/-! ### What the kernel is to reckon out before it goes on -/
section force
universe u
variable {β : Type u}
def fN (n : Nat) (k : Nat → β) : β := match n with
  | 0 => k 0
  | .succ m => k (.succ m)
def fI (n : Int) (k : Int → β) : β := match n with
  | .ofNat m => fN m fun m => k (.ofNat m)
  | .negSucc m => fN m fun m => k (.negSucc m)
def fB (b : Bool) (k : Bool → β) : β := match b with
  | true => k true
  | false => k false
def fNs : List Nat → (List Nat → β) → β
  | [], k => k []
  | x :: xs, k => fN x fun x => fNs xs fun xs => k (x :: xs)
def fA (a : Option (Nat × Nat)) (k : Option (Nat × Nat) → β) : β := match a with
  | none => k none
  | some (b, o) => fN b fun b => fN o fun o => k (some (b, o))
def fCell (v : SV) (k : SV → β) : β := match v with
  | .bool b => fB b fun b => k (.bool b)
  | .int t n => fI n fun n => k (.int t n)
  | .str l => fNs l fun l => k (.str l)
  | .ptr a => fA a fun a => k (.ptr a)
  | .sl a l c => fA a fun a => fN l fun l => match c with
    | .known c => fN c fun c => k (.sl a l (.known c))
    | .unk s => fN s fun s => k (.sl a l (.unk s))
  | .flt t b => fN b fun b => k (.flt t b)
  | .cpx t a b => fN a fun a => fN b fun b => k (.cpx t a b)
  | v => k v
def fCells : List SV → (List SV → β) → β
  | [], k => k []
  | x :: xs, k => fCell x fun x => fCells xs fun xs => k (x :: xs)
def fV (v : SV) (k : SV → β) : β := match v with
  | .agg cs => fCells cs fun cs => k (.agg cs)
  | .tuple cs => fCells cs fun cs => k (.tuple cs)
  | v => fCell v k
/-- The list alone. -/
def fL {α : Type} : List α → (List α → β) → β
  | [], k => k []
  | x :: xs, k => fL xs fun xs => k (x :: xs)
def fO (o : SO) (k : SO → β) : β := match o with
  | .cells e x cs => fCells cs fun cs => k (.cells e x cs)
  | .map es c => fL es fun es => fN c fun c => k (.map es c)
  | .dead => k .dead
  | .hole => k .hole
  | .tab cs => k (.tab cs)
def H.setK : Nat → H → Nat → SO → (H → β) → β
  | 0, h, _, _, k => k h
  | .succ n, .nil, i, v, k => match i with
    | 0 => k (.node (some v) .nil .nil)
    | .succ j => match j % 2 with
      | 0 => H.setK n .nil (j / 2) v fun l => k (.node none l .nil)
      | .succ _ => H.setK n .nil (j / 2) v fun r => k (.node none .nil r)
  | .succ n, .node o l r, i, v, k => match i with
    | 0 => k (.node (some v) l r)
    | .succ j => match j % 2 with
      | 0 => H.setK n l (j / 2) v fun l => k (.node o l r)
      | .succ _ => H.setK n r (j / 2) v fun r => k (.node o l r)
def SW.appK (σ : SW) (d : Delta) (k : SW → β) : β := match d with
  | .none => k σ
  | .new o => fO o fun o => H.setK deep σ.h σ.n o fun h => fN (.succ σ.n) fun n => k ⟨h, n⟩
  | .upd i o => fO o fun o => H.setK deep σ.h i o fun h => k ⟨h, σ.n⟩
  | .grow i o => fO o fun o => H.setK deep σ.h i .dead fun h => H.setK deep h σ.n o fun h => fN (.succ σ.n) fun n => k ⟨h, n⟩
def setK : List SV → Nat → SV → (List SV → β) → β
  | [], _, _, k => k []
  | x :: xs, 0, v, k => k (v :: xs)
  | x :: xs, .succ i, v, k => setK xs i v fun xs => k (x :: xs)
def putK (d : Option Nat) (v : SV) (t : List SV) (k : List SV → β) : β := match d with
  | none => k t
  | some i => setK t i v k
end force
def put (d : Option Nat) (v : SV) (t : List SV) : List SV := match d with
  | none => t
  | some i => t.set i v

/-! ### The model's values as such values -/
def ofCell : Value → Option SV
  | .bool b => some (.bool b)
  | .int k n => some (.int k n)
  | .float k b => some (.flt k b)
  | .complex k a b => some (.cpx k a b)
  | .string s => some (.str (s.data.toList.map UInt8.toNat))
  | .pointer none => some (.ptr none)
  | .slice none l c => some (.sl none l (.known c))
  | .map none => some (.map none)
  | .nilFunc => some .nilFunc
  | .nilIface => some .nilIface
  | _ => none
def ofCells : List Value → Option (List SV)
  | [] => some []
  | v :: vs => match ofCell v, ofCells vs with
    | some s, some ss => some (s :: ss)
    | _, _ => none
def ofVal : Value → Option SV
  | .agg cs => match ofCells cs.toList with
    | some l => some (.agg l)
    | none => none
  | v => ofCell v
def SV.cells : SV → List SV
  | .agg cs => cs
  | v => [v]

section
variable (P : Program)
def SV.one : SV → Bool
  | .agg _ | .tuple _ => false
  | _ => true
def allOne : List SV → Bool
  | [] => true
  | v :: vs => v.one && allOne vs
def zeroS (t : Nat) : Option SV := match P.info? t with
  | some i => match i.zero with
    | some v => ofVal v
    | none => none
  | none => none
def sizeS (t : Nat) : Option Nat := match P.info? t with
  | some i => some i.size
  | none => none
def isAggS (t : Nat) : Option Bool := match P.underlying t with
  | some (.struct _) | some (.array _ _) => some true
  | some _ => some false
  | none => none
def ev (t : List SV) : Operand → Option SV
  | .tmp i => t[i]?
  | .const v => ofVal v
  | .global g => match g with
    | 0 => some (.ptr (some (0, 0)))
    | .succ _ => none
  | .func f => some (.func f [] [])
def evs (t : List SV) : List Operand → Option (List SV)
  | [] => some []
  | x :: xs => match ev t x, evs t xs with
    | some v, some vs => some (v :: vs)
    | _, _ => none

/-- `n` cells from `o` on. -/
def part (cs : List SV) (o n : Nat) : Option (List SV) := match n with
  | 0 => some []
  | .succ n => match cs[o]?, part cs (o + 1) n with
    | some v, some vs => some (v :: vs)
    | _, _ => none
/-- The cells from `o` on are these. -/
def lay (cs : List SV) (o : Nat) (vs : List SV) : Option (List SV) := match cs, o, vs with
  | cs, _, [] => some cs
  | [], _, _ :: _ => none
  | c :: cs, .succ o, vs => match lay cs o vs with
    | some cs => some (c :: cs)
    | none => none
  | _ :: cs, 0, v :: vs => match lay cs 0 vs with
    | some cs => some (v :: cs)
    | none => none
def fillS (place : Nat → Option (Nat × Nat)) (cells : List SV) : List (Nat × SV) → Option (List SV)
  | [] => some cells
  | (i, v) :: rest => match place i with
    | none => none
    | some (off, size) => if v.cells.length = size ∧ off + size ≤ cells.length then (match lay cells off v.cells with
      | some cells => fillS place cells rest
      | none => none) else none
def partT (t : Nat) (cs : List SV) (off : Nat) : Option SV := match isAggS P t, sizeS P t with
  | some true, some n => match part cs off n with
    | some l => some (.agg l)
    | none => none
  | some false, _ => cs[off]?
  | _, _ => none
def loadS (h : H) (t : Nat) (b o : Nat) : Option SV := match h.get b with
  | some (.cells _ _ cs) => partT P t cs o
  | some (.tab cs) => partT P t cs o
  | _ => none
def repeatL (z : List SV) : Nat → List SV
  | 0 => []
  | .succ n => z ++ repeatL z n

def eqL : List Nat → List Nat → Bool
  | [], [] => true
  | a :: x, b :: y => Nat.beq a b && eqL x y
  | _, _ => false
def strOp (op : BinOp) (x y : List Nat) : Option SV := match op with
  | .add => if x.length + y.length ≤ 1000000 then some (.str (x ++ y)) else none
  | .eql => some (.bool (eqL x y))
  | .neq => some (.bool (!eqL x y))
  | _ => none
def intOp (op : BinOp) (k : IntKind) (x y : Int) : Option SV := match op with
  | .add => some (.int k (k.wrap (x + y)))
  | .sub => some (.int k (k.wrap (x - y)))
  | .mul => some (.int k (k.wrap (x * y)))
  | .quo => if y = 0 then none else some (.int k (k.wrap (x.tdiv y)))
  | .rem => if y = 0 then none else some (.int k (x.tmod y))
  | .and => some (.int k (k.wrap (BitVec.ofInt k.bits x &&& BitVec.ofInt k.bits y).toNat))
  | .or => some (.int k (k.wrap (BitVec.ofInt k.bits x ||| BitVec.ofInt k.bits y).toNat))
  | .xor => some (.int k (k.wrap (BitVec.ofInt k.bits x ^^^ BitVec.ofInt k.bits y).toNat))
  | .eql => some (.bool (decide (x = y)))
  | .neq => some (.bool (!decide (x = y)))
  | .lss => some (.bool (decide (x < y)))
  | .leq => some (.bool (decide (x ≤ y)))
  | .gtr => some (.bool (decide (x > y)))
  | .geq => some (.bool (decide (x ≥ y)))
  | _ => none
/-- Whether two values are the same: those of which one is nothing, booleans. -/
def sameS (d : TypeDesc) (x y : SV) : Option Bool := match d, x, y with
  | .bool, .bool a, .bool b => some (a == b)
  | .pointer _, .ptr none, .ptr none => some true
  | .pointer _, .ptr none, .ptr (some _) => some false
  | .pointer _, .ptr (some _), .ptr none => some false
  | .pointer e, .ptr (some (a, o)), .ptr (some (b, q)) => match Nat.beq a b, sizeS P e with
    | true, some (.succ _) => some (Nat.beq o q)
    | _, _ => none
  | .interface _, .nilIface, .iface _ _ => some false
  | .interface _, .iface _ _, .nilIface => some false
  | .slice _, .sl none _ _, .sl none _ _ => some true
  | .slice _, .sl none _ _, .sl (some _) _ _ => some false
  | .slice _, .sl (some _) _ _, .sl none _ _ => some false
  | .func _ _ _, .nilFunc, .func _ _ _ => some false
  | .func _ _ _, .func _ _ _, .nilFunc => some false
  | _, _, _ => none
def binS (op : BinOp) (t : Nat) (x y : SV) : Option SV := match x, y with
  | .int k a, .int k' b => match op with
    | .shl => if b < 0 then none else some (.int k (k.wrap (a * 2 ^ min b.toNat k.bits)))
    | .shr => if b < 0 then none else some (.int k (a.fdiv (2 ^ min b.toNat k.bits)))
    | op => if k = k' then intOp op k a b else none
  | .str a, .str b => strOp op a b
  | x, y => match op, P.underlying t with
    | .eql, some d => match sameS P d x y with
      | some b => some (.bool b)
      | none => none
    | .neq, some d => match sameS P d x y with
      | some b => some (.bool (!b))
      | none => none
    | _, _ => none
def unS (op : UnOp) (x : SV) : Option SV := match op, x with
  | .neg, .int k n => some (.int k (k.wrap (0 - n)))
  | .xor, .int k n => some (.int k (k.wrap (BitVec.ofInt k.bits (if k.signed then -1 else k.max) ^^^ BitVec.ofInt k.bits n).toNat))
  | .not, .bool b => some (.bool (!b))
  | _, _ => none
/-- The numbers that `n` cells hold from `o` on, all bytes. -/
def bytesIn (cs : List SV) : Option (List Nat) := match cs with
  | [] => some []
  | .int .u8 b :: cs => match bytesIn cs with
    | some l => some ((b.toNat % 256) :: l)
    | none => none
  | _ => none
/-- The same, each below 256 as it stands. -/
def bytesExact (cs : List SV) : Option (List Nat) := match cs with
  | [] => some []
  | .int .u8 (.ofNat b) :: cs => if b < 256 then (match bytesExact cs with
    | some l => some (b :: l)
    | none => none) else none
  | _ => none
def convS (s d : TypeDesc) (eh : Option TypeDesc) (x : SV) (h : H) : Option SV := match s, d, x with
  | _, .int k, .int _ n => some (.int k (k.wrap n))
  | _, .float k, .int _ n => some (.flt k (k.nearest n))
  | _, .int k, .flt q b => match (q.decode b).toInt .zero with
    | some n => if k.min ≤ n ∧ n ≤ k.max then some (.int k n) else none
    | none => none
  | .string, .string, .str l => some (.str l)
  | .slice _, .string, .sl a l _ => match eh, a with
    | some (.int .u8), none => some (.str [])
    | some (.int .u8), some (b, o) => match h.get b with
      | some (.cells _ _ cs) => match part cs o l with
        | some vs => match bytesIn vs with
          | some r => some (.str r)
          | none => none
        | none => none
      | _ => none
    | _, _ => none
  | _, _, _ => none
def elemT (d : TypeDesc) : Option TypeDesc := match d with
  | .slice e => P.underlying e
  | _ => none
/-- Between pointers and bare ones. -/
def convPtr (s d : TypeDesc) (x : SV) (h : H) : Option SV := match s, d, x with
  | .pointer _, .unsafePointer, .ptr none => some x
  | .unsafePointer, .pointer _, .ptr none => some x
  | .pointer t, .unsafePointer, .ptr (some (b, o)) => match h.get b, sizeS P t with
    | some (.cells _ _ cs), some (.succ _) => if o < cs.length then some x else none
    | _, _ => none
  | .unsafePointer, .pointer u, .ptr (some (b, o)) => match h.get b, sizeS P u with
    | some (.cells e false cs), some (.succ _) => if liesAt P P.depth e (cs.length / P.cellsOf e) o u 1 then some x else none
    | _, _ => none
  | _, _, _ => none
def convT (s d : Nat) (x : SV) (h : H) : Option SV := match P.underlying s, P.underlying d with
  | some (.pointer t), some .unsafePointer => convPtr P (.pointer t) .unsafePointer x h
  | some .unsafePointer, some (.pointer t) => convPtr P .unsafePointer (.pointer t) x h
  | some sd, some dd => convS sd dd (elemT P sd) x h
  | _, _ => none
/-- A bound of a slice: from 0 to `y`. -/
def boundS (x : SV) (y : Nat) : Option Nat := match x with
  | .int _ i => match i with
    | .ofNat n => if n ≤ y then some n else none
    | .negSucc _ => none
  | _ => none
def capOk (c : Cap) (h : Nat) : Bool := match c with
  | .known c => Nat.ble h c
  | .unk _ => true
def sliceS (d : TypeDesc) (lo hi mx : Bool) (xs : List SV) : Option SV := match d, mx, xs with
  | .string, false, .str s :: r =>
    match (match lo, hi, r with
      | true, true, [a, b] => (match boundS b s.length with
        | some h => (match boundS a h with
          | some l => some (l, h)
          | none => none)
        | none => none)
      | true, false, [a] => (match boundS a s.length with
        | some l => some (l, s.length)
        | none => none)
      | false, true, [b] => (match boundS b s.length with
        | some h => some (0, h)
        | none => none)
      | false, false, [] => some (0, s.length)
      | _, _, _ => none) with
    | some (l, h) => some (.str ((s.drop l).take (h - l)))
    | none => none
  | .slice _, false, .sl a n c :: r => match lo, hi, r with
    | false, true, [b] => match boundS b n with
      | some h => if capOk c h then some (.sl a h c) else none
      | none => none
    | false, false, [] => some (.sl a n c)
    | true, false, [b] => match boundS b n with
      | some 0 => some (.sl a n c)
      | _ => none
    | _, _, _ => none
  | .slice _, true, .sl a n c :: r => match lo, hi, r with
    | false, true, [b, m] => match boundS m 0, boundS b 0 with
      | some _, some _ => some (.sl a 0 (.known 0))
      | _, _ => none
    | _, _, _ => none
  | _, _, _ => none
/-- The address of an array that is sliced whole. -/
def sliceArr (n : Nat) (z : Option Nat) (lo hi mx : Bool) (x : SV) : Option SV := match z, lo, hi, mx, x with
  | some _, false, false, false, .ptr (some a) => some (.sl (some a) n (.known n))
  | _, _, _, _, _ => none
def fieldAtS (t : Nat) (a : SV) (f : Nat) : Option SV := match P.underlying t, a with
  | some (.struct fs), .ptr (some (b, o)) => match fs[f]? with
    | some fd => match sizeS P fd.type with
      | some (.succ _) => some (.ptr (some (b, o + fd.offset)))
      | _ => none
    | none => none
  | _, _ => none
def fieldS (t : Nat) (x : SV) (f : Nat) : Option SV := match P.underlying t, x with
  | some (.struct fs), .agg cs => match fs[f]? with
    | some fd => partT P fd.type cs fd.offset
    | none => none
  | _, _ => none
def idxS (i : SV) (n : Nat) : Option Nat := match i with
  | .int _ j => match j with
    | .ofNat m => if m < n then some m else none
    | .negSucc _ => none
  | _ => none
def indexAtS (t : Nat) (x i : SV) : Option SV := match P.underlying t, x with
  | some (.array n e), .ptr (some (b, o)) => match idxS i n, sizeS P e with
    | some j, some s => some (.ptr (some (b, o + j * s)))
    | _, _ => none
  | some (.slice e), .sl (some (b, o)) n _ => match idxS i n, sizeS P e with
    | some j, some s => some (.ptr (some (b, o + j * s)))
    | _, _ => none
  | _, _ => none
def indexS (t : Nat) (x i : SV) : Option SV := match P.underlying t, x with
  | some (.array n e), .agg cs => match idxS i n, sizeS P e with
    | some j, some s => partT P e cs (j * s)
    | _, _ => none
  | some .string, .str l => match idxS i l.length with
    | some j => match l[j]? with
      | some b => some (.int .u8 (.ofNat b))
      | none => none
    | none => none
  | _, _ => none
/-- Are the fields of a key numbers, one behind the other? -/
def intFields : List Field → Nat → Bool
  | [], _ => true
  | f :: fs, k => (match P.underlying f.type with
    | some (.int _) => true
    | _ => false) && (f.name != "_") && Nat.beq f.offset k && intFields fs (.succ k)
/-- May values of this type be keys here: texts (false), structs of numbers (true)? -/
def keyKind (t : Nat) : Option Bool := match P.underlying t with
  | some .string => some false
  | some (.struct fs) => if intFields P fs.toList 0 && !P.stoodInHeld t then some true else none
  | _ => none
def keyCells : List SV → List SV → Option Bool
  | [], [] => some true
  | .int k a :: xs, .int k' b :: ys => match keyCells xs ys with
    | some r => if k = k' then some (decide (a = b) && r) else none
    | none => none
  | _, _ => none
def keyS (kd : Bool) (x y : SV) : Option Bool := match kd, x, y with
  | true, .agg a, .agg b => keyCells a b
  | false, .str a, .str b => some (eqL a b)
  | _, _, _ => none
def findS (kd : Bool) (k : SV) : List (SV × SV × Nat) → Option (Option SV)
  | [] => some none
  | (k', v, _) :: es => match keyS kd k k' with
    | some true => some (some v)
    | some false => findS kd k es
    | none => none
/-- Is it a key? -/
def keyOk (kt : Nat) (kd : Bool) (k : SV) : Bool := match kd, k with
  | false, .str _ => true
  | true, .agg cs => match P.underlying kt with
    | some (.struct fs) => Nat.beq cs.length fs.size && (match keyCells cs cs with
      | some _ => true
      | none => false)
    | _ => false
  | _, _ => false
def lookupS (t : Nat) (m k : SV) (ok : Bool) (h : H) : Option SV := match P.underlying t, m with
  | some (.map kt e), .map r =>
    match (match r with
      | none => some []
      | some b => match h.get b with
        | some (.map es _) => some es
        | _ => none) with
    | some es => match keyKind P kt with
      | some kd => if keyOk P kt kd k then (match findS kd k es, zeroS P e with
        | some (some v), _ => some (if ok then .tuple [v, .bool true] else v)
        | some none, some z => some (if ok then .tuple [z, .bool false] else z)
        | _, _ => none) else none
      | none => none
    | none => none
  | _, _ => none
def eraseS (kd : Bool) (k : SV) : List (SV × SV × Nat) → Option (List (SV × SV × Nat))
  | [] => none
  | (k', u, c) :: es => match keyS kd k k' with
    | some true => some es
    | some false => match eraseS kd k es with
      | some es => some ((k', u, c) :: es)
      | none => none
    | none => none
def lenS (d : TypeDesc) (x : SV) (h : H) : Option SV := match d, x with
  | .string, .str l => some (.int .i64 (.ofNat l.length))
  | .slice _, .sl _ n _ => some (.int .i64 (.ofNat n))
  | .map _ _, .map none => some (.int .i64 0)
  | .map _ _, .map (some b) => match h.get b with
    | some (.map es _) => some (.int .i64 (.ofNat es.length))
    | _ => none
  | _, _ => none
/-- The cells that are appended. -/
def tailS (h : H) (s : Nat) (x : SV) : Option (Nat × List SV) := match x with
  | .str l => if s = 1 then some (l.length, l.map fun b => .int .u8 (.ofNat b)) else none
  | .sl none 0 _ => some (0, [])
  | .sl (some (b, o)) n _ => match h.get b with
    | some (.cells _ _ cs) => match part cs o (n * s) with
      | some l => some (n, l)
      | none => none
    | _ => none
  | _ => none
/-- The cells to which they are. -/
def headS (h : H) (s : Nat) (a : Option (Nat × Nat)) (l : Nat) : Option (List SV) := match a, l with
  | _, 0 => some []
  | some (b, o), .succ l => match h.get b with
    | some (.cells _ _ cs) => part cs o (.succ l * s)
    | _ => none
  | none, .succ _ => none
def small : Nat := 1000000
/-- With `m` cells' worth `new` behind a slice: `e` the elements, `sz` cells each. -/
def growS (n : Nat) (h : H) (e sz : Nat) (a : Option (Nat × Nat)) (l : Nat) (c : Cap) (m : Nat) (new : List SV) : Option (SV × Delta) := match c, a with
  | .known c, a => if l + m ≤ c then (match a with
      | none => some (.sl none (l + m) (.known c), .none)
      | some _ => none)
    else match headS h sz a l with
      | some old => some (.sl (some (n, 0)) (l + m) (.unk sz), .new (.cells e true (old ++ new)))
      | none => none
  | .unk s, some (b, 0) => if s = sz then (match h.get b with
      | some (.cells e' true cs) => if e' = e ∧ allOne new = true then (match part cs 0 (l * sz) with
        | some old => some (.sl (some (n, 0)) (l + m) (.unk sz), .grow b (.cells e true (old ++ new)))
        | none => none) else none
      | _ => none) else none
  | _, _ => none
def tailT (d : Option TypeDesc) : Bool := match d with
  | some (.slice _) | some .string => true
  | _ => false
def appendS (n : Nat) (ts : List Nat) (h : H) (s x : SV) : Option (SV × Delta) := match ts, s with
  | [t, t'], .sl a l c => match P.underlying t with
    | some (.slice e) => match sizeS P e, P.info? e, zeroS P e with
      | some sz, some i, some z => if tailT (P.underlying t') = true ∧ z.cells.length = sz ∧ sz ≠ 0 then (match tailS h sz x with
        | some (m, new) => if l + m ≤ small ∧ i.bytes ≤ small then growS n h e sz a l c m new else none
        | none => none) else none
      | _, _, _ => none
    | _ => none
  | _, _ => none
def toNats : List Int → List Nat := List.map Int.toNat
/-- What reads alone. -/
def pureS (h : H) (op : Op) (vs : List SV) : Option SV := match op, vs with
  | .move _, [v] | .assign _, [v] => some v
  | .pick .., [.bool c, a, b] => some (if c then a else b)
  | .build t ps, vs => match zeroS P t, P.underlying t with
    | some z, some (.struct fs) => match fs.toList.mapM (fun f => (P.info? f.type).map fun i => (f.offset, i.size)) with
      | some pl => match fillS (fun i => pl[i]?) z.cells ((ps.toList.map Prod.fst).zip vs) with
        | some cs => some (.agg cs)
        | none => none
      | none => none
    | some z, some (.array _ e) => match sizeS P e with
      | some n => match fillS (fun i => some (i * n, n)) z.cells ((ps.toList.map Prod.fst).zip vs) with
        | some cs => some (.agg cs)
        | none => none
      | none => none
    | _, _ => none
  | .load t _, [.ptr (some (b, o))] => loadS P h t b o
  | .nilCheck _, [v] => match v with
    | .ptr none | .nilIface | .nilFunc => none
    | v => some v
  | .binOp op t _ _ _, [x, y] => binS P op t x y
  | .unOp op _ _, [x] => unS op x
  | .convert s d _, [x] => convT P s d x h
  | .makeInterface t _, [x] => match P.underlying t with
    | some (.interface _) | none => none
    | some _ => some (.iface t x)
  | .makeFunc (.func f) first captured, vs => some (.func f (vs.take first.size) (vs.drop first.size))
  | .slice t _ lo hi mx, x :: r => match P.underlying t with
    | some (.array n e) => sliceArr n (sizeS P e) lo.isSome hi.isSome mx.isSome x
    | some (.slice e) => match sizeS P e with
      | some _ => sliceS (.slice e) lo.isSome hi.isSome mx.isSome (x :: r)
      | none => none
    | some .string => sliceS .string lo.isSome hi.isSome mx.isSome (x :: r)
    | _ => none
  | .fieldAddr t _ f, [x] => fieldAtS P t x f
  | .field t _ f, [x] => fieldS P t x f
  | .indexAddr t _ _, [x, i] => indexAtS P t x i
  | .index t _ _, [x, i] => indexS P t x i
  | .lookup t _ _ ok, [m, k] => lookupS P t m k ok h
  | .extract _ i, [.tuple vs] => vs[i]?
  | .call { callee := .builtin b, argTypes, .. }, vs => match b, vs with
    | .len, [x] => match argTypes[0]? with
      | some t => match P.underlying t with
        | some d => lenS d x h
        | none => none
      | none => none
    | .min, [.int k x, .int _ y] => some (.int k (if y < x then y else x))
    | .max, [.int k x, .int _ y] => some (.int k (if y > x then y else x))
    | .complex, [.flt k a, .flt k' b] => if k = k' then some (.cpx k a b) else none
    | .real, [.cpx k a _] => some (.flt k a)
    | .imag, [.cpx k _ b] => some (.flt k b)
    | .unsafeSliceData, [.sl none _ _] => some (.ptr none)
    | .unsafeSliceData, [.sl (some a) l c] => match c with
      | .known 0 => none
      | .known (.succ _) => some (.ptr (some a))
      | .unk _ => match l with
        | 0 => none
        | .succ _ => some (.ptr (some a))
    | _, _ => none
  | _, _ => none
def undefS : SV := .tuple []
/-- What makes or changes a block. -/
def effS (σ : SW) (op : Op) (vs : List SV) : Option (SV × Delta) := match op, vs with
  | .alloc e, [] => match zeroS P e with
    | some z => some (.ptr (some (σ.n, 0)), .new (.cells e false z.cells))
    | none => none
  | .box e _, [v] => some (.ptr (some (σ.n, 0)), .new (.cells e false v.cells))
  | .buildSlice t len ps, vs => match P.underlying t with
    | some (.slice e) => match sizeS P e, zeroS P e with
      | some n, some z => if len * n ≤ 10000 ∧ z.cells.length = n ∧ (len * n ≠ 0 ∨ (len = 0 ∧ ps.size = 0)) then (match fillS (fun i => some (i * n, n)) (repeatL z.cells len) ((ps.toList.map Prod.fst).zip vs) with
        | some cs => some (.sl (some (σ.n, 0)) len (.known len), .new (.cells e false cs))
        | none => none) else none
      | _, _ => none
    | _ => none
  | .makeSlice t _ _, [.int _ (.ofNat l), .int _ (.ofNat c)] => match P.underlying t with
    | some (.slice e) => match P.info? e, zeroS P e with
      | some i, some z => if l ≤ c ∧ c ≤ 10000 ∧ i.bytes ≤ 10000 ∧ z.cells.length = i.size then some (.sl (some (σ.n, 0)) l (.known c), .new (.cells e false (repeatL z.cells c))) else none
      | _, _ => none
    | _ => none
  | .makeMap _ none, [] => some (.map (some σ.n), .new (.map [] 0))
  | .store t _ _, [.ptr (some (b, o)), v] => match sizeS P t, σ.h.get b with
    | some n, some (.cells e x cs) => if v.cells.length = n ∧ o + n ≤ cs.length ∧ allOne v.cells = true then (match lay cs o v.cells with
      | some cs => some (undefS, .upd b (.cells e x cs))
      | none => none) else none
    | _, _ => none
  | .convert s d _, [.str l] => match P.underlying s, P.underlying d with
    | some .string, some (.slice e) => match P.underlying e with
      | some (.int .u8) => some (.sl (some (σ.n, 0)) l.length (.unk 1), .new (.cells e true (l.map fun b => .int .u8 (.ofNat b))))
      | _ => none
    | _, _ => none
  | .mapUpdate t _ _ _, [.map (some b), k, v] => match P.underlying t, σ.h.get b with
    | some (.map kt _), some (.map es c) => match keyKind P kt with
      | some kd => if keyOk P kt kd k then (match findS kd k es with
        | some none => some (undefS, .upd b (.map (es ++ [(k, v, c)]) (.succ c)))
        | _ => none) else none
      | none => none
    | _, _ => none
  | .call { callee := .builtin .append, argTypes, .. }, [s, x] => if argTypes.size = 2 then appendS P σ.n argTypes.toList σ.h s x else none
  | .call { callee := .builtin .unsafeString, argTypes, .. }, [.ptr a, .int k n] => match n with
    | .ofNat (.succ n) => match a, argTypes[0]? with
      | some (b, 0), some pt => match P.underlying pt, σ.h.get b with
        | some (.pointer u), some (.cells e _ cs) => match P.underlying u, sizeS P e with
          | some (.int .u8), some 1 => if e = u ∧ k = .i64 ∧ argTypes.size = 2 ∧ n ≤ 1000000 then (match part cs 0 (.succ n) with
            | some vs => (match bytesExact vs with
              | some l => some (.str l, .upd b .dead)
              | none => none)
            | none => none) else none
          | _, _ => none
        | _, _ => none
      | _, _ => none
    | _ => none
  | .call { callee := .builtin .delete, argTypes, .. }, [.map (some b), k] => match argTypes[0]? with
    | some t => match P.underlying t, σ.h.get b with
      | some (.map kt _), some (.map es c) => match keyKind P kt with
        | some kd => if keyOk P kt kd k then (match eraseS kd k es with
          | some es => some (.tuple [], .upd b (.map es c))
          | none => none) else none
        | none => none
      | _, _ => none
    | none => none
  | _, _ => none
def isEff : Op → Bool
  | .alloc _ | .box .. | .buildSlice .. | .makeSlice .. | .makeMap .. | .store .. | .mapUpdate .. => true
  | .call { callee := .builtin .append, .. } | .call { callee := .builtin .delete, .. } | .call { callee := .builtin .unsafeString, .. } => true
  | _ => false
/-- What an operation yields that calls nobody. -/
def stepS (σ : SW) (op : Op) (vs : List SV) : Option (SV × Delta) :=
  if isEff op then effS P σ op vs
  else match pureS P σ.h op vs with
    | some v => some (v, .none)
    | none => effS P σ op vs
/-- Whom an operation calls, and with what. -/
def calleeS (op : Op) (vs : List SV) : Option (Nat × List SV) := match op, vs with
  | .call { callee := .value _, .. }, .func f first captured :: args => some (f, first ++ args ++ captured)
  | .call { callee := .invoke _ name, .. }, .iface t v :: args => match P.info? t, P.underlying t with
    | some i, some (.pointer _) => match i.methods.find? (·.name == name) with
      | some m => match m.path.size, m.func with
        | 0, some (f, true) => some (f, v :: args)
        | _, _ => none
      | none => none
    | _, _ => none
  | _, _ => none
def wantS (ops : List Oper) (g : Option (Nat × Bool)) (t : List SV) : Bool := match g with
  | none => true
  | some (j, w) => match ops[j]? with
    | some o => match o.dst with
      | some d => match t[d]? with
        | some (.bool b) => b == w
        | _ => false
      | none => false
    | none => false

abbrev Caller := Nat → List SV → SW → Option (SV × SW)

/-- What one operation yields, and the world behind it. -/
def valS (same : Nat → Bool) (call : Caller) (ops : List Oper) (o : Oper) (t : List SV) (σ : SW) : Option (SV × SW) :=
  match wantS ops o.guard t with
  | false => some (undefS, σ)
  | true => match evs t o.op.operands.toList with
    | none => none
    | some vs => match calleeS P o.op vs with
      | some (f, args) => match same f with
        | true => (match args with
          | [v] => some (v, σ)
          | _ => none)
        | false => match call f args σ with
          | some (v, σ) => fV v fun v => some (v, σ)
          | none => none
      | none => match stepS P σ o.op vs with
        | some (v, d) => fV v fun v => σ.appK d fun σ => some (v, σ)
        | none => none
/-- What it yields if it reads alone. -/
def valP (same : Nat → Bool) (ops : List Oper) (o : Oper) (t : List SV) (h : H) : Option SV :=
  match wantS ops o.guard t with
  | false => some undefS
  | true => match evs t o.op.operands.toList with
    | none => none
    | some vs => match calleeS P o.op vs with
      | some (f, args) => match same f with
        | true => (match args with
          | [v] => some v
          | _ => none)
        | false => none
      | none => match isEff o.op with
        | true => none
        | false => pureS P h o.op vs
/-- One operation. -/
def oneS {β : Type} (same : Nat → Bool) (call : Caller) (ops : List Oper) (o : Oper) (t : List SV) (σ : SW) (k : List SV → SW → Option β) : Option β :=
  match valS P same call ops o t σ with
  | some (v, σ) => putK o.dst v t fun t => k t σ
  | none => none
def opsS {β : Type} (same : Nat → Bool) (call : Caller) (ops : List Oper) : List Oper → List SV → SW → (List SV → SW → Option β) → Option β
  | [], t, σ, k => k t σ
  | o :: rest, t, σ, k => oneS P same call ops o t σ fun t σ => opsS same call ops rest t σ k

inductive SX where
  | normal
  | exit (id : Nat)
  | ret

/-- Regions of a drawn order. -/
abbrev Draws := Caller → List Oper → List SV → SW → Option (List SV × SW)

def codeS (same : Nat → Bool) (call : Caller) (draws : Draws) : Nat → Code → List SV → SW → Option (SX × List SV × SW)
  | 0, _, _, _ => none
  | .succ n, c, t, σ => match c with
    | .skip | .label _ => some (.normal, t, σ)
    | .region _ ops true => match draws call ops.toList t σ with
      | some (t, σ) => some (.normal, t, σ)
      | none => none
    | .region _ ops false => opsS P same call ops.toList ops.toList t σ fun t σ => some (.normal, t, σ)
    | .seq a b => match codeS same call draws n a t σ with
      | some (.normal, t, σ) => codeS same call draws n b t σ
      | r => r
    | .cond c a b => match ev t c with
      | some (.bool true) => codeS same call draws n a t σ
      | some (.bool false) => codeS same call draws n b t σ
      | _ => none
    | .block id b => match codeS same call draws n b t σ with
      | some (.exit i, t, σ) => if Nat.beq i id then some (.normal, t, σ) else some (.exit i, t, σ)
      | r => r
    | .loop b => match codeS same call draws n b t σ with
      | some (.normal, t, σ) => codeS same call draws n (.loop b) t σ
      | r => r
    | .scope b => codeS same call draws n b t σ
    | .exit i => some (.exit i, t, σ)
    | .ret => some (.ret, t, σ)
    | _ => none

def resultS (h : H) (t : List SV) : ResultVar → Option SV
  | .tmp i => t[i]?
  | .cell a ty => match t[a]? with
    | some (.ptr (some (b, o))) => loadS P h ty b o
    | _ => none
def resultsS (h : H) (t : List SV) : List ResultVar → Option (List SV)
  | [] => some []
  | r :: rs => match resultS P h t r, resultsS h t rs with
    | some v, some vs => some (v :: vs)
    | _, _ => none
def undefs : Nat → List SV
  | 0 => []
  | .succ n => undefS :: undefs n
def callS (same : Nat → Bool) (hook : Nat → Option (List SV → SW → Option (SV × SW))) (draws : Draws) (fuel : Nat) : Nat → Caller
  | 0, _, _, _ => none
  | .succ n, f, args, σ => match hook f with
    | some g => g args σ
    | none => match P.funcs[f]? with
      | none => none
      | some fn => match fn.body with
        | none => none
        | some c => fL (args ++ undefs (fn.ntmps - args.length)) fun t => match codeS P same (callS same hook draws fuel n) draws fuel c t σ with
          | some (.exit _, _, _) | none => none
          | some (_, t, σ) => match resultsS P σ.h t fn.results.toList with
            | some [v] => some (v, σ)
            | some vs => some (.tuple vs, σ)
            | none => none
/-! ### Regions of a drawn order -/
/-- An operation of the walk in the text's order: does it act, what it yielded, the temporaries and the world ahead of it. -/
structure Rec where
  eff : Bool
  v : SV
  t : List SV
  σ : SW
def lexS (same : Nat → Bool) (call : Caller) (ops : List Oper) : List Oper → List SV → SW → Option (List Rec × List SV × SW)
  | [], t, σ => some ([], t, σ)
  | o :: os, t, σ => match valP P same ops o t σ.h with
    | some v => fV v fun v => putK o.dst v t fun t' => match lexS same call ops os t' σ with
      | some (rs, p) => some (⟨false, v, t, σ⟩ :: rs, p)
      | none => none
    | none => match valS P same call ops o t σ with
      | some (v, σ') => putK o.dst v t fun t' => match lexS same call ops os t' σ' with
        | some (rs, p) => some (⟨true, v, t, σ⟩ :: rs, p)
        | none => none
      | none => none
/-- Whom an operation waits for (by bits), of the ones ahead. -/
def ancE (acc : List Nat) : List Edge → Nat
  | [] => 0
  | e :: es => match Region.binds .any e with
    | true => Nat.lor (Nat.lor (2 ^ e.on) (acc.getD e.on 0)) (ancE acc es)
    | false => ancE acc es
def ancS : List Oper → List Nat → List Nat
  | [], acc => acc
  | o :: os, acc => ancS os (acc ++ [ancE acc o.after.toList])
def looks (ops : List Oper) (o : Oper) : List Nat :=
  (o.op.operands.toList.filterMap fun | .tmp t => some t | _ => none) ++
  (match o.guard with
   | some (g, _) => (match ops[g]? with
     | some o => o.dst.toList
     | none => [])
   | none => [])
def has (l : List Nat) (d : Nat) : Bool := match l with
  | [] => false
  | x :: l => Nat.beq x d || has l d
/-- Is what the j-th writes nothing that the i-th looks at or writes, or does one wait for the other? -/
def apartS (an : List Nat) (i : Nat) (li : List Nat) (di : Option Nat) (j : Nat) (dj : Option Nat) : Bool := match dj with
  | none => true
  | some d => !(has li d || (match di with
      | some e => Nat.beq e d
      | none => false)) || Nat.beq i j || (an.getD i 0).testBit j || (an.getD j 0).testBit i
def backS (i : Nat) : List Edge → Bool
  | [] => true
  | e :: es => (!Region.binds .any e || Nat.blt e.on i) && backS i es
def allIx (f : Nat → Oper → Bool) : List Oper → Nat → Bool
  | [], _ => true
  | o :: os, i => f i o && allIx f os (.succ i)
def noSel : Op → Bool
  | .select .. => false
  | _ => true
def statS (ops : List Oper) : Bool :=
  allIx (fun i o => backS i o.after.toList && allIx (fun j o' => apartS (ancS ops []) i (looks ops o) o.dst j o'.dst) ops 0) ops 0
/-- The worlds between those that act. -/
def stages (σf : SW) : List Rec → List SW
  | [] => [σf]
  | r :: rs => match r.eff with
    | true => r.σ :: stages σf rs
    | false => stages σf rs
/-- Those that act, by their places. -/
def effs : List Rec → Nat → List Nat
  | [], _ => []
  | r :: rs, i => match r.eff with
    | true => i :: effs rs (.succ i)
    | false => effs rs (.succ i)
def chainS (an : List Nat) : List Nat → Bool
  | [] => true
  | i :: l => (l.all fun j => (an.getD j 0).testBit i) && chainS an l
/-- May the i-th come when just the first ones of these have? (`past`: those that have; the list: those that have not.) -/
def mayNow (an : List Nat) (i : Nat) (past rest : List Nat) : Bool :=
  (past.all fun j => !(an.getD j 0).testBit i) && (rest.all fun j => !(an.getD i 0).testBit j)
mutual
def SV.beq : SV → SV → Bool
  | .bool a, .bool b => a == b
  | .int k a, .int q b => decide (k = q) && decide (a = b)
  | .flt k a, .flt q b => decide (k = q) && Nat.beq a b
  | .cpx k a c, .cpx q b d => decide (k = q) && Nat.beq a b && Nat.beq c d
  | .str a, .str b => eqL a b
  | .ptr a, .ptr b => decide (a = b)
  | .sl a l (.known c), .sl b m (.known d) => decide (a = b) && Nat.beq l m && Nat.beq c d
  | .sl a l (.unk c), .sl b m (.unk d) => decide (a = b) && Nat.beq l m && Nat.beq c d
  | .map a, .map b => decide (a = b)
  | .func f a b, .func g c d => Nat.beq f g && SV.beqs a c && SV.beqs b d
  | .nilFunc, .nilFunc => true
  | .iface t a, .iface u b => Nat.beq t u && SV.beq a b
  | .nilIface, .nilIface => true
  | .agg a, .agg b => SV.beqs a b
  | .tuple a, .tuple b => SV.beqs a b
  | _, _ => false
def SV.beqs : List SV → List SV → Bool
  | [], [] => true
  | a :: as, b :: bs => SV.beq a b && SV.beqs as bs
  | _, _ => false
end
/-- One that reads alone yields the same at each world at which it may come. -/
def steadyS (same : Nat → Bool) (ops : List Oper) (an : List Nat) (i : Nat) (o : Oper) (r : Rec) : (past rest : List Nat) → List SW → Bool
  | _, _, [] => true
  | past, rest, σ :: hs => (!mayNow an i past rest || (match valP P same ops o r.t σ.h with
      | some v => SV.beq v r.v
      | none => false)) && (match rest with
      | [] => true
      | j :: rest => steadyS same ops an i o r (past ++ [j]) rest hs)
def steadyAll (same : Nat → Bool) (ops : List Oper) (an : List Nat) (es : List Nat) (hs : List SW) : List Oper → List Rec → Nat → Bool
  | o :: os, r :: rs, i => (r.eff || steadyS P same ops an i o r [] es hs) && steadyAll same ops an es hs os rs (.succ i)
  | [], [], _ => true
  | _, _, _ => false
def drawS (same : Nat → Bool) : Draws := fun call ops t σ => match statS ops with
  | false => none
  | true => match lexS P same call ops ops t σ with
    | none => none
    | some (rs, t', σ') => match effs rs 0 with
      | [] => some (t', σ')
      | es => if chainS (ancS ops []) es && steadyAll P same ops (ancS ops []) es (stages σ' rs) ops rs 0 then some (t', σ') else none
end
end Go.Proofs.YtamiebojjinhcaaGreatDoor.Sx

namespace Go.Proofs.YtamiebojjinhcaaGreatDoor.Sx
open Go.RowKit
variable {B : World}

abbrev Rho := Nat → Option (Nat × Nat)
def Rho.le (ρ ρ' : Rho) : Prop := ∀ i p, ρ i = some p → ρ' i = some p
theorem Rho.le.refl (ρ : Rho) : ρ.le ρ := fun _ _ h => h
theorem Rho.le.trans {a b c : Rho} (h : a.le b) (k : b.le c) : a.le c := fun i p e => k i p (h i p e)

mutual
inductive VR (ρ : Rho) : SV → Value → Prop
  | bool (b : Bool) : VR ρ (.bool b) (.bool b)
  | int (k : IntKind) (n : Int) : VR ρ (.int k n) (.int k n)
  | flt (k : FloatKind) (b : Nat) : VR ρ (.flt k b) (.float k b)
  | cpx (k : FloatKind) (a b : Nat) : VR ρ (.cpx k a b) (.complex k a b)
  | str (s : ByteArray) : VR ρ (.str (s.data.toList.map UInt8.toNat)) (.string s)
  | nptr : VR ρ (.ptr none) (.pointer none)
  | ptr {b g N : Nat} (o : Nat) : ρ b = some (g, N) → VR ρ (.ptr (some (b, o))) (.pointer (some ⟨g, o, none⟩))
  | nsl (l c : Nat) : VR ρ (.sl none l (.known c)) (.slice none l c)
  | slk {b g N : Nat} (o l c : Nat) : ρ b = some (g, N) → VR ρ (.sl (some (b, o)) l (.known c)) (.slice (some ⟨g, o, none⟩) l c)
  | slu {b g N : Nat} (o l s c : Nat) : ρ b = some (g, N) → l ≤ c → o + c * s ≤ N → VR ρ (.sl (some (b, o)) l (.unk s)) (.slice (some ⟨g, o, none⟩) l c)
  | nmap : VR ρ (.map none) (.map none)
  | map {b g N : Nat} : ρ b = some (g, N) → VR ρ (.map (some b)) (.map (some g))
  | func (f : Nat) {fs cs : List SV} {us vs : Array Value} : VRs ρ fs us.toList → VRs ρ cs vs.toList → VR ρ (.func f fs cs) (.func (.func f) us vs)
  | nilFunc : VR ρ .nilFunc .nilFunc
  | iface (t : Nat) {v : SV} {u : Value} : VR ρ v u → VR ρ (.iface t v) (.iface t u)
  | nilIface : VR ρ .nilIface .nilIface
  | agg {cs : List SV} {vs : Array Value} : VRs ρ cs vs.toList → VR ρ (.agg cs) (.agg vs)
  | tuple {cs : List SV} {vs : Array Value} : VRs ρ cs vs.toList → VR ρ (.tuple cs) (.tuple vs)
inductive VRs (ρ : Rho) : List SV → List Value → Prop
  | nil : VRs ρ [] []
  | cons {s : SV} {v : Value} {ss : List SV} {vs : List Value} : VR ρ s v → VRs ρ ss vs → VRs ρ (s :: ss) (v :: vs)
end

mutual
theorem VR.mono {ρ ρ' : Rho} (h : ρ.le ρ') {s : SV} {v : Value} : VR ρ s v → VR ρ' s v
  | .bool b => .bool b
  | .int k n => .int k n
  | .flt k b => .flt k b
  | .cpx k a b => .cpx k a b
  | .str s => .str s
  | .nptr => .nptr
  | .ptr o e => .ptr o (h _ _ e)
  | .nsl l c => .nsl l c
  | .slk o l c e => .slk o l c (h _ _ e)
  | .slu o l s c e a b => .slu o l s c (h _ _ e) a b
  | .nmap => .nmap
  | .map e => .map (h _ _ e)
  | .func f a b => .func f (VRs.mono h a) (VRs.mono h b)
  | .nilFunc => .nilFunc
  | .iface t a => .iface t (VR.mono h a)
  | .nilIface => .nilIface
  | .agg a => .agg (VRs.mono h a)
  | .tuple a => .tuple (VRs.mono h a)
theorem VRs.mono {ρ ρ' : Rho} (h : ρ.le ρ') {s : List SV} {v : List Value} : VRs ρ s v → VRs ρ' s v
  | .nil => .nil
  | .cons a b => .cons (VR.mono h a) (VRs.mono h b)
end

section
variable {ρ : Rho}
theorem VRs.length {ss : List SV} {vs : List Value} (h : VRs ρ ss vs) : ss.length = vs.length := by
  induction ss generalizing vs with
  | nil => cases h; rfl
  | cons s ss ih => cases h with | cons a b => simp [ih b]
theorem VRs.get {ss : List SV} {vs : List Value} (h : VRs ρ ss vs) {i : Nat} {s : SV} (hs : ss[i]? = some s) : ∃ v, vs[i]? = some v ∧ VR ρ s v := by
  induction ss generalizing vs i with
  | nil => simp at hs
  | cons x ss ih =>
    cases h with
    | cons a b =>
      cases i with
      | zero => simp at hs; subst hs; exact ⟨_, by simp, a⟩
      | succ i => simp at hs; obtain ⟨v, h1, h2⟩ := ih b hs; exact ⟨v, by simpa using h1, h2⟩
theorem VRs.append {ss tt : List SV} {vs us : List Value} (h : VRs ρ ss vs) (k : VRs ρ tt us) : VRs ρ (ss ++ tt) (vs ++ us) := by
  induction ss generalizing vs with
  | nil => cases h; exact k
  | cons x ss ih => cases h with | cons a b => exact .cons a (ih b)
theorem VRs.take {ss : List SV} {vs : List Value} (h : VRs ρ ss vs) (n : Nat) : VRs ρ (ss.take n) (vs.take n) := by
  induction ss generalizing vs n with
  | nil => cases h; simp; exact .nil
  | cons x ss ih => cases h with | cons a b => cases n with
    | zero => simp; exact .nil
    | succ n => simp; exact .cons a (ih b n)
theorem VRs.drop {ss : List SV} {vs : List Value} (h : VRs ρ ss vs) (n : Nat) : VRs ρ (ss.drop n) (vs.drop n) := by
  induction ss generalizing vs n with
  | nil => cases h; simp; exact .nil
  | cons x ss ih => cases h with | cons a b => cases n with
    | zero => simp; exact .cons a b
    | succ n => simp; exact ih b n
theorem VRs.set {ss : List SV} {vs : List Value} (h : VRs ρ ss vs) (i : Nat) {s : SV} {v : Value} (hv : VR ρ s v) : VRs ρ (ss.set i s) (vs.set i v) := by
  induction ss generalizing vs i with
  | nil => cases h; simp; exact .nil
  | cons x ss ih => cases h with | cons a b => cases i with
    | zero => simp; exact .cons hv b
    | succ n => simp; exact .cons a (ih b n)
theorem VRs.repeatL {z : List SV} {y : List Value} (h : VRs ρ z y) : ∀ n, VRs ρ (Sx.repeatL z n) (List.replicate n y).flatten
  | 0 => .nil
  | n + 1 => by simp only [Sx.repeatL, List.replicate_succ, List.flatten_cons]; exact h.append (VRs.repeatL h n)
theorem VRs.of_get {ss : List SV} {vs : List Value} (hl : ss.length = vs.length) (h : ∀ (i : Nat) (s : SV) (v : Value), ss[i]? = some s → vs[i]? = some v → VR ρ s v) : VRs ρ ss vs := by
  induction ss generalizing vs with
  | nil => cases vs with
    | nil => exact .nil
    | cons _ _ => simp at hl
  | cons s ss ih => cases vs with
    | nil => simp at hl
    | cons v vs => exact .cons (h 0 s v (by simp) (by simp)) (ih (by simpa using hl) fun i s v h1 h2 => h (i + 1) s v (by simpa using h1) (by simpa using h2))

theorem VR.ofCell {v : Value} {s : SV} (h : ofCell v = some s) : VR ρ s v := by
  cases v <;> simp only [Sx.ofCell] at h <;> try (first | (injection h with h; subst h; constructor) | cases h)
  case pointer a => cases a <;> simp only at h <;> first | (injection h with h; subst h; constructor) | cases h
  case slice a l c => cases a <;> simp only at h <;> first | (injection h with h; subst h; constructor) | cases h
  case map a => cases a <;> simp only at h <;> first | (injection h with h; subst h; constructor) | cases h
theorem VRs.ofCells : ∀ {vs : List Value} {ss : List SV}, Sx.ofCells vs = some ss → VRs ρ ss vs
  | [], ss, h => by simp [Sx.ofCells] at h; subst h; exact .nil
  | v :: vs, ss, h => by
    unfold Sx.ofCells at h
    split at h
    · rename_i a b ha hb
      injection h with h; subst h
      exact .cons (VR.ofCell ha) (VRs.ofCells hb)
    · cases h
theorem VR.ofVal {v : Value} {s : SV} (h : ofVal v = some s) : VR ρ s v := by
  unfold Sx.ofVal at h
  split at h
  · split at h
    · rename_i l hl; injection h with h; subst h; exact .agg (VRs.ofCells hl)
    · cases h
  · exact VR.ofCell h
theorem VR.cells {s : SV} {v : Value} (h : VR ρ s v) : VRs ρ s.cells v.cells.toList := by
  cases h <;> try (first | assumption | (refine .cons ?_ .nil; constructor <;> assumption))
theorem VR.undef : VR ρ undefS undef := .tuple .nil
theorem VRs.undefs : ∀ n, VRs ρ (Sx.undefs n) (List.replicate n undef)
  | 0 => .nil
  | n + 1 => .cons .undef (VRs.undefs n)
end

/-! ### The forced ways reckon the same -/
section force
universe u
variable {β : Type u}
@[simp] theorem fN_eq (n : Nat) (k : Nat → β) : fN n k = k n := by cases n <;> rfl
@[simp] theorem fI_eq (n : Int) (k : Int → β) : fI n k = k n := by cases n <;> simp [fI]
@[simp] theorem fB_eq (n : Bool) (k : Bool → β) : fB n k = k n := by cases n <;> simp [fB]
@[simp] theorem fNs_eq (l : List Nat) (k : List Nat → β) : fNs l k = k l := by induction l generalizing k <;> simp [fNs, *]
@[simp] theorem fA_eq (a : Option (Nat × Nat)) (k : Option (Nat × Nat) → β) : fA a k = k a := by rcases a with _ | ⟨b, o⟩ <;> simp [fA]
@[simp] theorem fCell_eq (v : SV) (k : SV → β) : fCell v k = k v := by
  cases v <;> simp [fCell]
  case sl a l c => cases c <;> simp
@[simp] theorem fCells_eq (l : List SV) (k : List SV → β) : fCells l k = k l := by induction l generalizing k <;> simp [fCells, *]
@[simp] theorem fV_eq (v : SV) (k : SV → β) : fV v k = k v := by cases v <;> simp [fV]
@[simp] theorem fL_eq {α : Type} (l : List α) (k : List α → β) : fL l k = k l := by induction l generalizing k <;> simp [fL, *]
@[simp] theorem fO_eq (v : SO) (k : SO → β) : fO v k = k v := by cases v <;> simp [fO]
@[simp] theorem H.setK_eq : ∀ (n : Nat) (h : H) (i : Nat) (v : SO) (k : H → β), H.setK n h i v k = k (H.set n h i v)
  | 0, h, i, v, k => by cases h <;> rfl
  | n + 1, .nil, i, v, k => by
    cases i with
    | zero => rfl
    | succ j =>
      simp only [H.setK, H.set]
      cases j % 2 <;> simp [H.setK_eq n]
  | n + 1, .node o l r, i, v, k => by
    cases i with
    | zero => rfl
    | succ j =>
      simp only [H.setK, H.set]
      cases j % 2 <;> simp [H.setK_eq n]
@[simp] theorem SW.appK_eq (σ : SW) (d : Delta) (k : SW → β) : σ.appK d k = k (σ.app d) := by cases d <;> simp [SW.appK, SW.app]
@[simp] theorem setK_eq (t : List SV) (i : Nat) (v : SV) (k : List SV → β) : setK t i v k = k (t.set i v) := by
  induction t generalizing i k with
  | nil => rfl
  | cons x t ih => cases i <;> simp [setK, ih]
@[simp] theorem putK_eq (d : Option Nat) (v : SV) (t : List SV) (k : List SV → β) : putK d v t k = k (put d v t) := by cases d <;> simp [putK, put]
end force

/-! ### The tree -/
theorem H.get_set_ne : ∀ (n : Nat) (h : H) (i j : Nat) (v : SO), i ≠ j → (H.set n h i v).get j = h.get j
  | 0, h, i, j, v, _ => by cases h <;> rfl
  | n + 1, .nil, i, j, v, hij => by
    cases i with
    | zero => cases j with
      | zero => exact absurd rfl hij
      | succ j => simp only [H.set, H.get]; cases j % 2 <;> rfl
    | succ i =>
      simp only [H.set]
      cases hi : i % 2 with
      | zero => cases j with
        | zero => rfl
        | succ j =>
          simp only [H.get]
          cases hj : j % 2 with
          | zero => simp only []; rw [H.get_set_ne n .nil _ _ v (by omega)]; rfl
          | succ m => rfl
      | succ m => cases j with
        | zero => rfl
        | succ j =>
          simp only [H.get]
          cases hj : j % 2 with
          | zero => rfl
          | succ m' => simp only []; rw [H.get_set_ne n .nil _ _ v (by omega)]; rfl
  | n + 1, .node o l r, i, j, v, hij => by
    cases i with
    | zero => cases j with
      | zero => exact absurd rfl hij
      | succ j => simp only [H.set, H.get]
    | succ i =>
      simp only [H.set]
      cases hi : i % 2 with
      | zero => cases j with
        | zero => rfl
        | succ j =>
          simp only [H.get]
          cases hj : j % 2 with
          | zero => simp only []; rw [H.get_set_ne n l _ _ v (by omega)]
          | succ m => rfl
      | succ m => cases j with
        | zero => rfl
        | succ j =>
          simp only [H.get]
          cases hj : j % 2 with
          | zero => rfl
          | succ m' => simp only []; rw [H.get_set_ne n r _ _ v (by omega)]
/-- What was set is there, or (too deep) all is as it was. -/
theorem H.get_set_eq : ∀ (n : Nat) (h : H) (i : Nat) (v : SO), (i + 1 < 2 ^ n ∧ (H.set n h i v).get i = some v) ∨ (2 ^ n ≤ i + 1 ∧ (H.set n h i v).get i = h.get i)
  | 0, h, i, v => by cases h <;> exact .inr ⟨by simp, rfl⟩
  | n + 1, .nil, i, v => by
    have h2 : 2 ^ (n + 1) = 2 * 2 ^ n := by rw [Nat.pow_succ, Nat.mul_comm]
    have h1 : 1 ≤ 2 ^ n := Nat.one_le_two_pow
    cases i with
    | zero => exact .inl ⟨by omega, rfl⟩
    | succ i =>
      simp only [H.set]
      cases hi : i % 2 with
      | zero =>
        simp only [H.get, hi]
        rcases H.get_set_eq n .nil (i / 2) v with ⟨h, k⟩ | ⟨h, k⟩
        · exact .inl ⟨by omega, k⟩
        · exact .inr ⟨by omega, by rw [k]; rfl⟩
      | succ m =>
        simp only [H.get, hi]
        rcases H.get_set_eq n .nil (i / 2) v with ⟨h, k⟩ | ⟨h, k⟩
        · exact .inl ⟨by omega, k⟩
        · exact .inr ⟨by omega, by rw [k]; rfl⟩
  | n + 1, .node o l r, i, v => by
    have h2 : 2 ^ (n + 1) = 2 * 2 ^ n := by rw [Nat.pow_succ, Nat.mul_comm]
    have h1 : 1 ≤ 2 ^ n := Nat.one_le_two_pow
    cases i with
    | zero => exact .inl ⟨by omega, rfl⟩
    | succ i =>
      simp only [H.set]
      cases hi : i % 2 with
      | zero =>
        simp only [H.get, hi]
        rcases H.get_set_eq n l (i / 2) v with ⟨h, k⟩ | ⟨h, k⟩
        · exact .inl ⟨by omega, k⟩
        · exact .inr ⟨by omega, k⟩
      | succ m =>
        simp only [H.get, hi]
        rcases H.get_set_eq n r (i / 2) v with ⟨h, k⟩ | ⟨h, k⟩
        · exact .inl ⟨by omega, k⟩
        · exact .inr ⟨by omega, k⟩

/-! ### Worlds -/
/-- Entries of a map. -/
inductive MRs (ρ : Rho) : List (SV × SV × Nat) → List MapEntry → Prop
  | nil : MRs ρ [] []
  | cons {k v : SV} {e : MapEntry} {c : Nat} {es : List (SV × SV × Nat)} {ds : List MapEntry} : VR ρ k e.key → VR ρ v e.val → c = e.born → MRs ρ es ds → MRs ρ ((k, v, c) :: es) (e :: ds)
theorem MRs.mono {ρ ρ' : Rho} (h : ρ.le ρ') {es : List (SV × SV × Nat)} {ds : List MapEntry} (m : MRs ρ es ds) : MRs ρ' es ds := by
  induction m with
  | nil => exact .nil
  | cons a b c _ ih => exact .cons (a.mono h) (b.mono h) c ih
theorem MRs.length {ρ : Rho} {es : List (SV × SV × Nat)} {ds : List MapEntry} (m : MRs ρ es ds) : es.length = ds.length := by
  induction m with
  | nil => rfl
  | cons a b c _ ih => simp [ih]

/-- What stands in the heap for an object. -/
def OR (ρ : Rho) (w : World) (i : Nat) : SO → Prop
  | .cells e x cs => ∃ g N ds fr, ρ i = some (g, N) ∧ w.heap[g]? = some (.cells ds e fr) ∧ ds.size = N ∧ cs.length ≤ N ∧ (x = false → cs.length = N) ∧ VRs ρ cs (ds.toList.take cs.length) ∧
      ∀ q, q < N → ¬ (fr.1 ≤ q ∧ q < fr.2)
  | .map es c => ∃ g N ds, ρ i = some (g, N) ∧ w.heap[g]? = some (.map ds c) ∧ MRs ρ es ds.toList
  | .dead => True
  | .hole => ρ i = none
  | .tab cs => ∃ g N ds e fr, ρ i = some (g, N) ∧ w.heap[g]? = some (.cells ds e fr) ∧ cs.length ≤ ds.size ∧ VRs ρ cs (ds.toList.take cs.length)
/-- Nothing but the heap has changed. -/
def Quiet (w w' : World) : Prop := w'.os = w.os ∧ w'.tape = w.tape ∧ w'.output = w.output
/-- May it be written? -/
def SO.wr : SO → Bool
  | .cells .. | .map .. => true
  | _ => false
structure WR (B : World) (ρ : Rho) (σ : SW) (w : World) : Prop where
  fresh : ∀ i p, ρ i = some p → i < σ.n
  low : ∀ i g N, ρ i = some (g, N) → g < w.heap.size
  lim : ∀ i o, σ.h.get i = some o → i + 1 < 2 ^ deep
  obj : ∀ i o, σ.h.get i = some o → OR ρ w i o
  inj : ∀ i j o o' g N M, σ.h.get i = some o → o ≠ .dead → σ.h.get j = some o' → o' ≠ .dead → ρ i = some (g, N) → ρ j = some (g, M) → i = j
  zero : ∃ N, ρ 0 = some (0, N)
  /-- What was there at first is as it was. -/
  base : Below B.heap.size B w ∧ ∀ i o g N, σ.h.get i = some o → o.wr = true → ρ i = some (g, N) → B.heap.size ≤ g
theorem SO.wr_dead {o : SO} (h : o.wr = true) : o ≠ .dead := fun e => by subst e; cases h
section
variable {ρ : Rho} {σ : SW} {w : World}
theorem OR.mono {ρ' : Rho} {w' : World} (h : ρ.le ρ') {i : Nat} {o : SO} (hn : ρ i = none → ρ' i = none) (hw : ∀ g N, ρ i = some (g, N) → w'.heap[g]? = w.heap[g]?) (ho : OR ρ w i o) : OR ρ' w' i o := by
  cases o with
  | cells e x cs =>
    obtain ⟨g, N, ds, fr, h1, h2, h3, h4, h5, h6, h7⟩ := ho
    exact ⟨g, N, ds, fr, h _ _ h1, by rw [hw g N h1]; exact h2, h3, h4, h5, h6.mono h, h7⟩
  | map es c =>
    obtain ⟨g, N, ds, h1, h2, h3⟩ := ho
    exact ⟨g, N, ds, h _ _ h1, by rw [hw g N h1]; exact h2, h3.mono h⟩
  | dead => trivial
  | hole => exact hn ho
  | tab cs =>
    obtain ⟨g, N, ds, e, fr, h1, h2, h3, h4⟩ := ho
    exact ⟨g, N, ds, e, fr, h _ _ h1, by rw [hw g N h1]; exact h2, h3, h4.mono h⟩
/-- Another world whose old blocks are as they were. -/
theorem WR.keeps (hw : WR B ρ σ w) {w' : World} (hb : Below w.heap.size w w') : WR B ρ σ w' :=
  ⟨hw.fresh, fun i g N h => Nat.lt_of_lt_of_le (hw.low i g N h) hb.size, hw.lim, fun i o h => (hw.obj i o h).mono (.refl ρ) id fun g N e => hb.block g (hw.low i g N e), hw.inj, hw.zero, hw.base.1.trans (hb.mono hw.base.1.size), hw.base.2⟩
theorem Quiet.below {w w' : World} (hq : Quiet w w') {n : Nat} (hs : w.heap.size ≤ w'.heap.size) (hk : ∀ k, k < n → w'.heap[k]? = w.heap[k]?) : Below n w w' := ⟨hq.1, hq.2.1, hq.2.2, hs, hk⟩
theorem WR.heap (hw : WR B ρ σ w) {w' : World} (hh : w'.heap = w.heap) (hq : Quiet w w' := by exact ⟨rfl, rfl, rfl⟩) : WR B ρ σ w' := hw.keeps (hq.below (by rw [hh]; exact Nat.le_refl _) fun k _ => by rw [hh])
def Rho.put (ρ : Rho) (i : Nat) (p : Nat × Nat) : Rho := fun j => if j = i then some p else ρ j
theorem Rho.put_le (hw : WR B ρ σ w) (p : Nat × Nat) : ρ.le (ρ.put σ.n p) := fun i q h => by
  have := hw.fresh i q h
  unfold Rho.put
  rw [if_neg (by omega)]
  exact h
@[simp] theorem Rho.put_at (ρ : Rho) (i : Nat) (p : Nat × Nat) : ρ.put i p i = some p := by simp [Rho.put]
/-- A new object, whose block is none that has a name. -/
theorem WR.named (hw : WR B ρ σ w) {w' : World} (o : SO) (g N : Nat) (hb : Below w.heap.size w w') (hg : g < w'.heap.size)
    (hge : w.heap.size ≤ g) (ho : OR (ρ.put σ.n (g, N)) w' σ.n o) : WR B (ρ.put σ.n (g, N)) (σ.app (.new o)) w' := by
  have hs := hb.size
  have hk : ∀ k, k < w.heap.size → w'.heap[k]? = w.heap[k]? := fun k h => hb.block k h
  have hn : ∀ i M, ρ i ≠ some (g, M) := fun i M h => by have := hw.low i _ _ h; omega
  have hle := Rho.put_le hw (g, N)
  have hpn : ∀ i, i ≠ σ.n → ρ i = none → (ρ.put σ.n (g, N)) i = none := fun i hi h => by unfold Rho.put; rw [if_neg hi]; exact h
  refine ⟨fun i p h => ?_, fun i a M h => ?_, fun i o' h => ?_, fun i o' h => ?_, fun i j o1 o2 a A C h1 d1 h2 d2 e1 e2 => ?_, ?_, hw.base.1.trans (hb.mono hw.base.1.size), fun i o1 a M h hwr e => ?_⟩
  · simp only [SW.app]
    unfold Rho.put at h
    split at h
    · omega
    · have := hw.fresh i p h; omega
  · unfold Rho.put at h
    split at h
    · injection h with h; injection h with h1 h2; subst h1; exact hg
    · exact Nat.lt_of_lt_of_le (hw.low i a M h) hs
  · simp only [SW.app] at h
    by_cases hi : σ.n = i
    · subst hi
      rcases H.get_set_eq deep σ.h σ.n o with ⟨k, _⟩ | ⟨_, k⟩
      · exact k
      · rw [k] at h; exact hw.lim _ _ h
    · rw [H.get_set_ne _ _ _ _ _ hi] at h; exact hw.lim _ _ h
  · simp only [SW.app] at h
    by_cases hi : σ.n = i
    · subst hi
      rcases H.get_set_eq deep σ.h σ.n o with ⟨_, k⟩ | ⟨hdeep, k⟩
      · rw [k] at h; injection h with h; subst h; exact ho
      · rw [k] at h
        have := hw.lim _ _ h
        omega
    · rw [H.get_set_ne _ _ _ _ _ hi] at h
      exact (hw.obj i o' h).mono hle (hpn i (Ne.symm hi)) fun a M e => hk a (hw.low i a M e)
  · simp only [SW.app] at h1 h2
    have key : ∀ i o1, (H.set deep σ.h σ.n o).get i = some o1 → o1 ≠ .dead → i ≠ σ.n → σ.h.get i = some o1 := fun i o1 h _ hi => by
      rwa [H.get_set_ne _ _ _ _ _ (Ne.symm hi)] at h
    by_cases hi : i = σ.n
    · by_cases hj : j = σ.n
      · omega
      · exfalso
        subst hi
        have e2' : ρ j = some (a, C) := by unfold Rho.put at e2; rw [if_neg hj] at e2; exact e2
        simp at e1
        rw [← e1.1] at e2'
        exact hn _ _ e2'
    · by_cases hj : j = σ.n
      · exfalso
        subst hj
        have e1' : ρ i = some (a, A) := by unfold Rho.put at e1; rw [if_neg hi] at e1; exact e1
        simp at e2
        rw [← e2.1] at e1'
        exact hn _ _ e1'
      · have e1' : ρ i = some (a, A) := by unfold Rho.put at e1; rw [if_neg hi] at e1; exact e1
        have e2' : ρ j = some (a, C) := by unfold Rho.put at e2; rw [if_neg hj] at e2; exact e2
        exact hw.inj i j o1 o2 a A C (key i o1 h1 d1 hi) d1 (key j o2 h2 d2 hj) d2 e1' e2'
  · obtain ⟨N0, h0⟩ := hw.zero
    exact ⟨N0, hle _ _ h0⟩
  · simp only [SW.app] at h
    by_cases hi : i = σ.n
    · subst hi
      simp at e
      have := hw.base.1.size
      omega
    · rw [H.get_set_ne _ _ _ _ _ (Ne.symm hi)] at h
      unfold Rho.put at e
      rw [if_neg hi] at e
      exact hw.base.2 i o1 a M h hwr e
theorem WR.new (hw : WR B ρ σ w) {w' : World} (o : SO) (b : Obj) (N : Nat) (hw' : w'.heap = w.heap.push b) (ho : OR (ρ.put σ.n (w.heap.size, N)) w' σ.n o) (hq : Quiet w w' := by exact ⟨rfl, rfl, rfl⟩) : WR B (ρ.put σ.n (w.heap.size, N)) (σ.app (.new o)) w' := by
  refine hw.named o w.heap.size N (hq.below (by rw [hw']; simp) fun k hk => by rw [hw', Array.getElem?_push]; simp; omega) (by rw [hw']; simp) (Nat.le_refl _) ho
/-- An object that changes. -/
theorem WR.upd (hw : WR B ρ σ w) {w' : World} {i g N : Nat} {o o' : SO} (hi : σ.h.get i = some o) (hd' : o.wr = true) (hρ : ρ i = some (g, N)) (hs : w'.heap.size = w.heap.size) (hk : ∀ k, k ≠ g → w'.heap[k]? = w.heap[k]?)
    (ho : OR ρ w' i o') (hq : Quiet w w' := by exact ⟨rfl, rfl, rfl⟩) : WR B ρ (σ.app (.upd i o')) w' := by
  have hd := SO.wr_dead hd'
  have hbg := hw.base.2 i o g N hi hd' hρ
  have hset : (H.set deep σ.h i o').get i = some o' := by
    rcases H.get_set_eq deep σ.h i o' with ⟨_, k⟩ | ⟨k, _⟩
    · exact k
    · have := hw.lim i o hi; omega
  have key : ∀ j o1, (H.set deep σ.h i o').get j = some o1 → o1 ≠ .dead → ∃ o2, σ.h.get j = some o2 ∧ o2 ≠ .dead := fun j o1 h d => by
    by_cases hj : i = j
    · subst hj; exact ⟨o, hi, hd⟩
    · rw [H.get_set_ne _ _ _ _ _ hj] at h; exact ⟨o1, h, d⟩
  refine ⟨hw.fresh, fun j a M h => by rw [hs]; exact hw.low j a M h, fun j o1 h => ?_, fun j o1 h => ?_, fun j k o1 o2 a A C h1 d1 h2 d2 e1 e2 => ?_, hw.zero, hw.base.1.trans (hq.below (by rw [hs]; exact Nat.le_refl _) fun k h => hk k (by omega)), fun j o1 a M h hwr e => ?_⟩
  · simp only [SW.app] at h
    by_cases hj : i = j
    · subst hj; exact hw.lim i o hi
    · rw [H.get_set_ne _ _ _ _ _ hj] at h; exact hw.lim _ _ h
  · simp only [SW.app] at h
    by_cases hj : i = j
    · subst hj; rw [hset] at h; injection h with h; subst h; exact ho
    · rw [H.get_set_ne _ _ _ _ _ hj] at h
      by_cases d : o1 = .dead
      · subst d; trivial
      · refine (hw.obj j o1 h).mono (.refl ρ) id fun a M e => hk a fun hag => hj ?_
        subst hag
        exact hw.inj i j o o1 a N M hi hd h d hρ e
  · simp only [SW.app] at h1 h2
    obtain ⟨o3, h3, d3⟩ := key j o1 h1 d1
    obtain ⟨o4, h4, d4⟩ := key k o2 h2 d2
    exact hw.inj j k o3 o4 a A C h3 d3 h4 d4 e1 e2
  · simp only [SW.app] at h
    by_cases hj : i = j
    · subst hj
      rw [hρ] at e
      injection e with e; injection e with e1 e2
      omega
    · rw [H.get_set_ne _ _ _ _ _ hj] at h
      exact hw.base.2 j o1 a M h hwr e
/-- A name is given up. -/
theorem WR.kill (hw : WR B ρ σ w) {i : Nat} {o : SO} (hi : σ.h.get i = some o) (hd' : o.wr = true) {w' : World} {g N : Nat} (hρ : ρ i = some (g, N)) (hs : w'.heap.size = w.heap.size) (hk : ∀ k, k ≠ g → w'.heap[k]? = w.heap[k]?) (hq : Quiet w w' := by exact ⟨rfl, rfl, rfl⟩) :
    WR B ρ (σ.app (.upd i .dead)) w' := hw.upd hi hd' hρ hs hk trivial hq
/-- Grown in its place: another name for the block. -/
theorem WR.grown (hw : WR B ρ σ w) {w' : World} {i g N : Nat} {o o' : SO} (hi : σ.h.get i = some o) (hd' : o.wr = true) (hρ : ρ i = some (g, N)) (hs : w'.heap.size = w.heap.size) (hk : ∀ k, k ≠ g → w'.heap[k]? = w.heap[k]?)
    (ho : OR (ρ.put σ.n (g, N)) w' σ.n o') (hq : Quiet w w' := by exact ⟨rfl, rfl, rfl⟩) : WR B (ρ.put σ.n (g, N)) (σ.app (.grow i o')) w' := by
  have hle := Rho.put_le hw (g, N)
  have hd := SO.wr_dead hd'
  have hbg := hw.base.2 i o g N hi hd' hρ
  have hK := hw.kill hi hd' hρ hs hk hq
  have hin : i < σ.n := hw.fresh i _ hρ
  have hget : (σ.app (.upd i .dead)).h.get i = some .dead := by
    rcases H.get_set_eq deep σ.h i .dead with ⟨_, k⟩ | ⟨k, _⟩
    · exact k
    · have := hw.lim i o hi; omega
  generalize hσ : σ.app (.upd i .dead) = τ at *
  have hτn : τ.n = σ.n := by rw [← hσ]; rfl
  have happ : σ.app (.grow i o') = τ.app (.new o') := by rw [← hσ]; rfl
  rw [happ]
  have hpn : ∀ i, i ≠ σ.n → ρ i = none → (ρ.put σ.n (g, N)) i = none := fun i hi h => by unfold Rho.put; rw [if_neg hi]; exact h
  refine ⟨fun j p h => ?_, fun j a M h => ?_, fun j o1 h => ?_, fun j o1 h => ?_, fun j k o1 o2 a A C h1 d1 h2 d2 e1 e2 => ?_, ?_, hK.base.1, fun j o1 a M h hwr e => ?_⟩
  · simp only [SW.app]
    unfold Rho.put at h
    split at h
    · omega
    · have := hw.fresh j p h; omega
  · unfold Rho.put at h
    rw [hs]
    split at h
    · injection h with h; injection h with h1 h2; subst h1; exact hw.low _ _ _ hρ
    · exact hw.low j a M h
  · simp only [SW.app, hτn] at h
    by_cases hj : σ.n = j
    · subst hj
      rcases H.get_set_eq deep τ.h σ.n o' with ⟨k, _⟩ | ⟨_, k⟩
      · exact k
      · rw [k] at h; exact hK.lim _ _ h
    · rw [H.get_set_ne _ _ _ _ _ hj] at h; exact hK.lim _ _ h
  · simp only [SW.app, hτn] at h
    by_cases hj : σ.n = j
    · subst hj
      rcases H.get_set_eq deep τ.h σ.n o' with ⟨_, k⟩ | ⟨hdeep, k⟩
      · rw [k] at h; injection h with h; subst h; exact ho
      · rw [k] at h
        have := hK.lim _ _ h
        omega
    · rw [H.get_set_ne _ _ _ _ _ hj] at h
      exact (hK.obj j o1 h).mono hle (hpn j (Ne.symm hj)) fun a M e => rfl
  · simp only [SW.app, hτn] at h1 h2
    have key : ∀ j o1, (H.set deep τ.h σ.n o').get j = some o1 → j ≠ σ.n → τ.h.get j = some o1 := fun j o1 h hj => by
      rwa [H.get_set_ne _ _ _ _ _ (Ne.symm hj)] at h
    have old : ∀ j p, (ρ.put σ.n (g, N)) j = some p → j ≠ σ.n → ρ j = some p := fun j p h hj => by
      unfold Rho.put at h; rw [if_neg hj] at h; exact h
    have nog : ∀ j o1 M, τ.h.get j = some o1 → o1 ≠ .dead → ρ j = some (g, M) → False := fun j o1 M h d e => by
      by_cases hj : i = j
      · subst hj; rw [hget] at h; injection h with h; exact d h.symm
      · have h' : σ.h.get j = some o1 := by
          rw [← hσ] at h; simp only [SW.app] at h; rwa [H.get_set_ne _ _ _ _ _ hj] at h
        exact hj (hw.inj i j o o1 g N M hi hd h' d hρ e)
    by_cases hj : j = σ.n
    · by_cases hk' : k = σ.n
      · omega
      · exfalso
        subst hj
        simp at e1
        rw [← e1.1] at e2
        exact nog k o2 C (key k o2 h2 hk') d2 (old _ _ e2 hk')
    · by_cases hk' : k = σ.n
      · exfalso
        subst hk'
        simp at e2
        rw [← e2.1] at e1
        exact nog j o1 A (key j o1 h1 hj) d1 (old _ _ e1 hj)
      · exact hK.inj j k o1 o2 a A C (key j o1 h1 hj) d1 (key k o2 h2 hk') d2 (old _ _ e1 hj) (old _ _ e2 hk')
  · obtain ⟨N0, h0⟩ := hw.zero
    exact ⟨N0, hle _ _ h0⟩
  · simp only [SW.app, hτn] at h
    by_cases hj : j = σ.n
    · subst hj
      simp at e
      omega
    · rw [H.get_set_ne _ _ _ _ _ (Ne.symm hj)] at h
      unfold Rho.put at e
      rw [if_neg hj] at e
      exact hK.base.2 j o1 a M h hwr e
end
end Go.Proofs.YtamiebojjinhcaaGreatDoor.Sx

set_option linter.unusedSimpArgs false
namespace Go.Proofs.YtamiebojjinhcaaGreatDoor.Sx
variable {P : Program} {ρ : Rho} {σ : SW} {w : World}

theorem isAggS_spec {t : Nat} {b : Bool} (h : isAggS P t = some b) (w : World) : (isAgg t).run P w = .ok b w := by
  unfold isAggS at h
  cases hu : P.underlying t with
  | none => rw [hu] at h; cases h
  | some d => rw [hu] at h; cases d <;> simp at h <;> subst h <;> simp [isAgg, run_underlying hu]
theorem sizeS_info {t n : Nat} (h : sizeS P t = some n) : ∃ i, P.info? t = some i ∧ i.size = n := by
  unfold sizeS at h
  cases hi : P.info? t with
  | none => rw [hi] at h; cases h
  | some i => rw [hi] at h; injection h with h; exact ⟨i, rfl, h⟩
theorem sizeS_spec {t n : Nat} (h : sizeS P t = some n) (w : World) : (sizeOf t).run P w = .ok n w := by
  obtain ⟨i, hi, rfl⟩ := sizeS_info h
  simp [sizeOf, typeInfo, hi]
theorem zeroS_info {t : Nat} {z : SV} (h : zeroS P t = some z) : ∃ i v, P.info? t = some i ∧ i.zero = some v ∧ ofVal v = some z := by
  unfold zeroS at h
  cases hi : P.info? t with
  | none => rw [hi] at h; cases h
  | some i =>
    rw [hi] at h
    cases hz : i.zero with
    | none => simp [hz] at h
    | some v => simp [hz] at h; exact ⟨i, v, rfl, hz, h⟩
theorem zeroS_spec {t : Nat} {z : SV} (h : zeroS P t = some z) (ρ : Rho) (w : World) : ∃ v, (zeroValue t).run P w = .ok v w ∧ VR ρ z v := by
  obtain ⟨i, v, hi, hz, hv⟩ := zeroS_info h
  exact ⟨v, by simp [zeroValue, typeInfo, hi, hz], VR.ofVal hv⟩

theorem part_spec : ∀ {n : Nat} {cs : List SV} {o : Nat} {l : List SV}, Sx.part cs o n = some l → l = (cs.drop o).take n ∧ l.length = n
  | 0, cs, o, l, h => by simp [Sx.part] at h; subst h; simp
  | n + 1, cs, o, l, h => by
    unfold Sx.part at h
    split at h
    · rename_i v vs h1 h2
      injection h with h; subst h
      obtain ⟨e, k⟩ := part_spec h2
      have hlt : o < cs.length := (List.getElem?_eq_some_iff.1 h1).1
      have hv : cs[o] = v := (List.getElem?_eq_some_iff.1 h1).2
      refine ⟨?_, by simp [k]⟩
      rw [List.drop_eq_getElem_cons hlt, List.take_succ_cons, hv, e]
    · cases h
theorem part_le {n : Nat} {cs : List SV} {o : Nat} {l : List SV} (h : Sx.part cs o n = some l) : n = 0 ∨ o + n ≤ cs.length := by
  obtain ⟨e, k⟩ := part_spec h
  rw [e] at k
  simp at k
  omega
theorem lay_spec : ∀ {cs : List SV} {o : Nat} {vs l : List SV}, lay cs o vs = some l → vs ≠ [] → l = cs.take o ++ vs ++ cs.drop (o + vs.length)
  | _, _, [], _, _, h0 => absurd rfl h0
  | [], _, v :: vs, l, h, _ => by simp [lay] at h
  | c :: cs, o + 1, v :: vs, l, h, _ => by
    simp only [lay] at h
    split at h
    · rename_i cs' hc
      injection h with h; subst h
      rw [lay_spec hc (by simp)]
      rw [List.length_cons, show o + 1 + (vs.length + 1) = (o + (vs.length + 1)) + 1 by omega, List.drop_succ_cons]
      simp
    · cases h
  | c :: cs, 0, v :: vs, l, h, _ => by
    simp only [lay] at h
    split at h
    · rename_i cs' hc
      injection h with h; subst h
      cases vs with
      | nil => simp [lay] at hc; subst hc; simp
      | cons v' vs' =>
        rw [lay_spec hc (by simp)]
        simp
    · cases h
theorem lay_spec' {cs : List SV} {o : Nat} {vs l : List SV} (h : lay cs o vs = some l) (ho : o + vs.length ≤ cs.length) : l = cs.take o ++ vs ++ cs.drop (o + vs.length) := by
  by_cases h0 : vs = []
  · subst h0
    cases cs <;> cases o <;> simp [lay] at h <;> subst h <;> simp
  · exact lay_spec h h0
theorem VRs.laid {cs vs : List SV} {ds us : List Value} (h : VRs ρ cs ds) (k : VRs ρ vs us) (o : Nat) : VRs ρ (cs.take o ++ vs ++ cs.drop (o + vs.length)) (ds.take o ++ us ++ ds.drop (o + us.length)) := by
  rw [← k.length]
  exact ((h.take o).append k).append (h.drop _)

/-- The cells of a block, seen from its known part. -/
theorem VRs.sub {cs : List SV} {ds : List Value} (h : VRs ρ cs (ds.take cs.length)) (o n : Nat) (hn : n = 0 ∨ o + n ≤ cs.length) : VRs ρ ((cs.drop o).take n) ((ds.drop o).take n) := by
  have := (h.drop o).take n
  rwa [List.drop_take, List.take_take, show min n (cs.length - o) = n by omega] at this
theorem toArray_VRs {cs : List SV} {ds : List Value} (h : VRs ρ cs ds) : VRs ρ cs ds.toArray.toList := h

theorem run_partS {t : Nat} {cs : List SV} {off : Nat} {v : SV} {ds : Array Value} (h : partT P t cs off = some v) (hv : VRs ρ cs ds.toList) (w : World) : ∃ u, (Go.part t ds off).run P w = .ok u w ∧ VR ρ v u := by
  unfold partT at h
  split at h
  · rename_i n h1 h2
    split at h
    · rename_i l hl
      injection h with h; subst h
      obtain ⟨e, k⟩ := part_spec hl
      refine ⟨_, ?_, .agg (vs := ds.extract off (off + n)) ?_⟩
      · simp [Go.part, isAggS_spec h1, sizeS_spec h2]
      · rw [e]
        have := (hv.drop off).take n
        simpa [Array.toList_extract, List.extract_eq_take_drop] using this
    · cases h
  · rename_i h1
    obtain ⟨u, hu, hr⟩ := hv.get h
    refine ⟨u, ?_, hr⟩
    have : ds[off]? = some u := by simpa using hu
    simp [Go.part, isAggS_spec h1, this]
  · cases h

theorem addr_add (g o n : Nat) : (⟨g, o, none⟩ : Addr).add n = ⟨g, o + n, none⟩ := by unfold Addr.add; split <;> simp_all
theorem cell_at {g o : Nat} {ds : Array Value} {e : Nat} {fr : Nat × Nat} (h : w.heap[g]? = some (.cells ds e fr)) : w.cell? ⟨g, o, none⟩ = ds[o]? := by simp [World.cell?, h]
theorem run_loadCellsS {g o n : Nat} {ds : Array Value} {e : Nat} {fr : Nat × Nat} (h : w.heap[g]? = some (.cells ds e fr)) (hn : n = 0 ∨ o + n ≤ ds.size) :
    (loadCells ⟨g, o, none⟩ n).run P w = .ok ((ds.toList.drop o).take n).toArray w := by
  have hl : ((ds.toList.drop o).take n).length = n := by simp; omega
  have := run_loadCells_list (P := P) w ⟨g, o, none⟩ ((ds.toList.drop o).take n) fun j v hv => by
    rw [addr_add, cell_at h]
    rw [List.getElem?_take] at hv
    split at hv
    · simpa [List.getElem?_drop] using hv
    · cases hv
  rwa [hl] at this
/-- A load. -/
theorem run_partL {cs : List SV} {t o : Nat} {v : SV} (hl : partT P t cs o = some v) {w : World} {g e : Nat} {ds : Array Value} {fr : Nat × Nat} (h2 : w.heap[g]? = some (.cells ds e fr)) (h4 : cs.length ≤ ds.size) (h6 : VRs ρ cs (ds.toList.take cs.length)) :
    ∃ u, (loadVar t ⟨g, o, none⟩).run P w = .ok u w ∧ VR ρ v u := by
  unfold partT at hl
  split at hl
  · rename_i n ha hs
    split at hl
    · rename_i l hp
      injection hl with hl; subst hl
      obtain ⟨e1, k1⟩ := part_spec hp
      have hle := part_le hp
      refine ⟨_, ?_, .agg (vs := ((ds.toList.drop o).take n).toArray) ?_⟩
      · simp [loadVar, isAggS_spec ha, sizeS_spec hs, run_loadCellsS (P := P) h2 (show n = 0 ∨ o + n ≤ ds.size by omega)]
      · rw [e1]; exact h6.sub o n hle
    · cases hl
  · rename_i ha
    obtain ⟨u, hu, hr⟩ := h6.get hl
    have hds : ds[o]? = some u := by
      rw [List.getElem?_take] at hu
      split at hu
      · simpa using hu
      · cases hu
    exact ⟨u, by simp [loadVar, isAggS_spec ha, load, Sem.run, cell_at h2, hds], hr⟩
  · cases hl
theorem run_loadS {h : H} {t b o : Nat} {v : SV} (hl : loadS P h t b o = some v) {i : Nat} (ho : ∀ o', h.get b = some o' → OR ρ w b o') {g N : Nat} (hρ : ρ b = some (g, N)) :
    ∃ u, (loadVar t ⟨g, o, none⟩).run P w = .ok u w ∧ VR ρ v u := by
  unfold loadS at hl
  split at hl
  · rename_i e x cs hg
    obtain ⟨g', N', ds, fr, h1, h2, h3, h4, h5, h6, h7⟩ := ho _ hg
    rw [hρ] at h1; injection h1 with h1; injection h1 with h1 h1'; subst h1; subst h1'
    exact run_partL hl h2 (by omega) h6
  · rename_i cs hg
    obtain ⟨g', N', ds, e, fr, h1, h2, h3, h4⟩ := ho _ hg
    rw [hρ] at h1; injection h1 with h1; injection h1 with h1 h1'; subst h1; subst h1'
    exact run_partL hl h2 h3 h4
  · cases hl

/-! ### Texts -/
theorem eqL_iff : ∀ (a b : List UInt8), eqL (a.map UInt8.toNat) (b.map UInt8.toNat) = (a == b)
  | [], [] => rfl
  | [], _ :: _ => rfl
  | _ :: _, [] => rfl
  | x :: a, y :: b => by
    simp only [List.map_cons, eqL, eqL_iff a b]
    by_cases h : x = y
    · subst h; simp
    · have hb : Nat.beq x.toNat y.toNat = false := by
        cases hq : Nat.beq x.toNat y.toNat with
        | false => rfl
        | true => exact absurd (UInt8.toNat_inj.1 (Nat.eq_of_beq_eq_true hq)) h
      simp [h, hb]
theorem strOp_spec {op : BinOp} {a b : List Nat} {v : SV} {x y : ByteArray} (h : strOp op a b = some v) (ha : x.data.toList.map UInt8.toNat = a) (hb : y.data.toList.map UInt8.toNat = b) (w : World) :
    ∃ u, (Op.stringOp op x y).run P w = .ok u w ∧ VR ρ v u := by
  subst ha; subst hb
  cases op <;> simp only [strOp] at h <;> try (cases h; done)
  case add =>
    split at h
    · rename_i hlen
      injection h with h; subst h
      refine ⟨.string (x ++ y), run_string_add_sum w x y ?_, ?_⟩
      · simp at hlen; omega
      · have := VR.str (ρ := ρ) (x ++ y)
        rwa [show (x ++ y).data.toList.map UInt8.toNat = x.data.toList.map UInt8.toNat ++ y.data.toList.map UInt8.toNat by simp [ByteArray.data_append]] at this
    · cases h
  case eql =>
    injection h with h; subst h
    refine ⟨.bool (x.toList == y.toList), by simp [Op.stringOp], ?_⟩
    rw [eqL_iff, ByteArray.toList_eq, ByteArray.toList_eq]
    constructor
  case neq =>
    injection h with h; subst h
    refine ⟨.bool (!(x.toList == y.toList)), by simp [Op.stringOp], ?_⟩
    rw [eqL_iff, ByteArray.toList_eq, ByteArray.toList_eq]
    constructor
theorem VR.str' {l : List Nat} {s : ByteArray} (h : s.data.toList.map UInt8.toNat = l) : VR ρ (.str l) (.string s) := by subst h; exact .str s

/-! ### Numbers -/
theorem intOp_spec {op : BinOp} {k : IntKind} {a b : Int} {v : SV} (t : Nat) (h : intOp op k a b = some v) (w : World) : ∃ u, (binOp op t (.int k a) (.int k b)).run P w = .ok u w ∧ VR ρ v u := by
  cases op <;> simp only [intOp] at h <;> try (cases h; done)
  all_goals first
    | (injection h with h; subst h; exact ⟨_, by first | (simp [binOp, Op.intArith, Op.intBits, Op.intCmp]; done) | (simp [binOp, Op.intArith, Op.intBits, Op.intCmp]; rfl), by first | exact .int _ _ | exact .bool _⟩)
    | (split at h
       · cases h
       · rename_i h0
         injection h with h; subst h
         exact ⟨_, by first | (simp [binOp, Op.intDiv, h0]; done) | (simp [binOp, Op.intDiv, h0]; rfl), .int _ _⟩)
end Go.Proofs.YtamiebojjinhcaaGreatDoor.Sx
