/- The abstract calculus: values, heaps, operations, code, and a predicate transformer by recursion over code. Own work; nothing here is about a particular program. -/
import Derived.Orders
import Derived.Below
import Derived.Laws.AppendOwn
import Derived.Maps.AppendAt
import Derived.Laws.Cells
import Derived.Laws.Slices
import Derived.Laws.BytesString
import Derived.Laws.StructEq
import Derived.WideLaws
import Derived.Laws.CopyRow
import Derived.IntWalk
set_option linter.unusedVariables false
set_option linter.unusedSimpArgs false
namespace Go.Abs

/-- Abstract values. `ps`: a slice whose content never changes again; `sl`: a slice of an abstract block; `pp`: a pointer to cells that never change again. -/
inductive V where
  | undef
  | top
  | int (k : IntKind) (n : Int)
  | bool (b : Bool)
  | str (s : ByteArray)
  | nils
  | ps (esz : Nat) (xs : List V)
  | sl (esz b off n : Nat) (cap : Option Nat)
  | nilp
  | ptr (b off : Nat)
  | pp (xs : List V)
  | agg (xs : List V)
  | tuple (xs : List V)
  | nilm
  | mp (b : Nat)
  | fn (f : FuncId)
  deriving Inhabited

def V.cells : V → List V
  | .agg cs => cs
  | v => [v]

/-- May it stand in one cell of memory? -/
def V.isCell : V → Bool
  | .undef | .top | .agg _ | .tuple _ => false
  | _ => true

inductive Blk where
  | cells (e : TypeId) (esz : Nat) (xs : List V)
  | map (es : List (V × V))

abbrev Heap := Nat → Option Blk
def upd (h : Heap) (b : Nat) (x : Blk) : Heap := fun c => if c = b then some x else h c
def era (h : Heap) (b : Nat) : Heap := fun c => if c = b then none else h c
def put (tm : Nat → V) (d : Nat) (v : V) : Nat → V := fun t => if t = d then v else tm t
/-- The temporaries that are told, and no others. -/
def mk (l : List (Nat × V)) : Nat → V :=
  match l with
  | [] => fun _ => .top
  | (d, v) :: r => fun t => if t = d then v else mk r t
def putd (tm : Nat → V) (d : Option Nat) (v : V) : Nat → V :=
  match d with
  | some d => put tm d v
  | none => tm

theorem upd_eq (h : Heap) (b : Nat) (x : Blk) : upd h b x b = some x := by simp [upd]
theorem upd_ne (h : Heap) (b c : Nat) (x : Blk) (hne : c ≠ b) : upd h b x c = h c := by simp [upd, hne]
theorem era_eq (h : Heap) (b : Nat) : era h b b = none := by simp [era]
theorem era_ne (h : Heap) (b c : Nat) (hne : c ≠ b) : era h b c = h c := by simp [era, hne]

/-- The elements that cells make. -/
def elems (esz n : Nat) (ys : List V) : List V := if esz = 1 then ys.take n else (List.range n).map fun i => .agg ((ys.drop (i * esz)).take esz)

inductive Opnd where
  | t (n : Nat)
  | c (v : V)
  deriving Inhabited
def Opnd.ev (tm : Nat → V) : Opnd → V
  | .t n => tm n
  | .c v => v
def evo (tm : Nat → V) : Option Opnd → Option V
  | none => none
  | some x => some (x.ev tm)
def Opnd.tmps : Opnd → List Nat
  | .t n => [n]
  | .c _ => []

/-- What two values that are compared are; what a map's key is. -/
inductive TK where
  | num | bool | ptr
  deriving DecidableEq, Inhabited
inductive KT where
  | int | str | pair
  deriving DecidableEq, Inhabited

inductive AOp where
  | mov (x : Opnd)
  | pick (c a b : Opnd)
  | alloc (e : TypeId) (z : List V)
  | box (e : TypeId) (n : Nat) (x : Opnd)
  | boxp (e : TypeId) (n : Nat) (x : Opnd)
  | build (z : List V) (ps : List (Nat × Nat × Opnd))
  | buildS (e : TypeId) (esz len : Nat) (z : List V) (ps : List (Nat × Opnd))
  | buildSp (e : TypeId) (esz len : Nat) (z : List V) (ps : List (Nat × Opnd))
  | load (g : Option Nat) (a : Opnd)
  | store (n : Nat) (a x : Opnd)
  | nchk (x : Opnd)
  | bin (op : BinOp) (tk : TK) (x y : Opnd)
  | un (op : UnOp) (x : Opnd)
  | cint (k : IntKind) (x : Opnd)
  | cstr (x : Opnd)
  | mkS (e : TypeId) (esz bytes : Nat) (z : List V) (l c : Opnd)
  | slS (esz : Nat) (x : Opnd) (lo hi mx : Option Opnd)
  | slStr (x : Opnd) (lo hi : Option Opnd)
  | fld (off : Nat) (x : Opnd)
  | fldv (off : Nat) (g : Option Nat) (x : Opnd)
  | idx (esz : Nat) (x i : Opnd)
  | idxA (len esz : Nat) (x i : Opnd)
  | idxStr (x i : Opnd)
  | mkM
  | look (kt : KT) (z : V) (ok : Bool) (m k : Opnd)
  | mupd (kt : KT) (m k v : Opnd)
  | ment (kt : KT) (z : V) (m k : Opnd)
  | ests (m s v : Opnd)
  | ext (i : Nat) (x : Opnd)
  | len (x : Opnd)
  | lenS (x : Opnd)
  | mn (x y : Opnd)
  | mx (x y : Opnd)
  | app (e : TypeId) (esz bytes : Nat) (s x : Opnd)
  | call (f : FuncId) (xs : List Opnd)
  | qcall (f : FuncId) (xs : List Opnd)
  deriving Inhabited

structure AOper where
  dst : Option Nat
  op : AOp
  guard : Option (Nat × Bool)
  deriving Inhabited

inductive RTree where
  | nil
  | op (o : AOper) (t : RTree)
  | both (a b : RTree)
  | tt
  | ff
  deriving Inhabited

/-- Expressions: operations on values whose operands are told by place. -/
inductive Ex where
  | t (n : Nat)
  | c (v : V)
  | o0 (o : AOp)
  | o1 (o : AOp) (a : Ex)
  | o2 (o : AOp) (a b : Ex)
  | o3 (o : AOp) (a b d : Ex)
  | gd (g : Ex) (w : Bool) (e : Ex)
  | or (a b : Ex)
  | and (a b : Ex)
  deriving Inhabited

/-- A region whose values in between are written as expressions. -/
inductive CTree where
  | nil
  | asg (d : Nat) (e : Ex) (t : CTree)
  | chk (e : Ex) (t : CTree)
  | op (d : Option Nat) (o : AOp) (as : List Ex) (t : CTree)
  | opg (g : Ex) (w : Bool) (d : Option Nat) (o : AOp) (as : List Ex) (t : CTree)
  | both (a b : CTree)
  | tt
  | ff
  deriving Inhabited

inductive ACode where
  | skip
  | region (t : RTree)
  | seq (a b : ACode)
  | cond (c : Opnd) (a b : ACode)
  | block (id : Nat) (a : ACode)
  | loop (a : ACode)
  | exit (id : Nat)
  | ret
  | ghost
  | keep (S : List Nat)
  | after (a : ACode) (S : List Nat)
  | cregion (S : List Nat) (t : CTree)
  deriving Inhabited

/-! ### What the operations do -/

def setAt (cs : List V) (off : Nat) : List V → List V
  | [] => cs
  | v :: vs => setAt (cs.set off v) (off + 1) vs

def fillB (tm : Nat → V) (cs : List V) : List (Nat × Nat × Opnd) → Option (List V)
  | [] => some cs
  | (off, size, x) :: rest =>
    let v := (x.ev tm).cells
    if v.length = size ∧ off + size ≤ cs.length ∧ v.all V.isCell then fillB tm (setAt cs off v) rest else none

def fillS (tm : Nat → V) (esz : Nat) (cs : List V) : List (Nat × Opnd) → Option (List V)
  | [] => some cs
  | (i, x) :: rest =>
    let v := (x.ev tm).cells
    if v.length = esz ∧ i * esz + esz ≤ cs.length ∧ v.all V.isCell then fillS tm esz (setAt cs (i * esz) v) rest else none

def ld (g : Option Nat) (xs : List V) : Option V :=
  match g with
  | none => xs.head?
  | some n => if n ≤ xs.length then some (.agg (xs.take n)) else none

def intBin (op : BinOp) (k : IntKind) (a b : Int) : Option V :=
  match op with
  | .add => some (.int k (k.wrap (a + b)))
  | .sub => some (.int k (k.wrap (a - b)))
  | .mul => some (.int k (k.wrap (a * b)))
  | .quo => if b = 0 then none else some (.int k (k.wrap (a.tdiv b)))
  | .rem => if b = 0 then none else some (.int k (a.tmod b))
  | .and => some (.int k (k.wrap (BitVec.ofInt k.bits a &&& BitVec.ofInt k.bits b).toNat))
  | .or => some (.int k (k.wrap (BitVec.ofInt k.bits a ||| BitVec.ofInt k.bits b).toNat))
  | .xor => some (.int k (k.wrap (BitVec.ofInt k.bits a ^^^ BitVec.ofInt k.bits b).toNat))
  | .andNot => some (.int k (k.wrap (BitVec.ofInt k.bits a &&& ~~~ BitVec.ofInt k.bits b).toNat))
  | .eql => some (.bool (a == b))
  | .neq => some (.bool (a != b))
  | .lss => some (.bool (decide (a < b)))
  | .leq => some (.bool (decide (a ≤ b)))
  | .gtr => some (.bool (decide (a > b)))
  | .geq => some (.bool (decide (a ≥ b)))
  | _ => none

def shiftBin (op : BinOp) (k : IntKind) (a b : Int) : Option V :=
  if b < 0 then none else
  match op with
  | .shl => some (.int k (k.wrap (a * 2 ^ (min b.toNat k.bits))))
  | .shr => some (.int k (a.fdiv (2 ^ (min b.toNat k.bits))))
  | _ => none

def strBin (op : BinOp) (a b : ByteArray) : Option V :=
  match op with
  | .add => if a.size + b.size ≤ 9223372036854775807 then some (.str (a ++ b)) else none
  | .eql => some (.bool (a.toList == b.toList))
  | .neq => some (.bool (!(a.toList == b.toList)))
  | _ => none

def eqBin (op : BinOp) (t : Bool) : Option V :=
  match op with
  | .eql => some (.bool t)
  | .neq => some (.bool (!t))
  | _ => none

def isShift : BinOp → Bool
  | .shl | .shr => true
  | _ => false

def abin (op : BinOp) (tk : TK) (x y : V) : Option V :=
  match tk, x, y with
  | .num, .int k a, .int k' b => if isShift op then shiftBin op k a b else if k = k' then intBin op k a b else none
  | .num, .str a, .str b => strBin op a b
  | .bool, .bool a, .bool b => eqBin op (a == b)
  | .ptr, .nilp, .nilp => eqBin op true
  | .ptr, .ptr _ _, .nilp => eqBin op false
  | .ptr, .pp _, .nilp => eqBin op false
  | .ptr, .nilp, .ptr _ _ => eqBin op false
  | .ptr, .nilp, .pp _ => eqBin op false
  | _, _, _ => none

def aun (op : UnOp) (x : V) : Option V :=
  match op, x with
  | .neg, .int k n => some (.int k (k.wrap (0 - n)))
  | .xor, .int k n => some (.int k (k.wrap (BitVec.ofInt k.bits (if k.signed then -1 else k.max) ^^^ BitVec.ofInt k.bits n).toNat))
  | .not, .bool b => some (.bool (!b))
  | _, _ => none

/-- The bytes of cells. -/
def bytesOfV : List V → Option (List UInt8)
  | [] => some []
  | .int .u8 n :: rest => (bytesOfV rest).map (UInt8.ofNat n.toNat :: ·)
  | _ => none

/-- The cells that a slice shows. -/
def cellsOf (h : Heap) (esz : Nat) (v : V) : Option (List V × Nat) :=
  match v with
  | .nils => some ([], 0)
  | .ps e xs => if e = esz then some (xs.flatMap V.cells, xs.length) else none
  | .sl e b off n _ =>
    if e = esz then
      match h b with
      | some (.cells _ e' xs) => if e' = esz ∧ off * esz + n * esz ≤ xs.length then some ((xs.drop (off * esz)).take (n * esz), n) else none
      | _ => none
    else none
  | _ => none

def keyEq : V → V → Option Bool
  | .int k a, .int k' b => if k = k' then some (a == b) else none
  | .str a, .str b => some (a == b)
  | .agg [.int k a, .int l b], .agg [.int k' a', .int l' b'] => if k = k' ∧ l = l' then some (a == a' && b == b') else none
  | _, _ => none

/-- The place of a key. -/
def findK (k : V) : List (V × V) → Nat → Option (Option Nat)
  | [], _ => some none
  | (k', _) :: es, i =>
    match keyEq k k' with
    | some true => some (some i)
    | some false => findK k es (i + 1)
    | none => none

/-- May it be a key of a map of that kind? -/
def V.isKey (kt : KT) (v : V) : Bool :=
  match kt, v with
  | .int, .int _ _ => true
  | .str, .str _ => true
  | .pair, .agg [.int _ _, .int _ _] => true
  | _, _ => false

def aslS (esz : Nat) (x : V) (lo hi : Option Int) (mx : Option Int) : Option V :=
  match x with
  | .nils => if lo.getD 0 = 0 ∧ hi.getD 0 = 0 ∧ mx.getD 0 = 0 then some .nils else none
  | .ps e xs =>
    let l := lo.getD 0
    let u := hi.getD xs.length
    if e = esz ∧ mx = none ∧ 0 ≤ l ∧ l ≤ u ∧ u ≤ xs.length then some (.ps e ((xs.take u.toNat).drop l.toNat)) else none
  | .sl e b off n cap =>
    let l := lo.getD 0
    let u := hi.getD n
    if e = esz ∧ 0 ≤ l ∧ l ≤ u ∧ u ≤ n then
      if 0 < l ∧ u = l then (if mx = none then some (.ps e []) else none) else
      match mx with
      | none => some (.sl e b (off + l.toNat) (u - l).toNat (cap.map (· - l.toNat)))
      | some m => if u ≤ m ∧ m ≤ n then some (.sl e b (off + l.toNat) (u - l).toNat (some (m - l).toNat)) else none
    else none
  | _ => none

def aPick (c x y : V) : Option V :=
  match c with
  | .bool t => some (if t then x else y)
  | _ => none
def aLoad (h : Heap) (g : Option Nat) (x : V) : Option V :=
  match x with
  | .ptr b off =>
    match h b with
    | some (.cells _ _ xs) => ld g (xs.drop off)
    | _ => none
  | .pp xs => ld g xs
  | _ => none
def aNchk (x : V) : Option V :=
  match x with
  | .ptr b off => some (.ptr b off)
  | .pp xs => some (.pp xs)
  | _ => none
def aCint (k : IntKind) (x : V) : Option V :=
  match x with
  | .int _ n => some (.int k (k.wrap n))
  | _ => none
def aCstr (h : Heap) (x : V) : Option V :=
  match cellsOf h 1 x with
  | some (cs, _) => (bytesOfV cs).map fun l => .str ⟨l.toArray⟩
  | none => none
def aSlS (esz : Nat) (x : V) (lo hi mx : Option V) : Option V :=
  match lo, hi, mx with
  | none, none, none => aslS esz x none none none
  | some (.int _ l), none, none => aslS esz x (some l) none none
  | none, some (.int _ u), none => aslS esz x none (some u) none
  | some (.int _ l), some (.int _ u), none => aslS esz x (some l) (some u) none
  | none, some (.int _ u), some (.int _ m) => aslS esz x none (some u) (some m)
  | some (.int _ l), some (.int _ u), some (.int _ m) => aslS esz x (some l) (some u) (some m)
  | _, _, _ => none
def aslStr (s : ByteArray) (lo hi : Option Int) : Option V :=
  if 0 ≤ lo.getD 0 ∧ lo.getD 0 ≤ hi.getD s.size ∧ hi.getD s.size ≤ s.size then some (.str (s.extract (lo.getD 0).toNat (hi.getD s.size).toNat)) else none
def aSlStr (x : V) (lo hi : Option V) : Option V :=
  match x, lo, hi with
  | .str s, none, none => aslStr s none none
  | .str s, some (.int _ l), none => aslStr s (some l) none
  | .str s, none, some (.int _ u) => aslStr s none (some u)
  | .str s, some (.int _ l), some (.int _ u) => aslStr s (some l) (some u)
  | _, _, _ => none
def aFld (off : Nat) (x : V) : Option V :=
  match x with
  | .ptr b o => some (.ptr b (o + off))
  | .pp xs => some (.pp (xs.drop off))
  | _ => none
def aFldv (off : Nat) (g : Option Nat) (x : V) : Option V :=
  match x with
  | .agg xs => match g with
    | none => xs[off]?
    | some n => if off + n ≤ xs.length then some (.agg ((xs.drop off).take n)) else none
  | _ => none
def aIdx (esz : Nat) (x i : V) : Option V :=
  match x, i with
  | .ps e xs, .int _ n => if e = esz ∧ 0 ≤ n then (xs[n.toNat]?).map fun v => .pp v.cells else none
  | .sl e b off len _, .int _ n => if e = esz ∧ 0 ≤ n ∧ n < len then some (.ptr b ((off + n.toNat) * esz)) else none
  | _, _ => none
def aIdxA (len esz : Nat) (x i : V) : Option V :=
  match x, i with
  | .ptr b o, .int _ n => if 0 ≤ n ∧ n < len then some (.ptr b (o + n.toNat * esz)) else none
  | .pp xs, .int _ n => if 0 ≤ n ∧ n < len then some (.pp (xs.drop (n.toNat * esz))) else none
  | _, _ => none
def aIdxStr (x i : V) : Option V :=
  match x, i with
  | .str s, .int _ n => if 0 ≤ n then (s[n.toNat]?).map fun b => .int .u8 b.toNat else none
  | _, _ => none
def aLook (h : Heap) (kt : KT) (z : V) (ok : Bool) (m k : V) : Option V :=
  match m with
  | .nilm => if k.isKey kt then some (if ok then .tuple [z, .bool false] else z) else none
  | .mp b =>
    match h b with
    | some (.map es) =>
      if k.isKey kt then
        match findK k es 0 with
        | some (some i) => (es[i]?).map fun e => if ok then .tuple [e.2, .bool true] else e.2
        | some none => some (if ok then .tuple [z, .bool false] else z)
        | none => none
      else none
    | _ => none
  | _ => none
def aExt (i : Nat) (x : V) : Option V :=
  match x with
  | .tuple xs => xs[i]?
  | _ => none
def aLen (x : V) : Option V :=
  match x with
  | .nils => some (.int .i64 0)
  | .ps _ xs => some (.int .i64 xs.length)
  | .sl _ _ _ n _ => some (.int .i64 n)
  | _ => none
def aLenS (x : V) : Option V :=
  match x with
  | .str s => some (.int .i64 s.size)
  | _ => none
def aMn (x y : V) : Option V :=
  match x, y with
  | .int k a, .int _ b => some (.int k (if b < a then b else a))
  | _, _ => none
def aMx (x y : V) : Option V :=
  match x, y with
  | .int k a, .int _ b => some (.int k (if b > a then b else a))
  | _, _ => none

section
variable (qf : FuncId → List V → Heap → Option V)

/-- The operations that leave the heap as it is. -/
def apure (o : AOp) (tm : Nat → V) (h : Heap) : Option V :=
  match o with
  | .mov x => some (x.ev tm)
  | .pick c a b => aPick (c.ev tm) (a.ev tm) (b.ev tm)
  | .build z ps => (fillB tm z ps).map .agg
  | .load g a => aLoad h g (a.ev tm)
  | .nchk x => aNchk (x.ev tm)
  | .bin op tk x y => abin op tk (x.ev tm) (y.ev tm)
  | .un op x => aun op (x.ev tm)
  | .cint k x => aCint k (x.ev tm)
  | .cstr x => aCstr h (x.ev tm)
  | .slS esz x lo hi mx => aSlS esz (x.ev tm) (evo tm lo) (evo tm hi) (evo tm mx)
  | .slStr x lo hi => aSlStr (x.ev tm) (evo tm lo) (evo tm hi)
  | .fld off x => aFld off (x.ev tm)
  | .fldv off g x => aFldv off g (x.ev tm)
  | .idx esz x i => aIdx esz (x.ev tm) (i.ev tm)
  | .idxA len esz x i => aIdxA len esz (x.ev tm) (i.ev tm)
  | .idxStr x i => aIdxStr (x.ev tm) (i.ev tm)
  | .look kt z ok m k => aLook h kt z ok (m.ev tm) (k.ev tm)
  | .ext i x => aExt i (x.ev tm)
  | .len x => aLen (x.ev tm)
  | .lenS x => aLenS (x.ev tm)
  | .mn x y => aMn (x.ev tm) (y.ev tm)
  | .mx x y => aMx (x.ev tm) (y.ev tm)
  | .qcall f xs => qf f (xs.map (·.ev tm)) h
  | _ => none

/-- Put a key's value: the new entries. -/
def putK (kt : KT) (es : List (V × V)) (k v : V) : Option (List (V × V)) :=
  if k.isKey kt then
    match findK k es 0 with
    | some (some i) => some (es.modify i fun e => (k, v))
    | some none => some (es ++ [(k, v)])
    | none => none
  else none

def wBuildS (e : TypeId) (esz len : Nat) (cs : Option (List V)) (h : Heap) (K : V → Heap → Prop) : Prop :=
  match cs with
  | some cs => ∀ b, h b = none → K (.sl esz b 0 len none) (upd h b (.cells e esz cs))
  | none => False
def wBuildSp (esz len : Nat) (cs : Option (List V)) (h : Heap) (K : V → Heap → Prop) : Prop :=
  match cs with
  | some cs => len * esz ≤ cs.length ∧ K (.ps esz (elems esz len cs)) h
  | none => False
def wMkS (e : TypeId) (esz bytes : Nat) (z : List V) (l c : V) (h : Heap) (K : V → Heap → Prop) : Prop :=
  match l, c with
  | .int .i64 l, .int .i64 c => (0 ≤ l ∧ l ≤ c ∧ c ≤ 140737488355328 ∧ bytes * c ≤ 140737488355328) ∧
    ∀ b, h b = none → K (.sl esz b 0 l.toNat none) (upd h b (.cells e esz ((List.replicate l.toNat z).flatten)))
  | _, _ => False
def wStore (n : Nat) (a x : V) (h : Heap) (K : V → Heap → Prop) : Prop :=
  match a with
  | .ptr b off =>
    match h b with
    | some (.cells e esz xs) => (x.cells.length = n ∧ x.cells.all V.isCell = true ∧ off + n ≤ xs.length) ∧ K .undef (upd h b (.cells e esz (setAt xs off x.cells)))
    | _ => False
  | _ => False
def wMupd (kt : KT) (m k v : V) (h : Heap) (K : V → Heap → Prop) : Prop :=
  match m with
  | .mp b =>
    match h b with
    | some (.map es) =>
      match putK kt es k v with
      | some es' => K .undef (upd h b (.map es'))
      | none => False
    | _ => False
  | _ => False
def wMent (kt : KT) (z m k : V) (h : Heap) (K : V → Heap → Prop) : Prop :=
  match m with
  | .mp b =>
    match h b with
    | some (.map es) =>
      k.isKey kt = true ∧
      match findK k es 0 with
      | some (some i) =>
        match es[i]? with
        | some e => K (.tuple [e.2, .int .i64 i]) (upd h b (.map (es.modify i fun e => (k, e.2))))
        | none => False
      | some none => K (.tuple [z, .int .i64 es.length]) (upd h b (.map (es ++ [(k, z)])))
      | none => False
    | _ => False
  | _ => False
def wEsts (m s v : V) (h : Heap) (K : V → Heap → Prop) : Prop :=
  match m, s with
  | .mp b, .int .i64 i =>
    match h b with
    | some (.map es) => (0 ≤ i ∧ i < es.length) ∧ K .undef (upd h b (.map (es.modify i.toNat fun e => (e.1, v))))
    | _ => False
  | _, _ => False
def wApp (e : TypeId) (esz bytes : Nat) (s x : V) (h : Heap) (K : V → Heap → Prop) : Prop :=
  match cellsOf h esz x with
  | none => False
  | some (ys, m) => ys.all V.isCell = true ∧
    match s with
    | .nils => if m = 0 then K .nils h else m * bytes ≤ 140737488355328 ∧ m ≤ 140737488355328 ∧ ∀ b, h b = none → K (.sl esz b 0 m none) (upd h b (.cells e esz ys))
    | .sl e1 b off n cap =>
      match h b with
      | some (.cells e2 e3 xs) =>
        (e1 = esz ∧ e2 = e ∧ e3 = esz ∧ (n + m) * bytes ≤ 140737488355328 ∧ n + m ≤ 140737488355328) ∧
        match cap with
        | some c => (c = n ∧ off * esz + n * esz ≤ xs.length) ∧ (if m = 0 then K (.sl e1 b off n cap) h else
            ∀ b', h b' = none → K (.sl esz b' 0 (n + m) none) (upd h b' (.cells e esz ((xs.drop (off * esz)).take (n * esz) ++ ys))))
        | none => (off = 0 ∧ xs.length = n * esz) ∧ ∀ b', h b' = none → K (.sl esz b' 0 (n + m) none) (upd (era h b) b' (.cells e esz (xs ++ ys)))
      | _ => False
    | _ => False

/-- What an operation comes to: `K` is asked of its value and the heap behind it. `C`: the contracts of the called functions. -/
def Wop (C : FuncId → List V → Heap → (V → Heap → Prop) → Prop) (o : AOp) (tm : Nat → V) (h : Heap) (K : V → Heap → Prop) : Prop :=
  match o with
  | .alloc e z => ∀ b, h b = none → K (.ptr b 0) (upd h b (.cells e z.length z))
  | .box e n x => ((x.ev tm).cells.length = n ∧ (x.ev tm).cells.all V.isCell = true) ∧ ∀ b, h b = none → K (.ptr b 0) (upd h b (.cells e n (x.ev tm).cells))
  | .boxp _ n x => ((x.ev tm).cells.length = n ∧ (x.ev tm).cells.all V.isCell = true) ∧ K (.pp (x.ev tm).cells) h
  | .buildSp _ esz len z ps => wBuildSp esz len (fillS tm esz ((List.replicate len z).flatten) ps) h K
  | .buildS e esz len z ps => wBuildS e esz len (fillS tm esz ((List.replicate len z).flatten) ps) h K
  | .mkS e esz bytes z l c => wMkS e esz bytes z (l.ev tm) (c.ev tm) h K
  | .mkM => ∀ b, h b = none → K (.mp b) (upd h b (.map []))
  | .store n a x => wStore n (a.ev tm) (x.ev tm) h K
  | .mupd kt m k v => wMupd kt (m.ev tm) (k.ev tm) (v.ev tm) h K
  | .ment kt z m k => wMent kt z (m.ev tm) (k.ev tm) h K
  | .ests m s v => wEsts (m.ev tm) (s.ev tm) (v.ev tm) h K
  | .app e esz bytes s x => wApp e esz bytes (s.ev tm) (x.ev tm) h K
  | .call f xs => C f (xs.map (·.ev tm)) h K
  | o =>
    match apure qf o tm h with
    | some v => K v h
    | none => False

def Woper (C : FuncId → List V → Heap → (V → Heap → Prop) → Prop) (o : AOper) (K : (Nat → V) → Heap → Prop) (tm : Nat → V) (h : Heap) : Prop :=
  match o.guard with
  | none => Wop qf C o.op tm h fun v h' => K (putd tm o.dst v) h'
  | some (t, want) =>
    match tm t with
    | .bool b => if b = want then Wop qf C o.op tm h (fun v h' => K (putd tm o.dst v) h') else K (putd tm o.dst .undef) h
    | .undef => K (putd tm o.dst .undef) h
    | _ => False

def Wt (C : FuncId → List V → Heap → (V → Heap → Prop) → Prop) : RTree → ((Nat → V) → Heap → Prop) → (Nat → V) → Heap → Prop
  | .nil, K, tm, h => K tm h
  | .op o t, K, tm, h => Woper qf C o (Wt C t K) tm h
  | .both a b, K, tm, h => Wt C a K tm h ∧ Wt C b K tm h
  | .tt, _, _, _ => True
  | .ff, _, _, _ => False

/-- How a piece of code is left. -/
inductive AExit where
  | normal
  | exit (id : Nat)
  | ret


end

end Go.Abs

/- What a world has to do with an abstract state; what a step leaves of it. -/
namespace Go.Abs

/-- Which block of the world stands for an abstract block, and for how many elements it has room. -/
abbrev Ren := Nat → Option (Nat × Nat)

inductive VRel (ρ : Ren) (O : Nat → Prop) (w : World) : V → Value → Prop where
  | undef : VRel ρ O w .undef Go.undef
  | top (cv : Value) : VRel ρ O w .top cv
  | int (k : IntKind) (n : Int) : VRel ρ O w (.int k n) (.int k n)
  | bool (b : Bool) : VRel ρ O w (.bool b) (.bool b)
  | str (s : ByteArray) : VRel ρ O w (.str s) (.string s)
  | nils : VRel ρ O w .nils (.slice none 0 0)
  | ps (esz : Nat) (xs : List V) (A : Option Addr) (c : Nat) (cvs : Nat → Value) (hc : xs.length ≤ c) (hm : c ≤ maxLen) (hs : ∀ x ∈ xs, x.cells.length = esz)
      (ha : xs ≠ [] → ∃ a, A = some a ∧ ¬ O a.block ∧ a.block < w.heap.size ∧
        ∀ (i : Nat) (x : V), xs[i]? = some x → ∀ (j : Nat) (u : V), x.cells[j]? = some u → w.cell? (a.add (i * esz + j)) = some (cvs (i * esz + j)))
      (hv : ∀ (i : Nat) (x : V), xs[i]? = some x → ∀ (j : Nat) (u : V), x.cells[j]? = some u → VRel ρ O w u (cvs (i * esz + j))) :
      VRel ρ O w (.ps esz xs) (.slice A xs.length c)
  | sl (esz b off n cb K : Nat) (hr : ρ b = some (cb, K)) (hk : off + n ≤ K) : VRel ρ O w (.sl esz b off n none) (.slice (some ⟨cb, off * esz, none⟩) n (K - off))
  | slc (esz b off n c cb K : Nat) (hr : ρ b = some (cb, K)) (hn : n ≤ c) (hk : off + c ≤ K) : VRel ρ O w (.sl esz b off n (some c)) (.slice (some ⟨cb, off * esz, none⟩) n c)
  | nilp : VRel ρ O w .nilp (.pointer none)
  | ptr (b off cb K : Nat) (hr : ρ b = some (cb, K)) : VRel ρ O w (.ptr b off) (.pointer (some ⟨cb, off, none⟩))
  | pp (xs : List V) (a : Addr) (cvs : Nat → Value) (ho : ¬ O a.block) (hl : a.block < w.heap.size)
      (ha : ∀ (j : Nat) (u : V), xs[j]? = some u → w.cell? (a.add j) = some (cvs j)) (hv : ∀ (j : Nat) (u : V), xs[j]? = some u → VRel ρ O w u (cvs j)) : VRel ρ O w (.pp xs) (.pointer (some a))
  | agg (xs : List V) (cs : List Value) (hl : xs.length = cs.length) (hv : ∀ (j : Nat) (x : V) (u : Value), xs[j]? = some x → cs[j]? = some u → VRel ρ O w x u) : VRel ρ O w (.agg xs) (.agg cs.toArray)
  | tuple (xs : List V) (cs : List Value) (hl : xs.length = cs.length) (hv : ∀ (j : Nat) (x : V) (u : Value), xs[j]? = some x → cs[j]? = some u → VRel ρ O w x u) : VRel ρ O w (.tuple xs) (.tuple cs.toArray)
  | nilm : VRel ρ O w .nilm (.map none)
  | mp (b cb K : Nat) (hr : ρ b = some (cb, K)) : VRel ρ O w (.mp b) (.map (some cb))
  | fn (f : FuncId) : VRel ρ O w (.fn f) (.func (.func f) #[] #[])

theorem add_block (a : Addr) (n : Nat) : (a.add n).block = a.block := by unfold Addr.add; split <;> rfl

theorem VRel.mono {ρ ρ' : Ren} {O O' : Nat → Prop} {w w' : World} (hρ : ∀ b x, ρ b = some x → ρ' b = some x) (hsz : w.heap.size ≤ w'.heap.size)
    (hO : ∀ k, k < w.heap.size → O' k → O k) (hw : ∀ k, k < w.heap.size → ¬ O k → w'.heap[k]? = w.heap[k]?) {v : V} {cv : Value} (h : VRel ρ O w v cv) : VRel ρ' O' w' v cv := by
  induction h with
  | undef => exact .undef
  | top cv => exact .top cv
  | int k n => exact .int k n
  | bool b => exact .bool b
  | str s => exact .str s
  | nils => exact .nils
  | ps esz xs A c cvs hc hm hs ha hv ih =>
    refine .ps esz xs A c cvs hc hm hs (fun hne => ?_) ih
    obtain ⟨a, rfl, ho, hl, hcell⟩ := ha hne
    refine ⟨a, rfl, fun h => ho (hO _ hl h), by omega, fun i x hx j c hj => ?_⟩
    have := hcell i x hx j c hj
    rw [← this]
    exact World.cell?_of_block (w := w) (by rw [add_block]; exact hw _ hl ho)
  | sl esz b off n cb K hr hk => exact .sl esz b off n cb K (hρ _ _ hr) hk
  | slc esz b off n c cb K hr hn hk => exact .slc esz b off n c cb K (hρ _ _ hr) hn hk
  | nilp => exact .nilp
  | ptr b off cb K hr => exact .ptr b off cb K (hρ _ _ hr)
  | pp xs a cvs ho hl ha hv ih =>
    refine .pp xs a cvs (fun h => ho (hO _ hl h)) (by omega) (fun j c hj => ?_) ih
    rw [← ha j c hj]
    exact World.cell?_of_block (w := w) (by rw [add_block]; exact hw _ hl ho)
  | agg xs cs hl hv ih => exact .agg xs cs hl ih
  | tuple xs cs hl hv ih => exact .tuple xs cs hl ih
  | nilm => exact .nilm
  | mp b cb K hr => exact .mp b cb K (hρ _ _ hr)
  | fn f => exact .fn f

/-- The blocks of the world that stand for an abstract block. -/
def Own (ρ : Ren) (h : Heap) (k : Nat) : Prop := ∃ b K, h b ≠ none ∧ ρ b = some (k, K)

def BRel (ρ : Ren) (O : Nat → Prop) (w : World) (cb K : Nat) : Blk → Prop
  | .cells e esz xs => ∃ cur : Array Value, w.heap[cb]? = some (.cells cur e (0, 0)) ∧ cur.size = K * esz ∧ K ≤ maxLen ∧ xs.length ≤ cur.size ∧
      ∀ (j : Nat) (x : V), xs[j]? = some x → x.isCell = true ∧ ∃ cv, cur[j]? = some cv ∧ VRel ρ O w x cv
  | .map es => ∃ ces : Array MapEntry, w.heap[cb]? = some (.map ces ces.size) ∧ ces.size = es.length ∧
      ∀ (j : Nat) (k v : V), es[j]? = some (k, v) → ∃ me : MapEntry, ces[j]? = some me ∧ me.born = j ∧ VRel ρ O w k me.key ∧ VRel ρ O w v me.val

theorem BRel.mono {ρ ρ' : Ren} {O O' : Nat → Prop} {w w' : World} (hρ : ∀ b x, ρ b = some x → ρ' b = some x) (hsz : w.heap.size ≤ w'.heap.size)
    (hO : ∀ k, k < w.heap.size → O' k → O k) (hw : ∀ k, k < w.heap.size → ¬ O k → w'.heap[k]? = w.heap[k]?) {cb K : Nat} (hcb : w'.heap[cb]? = w.heap[cb]?) {x : Blk}
    (h : BRel ρ O w cb K x) : BRel ρ' O' w' cb K x := by
  cases x with
  | cells e esz xs =>
    obtain ⟨cur, h1, h2, h3, h4, h5⟩ := h
    refine ⟨cur, hcb.trans h1, h2, h3, h4, fun j x hx => ?_⟩
    obtain ⟨a, cv, b, c⟩ := h5 j x hx
    exact ⟨a, cv, b, c.mono hρ hsz hO hw⟩
  | map es =>
    obtain ⟨ces, h1, h2, h3⟩ := h
    refine ⟨ces, hcb.trans h1, h2, fun j k v hx => ?_⟩
    obtain ⟨me, a, b, c, d⟩ := h3 j k v hx
    exact ⟨me, a, b, c.mono hρ hsz hO hw, d.mono hρ hsz hO hw⟩

structure St (ρ : Ren) (h : Heap) (w : World) : Prop where
  fresh : ∃ N, ∀ b, N ≤ b → ρ b = none
  lt : ∀ b c K, ρ b = some (c, K) → c < w.heap.size
  cap : ∀ b c K, ρ b = some (c, K) → K ≤ maxLen
  inj : ∀ b b' c K K', h b ≠ none → h b' ≠ none → ρ b = some (c, K) → ρ b' = some (c, K') → b = b'
  blk : ∀ b x, h b = some x → ∃ cb K, ρ b = some (cb, K) ∧ BRel ρ (Own ρ h) w cb K x

structure Fr (ρ : Ren) (h : Heap) (w : World) (ρ' : Ren) (h' : Heap) (w' : World) : Prop where
  os : w'.os = w.os
  tape : w'.tape = w.tape
  output : w'.output = w.output
  size : w.heap.size ≤ w'.heap.size
  ext : ∀ b x, ρ b = some x → ρ' b = some x
  keep : ∀ k, k < w.heap.size → ¬ Own ρ h k → w'.heap[k]? = w.heap[k]?
  own : ∀ k, k < w.heap.size → Own ρ' h' k → Own ρ h k

theorem Fr.refl (ρ : Ren) (h : Heap) (w : World) : Fr ρ h w ρ h w := ⟨rfl, rfl, rfl, Nat.le_refl _, fun _ _ h => h, fun _ _ _ => rfl, fun _ _ h => h⟩

theorem Fr.trans {ρ ρ' ρ'' : Ren} {h h' h'' : Heap} {w w' w'' : World} (a : Fr ρ h w ρ' h' w') (b : Fr ρ' h' w' ρ'' h'' w'') : Fr ρ h w ρ'' h'' w'' :=
  ⟨b.os.trans a.os, b.tape.trans a.tape, b.output.trans a.output, Nat.le_trans a.size b.size, fun c x hx => b.ext c x (a.ext c x hx),
    fun k hk ho => (b.keep k (Nat.lt_of_lt_of_le hk a.size) (fun h => ho (a.own k hk h))).trans (a.keep k hk ho),
    fun k hk ho => a.own k hk (b.own k (Nat.lt_of_lt_of_le hk a.size) ho)⟩

theorem VRel.fr {ρ ρ' : Ren} {h h' : Heap} {w w' : World} (f : Fr ρ h w ρ' h' w') {v : V} {cv : Value} (hv : VRel ρ (Own ρ h) w v cv) : VRel ρ' (Own ρ' h') w' v cv :=
  hv.mono f.ext f.size f.own f.keep

theorem BRel.fr {ρ ρ' : Ren} {h h' : Heap} {w w' : World} (f : Fr ρ h w ρ' h' w') {cb K : Nat} (hcb : w'.heap[cb]? = w.heap[cb]?) {x : Blk} (hv : BRel ρ (Own ρ h) w cb K x) : BRel ρ' (Own ρ' h') w' cb K x :=
  hv.mono f.ext f.size f.own f.keep hcb

/-- The temporaries. -/
def TRel (ρ : Ren) (O : Nat → Prop) (w : World) (tm : Nat → V) (a : Act) : Prop := ∀ t, VRel ρ O w (tm t) (a.tmps.getD t Go.undef)

theorem TRel.fr {ρ ρ' : Ren} {h h' : Heap} {w w' : World} (f : Fr ρ h w ρ' h' w') {tm : Nat → V} {a : Act} (ht : TRel ρ (Own ρ h) w tm a) : TRel ρ' (Own ρ' h') w' tm a :=
  fun t => (ht t).fr f

theorem TRel.putd {ρ : Ren} {O : Nat → Prop} {w : World} {tm : Nat → V} {a : Act} (ht : TRel ρ O w tm a) {d : Option Nat} (hd : ∀ t, d = some t → t < a.tmps.size) {v : V} {cv : Value} (hv : VRel ρ O w v cv) :
    TRel ρ O w (putd tm d v) (a.put d cv) := by
  intro t
  cases d with
  | none => exact ht t
  | some d =>
    have hd := hd d rfl
    show VRel ρ O w (put tm d v t) _
    unfold put Act.put
    by_cases e : t = d
    · subst e
      rw [if_pos rfl]
      simpa [hd] using hv
    · rw [if_neg e]
      have := ht t
      simpa [Array.getElem?_setIfInBounds_ne (Ne.symm e)] using this

theorem putd_size (a : Act) (d : Option Nat) (v : Value) : (a.put d v).tmps.size = a.tmps.size := by
  cases d <;> simp [Act.put]
theorem putd_defers (a : Act) (d : Option Nat) (v : Value) : (a.put d v).defers = a.defers := by
  cases d <;> simp [Act.put]

theorem Own.upd_of {ρ : Ren} {h : Heap} {b : Nat} {x : Blk} {k : Nat} (ho : Own ρ (upd h b x) k) : Own ρ h k ∨ ∃ K, ρ b = some (k, K) := by
  obtain ⟨c, K, hc, hr⟩ := ho
  by_cases e : c = b
  · subst e; exact .inr ⟨K, hr⟩
  · rw [upd_ne _ _ _ _ e] at hc; exact .inl ⟨c, K, hc, hr⟩

theorem Own.era_of {ρ : Ren} {h : Heap} {b : Nat} {k : Nat} (ho : Own ρ (era h b) k) : Own ρ h k := by
  obtain ⟨c, K, hc, hr⟩ := ho
  by_cases e : c = b
  · subst e; rw [era_eq] at hc; exact absurd rfl hc
  · rw [era_ne _ _ _ e] at hc; exact ⟨c, K, hc, hr⟩

/-- Nothing but a draw. -/
theorem St.same {ρ : Ren} {h : Heap} {w w' : World} (hs : St ρ h w) (heap : w'.heap = w.heap) (os : w'.os = w.os) (tape : w'.tape = w.tape) (output : w'.output = w.output) : St ρ h w' ∧ Fr ρ h w ρ h w' := by
  have f : Fr ρ h w ρ h w' := ⟨os, tape, output, by rw [heap]; exact Nat.le_refl _, fun _ _ h => h, fun _ _ _ => by rw [heap], fun _ _ h => h⟩
  refine ⟨⟨hs.fresh, fun b c K hr => by rw [heap]; exact hs.lt b c K hr, hs.cap, hs.inj, fun b x hx => ?_⟩, f⟩
  obtain ⟨cb, K, hr, hb⟩ := hs.blk b x hx
  exact ⟨cb, K, hr, hb.fr f (by rw [heap])⟩

/-- A block is let go. -/
theorem St.era {ρ : Ren} {h : Heap} {w : World} (hs : St ρ h w) (b : Nat) : St ρ (era h b) w ∧ Fr ρ h w ρ (era h b) w := by
  have f : Fr ρ h w ρ (Abs.era h b) w := ⟨rfl, rfl, rfl, Nat.le_refl _, fun _ _ h => h, fun _ _ _ => rfl, fun _ _ h => h.era_of⟩
  have hne : ∀ c, Abs.era h b c ≠ none → h c ≠ none := by
    intro c hc
    by_cases e : c = b
    · subst e; rw [era_eq] at hc; exact absurd rfl hc
    · rwa [era_ne _ _ _ e] at hc
  refine ⟨⟨hs.fresh, hs.lt, hs.cap, fun c c' k K K' hc hc' => hs.inj c c' k K K' (hne _ hc) (hne _ hc'), fun c x hx => ?_⟩, f⟩
  by_cases e : c = b
  · subst e; rw [era_eq] at hx; exact absurd hx (by simp)
  · rw [era_ne _ _ _ e] at hx
    obtain ⟨cb, K, hr, hb⟩ := hs.blk c x hx
    exact ⟨cb, K, hr, hb.fr f rfl⟩

/-- A smaller heap. -/
theorem St.sub {ρ : Ren} {h h' : Heap} {w : World} (hs : St ρ h w) (hsub : ∀ b x, h' b = some x → h b = some x) : St ρ h' w ∧ Fr ρ h w ρ h' w := by
  have hne : ∀ c, h' c ≠ none → h c ≠ none := by
    intro c hc
    cases e : h' c with
    | none => exact absurd e hc
    | some x => rw [hsub c x e]; simp
  have ho : ∀ k, Own ρ h' k → Own ρ h k := fun k ⟨c, K, hc, hr⟩ => ⟨c, K, hne c hc, hr⟩
  have f : Fr ρ h w ρ h' w := ⟨rfl, rfl, rfl, Nat.le_refl _, fun _ _ h => h, fun _ _ _ => rfl, fun k _ h => ho k h⟩
  refine ⟨⟨hs.fresh, hs.lt, hs.cap, fun c c' k K K' hc hc' => hs.inj c c' k K K' (hne _ hc) (hne _ hc'), fun c x hx => ?_⟩, f⟩
  obtain ⟨cb, K, hr, hb⟩ := hs.blk c x (hsub c x hx)
  exact ⟨cb, K, hr, hb.fr f rfl⟩

def ren (ρ : Ren) (b : Nat) (x : Nat × Nat) : Ren := fun c => if c = b then some x else ρ c
theorem ren_eq (ρ : Ren) (b : Nat) (x : Nat × Nat) : ren ρ b x b = some x := by simp [ren]
theorem ren_ne (ρ : Ren) (b c : Nat) (x : Nat × Nat) (h : c ≠ b) : ren ρ b x c = ρ c := by simp [ren, h]

/-- A new block, whatever it holds. `w'`: the world behind it; the new block's number is not owned yet. -/
theorem St.bind {ρ : Ren} {h : Heap} {w w' : World} (hs : St ρ h w) {b cb K : Nat} (hKm : K ≤ maxLen) (hb : ρ b = none) (hhb : h b = none) {x : Blk}
    (os : w'.os = w.os) (tape : w'.tape = w.tape) (output : w'.output = w.output) (size : w.heap.size ≤ w'.heap.size)
    (hcb : w.heap.size ≤ cb) (hlt : cb < w'.heap.size) (hold : ∀ k, k < w.heap.size → w'.heap[k]? = w.heap[k]?)
    (hrel : Fr ρ h w (ren ρ b (cb, K)) (upd h b x) w' → BRel (ren ρ b (cb, K)) (Own (ren ρ b (cb, K)) (upd h b x)) w' cb K x) :
    St (ren ρ b (cb, K)) (upd h b x) w' ∧ Fr ρ h w (ren ρ b (cb, K)) (upd h b x) w' := by
  have hext : ∀ c y, ρ c = some y → ren ρ b (cb, K) c = some y := by
    intro c y hy
    have : c ≠ b := by rintro rfl; rw [hb] at hy; cases hy
    rw [ren_ne _ _ _ _ this]; exact hy
  have hown : ∀ k, k < w.heap.size → Own (ren ρ b (cb, K)) (upd h b x) k → Own ρ h k := by
    rintro k hk ⟨c, K', hc, hr⟩
    by_cases e : c = b
    · subst e; rw [ren_eq] at hr; injection hr with hr; injection hr with hr; omega
    · rw [ren_ne _ _ _ _ e] at hr; rw [upd_ne _ _ _ _ e] at hc; exact ⟨c, K', hc, hr⟩
  have f : Fr ρ h w (ren ρ b (cb, K)) (upd h b x) w' := ⟨os, tape, output, size, hext, fun k hk _ => hold k hk, hown⟩
  refine ⟨⟨?_, ?_, ?_, ?_, ?_⟩, f⟩
  · obtain ⟨N, hN⟩ := hs.fresh
    refine ⟨max N (b + 1), fun c hc => ?_⟩
    rw [ren_ne _ _ _ _ (by omega)]
    exact hN c (by omega)
  · intro c k K' hr
    by_cases e : c = b
    · subst e; rw [ren_eq] at hr; injection hr with hr; injection hr with hr; omega
    · rw [ren_ne _ _ _ _ e] at hr; exact Nat.lt_of_lt_of_le (hs.lt _ _ _ hr) size
  · intro c k K' hr
    by_cases e : c = b
    · subst e; rw [ren_eq] at hr; injection hr with hr; injection hr with _ hr; omega
    · rw [ren_ne _ _ _ _ e] at hr; exact hs.cap _ _ _ hr
  · intro c c' k K1 K2 hc hc' hr hr'
    by_cases e : c = b
    · subst e
      by_cases e' : c' = c
      · exact e'.symm
      · rw [ren_eq] at hr; rw [ren_ne _ _ _ _ e'] at hr'
        injection hr with hr; injection hr with hr
        have := hs.lt _ _ _ hr'
        omega
    · rw [ren_ne _ _ _ _ e] at hr; rw [upd_ne _ _ _ _ e] at hc
      by_cases e' : c' = b
      · subst e'
        rw [ren_eq] at hr'
        injection hr' with hr'; injection hr' with hr'
        have := hs.lt _ _ _ hr
        omega
      · rw [ren_ne _ _ _ _ e'] at hr'; rw [upd_ne _ _ _ _ e'] at hc'
        exact hs.inj c c' k K1 K2 hc hc' hr hr'
  · intro c y hy
    by_cases e : c = b
    · subst e
      rw [upd_eq] at hy; injection hy with hy; subst hy
      exact ⟨cb, K, ren_eq _ _ _, hrel f⟩
    · rw [upd_ne _ _ _ _ e] at hy
      obtain ⟨k, K', hr, hb'⟩ := hs.blk c y hy
      exact ⟨k, K', hext _ _ hr, hb'.fr f (hold k (hs.lt _ _ _ hr))⟩

/-- A block's content turns. -/
theorem St.turn {ρ : Ren} {h : Heap} {w w' : World} (hs : St ρ h w) {b cb K : Nat} (hr : ρ b = some (cb, K)) {x0 x : Blk} (hhb : h b = some x0)
    (os : w'.os = w.os) (tape : w'.tape = w.tape) (output : w'.output = w.output) (size : w'.heap.size = w.heap.size)
    (hold : ∀ k, k ≠ cb → w'.heap[k]? = w.heap[k]?)
    (hrel : Fr ρ h w ρ (upd h b x) w' → BRel ρ (Own ρ (upd h b x)) w' cb K x) :
    St ρ (upd h b x) w' ∧ Fr ρ h w ρ (upd h b x) w' := by
  have hob : Own ρ h cb := ⟨b, K, by rw [hhb]; simp, hr⟩
  have hown : ∀ k, Own ρ (upd h b x) k → Own ρ h k := by
    rintro k ho
    rcases ho.upd_of with ho | ⟨K', hk⟩
    · exact ho
    · rw [hr] at hk; injection hk with hk; injection hk with hk; subst hk; exact hob
  have f : Fr ρ h w ρ (upd h b x) w' := ⟨os, tape, output, by omega, fun _ _ h => h, fun k _ hk => hold k (fun e => hk (e ▸ hob)), fun k _ ho => hown k ho⟩
  have hne : ∀ c, upd h b x c ≠ none → h c ≠ none := by
    intro c hc
    by_cases e : c = b
    · subst e; rw [hhb]; simp
    · rwa [upd_ne _ _ _ _ e] at hc
  refine ⟨⟨hs.fresh, fun c k K' hk => by rw [size]; exact hs.lt _ _ _ hk, hs.cap, fun c c' k K1 K2 hc hc' => hs.inj c c' k K1 K2 (hne _ hc) (hne _ hc'), fun c y hy => ?_⟩, f⟩
  by_cases e : c = b
  · subst e
    rw [upd_eq] at hy; injection hy with hy; subst hy
    exact ⟨cb, K, hr, hrel f⟩
  · rw [upd_ne _ _ _ _ e] at hy
    obtain ⟨k, K', hk, hb'⟩ := hs.blk c y hy
    refine ⟨k, K', hk, hb'.fr f (hold k ?_)⟩
    rintro rfl
    exact e (hs.inj c b k K' K (by rw [hy]; simp) (by rw [hhb]; simp) hk hr)

/-- An old block is let go under its name; a new name stands for it, or for a new block. -/
theorem St.rename {ρ : Ren} {h : Heap} {w w' : World} (hs : St ρ h w) {b b' cb K cb' K' : Nat} (hKm : K' ≤ maxLen) (hr : ρ b = some (cb, K)) {x0 x : Blk} (hhb : h b = some x0) (hb' : ρ b' = none) (hhb' : h b' = none)
    (hcb : cb' = cb ∨ w.heap.size ≤ cb') (hlt : cb' < w'.heap.size)
    (os : w'.os = w.os) (tape : w'.tape = w.tape) (output : w'.output = w.output) (size : w.heap.size ≤ w'.heap.size)
    (hold : ∀ k, k < w.heap.size → k ≠ cb → w'.heap[k]? = w.heap[k]?)
    (hrel : Fr ρ h w (ren ρ b' (cb', K')) (upd (Abs.era h b) b' x) w' → BRel (ren ρ b' (cb', K')) (Own (ren ρ b' (cb', K')) (upd (Abs.era h b) b' x)) w' cb' K' x) :
    St (ren ρ b' (cb', K')) (upd (Abs.era h b) b' x) w' ∧ Fr ρ h w (ren ρ b' (cb', K')) (upd (Abs.era h b) b' x) w' := by
  have hbb : b' ≠ b := by rintro rfl; rw [hhb] at hhb'; cases hhb'
  have hob : Own ρ h cb := ⟨b, K, by rw [hhb]; simp, hr⟩
  have hcl := hs.lt _ _ _ hr
  have hext : ∀ c y, ρ c = some y → ren ρ b' (cb', K') c = some y := by
    intro c y hy
    have : c ≠ b' := by rintro rfl; rw [hb'] at hy; cases hy
    rw [ren_ne _ _ _ _ this]; exact hy
  have hown : ∀ k, k < w.heap.size → Own (ren ρ b' (cb', K')) (upd (Abs.era h b) b' x) k → Own ρ h k := by
    rintro k hk0 ⟨c, K2, hc, hk⟩
    by_cases e : c = b'
    · subst e; rw [ren_eq] at hk; injection hk with hk; injection hk with hk; subst hk
      rcases hcb with rfl | hcb
      · exact hob
      · omega
    · rw [ren_ne _ _ _ _ e] at hk; rw [upd_ne _ _ _ _ e] at hc
      exact Own.era_of ⟨c, K2, hc, hk⟩
  have f : Fr ρ h w (ren ρ b' (cb', K')) (upd (Abs.era h b) b' x) w' := ⟨os, tape, output, size, hext, fun k hk0 hk => hold k hk0 (fun e => hk (e ▸ hob)), hown⟩
  have hne : ∀ c, c ≠ b' → upd (Abs.era h b) b' x c ≠ none → c ≠ b ∧ h c ≠ none := by
    intro c e hc
    rw [upd_ne _ _ _ _ e] at hc
    by_cases e2 : c = b
    · subst e2; rw [era_eq] at hc; exact absurd rfl hc
    · rw [era_ne _ _ _ e2] at hc; exact ⟨e2, hc⟩
  have clash : ∀ c k2, c ≠ b' → upd (Abs.era h b) b' x c ≠ none → ρ c = some (cb', k2) → False := by
    intro c k2 e hc hk
    obtain ⟨h1, h2⟩ := hne c e hc
    rcases hcb with rfl | hcb
    · exact h1 (hs.inj c b _ _ _ h2 (by rw [hhb]; simp) hk hr)
    · have := hs.lt _ _ _ hk; omega
  refine ⟨⟨?_, ?_, ?_, ?_, ?_⟩, f⟩
  · obtain ⟨N, hN⟩ := hs.fresh
    refine ⟨max N (b' + 1), fun c hc => ?_⟩
    rw [ren_ne _ _ _ _ (by omega)]
    exact hN c (by omega)
  · intro c k K2 hk
    by_cases e : c = b'
    · subst e; rw [ren_eq] at hk; injection hk with hk; injection hk with hk; subst hk; exact hlt
    · rw [ren_ne _ _ _ _ e] at hk; exact Nat.lt_of_lt_of_le (hs.lt _ _ _ hk) size
  · intro c k K2 hk
    by_cases e : c = b'
    · subst e; rw [ren_eq] at hk; injection hk with hk; injection hk with _ hk; omega
    · rw [ren_ne _ _ _ _ e] at hk; exact hs.cap _ _ _ hk
  · intro c c' k K1 K2 hc hc' hk hk'
    by_cases e : c = b'
    · by_cases e' : c' = b'
      · rw [e, e']
      · subst e
        rw [ren_eq] at hk; injection hk with hk; injection hk with hk; subst hk
        rw [ren_ne _ _ _ _ e'] at hk'
        exact (clash c' _ e' hc' hk').elim
    · obtain ⟨h1, h2⟩ := hne c e hc
      rw [ren_ne _ _ _ _ e] at hk
      by_cases e' : c' = b'
      · subst e'
        rw [ren_eq] at hk'; injection hk' with hk'; injection hk' with hk'; subst hk'
        exact (clash c _ e hc hk).elim
      · obtain ⟨_, h4⟩ := hne c' e' hc'
        rw [ren_ne _ _ _ _ e'] at hk'
        exact hs.inj c c' k K1 K2 h2 h4 hk hk'
  · intro c y hy
    by_cases e : c = b'
    · subst e
      rw [upd_eq] at hy; injection hy with hy; subst hy
      exact ⟨cb', K', ren_eq _ _ _, hrel f⟩
    · have h0 := hne c e (by rw [hy]; simp)
      rw [upd_ne _ _ _ _ e, era_ne _ _ _ h0.1] at hy
      obtain ⟨k, K2, hk, hbr⟩ := hs.blk c y hy
      refine ⟨k, K2, hext _ _ hk, hbr.fr f (hold k (hs.lt _ _ _ hk) ?_)⟩
      rintro rfl
      exact h0.1 (hs.inj c b k K2 K h0.2 (by rw [hhb]; simp) hk hr)

/-- A name that nothing bears. -/
theorem St.name {ρ : Ren} {h : Heap} {w : World} (hs : St ρ h w) : ∃ b, ρ b = none ∧ h b = none := by
  obtain ⟨N, hN⟩ := hs.fresh
  refine ⟨N, hN N (Nat.le_refl _), ?_⟩
  cases e : h N with
  | none => rfl
  | some x =>
    obtain ⟨cb, K, hr, _⟩ := hs.blk N x e
    rw [hN N (Nat.le_refl _)] at hr
    cases hr

end Go.Abs

/- From a loaded function to abstract code: a Lean function, asked by the kernel at each function. -/
namespace Go.Abs

def tv : Value → Option V
  | .bool b => some (.bool b)
  | .int k n => some (.int k n)
  | .string s => some (.str s)
  | .pointer none => some .nilp
  | .slice none 0 0 => some .nils
  | .map none => some .nilm
  | _ => none

def trO : Operand → Option Opnd
  | .tmp t => some (.t t)
  | .const v => (tv v).map .c
  | .func f => some (.c (.fn f))
  | .global _ => none

def trOs : List Operand → Option (List Opnd)
  | [] => some []
  | x :: xs =>
    match trO x, trOs xs with
    | some y, some ys => some (y :: ys)
    | _, _ => none

def tvs : List Value → Option (List V)
  | [] => some []
  | x :: xs =>
    match tv x, tvs xs with
    | some y, some ys => some (y :: ys)
    | _, _ => none

section
variable (P : Program)

def szOf (t : TypeId) : Option Nat := (P.info? t).map (·.size)

/-- The cells of a type's zero value. -/
def zeroOf (t : TypeId) : Option (List V) :=
  match P.info? t with
  | some i =>
    match i.zero with
    | some z => if z.cells.size = i.size then tvs z.cells.toList else none
    | none => none
  | none => none

def isAggB (t : TypeId) : Option Bool :=
  match P.underlying t with
  | some (.struct _) => some true
  | some (.array _ _) => some true
  | some _ => some false
  | none => none

/-- How a variable of the type is read: as one cell, or as so many. -/
def gOf (t : TypeId) : Option (Option Nat) :=
  match isAggB P t, szOf P t with
  | some true, some n => some (some n)
  | some false, some _ => some none
  | _, _ => none

/-- The zero value of a type, as a value. -/
def zeroV (t : TypeId) : Option V :=
  match P.info? t with
  | some i =>
    match i.zero with
    | some (.agg cs) => (tvs cs.toList).map .agg
    | some z => tv z
    | none => none
  | none => none

def ktOf (t : TypeId) : Option KT :=
  match P.underlying t with
  | some (.int _) => some .int
  | some .string => some .str
  | some (.struct fs) =>
    match fs.toList with
    | [f, g] =>
      match P.underlying f.type, P.underlying g.type, P.info? f.type, P.info? g.type with
      | some (.int _), some (.int _), some i, some j =>
        if f.offset = 0 ∧ g.offset = 1 ∧ f.name ≠ "_" ∧ g.name ≠ "_" ∧ i.size = 1 ∧ j.size = 1 ∧ P.stoodInHeld t = false then some .pair else none
      | _, _, _, _ => none
    | _ => none
  | _ => none

def tkOf (t : TypeId) : Option TK :=
  match P.underlying t with
  | some (.int _) => some .num
  | some .string => some .num
  | some .bool => some .bool
  | some (.pointer _) => some .ptr
  | _ => none

def trPartsS (fs : Array Field) : List (Nat × Operand) → Option (List (Nat × Nat × Opnd))
  | [] => some []
  | (i, x) :: rest =>
    match fs[i]?, trO x, trPartsS fs rest with
    | some f, some y, some r =>
      match szOf P f.type with
      | some n => some ((f.offset, n, y) :: r)
      | none => none
    | _, _, _ => none

def trPartsA (size : Nat) : List (Nat × Operand) → Option (List (Nat × Nat × Opnd))
  | [] => some []
  | (i, x) :: rest =>
    match trO x, trPartsA size rest with
    | some y, some r => some ((i * size, size, y) :: r)
    | _, _ => none

def trPartsL : List (Nat × Operand) → Option (List (Nat × Opnd))
  | [] => some []
  | (i, x) :: rest =>
    match trO x, trPartsL rest with
    | some y, some r => some ((i, y) :: r)
    | _, _ => none

def trOpt : Option Operand → Option (Option Opnd)
  | none => some none
  | some x => (trO x).map some

def trCall (quiet : FuncId → Bool) (c : Call) : Option AOp :=
  match c.callee with
  | .builtin .len =>
    match c.args.toList, c.argTypes.toList with
    | [x], [t] =>
      match P.underlying t, trO x with
      | some (.slice _), some x => some (.len x)
      | some .string, some x => some (.lenS x)
      | _, _ => none
    | _, _ => none
  | .builtin .min =>
    match c.args.toList with
    | [x, y] => match trO x, trO y with
      | some x, some y => some (.mn x y)
      | _, _ => none
    | _ => none
  | .builtin .max =>
    match c.args.toList with
    | [x, y] => match trO x, trO y with
      | some x, some y => some (.mx x y)
      | _, _ => none
    | _ => none
  | .builtin .append =>
    match c.args.toList, c.argTypes.toList with
    | [s, x], [t, u] =>
      match P.underlying t, trO s, trO x with
      | some (.slice e), some s, some x =>
        match P.info? e, zeroOf P e with
        | some i, some _ => if t = u ∧ 0 < i.size then some (.app e i.size i.bytes s x) else none
        | _, _ => none
      | _, _, _ => none
    | _, _ => none
  | .value (.func f) =>
    match P.funcs[f]?, trOs c.args.toList with
    | some fn, some xs => if fn.body.isSome ∧ (fn.name == "runtime.NumGoroutine") = false then some (if quiet f then .qcall f xs else .call f xs) else none
    | _, _ => none
  | _ => none

def trOp (quiet : FuncId → Bool) (o : Op) : Option AOp :=
  match o with
  | .move x => (trO x).map .mov
  | .assign x => (trO x).map .mov
  | .pick c a b =>
    match trO c, trO a, trO b with
    | some c, some a, some b => some (.pick c a b)
    | _, _, _ => none
  | .alloc e => (zeroOf P e).map (.alloc e)
  | .box e x =>
    match szOf P e, trO x with
    | some n, some x => some (.box e n x)
    | _, _ => none
  | .build t ps =>
    match zeroOf P t, P.underlying t with
    | some z, some (.struct fs) =>
      if fs.all (fun f => (P.info? f.type).isSome) then (trPartsS P fs ps.toList).map (.build z) else none
    | some z, some (.array _ e) =>
      match szOf P e with
      | some n => (trPartsA n ps.toList).map (.build z)
      | none => none
    | _, _ => none
  | .buildSlice t len ps =>
    match P.underlying t with
    | some (.slice e) =>
      match szOf P e, zeroOf P e, trPartsL ps.toList with
      | some n, some z, some ps => if len * n ≤ 2 ^ 24 ∧ 0 < n then some (.buildS e n len z ps) else none
      | _, _, _ => none
    | _ => none
  | .load t a =>
    match gOf P t, trO a with
    | some g, some a => some (.load g a)
    | _, _ => none
  | .store t a x =>
    match szOf P t, trO a, trO x with
    | some n, some a, some x => some (.store n a x)
    | _, _, _ => none
  | .nilCheck x => (trO x).map .nchk
  | .binOp op t x y _ =>
    match tkOf P t, trO x, trO y with
    | some tk, some x, some y => some (.bin op tk x y)
    | _, _, _ => none
  | .unOp op _ x => (trO x).map (.un op)
  | .convert s d x =>
    match P.underlying s, P.underlying d, trO x with
    | some (.int _), some (.int k), some x => some (.cint k x)
    | some (.slice e), some .string, some x => if P.underlying e matches some (.int .u8) then some (.cstr x) else none
    | _, _, _ => none
  | .makeSlice t l c =>
    match P.underlying t with
    | some (.slice e) =>
      match P.info? e, zeroOf P e, trO l, trO c with
      | some i, some z, some l, some c => if 0 < i.size then some (.mkS e i.size i.bytes z l c) else none
      | _, _, _, _ => none
    | _ => none
  | .slice t x lo hi mx =>
    match P.underlying t with
    | some (.slice e) =>
      match szOf P e, trO x, trOpt lo, trOpt hi, trOpt mx with
      | some n, some x, some lo, some hi, some mx => some (.slS n x lo hi mx)
      | _, _, _, _, _ => none
    | some .string =>
      match trO x, trOpt lo, trOpt hi, mx with
      | some x, some lo, some hi, none => some (.slStr x lo hi)
      | _, _, _, _ => none
    | _ => none
  | .fieldAddr s x f =>
    match P.underlying s, trO x with
    | some (.struct fs), some x =>
      match fs[f]? with
      | some f =>
        match szOf P f.type with
        | some n => if n = 0 then none else some (.fld f.offset x)
        | none => none
      | none => none
    | _, _ => none
  | .field s x f =>
    match P.underlying s, trO x with
    | some (.struct fs), some x =>
      match fs[f]? with
      | some f =>
        match gOf P f.type with
        | some g => some (.fldv f.offset g x)
        | none => none
      | none => none
    | _, _ => none
  | .indexAddr t x i =>
    match P.underlying t, trO x, trO i with
    | some (.slice e), some x, some i => (szOf P e).map fun n => .idx n x i
    | some (.array l e), some x, some i => (szOf P e).map fun n => .idxA l n x i
    | _, _, _ => none
  | .index t x i =>
    match P.underlying t, trO x, trO i with
    | some .string, some x, some i => some (.idxStr x i)
    | _, _, _ => none
  | .makeMap _ none => some .mkM
  | .lookup t m k ok =>
    match P.underlying t with
    | some (.map kt e) =>
      match ktOf P kt, zeroV P e, trO m, trO k with
      | some kt, some z, some m, some k => some (.look kt z ok m k)
      | _, _, _, _ => none
    | _ => none
  | .mapUpdate t m k v =>
    match P.underlying t with
    | some (.map kt _) =>
      match ktOf P kt, trO m, trO k, trO v with
      | some kt, some m, some k, some v => some (.mupd kt m k v)
      | _, _, _, _ => none
    | _ => none
  | .mapEntry t m k =>
    match P.underlying t with
    | some (.map kt e) =>
      match ktOf P kt, zeroV P e, trO m, trO k with
      | some kt, some z, some m, some k => some (.ment kt z m k)
      | _, _, _, _ => none
    | _ => none
  | .entryStore _ m s v =>
    match trO m, trO s, trO v with
    | some m, some s, some v => some (.ests m s v)
    | _, _, _ => none
  | .extract x i => (trO x).map (.ext i)
  | .call c => trCall P quiet c
  | _ => none

/-! ### Regions -/

def optTmps : Option Opnd → List Nat
  | none => []
  | some x => x.tmps

def AOp.tmps : AOp → List Nat
  | .mov x | .box _ _ x | .boxp _ _ x | .load _ x | .nchk x | .un _ x | .cint _ x | .cstr x | .fld _ x | .fldv _ _ x | .ext _ x | .len x | .lenS x => x.tmps
  | .pick c a b => c.tmps ++ a.tmps ++ b.tmps
  | .alloc _ _ | .mkM => []
  | .build _ ps => ps.flatMap fun p => p.2.2.tmps
  | .buildS _ _ _ _ ps => ps.flatMap fun p => p.2.tmps
  | .buildSp _ _ _ _ ps => ps.flatMap fun p => p.2.tmps
  | .store _ a x | .bin _ _ a x | .mkS _ _ _ _ a x | .idx _ a x | .idxA _ _ a x | .idxStr a x | .look _ _ _ a x | .ment _ _ a x | .mn a x | .mx a x | .app _ _ _ a x => a.tmps ++ x.tmps
  | .slS _ x lo hi m3 => x.tmps ++ optTmps lo ++ optTmps hi ++ optTmps m3
  | .slStr x lo hi => x.tmps ++ optTmps lo ++ optTmps hi
  | .mupd _ m k v | .ests m k v => m.tmps ++ k.tmps ++ v.tmps
  | .call _ xs | .qcall _ xs => xs.flatMap Opnd.tmps

/-- Kinds: 0 touches no memory; 1 reads; 2 all else. -/
def AOp.kind : AOp → Nat
  | .mov _ | .pick _ _ _ | .build _ _ | .nchk _ | .bin _ _ _ _ | .un _ _ | .cint _ _ | .slS _ _ _ _ _ | .slStr _ _ _ | .fld _ _ | .fldv _ _ _ | .idx _ _ _ | .idxA _ _ _ _
  | .idxStr _ _ | .ext _ _ | .len _ | .lenS _ | .mn _ _ | .mx _ _ => 0
  | .load _ _ | .cstr _ | .look _ _ _ _ _ | .qcall _ _ => 1
  | .alloc _ _ | .box _ _ _ | .boxp _ _ _ | .buildS _ _ _ _ _ | .buildSp _ _ _ _ _ | .mkS _ _ _ _ _ _ | .mkM => 2
  | _ => 3

def AOper.reads (o : AOper) : List Nat := o.op.tmps ++ (match o.guard with
  | some (t, _) => [t]
  | none => [])

/-- Neither looks at what the other writes. -/
def AOper.apart (x y : AOper) : Bool :=
  (match x.dst with
   | some d => !(y.reads.contains d) && y.dst != some d
   | none => true) &&
  (match y.dst with
   | some d => !(x.reads.contains d)
   | none => true)

/-- May `x` (kind 0 or 1) go ahead of `y`, whatever the state? -/
def AOper.ahead (x y : AOper) : Bool := x.apart y && (x.op.kind == 0 || (x.op.kind == 1 && y.op.kind < 3))

def dstOk (d : Option Nat) (N : Nat) : Bool :=
  match d with
  | some d => decide (d < N)
  | none => true

/-- What is made and never written again is seen so from its birth on: told by numbers above a million. -/
def frozen (quiet : FuncId → Bool) (d : Option Nat) : Bool :=
  match d with
  | some d => quiet (1000000 + d)
  | none => false
def AOp.fz (b : Bool) : AOp → AOp
  | .box e n x => if b then .boxp e n x else .box e n x
  | .buildS e esz n z ps => if b then .buildSp e esz n z ps else .buildS e esz n z ps
  | o => o

def trOper (quiet : FuncId → Bool) (N : Nat) (ops : Array Oper) (o : Oper) : Option AOper :=
  match trOp P quiet o.op with
  | none => none
  | some ao =>
    if dstOk o.dst N then
      match o.guard with
      | none => some ⟨o.dst, ao.fz (frozen quiet o.dst), none⟩
      | some (j, want) =>
        match (ops[j]?).bind (·.dst) with
        | some t => some ⟨o.dst, ao.fz (frozen quiet o.dst), some (t, want)⟩
        | none => none
    else none

def trOpers (quiet : FuncId → Bool) (N : Nat) (ops : Array Oper) : List Oper → Option (List AOper)
  | [] => some []
  | o :: rest =>
    match trOper P quiet N ops o, trOpers quiet N ops rest with
    | some x, some xs => some (x :: xs)
    | _, _ => none

def chain : List AOper → RTree
  | [] => .nil
  | o :: rest => .op o (chain rest)

/-- Is `i` among what must come before `j`? -/
def anc (ops : Array Oper) : Nat → Nat → Nat → Bool
  | 0, _, _ => false
  | k + 1, j, i => (((ops[j]?).map (·.after)).getD #[]).any fun e => Region.binds .any e && (e.on == i || anc ops k e.on i)

/-- For each operation, those that must come before it, as the bits of a number. -/
def maskOf (acc : List Nat) (o : Oper) : Nat := o.after.toList.foldl (fun m e => if Region.binds .any e then (m ||| 2 ^ e.on) ||| acc.getD e.on 0 else m) 0
def masks : List Oper → List Nat → List Nat
  | [], acc => acc
  | o :: rest, acc => masks rest (acc ++ [maskOf acc o])

def free (n : Nat) (aops : Array AOper) (ms : List Nat) (listed : Array Bool) (i : Nat) : Bool :=
  match aops[i]? with
  | none => false
  | some x =>
    (x.op.kind == 0 || x.op.kind == 1) && (List.range n).all fun j =>
      j == i || listed.getD j true || ((aops[j]?).map (x.ahead ·)).getD false || (ms.getD j 0).testBit i

def both : List RTree → RTree
  | [] => .tt
  | [t] => t
  | t :: ts => .both t (both ts)

def plan (ops : Array Oper) (aops : Array AOper) (ms : List Nat) : Nat → Array Bool → RTree
  | 0, listed => if (Region.ready .any ops listed).isEmpty then .nil else .ff
  | n + 1, listed =>
    let rs := Region.ready .any ops listed
    if rs.isEmpty then .nil else
    match rs.find? (free ops.size aops ms listed) with
    | some i =>
      match aops[i]? with
      | some o => .op o (plan ops aops ms n (listed.setIfInBounds i true))
      | none => .ff
    | none => both (rs.map fun i =>
        match aops[i]? with
        | some o => .op o (plan ops aops ms n (listed.setIfInBounds i true))
        | none => .ff)

def trCode (quiet : FuncId → Bool) (N : Nat) : Code → Option ACode
  | .skip => some .skip
  | .region _ ops draw =>
    match trOpers P quiet N ops ops.toList with
    | some as => some (.region (if draw then plan ops as.toArray (masks ops.toList []) ops.size (Array.replicate ops.size false) else chain as))
    | none => none
  | .seq a b =>
    match trCode quiet N a, trCode quiet N b with
    | some a, some b => some (.seq a b)
    | _, _ => none
  | .cond c a b =>
    match trO c, trCode quiet N a, trCode quiet N b with
    | some c, some a, some b => some (.cond c a b)
    | _, _, _ => none
  | .block id a => (trCode quiet N a).map (.block id)
  | .loop a => (trCode quiet N a).map .loop
  | .exit id => some (.exit id)
  | .ret => some .ret
  | _ => none

end

inductive ARes where
  | tmp (t : Nat)
  | cell (t : Nat) (g : Option Nat)
  deriving Inhabited

section
variable (P : Program)

def trRes : List ResultVar → Option (List ARes)
  | [] => some []
  | .tmp t :: rest => (trRes rest).map (.tmp t :: ·)
  | .cell t ty :: rest =>
    match gOf P ty, trRes rest with
    | some g, some r => some (.cell t g :: r)
    | _, _ => none

structure AFun where
  code : ACode
  res : List ARes
  deriving Inhabited

def trFun (quiet : FuncId → Bool) (f : FuncId) : Option AFun :=
  match P.funcs[f]? with
  | some fn =>
    match fn.body with
    | some c =>
      match trCode P quiet fn.ntmps c, trRes P fn.results.toList with
      | some c, some r => some ⟨c, r⟩
      | _, _ => none
    | none => none
  | none => none
end

/-- The value that a function returns. -/
def resOne (tm : Nat → V) (h : Heap) : ARes → Option V
  | .tmp t => some (tm t)
  | .cell t g => aLoad h g (tm t)

def resAll (tm : Nat → V) (h : Heap) : List ARes → Option (List V)
  | [] => some []
  | r :: rs =>
    match resOne tm h r, resAll tm h rs with
    | some v, some vs => some (v :: vs)
    | _, _ => none

def resV (tm : Nat → V) (h : Heap) (rs : List ARes) : Option V :=
  match resAll tm h rs with
  | some [v] => some v
  | some vs => some (.tuple vs)
  | none => none

end Go.Abs

/- The operations that leave the heap as it is: what the model's run of each comes to. -/
namespace Go.Abs

section
variable {P : Program} {ρ : Ren} {O : Nat → Prop} {w : World} {tm : Nat → V} {a : Act}

theorem tv_rel {c : Value} {v : V} (h : tv c = some v) : VRel ρ O w v c := by
  unfold tv at h
  split at h <;> first
    | (injection h with h; subst h; constructor)
    | cases h

theorem trO_rel (ht : TRel ρ O w tm a) {x : Operand} {y : Opnd} (h : trO x = some y) : VRel ρ O w (y.ev tm) (a.eval x) := by
  cases x with
  | tmp t => injection h with h; subst h; exact ht t
  | const v =>
    simp only [trO, Option.map_eq_some_iff] at h
    obtain ⟨u, hu, rfl⟩ := h
    exact tv_rel hu
  | func f => injection h with h; subst h; exact .fn f
  | global g => cases h

theorem tvs_rel : ∀ {cs : List Value} {vs : List V}, tvs cs = some vs → vs.length = cs.length ∧ ∀ (j : Nat) (x : V) (u : Value), vs[j]? = some x → cs[j]? = some u → VRel ρ O w x u
  | [], vs, h => by injection h with h; subst h; exact ⟨rfl, fun j x u hx => by simp at hx⟩
  | c :: cs, vs, h => by
    simp only [tvs] at h
    split at h
    · rename_i y ys h1 h2
      injection h with h; subst h
      obtain ⟨hl, hr⟩ := tvs_rel h2
      refine ⟨by simp [hl], fun j x u hx hu => ?_⟩
      cases j with
      | zero =>
        simp at hx hu; subst hx; subst hu
        exact tv_rel h1
      | succ j => exact hr j x u (by simpa using hx) (by simpa using hu)
    · cases h

theorem tv_isCell {c : Value} {v : V} (h : tv c = some v) : v.isCell = true := by
  unfold tv at h
  split at h <;> first
    | (injection h with h; subst h; rfl)
    | cases h

theorem tvs_isCell : ∀ {cs : List Value} {vs : List V}, tvs cs = some vs → vs.all V.isCell = true
  | [], vs, h => by injection h with h; subst h; rfl
  | c :: cs, vs, h => by
    simp only [tvs] at h
    split at h
    · rename_i y ys h1 h2
      injection h with h; subst h
      simp [tv_isCell h1, tvs_isCell h2]
    · cases h

/-- A value of one cell. -/
theorem isCell_oneCell {v : V} {cv : Value} (h : VRel ρ O w v cv) (hc : v.isCell = true) : cv.oneCell' = true := by
  cases h <;> first | rfl | cases hc

/-- The cells of related values are related. -/
theorem cells_rel {v : V} {cv : Value} (h : VRel ρ O w v cv) (hc : v.cells.all V.isCell = true) :
    v.cells.length = cv.cells.size ∧ ∀ (j : Nat) (x : V) (u : Value), v.cells[j]? = some x → cv.cells[j]? = some u → VRel ρ O w x u := by
  cases h with
  | agg xs cs hl hv => exact ⟨by simpa [V.cells, Value.cells] using hl, fun j x u hx hu => hv j x u hx (by simpa [Value.cells] using hu)⟩
  | undef => simp [V.cells, V.isCell] at hc
  | top => simp [V.cells, V.isCell] at hc
  | tuple => simp [V.cells, V.isCell] at hc
  | _ =>
    refine ⟨by simp [V.cells, Value.cells], fun j x u hx hu => ?_⟩
    cases j with
    | zero =>
      simp [V.cells, Value.cells] at hx hu
      subst hx; subst hu
      constructor <;> assumption
    | succ j => simp [V.cells] at hx

theorem run_isAgg {t : TypeId} {b : Bool} (h : isAggB P t = some b) : (isAgg t).run P w = .ok b w := by
  unfold isAggB at h
  split at h <;> first
    | (rename_i hu; injection h with h; subst h; simp [isAgg, run_underlying hu])
    | cases h

theorem szOf_info {t : TypeId} {n : Nat} (h : szOf P t = some n) : ∃ i, P.info? t = some i ∧ i.size = n := by
  simpa [szOf, Option.map_eq_some_iff] using h

theorem run_sizeOf' {t : TypeId} {n : Nat} (h : szOf P t = some n) : (sizeOf t).run P w = .ok n w := by
  obtain ⟨i, hi, rfl⟩ := szOf_info h
  simp [sizeOf, typeInfo, hi]

/-- What is read at an address whose cells are known. -/
theorem ld_sound {t : TypeId} {g : Option Nat} (hg : gOf P t = some g) {xs : List V} {ad : Addr} {cvs : Nat → Value}
    (hc : ∀ (j : Nat) (u : V), xs[j]? = some u → w.cell? (ad.add j) = some (cvs j) ∧ VRel ρ O w u (cvs j)) {v : V} (hv : ld g xs = some v) :
    ∃ cv, (loadVar t ad).run P w = .ok cv w ∧ VRel ρ O w v cv := by
  unfold gOf at hg
  split at hg
  · rename_i n ha hn
    injection hg with hg; subst hg
    simp only [ld] at hv
    split at hv
    · rename_i hle
      injection hv with hv; subst hv
      have hcells : ∀ j, j < n → w.cell? (ad.add j) = some (cvs j) := fun j hj => (hc j _ (List.getElem?_eq_getElem (by omega))).1
      refine ⟨.agg ((List.range n).map cvs).toArray, ?_, ?_⟩
      · simp only [loadVar, Sem.run_bind, run_isAgg ha, Result.andThen_ok, run_sizeOf' hn, if_true, run_loadCells w ad n cvs hcells, Sem.run_pure]
      · refine .agg _ _ (by simp; omega) (fun j x u hx hu => ?_)
        rw [List.getElem?_take] at hx
        split at hx
        · rename_i hj
          have hu' : u = cvs j := by
            simp [List.getElem?_map, List.getElem?_range hj] at hu
            exact hu.symm
          subst hu'
          exact (hc j x hx).2
        · cases hx
    · cases hv
  · rename_i n ha hn
    injection hg with hg; subst hg
    simp only [ld] at hv
    cases xs with
    | nil => cases hv
    | cons x rest =>
      simp at hv; subst hv
      obtain ⟨h1, h2⟩ := hc 0 x rfl
      have h1' : w.cell? ad = some (cvs 0) := by simpa [Addr.add] using h1
      refine ⟨cvs 0, ?_, h2⟩
      simp [loadVar, run_isAgg ha, h1']
  · cases hg

theorem add_add (ad : Addr) (n m : Nat) : (ad.add n).add m = ad.add (n + m) := by
  unfold Addr.add
  by_cases h1 : n = 0
  · subst h1; simp
  · by_cases h2 : m = 0
    · subst h2; simp [h1]
    · simp [h1, h2, Nat.add_assoc]

theorem cell_at {cb off : Nat} {cur : Array Value} {e : TypeId} (h : w.heap[cb]? = some (.cells cur e (0, 0))) (j : Nat) :
    w.cell? ((⟨cb, off, none⟩ : Addr).add j) = cur[off + j]? := by
  unfold Addr.add
  split
  · rename_i hj; subst hj; simp [World.cell?, h]
  · simp [World.cell?, h]

/-- The cells behind a pointer to a block of the heap. -/
theorem ptr_cells {h : Heap} (hs : St ρ h w) {b off cb K : Nat} (hr : ρ b = some (cb, K)) {e : TypeId} {esz : Nat} {xs : List V} (hb : h b = some (.cells e esz xs)) :
    ∃ cvs : Nat → Value, ∀ (j : Nat) (u : V), (xs.drop off)[j]? = some u → w.cell? ((⟨cb, off, none⟩ : Addr).add j) = some (cvs j) ∧ VRel ρ (Own ρ h) w u (cvs j) := by
  obtain ⟨cb', K', hr', cur, h1, h2, h3, h4, h5⟩ := hs.blk b _ hb
  rw [hr] at hr'; injection hr' with hr'; injection hr' with e1 e2; subst e1; subst e2
  refine ⟨fun j => cur.getD (off + j) undef, fun j u hu => ?_⟩
  rw [List.getElem?_drop] at hu
  obtain ⟨_, cv, hcv, hrel⟩ := h5 _ _ hu
  rw [cell_at h1]
  simp [hcv, hrel]

theorem load_sound {h : Heap} (hs : St ρ h w) {t : TypeId} {g : Option Nat} (hg : gOf P t = some g) {x : V} {cx : Value} (hx : VRel ρ (Own ρ h) w x cx) {v : V}
    (hv : aLoad h g x = some v) :
    ∃ cv, (Instr.loadAt t cx).run P w = .ok cv w ∧ VRel ρ (Own ρ h) w v cv := by
  cases hx with
  | ptr b off cb K hr =>
    simp only [aLoad] at hv
    split at hv
    · rename_i e esz xs hb
      obtain ⟨cvs, hc⟩ := ptr_cells hs (off := off) hr hb
      obtain ⟨cv, h1, h2⟩ := ld_sound hg hc hv
      exact ⟨cv, by simpa [Instr.loadAt, Instr.sureAddr] using h1, h2⟩
    · cases hv
  | pp xs ad cvs ho hl ha hv' =>
    obtain ⟨cv, h1, h2⟩ := ld_sound (ρ := ρ) (O := Own ρ h) hg (fun j u hu => ⟨ha j u hu, hv' j u hu⟩) hv
    exact ⟨cv, by simpa [Instr.loadAt, Instr.sureAddr] using h1, h2⟩
  | _ => cases hv

theorem fld_sound {s : TypeId} {fs : Array Field} (hu : P.underlying s = some (.struct fs)) {f : Nat} {fd : Field} (hf : fs[f]? = some fd) {n : Nat} (hn : szOf P fd.type = some n) (h0 : n ≠ 0)
    {x : V} {cx : Value} (hx : VRel ρ O w x cx) {v : V}
    (hv : aFld fd.offset x = some v) :
    ∃ cv, (Instr.fieldAt s cx f).run P w = .ok cv w ∧ VRel ρ O w v cv := by
  cases hx with
  | ptr b off cb K hr =>
    injection hv with hv; subst hv
    refine ⟨.pointer (some ⟨cb, off + fd.offset, none⟩), ?_, .ptr b _ cb K hr⟩
    simp [Instr.fieldAt, run_underlying hu, hf, Instr.sureAddr, fieldPlace, run_sizeOf' hn, h0, Addr.add]
  | pp xs ad cvs ho hl ha hv' =>
    injection hv with hv; subst hv
    refine ⟨.pointer (some (ad.add fd.offset)), ?_, .pp _ _ (fun j => cvs (fd.offset + j)) (by rwa [add_block]) (by rwa [add_block]) (fun j u hu => ?_) (fun j u hu => ?_)⟩
    · simp [Instr.fieldAt, run_underlying hu, hf, Instr.sureAddr, fieldPlace, run_sizeOf' hn, h0]
    · rw [List.getElem?_drop] at hu; rw [add_add]; exact ha _ _ hu
    · rw [List.getElem?_drop] at hu; exact hv' _ _ hu
  | _ => cases hv

theorem idx_sound {t e : TypeId} (hu : P.underlying t = some (.slice e)) {n : Nat} (hn : szOf P e = some n)
    {x i : V} {cx ci : Value} (hx : VRel ρ O w x cx) (hi : VRel ρ O w i ci) {v : V}
    (hv : aIdx n x i = some v) :
    ∃ cv, (Instr.indexAt t cx ci).run P w = .ok cv w ∧ VRel ρ O w v cv := by
  cases hx with
  | ps esz xs A c cvs hc hm hs ha hv' =>
    cases hi with
    | int k m =>
      simp only [aIdx] at hv
      split at hv
      · rename_i h0
        obtain ⟨rfl, h0⟩ := h0
        simp only [Option.map_eq_some_iff] at hv
        obtain ⟨u, hu', rfl⟩ := hv
        have hlt : m.toNat < xs.length := (List.getElem?_eq_some_iff.1 hu').1
        obtain ⟨ad, rfl, ho, hl, hcell⟩ := ha (by rintro rfl; simp at hlt)
        refine ⟨.pointer (some (ad.add (m.toNat * esz))), ?_, .pp _ _ (fun j => cvs (m.toNat * esz + j)) (by rwa [add_block]) (by rwa [add_block]) (fun j u hj => ?_) (fun j u hj => ?_)⟩
        · have h1 : m < (xs.length : Int) := by omega
          simp [Instr.indexAt, asIntOf, run_underlying hu, h0, h1, run_sizeOf' hn]
        · rw [add_add]; exact hcell _ _ hu' _ _ hj
        · exact hv' _ _ hu' _ _ hj
      · cases hv
    | _ => cases hv
  | sl esz b off len cb K hr hk =>
    cases hi with
    | int k m =>
      simp only [aIdx] at hv
      split at hv
      · rename_i h0
        obtain ⟨rfl, h0, h1⟩ := h0
        injection hv with hv; subst hv
        refine ⟨.pointer (some ⟨cb, (off + m.toNat) * esz, none⟩), ?_, .ptr b _ cb K hr⟩
        simp [Instr.indexAt, asIntOf, run_underlying hu, h0, h1, run_sizeOf' hn, Addr.add, Nat.add_mul]
      · cases hv
    | _ => cases hv
  | slc esz b off len c cb K hr hn' hk =>
    cases hi with
    | int k m =>
      simp only [aIdx] at hv
      split at hv
      · rename_i h0
        obtain ⟨rfl, h0, h1⟩ := h0
        injection hv with hv; subst hv
        refine ⟨.pointer (some ⟨cb, (off + m.toNat) * esz, none⟩), ?_, .ptr b _ cb K hr⟩
        simp [Instr.indexAt, asIntOf, run_underlying hu, h0, h1, run_sizeOf' hn, Addr.add, Nat.add_mul]
      · cases hv
    | _ => cases hv
  | _ => cases hv

end
end Go.Abs

/- More operations that leave the heap as it is. -/
namespace Go.Abs

section
variable {P : Program} {ρ : Ren} {O : Nat → Prop} {w : World} {tm : Nat → V} {a : Act}

theorem idxA_sound {t e : TypeId} {l : Nat} (hu : P.underlying t = some (.array l e)) {n : Nat} (hn : szOf P e = some n)
    {x i : V} {cx ci : Value} (hx : VRel ρ O w x cx) (hi : VRel ρ O w i ci) {v : V}
    (hv : aIdxA l n x i = some v) :
    ∃ cv, (Instr.indexAt t cx ci).run P w = .ok cv w ∧ VRel ρ O w v cv := by
  cases hx with
  | ptr b off cb K hr =>
    cases hi with
    | int k m =>
      simp only [aIdxA, aIdxStr] at hv
      split at hv
      · rename_i h0
        obtain ⟨h0, h1⟩ := h0
        injection hv with hv; subst hv
        refine ⟨.pointer (some ⟨cb, off + m.toNat * n, none⟩), ?_, .ptr b _ cb K hr⟩
        simp [Instr.indexAt, asIntOf, run_underlying hu, h0, h1, run_sizeOf' hn, Addr.add, Instr.sureAddr]
      · cases hv
    | _ => cases hv
  | pp xs ad cvs ho hl ha hv' =>
    cases hi with
    | int k m =>
      simp only [aIdxA, aIdxStr] at hv
      split at hv
      · rename_i h0
        obtain ⟨h0, h1⟩ := h0
        injection hv with hv; subst hv
        refine ⟨.pointer (some (ad.add (m.toNat * n))), ?_, .pp _ _ (fun j => cvs (m.toNat * n + j)) (by rwa [add_block]) (by rwa [add_block]) (fun j u hj => ?_) (fun j u hj => ?_)⟩
        · simp [Instr.indexAt, asIntOf, run_underlying hu, h0, h1, run_sizeOf' hn, Instr.sureAddr]
        · rw [List.getElem?_drop] at hj; rw [add_add]; exact ha _ _ hj
        · rw [List.getElem?_drop] at hj; exact hv' _ _ hj
      · cases hv
    | _ => cases hv
  | _ => cases hv

theorem idxStr_sound {t : TypeId} (hu : P.underlying t = some .string) {x i : V} {cx ci : Value} (hx : VRel ρ O w x cx) (hi : VRel ρ O w i ci) {v : V}
    (hv : aIdxStr x i = some v) :
    ∃ cv, (Instr.index t cx ci).run P w = .ok cv w ∧ VRel ρ O w v cv := by
  cases hx with
  | str s =>
    cases hi with
    | int k m =>
      simp only [aIdxA, aIdxStr] at hv
      split at hv
      · rename_i h0
        simp only [Option.map_eq_some_iff] at hv
        obtain ⟨b, hb, rfl⟩ := hv
        refine ⟨.int .u8 b.toNat, ?_, .int _ _⟩
        simp [Instr.index, asIntOf, run_underlying hu, h0, hb]
      · cases hv
    | _ => cases hv
  | _ => cases hv

/-! ### Slices of slices -/

theorem ps_cut {esz : Nat} {xs : List V} {A : Option Addr} {c : Nat} (hx : VRel ρ O w (.ps esz xs) (.slice A xs.length c)) (l u : Nat) (hl : l ≤ u) (hu : u ≤ xs.length) :
    VRel ρ O w (.ps esz ((xs.take u).drop l)) (.slice (if c = l then A else A.map (·.add (l * esz))) (u - l) (c - l)) := by
  generalize hv : V.ps esz xs = v at hx
  generalize hcv : Value.slice A xs.length c = cv at hx
  cases hx with
  | ps esz' xs' A' c' cvs hc hm hs ha hv' =>
    injection hv with e1 e2; subst e1; subst e2
    injection hcv with e1 _ e3; subst e1; subst e3
    have hlen : ((xs.take u).drop l).length = u - l := by simp; omega
    rw [← hlen]
    have hget : ∀ (i : Nat) (x : V), ((xs.take u).drop l)[i]? = some x → xs[l + i]? = some x := by
      intro i x hx
      rw [List.getElem?_drop, List.getElem?_take] at hx
      split at hx
      · exact hx
      · cases hx
    refine .ps esz _ _ _ (fun j => cvs (l * esz + j)) (by omega) (by omega) (fun x hx => hs x (List.mem_of_mem_take (List.mem_of_mem_drop hx))) (fun hne => ?_) (fun i x hx j y hy => ?_)
    · have hlu : l < u := by
        rcases Nat.lt_or_ge l u with h | h
        · exact h
        · exact absurd (List.eq_nil_of_length_eq_zero (by omega)) hne
      obtain ⟨ad, rfl, ho, hlt, hcell⟩ := ha (by rintro rfl; simp at hu; omega)
      rw [if_neg (by omega)]
      refine ⟨ad.add (l * esz), rfl, by rwa [add_block], by rwa [add_block], fun i x hx j y hy => ?_⟩
      rw [add_add]
      have := hcell (l + i) x (hget i x hx) j y hy
      have e : (l + i) * esz + j = l * esz + (i * esz + j) := by rw [Nat.add_mul, Nat.add_assoc]
      rw [e] at this
      exact this
    · have := hv' (l + i) x (hget i x hx) j y hy
      have e : (l + i) * esz + j = l * esz + (i * esz + j) := by rw [Nat.add_mul, Nat.add_assoc]
      rw [e] at this
      exact this
  | _ => cases hv

theorem ps_nil (esz : Nat) (A : Option Addr) (c : Nat) (hc : c ≤ maxLen) : VRel ρ O w (.ps esz []) (.slice A 0 c) :=
  .ps esz [] A c (fun _ => undef) (Nat.zero_le _) hc (fun x hx => by cases hx) (fun h => absurd rfl h) (fun i x hx => by simp at hx)

/-- The bounds as the model takes them. -/
theorem run_bounds {isSlice : Bool} {len cap : Nat} {k1 k2 : IntKind} {lo hi : Option Int} (l u : Nat) (hl : lo.getD 0 = l) (hu : hi.getD len = u) (h1 : l ≤ u) (h2 : u ≤ cap) :
    (Instr.sliceBounds isSlice len cap (lo.map (Value.int k1)) (hi.map (Value.int k2)) none).run P w = .ok (l, u, cap) w := by
  have g1 : ∀ z, lo = some z → z = l := fun z hz => by rw [hz] at hl; exact hl
  have g2 : ∀ z, hi = some z → z = u := fun z hz => by rw [hz] at hu; exact hu
  cases lo with
  | none =>
    have : l = 0 := by simp at hl; omega
    subst this
    cases hi with
    | none =>
      have : u = len := by simp at hu; omega
      subst this
      simp [Instr.sliceBounds]
    | some z =>
      obtain rfl := g2 z rfl
      simp [Instr.sliceBounds, Instr.sliceBound, asIntOf, h2]
  | some y =>
    obtain rfl := g1 y rfl
    cases hi with
    | none =>
      have : u = len := by simp at hu; omega
      subst this
      simp [Instr.sliceBounds, Instr.sliceBound, asIntOf, h1]
    | some z =>
      obtain rfl := g2 z rfl
      simp [Instr.sliceBounds, Instr.sliceBound, asIntOf, h2, h1]

theorem run_bounds3 {len cap : Nat} {k1 k2 k3 : IntKind} {lo : Option Int} {hi mx : Int} (l u m : Nat) (hl : lo.getD 0 = l) (hu : hi = u) (hm : mx = m) (h1 : l ≤ u) (h2 : u ≤ m) (h3 : m ≤ cap) :
    (Instr.sliceBounds true len cap (lo.map (Value.int k1)) (some (.int k2 hi)) (some (.int k3 mx))).run P w = .ok (l, u, m) w := by
  subst hu; subst hm
  cases lo with
  | none =>
    have : l = 0 := by simp at hl; omega
    subst this
    simp [Instr.sliceBounds, Instr.sliceBound, asIntOf, h2, h3]
  | some y =>
    have : y = l := hl
    subst this
    simp [Instr.sliceBounds, Instr.sliceBound, asIntOf, h2, h3, h1]

theorem aslS_sound {t e : TypeId} (hu : P.underlying t = some (.slice e)) {n : Nat} (hn : szOf P e = some n) (hsK : ∀ b cb K, ρ b = some (cb, K) → K ≤ maxLen)
    {x : V} {cx : Value} (hx : VRel ρ O w x cx) {lo hi : Option Int} {mx : Option Int} {k1 k2 k3 : IntKind} (hmx : mx.isSome = true → hi.isSome = true) {v : V} (hv : aslS n x lo hi mx = some v) :
    ∃ cv, (Instr.sliceAt t cx (lo.map (Value.int k1)) (hi.map (Value.int k2)) (mx.map (Value.int k3))).run P w = .ok cv w ∧ VRel ρ O w v cv := by
  have hrun : ∀ (A : Option Addr) (len cap l u m : Nat), (Instr.sliceBounds true len cap (lo.map (Value.int k1)) (hi.map (Value.int k2)) (mx.map (Value.int k3))).run P w = .ok (l, u, m) w →
      (Instr.sliceAt t (.slice A len cap) (lo.map (Value.int k1)) (hi.map (Value.int k2)) (mx.map (Value.int k3))).run P w = .ok (.slice (if m = l then A else A.map (·.add (l * n))) (u - l) (m - l)) w := by
    intro A len cap l u m hb
    simp only [Instr.sliceAt, Instr.slice, Sem.run_bind, run_underlying hu, Result.andThen_ok, hb, run_sizeOf' hn, Sem.run_pure]
  cases hx with
  | nils =>
    simp only [aslS] at hv
    split at hv
    · rename_i h0
      obtain ⟨h0, h1, h2⟩ := h0
      injection hv with hv; subst hv
      cases mx with
      | none =>
        refine ⟨_, hrun none 0 0 0 0 0 (run_bounds (cap := 0) 0 0 (by simpa using h0) (by cases hi <;> simp_all) (Nat.le_refl _) (Nat.le_refl _)), ?_⟩
        simpa using VRel.nils
      | some m =>
        obtain ⟨hh, rfl⟩ := Option.isSome_iff_exists.1 (hmx rfl)
        refine ⟨_, hrun none 0 0 0 0 0 (run_bounds3 (cap := 0) 0 0 0 (by simpa using h0) (by simpa using h1) (by simpa using h2) (Nat.le_refl _) (Nat.le_refl _) (Nat.le_refl _)), ?_⟩
        simpa using VRel.nils
    · cases hv
  | ps esz xs A c cvs hc hm hs ha hv' =>
    have hx : VRel ρ O w (.ps esz xs) (.slice A xs.length c) := .ps esz xs A c cvs hc hm hs ha hv'
    simp only [aslS] at hv
    split at hv
    · rename_i h0
      obtain ⟨rfl, rfl, h1, h2, h3⟩ := h0
      injection hv with hv; subst hv
      have hb := run_bounds (P := P) (w := w) (isSlice := true) (len := xs.length) (cap := c) (k1 := k1) (k2 := k2) (lo := lo) (hi := hi) (lo.getD 0).toNat (hi.getD xs.length).toNat (by omega) (by omega) (by omega) (by omega)
      exact ⟨_, hrun A xs.length c _ _ _ hb, ps_cut hx _ _ (by omega) (by omega)⟩
    · cases hv
  | sl esz b off len cb K hr hk =>
    have hK := hsK b cb K hr
    simp only [aslS] at hv
    split at hv
    · rename_i h0
      obtain ⟨rfl, h1, h2, h3⟩ := h0
      split at hv
      · rename_i h4
        split at hv
        · rename_i hmn
          subst hmn
          injection hv with hv; subst hv
          have hb := run_bounds (P := P) (w := w) (isSlice := true) (len := len) (cap := K - off) (k1 := k1) (k2 := k2) (lo := lo) (hi := hi) (lo.getD 0).toNat (hi.getD len).toNat (by omega) (by omega) (by omega) (by omega)
          refine ⟨_, hrun _ len (K - off) _ _ _ hb, ?_⟩
          have e : (hi.getD len).toNat - (lo.getD 0).toNat = 0 := by omega
          rw [e]
          exact ps_nil _ _ _ (by omega)
        · cases hv
      · rename_i h4
        have hne : lo.getD 0 ≠ 0 → (lo.getD 0).toNat < (hi.getD len).toNat := by omega
        cases mx with
        | none =>
          injection hv with hv; subst hv
          have hb := run_bounds (P := P) (w := w) (isSlice := true) (len := len) (cap := K - off) (k1 := k1) (k2 := k2) (lo := lo) (hi := hi) (lo.getD 0).toNat (hi.getD len).toNat (by omega) (by omega) (by omega) (by omega)
          refine ⟨_, hrun _ len (K - off) _ _ _ hb, ?_⟩
          have e : (hi.getD len - lo.getD 0).toNat = (hi.getD len).toNat - (lo.getD 0).toNat := by omega
          rw [e]
          have hs := VRel.sl (ρ := ρ) (O := O) (w := w) esz b (off + (lo.getD 0).toNat) ((hi.getD len).toNat - (lo.getD 0).toNat) cb K hr (by omega)
          have e2 : K - off - (lo.getD 0).toNat = K - (off + (lo.getD 0).toNat) := by omega
          rw [e2]
          by_cases hz : K - off = (lo.getD 0).toNat
          · have : lo.getD 0 = 0 := by
              by_cases hq : lo.getD 0 = 0
              · exact hq
              · have := hne hq; omega
            rw [if_pos hz]
            simpa [this] using hs
          · rw [if_neg hz]
            have e3 : (Option.map (fun x => x.add ((lo.getD 0).toNat * esz)) (some (⟨cb, off * esz, none⟩ : Addr))) = some ⟨cb, (off + (lo.getD 0).toNat) * esz, none⟩ := by
              simp only [Option.map_some, Addr.add, Nat.add_mul]
              split
              · rename_i h; simp [h]
              · rfl
            rw [e3]
            exact hs
        | some m =>
          simp only at hv
          split at hv
          · rename_i h5
            injection hv with hv; subst hv
            obtain ⟨hh, rfl⟩ := Option.isSome_iff_exists.1 (hmx rfl)
            simp only [Option.getD_some] at *
            have hb := run_bounds3 (P := P) (w := w) (len := len) (cap := K - off) (k1 := k1) (k2 := k2) (k3 := k3) (lo := lo) (hi := hh) (mx := m) (lo.getD 0).toNat hh.toNat m.toNat (by omega) (by omega) (by omega) (by omega) (by omega) (by omega)
            refine ⟨_, hrun _ len (K - off) _ _ _ hb, ?_⟩
            have e : (hh - lo.getD 0).toNat = hh.toNat - (lo.getD 0).toNat := by omega
            have e' : (m - lo.getD 0).toNat = m.toNat - (lo.getD 0).toNat := by omega
            rw [e, e']
            have hs := VRel.slc (ρ := ρ) (O := O) (w := w) esz b (off + (lo.getD 0).toNat) (hh.toNat - (lo.getD 0).toNat) (m.toNat - (lo.getD 0).toNat) cb K hr (by omega) (by omega)
            by_cases hz : m.toNat = (lo.getD 0).toNat
            · have : lo.getD 0 = 0 := by
                by_cases hq : lo.getD 0 = 0
                · exact hq
                · have := hne hq; omega
              rw [if_pos hz]
              simpa [this] using hs
            · rw [if_neg hz]
              have e3 : (Option.map (fun x => x.add ((lo.getD 0).toNat * esz)) (some (⟨cb, off * esz, none⟩ : Addr))) = some ⟨cb, (off + (lo.getD 0).toNat) * esz, none⟩ := by
                simp only [Option.map_some, Addr.add, Nat.add_mul]
                split
                · rename_i h; simp [h]
                · rfl
              rw [e3]
              exact hs
          · cases hv
    · cases hv
  | slc esz b off len c cb K hr hn' hk =>
    have hK := hsK b cb K hr
    simp only [aslS] at hv
    split at hv
    · rename_i h0
      obtain ⟨rfl, h1, h2, h3⟩ := h0
      split at hv
      · rename_i h4
        split at hv
        · rename_i hmn
          subst hmn
          injection hv with hv; subst hv
          have hb := run_bounds (P := P) (w := w) (isSlice := true) (len := len) (cap := c) (k1 := k1) (k2 := k2) (lo := lo) (hi := hi) (lo.getD 0).toNat (hi.getD len).toNat (by omega) (by omega) (by omega) (by omega)
          refine ⟨_, hrun _ len c _ _ _ hb, ?_⟩
          have e : (hi.getD len).toNat - (lo.getD 0).toNat = 0 := by omega
          rw [e]
          exact ps_nil _ _ _ (by omega)
        · cases hv
      · rename_i h4
        have hne : lo.getD 0 ≠ 0 → (lo.getD 0).toNat < (hi.getD len).toNat := by omega
        cases mx with
        | none =>
          injection hv with hv; subst hv
          have hb := run_bounds (P := P) (w := w) (isSlice := true) (len := len) (cap := c) (k1 := k1) (k2 := k2) (lo := lo) (hi := hi) (lo.getD 0).toNat (hi.getD len).toNat (by omega) (by omega) (by omega) (by omega)
          refine ⟨_, hrun _ len c _ _ _ hb, ?_⟩
          have e : (hi.getD len - lo.getD 0).toNat = (hi.getD len).toNat - (lo.getD 0).toNat := by omega
          rw [e]
          have hs := VRel.slc (ρ := ρ) (O := O) (w := w) esz b (off + (lo.getD 0).toNat) ((hi.getD len).toNat - (lo.getD 0).toNat) (c - (lo.getD 0).toNat) cb K hr (by omega) (by omega)
          by_cases hz : c = (lo.getD 0).toNat
          · have : lo.getD 0 = 0 := by
              by_cases hq : lo.getD 0 = 0
              · exact hq
              · have := hne hq; omega
            rw [if_pos hz]
            simpa [this] using hs
          · rw [if_neg hz]
            have e3 : (Option.map (fun x => x.add ((lo.getD 0).toNat * esz)) (some (⟨cb, off * esz, none⟩ : Addr))) = some ⟨cb, (off + (lo.getD 0).toNat) * esz, none⟩ := by
              simp only [Option.map_some, Addr.add, Nat.add_mul]
              split
              · rename_i h; simp [h]
              · rfl
            rw [e3]
            exact hs
        | some m =>
          simp only at hv
          split at hv
          · rename_i h5
            injection hv with hv; subst hv
            obtain ⟨hh, rfl⟩ := Option.isSome_iff_exists.1 (hmx rfl)
            simp only [Option.getD_some] at *
            have hb := run_bounds3 (P := P) (w := w) (len := len) (cap := c) (k1 := k1) (k2 := k2) (k3 := k3) (lo := lo) (hi := hh) (mx := m) (lo.getD 0).toNat hh.toNat m.toNat (by omega) (by omega) (by omega) (by omega) (by omega) (by omega)
            refine ⟨_, hrun _ len c _ _ _ hb, ?_⟩
            have e : (hh - lo.getD 0).toNat = hh.toNat - (lo.getD 0).toNat := by omega
            have e' : (m - lo.getD 0).toNat = m.toNat - (lo.getD 0).toNat := by omega
            rw [e, e']
            have hs := VRel.slc (ρ := ρ) (O := O) (w := w) esz b (off + (lo.getD 0).toNat) (hh.toNat - (lo.getD 0).toNat) (m.toNat - (lo.getD 0).toNat) cb K hr (by omega) (by omega)
            by_cases hz : m.toNat = (lo.getD 0).toNat
            · have : lo.getD 0 = 0 := by
                by_cases hq : lo.getD 0 = 0
                · exact hq
                · have := hne hq; omega
              rw [if_pos hz]
              simpa [this] using hs
            · rw [if_neg hz]
              have e3 : (Option.map (fun x => x.add ((lo.getD 0).toNat * esz)) (some (⟨cb, off * esz, none⟩ : Addr))) = some ⟨cb, (off + (lo.getD 0).toNat) * esz, none⟩ := by
                simp only [Option.map_some, Addr.add, Nat.add_mul]
                split
                · rename_i h; simp [h]
                · rfl
              rw [e3]
              exact hs
          · cases hv
    · cases hv
  | _ => cases hv

end
end Go.Abs

/- Arithmetic, comparisons, conversions, maps' lookups, tuples, lengths. -/
namespace Go.Abs

section
variable {P : Program} {ρ : Ren} {O : Nat → Prop} {w : World} {tm : Nat → V} {a : Act}

theorem eqGuard_int (op : BinOp) (t : TypeId) (x y : Operand) (k k' : IntKind) (m n : Int) : (eqGuard op t x y (.int k m) (.int k' n)).run P w = .ok () w := by cases op <;> rfl
theorem eqGuard_bool (op : BinOp) (t : TypeId) (x y : Operand) (m n : Bool) : (eqGuard op t x y (.bool m) (.bool n)).run P w = .ok () w := by cases op <;> rfl
theorem eqGuard_str (op : BinOp) (t : TypeId) (x y : Operand) (m n : ByteArray) : (eqGuard op t x y (.string m) (.string n)).run P w = .ok () w := by cases op <;> rfl
theorem eqGuard_ptr (op : BinOp) (t : TypeId) (x y : Operand) (m n : Option Addr) : (eqGuard op t x y (.pointer m) (.pointer n)).run P w = .ok () w := by cases op <;> rfl

theorem run_equalIn_ptr (d : Nat) (t e : TypeId) (m n : Option Addr) (h : P.underlying t = some (.pointer e)) (hn : m = none ∨ n = none) :
    (Op.equalIn (d + 1) t (.pointer m) (.pointer n)).run P w = .ok (m.isNone && n.isNone) w := by
  rcases hn with rfl | rfl
  · cases n <;> simp [Op.equalIn, run_underlying h]
  · cases m <;> simp [Op.equalIn, run_underlying h]

theorem run_equal_ptr (t e : TypeId) (m n : Option Addr) (h : P.underlying t = some (.pointer e)) (hn : m = none ∨ n = none) :
    (Op.equal t (.pointer m) (.pointer n)).run P w = .ok (m.isNone && n.isNone) w := run_equalIn_ptr 9999 t e m n h hn

theorem run_eqBin_ptr {op : BinOp} (t e : TypeId) (m n : Option Addr) (h : P.underlying t = some (.pointer e)) (hn : m = none ∨ n = none) {v : V} (hv : eqBin op (m.isNone && n.isNone) = some v) :
    ∃ cv, (binOp op t (.pointer m) (.pointer n)).run P w = .ok cv w ∧ VRel ρ O w v cv := by
  have he := run_equal_ptr (w := w) t e m n h hn
  cases op <;> simp only [eqBin] at hv <;> first
    | (cases hv; done)
    | (injection hv with hv; subst hv
       refine ⟨_, ?_, .bool _⟩
       simp only [binOp]
       simp [he])

theorem intBin_sound {op : BinOp} {k : IntKind} {m n : Int} (hs : isShift op = false) (t : TypeId) {v : V} (hv : intBin op k m n = some v) :
    ∃ cv, (binOp op t (.int k m) (.int k n)).run P w = .ok cv w ∧ VRel ρ O w v cv := by
  cases op <;> simp only [intBin] at hv <;> first
    | (cases hs; done)
    | (injection hv with hv; subst hv; refine ⟨_, ?_, by constructor⟩; simp [binOp, Op.intArith, Op.intCmp, Op.intBits]; done)
    | (split at hv
       · cases hv
       · rename_i h0
         injection hv with hv; subst hv
         refine ⟨_, ?_, .int _ _⟩
         simp [binOp, Op.intDiv, h0])

theorem shiftBin_sound {op : BinOp} {k k' : IntKind} {m n : Int} (t : TypeId) {v : V} (hv : shiftBin op k m n = some v) :
    ∃ cv, (binOp op t (.int k m) (.int k' n)).run P w = .ok cv w ∧ VRel ρ O w v cv := by
  unfold shiftBin at hv
  split at hv
  · cases hv
  · rename_i h0
    cases op <;> simp only at hv <;> first
      | (cases hv; done)
      | (injection hv with hv; subst hv
         refine ⟨_, ?_, .int _ _⟩
         simp only [binOp, Op.shift, if_neg h0]
         rfl)

theorem strBin_sound {op : BinOp} {m n : ByteArray} (t : TypeId) {v : V} (hv : strBin op m n = some v) :
    ∃ cv, (binOp op t (.string m) (.string n)).run P w = .ok cv w ∧ VRel ρ O w v cv := by
  cases op <;> simp only [strBin] at hv <;> first
    | (cases hv; done)
    | (injection hv with hv; subst hv; refine ⟨_, ?_, by constructor⟩; simp [binOp, Op.stringOp]; done)
    | (split at hv
       · rename_i h0
         injection hv with hv; subst hv
         refine ⟨_, ?_, .str _⟩
         have h1 : ¬ ((9223372036854775807 : Int) < (m.size : Int) + (n.size : Int)) := by omega
         simp [binOp, Op.stringOp, IntKind.max, IntKind.signed, IntKind.bits, h1]
       · cases hv)

theorem abin_sound {op : BinOp} {t : TypeId} {tk : TK} (htk : tkOf P t = some tk) (ox oy : Operand) {x y : V} {cx cy : Value} (hx : VRel ρ O w x cx) (hy : VRel ρ O w y cy) {v : V} (hv : abin op tk x y = some v) :
    ∃ cv, (do eqGuard op t ox oy cx cy; binOp op t cx cy : Sem Value).run P w = .ok cv w ∧ VRel ρ O w v cv := by
  have hb : tk = .bool → P.underlying t = some .bool := by
    rintro rfl
    unfold tkOf at htk
    split at htk <;> first | assumption | (injection htk with htk; cases htk) | cases htk
  have hp : tk = .ptr → ∃ e, P.underlying t = some (.pointer e) := by
    rintro rfl
    unfold tkOf at htk
    split at htk <;> first | exact ⟨_, ‹_›⟩ | (injection htk with htk; cases htk) | cases htk
  cases tk with
  | num =>
    cases hx <;> cases hy <;> simp only [abin] at hv <;> first
      | (cases hv; done)
      | skip
    · rename_i k m k' n
      simp only [Sem.run_bind, eqGuard_int, Result.andThen_ok]
      split at hv
      · exact shiftBin_sound t hv
      · rename_i hs
        split at hv
        · rename_i hk; subst hk
          exact intBin_sound (by simpa using hs) t hv
        · cases hv
    · simp only [Sem.run_bind, eqGuard_str, Result.andThen_ok]
      exact strBin_sound t hv
  | bool =>
    cases hx <;> cases hy <;> simp only [abin] at hv <;> first
      | (cases hv; done)
      | skip
    rename_i m n
    simp only [Sem.run_bind, eqGuard_bool, Result.andThen_ok]
    cases op <;> simp only [eqBin] at hv <;> first
      | (cases hv; done)
      | (injection hv with hv; subst hv
         refine ⟨_, ?_, .bool _⟩
         first
           | exact run_eql_bool w t m n (hb rfl)
           | exact run_neq_bool w t m n (hb rfl))
  | ptr =>
    obtain ⟨e, he⟩ := hp rfl
    cases hx <;> cases hy <;> simp only [abin] at hv <;> first
      | (cases hv; done)
      | (simp only [Sem.run_bind, eqGuard_ptr, Result.andThen_ok]
         exact run_eqBin_ptr t e _ _ he (by simp) hv)

theorem aun_sound {op : UnOp} {x : V} {cx : Value} (hx : VRel ρ O w x cx) {v : V} (hv : aun op x = some v) : ∃ cv, (Op.unary op cx).run P w = .ok cv w ∧ VRel ρ O w v cv := by
  cases hx <;> cases op <;> simp only [aun] at hv <;> first
    | (cases hv; done)
    | (injection hv with hv; subst hv; refine ⟨_, ?_, by constructor⟩; simp [Op.unary, Op.intArith, Op.intBits]; done)

/-- The cells of a slice, as the model loads them. -/
theorem cells_sound {h : Heap} (hs : St ρ h w) {esz : Nat} {x : V} {cx : Value} (hx : VRel ρ (Own ρ h) w x cx) {cs : List V} {n : Nat} (hc : cellsOf h esz x = some (cs, n)) :
    ∃ A c, cx = .slice A n c ∧ n ≤ c ∧ c ≤ maxLen ∧ cs.length = n * esz ∧ ∃ vs : List Value, vs.length = n * esz ∧ (n * esz ≠ 0 → ∃ ad, A = some ad ∧ ∀ (j : Nat) (u : Value), vs[j]? = some u → w.cell? (ad.add j) = some u) ∧
      ∀ (j : Nat) (y : V) (u : Value), cs[j]? = some y → vs[j]? = some u → VRel ρ (Own ρ h) w y u := by
  cases hx with
  | nils =>
    injection hc with hc; injection hc with e1 e2; subst e1; subst e2
    exact ⟨none, 0, rfl, Nat.le_refl _, by simp, by simp, [], by simp, by simp, by simp⟩
  | ps esz' xs A c cvs hcap hm hsz ha hv =>
    simp only [cellsOf] at hc
    split at hc
    · rename_i e; subst e
      injection hc with hc; injection hc with e1 e2; subst e1; subst e2
      -- the j-th cell of the whole
      have key : ∀ (ys : List V) (k : Nat), (∀ y ∈ ys, y.cells.length = esz') → (∀ i y, ys[i]? = some y → xs[k + i]? = some y) →
          (ys.flatMap V.cells).length = ys.length * esz' ∧ ∀ (j : Nat) (y : V), (ys.flatMap V.cells)[j]? = some y → ∃ i x r, xs[i]? = some x ∧ x.cells[r]? = some y ∧ i * esz' + r = k * esz' + j := by
        intro ys
        induction ys with
        | nil => intro k _ _; exact ⟨by simp, fun j y hj => by simp at hj⟩
        | cons y ys ih =>
          intro k hl hg
          obtain ⟨h1, h2⟩ := ih (k + 1) (fun z hz => hl z (List.mem_cons_of_mem _ hz)) (fun i z hz => by
            have := hg (i + 1) z (by simpa using hz)
            rwa [show k + (i + 1) = k + 1 + i from by omega] at this)
          have hy := hl y List.mem_cons_self
          refine ⟨by simp only [List.flatMap_cons, List.length_append, hy, h1, List.length_cons, Nat.add_mul]; omega, fun j z hj => ?_⟩
          rw [List.flatMap_cons] at hj
          rcases Nat.lt_or_ge j esz' with hlt | hge
          · rw [List.getElem?_append_left (by omega)] at hj
            exact ⟨k, y, j, by simpa using hg 0 y rfl, hj, rfl⟩
          · rw [List.getElem?_append_right (by omega), hy] at hj
            obtain ⟨i, x, r, a1, a2, a3⟩ := h2 _ _ hj
            exact ⟨i, x, r, a1, a2, by rw [a3, Nat.add_mul]; omega⟩
      obtain ⟨k1, k2⟩ := key xs 0 hsz (fun i y hy => by simpa using hy)
      refine ⟨A, c, rfl, hcap, hm, k1, (List.range (xs.length * esz')).map cvs, by simp, fun hne => ?_, fun j y u hy hu => ?_⟩
      · obtain ⟨ad, rfl, _, _, hcell⟩ := ha (by rintro rfl; simp at hne)
        refine ⟨ad, rfl, fun j u hu => ?_⟩
        have hj : j < xs.length * esz' := by
          have := (List.getElem?_eq_some_iff.1 hu).1; simpa using this
        have hj' : j < (xs.flatMap V.cells).length := by omega
        obtain ⟨i, x, r, a1, a2, a3⟩ := k2 j _ (List.getElem?_eq_getElem hj')
        have := hcell i x a1 r _ a2
        rw [a3] at this
        simp only [Nat.zero_mul, Nat.zero_add] at this
        rw [this]
        simpa [List.getElem?_map, List.getElem?_range hj] using hu
      · obtain ⟨i, x, r, a1, a2, a3⟩ := k2 j y hy
        have := hv i x a1 r y a2
        rw [a3] at this
        simp only [Nat.zero_mul, Nat.zero_add] at this
        have hj : j < xs.length * esz' := by
          have := (List.getElem?_eq_some_iff.1 hu).1; simpa using this
        simp [List.getElem?_map, List.getElem?_range hj] at hu
        subst hu
        exact this
    · cases hc
  | sl esz' b off len cb K hr hk =>
    simp only [cellsOf] at hc
    split at hc
    · rename_i e; subst e
      split at hc
      · rename_i ty e' xs hb
        split at hc
        · rename_i hle
          obtain ⟨rfl, hle⟩ := hle
          injection hc with hc; injection hc with e1 e2; subst e1; subst e2
          obtain ⟨cb', K', hr', cur, g1, g2, g3, g4, g5⟩ := hs.blk b _ hb
          rw [hr] at hr'; injection hr' with hr'; injection hr' with e1 e2; subst e1; subst e2
          have hlen : (List.take (len * e') (List.drop (off * e') xs)).length = len * e' := by simp; omega
          refine ⟨_, _, rfl, by omega, by omega, hlen, (List.range (len * e')).map (fun j => cur.getD (off * e' + j) undef), by simp, fun hne => ⟨_, rfl, fun j u hu => ?_⟩, fun j y u hy hu => ?_⟩
          · have hj : j < len * e' := by
              have := (List.getElem?_eq_some_iff.1 hu).1; simpa using this
            rw [cell_at g1]
            simp [List.getElem?_map, List.getElem?_range hj] at hu
            have hlt : off * e' + j < cur.size := by omega
            simp [Array.getElem?_eq_getElem hlt] at hu ⊢
            exact hu
          · have hj : j < len * e' := by
              have := (List.getElem?_eq_some_iff.1 hu).1; simpa using this
            rw [List.getElem?_take, if_pos hj, List.getElem?_drop] at hy
            obtain ⟨_, cv, hcv, hrel⟩ := g5 _ _ hy
            simp [List.getElem?_map, List.getElem?_range hj, hcv] at hu
            subst hu
            exact hrel
        · cases hc
      · cases hc
    · cases hc
  | slc esz' b off len c cb K hr hn' hk =>
    simp only [cellsOf] at hc
    split at hc
    · rename_i e; subst e
      split at hc
      · rename_i ty e' xs hb
        split at hc
        · rename_i hle
          obtain ⟨rfl, hle⟩ := hle
          injection hc with hc; injection hc with e1 e2; subst e1; subst e2
          obtain ⟨cb', K', hr', cur, g1, g2, g3, g4, g5⟩ := hs.blk b _ hb
          rw [hr] at hr'; injection hr' with hr'; injection hr' with e1 e2; subst e1; subst e2
          have hlen : (List.take (len * e') (List.drop (off * e') xs)).length = len * e' := by simp; omega
          refine ⟨_, _, rfl, by omega, by omega, hlen, (List.range (len * e')).map (fun j => cur.getD (off * e' + j) undef), by simp, fun hne => ⟨_, rfl, fun j u hu => ?_⟩, fun j y u hy hu => ?_⟩
          · have hj : j < len * e' := by
              have := (List.getElem?_eq_some_iff.1 hu).1; simpa using this
            rw [cell_at g1]
            simp [List.getElem?_map, List.getElem?_range hj] at hu
            have hlt : off * e' + j < cur.size := by omega
            simp [Array.getElem?_eq_getElem hlt] at hu ⊢
            exact hu
          · have hj : j < len * e' := by
              have := (List.getElem?_eq_some_iff.1 hu).1; simpa using this
            rw [List.getElem?_take, if_pos hj, List.getElem?_drop] at hy
            obtain ⟨_, cv, hcv, hrel⟩ := g5 _ _ hy
            simp [List.getElem?_map, List.getElem?_range hj, hcv] at hu
            subst hu
            exact hrel
        · cases hc
      · cases hc
    · cases hc
  | _ => cases hc

end
end Go.Abs

/- Maps' keys; strings of bytes; composite values; and all that leaves the heap as it is, in one theorem. -/
namespace Go.Abs

section
variable {P : Program} {ρ : Ren} {O : Nat → Prop} {w : World} {tm : Nat → V} {a : Act}

theorem ba_beq (x y : ByteArray) : (x == y) = decide (x = y) := by
  rw [beq_toListBytes, ByteArray.toList_eq, ByteArray.toList_eq]
  obtain ⟨⟨x⟩⟩ := x
  obtain ⟨⟨y⟩⟩ := y
  by_cases e : x = y
  · subst e; simp
  · have : ¬ ({ data := ⟨x⟩ } : ByteArray) = { data := ⟨y⟩ } := by
      intro h; injection h with h; injection h with h; exact e h
    simp [e]

theorem run_getObj_map {r : Nat} {es : Array MapEntry} {c : Nat} (h : w.heap[r]? = some (.map es c)) : (getObj r).run P w = .ok (.map es c) w := by
  simp [getObj, Sem.run, h]
theorem run_setObj_map {r : Nat} {es : Array MapEntry} {c : Nat} {o : Obj} (h : w.heap[r]? = some (.map es c)) : (setObj r o).run P w = .ok () { w with heap := w.heap.setIfInBounds r o } := by
  simp [setObj, Sem.run, h]

theorem vrel_int {k : IntKind} {n : Int} {c : Value} (h : VRel ρ O w (.int k n) c) : c = .int k n := by cases h; rfl
theorem vrel_str {s : ByteArray} {c : Value} (h : VRel ρ O w (.str s) c) : c = .string s := by cases h; rfl
theorem vrel_bool {b : Bool} {c : Value} (h : VRel ρ O w (.bool b) c) : c = .bool b := by cases h; rfl
theorem vrel_pair {k l : IntKind} {m n : Int} {c : Value} (h : VRel ρ O w (.agg [.int k m, .int l n]) c) : c = .agg #[.int k m, .int l n] := by
  cases h with
  | agg xs cs hl hv =>
    match cs, hl with
    | [c0, c1], _ =>
      have h0 := vrel_int (hv 0 _ c0 rfl rfl)
      have h1 := vrel_int (hv 1 _ c1 rfl rfl)
      subst h0; subst h1; rfl

/-- A pair's type. -/
structure PairT (P : Program) (t : TypeId) : Prop where mk ::
  out : ∃ f g : Field, P.underlying t = some (.struct #[f, g]) ∧ (∃ k, P.underlying f.type = some (.int k)) ∧ (∃ k, P.underlying g.type = some (.int k)) ∧ f.offset = 0 ∧ g.offset = 1 ∧ f.name ≠ "_" ∧ g.name ≠ "_" ∧ P.stoodInHeld t = false

theorem ktOf_cases {t : TypeId} {kt : KT} (h : ktOf P t = some kt) :
    (kt = .int ∧ ∃ k, P.underlying t = some (.int k)) ∨ (kt = .str ∧ P.underlying t = some .string) ∨ (kt = .pair ∧ PairT P t) := by
  unfold ktOf at h
  split at h
  · injection h with h; exact .inl ⟨h.symm, _, ‹_›⟩
  · injection h with h; exact .inr (.inl ⟨h.symm, ‹_›⟩)
  · rename_i fs hu
    split at h
    · rename_i f g hfs
      split at h
      · rename_i k1 k2 i j h1 h2 h3 h4
        split at h
        · rename_i hc
          injection h with h
          refine .inr (.inr ⟨h.symm, ⟨f, g, ?_, ⟨_, h1⟩, ⟨_, h2⟩, hc.1, hc.2.1, hc.2.2.1, hc.2.2.2.1, hc.2.2.2.2.2.2⟩⟩)
          have : fs = #[f, g] := by rw [← Array.toArray_toList (xs := fs), hfs]
          rw [hu, this]
        · cases h
      · cases h
    · cases h
  · cases h

theorem run_isAgg_int {t : TypeId} {k : IntKind} (h : P.underlying t = some (.int k)) : (isAgg t).run P w = .ok false w := by
  simp only [isAgg, Sem.run_bind, run_underlying h, Result.andThen_ok]; rfl

theorem run_equalIn_pair (d : Nat) {t : TypeId} (ht : PairT P t) (k l : IntKind) (m n m' n' : Int) :
    (Op.equalIn (d + 2) t (.agg #[.int k m, .int l n]) (.agg #[.int k m', .int l n'])).run P w = .ok (m == m' && n == n') w := by
  obtain ⟨f, g, hu, ⟨k1, h1⟩, ⟨k2, h2⟩, ho, ho', hn, hn', hst⟩ := ht.out
  have hfo : P.fieldsOf t = #[f, g] := by simp [Program.fieldsOf, hu]
  rw [run_equalIn_struct w (d + 1) t _ _ (by rw [hu, hfo]) hst, hfo]
  simp only [Op.eqFields, hn, hn', ne_eq, not_false_eq_true, if_true, Sem.run_bind, part, run_isAgg_int h1, run_isAgg_int h2, Result.andThen_ok, ho, ho', Bool.false_eq_true, if_false]
  simp [run_equalIn_int (w := w) d f.type k k1 m m' h1, run_equalIn_int (w := w) d g.type l k2 n n' h2]
  by_cases e : m = m' <;> by_cases e' : n = n' <;> simp [e, e', run_isAgg_int h2, run_equalIn_int (w := w) d g.type l k2 _ _ h2]

theorem run_equal_pair {t : TypeId} (ht : PairT P t) (k l : IntKind) (m n m' n' : Int) :
    (Op.equal t (.agg #[.int k m, .int l n]) (.agg #[.int k m', .int l n'])).run P w = .ok (m == m' && n == n') w := run_equalIn_pair 9998 ht k l m n m' n'

theorem run_checkKey1 (b : Bool) (d : Nat) {t : TypeId} {k : IntKind} (h : P.underlying t = some (.int k)) (v : Value) : (Instr.checkKey b (d + 1) t v).run P w = .ok () w := by
  simp [Instr.checkKey, run_underlying h]
theorem run_checkKey2 (b : Bool) (d : Nat) {t : TypeId} (h : P.underlying t = some .string) (v : Value) : (Instr.checkKey b (d + 1) t v).run P w = .ok () w := by
  simp [Instr.checkKey, run_underlying h]
theorem run_checkKey3 (b : Bool) (d : Nat) {t : TypeId} (ht : PairT P t) (k l : IntKind) (m n : Int) : (Instr.checkKey b (d + 2) t (.agg #[.int k m, .int l n])).run P w = .ok () w := by
  obtain ⟨f, g, hu, ⟨k1, h1⟩, ⟨k2, h2⟩, ho, ho', hn, hn', hst⟩ := ht.out
  unfold Instr.checkKey
  simp only [Sem.run_bind, run_underlying hu, Result.andThen_ok]
  rw [← Array.forIn_toList]
  simp [hn, hn', part, run_isAgg_int h1, run_isAgg_int h2, ho, ho', run_checkKey1 b d h1, run_checkKey1 b d h2]

theorem run_checkKey {t : TypeId} {kt : KT} (hkt : ktOf P t = some kt) {k : V} {ck : Value} (hk : VRel ρ O w k ck) (hik : k.isKey kt = true) (b : Bool) : (Instr.checkKey b 10000 t ck).run P w = .ok () w := by
  rcases ktOf_cases hkt with ⟨rfl, kk, hu⟩ | ⟨rfl, hu⟩ | ⟨rfl, ht⟩
  · exact run_checkKey1 b 9999 hu ck
  · exact run_checkKey2 b 9999 hu ck
  · unfold V.isKey at hik
    split at hik <;> first | cases hik | skip
    · rename_i e; cases e
    · rename_i e; cases e
    · rw [vrel_pair hk]
      exact run_checkKey3 b 9998 ht _ _ _ _

/-- Entries of a map, the abstract and the model's. -/
def ERel (ρ : Ren) (O : Nat → Prop) (w : World) (es : List (V × V)) (ces : List MapEntry) : Prop :=
  ces.length = es.length ∧ ∀ (j : Nat) (k v : V), es[j]? = some (k, v) → ∃ me : MapEntry, ces[j]? = some me ∧ VRel ρ O w k me.key ∧ VRel ρ O w v me.val

theorem ERel.cons {k v : V} {es : List (V × V)} {ces : List MapEntry} (h : ERel ρ O w ((k, v) :: es) ces) : ∃ me ces', ces = me :: ces' ∧ VRel ρ O w k me.key ∧ VRel ρ O w v me.val ∧ ERel ρ O w es ces' := by
  obtain ⟨hl, hr⟩ := h
  cases ces with
  | nil => simp at hl
  | cons me ces' =>
    obtain ⟨me', h1, h2, h3⟩ := hr 0 k v rfl
    simp at h1; subst h1
    exact ⟨_, _, rfl, h2, h3, by simpa using hl, fun j k' v' hj => by simpa using hr (j + 1) k' v' (by simpa using hj)⟩

theorem findNow_int {kk k : IntKind} {n : Int} : ∀ {es : List (V × V)} {ces : List MapEntry} {i : Nat} {r : Option Nat}, ERel ρ O w es ces → findK (.int k n) es i = some r →
    ∃ q, Instr.findNow (.int kk) (.int k n) ces i = some q ∧ (match r with
      | none => q = none
      | some j => ∃ me, i ≤ j ∧ ces[j - i]? = some me ∧ q = some (j, me.val) ∧ me.key = .int k n)
  | [], ces, i, r, hE, hf => by
    injection hf with hf; subst hf
    have : ces = [] := List.eq_nil_of_length_eq_zero (by simpa using hE.1)
    subst this
    exact ⟨none, rfl, rfl⟩
  | (k', v') :: es, ces, i, r, hE, hf => by
    obtain ⟨me, ces', rfl, h1, h2, h3⟩ := hE.cons
    simp only [findK] at hf
    split at hf
    · rename_i hk
      injection hf with hf; subst hf
      cases k' <;> simp only [keyEq] at hk <;> first | (cases hk; done) | skip
      rename_i l m
      split at hk
      · rename_i hkl; subst hkl
        injection hk with hk
        have hnm : n = m := by simpa using hk
        subst hnm
        have := vrel_int h1
        refine ⟨some (i, me.val), ?_, me, Nat.le_refl _, by simp, rfl, this⟩
        simp [Instr.findNow, this, Instr.sameNow]
      · cases hk
    · rename_i hk
      cases k' <;> simp only [keyEq] at hk <;> first | (cases hk; done) | skip
      rename_i l m
      split at hk
      · rename_i hkl; subst hkl
        injection hk with hk
        have hnm : ¬ n = m := by simpa using hk
        obtain ⟨q, g1, g2⟩ := findNow_int (kk := kk) h3 hf
        have := vrel_int h1
        refine ⟨q, ?_, ?_⟩
        · simp [Instr.findNow, this, Instr.sameNow, hk, g1]
        · cases r with
          | none => exact g2
          | some j =>
            obtain ⟨me', a1, a2, a3, a4⟩ := g2
            refine ⟨me', by omega, ?_, a3, a4⟩
            rw [show j - i = (j - (i + 1)) + 1 from by omega]
            simpa using a2
      · cases hk
    · cases hf

theorem findNow_str {s : ByteArray} : ∀ {es : List (V × V)} {ces : List MapEntry} {i : Nat} {r : Option Nat}, ERel ρ O w es ces → findK (.str s) es i = some r →
    ∃ q, Instr.findNow .string (.string s) ces i = some q ∧ (match r with
      | none => q = none
      | some j => ∃ me, i ≤ j ∧ ces[j - i]? = some me ∧ q = some (j, me.val) ∧ me.key = .string s)
  | [], ces, i, r, hE, hf => by
    injection hf with hf; subst hf
    have : ces = [] := List.eq_nil_of_length_eq_zero (by simpa using hE.1)
    subst this
    exact ⟨none, rfl, rfl⟩
  | (k', v') :: es, ces, i, r, hE, hf => by
    obtain ⟨me, ces', rfl, h1, h2, h3⟩ := hE.cons
    simp only [findK] at hf
    split at hf
    · rename_i hk
      injection hf with hf; subst hf
      cases k' <;> simp only [keyEq] at hk <;> first | (cases hk; done) | skip
      rename_i m
      injection hk with hk
      have hnm : s = m := by simpa [ba_beq] using hk
      subst hnm
      have := vrel_str h1
      refine ⟨some (i, me.val), ?_, me, Nat.le_refl _, by simp, rfl, this⟩
      simp [Instr.findNow, this, Instr.sameNow, ba_beq]
    · rename_i hk
      cases k' <;> simp only [keyEq] at hk <;> first | (cases hk; done) | skip
      rename_i m
      injection hk with hk
      obtain ⟨q, g1, g2⟩ := findNow_str h3 hf
      have := vrel_str h1
      refine ⟨q, ?_, ?_⟩
      · simp [Instr.findNow, this, Instr.sameNow, hk, g1]
      · cases r with
        | none => exact g2
        | some j =>
          obtain ⟨me', a1, a2, a3, a4⟩ := g2
          refine ⟨me', by omega, ?_, a3, a4⟩
          rw [show j - i = (j - (i + 1)) + 1 from by omega]
          simpa using a2
    · cases hf

theorem findAsking_pair {t : TypeId} (ht : PairT P t) {k l : IntKind} {m n : Int} : ∀ {es : List (V × V)} {ces : List MapEntry} {i : Nat} {r : Option Nat}, ERel ρ O w es ces → findK (.agg [.int k m, .int l n]) es i = some r →
    ∃ q, (Instr.findAsking t (.agg #[.int k m, .int l n]) ces i).run P w = .ok q w ∧ (match r with
      | none => q = none
      | some j => ∃ me, i ≤ j ∧ ces[j - i]? = some me ∧ q = some (j, me.val) ∧ me.key = .agg #[.int k m, .int l n])
  | [], ces, i, r, hE, hf => by
    injection hf with hf; subst hf
    have : ces = [] := List.eq_nil_of_length_eq_zero (by simpa using hE.1)
    subst this
    exact ⟨none, rfl, rfl⟩
  | (k', v') :: es, ces, i, r, hE, hf => by
    obtain ⟨me, ces', rfl, h1, h2, h3⟩ := hE.cons
    have hk'' : ∀ b, keyEq (.agg [.int k m, .int l n]) k' = some b → ∃ m' n', k' = .agg [.int k m', .int l n'] ∧ b = (m == m' && n == n') := by
      intro b hb
      unfold keyEq at hb
      split at hb
      · rename_i e; cases e
      · rename_i e; cases e
      · rename_i e
        injection e with e; injection e with e1 e; injection e with e2 e
        injection e1 with e3 e4; injection e2 with e5 e6
        subst e3; subst e4; subst e5; subst e6
        split at hb
        · rename_i hc
          obtain ⟨rfl, rfl⟩ := hc
          injection hb with hb
          exact ⟨_, _, rfl, hb.symm⟩
        · cases hb
      · cases hb
    simp only [findK] at hf
    split at hf
    · rename_i hk
      injection hf with hf; subst hf
      obtain ⟨m', n', rfl, hb⟩ := hk'' _ hk
      have hb' : m = m' ∧ n = n' := by simpa using hb.symm
      obtain ⟨rfl, rfl⟩ := hb'
      have := vrel_pair h1
      refine ⟨some (i, me.val), ?_, me, Nat.le_refl _, by simp, rfl, this⟩
      simp only [Instr.findAsking, Sem.run_bind, this, run_equal_pair ht, Result.andThen_ok]
      simp
    · rename_i hk
      obtain ⟨m', n', rfl, hb⟩ := hk'' _ hk
      obtain ⟨q, g1, g2⟩ := findAsking_pair ht h3 hf
      have := vrel_pair h1
      refine ⟨q, ?_, ?_⟩
      · simp only [Instr.findAsking, Sem.run_bind, this, run_equal_pair ht, Result.andThen_ok, ← hb]
        simpa using g1
      · cases r with
        | none => exact g2
        | some j =>
          obtain ⟨me', a1, a2, a3, a4⟩ := g2
          refine ⟨me', by omega, ?_, a3, a4⟩
          rw [show j - i = (j - (i + 1)) + 1 from by omega]
          simpa using a2
    · cases hf

theorem findKey_sound {t : TypeId} {kt : KT} (hkt : ktOf P t = some kt) {k : V} {ck : Value} (hk : VRel ρ O w k ck) (hik : k.isKey kt = true) {es : List (V × V)} {ces : List MapEntry} (hE : ERel ρ O w es ces) {r : Option Nat} (hf : findK k es 0 = some r) :
    ∃ q, (Instr.findKey t ck ces).run P w = .ok q w ∧ (match r with
      | none => q = none
      | some j => ∃ me, ces[j]? = some me ∧ q = some (j, me.val) ∧ Instr.sameBits 10000 me.key ck = true) := by
  rcases ktOf_cases hkt with ⟨rfl, kk, hu⟩ | ⟨rfl, hu⟩ | ⟨rfl, ht⟩
  · unfold V.isKey at hik
    split at hik <;> first | (cases hik; done) | skip
    · rename_i k0 n0 _
      have := vrel_int hk; subst this
      obtain ⟨q, h1, h2⟩ := findNow_int (kk := kk) hE hf
      refine ⟨q, by simp [Instr.findKey, run_underlying hu, h1], ?_⟩
      cases r with
      | none => exact h2
      | some j =>
        obtain ⟨me, _, a2, a3, a4⟩ := h2
        exact ⟨me, by simpa using a2, a3, by rw [a4]; simp [Instr.sameBits, ba_beq]⟩
    · rename_i e; cases e
    · rename_i e; cases e
  · unfold V.isKey at hik
    split at hik <;> first | (cases hik; done) | skip
    · rename_i e; cases e
    · have := vrel_str hk; subst this
      obtain ⟨q, h1, h2⟩ := findNow_str hE hf
      refine ⟨q, by simp [Instr.findKey, run_underlying hu, h1], ?_⟩
      cases r with
      | none => exact h2
      | some j =>
        obtain ⟨me, _, a2, a3, a4⟩ := h2
        exact ⟨me, by simpa using a2, a3, by rw [a4]; simp [Instr.sameBits, ba_beq]⟩
    · rename_i e; cases e
  · unfold V.isKey at hik
    split at hik <;> first | (cases hik; done) | skip
    · rename_i e; cases e
    · rename_i e; cases e
    · have := vrel_pair hk; subst this
      obtain ⟨q, h1, h2⟩ := findAsking_pair ht hE hf
      obtain ⟨f, g, hu, _⟩ := ht.out
      refine ⟨q, ?_, ?_⟩
      · simp only [Instr.findKey, Sem.run_bind, run_underlying hu, Result.andThen_ok]
        cases ces with
        | nil =>
          simp only [Instr.findNow]
          have : es = [] := List.eq_nil_of_length_eq_zero (by simpa using hE.1.symm)
          subst this
          have hr : r = none := by simpa [findK] using hf.symm
          subst hr
          simp only at h2
          subst h2
          rfl
        | cons me rest =>
          simp only [Instr.findNow, Instr.sameNow]
          exact h1
      · cases r with
        | none => exact h2
        | some j =>
          obtain ⟨me, _, a2, a3, a4⟩ := h2
          refine ⟨me, by simpa using a2, a3, ?_⟩
          rw [a4]
          show Instr.sameBits (9999 + 1) _ _ = true
          simp [Instr.sameBits]

theorem bytesOfV_sound : ∀ {cs : List V} {vs : List Value} {l : List UInt8}, cs.length = vs.length → (∀ (j : Nat) (y : V) (u : Value), cs[j]? = some y → vs[j]? = some u → VRel ρ O w y u) → bytesOfV cs = some l →
    ∃ ns : List Int, vs = ns.map (Value.int .u8) ∧ l = ns.map fun n => UInt8.ofNat n.toNat
  | [], vs, l, hl, hr, hb => by
    injection hb with hb; subst hb
    have : vs = [] := List.eq_nil_of_length_eq_zero (by simpa using hl.symm)
    subst this
    exact ⟨[], rfl, rfl⟩
  | c :: cs, [], l, hl, hr, hb => by simp at hl
  | c :: cs, v :: vs, l, hl, hr, hb => by
    unfold bytesOfV at hb
    split at hb
    · rename_i e; cases e
    · rename_i n rest e
      injection e with e1 e2; subst e1; subst e2
      simp only [Option.map_eq_some_iff] at hb
      obtain ⟨l', hl', rfl⟩ := hb
      obtain ⟨ns, rfl, rfl⟩ := bytesOfV_sound (by simpa using hl) (fun j y u hy hu => hr (j + 1) y u (by simpa using hy) (by simpa using hu)) hl'
      have := vrel_int (hr 0 _ v rfl rfl)
      subst this
      exact ⟨n :: ns, rfl, rfl⟩
    · cases hb

theorem foldl_push : ∀ (ns : List Int) (s : ByteArray), ns.foldl (fun r n => r.push (UInt8.ofNat n.toNat)) s = ⟨(s.data.toList ++ ns.map fun n => UInt8.ofNat n.toNat).toArray⟩
  | [], s => by cases s; simp
  | n :: ns, s => by
    rw [List.foldl_cons, foldl_push ns]
    simp [ByteArray.push]

theorem cstr_sound {h : Heap} (hs : St ρ h w) {s e d : TypeId} (hu : P.underlying s = some (.slice e)) (he : P.underlying e = some (.int .u8)) (hd : P.underlying d = some .string) {x : V} {cx : Value} (hx : VRel ρ (Own ρ h) w x cx) {cs : List V} {n : Nat}
    (hc : cellsOf h 1 x = some (cs, n)) {l : List UInt8} (hl : bytesOfV cs = some l) : (convert s d cx).run P w = .ok (.string ⟨l.toArray⟩) w := by
  obtain ⟨A, c, rfl, h1, h2, h3, vs, h4, h5, h6⟩ := cells_sound hs hx hc
  obtain ⟨ns, rfl, rfl⟩ := bytesOfV_sound (by omega) h6 hl
  rw [run_convert_bytes_string w s d e _ _ _ hu he hd]
  cases A with
  | none =>
    have h0 : n = 0 := by
      by_cases hz : n = 0
      · exact hz
      · obtain ⟨ad, e, _⟩ := h5 (by omega)
        cases e
    subst h0
    have : ns = [] := List.eq_nil_of_length_eq_zero (by simpa using h4)
    subst this
    rfl
  | some ad =>
    have hlc : (loadCells ad n).run P w = .ok (ns.map (Value.int .u8)).toArray w := by
      have hn : n = (ns.map (Value.int .u8)).length := by rw [h4]; omega
      by_cases hz : n * 1 = 0
      · have hn0 : n = 0 := by omega
        have : ns = [] := List.eq_nil_of_length_eq_zero (by simpa [hn0] using h4)
        subst this; subst hn0
        rfl
      · obtain ⟨ad', e, hcell⟩ := h5 hz
        injection e with e; subst e
        rw [hn]
        exact run_loadCells_list w ad _ hcell
    rw [run_bytesToString w ad n c ns hlc, foldl_push]
    simp

/-- A part laid into cells. -/
theorem setAt_length : ∀ (v : List V) (cs : List V) (off : Nat), (setAt cs off v).length = cs.length
  | [], cs, off => rfl
  | x :: v, cs, off => by rw [setAt, setAt_length v]; simp

theorem setAt_get : ∀ (v : List V) (cs : List V) (off j : Nat), off + v.length ≤ cs.length → (setAt cs off v)[j]? = if off ≤ j ∧ j < off + v.length then v[j - off]? else cs[j]?
  | [], cs, off, j, h => by rw [setAt, if_neg (by simp)]
  | x :: v, cs, off, j, h => by
    rw [List.length_cons] at h
    rw [setAt, setAt_get v _ _ _ (by simp; omega)]
    by_cases h1 : off + 1 ≤ j ∧ j < off + 1 + v.length
    · rw [if_pos h1, if_pos (by simp; omega), show j - off = (j - (off + 1)) + 1 from by omega]
      simp
    · rw [if_neg h1]
      by_cases h2 : j = off
      · subst h2
        rw [if_pos (by simp), List.getElem?_set_self (by omega)]
        simp
      · rw [if_neg (by simp; omega), List.getElem?_set_ne (by omega)]

/-- The model's laying in. -/
def layIn (cs : Array Value) (off : Nat) (v : Array Value) : Array Value := v.zipIdx.foldl (fun cs (c, j) => cs.setIfInBounds (off + j) c) cs

theorem layIn_spec (cs : Array Value) (off : Nat) (v : Array Value) : (layIn cs off v).size = cs.size ∧ ∀ j, off + v.size ≤ cs.size → (layIn cs off v)[j]? = if off ≤ j ∧ j < off + v.size then v[j - off]? else cs[j]? := by
  have key : ∀ (l : List Value) (k : Nat) (cs : Array Value),
      ((l.zipIdx k).foldl (fun cs (c, j) => cs.setIfInBounds (off + j) c) cs).size = cs.size ∧
      ∀ j, off + k + l.length ≤ cs.size → ((l.zipIdx k).foldl (fun cs (c, j) => cs.setIfInBounds (off + j) c) cs)[j]? = if off + k ≤ j ∧ j < off + k + l.length then l[j - (off + k)]? else cs[j]? := by
    intro l
    induction l with
    | nil => intro k cs; exact ⟨rfl, fun j _ => by simp; intro h1 h2; omega⟩
    | cons x l ih =>
      intro k cs
      obtain ⟨h1, h2⟩ := ih (k + 1) (cs.setIfInBounds (off + k) x)
      refine ⟨by simpa using h1, fun j hj => ?_⟩
      rw [List.length_cons] at hj
      rw [List.zipIdx_cons, List.foldl_cons]
      have := h2 j (by simp; omega)
      simp only at this ⊢
      rw [this]
      by_cases c1 : off + (k + 1) ≤ j ∧ j < off + (k + 1) + l.length
      · rw [if_pos c1, if_pos (by simp; omega), show j - (off + k) = (j - (off + (k + 1))) + 1 from by omega]
        simp
      · rw [if_neg c1]
        by_cases c2 : j = off + k
        · subst c2
          rw [if_pos (by simp)]
          simp [show off + k < cs.size from by omega]
        · rw [if_neg (by simp; omega), Array.getElem?_setIfInBounds_ne (by omega)]
  have e : layIn cs off v = (v.toList.zipIdx 0).foldl (fun cs (c, j) => cs.setIfInBounds (off + j) c) cs := by
    unfold layIn
    rw [← Array.foldl_toList, Array.toList_zipIdx]
  obtain ⟨h1, h2⟩ := key v.toList 0 cs
  rw [e]
  refine ⟨h1, fun j hj => ?_⟩
  have := h2 j (by simpa using hj)
  simpa using this

/-- Rows of cells, related. -/
def LRel (ρ : Ren) (O : Nat → Prop) (w : World) (xs : List V) (cs : Array Value) : Prop := xs.length = cs.size ∧ ∀ (j : Nat) (x : V) (u : Value), xs[j]? = some x → cs[j]? = some u → VRel ρ O w x u

theorem LRel.layIn {xs v : List V} {cs cv : Array Value} (h : LRel ρ O w xs cs) (hv : LRel ρ O w v cv) {off : Nat} (hle : off + v.length ≤ xs.length) : LRel ρ O w (setAt xs off v) (layIn cs off cv) := by
  obtain ⟨h1, h2⟩ := layIn_spec cs off cv
  refine ⟨by rw [setAt_length, h1, h.1], fun j x u hx hu => ?_⟩
  rw [setAt_get v xs off j hle] at hx
  rw [h2 j (by rw [← h.1, ← hv.1]; exact hle)] at hu
  rw [← hv.1] at hu
  split at hx
  · rename_i c
    rw [if_pos c] at hu
    exact hv.2 _ _ _ hx hu
  · rename_i c
    rw [if_neg c] at hu
    exact h.2 _ _ _ hx hu

end
end Go.Abs

/- Composite values; and all that leaves the heap as it is, in one theorem. -/
namespace Go.Abs

section
variable {P : Program} {ρ : Ren} {O : Nat → Prop} {w : World} {tm : Nat → V} {a : Act}

theorem zeroOf_rel {t : TypeId} {zs : List V} (h : zeroOf P t = some zs) : ∃ i z, P.info? t = some i ∧ i.zero = some z ∧ z.cells.size = i.size ∧ LRel ρ O w zs z.cells ∧ zs.all V.isCell = true ∧ zs.length = i.size ∧ (zeroValue t).run P w = .ok z w := by
  unfold zeroOf at h
  split at h
  · rename_i i hi
    split at h
    · rename_i z hz
      split at h
      · rename_i hsz
        obtain ⟨h1, h2⟩ := tvs_rel (ρ := ρ) (O := O) (w := w) h
        exact ⟨i, z, hi, hz, hsz, ⟨by simpa using h1, fun j x u hx hu => h2 j x u hx (by simpa using hu)⟩, tvs_isCell h, by simpa [hsz] using h1, by simp [zeroValue, typeInfo, hi, hz]⟩
      · cases h
    · cases h
  · cases h

theorem zeroV_rel {t : TypeId} {z : V} (h : zeroV P t = some z) : ∃ cz, VRel ρ O w z cz ∧ (zeroValue t).run P w = .ok cz w := by
  unfold zeroV at h
  split at h
  · rename_i i hi
    split at h
    · rename_i cs hz
      simp only [Option.map_eq_some_iff] at h
      obtain ⟨zs, h, rfl⟩ := h
      obtain ⟨h1, h2⟩ := tvs_rel (ρ := ρ) (O := O) (w := w) h
      refine ⟨.agg cs, ?_, by simp [zeroValue, typeInfo, hi, hz]⟩
      have := VRel.agg (ρ := ρ) (O := O) (w := w) zs cs.toList h1 h2
      simpa using this
    · rename_i z' _ hz
      exact ⟨z', tv_rel h, by simp [zeroValue, typeInfo, hi, hz]⟩
    · cases h
  · cases h

theorem LRel.ofCells {v : V} {cv : Value} (h : VRel ρ O w v cv) (hc : v.cells.all V.isCell = true) : LRel ρ O w v.cells cv.cells := cells_rel h hc

theorem fillS_go {place : Nat → Option (Nat × Nat)} {sz : Nat} (hp : ∀ i, place i = some (i * sz, sz)) : ∀ (ps : List (Nat × Operand)) {ps' : List (Nat × Opnd)} {cs cs' : List V} {ccs : Array Value},
    TRel ρ O w tm a → trPartsL ps = some ps' → LRel ρ O w cs ccs → fillS tm sz cs ps' = some cs' →
    ∃ ccs', Instr.fill place ccs (ps.map fun p => (p.1, a.eval p.2)) = some ccs' ∧ LRel ρ O w cs' ccs'
  | [], ps', cs, cs', ccs, ht, htr, hl, hf => by
    injection htr with htr; subst htr
    injection hf with hf; subst hf
    exact ⟨ccs, rfl, hl⟩
  | (i, x) :: ps, ps', cs, cs', ccs, ht, htr, hl, hf => by
    simp only [trPartsL] at htr
    split at htr
    · rename_i y r hy hr
      injection htr with htr; subst htr
      simp only [fillS] at hf
      split at hf
      · rename_i hc
        obtain ⟨hc1, hc2, hc3⟩ := hc
        have hv := LRel.ofCells (trO_rel ht hy) hc3
        obtain ⟨ccs', g1, g2⟩ := fillS_go hp ps ht hr (LRel.layIn hl hv (off := i * sz) (by omega)) hf
        refine ⟨ccs', ?_, g2⟩
        simp only [List.map_cons, Instr.fill, hp]
        rw [if_neg (by
          have h1 := hv.1
          have h2 := hl.1
          simp; omega)]
        exact g1
      · cases hf
    · cases htr

theorem fillA_go {place : Nat → Option (Nat × Nat)} {sz : Nat} (hp : ∀ i, place i = some (i * sz, sz)) : ∀ (ps : List (Nat × Operand)) {ps' : List (Nat × Nat × Opnd)} {cs cs' : List V} {ccs : Array Value},
    TRel ρ O w tm a → trPartsA sz ps = some ps' → LRel ρ O w cs ccs → fillB tm cs ps' = some cs' →
    ∃ ccs', Instr.fill place ccs (ps.map fun p => (p.1, a.eval p.2)) = some ccs' ∧ LRel ρ O w cs' ccs'
  | [], ps', cs, cs', ccs, ht, htr, hl, hf => by
    injection htr with htr; subst htr
    injection hf with hf; subst hf
    exact ⟨ccs, rfl, hl⟩
  | (i, x) :: ps, ps', cs, cs', ccs, ht, htr, hl, hf => by
    simp only [trPartsA] at htr
    split at htr
    · rename_i y r hy hr
      injection htr with htr; subst htr
      simp only [fillB] at hf
      split at hf
      · rename_i hc
        obtain ⟨hc1, hc2, hc3⟩ := hc
        have hv := LRel.ofCells (trO_rel ht hy) hc3
        obtain ⟨ccs', g1, g2⟩ := fillA_go hp ps ht hr (LRel.layIn hl hv (off := i * sz) (by omega)) hf
        refine ⟨ccs', ?_, g2⟩
        simp only [List.map_cons, Instr.fill, hp]
        rw [if_neg (by
          have h1 := hv.1
          have h2 := hl.1
          simp; omega)]
        exact g1
      · cases hf
    · cases htr

theorem fillF_go {fs : Array Field} {place : Nat → Option (Nat × Nat)} (hp : ∀ (i : Nat) (f : Field) (n : Nat), fs[i]? = some f → szOf P f.type = some n → place i = some (f.offset, n)) :
    ∀ (ps : List (Nat × Operand)) {ps' : List (Nat × Nat × Opnd)} {cs cs' : List V} {ccs : Array Value},
    TRel ρ O w tm a → trPartsS P fs ps = some ps' → LRel ρ O w cs ccs → fillB tm cs ps' = some cs' →
    ∃ ccs', Instr.fill place ccs (ps.map fun p => (p.1, a.eval p.2)) = some ccs' ∧ LRel ρ O w cs' ccs'
  | [], ps', cs, cs', ccs, ht, htr, hl, hf => by
    injection htr with htr; subst htr
    injection hf with hf; subst hf
    exact ⟨ccs, rfl, hl⟩
  | (i, x) :: ps, ps', cs, cs', ccs, ht, htr, hl, hf => by
    simp only [trPartsS] at htr
    split at htr
    · rename_i f y r hfi hy hr
      split at htr
      · rename_i n hn
        injection htr with htr; subst htr
        simp only [fillB] at hf
        split at hf
        · rename_i hc
          obtain ⟨hc1, hc2, hc3⟩ := hc
          have hv := LRel.ofCells (trO_rel ht hy) hc3
          obtain ⟨ccs', g1, g2⟩ := fillF_go hp ps ht hr (LRel.layIn hl hv (off := f.offset) (by omega)) hf
          refine ⟨ccs', ?_, g2⟩
          simp only [List.map_cons, Instr.fill, hp i f n hfi hn]
          rw [if_neg (by
            have h1 := hv.1
            have h2 := hl.1
            simp; omega)]
          exact g1
        · cases hf
      · cases htr
    · cases htr

theorem run_places {fs : Array Field} (h : fs.all (fun f => (P.info? f.type).isSome) = true) :
    (fs.mapM fun f => do pure (f.offset, ← sizeOf f.type) : Sem (Array (Nat × Nat))).run P w = .ok (fs.map fun f => (f.offset, (szOf P f.type).getD 0)) w := by
  obtain ⟨l⟩ := fs
  rw [List.mapM_toArray]
  have key : ∀ l : List Field, l.all (fun f => (P.info? f.type).isSome) = true →
      (l.mapM fun f => do pure (f.offset, ← sizeOf f.type) : Sem (List (Nat × Nat))).run P w = .ok (l.map fun f => (f.offset, (szOf P f.type).getD 0)) w := by
    intro l
    induction l with
    | nil => intro _; rfl
    | cons f l ih =>
      intro h
      simp only [List.all_cons, Bool.and_eq_true] at h
      obtain ⟨i, hi⟩ := Option.isSome_iff_exists.1 h.1
      have hsz : szOf P f.type = some i.size := by simp [szOf, hi]
      rw [List.mapM_cons]
      simp only [Sem.run_bind, run_sizeOf' hsz, Result.andThen_ok, Sem.run_pure, ih h.2, List.map_cons, hsz, Option.getD_some]
  simp only [Sem.run_map, key l (by simpa using h), Result.andThen_ok]
  simp

theorem map_pairs (ps : Array (Nat × Operand)) : (ps.map fun (i, x) => (i, a.eval x)).toList = ps.toList.map fun p => (p.1, a.eval p.2) := by
  rw [Array.toList_map]

theorem build_sound {quiet : FuncId → Bool} (ht : TRel ρ O w tm a) {t : TypeId} {ps : Array (Nat × Operand)} {z : List V} {ps' : List (Nat × Nat × Opnd)}
    (htr : trOp P quiet (.build t ps) = some (.build z ps')) {cs : List V} (hf : fillB tm z ps' = some cs) :
    ∃ cv, (Instr.build t (ps.map fun (i, x) => (i, a.eval x))).run P w = .ok cv w ∧ VRel ρ O w (.agg cs) cv := by
  simp only [trOp] at htr
  have fin : ∀ {ccs : Array Value}, LRel ρ O w cs ccs → VRel ρ O w (.agg cs) (.agg ccs) := by
    intro ccs hl
    have := VRel.agg (ρ := ρ) (O := O) (w := w) cs ccs.toList (by simpa using hl.1) (fun j x u hx hu => hl.2 j x u hx (by simpa using hu))
    simpa using this
  split at htr
  · rename_i z0 fs hz hu
    split at htr
    · rename_i hall
      simp only [Option.map_eq_some_iff] at htr
      obtain ⟨ps1, hps, e⟩ := htr
      injection e with e1 e2; subst e1; subst e2
      obtain ⟨i, zv, hi, hzz, hsz, hl, _, _, hrun⟩ := zeroOf_rel (ρ := ρ) (O := O) (w := w) hz
      obtain ⟨ccs, g1, g2⟩ := fillF_go (P := P) (place := fun i => (fs.map fun f => (f.offset, (szOf P f.type).getD 0))[i]?) (by
        intro i f n hf hn
        simp [hf, hn]) ps.toList ht hps hl hf
      refine ⟨.agg ccs, ?_, fin g2⟩
      simp only [Instr.build, Sem.run_bind, hrun, Result.andThen_ok, run_underlying hu, run_places hall, map_pairs, g1, Sem.run_pure]
    · cases htr
  · rename_i z0 n e hz hu
    split at htr
    · rename_i sz hsz0
      simp only [Option.map_eq_some_iff] at htr
      obtain ⟨ps1, hps, e'⟩ := htr
      injection e' with e1 e2; subst e1; subst e2
      obtain ⟨i, zv, hi, hzz, hsz, hl, _, _, hrun⟩ := zeroOf_rel (ρ := ρ) (O := O) (w := w) hz
      obtain ⟨ccs, g1, g2⟩ := fillA_go (place := fun i => some (i * sz, sz)) (sz := sz) (fun _ => rfl) ps.toList ht hps hl hf
      refine ⟨.agg ccs, ?_, fin g2⟩
      simp only [Instr.build, Sem.run_bind, hrun, Result.andThen_ok, run_underlying hu, run_sizeOf' hsz0, map_pairs, g1, Sem.run_pure]
    · cases htr
  · cases htr

theorem flat_rep (z : List V) : ∀ (n j : Nat), ((List.replicate n z).flatten)[j]? = if j < n * z.length then z[j % z.length]? else none
  | 0, j => by simp
  | n + 1, j => by
    rw [List.replicate_succ, List.flatten_cons]
    rcases Nat.lt_or_ge j z.length with h | h
    · rw [List.getElem?_append_left h, if_pos (by rw [Nat.add_mul]; omega), Nat.mod_eq_of_lt h]
    · rw [List.getElem?_append_right h, flat_rep z n, Nat.add_mul, Nat.one_mul]
      have e : (j - z.length) % z.length = j % z.length := by
        conv => rhs; rw [show j = (j - z.length) + z.length from by omega]
        rw [Nat.add_mod_right]
      rw [e]
      by_cases hc : j - z.length < n * z.length
      · rw [if_pos hc, if_pos (by omega)]
      · rw [if_neg hc, if_neg (by omega)]

theorem flat_rep_length (z : List V) (n : Nat) : ((List.replicate n z).flatten).length = n * z.length := by
  induction n with
  | zero => simp
  | succ n ih => rw [List.replicate_succ, List.flatten_cons, List.length_append, ih, Nat.add_mul]; omega

theorem flat_rep_isCell {z : List V} (h : z.all V.isCell = true) : ∀ n : Nat, ((List.replicate n z).flatten).all V.isCell = true
  | 0 => rfl
  | n + 1 => by rw [List.replicate_succ, List.flatten_cons, List.all_append, h, flat_rep_isCell h n]; rfl

theorem range_rel {z : List V} {cz : Array Value} (h : LRel ρ O w z cz) (n : Nat) : LRel ρ O w ((List.replicate n z).flatten) ((Array.range (n * z.length)).map (cz[· % cz.size]!)) := by
  refine ⟨by rw [flat_rep_length]; simp, fun j x u hx hu => ?_⟩
  rw [flat_rep] at hx
  split at hx
  · rename_i hj
    have hz : 0 < z.length := by
      rcases Nat.eq_zero_or_pos z.length with h0 | h0
      · rw [h0] at hj; omega
      · exact h0
    have hm : j % z.length < cz.size := by rw [← h.1]; exact Nat.mod_lt _ hz
    have hu' : u = cz[j % z.length]'hm := by
      rw [Array.getElem?_map] at hu
      simp [Array.getElem?_range, hj] at hu
      rw [← hu]
      rw [← h.1] at hm ⊢
      rw [getElem!_pos cz (j % z.length) (by omega)]
    exact h.2 _ _ _ hx (by rw [hu', Array.getElem?_eq_getElem hm])
  · cases hx

theorem fldv_sound {s : TypeId} {fs : Array Field} (hu : P.underlying s = some (.struct fs)) {f : Nat} {fd : Field} (hf : fs[f]? = some fd) {g : Option Nat} (hg : gOf P fd.type = some g)
    {x : V} {cx : Value} (hx : VRel ρ O w x cx) {v : V}
    (hv : aFldv fd.offset g x = some v) :
    ∃ cv, (Instr.field s cx f).run P w = .ok cv w ∧ VRel ρ O w v cv := by
  cases hx with
  | agg xs cs hl hr =>
    simp only [aFldv] at hv
    unfold gOf at hg
    split at hg
    · rename_i n ha hn
      injection hg with hg; subst hg
      simp only at hv
      split at hv
      · rename_i hle
        injection hv with hv; subst hv
        refine ⟨.agg ((cs.drop fd.offset).take n).toArray, ?_, .agg _ _ (by simp; omega) (fun j x u hx hu => ?_)⟩
        · simp only [Instr.field, Sem.run_bind, run_underlying hu, Result.andThen_ok, hf, part, asAgg, Sem.run_pure, run_isAgg ha, if_true, run_sizeOf' hn]
          simp [List.extract_eq_drop_take']
        · rw [List.getElem?_take, List.getElem?_drop] at hx hu
          split at hx
          · rename_i c
            rw [if_pos c] at hu
            exact hr _ _ _ hx hu
          · cases hx
      · cases hv
    · rename_i n ha hn
      injection hg with hg; subst hg
      simp only at hv
      have hlt : fd.offset < cs.length := by rw [← hl]; exact (List.getElem?_eq_some_iff.1 hv).1
      refine ⟨cs[fd.offset], ?_, hr _ _ _ hv (List.getElem?_eq_getElem hlt)⟩
      simp only [Instr.field, Sem.run_bind, run_underlying hu, Result.andThen_ok, hf, part, asAgg, Sem.run_pure, run_isAgg ha, Bool.false_eq_true, if_false]
      simp [hlt]
    · cases hg
  | _ => cases hv

end
end Go.Abs

/- All that leaves the heap as it is, in one theorem. -/
namespace Go.Abs

section
variable {P : Program} {ρ : Ren} {O : Nat → Prop} {w : World} {tm : Nat → V} {a : Act}

theorem run_v {s : Sem Value} {cv : Value} {w' : World} (h : s.run P w = .ok cv w') : (do pure (Next.value (← s)) : Sem Next).run P w = .ok (.value cv) w' := by
  simp [h]
theorem run_u {s : Sem Unit} {w' : World} (h : s.run P w = .ok () w') : (do s; pure Next.skip : Sem Next).run P w = .ok .skip w' := by
  simp [h]

theorem trOpt_rel (ht : TRel ρ O w tm a) {x : Option Operand} {y : Option Opnd} (h : trOpt x = some y) :
    (x = none ∧ y = none) ∨ ∃ x' y', x = some x' ∧ y = some y' ∧ VRel ρ O w (y'.ev tm) (a.eval x') := by
  cases x with
  | none => injection h with h; exact .inl ⟨rfl, h.symm⟩
  | some x =>
    simp only [trOpt, Option.map_eq_some_iff] at h
    obtain ⟨y', hy, rfl⟩ := h
    exact .inr ⟨x, y', rfl, rfl, trO_rel ht hy⟩

theorem slStr_sound {t : TypeId} (hu : P.underlying t = some .string) {s : ByteArray} {lo hi : Option Int} {k1 k2 : IntKind} (h1 : 0 ≤ lo.getD 0) (h2 : lo.getD 0 ≤ hi.getD s.size) (h3 : hi.getD s.size ≤ s.size) :
    (Instr.sliceAt t (.string s) (lo.map (Value.int k1)) (hi.map (Value.int k2)) none).run P w = .ok (.string (s.extract (lo.getD 0).toNat (hi.getD s.size).toNat)) w := by
  have hb := run_bounds (P := P) (w := w) (isSlice := false) (len := s.size) (cap := s.size) (k1 := k1) (k2 := k2) (lo := lo) (hi := hi) (lo.getD 0).toNat (hi.getD s.size).toNat (by omega) (by omega) (by omega) (by omega)
  simp only [Instr.sliceAt, Instr.slice, Sem.run_bind, run_underlying hu, Result.andThen_ok, Option.isSome_none, Bool.false_eq_true, if_false, hb, Sem.run_pure]

theorem map_int {k : IntKind} {n : Int} : (some (Value.int k n)) = (some n).map (Value.int k) := rfl

theorem look_sound {h : Heap} (hs : St ρ h w) {t kT e : TypeId} (hu : P.underlying t = some (.map kT e)) {kt : KT} (hkt : ktOf P kT = some kt) {z : V} (hz : zeroV P e = some z) {ok : Bool}
    {m k : V} {cm ck : Value} (hm : VRel ρ (Own ρ h) w m cm) (hk : VRel ρ (Own ρ h) w k ck) {v : V}
    (hv : aLook h kt z ok m k = some v) :
    ∃ cv, (Instr.lookup t cm ck ok).run P w = .ok cv w ∧ VRel ρ (Own ρ h) w v cv := by
  obtain ⟨cz, hzr, hzrun⟩ := zeroV_rel (ρ := ρ) (O := Own ρ h) (w := w) hz
  have fin : ∀ {u : V} {cu : Value} (b : Bool), VRel ρ (Own ρ h) w u cu → VRel ρ (Own ρ h) w (if ok then V.tuple [u, .bool b] else u) (if ok then .tuple #[cu, .bool b] else cu) := by
    intro u cu b hu
    cases ok with
    | false => exact hu
    | true =>
      have := VRel.tuple (ρ := ρ) (O := Own ρ h) (w := w) [u, .bool b] [cu, .bool b] rfl (by
        intro j x y hx hy
        match j with
        | 0 => simp at hx hy; subst hx; subst hy; exact hu
        | 1 => simp at hx hy; subst hx; subst hy; exact .bool b
        | j + 2 => simp at hx)
      simpa using this
  cases hm with
  | nilm =>
    simp only [aLook] at hv
    split at hv
    · rename_i hik
      injection hv with hv; subst hv
      refine ⟨_, ?_, fin false hzr⟩
      have hck := run_checkKey (w := w) hkt hk hik true
      have hf : (Instr.findKey kT ck []).run P w = .ok none w := by
        obtain ⟨q, h1, h2⟩ := findKey_sound (P := P) (w := w) hkt hk hik (es := []) (ces := []) ⟨rfl, fun j k v hj => by simp at hj⟩ (r := none) rfl
        simp only at h2; subst h2; exact h1
      simp [Instr.lookup, run_underlying hu, hck, hf, hzrun]
    · cases hv
  | mp b cb K hr =>
    simp only [aLook] at hv
    split at hv
    · rename_i es hb
      split at hv
      · rename_i hik
        obtain ⟨cb', K', hr', ces, g1, g2, g3⟩ := hs.blk b _ hb
        rw [hr] at hr'; injection hr' with hr'; injection hr' with e1 e2; subst e1; subst e2
        have hE : ERel ρ (Own ρ h) w es ces.toList := ⟨by simpa using g2, fun j k v hj => by
          obtain ⟨me, a1, _, a3, a4⟩ := g3 j k v hj
          exact ⟨me, by simpa using a1, a3, a4⟩⟩
        have hck := run_checkKey (w := w) hkt hk hik ces.isEmpty
        split at hv
        · rename_i i hfi
          simp only [Option.map_eq_some_iff] at hv
          obtain ⟨⟨k', v'⟩, he, rfl⟩ := hv
          obtain ⟨q, h1, me, h2, h3, _⟩ := findKey_sound hkt hk hik hE hfi
          subst h3
          obtain ⟨me', a1, _, _, a4⟩ := g3 i k' v' he
          have : me = me' := by
            have a1' : ces.toList[i]? = some me' := by simpa using a1
            rw [h2] at a1'; injection a1'
          subst this
          refine ⟨_, ?_, fin true a4⟩
          simp [Instr.lookup, run_underlying hu, hck, h1, run_getObj_map g1]
        · rename_i hfi
          injection hv with hv; subst hv
          obtain ⟨q, h1, h2⟩ := findKey_sound hkt hk hik hE hfi
          simp only at h2; subst h2
          refine ⟨_, ?_, fin false hzr⟩
          simp [Instr.lookup, run_underlying hu, hck, h1, run_getObj_map g1, hzrun]
        · cases hv
      · cases hv
    · cases hv
  | _ => cases hv

theorem len_sound {t e : TypeId} (hu : P.underlying t = some (.slice e)) {ty : TypeId} {x : V} {cx : Value} (hx : VRel ρ O w x cx) {v : V}
    (hv : aLen x = some v) : ∃ cv, (Builtin.len_ #[t] ty #[cx]).run P w = .ok cv w ∧ VRel ρ O w v cv := by
  cases hx <;> first
    | (cases hv; done)
    | (injection hv with hv; subst hv; refine ⟨_, ?_, .int _ _⟩; simp [Builtin.len_, run_underlying hu, goInt]; done)

/-- A value's tuple component. -/
theorem ext_sound {x : V} {cx : Value} (hx : VRel ρ O w x cx) {i : Nat} {v : V}
    (hv : aExt i x = some v) : ∃ cv, (Instr.extract cx i).run P w = .ok cv w ∧ VRel ρ O w v cv := by
  cases hx with
  | tuple xs cs hl hr =>
    simp only [aExt] at hv
    have hlt : i < cs.length := by rw [← hl]; exact (List.getElem?_eq_some_iff.1 hv).1
    exact ⟨cs[i], by simp [Instr.extract, hlt], hr _ _ _ hv (List.getElem?_eq_getElem hlt)⟩
  | _ => cases hv

theorem args1 {c : Call} {x : Operand} (h : c.args.toList = [x]) : c.args = #[x] := by
  rw [← Array.toArray_toList (xs := c.args), h]
theorem args2 {c : Call} {x y : Operand} (h : c.args.toList = [x, y]) : c.args = #[x, y] := by
  rw [← Array.toArray_toList (xs := c.args), h]
theorem types1 {c : Call} {x : TypeId} (h : c.argTypes.toList = [x]) : c.argTypes = #[x] := by
  rw [← Array.toArray_toList (xs := c.argTypes), h]
theorem types2 {c : Call} {x y : TypeId} (h : c.argTypes.toList = [x, y]) : c.argTypes = #[x, y] := by
  rw [← Array.toArray_toList (xs := c.argTypes), h]

theorem slS_sound {t e : TypeId} (hu : P.underlying t = some (.slice e)) {n : Nat} (hn : szOf P e = some n) (hsK : ∀ b cb K, ρ b = some (cb, K) → K ≤ maxLen) (ht : TRel ρ O w tm a)
    {x : V} {cx : Value} (hx : VRel ρ O w x cx) {lo hi mx : Option Operand} {lo' hi' mx' : Option Opnd} (h1 : trOpt lo = some lo') (h2 : trOpt hi = some hi') (h3 : trOpt mx = some mx')
    {v : V} (hv : aSlS n x (evo tm lo') (evo tm hi') (evo tm mx') = some v) :
    ∃ cv, (Instr.sliceAt t cx (lo.map a.eval) (hi.map a.eval) (mx.map a.eval)).run P w = .ok cv w ∧ VRel ρ O w v cv := by
  have key : ∀ (l u m : Option Int) (k1 k2 k3 : IntKind), (m.isSome = true → u.isSome = true) → lo.map a.eval = l.map (Value.int k1) → hi.map a.eval = u.map (Value.int k2) → mx.map a.eval = m.map (Value.int k3) → aslS n x l u m = some v →
      ∃ cv, (Instr.sliceAt t cx (lo.map a.eval) (hi.map a.eval) (mx.map a.eval)).run P w = .ok cv w ∧ VRel ρ O w v cv := by
    intro l u m k1 k2 k3 hm e1 e2 e3 hq
    rw [e1, e2, e3]
    exact aslS_sound (P := P) (t := t) hu hn hsK hx (k1 := k1) (k2 := k2) (k3 := k3) hm hq
  have one : ∀ {y : Option Operand} {y' : Option Opnd}, trOpt y = some y' → (y.map a.eval = none ∧ evo tm y' = none) ∨ ∃ q c, y.map a.eval = some c ∧ evo tm y' = some q ∧ VRel ρ O w q c := by
    intro y y' hy
    rcases trOpt_rel ht hy with ⟨rfl, rfl⟩ | ⟨u, u', rfl, rfl, r⟩
    · exact .inl ⟨rfl, rfl⟩
    · exact .inr ⟨_, _, rfl, rfl, r⟩
  rcases one h1 with ⟨e1, f1⟩ | ⟨q1, c1, e1, f1, r1⟩ <;> rcases one h2 with ⟨e2, f2⟩ | ⟨q2, c2, e2, f2, r2⟩ <;> rcases one h3 with ⟨e3, f3⟩ | ⟨q3, c3, e3, f3, r3⟩ <;> rw [f1, f2, f3] at hv
  · exact key none none none .i64 .i64 .i64 (by simp) e1 e2 e3 hv
  · cases hv
  · cases r2 <;> first | (cases hv; done) | skip
    exact key none (some _) none .i64 _ .i64 (by simp) e1 e2 e3 hv
  · cases r2 <;> cases r3 <;> first | (cases hv; done) | skip
    exact key none (some _) (some _) .i64 _ _ (by simp) e1 e2 e3 hv
  · cases r1 <;> first | (cases hv; done) | skip
    exact key (some _) none none _ .i64 .i64 (by simp) e1 e2 e3 hv
  · cases r1 <;> cases hv
  · cases r1 <;> cases r2 <;> first | (cases hv; done) | skip
    exact key (some _) (some _) none _ _ .i64 (by simp) e1 e2 e3 hv
  · cases r1 <;> cases r2 <;> cases r3 <;> first | (cases hv; done) | skip
    exact key (some _) (some _) (some _) _ _ _ (by simp) e1 e2 e3 hv

theorem slStrAll_sound {t : TypeId} (hu : P.underlying t = some .string) (ht : TRel ρ O w tm a)
    {x : V} {cx : Value} (hx : VRel ρ O w x cx) {lo hi : Option Operand} {lo' hi' : Option Opnd} (h1 : trOpt lo = some lo') (h2 : trOpt hi = some hi')
    {v : V} (hv : aSlStr x (evo tm lo') (evo tm hi') = some v) :
    ∃ cv, (Instr.sliceAt t cx (lo.map a.eval) (hi.map a.eval) none).run P w = .ok cv w ∧ VRel ρ O w v cv := by
  have one : ∀ {y : Option Operand} {y' : Option Opnd}, trOpt y = some y' → (y.map a.eval = none ∧ evo tm y' = none) ∨ ∃ q c, y.map a.eval = some c ∧ evo tm y' = some q ∧ VRel ρ O w q c := by
    intro y y' hy
    rcases trOpt_rel ht hy with ⟨rfl, rfl⟩ | ⟨u, u', rfl, rfl, r⟩
    · exact .inl ⟨rfl, rfl⟩
    · exact .inr ⟨_, _, rfl, rfl, r⟩
  have key : ∀ (s : ByteArray) (l u : Option Int) (k1 k2 : IntKind), cx = .string s → lo.map a.eval = l.map (Value.int k1) → hi.map a.eval = u.map (Value.int k2) → aslStr s l u = some v →
      ∃ cv, (Instr.sliceAt t cx (lo.map a.eval) (hi.map a.eval) none).run P w = .ok cv w ∧ VRel ρ O w v cv := by
    intro s l u k1 k2 e0 e1 e2 hq
    rw [e0, e1, e2]
    unfold aslStr at hq
    split at hq
    · rename_i c
      injection hq with hq; subst hq
      exact ⟨_, slStr_sound hu c.1 c.2.1 c.2.2, .str _⟩
    · cases hq
  cases hx with
  | str s =>
    rcases one h1 with ⟨e1, f1⟩ | ⟨q1, c1, e1, f1, r1⟩ <;> rcases one h2 with ⟨e2, f2⟩ | ⟨q2, c2, e2, f2, r2⟩ <;> rw [f1, f2] at hv
    · exact key s none none .i64 .i64 rfl e1 e2 hv
    · cases r2 <;> first | (cases hv; done) | skip
      exact key s none (some _) .i64 _ rfl e1 e2 hv
    · cases r1 <;> first | (cases hv; done) | skip
      exact key s (some _) none _ .i64 rfl e1 e2 hv
    · cases r1 <;> cases r2 <;> first | (cases hv; done) | skip
      exact key s (some _) (some _) _ _ rfl e1 e2 hv
  | _ => cases hv

/-- The operations of the kinds 0 and 1 but the quiet calls. -/
theorem pure_sound {quiet : FuncId → Bool} {qf : FuncId → List V → Heap → Option V} {h : Heap} (hs : St ρ h w) (hsK : ∀ b cb K, ρ b = some (cb, K) → K ≤ maxLen) (ht : TRel ρ (Own ρ h) w tm a) {o : Oper} {ao : AOp} (htr : trOp P quiet o.op = some ao)
    (hk : ao.kind < 2) (hnq : ∀ f xs, ao ≠ .qcall f xs) {v : V} (hv : apure qf ao tm h = some v) :
    ∃ cv, (execOp a.eval o).run P w = .ok (.value cv) w ∧ VRel ρ (Own ρ h) w v cv := by
  obtain ⟨dst, op, type, pos, after, guard⟩ := o
  simp only at htr
  cases op with
  | move x =>
    simp only [trOp, Option.map_eq_some_iff] at htr
    obtain ⟨y, hy, rfl⟩ := htr
    injection hv with hv; subst hv
    exact ⟨a.eval x, rfl, trO_rel ht hy⟩
  | assign x =>
    simp only [trOp, Option.map_eq_some_iff] at htr
    obtain ⟨y, hy, rfl⟩ := htr
    injection hv with hv; subst hv
    exact ⟨a.eval x, rfl, trO_rel ht hy⟩
  | pick c x y =>
    simp only [trOp] at htr
    split at htr
    · rename_i c' x' y' h1 h2 h3
      injection htr with htr; subst htr
      have r1 := trO_rel ht h1
      simp only [apure] at hv
      generalize c'.ev tm = vc at r1 hv
      generalize hcc : a.eval c = cc at r1
      cases r1 <;> first | (cases hv; done) | skip
      rename_i b
      injection hv with hv; subst hv
      refine ⟨if b then a.eval x else a.eval y, ?_, ?_⟩
      · simp [execOp, hcc, asBool]
      · cases b
        · exact trO_rel ht h3
        · exact trO_rel ht h2
    · cases htr
  | build t ps =>
    have hz : ∃ z ps', ao = .build z ps' := by
      simp only [trOp] at htr
      split at htr
      · split at htr
        · simp only [Option.map_eq_some_iff] at htr
          obtain ⟨_, _, rfl⟩ := htr; exact ⟨_, _, rfl⟩
        · cases htr
      · split at htr
        · simp only [Option.map_eq_some_iff] at htr
          obtain ⟨_, _, rfl⟩ := htr; exact ⟨_, _, rfl⟩
        · cases htr
      · cases htr
    obtain ⟨z, ps', rfl⟩ := hz
    simp only [apure, Option.map_eq_some_iff] at hv
    obtain ⟨cs, hcs, rfl⟩ := hv
    obtain ⟨cv, h1, h2⟩ := build_sound ht htr hcs
    exact ⟨cv, run_v h1, h2⟩
  | load t x =>
    simp only [trOp] at htr
    split at htr
    · rename_i g y h1 h2
      injection htr with htr; subst htr
      obtain ⟨cv, h3, h4⟩ := load_sound hs h1 (trO_rel ht h2) hv
      exact ⟨cv, run_v h3, h4⟩
    · cases htr
  | nilCheck x =>
    simp only [trOp, Option.map_eq_some_iff] at htr
    obtain ⟨y, hy, rfl⟩ := htr
    have r := trO_rel ht hy
    simp only [apure] at hv
    generalize y.ev tm = vy at r hv
    generalize hcx : a.eval x = cx at r
    cases r <;> first
      | (cases hv; done)
      | (injection hv with hv; subst hv
         refine ⟨a.eval x, ?_, ?_⟩
         · simp [execOp, hcx]
         · rw [hcx]; constructor <;> assumption)
  | binOp op t x y yt =>
    simp only [trOp] at htr
    split at htr
    · rename_i tk x' y' h1 h2 h3
      injection htr with htr; subst htr
      obtain ⟨cv, h4, h5⟩ := abin_sound h1 x y (trO_rel ht h2) (trO_rel ht h3) hv
      exact ⟨cv, run_v h4, h5⟩
    · cases htr
  | unOp op t x =>
    simp only [trOp, Option.map_eq_some_iff] at htr
    obtain ⟨y, hy, rfl⟩ := htr
    obtain ⟨cv, h4, h5⟩ := aun_sound (P := P) (trO_rel ht hy) hv
    exact ⟨cv, run_v h4, h5⟩
  | convert s d x =>
    simp only [trOp] at htr
    split at htr
    · rename_i k0 k y h1 h2 h3
      injection htr with htr; subst htr
      have r := trO_rel ht h3
      simp only [apure] at hv
      generalize y.ev tm = vy at r hv
      generalize hcx : a.eval x = cx at r
      cases r <;> first | (cases hv; done) | skip
      rename_i k' n
      injection hv with hv; subst hv
      refine ⟨.int k (k.wrap n), run_v ?_, .int _ _⟩
      rw [hcx]
      simp [convert, run_underlying h1, run_underlying h2, Conv.intToInt]
    · rename_i e y h1 h2 h3
      split at htr
      · rename_i he
        injection htr with htr; subst htr
        simp only [apure, aCstr] at hv
        split at hv
        · rename_i cs n hcs
          simp only [Option.map_eq_some_iff] at hv
          obtain ⟨l, hl, rfl⟩ := hv
          exact ⟨_, run_v (cstr_sound hs h1 he h2 (trO_rel ht h3) hcs hl), .str _⟩
        · cases hv
      · cases htr
    · cases htr
  | slice t x lo hi mx =>
    simp only [trOp] at htr
    split at htr
    · rename_i e hu
      split at htr
      · rename_i n x' lo' hi' mx' h1 h2 h3 h4 h5
        injection htr with htr; subst htr
        obtain ⟨cv, a1, a2⟩ := slS_sound hu h1 hsK ht (trO_rel ht h2) h3 h4 h5 hv
        exact ⟨cv, run_v a1, a2⟩
      · cases htr
    · rename_i hu
      split at htr
      · rename_i x' lo' hi' h1 h2 h3
        injection htr with htr; subst htr
        obtain ⟨cv, a1, a2⟩ := slStrAll_sound hu ht (trO_rel ht h1) h2 h3 hv
        exact ⟨cv, run_v a1, a2⟩
      · cases htr
    · cases htr
  | fieldAddr s x f =>
    simp only [trOp] at htr
    split at htr
    · rename_i fs y hu hy
      split at htr
      · rename_i fd hf
        split at htr
        · rename_i n hn
          split at htr
          · cases htr
          · rename_i h0
            injection htr with htr; subst htr
            obtain ⟨cv, a1, a2⟩ := fld_sound hu hf hn h0 (trO_rel ht hy) hv
            exact ⟨cv, run_v a1, a2⟩
        · cases htr
      · cases htr
    · cases htr
  | field s x f =>
    simp only [trOp] at htr
    split at htr
    · rename_i fs y hu hy
      split at htr
      · rename_i fd hf
        split at htr
        · rename_i g hg
          injection htr with htr; subst htr
          obtain ⟨cv, a1, a2⟩ := fldv_sound hu hf hg (trO_rel ht hy) hv
          exact ⟨cv, run_v a1, a2⟩
        · cases htr
      · cases htr
    · cases htr
  | indexAddr t x i =>
    simp only [trOp] at htr
    split at htr
    · rename_i e x' i' hu hx hi
      simp only [Option.map_eq_some_iff] at htr
      obtain ⟨n, hn, rfl⟩ := htr
      obtain ⟨cv, a1, a2⟩ := idx_sound hu hn (trO_rel ht hx) (trO_rel ht hi) hv
      exact ⟨cv, run_v a1, a2⟩
    · rename_i l e x' i' hu hx hi
      simp only [Option.map_eq_some_iff] at htr
      obtain ⟨n, hn, rfl⟩ := htr
      obtain ⟨cv, a1, a2⟩ := idxA_sound hu hn (trO_rel ht hx) (trO_rel ht hi) hv
      exact ⟨cv, run_v a1, a2⟩
    · cases htr
  | index t x i =>
    simp only [trOp] at htr
    split at htr
    · rename_i x' i' hu hx hi
      injection htr with htr; subst htr
      obtain ⟨cv, a1, a2⟩ := idxStr_sound (P := P) hu (trO_rel ht hx) (trO_rel ht hi) hv
      exact ⟨cv, run_v a1, a2⟩
    · cases htr
  | lookup t m k ok =>
    simp only [trOp] at htr
    split at htr
    · rename_i kT e hu
      split at htr
      · rename_i kt z m' k' h1 h2 h3 h4
        injection htr with htr; subst htr
        obtain ⟨cv, a1, a2⟩ := look_sound hs hu h1 h2 (trO_rel ht h3) (trO_rel ht h4) hv
        exact ⟨cv, run_v a1, a2⟩
      · cases htr
    · cases htr
  | extract x i =>
    simp only [trOp, Option.map_eq_some_iff] at htr
    obtain ⟨y, hy, rfl⟩ := htr
    obtain ⟨cv, a1, a2⟩ := ext_sound (P := P) (trO_rel ht hy) hv
    exact ⟨cv, run_v a1, a2⟩
  | call c =>
    simp only [trOp, trCall] at htr
    split at htr
    · rename_i hcal
      split at htr
      · rename_i x t hx ht'
        split at htr
        · rename_i e y hu hy
          injection htr with htr; subst htr
          obtain ⟨cv, a1, a2⟩ := len_sound (ty := type) hu (trO_rel ht hy) hv
          refine ⟨cv, ?_, a2⟩
          simp [execOp, resolve, hcal, invoke, builtin, args1 hx, types1 ht', a1]
        · rename_i y hu hy
          injection htr with htr; subst htr
          have r := trO_rel ht hy
          simp only [apure] at hv
          generalize y.ev tm = vy at r hv
          generalize hcx : a.eval x = cx at r
          cases r <;> first | (cases hv; done) | skip
          rename_i s
          injection hv with hv; subst hv
          refine ⟨_, ?_, .int _ _⟩
          simp [execOp, resolve, hcal, invoke, builtin, args1 hx, types1 ht', hcx, Builtin.len_, run_underlying hu, goInt]
        · cases htr
      · cases htr
    · rename_i hcal
      split at htr
      · rename_i x y hx
        split at htr
        · rename_i x' y' h1 h2
          injection htr with htr; subst htr
          have r1 := trO_rel ht h1
          have r2 := trO_rel ht h2
          simp only [apure] at hv
          generalize x'.ev tm = vx at r1 hv
          generalize y'.ev tm = vy at r2 hv
          generalize hcx : a.eval x = cx at r1
          generalize hcy : a.eval y = cy at r2
          cases r1 <;> cases r2 <;> first | (cases hv; done) | skip
          injection hv with hv; subst hv
          refine ⟨_, ?_, .int _ _⟩
          simp [execOp, resolve, hcal, invoke, builtin, args2 hx, hcx, hcy, Builtin.min_, Builtin.min2]
        · cases htr
      · cases htr
    · rename_i hcal
      split at htr
      · rename_i x y hx
        split at htr
        · rename_i x' y' h1 h2
          injection htr with htr; subst htr
          have r1 := trO_rel ht h1
          have r2 := trO_rel ht h2
          simp only [apure] at hv
          generalize x'.ev tm = vx at r1 hv
          generalize y'.ev tm = vy at r2 hv
          generalize hcx : a.eval x = cx at r1
          generalize hcy : a.eval y = cy at r2
          cases r1 <;> cases r2 <;> first | (cases hv; done) | skip
          injection hv with hv; subst hv
          refine ⟨_, ?_, .int _ _⟩
          simp [execOp, resolve, hcal, invoke, builtin, args2 hx, hcx, hcy, Builtin.max_, Builtin.max2]
        · cases htr
      · cases htr
    · split at htr
      · split at htr
        · split at htr
          · split at htr
            · injection htr with htr; subst htr; cases hv
            · cases htr
          · cases htr
        · cases htr
      · cases htr
    · split at htr
      · split at htr
        · injection htr with htr
          split at htr
          · exact absurd htr.symm (hnq _ _)
          · subst htr; cases hv
        · cases htr
      · cases htr
    · cases htr
  | alloc e => simp only [trOp, Option.map_eq_some_iff] at htr; obtain ⟨_, _, rfl⟩ := htr; cases hv
  | box e x =>
    simp only [trOp] at htr
    split at htr
    · injection htr with htr; subst htr; cases hv
    · cases htr
  | buildSlice t l ps =>
    simp only [trOp] at htr
    split at htr
    · split at htr
      · split at htr
        · injection htr with htr; subst htr; cases hv
        · cases htr
      · cases htr
    · cases htr
  | store t x y =>
    simp only [trOp] at htr
    split at htr
    · injection htr with htr; subst htr; cases hv
    · cases htr
  | makeSlice t l c =>
    simp only [trOp] at htr
    split at htr
    · split at htr
      · split at htr
        · injection htr with htr; subst htr; cases hv
        · cases htr
      · cases htr
    · cases htr
  | makeMap t r =>
    cases r with
    | none => injection htr with htr; subst htr; cases hv
    | some x => cases htr
  | mapUpdate t m k x =>
    simp only [trOp] at htr
    split at htr
    · split at htr
      · injection htr with htr; subst htr; cases hv
      · cases htr
    · cases htr
  | mapEntry t m k =>
    simp only [trOp] at htr
    split at htr
    · split at htr
      · injection htr with htr; subst htr; cases hv
      · cases htr
    · cases htr
  | entryStore t m s x =>
    simp only [trOp] at htr
    split at htr
    · injection htr with htr; subst htr; cases hv
    · cases htr
  | _ => cases htr

end
end Go.Abs

/- The operations that turn the heap. -/
namespace Go.Abs

section
variable {P : Program} {ρ : Ren} {w : World} {tm : Nat → V} {a : Act} {h : Heap}

/-- What such an operation leaves: its value, the new heap, what stands for it. -/
def Eff (P : Program) (ρ : Ren) (h : Heap) (w : World) (s : Sem Next) (K : V → Heap → Prop) : Prop :=
  ∃ v h' ρ' w' cv r, s.run P w = .ok r w' ∧ (r = .value cv ∨ (r = .skip ∧ cv = undef)) ∧ K v h' ∧ St ρ' h' w' ∧ VRel ρ' (Own ρ' h') w' v cv ∧ Fr ρ h w ρ' h' w'

theorem new_cells (hs : St ρ h w) {e : TypeId} {esz K : Nat} {xs : List V} {cs : Array Value} (hK : K ≤ maxLen) (hsz : cs.size = K * esz) (hle : xs.length ≤ cs.size)
    (hr : ∀ (j : Nat) (x : V), xs[j]? = some x → x.isCell = true ∧ ∃ cv, cs[j]? = some cv ∧ VRel ρ (Own ρ h) w x cv) :
    ∃ b ρ', h b = none ∧ ρ' b = some (w.heap.size, K) ∧ St ρ' (upd h b (.cells e esz xs)) { w with heap := w.heap.push (.cells cs e) } ∧
      Fr ρ h w ρ' (upd h b (.cells e esz xs)) { w with heap := w.heap.push (.cells cs e) } := by
  obtain ⟨b, hb, hhb⟩ := hs.name
  refine ⟨b, ren ρ b (w.heap.size, K), hhb, ren_eq _ _ _, ?_⟩
  refine hs.bind (w' := { w with heap := w.heap.push (.cells cs e) }) hK hb hhb rfl rfl rfl (by simp) (Nat.le_refl _) (by simp) (fun k hk => ?_) (fun f => ?_)
  · show (w.heap.push _)[k]? = _
    rw [Array.getElem?_push, if_neg (by omega)]
  · refine ⟨cs, by simp, hsz, hK, hle, fun j x hx => ?_⟩
    obtain ⟨h1, cv, h2, h3⟩ := hr j x hx
    exact ⟨h1, cv, h2, h3.fr f⟩

theorem LRel.full {O : Nat → Prop} {xs : List V} {cs : Array Value} (hl : LRel ρ O w xs cs) (hc : xs.all V.isCell = true) (j : Nat) (x : V) (hx : xs[j]? = some x) : x.isCell = true ∧ ∃ cv, cs[j]? = some cv ∧ VRel ρ O w x cv := by
  have hlt : j < cs.size := by rw [← hl.1]; exact (List.getElem?_eq_some_iff.1 hx).1
  refine ⟨?_, cs[j], Array.getElem?_eq_getElem hlt, hl.2 j x _ hx (Array.getElem?_eq_getElem hlt)⟩
  exact List.all_eq_true.1 hc x (List.mem_of_getElem? hx)

theorem alloc_eff (hs : St ρ h w) {e : TypeId} {z : List V} (hz : zeroOf P e = some z) {K : V → Heap → Prop} (hK : ∀ b, h b = none → K (.ptr b 0) (upd h b (.cells e z.length z))) :
    Eff P ρ h w (do pure (Next.value (← Instr.alloc e true (.tuple #[])))) K := by
  obtain ⟨i, cz, hi, hzz, hsz, hl, hc, hlen, hrun⟩ := zeroOf_rel (ρ := ρ) (O := Own ρ h) (w := w) hz
  obtain ⟨b, ρ', hb, hr, hst, hfr⟩ := new_cells (K := 1) (esz := z.length) hs (e := e) (by decide) (by rw [hl.1]; omega) (by rw [hl.1]; exact Nat.le_refl _) (LRel.full hl hc)
  refine ⟨_, _, ρ', _, _, _, ?_, .inl rfl, hK b hb, hst, .ptr b 0 _ _ hr, hfr⟩
  refine run_v ?_
  simp [Instr.alloc, hrun, newVar, newRow]

theorem box_eff (hs : St ρ h w) {e : TypeId} {n : Nat} {x : V} {cx : Value} (hx : VRel ρ (Own ρ h) w x cx) (hn : x.cells.length = n) (hc : x.cells.all V.isCell = true) {K : V → Heap → Prop}
    (hK : ∀ b, h b = none → K (.ptr b 0) (upd h b (.cells e n x.cells))) : Eff P ρ h w (do pure (Next.value (← Instr.box e cx))) K := by
  have hl := LRel.ofCells hx hc
  obtain ⟨b, ρ', hb, hr, hst, hfr⟩ := new_cells (K := 1) (esz := n) hs (e := e) (by decide) (by rw [← hl.1]; omega) (by rw [← hl.1]; exact Nat.le_refl _) (LRel.full hl hc)
  refine ⟨_, _, ρ', _, _, _, ?_, .inl rfl, hK b hb, hst, .ptr b 0 _ _ hr, hfr⟩
  refine run_v ?_
  simp [Instr.box, newVar, newRow]

theorem all_setAt : ∀ {v cs : List V} {off : Nat}, cs.all V.isCell = true → v.all V.isCell = true → (setAt cs off v).all V.isCell = true
  | [], cs, off, h1, h2 => h1
  | x :: v, cs, off, h1, h2 => by
    simp only [List.all_cons, Bool.and_eq_true] at h2
    refine all_setAt (v := v) ?_ h2.2
    rw [List.all_eq_true]
    intro y hy
    rcases List.mem_or_eq_of_mem_set hy with hy | rfl
    · exact List.all_eq_true.1 h1 y hy
    · exact h2.1

theorem fillS_all {sz : Nat} : ∀ {ps : List (Nat × Opnd)} {cs cs' : List V}, cs.all V.isCell = true → fillS tm sz cs ps = some cs' → cs'.all V.isCell = true
  | [], cs, cs', h1, h2 => by injection h2 with h2; subst h2; exact h1
  | (i, x) :: ps, cs, cs', h1, h2 => by
    simp only [fillS] at h2
    split at h2
    · rename_i hc
      exact fillS_all (all_setAt h1 hc.2.2) h2
    · cases h2

theorem buildS_eff (hs : St ρ h w) (ht : TRel ρ (Own ρ h) w tm a) {t e : TypeId} {n len : Nat} (hu : P.underlying t = some (.slice e)) (hn : szOf P e = some n) {z : List V} (hz : zeroOf P e = some z)
    {ps : Array (Nat × Operand)} {ps' : List (Nat × Opnd)} (hps : trPartsL ps.toList = some ps') (hsmall : len * n ≤ 2 ^ 24) (hpos : 0 < n) {K : V → Heap → Prop}
    (hW : wBuildS e n len (fillS tm n ((List.replicate len z).flatten) ps') h K) :
    Eff P ρ h w (do pure (Next.value (← Instr.buildSlice t len (ps.map fun (i, x) => (i, a.eval x))))) K := by
  obtain ⟨i, cz, hi, hzz, hsz, hl, hc, hlen, hrun⟩ := zeroOf_rel (ρ := ρ) (O := Own ρ h) (w := w) hz
  obtain ⟨i', hi', hin⟩ := szOf_info hn
  rw [hi] at hi'; injection hi' with hi'; subst hi'
  have hzn : z.length = n := by omega
  unfold wBuildS at hW
  split at hW
  · rename_i cs hcs
    obtain ⟨ccs, g1, g2⟩ := fillS_go (place := fun i => some (i * n, n)) (sz := n) (fun _ => rfl) ps.toList ht hps (range_rel hl len) hcs
    have hall := fillS_all (flat_rep_isCell hc len) hcs
    have hcl : cs.length = len * n := by
      have : ∀ {ps : List (Nat × Opnd)} {c1 c2 : List V}, fillS tm n c1 ps = some c2 → c2.length = c1.length := by
        intro ps
        induction ps with
        | nil => intro c1 c2 h; injection h with h; rw [h]
        | cons p ps ih =>
          intro c1 c2 h
          obtain ⟨i, x⟩ := p
          simp only [fillS] at h
          split at h
          · rw [ih h, setAt_length]
          · cases h
      rw [this hcs, flat_rep_length, hzn]
    have hlen2 : len ≤ maxLen := by
      have : len ≤ len * n := Nat.le_mul_of_pos_right _ hpos
      simp only [maxLen]; omega
    obtain ⟨b, ρ', hb, hr, hst, hfr⟩ := new_cells (K := len) (esz := n) hs (e := e) hlen2 (by rw [← g2.1, hcl]) (by rw [← g2.1]; exact Nat.le_refl _) (LRel.full g2 hall)
    refine ⟨_, _, ρ', _, _, _, ?_, .inl rfl, hW b hb, hst, .sl n b 0 len _ len hr (by omega), hfr⟩
    refine run_v ?_
    have hbig : ¬ (2 ^ 24 < len * n) := by omega
    simp only [Instr.buildSlice, Sem.run_bind, run_underlying hu, Result.andThen_ok, run_sizeOf' hn, gt_iff_lt, hbig, if_false]
    by_cases h0 : len * n = 0
    · rw [if_pos h0]
      have hl0 : len = 0 := by
        rcases Nat.mul_eq_zero.1 h0 with h0 | h0
        · exact h0
        · omega
      subst hl0
      have e0 : ∀ f : Nat → Value, (Array.range 0).map f = #[] := fun f => Array.eq_empty_of_size_eq_zero (by simp)
      simp only [Nat.zero_mul, e0] at g1
      simp only [Sem.run_pure, Result.andThen_ok, map_pairs, Nat.zero_mul, e0, g1]
      simp [newRow]
    · rw [if_neg h0]
      rw [hzn] at g1
      simp only [Sem.run_bind, hrun, Result.andThen_ok, Sem.run_pure, map_pairs, g1]
      simp [newRow]
  · exact hW.elim

theorem mkS_eff (hs : St ρ h w) {t e : TypeId} {i : TypeInfo} (hu : P.underlying t = some (.slice e)) (hi : P.info? e = some i) {z : List V} (hz : zeroOf P e = some z) (hpos : 0 < i.size) {l c : V} {cl cc : Value}
    (hl : VRel ρ (Own ρ h) w l cl) (hc : VRel ρ (Own ρ h) w c cc) {K : V → Heap → Prop}
    (hW : wMkS e i.size i.bytes z l c h K) : Eff P ρ h w (do pure (Next.value (← Instr.makeSlice t cl cc))) K := by
  obtain ⟨i', cz, hi', hzz, hsz, hlr, hcz, hlen, hrun⟩ := zeroOf_rel (ρ := ρ) (O := Own ρ h) (w := w) hz
  rw [hi] at hi'; injection hi' with hi'; subst hi'
  unfold wMkS at hW
  split at hW
  · rename_i l c
    obtain ⟨⟨h1, h2, h3, h4⟩, hK⟩ := hW
    have e1 := vrel_int hl
    have e2 := vrel_int hc
    subst e1; subst e2
    have w1 : IntKind.i64.wrap l = l := IntWalk.i64_in l (by omega)
    have w2 : IntKind.i64.wrap c = c := IntWalk.i64_in c (by omega)
    have hR := range_rel hlr c.toNat
    have hzl : z.length = i.size := hlen
    have hmul : l.toNat * i.size ≤ c.toNat * i.size := Nat.mul_le_mul_right _ (by omega)
    obtain ⟨b, ρ', hb, hr, hst, hfr⟩ := new_cells (K := c.toNat) (esz := i.size) (xs := (List.replicate l.toNat z).flatten) (cs := (Array.range (c.toNat * z.length)).map fun x => cz.cells[x % cz.cells.size]!) hs (e := e) (by simp only [maxLen]; omega) (by simp [hzl]) (by rw [flat_rep_length]; simp [hzl]; exact hmul) (by
        intro j x hx
        have hx' : ((List.replicate c.toNat z).flatten)[j]? = some x := by
          rw [flat_rep] at hx ⊢
          split at hx
          · rw [if_pos (by rw [hzl] at *; omega)]; exact hx
          · cases hx
        exact LRel.full hR (flat_rep_isCell hcz _) j x hx')
    refine ⟨_, _, ρ', _, _, _, ?_, .inl rfl, hK b hb, hst, .sl i.size b 0 l.toNat _ c.toNat hr (by omega), hfr⟩
    refine run_v ?_
    have n1 : ¬ (c < 0) := by omega
    have n2 : ¬ ((281474976710656 : Int) < (i.bytes : Int) * c) := by omega
    have n3 : ¬ (l < 0) := by omega
    have n4 : ¬ (c < l) := by omega
    have hti : (typeInfo e).run P w = .ok i w := by simp [typeInfo, hi]
    have hsz' : (sizeOf e).run P w = .ok i.size w := by simp [sizeOf, hti]
    simp only [Instr.makeSlice, Sem.run_bind, run_underlying hu, Result.andThen_ok, asInt, asIntOf, Sem.run_pure, hti, w1, w2, hsz', run_askRoom]
    simp [n1, n2, n3, n4, hsz']
    by_cases h0 : c.toNat * i.size = 0
    · have hc0 : c.toNat = 0 := by
        rcases Nat.mul_eq_zero.1 h0 with h0 | h0
        · exact h0
        · omega
      have e0 : ∀ f : Nat → Value, (Array.range 0).map f = #[] := fun f => Array.eq_empty_of_size_eq_zero (by simp)
      simp [hc0, newRow, e0]
    · have h0' : ¬ (c.toNat = 0 ∨ i.size = 0) := by
        rintro (hh | hh) <;> simp [hh] at h0
      simp only [Nat.mul_eq_zero, h0', if_false]
      simp [hrun, newRow, hzl]
  · exact hW.elim

theorem mkM_eff (hs : St ρ h w) {t : TypeId} {K : V → Heap → Prop} (hK : ∀ b, h b = none → K (.mp b) (upd h b (.map []))) : Eff P ρ h w (do pure (Next.value (← Instr.makeMap t none))) K := by
  obtain ⟨b, hb, hhb⟩ := hs.name
  have key := hs.bind (w' := { w with heap := w.heap.push (.map #[] 0) }) (cb := w.heap.size) (K := 0) (x := .map []) (Nat.zero_le _) hb hhb rfl rfl rfl (by simp) (Nat.le_refl _) (by simp) (fun k hk => by
    show (w.heap.push _)[k]? = _
    rw [Array.getElem?_push, if_neg (by omega)]) (fun f => ⟨#[], by simp, rfl, fun j k v hj => by simp at hj⟩)
  refine ⟨_, _, _, _, _, _, ?_, .inl rfl, hK b hhb, key.1, .mp b _ _ (ren_eq _ _ _), key.2⟩
  refine run_v ?_
  simp [Instr.makeMap]

theorem store_eff (hs : St ρ h w) {t : TypeId} {n : Nat} (hn : szOf P t = some n) {ad x : V} {ca cx : Value} (ha : VRel ρ (Own ρ h) w ad ca) (hx : VRel ρ (Own ρ h) w x cx) {K : V → Heap → Prop}
    (hW : wStore n ad x h K) : Eff P ρ h w (do Instr.storeAt t ca cx; pure Next.skip) K := by
  unfold wStore at hW
  split at hW
  · rename_i b off
    split at hW
    · rename_i e esz xs hb
      obtain ⟨⟨h1, h2, h3⟩, hK⟩ := hW
      cases ha with
      | ptr b off cb Kc hr =>
        obtain ⟨cb', K', hr', cur, g1, g2, g3, g4, g5⟩ := hs.blk b _ hb
        rw [hr] at hr'; injection hr' with hr'; injection hr' with e1 e2; subst e1; subst e2
        have hl := LRel.ofCells hx h2
        have hone : ∀ v ∈ cx.cells.toList, v.oneCell' = true := by
          intro v hv
          obtain ⟨j, hj⟩ := List.getElem?_of_mem hv
          have hj' : cx.cells[j]? = some v := by simpa using hj
          have hlt : j < x.cells.length := by rw [hl.1]; exact (Array.getElem?_eq_some_iff.1 hj').1
          exact isCell_oneCell (hl.2 j _ v (List.getElem?_eq_getElem hlt) hj') (List.all_eq_true.1 h2 _ (List.getElem_mem hlt))
        have hsz := hl.1
        have hst := run_storeCells_at P cb off e cx.cells.toList 0 cur w g1 (by simp; omega) hone
        simp only [Nat.add_zero] at hst
        have hnew : ∀ j : Nat, (cur.toList.take off ++ cx.cells.toList ++ cur.toList.drop (off + cx.cells.toList.length))[j]? = if off ≤ j ∧ j < off + x.cells.length then cx.cells[j - off]? else cur[j]? := by
          intro j
          have hlen1 : (cur.toList.take off).length = off := by simp; omega
          rcases Nat.lt_or_ge j off with c1 | c1
          · rw [if_neg (by omega), List.append_assoc, List.getElem?_append_left (by omega), List.getElem?_take, if_pos c1]; simp
          · rw [List.append_assoc, List.getElem?_append_right (by omega), hlen1]
            rcases Nat.lt_or_ge (j - off) cx.cells.toList.length with c2 | c2
            · rw [List.getElem?_append_left c2, if_pos (by simp at c2; omega)]; simp
            · rw [List.getElem?_append_right c2, if_neg (by simp at c2; omega), List.getElem?_drop]
              simp at c2 ⊢
              congr 1
              omega
        have hset := setAt_get x.cells xs off
        have key := hs.turn (w' := w.setRow cb (cur.toList.take off ++ cx.cells.toList ++ cur.toList.drop (off + cx.cells.toList.length)).toArray) (x := .cells e esz (setAt xs off x.cells)) hr hb rfl rfl rfl (by simp [World.setRow]) (fun k hk => by
          simp only [World.setRow, Array.getElem?_modify]; rw [if_neg (by omega)]) (fun f => by
          refine ⟨_, setRow_heap w cb cur _ e _ g1, ?_, g3, ?_, fun j y hy => ?_⟩
          · simp; omega
          · rw [setAt_length]; simp; omega
          · rw [hset j (by omega)] at hy
            have hnj := hnew j
            by_cases c : off ≤ j ∧ j < off + x.cells.length
            · rw [if_pos c] at hy hnj
              obtain ⟨a1, cv, a2, a3⟩ := LRel.full hl h2 _ _ hy
              refine ⟨a1, cv, ?_, a3.fr f⟩
              rw [List.getElem?_toArray, hnj]; exact a2
            · rw [if_neg c] at hy hnj
              obtain ⟨a1, cv, a2, a3⟩ := g5 _ _ hy
              refine ⟨a1, cv, ?_, a3.fr f⟩
              rw [List.getElem?_toArray, hnj]; exact a2)
        refine ⟨_, _, _, _, undef, _, ?_, .inr ⟨rfl, rfl⟩, hK, key.1, .undef, key.2⟩
        refine run_u ?_
        have hne : ¬ (cx.cells.size ≠ n) := by omega
        simp only [Instr.storeAt, Instr.sureAddr, Sem.run_bind, Sem.run_pure, Result.andThen_ok, storeVar, run_sizeOf' hn, hne, if_false, hst]
    · exact hW.elim
  · exact hW.elim

end
end Go.Abs
