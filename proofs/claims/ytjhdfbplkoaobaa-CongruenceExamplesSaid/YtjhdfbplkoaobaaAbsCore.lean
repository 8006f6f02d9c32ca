/- The abstract calculus: values, heaps, operations, code, and a predicate transformer by recursion over code. Own work; nothing here is about a particular program. -/
import Derived.Orders
import Derived.Below
set_option linter.unusedVariables false
set_option linter.unusedSimpArgs false
namespace Go.Abs

/-- Abstract values. `ps`: a slice whose content never changes again; `sl`: a slice of an abstract block; `pp`: a pointer to cells that never change again. -/
inductive V where
  | undef
  | top
  | int (k : IntKind) (n : Int)
  | bool (b : Bool)
  | str (s : ByteArray)
  | nils
  | ps (esz : Nat) (xs : List V)
  | sl (esz b off n : Nat) (cap : Option Nat)
  | nilp
  | ptr (b off : Nat)
  | pp (xs : List V)
  | agg (xs : List V)
  | tuple (xs : List V)
  | nilm
  | mp (b : Nat)
  | fn (f : FuncId)
  deriving Inhabited

def V.cells : V → List V
  | .agg cs => cs
  | v => [v]

/-- May it stand in one cell of memory? -/
def V.isCell : V → Bool
  | .undef | .top | .agg _ | .tuple _ => false
  | _ => true

inductive Blk where
  | cells (e : TypeId) (esz : Nat) (xs : List V)
  | map (es : List (V × V))

abbrev Heap := Nat → Option Blk
def upd (h : Heap) (b : Nat) (x : Blk) : Heap := fun c => if c = b then some x else h c
def era (h : Heap) (b : Nat) : Heap := fun c => if c = b then none else h c
def put (tm : Nat → V) (d : Nat) (v : V) : Nat → V := fun t => if t = d then v else tm t
def putd (tm : Nat → V) (d : Option Nat) (v : V) : Nat → V :=
  match d with
  | some d => put tm d v
  | none => tm

theorem upd_eq (h : Heap) (b : Nat) (x : Blk) : upd h b x b = some x := by simp [upd]
theorem upd_ne (h : Heap) (b c : Nat) (x : Blk) (hne : c ≠ b) : upd h b x c = h c := by simp [upd, hne]
theorem era_eq (h : Heap) (b : Nat) : era h b b = none := by simp [era]
theorem era_ne (h : Heap) (b c : Nat) (hne : c ≠ b) : era h b c = h c := by simp [era, hne]

inductive Opnd where
  | t (n : Nat)
  | c (v : V)
  deriving Inhabited
def Opnd.ev (tm : Nat → V) : Opnd → V
  | .t n => tm n
  | .c v => v
def evo (tm : Nat → V) : Option Opnd → Option V
  | none => none
  | some x => some (x.ev tm)
def Opnd.tmps : Opnd → List Nat
  | .t n => [n]
  | .c _ => []

/-- What two values that are compared are; what a map's key is. -/
inductive TK where
  | num | bool | ptr
  deriving DecidableEq, Inhabited
inductive KT where
  | int | str | pair
  deriving DecidableEq, Inhabited

inductive AOp where
  | mov (x : Opnd)
  | pick (c a b : Opnd)
  | alloc (e : TypeId) (z : List V)
  | box (e : TypeId) (n : Nat) (x : Opnd)
  | build (z : List V) (ps : List (Nat × Nat × Opnd))
  | buildS (e : TypeId) (esz len : Nat) (z : List V) (ps : List (Nat × Opnd))
  | load (g : Option Nat) (a : Opnd)
  | store (n : Nat) (a x : Opnd)
  | nchk (x : Opnd)
  | bin (op : BinOp) (tk : TK) (x y : Opnd)
  | un (op : UnOp) (x : Opnd)
  | cint (k : IntKind) (x : Opnd)
  | cstr (x : Opnd)
  | mkS (e : TypeId) (esz bytes : Nat) (z : List V) (l c : Opnd)
  | slS (esz : Nat) (x : Opnd) (lo hi mx : Option Opnd)
  | slStr (x : Opnd) (lo hi : Option Opnd)
  | fld (off : Nat) (x : Opnd)
  | fldv (off : Nat) (g : Option Nat) (x : Opnd)
  | idx (esz : Nat) (x i : Opnd)
  | idxA (len esz : Nat) (x i : Opnd)
  | idxStr (x i : Opnd)
  | mkM
  | look (kt : KT) (z : V) (ok : Bool) (m k : Opnd)
  | mupd (kt : KT) (m k v : Opnd)
  | ment (kt : KT) (z : V) (m k : Opnd)
  | ests (m s v : Opnd)
  | ext (i : Nat) (x : Opnd)
  | len (x : Opnd)
  | lenS (x : Opnd)
  | mn (x y : Opnd)
  | mx (x y : Opnd)
  | app (e : TypeId) (esz bytes : Nat) (s x : Opnd)
  | call (f : FuncId) (xs : List Opnd)
  | qcall (f : FuncId) (xs : List Opnd)
  deriving Inhabited

structure AOper where
  dst : Option Nat
  op : AOp
  guard : Option (Nat × Bool)
  deriving Inhabited

inductive RTree where
  | nil
  | op (o : AOper) (t : RTree)
  | both (a b : RTree)
  | tt
  | ff
  deriving Inhabited

inductive ACode where
  | skip
  | region (t : RTree)
  | seq (a b : ACode)
  | cond (c : Opnd) (a b : ACode)
  | block (id : Nat) (a : ACode)
  | loop (a : ACode)
  | exit (id : Nat)
  | ret
  | ghost
  deriving Inhabited

/-! ### What the operations do -/

def setAt (cs : List V) (off : Nat) : List V → List V
  | [] => cs
  | v :: vs => setAt (cs.set off v) (off + 1) vs

def fillB (tm : Nat → V) (cs : List V) : List (Nat × Nat × Opnd) → Option (List V)
  | [] => some cs
  | (off, size, x) :: rest =>
    let v := (x.ev tm).cells
    if v.length = size ∧ off + size ≤ cs.length ∧ v.all V.isCell then fillB tm (setAt cs off v) rest else none

def fillS (tm : Nat → V) (esz : Nat) (cs : List V) : List (Nat × Opnd) → Option (List V)
  | [] => some cs
  | (i, x) :: rest =>
    let v := (x.ev tm).cells
    if v.length = esz ∧ i * esz + esz ≤ cs.length ∧ v.all V.isCell then fillS tm esz (setAt cs (i * esz) v) rest else none

def ld (g : Option Nat) (xs : List V) : Option V :=
  match g with
  | none => xs.head?
  | some n => if n ≤ xs.length then some (.agg (xs.take n)) else none

def intBin (op : BinOp) (k : IntKind) (a b : Int) : Option V :=
  match op with
  | .add => some (.int k (k.wrap (a + b)))
  | .sub => some (.int k (k.wrap (a - b)))
  | .mul => some (.int k (k.wrap (a * b)))
  | .quo => if b = 0 then none else some (.int k (k.wrap (a.tdiv b)))
  | .rem => if b = 0 then none else some (.int k (a.tmod b))
  | .and => some (.int k (k.wrap (BitVec.ofInt k.bits a &&& BitVec.ofInt k.bits b).toNat))
  | .or => some (.int k (k.wrap (BitVec.ofInt k.bits a ||| BitVec.ofInt k.bits b).toNat))
  | .xor => some (.int k (k.wrap (BitVec.ofInt k.bits a ^^^ BitVec.ofInt k.bits b).toNat))
  | .andNot => some (.int k (k.wrap (BitVec.ofInt k.bits a &&& ~~~ BitVec.ofInt k.bits b).toNat))
  | .eql => some (.bool (a == b))
  | .neq => some (.bool (a != b))
  | .lss => some (.bool (decide (a < b)))
  | .leq => some (.bool (decide (a ≤ b)))
  | .gtr => some (.bool (decide (a > b)))
  | .geq => some (.bool (decide (a ≥ b)))
  | _ => none

def shiftBin (op : BinOp) (k : IntKind) (a b : Int) : Option V :=
  if b < 0 then none else
  match op with
  | .shl => some (.int k (k.wrap (a * 2 ^ (min b.toNat k.bits))))
  | .shr => some (.int k (a.fdiv (2 ^ (min b.toNat k.bits))))
  | _ => none

def strBin (op : BinOp) (a b : ByteArray) : Option V :=
  match op with
  | .add => if a.size + b.size ≤ 9223372036854775807 then some (.str (a ++ b)) else none
  | .eql => some (.bool (a.toList == b.toList))
  | .neq => some (.bool (!(a.toList == b.toList)))
  | _ => none

def eqBin (op : BinOp) (t : Bool) : Option V :=
  match op with
  | .eql => some (.bool t)
  | .neq => some (.bool (!t))
  | _ => none

def isShift : BinOp → Bool
  | .shl | .shr => true
  | _ => false

def abin (op : BinOp) (tk : TK) (x y : V) : Option V :=
  match tk, x, y with
  | .num, .int k a, .int k' b => if isShift op then shiftBin op k a b else if k = k' then intBin op k a b else none
  | .num, .str a, .str b => strBin op a b
  | .bool, .bool a, .bool b => eqBin op (a == b)
  | .ptr, .nilp, .nilp => eqBin op true
  | .ptr, .ptr _ _, .nilp => eqBin op false
  | .ptr, .pp _, .nilp => eqBin op false
  | .ptr, .nilp, .ptr _ _ => eqBin op false
  | .ptr, .nilp, .pp _ => eqBin op false
  | _, _, _ => none

def aun (op : UnOp) (x : V) : Option V :=
  match op, x with
  | .neg, .int k n => some (.int k (k.wrap (0 - n)))
  | .xor, .int k n => some (.int k (k.wrap (BitVec.ofInt k.bits (if k.signed then -1 else k.max) ^^^ BitVec.ofInt k.bits n).toNat))
  | .not, .bool b => some (.bool (!b))
  | _, _ => none

/-- The bytes of cells. -/
def bytesOfV : List V → Option (List UInt8)
  | [] => some []
  | .int .u8 n :: rest => (bytesOfV rest).map (UInt8.ofNat n.toNat :: ·)
  | _ => none

/-- The cells that a slice shows. -/
def cellsOf (h : Heap) (esz : Nat) (v : V) : Option (List V × Nat) :=
  match v with
  | .nils => some ([], 0)
  | .ps e xs => if e = esz then some (xs.flatMap V.cells, xs.length) else none
  | .sl e b off n _ =>
    if e = esz then
      match h b with
      | some (.cells _ e' xs) => if e' = esz ∧ off * esz + n * esz ≤ xs.length then some ((xs.drop (off * esz)).take (n * esz), n) else none
      | _ => none
    else none
  | _ => none

def keyEq : V → V → Option Bool
  | .int k a, .int k' b => if k = k' then some (a == b) else none
  | .str a, .str b => some (a == b)
  | .agg [.int k a, .int l b], .agg [.int k' a', .int l' b'] => if k = k' ∧ l = l' then some (a == a' && b == b') else none
  | _, _ => none

/-- The place of a key. -/
def findK (k : V) : List (V × V) → Nat → Option (Option Nat)
  | [], _ => some none
  | (k', _) :: es, i =>
    match keyEq k k' with
    | some true => some (some i)
    | some false => findK k es (i + 1)
    | none => none

/-- May it be a key of a map of that kind? -/
def V.isKey (kt : KT) (v : V) : Bool :=
  match kt, v with
  | .int, .int _ _ => true
  | .str, .str _ => true
  | .pair, .agg [.int _ _, .int _ _] => true
  | _, _ => false

def aslS (esz : Nat) (x : V) (lo hi : Option Int) (mx : Option Int) : Option V :=
  match x with
  | .nils => if lo.getD 0 = 0 ∧ hi.getD 0 = 0 ∧ mx.getD 0 = 0 then some .nils else none
  | .ps e xs =>
    let l := lo.getD 0
    let u := hi.getD xs.length
    if e = esz ∧ mx = none ∧ 0 ≤ l ∧ l ≤ u ∧ u ≤ xs.length then some (.ps e ((xs.take u.toNat).drop l.toNat)) else none
  | .sl e b off n cap =>
    let l := lo.getD 0
    let u := hi.getD n
    if e = esz ∧ 0 ≤ l ∧ l ≤ u ∧ u ≤ n then
      if 0 < l ∧ u = l then (if mx = none then some (.ps e []) else none) else
      match mx with
      | none => some (.sl e b (off + l.toNat) (u - l).toNat (cap.map (· - l.toNat)))
      | some m => if u ≤ m ∧ m ≤ n then some (.sl e b (off + l.toNat) (u - l).toNat (some (m - l).toNat)) else none
    else none
  | _ => none

def aPick (c x y : V) : Option V :=
  match c with
  | .bool t => some (if t then x else y)
  | _ => none
def aLoad (h : Heap) (g : Option Nat) (x : V) : Option V :=
  match x with
  | .ptr b off =>
    match h b with
    | some (.cells _ _ xs) => ld g (xs.drop off)
    | _ => none
  | .pp xs => ld g xs
  | _ => none
def aNchk (x : V) : Option V :=
  match x with
  | .ptr b off => some (.ptr b off)
  | .pp xs => some (.pp xs)
  | _ => none
def aCint (k : IntKind) (x : V) : Option V :=
  match x with
  | .int _ n => some (.int k (k.wrap n))
  | _ => none
def aCstr (h : Heap) (x : V) : Option V :=
  match cellsOf h 1 x with
  | some (cs, _) => (bytesOfV cs).map fun l => .str ⟨l.toArray⟩
  | none => none
def aSlS (esz : Nat) (x : V) (lo hi mx : Option V) : Option V :=
  match lo, hi, mx with
  | none, none, none => aslS esz x none none none
  | some (.int _ l), none, none => aslS esz x (some l) none none
  | none, some (.int _ u), none => aslS esz x none (some u) none
  | some (.int _ l), some (.int _ u), none => aslS esz x (some l) (some u) none
  | none, some (.int _ u), some (.int _ m) => aslS esz x none (some u) (some m)
  | some (.int _ l), some (.int _ u), some (.int _ m) => aslS esz x (some l) (some u) (some m)
  | _, _, _ => none
def aslStr (s : ByteArray) (lo hi : Option Int) : Option V :=
  if 0 ≤ lo.getD 0 ∧ lo.getD 0 ≤ hi.getD s.size ∧ hi.getD s.size ≤ s.size then some (.str (s.extract (lo.getD 0).toNat (hi.getD s.size).toNat)) else none
def aSlStr (x : V) (lo hi : Option V) : Option V :=
  match x, lo, hi with
  | .str s, none, none => aslStr s none none
  | .str s, some (.int _ l), none => aslStr s (some l) none
  | .str s, none, some (.int _ u) => aslStr s none (some u)
  | .str s, some (.int _ l), some (.int _ u) => aslStr s (some l) (some u)
  | _, _, _ => none
def aFld (off : Nat) (x : V) : Option V :=
  match x with
  | .ptr b o => some (.ptr b (o + off))
  | .pp xs => some (.pp (xs.drop off))
  | _ => none
def aFldv (off : Nat) (g : Option Nat) (x : V) : Option V :=
  match x with
  | .agg xs => match g with
    | none => xs[off]?
    | some n => if off + n ≤ xs.length then some (.agg ((xs.drop off).take n)) else none
  | _ => none
def aIdx (esz : Nat) (x i : V) : Option V :=
  match x, i with
  | .ps e xs, .int _ n => if e = esz ∧ 0 ≤ n then (xs[n.toNat]?).map fun v => .pp v.cells else none
  | .sl e b off len _, .int _ n => if e = esz ∧ 0 ≤ n ∧ n < len then some (.ptr b ((off + n.toNat) * esz)) else none
  | _, _ => none
def aIdxA (len esz : Nat) (x i : V) : Option V :=
  match x, i with
  | .ptr b o, .int _ n => if 0 ≤ n ∧ n < len then some (.ptr b (o + n.toNat * esz)) else none
  | .pp xs, .int _ n => if 0 ≤ n ∧ n < len then some (.pp (xs.drop (n.toNat * esz))) else none
  | _, _ => none
def aIdxStr (x i : V) : Option V :=
  match x, i with
  | .str s, .int _ n => if 0 ≤ n then (s[n.toNat]?).map fun b => .int .u8 b.toNat else none
  | _, _ => none
def aLook (h : Heap) (kt : KT) (z : V) (ok : Bool) (m k : V) : Option V :=
  match m with
  | .nilm => if k.isKey kt then some (if ok then .tuple [z, .bool false] else z) else none
  | .mp b =>
    match h b with
    | some (.map es) =>
      if k.isKey kt then
        match findK k es 0 with
        | some (some i) => (es[i]?).map fun e => if ok then .tuple [e.2, .bool true] else e.2
        | some none => some (if ok then .tuple [z, .bool false] else z)
        | none => none
      else none
    | _ => none
  | _ => none
def aExt (i : Nat) (x : V) : Option V :=
  match x with
  | .tuple xs => xs[i]?
  | _ => none
def aLen (x : V) : Option V :=
  match x with
  | .nils => some (.int .i64 0)
  | .ps _ xs => some (.int .i64 xs.length)
  | .sl _ _ _ n _ => some (.int .i64 n)
  | _ => none
def aLenS (x : V) : Option V :=
  match x with
  | .str s => some (.int .i64 s.size)
  | _ => none
def aMn (x y : V) : Option V :=
  match x, y with
  | .int k a, .int _ b => some (.int k (if b < a then b else a))
  | _, _ => none
def aMx (x y : V) : Option V :=
  match x, y with
  | .int k a, .int _ b => some (.int k (if b > a then b else a))
  | _, _ => none

section
variable (qf : FuncId → List V → Heap → Option V)

/-- The operations that leave the heap as it is. -/
def apure (o : AOp) (tm : Nat → V) (h : Heap) : Option V :=
  match o with
  | .mov x => some (x.ev tm)
  | .pick c a b => aPick (c.ev tm) (a.ev tm) (b.ev tm)
  | .build z ps => (fillB tm z ps).map .agg
  | .load g a => aLoad h g (a.ev tm)
  | .nchk x => aNchk (x.ev tm)
  | .bin op tk x y => abin op tk (x.ev tm) (y.ev tm)
  | .un op x => aun op (x.ev tm)
  | .cint k x => aCint k (x.ev tm)
  | .cstr x => aCstr h (x.ev tm)
  | .slS esz x lo hi mx => aSlS esz (x.ev tm) (evo tm lo) (evo tm hi) (evo tm mx)
  | .slStr x lo hi => aSlStr (x.ev tm) (evo tm lo) (evo tm hi)
  | .fld off x => aFld off (x.ev tm)
  | .fldv off g x => aFldv off g (x.ev tm)
  | .idx esz x i => aIdx esz (x.ev tm) (i.ev tm)
  | .idxA len esz x i => aIdxA len esz (x.ev tm) (i.ev tm)
  | .idxStr x i => aIdxStr (x.ev tm) (i.ev tm)
  | .look kt z ok m k => aLook h kt z ok (m.ev tm) (k.ev tm)
  | .ext i x => aExt i (x.ev tm)
  | .len x => aLen (x.ev tm)
  | .lenS x => aLenS (x.ev tm)
  | .mn x y => aMn (x.ev tm) (y.ev tm)
  | .mx x y => aMx (x.ev tm) (y.ev tm)
  | .qcall f xs => qf f (xs.map (·.ev tm)) h
  | _ => none

/-- Put a key's value: the new entries. -/
def putK (kt : KT) (es : List (V × V)) (k v : V) : Option (List (V × V)) :=
  if k.isKey kt then
    match findK k es 0 with
    | some (some i) => some (es.modify i fun e => (k, v))
    | some none => some (es ++ [(k, v)])
    | none => none
  else none

def wBuildS (e : TypeId) (esz len : Nat) (cs : Option (List V)) (h : Heap) (K : V → Heap → Prop) : Prop :=
  match cs with
  | some cs => ∀ b, h b = none → K (.sl esz b 0 len none) (upd h b (.cells e esz cs))
  | none => False
def wMkS (e : TypeId) (esz bytes : Nat) (z : List V) (l c : V) (h : Heap) (K : V → Heap → Prop) : Prop :=
  match l, c with
  | .int .i64 l, .int .i64 c => (0 ≤ l ∧ l ≤ c ∧ c ≤ 140737488355328 ∧ bytes * c ≤ 140737488355328) ∧
    ∀ b, h b = none → K (.sl esz b 0 l.toNat none) (upd h b (.cells e esz ((List.replicate l.toNat z).flatten)))
  | _, _ => False
def wStore (n : Nat) (a x : V) (h : Heap) (K : V → Heap → Prop) : Prop :=
  match a with
  | .ptr b off =>
    match h b with
    | some (.cells e esz xs) => (x.cells.length = n ∧ x.cells.all V.isCell = true ∧ off + n ≤ xs.length) ∧ K .undef (upd h b (.cells e esz (setAt xs off x.cells)))
    | _ => False
  | _ => False
def wMupd (kt : KT) (m k v : V) (h : Heap) (K : V → Heap → Prop) : Prop :=
  match m with
  | .mp b =>
    match h b with
    | some (.map es) =>
      match putK kt es k v with
      | some es' => K .undef (upd h b (.map es'))
      | none => False
    | _ => False
  | _ => False
def wMent (kt : KT) (z m k : V) (h : Heap) (K : V → Heap → Prop) : Prop :=
  match m with
  | .mp b =>
    match h b with
    | some (.map es) =>
      k.isKey kt = true ∧
      match findK k es 0 with
      | some (some i) =>
        match es[i]? with
        | some e => K (.tuple [e.2, .int .i64 i]) (upd h b (.map (es.modify i fun e => (k, e.2))))
        | none => False
      | some none => K (.tuple [z, .int .i64 es.length]) (upd h b (.map (es ++ [(k, z)])))
      | none => False
    | _ => False
  | _ => False
def wEsts (m s v : V) (h : Heap) (K : V → Heap → Prop) : Prop :=
  match m, s with
  | .mp b, .int .i64 i =>
    match h b with
    | some (.map es) => (0 ≤ i ∧ i < es.length) ∧ K .undef (upd h b (.map (es.modify i.toNat fun e => (e.1, v))))
    | _ => False
  | _, _ => False
def wApp (e : TypeId) (esz bytes : Nat) (s x : V) (h : Heap) (K : V → Heap → Prop) : Prop :=
  match cellsOf h esz x with
  | none => False
  | some (ys, m) => ys.all V.isCell = true ∧
    match s with
    | .nils => if m = 0 then K .nils h else m * bytes ≤ 140737488355328 ∧ m ≤ 140737488355328 ∧ ∀ b, h b = none → K (.sl esz b 0 m none) (upd h b (.cells e esz ys))
    | .sl e1 b off n cap =>
      match h b with
      | some (.cells e2 e3 xs) =>
        (e1 = esz ∧ e2 = e ∧ e3 = esz ∧ (n + m) * bytes ≤ 140737488355328 ∧ n + m ≤ 140737488355328) ∧
        match cap with
        | some c => (c = n ∧ off * esz + n * esz ≤ xs.length) ∧ (if m = 0 then K (.sl e1 b off n cap) h else
            ∀ b', h b' = none → K (.sl esz b' 0 (n + m) none) (upd h b' (.cells e esz ((xs.drop (off * esz)).take (n * esz) ++ ys))))
        | none => (off = 0 ∧ xs.length = n * esz) ∧ ∀ b', h b' = none → K (.sl esz b' 0 (n + m) none) (upd (era h b) b' (.cells e esz (xs ++ ys)))
      | _ => False
    | _ => False

/-- What an operation comes to: `K` is asked of its value and the heap behind it. `C`: the contracts of the called functions. -/
def Wop (C : FuncId → List V → Heap → (V → Heap → Prop) → Prop) (o : AOp) (tm : Nat → V) (h : Heap) (K : V → Heap → Prop) : Prop :=
  match o with
  | .alloc e z => ∀ b, h b = none → K (.ptr b 0) (upd h b (.cells e z.length z))
  | .box e n x => ((x.ev tm).cells.length = n ∧ (x.ev tm).cells.all V.isCell = true) ∧ ∀ b, h b = none → K (.ptr b 0) (upd h b (.cells e n (x.ev tm).cells))
  | .buildS e esz len z ps => wBuildS e esz len (fillS tm esz ((List.replicate len z).flatten) ps) h K
  | .mkS e esz bytes z l c => wMkS e esz bytes z (l.ev tm) (c.ev tm) h K
  | .mkM => ∀ b, h b = none → K (.mp b) (upd h b (.map []))
  | .store n a x => wStore n (a.ev tm) (x.ev tm) h K
  | .mupd kt m k v => wMupd kt (m.ev tm) (k.ev tm) (v.ev tm) h K
  | .ment kt z m k => wMent kt z (m.ev tm) (k.ev tm) h K
  | .ests m s v => wEsts (m.ev tm) (s.ev tm) (v.ev tm) h K
  | .app e esz bytes s x => wApp e esz bytes (s.ev tm) (x.ev tm) h K
  | .call f xs => C f (xs.map (·.ev tm)) h K
  | o =>
    match apure qf o tm h with
    | some v => K v h
    | none => False

def Woper (C : FuncId → List V → Heap → (V → Heap → Prop) → Prop) (o : AOper) (K : (Nat → V) → Heap → Prop) (tm : Nat → V) (h : Heap) : Prop :=
  match o.guard with
  | none => Wop qf C o.op tm h fun v h' => K (putd tm o.dst v) h'
  | some (t, want) =>
    match tm t with
    | .bool b => if b = want then Wop qf C o.op tm h (fun v h' => K (putd tm o.dst v) h') else K (putd tm o.dst .undef) h
    | .undef => K (putd tm o.dst .undef) h
    | _ => False

def Wt (C : FuncId → List V → Heap → (V → Heap → Prop) → Prop) : RTree → ((Nat → V) → Heap → Prop) → (Nat → V) → Heap → Prop
  | .nil, K, tm, h => K tm h
  | .op o t, K, tm, h => Woper qf C o (Wt C t K) tm h
  | .both a b, K, tm, h => Wt C a K tm h ∧ Wt C b K tm h
  | .tt, _, _, _ => True
  | .ff, _, _, _ => False

/-- How a piece of code is left. -/
inductive AExit where
  | normal
  | exit (id : Nat)
  | ret


end

end Go.Abs
