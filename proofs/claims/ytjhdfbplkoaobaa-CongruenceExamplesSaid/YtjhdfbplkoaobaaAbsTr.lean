/- From a loaded function to abstract code: a Lean function, asked by the kernel at each function. -/
import Derived.Test.YtjhdfbplkoaobaaAbsCore
set_option linter.unusedVariables false
set_option linter.unusedSimpArgs false
namespace Go.Abs

def tv : Value → Option V
  | .bool b => some (.bool b)
  | .int k n => some (.int k n)
  | .string s => some (.str s)
  | .pointer none => some .nilp
  | .slice none 0 0 => some .nils
  | .map none => some .nilm
  | _ => none

def trO : Operand → Option Opnd
  | .tmp t => some (.t t)
  | .const v => (tv v).map .c
  | .func f => some (.c (.fn f))
  | .global _ => none

def trOs : List Operand → Option (List Opnd)
  | [] => some []
  | x :: xs =>
    match trO x, trOs xs with
    | some y, some ys => some (y :: ys)
    | _, _ => none

def tvs : List Value → Option (List V)
  | [] => some []
  | x :: xs =>
    match tv x, tvs xs with
    | some y, some ys => some (y :: ys)
    | _, _ => none

section
variable (P : Program)

def szOf (t : TypeId) : Option Nat := (P.info? t).map (·.size)

/-- The cells of a type's zero value. -/
def zeroOf (t : TypeId) : Option (List V) :=
  match P.info? t with
  | some i =>
    match i.zero with
    | some z => if z.cells.size = i.size then tvs z.cells.toList else none
    | none => none
  | none => none

def isAggB (t : TypeId) : Option Bool :=
  match P.underlying t with
  | some (.struct _) => some true
  | some (.array _ _) => some true
  | some _ => some false
  | none => none

/-- How a variable of the type is read: as one cell, or as so many. -/
def gOf (t : TypeId) : Option (Option Nat) :=
  match isAggB P t, szOf P t with
  | some true, some n => some (some n)
  | some false, some _ => some none
  | _, _ => none

/-- The zero value of a type, as a value. -/
def zeroV (t : TypeId) : Option V :=
  match P.info? t with
  | some i =>
    match i.zero with
    | some (.agg cs) => (tvs cs.toList).map .agg
    | some z => tv z
    | none => none
  | none => none

def ktOf (t : TypeId) : Option KT :=
  match P.underlying t with
  | some (.int _) => some .int
  | some .string => some .str
  | some (.struct fs) =>
    match fs.toList with
    | [f, g] =>
      match P.underlying f.type, P.underlying g.type, P.info? f.type, P.info? g.type with
      | some (.int _), some (.int _), some i, some j =>
        if f.offset = 0 ∧ g.offset = 1 ∧ f.name ≠ "_" ∧ g.name ≠ "_" ∧ i.size = 1 ∧ j.size = 1 ∧ P.stoodInHeld t = false then some .pair else none
      | _, _, _, _ => none
    | _ => none
  | _ => none

def tkOf (t : TypeId) : Option TK :=
  match P.underlying t with
  | some (.int _) => some .num
  | some .string => some .num
  | some .bool => some .bool
  | some (.pointer _) => some .ptr
  | _ => none

def trPartsS (fs : Array Field) : List (Nat × Operand) → Option (List (Nat × Nat × Opnd))
  | [] => some []
  | (i, x) :: rest =>
    match fs[i]?, trO x, trPartsS fs rest with
    | some f, some y, some r =>
      match szOf P f.type with
      | some n => some ((f.offset, n, y) :: r)
      | none => none
    | _, _, _ => none

def trPartsA (size : Nat) : List (Nat × Operand) → Option (List (Nat × Nat × Opnd))
  | [] => some []
  | (i, x) :: rest =>
    match trO x, trPartsA size rest with
    | some y, some r => some ((i * size, size, y) :: r)
    | _, _ => none

def trPartsL : List (Nat × Operand) → Option (List (Nat × Opnd))
  | [] => some []
  | (i, x) :: rest =>
    match trO x, trPartsL rest with
    | some y, some r => some ((i, y) :: r)
    | _, _ => none

def trOpt : Option Operand → Option (Option Opnd)
  | none => some none
  | some x => (trO x).map some

def trCall (quiet : FuncId → Bool) (c : Call) : Option AOp :=
  match c.callee with
  | .builtin .len =>
    match c.args.toList, c.argTypes.toList with
    | [x], [t] =>
      match P.underlying t, trO x with
      | some (.slice _), some x => some (.len x)
      | some .string, some x => some (.lenS x)
      | _, _ => none
    | _, _ => none
  | .builtin .min =>
    match c.args.toList with
    | [x, y] => match trO x, trO y with
      | some x, some y => some (.mn x y)
      | _, _ => none
    | _ => none
  | .builtin .max =>
    match c.args.toList with
    | [x, y] => match trO x, trO y with
      | some x, some y => some (.mx x y)
      | _, _ => none
    | _ => none
  | .builtin .append =>
    match c.args.toList, c.argTypes.toList with
    | [s, x], [t, u] =>
      match P.underlying t, trO s, trO x with
      | some (.slice e), some s, some x =>
        match P.info? e, zeroOf P e with
        | some i, some _ => if t = u ∧ 0 < i.size then some (.app e i.size i.bytes s x) else none
        | _, _ => none
      | _, _, _ => none
    | _, _ => none
  | .value (.func f) =>
    match P.funcs[f]?, trOs c.args.toList with
    | some fn, some xs => if fn.body.isSome ∧ (fn.name == "runtime.NumGoroutine") = false then some (if quiet f then .qcall f xs else .call f xs) else none
    | _, _ => none
  | _ => none

def trOp (quiet : FuncId → Bool) (o : Op) : Option AOp :=
  match o with
  | .move x => (trO x).map .mov
  | .assign x => (trO x).map .mov
  | .pick c a b =>
    match trO c, trO a, trO b with
    | some c, some a, some b => some (.pick c a b)
    | _, _, _ => none
  | .alloc e => (zeroOf P e).map (.alloc e)
  | .box e x =>
    match szOf P e, trO x with
    | some n, some x => some (.box e n x)
    | _, _ => none
  | .build t ps =>
    match zeroOf P t, P.underlying t with
    | some z, some (.struct fs) =>
      if fs.all (fun f => (P.info? f.type).isSome) then (trPartsS P fs ps.toList).map (.build z) else none
    | some z, some (.array _ e) =>
      match szOf P e with
      | some n => (trPartsA n ps.toList).map (.build z)
      | none => none
    | _, _ => none
  | .buildSlice t len ps =>
    match P.underlying t with
    | some (.slice e) =>
      match szOf P e, zeroOf P e, trPartsL ps.toList with
      | some n, some z, some ps => if len * n ≤ 2 ^ 24 ∧ 0 < n then some (.buildS e n len z ps) else none
      | _, _, _ => none
    | _ => none
  | .load t a =>
    match gOf P t, trO a with
    | some g, some a => some (.load g a)
    | _, _ => none
  | .store t a x =>
    match szOf P t, trO a, trO x with
    | some n, some a, some x => some (.store n a x)
    | _, _, _ => none
  | .nilCheck x => (trO x).map .nchk
  | .binOp op t x y _ =>
    match tkOf P t, trO x, trO y with
    | some tk, some x, some y => some (.bin op tk x y)
    | _, _, _ => none
  | .unOp op _ x => (trO x).map (.un op)
  | .convert s d x =>
    match P.underlying s, P.underlying d, trO x with
    | some (.int _), some (.int k), some x => some (.cint k x)
    | some (.slice e), some .string, some x => if P.underlying e matches some (.int .u8) then some (.cstr x) else none
    | _, _, _ => none
  | .makeSlice t l c =>
    match P.underlying t with
    | some (.slice e) =>
      match P.info? e, zeroOf P e, trO l, trO c with
      | some i, some z, some l, some c => if 0 < i.size then some (.mkS e i.size i.bytes z l c) else none
      | _, _, _, _ => none
    | _ => none
  | .slice t x lo hi mx =>
    match P.underlying t with
    | some (.slice e) =>
      match szOf P e, trO x, trOpt lo, trOpt hi, trOpt mx with
      | some n, some x, some lo, some hi, some mx => some (.slS n x lo hi mx)
      | _, _, _, _, _ => none
    | some .string =>
      match trO x, trOpt lo, trOpt hi, mx with
      | some x, some lo, some hi, none => some (.slStr x lo hi)
      | _, _, _, _ => none
    | _ => none
  | .fieldAddr s x f =>
    match P.underlying s, trO x with
    | some (.struct fs), some x =>
      match fs[f]? with
      | some f =>
        match szOf P f.type with
        | some n => if n = 0 then none else some (.fld f.offset x)
        | none => none
      | none => none
    | _, _ => none
  | .field s x f =>
    match P.underlying s, trO x with
    | some (.struct fs), some x =>
      match fs[f]? with
      | some f =>
        match gOf P f.type with
        | some g => some (.fldv f.offset g x)
        | none => none
      | none => none
    | _, _ => none
  | .indexAddr t x i =>
    match P.underlying t, trO x, trO i with
    | some (.slice e), some x, some i => (szOf P e).map fun n => .idx n x i
    | some (.array l e), some x, some i => (szOf P e).map fun n => .idxA l n x i
    | _, _, _ => none
  | .index t x i =>
    match P.underlying t, trO x, trO i with
    | some .string, some x, some i => some (.idxStr x i)
    | _, _, _ => none
  | .makeMap _ none => some .mkM
  | .lookup t m k ok =>
    match P.underlying t with
    | some (.map kt e) =>
      match ktOf P kt, zeroV P e, trO m, trO k with
      | some kt, some z, some m, some k => some (.look kt z ok m k)
      | _, _, _, _ => none
    | _ => none
  | .mapUpdate t m k v =>
    match P.underlying t with
    | some (.map kt _) =>
      match ktOf P kt, trO m, trO k, trO v with
      | some kt, some m, some k, some v => some (.mupd kt m k v)
      | _, _, _, _ => none
    | _ => none
  | .mapEntry t m k =>
    match P.underlying t with
    | some (.map kt e) =>
      match ktOf P kt, zeroV P e, trO m, trO k with
      | some kt, some z, some m, some k => some (.ment kt z m k)
      | _, _, _, _ => none
    | _ => none
  | .entryStore _ m s v =>
    match trO m, trO s, trO v with
    | some m, some s, some v => some (.ests m s v)
    | _, _, _ => none
  | .extract x i => (trO x).map (.ext i)
  | .call c => trCall P quiet c
  | _ => none

/-! ### Regions -/

def optTmps : Option Opnd → List Nat
  | none => []
  | some x => x.tmps

def AOp.tmps : AOp → List Nat
  | .mov x | .box _ _ x | .load _ x | .nchk x | .un _ x | .cint _ x | .cstr x | .fld _ x | .fldv _ _ x | .ext _ x | .len x | .lenS x => x.tmps
  | .pick c a b => c.tmps ++ a.tmps ++ b.tmps
  | .alloc _ _ | .mkM => []
  | .build _ ps => ps.flatMap fun p => p.2.2.tmps
  | .buildS _ _ _ _ ps => ps.flatMap fun p => p.2.tmps
  | .store _ a x | .bin _ _ a x | .mkS _ _ _ _ a x | .idx _ a x | .idxA _ _ a x | .idxStr a x | .look _ _ _ a x | .ment _ _ a x | .mn a x | .mx a x | .app _ _ _ a x => a.tmps ++ x.tmps
  | .slS _ x lo hi m3 => x.tmps ++ optTmps lo ++ optTmps hi ++ optTmps m3
  | .slStr x lo hi => x.tmps ++ optTmps lo ++ optTmps hi
  | .mupd _ m k v | .ests m k v => m.tmps ++ k.tmps ++ v.tmps
  | .call _ xs | .qcall _ xs => xs.flatMap Opnd.tmps

/-- Kinds: 0 touches no memory; 1 reads; 2 all else. -/
def AOp.kind : AOp → Nat
  | .mov _ | .pick _ _ _ | .build _ _ | .nchk _ | .bin _ _ _ _ | .un _ _ | .cint _ _ | .slS _ _ _ _ _ | .slStr _ _ _ | .fld _ _ | .fldv _ _ _ | .idx _ _ _ | .idxA _ _ _ _
  | .idxStr _ _ | .ext _ _ | .len _ | .lenS _ | .mn _ _ | .mx _ _ => 0
  | .load _ _ | .cstr _ | .look _ _ _ _ _ | .qcall _ _ => 1
  | .alloc _ _ | .box _ _ _ | .buildS _ _ _ _ _ | .mkS _ _ _ _ _ _ | .mkM => 2
  | _ => 3

def AOper.reads (o : AOper) : List Nat := o.op.tmps ++ (match o.guard with
  | some (t, _) => [t]
  | none => [])

/-- Neither looks at what the other writes. -/
def AOper.apart (x y : AOper) : Bool :=
  (match x.dst with
   | some d => !(y.reads.contains d) && y.dst != some d
   | none => true) &&
  (match y.dst with
   | some d => !(x.reads.contains d)
   | none => true)

/-- May `x` (kind 0 or 1) go ahead of `y`, whatever the state? -/
def AOper.ahead (x y : AOper) : Bool := x.apart y && (x.op.kind == 0 || (x.op.kind == 1 && y.op.kind < 3))

def dstOk (d : Option Nat) (N : Nat) : Bool :=
  match d with
  | some d => decide (d < N)
  | none => true

def trOper (quiet : FuncId → Bool) (N : Nat) (ops : Array Oper) (o : Oper) : Option AOper :=
  match trOp P quiet o.op with
  | none => none
  | some ao =>
    if dstOk o.dst N then
      match o.guard with
      | none => some ⟨o.dst, ao, none⟩
      | some (j, want) =>
        match (ops[j]?).bind (·.dst) with
        | some t => some ⟨o.dst, ao, some (t, want)⟩
        | none => none
    else none

def trOpers (quiet : FuncId → Bool) (N : Nat) (ops : Array Oper) : List Oper → Option (List AOper)
  | [] => some []
  | o :: rest =>
    match trOper P quiet N ops o, trOpers quiet N ops rest with
    | some x, some xs => some (x :: xs)
    | _, _ => none

def chain : List AOper → RTree
  | [] => .nil
  | o :: rest => .op o (chain rest)

/-- Is `i` among what must come before `j`? -/
def anc (ops : Array Oper) : Nat → Nat → Nat → Bool
  | 0, _, _ => false
  | k + 1, j, i => (((ops[j]?).map (·.after)).getD #[]).any fun e => Region.binds .any e && (e.on == i || anc ops k e.on i)

def free (ops : Array Oper) (aops : Array AOper) (listed : Array Bool) (i : Nat) : Bool :=
  match aops[i]? with
  | none => false
  | some x =>
    (x.op.kind == 0 || x.op.kind == 1) && (List.range ops.size).all fun j =>
      j == i || listed.getD j true || anc ops ops.size j i || ((aops[j]?).map (x.ahead ·)).getD false

def both : List RTree → RTree
  | [] => .tt
  | [t] => t
  | t :: ts => .both t (both ts)

def plan (ops : Array Oper) (aops : Array AOper) : Nat → Array Bool → RTree
  | 0, listed => if (Region.ready .any ops listed).isEmpty then .nil else .ff
  | n + 1, listed =>
    let rs := Region.ready .any ops listed
    if rs.isEmpty then .nil else
    match rs.find? (free ops aops listed) with
    | some i =>
      match aops[i]? with
      | some o => .op o (plan ops aops n (listed.setIfInBounds i true))
      | none => .ff
    | none => both (rs.map fun i =>
        match aops[i]? with
        | some o => .op o (plan ops aops n (listed.setIfInBounds i true))
        | none => .ff)

def trCode (quiet : FuncId → Bool) (N : Nat) : Code → Option ACode
  | .skip => some .skip
  | .region _ ops draw =>
    match trOpers P quiet N ops ops.toList with
    | some as => some (.region (if draw then plan ops as.toArray ops.size (Array.replicate ops.size false) else chain as))
    | none => none
  | .seq a b =>
    match trCode quiet N a, trCode quiet N b with
    | some a, some b => some (.seq a b)
    | _, _ => none
  | .cond c a b =>
    match trO c, trCode quiet N a, trCode quiet N b with
    | some c, some a, some b => some (.cond c a b)
    | _, _, _ => none
  | .block id a => (trCode quiet N a).map (.block id)
  | .loop a => (trCode quiet N a).map .loop
  | .exit id => some (.exit id)
  | .ret => some .ret
  | _ => none

end

inductive ARes where
  | tmp (t : Nat)
  | cell (t : Nat) (g : Option Nat)
  deriving Inhabited

section
variable (P : Program)

def trRes : List ResultVar → Option (List ARes)
  | [] => some []
  | .tmp t :: rest => (trRes rest).map (.tmp t :: ·)
  | .cell t ty :: rest =>
    match gOf P ty, trRes rest with
    | some g, some r => some (.cell t g :: r)
    | _, _ => none

structure AFun where
  code : ACode
  res : List ARes
  deriving Inhabited

def trFun (quiet : FuncId → Bool) (f : FuncId) : Option AFun :=
  match P.funcs[f]? with
  | some fn =>
    match fn.body with
    | some c =>
      match trCode P quiet fn.ntmps c, trRes P fn.results.toList with
      | some c, some r => some ⟨c, r⟩
      | _, _ => none
    | none => none
  | none => none
end

/-- The value that a function returns. -/
def resOne (tm : Nat → V) (h : Heap) : ARes → Option V
  | .tmp t => some (tm t)
  | .cell t g => aLoad h g (tm t)

def resAll (tm : Nat → V) (h : Heap) : List ARes → Option (List V)
  | [] => some []
  | r :: rs =>
    match resOne tm h r, resAll tm h rs with
    | some v, some vs => some (v :: vs)
    | _, _ => none

def resV (tm : Nat → V) (h : Heap) (rs : List ARes) : Option V :=
  match resAll tm h rs with
  | some [v] => some v
  | some vs => some (.tuple vs)
  | none => none

end Go.Abs
