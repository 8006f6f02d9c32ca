/- How abstract code is evaluated symbolically: the rules that `simp` uses, and rules for loops and calls. -/
import Derived.Test.YtjhdfbplkoaobaaAbsGhost
import Derived.Test.YtjhdfbplkoaobaaAbsTr
set_option linter.unusedVariables false
set_option linter.unusedSimpArgs false
namespace Go.Abs

/-- A fresh block. -/
def New (h : Heap) (F : Nat → Prop) : Prop := ∀ b, h b = none → F b

section
variable {qf : FuncId → List V → Heap → Option V} {C : FuncId → List V → Heap → (V → Heap → Prop) → Prop} {Q : AExit → (Nat → V) → Heap → Prop} {tm : Nat → V} {h : Heap} {K : V → Heap → Prop}

@[congr] theorem W_congr {a : ACode} {tm' : Nat → V} {h' : Heap} (h1 : ∀ _ : Unit, tm = tm') (h2 : ∀ _ : Unit, h = h') : W qf C a Q tm h = W qf C a Q tm' h' := by rw [h1 (), h2 ()]
@[congr] theorem New_congr {h h' : Heap} {F : Nat → Prop} (h1 : ∀ _ : Unit, h = h') : New h F = New h' F := by rw [h1 ()]
@[congr] theorem AC_congr {P : Program} {f : FuncId} {args args' : List V} {h h' : Heap} {Q : V → Heap → Prop} (h1 : ∀ _ : Unit, args = args') (h2 : ∀ _ : Unit, h = h') : AC P f args h Q = AC P f args' h' Q := by rw [h1 (), h2 ()]
@[congr] theorem Wop_congr' {o : AOp} {tm' : Nat → V} {h' : Heap} (h1 : ∀ _ : Unit, tm = tm') (h2 : ∀ _ : Unit, h = h') : Wop qf C o tm h K = Wop qf C o tm' h' K := by rw [h1 (), h2 ()]
@[congr] theorem wApp_congr {e : TypeId} {esz bytes : Nat} {s x s' x' : V} {h' : Heap} (h0 : ∀ _ : Unit, s = s') (h1 : ∀ _ : Unit, x = x') (h2 : ∀ _ : Unit, h = h') : wApp e esz bytes s x h K = wApp e esz bytes s' x' h' K := by rw [h0 (), h1 (), h2 ()]

theorem W_skip : W qf C .skip Q tm h = Q .normal tm h := propext Iff.rfl
theorem W_region (t : RTree) : W qf C (.region t) Q tm h = Wt qf C t (Q .normal) tm h := propext Iff.rfl
theorem W_seq (a b : ACode) : W qf C (.seq a b) Q tm h = W qf C a (fun e tm' h' => match e with
    | .normal => W qf C b Q tm' h'
    | e => Q e tm' h') tm h := propext Iff.rfl
theorem W_cond (c : Opnd) (a b : ACode) : W qf C (.cond c a b) Q tm h = (match c.ev tm with
    | .bool t => if t then W qf C a Q tm h else W qf C b Q tm h
    | _ => False) := propext Iff.rfl
theorem W_block (id : Nat) (a : ACode) : W qf C (.block id a) Q tm h = W qf C a (fun e tm' h' => match e with
    | .exit id' => if id' = id then Q .normal tm' h' else Q (.exit id') tm' h'
    | e => Q e tm' h') tm h := propext Iff.rfl
theorem W_exit (id : Nat) : W qf C (.exit id) Q tm h = Q (.exit id) tm h := propext Iff.rfl
theorem W_ret : W qf C .ret Q tm h = Q .ret tm h := propext Iff.rfl

/-- A loop, by an invariant and a measure. -/
theorem W_loop {a : ACode} (I : Nat → (Nat → V) → Heap → Prop) (n : Nat) (h0 : I n tm h) (step : ∀ n tm h, I n tm h → W qf C a (fun e tm' h' => match e with
      | .normal => ∃ m, m < n ∧ I m tm' h'
      | e => Q e tm' h') tm h) : W qf C (.loop a) Q tm h := ⟨I, ⟨n, h0⟩, step⟩

/-- The same, with the invariant out of `simp`'s sight. -/
theorem W_loop' {a : ACode} (I : Nat → (Nat → V) → Heap → Prop) (n : Nat) (h0 : I n tm h) (step : ∀ J : Nat → (Nat → V) → Heap → Prop, (∀ m tm h, I m tm h → J m tm h) → ∀ n tm h, I n tm h → W qf C a (fun e tm' h' => match e with
      | .normal => ∃ m, m < n ∧ J m tm' h'
      | e => Q e tm' h') tm h) : W qf C (.loop a) Q tm h := ⟨I, ⟨n, h0⟩, step I fun _ _ _ h => h⟩

/-- A function's contract, with what is asked of its end out of `simp`'s sight. -/
theorem AC_of' {P : Program} {quiet : FuncId → Bool} (hq : QOk P qf) (hm : P.follows .mixedOrders = true) {f : FuncId} {af : AFun} (htr : trFun P quiet f = some ⟨erase af.code, af.res⟩) {args : List V} {Q : V → Heap → Prop}
    (hW : ∀ R : V → Heap → Prop, (∀ v h1 h2, Sub h1 h2 → Q v h1 → R v h2) → W qf (AC P) af.code (fun e tm h' => match e with
      | .exit _ => False
      | _ => ∃ v, resV tm h' af.res = some v ∧ R v h') (fun t => args.getD t .undef) h) : AC P f args h Q :=
  AC_of hq hm htr (hW (fun v h' => ∃ h'', Sub h'' h' ∧ Q v h'') fun v h1 h2 hs hq => ⟨h1, hs, hq⟩)

/-- A change of view, and on. -/
theorem W_ghost (tm' : Nat → V) (h' : Heap) (hs : Shift tm h tm' h') (k : Q .normal tm' h') : W qf C .ghost Q tm h := ⟨tm', h', hs, k⟩

/-! The operations one by one. -/
theorem Wop_alloc (e : TypeId) (z : List V) : Wop qf C (.alloc e z) tm h K = New h fun b => K (.ptr b 0) (upd h b (.cells e z.length z)) := propext Iff.rfl
theorem Wop_box (e : TypeId) (n : Nat) (x : Opnd) : Wop qf C (.box e n x) tm h K = (((x.ev tm).cells.length = n ∧ (x.ev tm).cells.all V.isCell = true) ∧ New h fun b => K (.ptr b 0) (upd h b (.cells e n (x.ev tm).cells))) := propext Iff.rfl
theorem Wop_buildS (e : TypeId) (esz len : Nat) (z : List V) (ps : List (Nat × Opnd)) : Wop qf C (.buildS e esz len z ps) tm h K = wBuildS e esz len (fillS tm esz ((List.replicate len z).flatten) ps) h K := propext Iff.rfl
theorem wBuildS_some (e : TypeId) (esz len : Nat) (cs : List V) : wBuildS e esz len (some cs) h K = New h fun b => K (.sl esz b 0 len none) (upd h b (.cells e esz cs)) := propext Iff.rfl
theorem Wop_mkS (e : TypeId) (esz bytes : Nat) (z : List V) (l c : Opnd) : Wop qf C (.mkS e esz bytes z l c) tm h K = wMkS e esz bytes z (l.ev tm) (c.ev tm) h K := propext Iff.rfl
theorem wMkS_int (e : TypeId) (esz bytes : Nat) (z : List V) (l c : Int) : wMkS e esz bytes z (.int .i64 l) (.int .i64 c) h K = ((0 ≤ l ∧ l ≤ c ∧ c ≤ 140737488355328 ∧ bytes * c ≤ 140737488355328) ∧
    New h fun b => K (.sl esz b 0 l.toNat none) (upd h b (.cells e esz ((List.replicate l.toNat z).flatten)))) := propext Iff.rfl
theorem Wop_mkM : Wop qf C .mkM tm h K = New h fun b => K (.mp b) (upd h b (.map [])) := propext Iff.rfl
theorem Wop_store (n : Nat) (a x : Opnd) : Wop qf C (.store n a x) tm h K = wStore n (a.ev tm) (x.ev tm) h K := propext Iff.rfl
theorem Wop_mupd (kt : KT) (m k v : Opnd) : Wop qf C (.mupd kt m k v) tm h K = wMupd kt (m.ev tm) (k.ev tm) (v.ev tm) h K := propext Iff.rfl
theorem Wop_ment (kt : KT) (z : V) (m k : Opnd) : Wop qf C (.ment kt z m k) tm h K = wMent kt z (m.ev tm) (k.ev tm) h K := propext Iff.rfl
theorem Wop_ests (m s v : Opnd) : Wop qf C (.ests m s v) tm h K = wEsts (m.ev tm) (s.ev tm) (v.ev tm) h K := propext Iff.rfl
theorem Wop_app (e : TypeId) (esz bytes : Nat) (s x : Opnd) : Wop qf C (.app e esz bytes s x) tm h K = wApp e esz bytes (s.ev tm) (x.ev tm) h K := propext Iff.rfl
theorem Wop_call (f : FuncId) (xs : List Opnd) : Wop qf C (.call f xs) tm h K = C f (xs.map (·.ev tm)) h K := propext Iff.rfl

theorem Wop_mov (x : Opnd) : Wop qf C (.mov x) tm h K = K (x.ev tm) h := propext Iff.rfl

/-- An operation that leaves the heap, by its value. -/
def Wv (o : Option V) (h : Heap) (K : V → Heap → Prop) : Prop :=
  match o with
  | some v => K v h
  | none => False
theorem Wv_some (v : V) : Wv (some v) h K = K v h := propext Iff.rfl
@[congr] theorem Wv_congr {o o' : Option V} (h1 : ∀ _ : Unit, o = o') : Wv o h K = Wv o' h K := by rw [h1 ()]
theorem Wop_pick (c a b : Opnd) : Wop qf C (.pick c a b) tm h K = Wv (aPick (c.ev tm) (a.ev tm) (b.ev tm)) h K := propext Iff.rfl
theorem Wop_build (z : List V) (ps : List (Nat × Nat × Opnd)) : Wop qf C (.build z ps) tm h K = Wv ((fillB tm z ps).map .agg) h K := propext Iff.rfl
theorem Wop_load (g : Option Nat) (a : Opnd) : Wop qf C (.load g a) tm h K = Wv (aLoad h g (a.ev tm)) h K := propext Iff.rfl
theorem Wop_nchk (x : Opnd) : Wop qf C (.nchk x) tm h K = Wv (aNchk (x.ev tm)) h K := propext Iff.rfl
theorem Wop_bin (op : BinOp) (tk : TK) (x y : Opnd) : Wop qf C (.bin op tk x y) tm h K = Wv (abin op tk (x.ev tm) (y.ev tm)) h K := propext Iff.rfl
theorem Wop_un (op : UnOp) (x : Opnd) : Wop qf C (.un op x) tm h K = Wv (aun op (x.ev tm)) h K := propext Iff.rfl
theorem Wop_cint (k : IntKind) (x : Opnd) : Wop qf C (.cint k x) tm h K = Wv (aCint k (x.ev tm)) h K := propext Iff.rfl
theorem Wop_cstr (x : Opnd) : Wop qf C (.cstr x) tm h K = Wv (aCstr h (x.ev tm)) h K := propext Iff.rfl
theorem Wop_slS (esz : Nat) (x : Opnd) (lo hi mx : Option Opnd) : Wop qf C (.slS esz x lo hi mx) tm h K = Wv (aSlS esz (x.ev tm) (evo tm lo) (evo tm hi) (evo tm mx)) h K := propext Iff.rfl
theorem Wop_slStr (x : Opnd) (lo hi : Option Opnd) : Wop qf C (.slStr x lo hi) tm h K = Wv (aSlStr (x.ev tm) (evo tm lo) (evo tm hi)) h K := propext Iff.rfl
theorem Wop_fld (off : Nat) (x : Opnd) : Wop qf C (.fld off x) tm h K = Wv (aFld off (x.ev tm)) h K := propext Iff.rfl
theorem Wop_fldv (off : Nat) (g : Option Nat) (x : Opnd) : Wop qf C (.fldv off g x) tm h K = Wv (aFldv off g (x.ev tm)) h K := propext Iff.rfl
theorem Wop_idx (esz : Nat) (x i : Opnd) : Wop qf C (.idx esz x i) tm h K = Wv (aIdx esz (x.ev tm) (i.ev tm)) h K := propext Iff.rfl
theorem Wop_idxA (len esz : Nat) (x i : Opnd) : Wop qf C (.idxA len esz x i) tm h K = Wv (aIdxA len esz (x.ev tm) (i.ev tm)) h K := propext Iff.rfl
theorem Wop_idxStr (x i : Opnd) : Wop qf C (.idxStr x i) tm h K = Wv (aIdxStr (x.ev tm) (i.ev tm)) h K := propext Iff.rfl
theorem Wop_look (kt : KT) (z : V) (ok : Bool) (m k : Opnd) : Wop qf C (.look kt z ok m k) tm h K = Wv (aLook h kt z ok (m.ev tm) (k.ev tm)) h K := propext Iff.rfl
theorem Wop_ext (i : Nat) (x : Opnd) : Wop qf C (.ext i x) tm h K = Wv (aExt i (x.ev tm)) h K := propext Iff.rfl
theorem Wop_len (x : Opnd) : Wop qf C (.len x) tm h K = Wv (aLen (x.ev tm)) h K := propext Iff.rfl
theorem Wop_lenS (x : Opnd) : Wop qf C (.lenS x) tm h K = Wv (aLenS (x.ev tm)) h K := propext Iff.rfl
theorem Wop_mn (x y : Opnd) : Wop qf C (.mn x y) tm h K = Wv (aMn (x.ev tm) (y.ev tm)) h K := propext Iff.rfl
theorem Wop_mx (x y : Opnd) : Wop qf C (.mx x y) tm h K = Wv (aMx (x.ev tm) (y.ev tm)) h K := propext Iff.rfl
theorem Wop_qcall (f : FuncId) (xs : List Opnd) : Wop qf C (.qcall f xs) tm h K = Wv (qf f (xs.map (·.ev tm)) h) h K := propext Iff.rfl

theorem Wt_nil (K : (Nat → V) → Heap → Prop) : Wt qf C .nil K tm h = K tm h := propext Iff.rfl
theorem Wt_op (o : AOp) (d : Option Nat) (t : RTree) (K : (Nat → V) → Heap → Prop) : Wt qf C (.op ⟨d, o, none⟩ t) K tm h = Wop qf C o tm h fun v h' => Wt qf C t K (putd tm d v) h' := propext Iff.rfl

/-- An operation that is made only where a truth value says so. -/
def Wg (v : V) (want : Bool) (a b : Prop) : Prop :=
  match v with
  | .bool c => if c = want then a else b
  | .undef => b
  | _ => False
@[congr] theorem Wg_congr {v v' : V} {want : Bool} {a b : Prop} (h1 : ∀ _ : Unit, v = v') : Wg v want a b = Wg v' want a b := by rw [h1 ()]
theorem Wg_tt (a b : Prop) : Wg (.bool true) true a b = a := propext Iff.rfl
theorem Wg_ff (a b : Prop) : Wg (.bool false) false a b = a := propext Iff.rfl
theorem Wg_tf (a b : Prop) : Wg (.bool true) false a b = b := propext Iff.rfl
theorem Wg_ft (a b : Prop) : Wg (.bool false) true a b = b := propext Iff.rfl
theorem Wg_undef (w : Bool) (a b : Prop) : Wg .undef w a b = b := propext Iff.rfl
theorem Wt_opg (o : AOp) (d : Option Nat) (g : Nat) (want : Bool) (t : RTree) (K : (Nat → V) → Heap → Prop) : Wt qf C (.op ⟨d, o, some (g, want)⟩ t) K tm h =
    Wg (tm g) want (Wop qf C o tm h fun v h' => Wt qf C t K (putd tm d v) h') (Wt qf C t K (putd tm d .undef) h) := by
  show Woper qf C ⟨d, o, some (g, want)⟩ (Wt qf C t K) tm h = _
  unfold Woper Wg
  dsimp only
  cases tm g <;> rfl
theorem Wt_and (a b : RTree) (K : (Nat → V) → Heap → Prop) : Wt qf C (.both a b) K tm h = (Wt qf C a K tm h ∧ Wt qf C b K tm h) := propext Iff.rfl
theorem Wt_tt (K : (Nat → V) → Heap → Prop) : Wt qf C .tt K tm h = True := propext Iff.rfl

/-- A branch. -/
def Wc (v : V) (a b : Prop) : Prop :=
  match v with
  | .bool t => if t then a else b
  | _ => False
@[congr] theorem Wc_congr {v v' : V} {a b : Prop} (h1 : ∀ _ : Unit, v = v') : Wc v a b = Wc v' a b := by rw [h1 ()]
theorem Wc_true (a b : Prop) : Wc (.bool true) a b = a := propext Iff.rfl
theorem Wc_false (a b : Prop) : Wc (.bool false) a b = b := propext Iff.rfl
theorem W_cond' (c : Opnd) (a b : ACode) : W qf C (.cond c a b) Q tm h = Wc (c.ev tm) (W qf C a Q tm h) (W qf C b Q tm h) := propext Iff.rfl
theorem Wc_intro {t : Bool} {a b : Prop} (h1 : t = true → a) (h2 : t = false → b) : Wc (.bool t) a b := by
  cases t
  · exact h2 rfl
  · exact h1 rfl

/-! Slices that grow. -/
theorem wApp_nils {e : TypeId} {esz bytes : Nat} {x : V} {ys : List V} {m : Nat} (hx : cellsOf h esz x = some (ys, m)) : wApp e esz bytes .nils x h K =
    (ys.all V.isCell = true ∧ if m = 0 then K .nils h else m * bytes ≤ 140737488355328 ∧ m ≤ 140737488355328 ∧ New h fun b => K (.sl esz b 0 m none) (upd h b (.cells e esz ys))) := by
  simp only [wApp, hx]; rfl
theorem wApp_tip {e : TypeId} {esz bytes b n : Nat} {xs : List V} {x : V} {ys : List V} {m : Nat} (hx : cellsOf h esz x = some (ys, m)) (hb : h b = some (.cells e esz xs)) : wApp e esz bytes (.sl esz b 0 n none) x h K =
    (ys.all V.isCell = true ∧ ((n + m) * bytes ≤ 140737488355328 ∧ n + m ≤ 140737488355328) ∧ xs.length = n * esz ∧ New h fun b' => K (.sl esz b' 0 (n + m) none) (upd (era h b) b' (.cells e esz (xs ++ ys)))) := by
  simp only [wApp, hx, hb, true_and]; rfl
theorem wApp_cap {e : TypeId} {esz bytes b off n : Nat} {xs : List V} {x : V} {ys : List V} {m : Nat} (hx : cellsOf h esz x = some (ys, m)) (hb : h b = some (.cells e esz xs)) (hm : m ≠ 0) : wApp e esz bytes (.sl esz b off n (some n)) x h K =
    (ys.all V.isCell = true ∧ ((n + m) * bytes ≤ 140737488355328 ∧ n + m ≤ 140737488355328) ∧ off * esz + n * esz ≤ xs.length ∧
      New h fun b' => K (.sl esz b' 0 (n + m) none) (upd h b' (.cells e esz ((xs.drop (off * esz)).take (n * esz) ++ ys)))) := by
  simp only [wApp, hx, hb, true_and, if_neg hm]; rfl
end

theorem put_same (tm : Nat → V) (d : Nat) (v : V) : put tm d v d = v := by simp [put]
theorem put_other (tm : Nat → V) (d t : Nat) (v : V) (hne : t ≠ d) : put tm d v t = tm t := by simp [put, hne]
theorem putd_some (tm : Nat → V) (d : Nat) (v : V) : putd tm (some d) v = put tm d v := rfl
theorem putd_none (tm : Nat → V) (v : V) : putd tm none v = tm := rfl
theorem upd_at (h : Heap) (b c : Nat) (x : Blk) : upd h b x c = if c = b then some x else h c := rfl
theorem era_at (h : Heap) (b c : Nat) : era h b c = if c = b then none else h c := rfl

theorem wrap_id {x : Int} (h1 : -9223372036854775808 ≤ x) (h2 : x ≤ 9223372036854775807) : IntKind.i64.wrap x = x := by
  simp only [IntKind.wrap, IntKind.signed, IntKind.bits]
  simp
  omega

@[simp] theorem aMn_int (k k' : IntKind) (a b : Int) : aMn (.int k a) (.int k' b) = some (.int k (min a b)) := by
  simp only [aMn, Option.some.injEq, V.int.injEq, true_and]
  split <;> omega
@[simp] theorem aMx_int (k k' : IntKind) (a b : Int) : aMx (.int k a) (.int k' b) = some (.int k (max a b)) := by
  simp only [aMx, Option.some.injEq, V.int.injEq, true_and]
  split <;> omega

attribute [simp ↓] W_skip W_region W_seq W_cond' W_block W_exit W_ret Wt_nil Wt_op Wt_opg Wt_and Wt_tt Wop_alloc Wop_box Wop_buildS Wop_mkS Wop_mkM Wop_store Wop_mupd Wop_ment Wop_ests Wop_app Wop_call
  Wop_mov Wop_pick Wop_build Wop_load Wop_nchk Wop_bin Wop_un Wop_cint Wop_cstr Wop_slS Wop_slStr Wop_fld Wop_fldv Wop_idx Wop_idxA Wop_idxStr Wop_look Wop_ext Wop_len Wop_lenS Wop_mn Wop_mx Wop_qcall
attribute [simp] putd_some putd_none Wv_some Wg_tt Wg_ff Wg_tf Wg_ft Wg_undef Wc_true Wc_false wBuildS_some wMkS_int
attribute [simp] put_same put_other V.cells V.isCell setAt

/-! Values: what each operation makes of each kind, told so that no step is by unfolding alone. -/
section
variable {h : Heap} {tm : Nat → V}
@[simp] theorem ev_t (n : Nat) : (Opnd.t n).ev tm = tm n := Eq.trans rfl rfl
@[simp] theorem ev_c (v : V) : (Opnd.c v).ev tm = v := Eq.trans rfl rfl
@[simp] theorem evo_none : evo tm none = none := Eq.trans rfl rfl
@[simp] theorem evo_some (x : Opnd) : evo tm (some x) = some (x.ev tm) := Eq.trans rfl rfl

def ldB (o : Option Blk) (g : Option Nat) (off : Nat) : Option V :=
  match o with
  | some (.cells _ _ xs) => ld g (xs.drop off)
  | _ => none
@[simp] theorem aLoad_ptr (g : Option Nat) (b off : Nat) : aLoad h g (.ptr b off) = ldB (h b) g off := by
  unfold aLoad ldB; rfl
@[simp] theorem aLoad_pp (g : Option Nat) (xs : List V) : aLoad h g (.pp xs) = ld g xs := Eq.trans rfl rfl
@[simp] theorem ldB_cells (e : TypeId) (esz : Nat) (xs : List V) (g : Option Nat) (off : Nat) : ldB (some (.cells e esz xs)) g off = ld g (xs.drop off) := Eq.trans rfl rfl
@[simp] theorem ld_none (xs : List V) : ld none xs = xs.head? := Eq.trans rfl rfl
@[simp] theorem ld_some (n : Nat) (xs : List V) : ld (some n) xs = if n ≤ xs.length then some (.agg (xs.take n)) else none := Eq.trans rfl rfl
@[simp] theorem aFld_ptr (off b o : Nat) : aFld off (.ptr b o) = some (.ptr b (o + off)) := Eq.trans rfl rfl
@[simp] theorem aFld_pp (off : Nat) (xs : List V) : aFld off (.pp xs) = some (.pp (xs.drop off)) := Eq.trans rfl rfl
@[simp] theorem aFldv_none (off : Nat) (xs : List V) : aFldv off none (.agg xs) = xs[off]? := Eq.trans rfl rfl
@[simp] theorem aFldv_some (off n : Nat) (xs : List V) : aFldv off (some n) (.agg xs) = if off + n ≤ xs.length then some (.agg ((xs.drop off).take n)) else none := Eq.trans rfl rfl
@[simp] theorem aIdx_ps (esz e : Nat) (xs : List V) (k : IntKind) (n : Int) : aIdx esz (.ps e xs) (.int k n) = if e = esz ∧ 0 ≤ n then (xs[n.toNat]?).map fun v => .pp v.cells else none := Eq.trans rfl rfl
@[simp] theorem aIdx_sl (esz e b off len : Nat) (cap : Option Nat) (k : IntKind) (n : Int) : aIdx esz (.sl e b off len cap) (.int k n) = if e = esz ∧ 0 ≤ n ∧ n < len then some (.ptr b ((off + n.toNat) * esz)) else none := Eq.trans rfl rfl
@[simp] theorem aIdxA_ptr (len esz b o : Nat) (k : IntKind) (n : Int) : aIdxA len esz (.ptr b o) (.int k n) = if 0 ≤ n ∧ n < len then some (.ptr b (o + n.toNat * esz)) else none := Eq.trans rfl rfl
@[simp] theorem aIdxA_pp (len esz : Nat) (xs : List V) (k : IntKind) (n : Int) : aIdxA len esz (.pp xs) (.int k n) = if 0 ≤ n ∧ n < len then some (.pp (xs.drop (n.toNat * esz))) else none := Eq.trans rfl rfl
@[simp] theorem aIdxStr_str (s : ByteArray) (k : IntKind) (n : Int) : aIdxStr (.str s) (.int k n) = if 0 ≤ n then (s[n.toNat]?).map fun b => .int .u8 b.toNat else none := Eq.trans rfl rfl
@[simp] theorem aExt_tuple (i : Nat) (xs : List V) : aExt i (.tuple xs) = xs[i]? := Eq.trans rfl rfl
@[simp] theorem aLen_nils : aLen .nils = some (.int .i64 0) := Eq.trans rfl rfl
@[simp] theorem aLen_ps (e : Nat) (xs : List V) : aLen (.ps e xs) = some (.int .i64 xs.length) := Eq.trans rfl rfl
@[simp] theorem aLen_sl (e b off n : Nat) (cap : Option Nat) : aLen (.sl e b off n cap) = some (.int .i64 n) := Eq.trans rfl rfl
@[simp] theorem aLenS_str (s : ByteArray) : aLenS (.str s) = some (.int .i64 s.size) := Eq.trans rfl rfl
@[simp] theorem aPick_bool (t : Bool) (x y : V) : aPick (.bool t) x y = some (if t then x else y) := Eq.trans rfl rfl
@[simp] theorem aNchk_ptr (b off : Nat) : aNchk (.ptr b off) = some (.ptr b off) := Eq.trans rfl rfl
@[simp] theorem aNchk_pp (xs : List V) : aNchk (.pp xs) = some (.pp xs) := Eq.trans rfl rfl
@[simp] theorem aCint_int (k k' : IntKind) (n : Int) : aCint k (.int k' n) = some (.int k (k.wrap n)) := Eq.trans rfl rfl
@[simp] theorem aun_neg (k : IntKind) (n : Int) : aun .neg (.int k n) = some (.int k (k.wrap (0 - n))) := Eq.trans rfl rfl
@[simp] theorem aun_xor (k : IntKind) (n : Int) : aun .xor (.int k n) = some (.int k (k.wrap (BitVec.ofInt k.bits (if k.signed then -1 else k.max) ^^^ BitVec.ofInt k.bits n).toNat)) := Eq.trans rfl rfl
@[simp] theorem aun_not (b : Bool) : aun .not (.bool b) = some (.bool (!b)) := Eq.trans rfl rfl
@[simp] theorem abin_add (k : IntKind) (a b : Int) : abin .add .num (.int k a) (.int k b) = some (.int k (k.wrap (a + b))) := by simp [abin, isShift, intBin]
@[simp] theorem abin_sub (k : IntKind) (a b : Int) : abin .sub .num (.int k a) (.int k b) = some (.int k (k.wrap (a - b))) := by simp [abin, isShift, intBin]
@[simp] theorem abin_mul (k : IntKind) (a b : Int) : abin .mul .num (.int k a) (.int k b) = some (.int k (k.wrap (a * b))) := by simp [abin, isShift, intBin]
@[simp] theorem abin_quo (k : IntKind) (a b : Int) : abin .quo .num (.int k a) (.int k b) = if b = 0 then none else some (.int k (k.wrap (a.tdiv b))) := by simp [abin, isShift, intBin]
@[simp] theorem abin_rem (k : IntKind) (a b : Int) : abin .rem .num (.int k a) (.int k b) = if b = 0 then none else some (.int k (a.tmod b)) := by simp [abin, isShift, intBin]
@[simp] theorem abin_and (k : IntKind) (a b : Int) : abin .and .num (.int k a) (.int k b) = some (.int k (k.wrap (BitVec.ofInt k.bits a &&& BitVec.ofInt k.bits b).toNat)) := by simp [abin, isShift, intBin]
@[simp] theorem abin_or (k : IntKind) (a b : Int) : abin .or .num (.int k a) (.int k b) = some (.int k (k.wrap (BitVec.ofInt k.bits a ||| BitVec.ofInt k.bits b).toNat)) := by simp [abin, isShift, intBin]
@[simp] theorem abin_xor (k : IntKind) (a b : Int) : abin .xor .num (.int k a) (.int k b) = some (.int k (k.wrap (BitVec.ofInt k.bits a ^^^ BitVec.ofInt k.bits b).toNat)) := by simp [abin, isShift, intBin]
@[simp] theorem abin_eql (k : IntKind) (a b : Int) : abin .eql .num (.int k a) (.int k b) = some (.bool (a == b)) := by simp [abin, isShift, intBin]
@[simp] theorem abin_neq (k : IntKind) (a b : Int) : abin .neq .num (.int k a) (.int k b) = some (.bool (a != b)) := by simp [abin, isShift, intBin]
@[simp] theorem abin_lss (k : IntKind) (a b : Int) : abin .lss .num (.int k a) (.int k b) = some (.bool (decide (a < b))) := by simp [abin, isShift, intBin]
@[simp] theorem abin_leq (k : IntKind) (a b : Int) : abin .leq .num (.int k a) (.int k b) = some (.bool (decide (a ≤ b))) := by simp [abin, isShift, intBin]
@[simp] theorem abin_gtr (k : IntKind) (a b : Int) : abin .gtr .num (.int k a) (.int k b) = some (.bool (decide (a > b))) := by simp [abin, isShift, intBin]
@[simp] theorem abin_geq (k : IntKind) (a b : Int) : abin .geq .num (.int k a) (.int k b) = some (.bool (decide (a ≥ b))) := by simp [abin, isShift, intBin]
@[simp] theorem abin_shl (k k' : IntKind) (a b : Int) : abin .shl .num (.int k a) (.int k' b) = if b < 0 then none else some (.int k (k.wrap (a * 2 ^ (min b.toNat k.bits)))) := by simp [abin, isShift, shiftBin]
@[simp] theorem abin_shr (k k' : IntKind) (a b : Int) : abin .shr .num (.int k a) (.int k' b) = if b < 0 then none else some (.int k (a.fdiv (2 ^ (min b.toNat k.bits)))) := by simp [abin, isShift, shiftBin]
@[simp] theorem abin_sadd (a b : ByteArray) : abin .add .num (.str a) (.str b) = if a.size + b.size ≤ 9223372036854775807 then some (.str (a ++ b)) else none := by simp [abin, strBin]
@[simp] theorem abin_seql (a b : ByteArray) : abin .eql .num (.str a) (.str b) = some (.bool (a.toList == b.toList)) := by simp [abin, strBin]
@[simp] theorem abin_sneq (a b : ByteArray) : abin .neq .num (.str a) (.str b) = some (.bool (!(a.toList == b.toList))) := by simp [abin, strBin]
@[simp] theorem abin_beql (a b : Bool) : abin .eql .bool (.bool a) (.bool b) = some (.bool (a == b)) := by simp [abin, eqBin]
@[simp] theorem abin_bneq (a b : Bool) : abin .neq .bool (.bool a) (.bool b) = some (.bool (!(a == b))) := by simp [abin, eqBin]
@[simp] theorem abin_nn (op : BinOp) : abin op .ptr .nilp .nilp = eqBin op true := Eq.trans rfl rfl
@[simp] theorem abin_pn (op : BinOp) (b o : Nat) : abin op .ptr (.ptr b o) .nilp = eqBin op false := Eq.trans rfl rfl
@[simp] theorem abin_ppn (op : BinOp) (xs : List V) : abin op .ptr (.pp xs) .nilp = eqBin op false := Eq.trans rfl rfl
@[simp] theorem eqBin_eql (t : Bool) : eqBin .eql t = some (.bool t) := Eq.trans rfl rfl
@[simp] theorem eqBin_neq (t : Bool) : eqBin .neq t = some (.bool (!t)) := Eq.trans rfl rfl
@[simp] theorem aSlS_000 (esz : Nat) (x : V) : aSlS esz x none none none = aslS esz x none none none := Eq.trans rfl rfl
@[simp] theorem aSlS_100 (esz : Nat) (x : V) (k : IntKind) (l : Int) : aSlS esz x (some (.int k l)) none none = aslS esz x (some l) none none := Eq.trans rfl rfl
@[simp] theorem aSlS_010 (esz : Nat) (x : V) (k : IntKind) (l : Int) : aSlS esz x none (some (.int k l)) none = aslS esz x none (some l) none := Eq.trans rfl rfl
@[simp] theorem aSlS_110 (esz : Nat) (x : V) (k k' : IntKind) (l u : Int) : aSlS esz x (some (.int k l)) (some (.int k' u)) none = aslS esz x (some l) (some u) none := Eq.trans rfl rfl
@[simp] theorem aslS_ps (esz e : Nat) (xs : List V) (lo hi : Option Int) : aslS esz (.ps e xs) lo hi none = if e = esz ∧ 0 ≤ lo.getD 0 ∧ lo.getD 0 ≤ hi.getD xs.length ∧ hi.getD xs.length ≤ xs.length then some (.ps e ((xs.take (hi.getD xs.length).toNat).drop (lo.getD 0).toNat)) else none := by
  simp [aslS]
@[simp] theorem fillB_nil (cs : List V) : fillB tm cs [] = some cs := Eq.trans rfl rfl
@[simp] theorem fillB_cons (cs : List V) (off size : Nat) (x : Opnd) (rest : List (Nat × Nat × Opnd)) : fillB tm cs ((off, size, x) :: rest) = if (x.ev tm).cells.length = size ∧ off + size ≤ cs.length ∧ (x.ev tm).cells.all V.isCell then fillB tm (setAt cs off (x.ev tm).cells) rest else none := Eq.trans rfl rfl
@[simp] theorem fillS_nil (esz : Nat) (cs : List V) : fillS tm esz cs [] = some cs := Eq.trans rfl rfl
@[simp] theorem fillS_cons (esz : Nat) (cs : List V) (i : Nat) (x : Opnd) (rest : List (Nat × Opnd)) : fillS tm esz cs ((i, x) :: rest) = if (x.ev tm).cells.length = esz ∧ i * esz + esz ≤ cs.length ∧ (x.ev tm).cells.all V.isCell then fillS tm esz (setAt cs (i * esz) (x.ev tm).cells) rest else none := Eq.trans rfl rfl

def wStB (o : Option Blk) (n b off : Nat) (cs : List V) (h : Heap) (K : V → Heap → Prop) : Prop :=
  match o with
  | some (.cells e esz xs) => (cs.length = n ∧ cs.all V.isCell = true ∧ off + n ≤ xs.length) ∧ K .undef (upd h b (.cells e esz (setAt xs off cs)))
  | _ => False
@[congr] theorem wStB_congr {o o' : Option Blk} {n b off : Nat} {cs cs' : List V} {K : V → Heap → Prop} (h1 : ∀ _ : Unit, o = o') (h2 : ∀ _ : Unit, cs = cs') : wStB o n b off cs h K = wStB o' n b off cs' h K := by rw [h1 (), h2 ()]
@[congr] theorem wStore_congr {n : Nat} {a a' x x' : V} {K : V → Heap → Prop} (h1 : ∀ _ : Unit, a = a') (h2 : ∀ _ : Unit, x = x') : wStore n a x h K = wStore n a' x' h K := by rw [h1 (), h2 ()]
@[simp] theorem wStore_ptr (n b off : Nat) (x : V) (K : V → Heap → Prop) : wStore n (.ptr b off) x h K = wStB (h b) n b off x.cells h K := by
  unfold wStore wStB; rfl
@[simp] theorem wStB_some (e : TypeId) (esz : Nat) (xs : List V) (n b off : Nat) (cs : List V) (K : V → Heap → Prop) : wStB (some (.cells e esz xs)) n b off cs h K =
    ((cs.length = n ∧ cs.all V.isCell = true ∧ off + n ≤ xs.length) ∧ K .undef (upd h b (.cells e esz (setAt xs off cs)))) := propext Iff.rfl
attribute [simp] resV resAll resOne
end

/-- Natural numbers as a program's numbers. -/
def nats (l : List Nat) : List V := l.map fun (n : Nat) => .int .i64 (n : Int)
def ints (l : List Int) : List V := l.map fun (n : Int) => .int .i64 n
@[simp] theorem nats_len (l : List Nat) : (nats l).length = l.length := by simp [nats]
@[simp] theorem ints_len (l : List Int) : (ints l).length = l.length := by simp [ints]
@[simp] theorem nats_get (l : List Nat) (i : Nat) : (nats l)[i]? = (l[i]?).map fun (n : Nat) => .int .i64 (n : Int) := by simp [nats]
@[simp] theorem ints_get (l : List Int) (i : Nat) : (ints l)[i]? = (l[i]?).map fun (n : Int) => .int .i64 n := by simp [ints]
@[simp] theorem nats_getE (l : List Nat) (i : Nat) (hi : i < (nats l).length) : (nats l)[i] = .int .i64 ((l[i]'(by simpa using hi) : Nat) : Int) := by simp [nats]
@[simp] theorem ints_getE (l : List Int) (i : Nat) (hi : i < (ints l).length) : (ints l)[i] = .int .i64 (l[i]'(by simpa using hi)) := by simp [ints]
/-- What is kept of the heap at a function's end. -/
theorem keepAll {h : Heap} {Q : Heap → Prop} (hq : Q h) : ∃ h'', Sub h'' h ∧ Q h'' := ⟨h, Sub.refl h, hq⟩
theorem nats_set (l : List Nat) (i n : Nat) : (nats l).set i (.int .i64 n) = nats (l.set i n) := by simp [nats, List.map_set]
theorem ints_set (l : List Int) (i : Nat) (n : Int) : (ints l).set i (.int .i64 n) = ints (l.set i n) := by simp [ints, List.map_set]

end Go.Abs
