/- All that leaves the heap as it is, in one theorem. -/
import Derived.Test.YtjhdfbplkoaobaaAbsOps5
set_option linter.unusedVariables false
set_option linter.unusedSimpArgs false
namespace Go.Abs

section
variable {P : Program} {ρ : Ren} {O : Nat → Prop} {w : World} {tm : Nat → V} {a : Act}

theorem run_v {s : Sem Value} {cv : Value} {w' : World} (h : s.run P w = .ok cv w') : (do pure (Next.value (← s)) : Sem Next).run P w = .ok (.value cv) w' := by
  simp [h]
theorem run_u {s : Sem Unit} {w' : World} (h : s.run P w = .ok () w') : (do s; pure Next.skip : Sem Next).run P w = .ok .skip w' := by
  simp [h]

theorem trOpt_rel (ht : TRel ρ O w tm a) {x : Option Operand} {y : Option Opnd} (h : trOpt x = some y) :
    (x = none ∧ y = none) ∨ ∃ x' y', x = some x' ∧ y = some y' ∧ VRel ρ O w (y'.ev tm) (a.eval x') := by
  cases x with
  | none => injection h with h; exact .inl ⟨rfl, h.symm⟩
  | some x =>
    simp only [trOpt, Option.map_eq_some_iff] at h
    obtain ⟨y', hy, rfl⟩ := h
    exact .inr ⟨x, y', rfl, rfl, trO_rel ht hy⟩

theorem slStr_sound {t : TypeId} (hu : P.underlying t = some .string) {s : ByteArray} {lo hi : Option Int} {k1 k2 : IntKind} (h1 : 0 ≤ lo.getD 0) (h2 : lo.getD 0 ≤ hi.getD s.size) (h3 : hi.getD s.size ≤ s.size) :
    (Instr.sliceAt t (.string s) (lo.map (Value.int k1)) (hi.map (Value.int k2)) none).run P w = .ok (.string (s.extract (lo.getD 0).toNat (hi.getD s.size).toNat)) w := by
  have hb := run_bounds (P := P) (w := w) (isSlice := false) (len := s.size) (cap := s.size) (k1 := k1) (k2 := k2) (lo := lo) (hi := hi) (lo.getD 0).toNat (hi.getD s.size).toNat (by omega) (by omega) (by omega) (by omega)
  simp only [Instr.sliceAt, Instr.slice, Sem.run_bind, run_underlying hu, Result.andThen_ok, Option.isSome_none, Bool.false_eq_true, if_false, hb, Sem.run_pure]

theorem map_int {k : IntKind} {n : Int} : (some (Value.int k n)) = (some n).map (Value.int k) := rfl

theorem look_sound {h : Heap} (hs : St ρ h w) {t kT e : TypeId} (hu : P.underlying t = some (.map kT e)) {kt : KT} (hkt : ktOf P kT = some kt) {z : V} (hz : zeroV P e = some z) {ok : Bool}
    {m k : V} {cm ck : Value} (hm : VRel ρ (Own ρ h) w m cm) (hk : VRel ρ (Own ρ h) w k ck) {v : V}
    (hv : aLook h kt z ok m k = some v) :
    ∃ cv, (Instr.lookup t cm ck ok).run P w = .ok cv w ∧ VRel ρ (Own ρ h) w v cv := by
  obtain ⟨cz, hzr, hzrun⟩ := zeroV_rel (ρ := ρ) (O := Own ρ h) (w := w) hz
  have fin : ∀ {u : V} {cu : Value} (b : Bool), VRel ρ (Own ρ h) w u cu → VRel ρ (Own ρ h) w (if ok then V.tuple [u, .bool b] else u) (if ok then .tuple #[cu, .bool b] else cu) := by
    intro u cu b hu
    cases ok with
    | false => exact hu
    | true =>
      have := VRel.tuple (ρ := ρ) (O := Own ρ h) (w := w) [u, .bool b] [cu, .bool b] rfl (by
        intro j x y hx hy
        match j with
        | 0 => simp at hx hy; subst hx; subst hy; exact hu
        | 1 => simp at hx hy; subst hx; subst hy; exact .bool b
        | j + 2 => simp at hx)
      simpa using this
  cases hm with
  | nilm =>
    simp only [aLook] at hv
    split at hv
    · rename_i hik
      injection hv with hv; subst hv
      refine ⟨_, ?_, fin false hzr⟩
      have hck := run_checkKey (w := w) hkt hk hik true
      have hf : (Instr.findKey kT ck []).run P w = .ok none w := by
        obtain ⟨q, h1, h2⟩ := findKey_sound (P := P) (w := w) hkt hk hik (es := []) (ces := []) ⟨rfl, fun j k v hj => by simp at hj⟩ (r := none) rfl
        simp only at h2; subst h2; exact h1
      simp [Instr.lookup, run_underlying hu, hck, hf, hzrun]
    · cases hv
  | mp b cb K hr =>
    simp only [aLook] at hv
    split at hv
    · rename_i es hb
      split at hv
      · rename_i hik
        obtain ⟨cb', K', hr', ces, g1, g2, g3⟩ := hs.blk b _ hb
        rw [hr] at hr'; injection hr' with hr'; injection hr' with e1 e2; subst e1; subst e2
        have hE : ERel ρ (Own ρ h) w es ces.toList := ⟨by simpa using g2, fun j k v hj => by
          obtain ⟨me, a1, _, a3, a4⟩ := g3 j k v hj
          exact ⟨me, by simpa using a1, a3, a4⟩⟩
        have hck := run_checkKey (w := w) hkt hk hik ces.isEmpty
        split at hv
        · rename_i i hfi
          simp only [Option.map_eq_some_iff] at hv
          obtain ⟨⟨k', v'⟩, he, rfl⟩ := hv
          obtain ⟨q, h1, me, h2, h3, _⟩ := findKey_sound hkt hk hik hE hfi
          subst h3
          obtain ⟨me', a1, _, _, a4⟩ := g3 i k' v' he
          have : me = me' := by
            have a1' : ces.toList[i]? = some me' := by simpa using a1
            rw [h2] at a1'; injection a1'
          subst this
          refine ⟨_, ?_, fin true a4⟩
          simp [Instr.lookup, run_underlying hu, hck, h1, run_getObj_map g1]
        · rename_i hfi
          injection hv with hv; subst hv
          obtain ⟨q, h1, h2⟩ := findKey_sound hkt hk hik hE hfi
          simp only at h2; subst h2
          refine ⟨_, ?_, fin false hzr⟩
          simp [Instr.lookup, run_underlying hu, hck, h1, run_getObj_map g1, hzrun]
        · cases hv
      · cases hv
    · cases hv
  | _ => cases hv

theorem len_sound {t e : TypeId} (hu : P.underlying t = some (.slice e)) {ty : TypeId} {x : V} {cx : Value} (hx : VRel ρ O w x cx) {v : V}
    (hv : aLen x = some v) : ∃ cv, (Builtin.len_ #[t] ty #[cx]).run P w = .ok cv w ∧ VRel ρ O w v cv := by
  cases hx <;> first
    | (cases hv; done)
    | (injection hv with hv; subst hv; refine ⟨_, ?_, .int _ _⟩; simp [Builtin.len_, run_underlying hu, goInt]; done)

/-- A value's tuple component. -/
theorem ext_sound {x : V} {cx : Value} (hx : VRel ρ O w x cx) {i : Nat} {v : V}
    (hv : aExt i x = some v) : ∃ cv, (Instr.extract cx i).run P w = .ok cv w ∧ VRel ρ O w v cv := by
  cases hx with
  | tuple xs cs hl hr =>
    simp only [aExt] at hv
    have hlt : i < cs.length := by rw [← hl]; exact (List.getElem?_eq_some_iff.1 hv).1
    exact ⟨cs[i], by simp [Instr.extract, hlt], hr _ _ _ hv (List.getElem?_eq_getElem hlt)⟩
  | _ => cases hv

theorem args1 {c : Call} {x : Operand} (h : c.args.toList = [x]) : c.args = #[x] := by
  rw [← Array.toArray_toList (xs := c.args), h]
theorem args2 {c : Call} {x y : Operand} (h : c.args.toList = [x, y]) : c.args = #[x, y] := by
  rw [← Array.toArray_toList (xs := c.args), h]
theorem types1 {c : Call} {x : TypeId} (h : c.argTypes.toList = [x]) : c.argTypes = #[x] := by
  rw [← Array.toArray_toList (xs := c.argTypes), h]
theorem types2 {c : Call} {x y : TypeId} (h : c.argTypes.toList = [x, y]) : c.argTypes = #[x, y] := by
  rw [← Array.toArray_toList (xs := c.argTypes), h]

theorem slS_sound {t e : TypeId} (hu : P.underlying t = some (.slice e)) {n : Nat} (hn : szOf P e = some n) (hsK : ∀ b cb K, ρ b = some (cb, K) → K ≤ maxLen) (ht : TRel ρ O w tm a)
    {x : V} {cx : Value} (hx : VRel ρ O w x cx) {lo hi mx : Option Operand} {lo' hi' mx' : Option Opnd} (h1 : trOpt lo = some lo') (h2 : trOpt hi = some hi') (h3 : trOpt mx = some mx')
    {v : V} (hv : aSlS n x (evo tm lo') (evo tm hi') (evo tm mx') = some v) :
    ∃ cv, (Instr.sliceAt t cx (lo.map a.eval) (hi.map a.eval) (mx.map a.eval)).run P w = .ok cv w ∧ VRel ρ O w v cv := by
  have key : ∀ (l u m : Option Int) (k1 k2 k3 : IntKind), (m.isSome = true → u.isSome = true) → lo.map a.eval = l.map (Value.int k1) → hi.map a.eval = u.map (Value.int k2) → mx.map a.eval = m.map (Value.int k3) → aslS n x l u m = some v →
      ∃ cv, (Instr.sliceAt t cx (lo.map a.eval) (hi.map a.eval) (mx.map a.eval)).run P w = .ok cv w ∧ VRel ρ O w v cv := by
    intro l u m k1 k2 k3 hm e1 e2 e3 hq
    rw [e1, e2, e3]
    exact aslS_sound (P := P) (t := t) hu hn hsK hx (k1 := k1) (k2 := k2) (k3 := k3) hm hq
  have one : ∀ {y : Option Operand} {y' : Option Opnd}, trOpt y = some y' → (y.map a.eval = none ∧ evo tm y' = none) ∨ ∃ q c, y.map a.eval = some c ∧ evo tm y' = some q ∧ VRel ρ O w q c := by
    intro y y' hy
    rcases trOpt_rel ht hy with ⟨rfl, rfl⟩ | ⟨u, u', rfl, rfl, r⟩
    · exact .inl ⟨rfl, rfl⟩
    · exact .inr ⟨_, _, rfl, rfl, r⟩
  rcases one h1 with ⟨e1, f1⟩ | ⟨q1, c1, e1, f1, r1⟩ <;> rcases one h2 with ⟨e2, f2⟩ | ⟨q2, c2, e2, f2, r2⟩ <;> rcases one h3 with ⟨e3, f3⟩ | ⟨q3, c3, e3, f3, r3⟩ <;> rw [f1, f2, f3] at hv
  · exact key none none none .i64 .i64 .i64 (by simp) e1 e2 e3 hv
  · cases hv
  · cases r2 <;> first | (cases hv; done) | skip
    exact key none (some _) none .i64 _ .i64 (by simp) e1 e2 e3 hv
  · cases r2 <;> cases r3 <;> first | (cases hv; done) | skip
    exact key none (some _) (some _) .i64 _ _ (by simp) e1 e2 e3 hv
  · cases r1 <;> first | (cases hv; done) | skip
    exact key (some _) none none _ .i64 .i64 (by simp) e1 e2 e3 hv
  · cases r1 <;> cases hv
  · cases r1 <;> cases r2 <;> first | (cases hv; done) | skip
    exact key (some _) (some _) none _ _ .i64 (by simp) e1 e2 e3 hv
  · cases r1 <;> cases r2 <;> cases r3 <;> first | (cases hv; done) | skip
    exact key (some _) (some _) (some _) _ _ _ (by simp) e1 e2 e3 hv

theorem slStrAll_sound {t : TypeId} (hu : P.underlying t = some .string) (ht : TRel ρ O w tm a)
    {x : V} {cx : Value} (hx : VRel ρ O w x cx) {lo hi : Option Operand} {lo' hi' : Option Opnd} (h1 : trOpt lo = some lo') (h2 : trOpt hi = some hi')
    {v : V} (hv : aSlStr x (evo tm lo') (evo tm hi') = some v) :
    ∃ cv, (Instr.sliceAt t cx (lo.map a.eval) (hi.map a.eval) none).run P w = .ok cv w ∧ VRel ρ O w v cv := by
  have one : ∀ {y : Option Operand} {y' : Option Opnd}, trOpt y = some y' → (y.map a.eval = none ∧ evo tm y' = none) ∨ ∃ q c, y.map a.eval = some c ∧ evo tm y' = some q ∧ VRel ρ O w q c := by
    intro y y' hy
    rcases trOpt_rel ht hy with ⟨rfl, rfl⟩ | ⟨u, u', rfl, rfl, r⟩
    · exact .inl ⟨rfl, rfl⟩
    · exact .inr ⟨_, _, rfl, rfl, r⟩
  have key : ∀ (s : ByteArray) (l u : Option Int) (k1 k2 : IntKind), cx = .string s → lo.map a.eval = l.map (Value.int k1) → hi.map a.eval = u.map (Value.int k2) → aslStr s l u = some v →
      ∃ cv, (Instr.sliceAt t cx (lo.map a.eval) (hi.map a.eval) none).run P w = .ok cv w ∧ VRel ρ O w v cv := by
    intro s l u k1 k2 e0 e1 e2 hq
    rw [e0, e1, e2]
    unfold aslStr at hq
    split at hq
    · rename_i c
      injection hq with hq; subst hq
      exact ⟨_, slStr_sound hu c.1 c.2.1 c.2.2, .str _⟩
    · cases hq
  cases hx with
  | str s =>
    rcases one h1 with ⟨e1, f1⟩ | ⟨q1, c1, e1, f1, r1⟩ <;> rcases one h2 with ⟨e2, f2⟩ | ⟨q2, c2, e2, f2, r2⟩ <;> rw [f1, f2] at hv
    · exact key s none none .i64 .i64 rfl e1 e2 hv
    · cases r2 <;> first | (cases hv; done) | skip
      exact key s none (some _) .i64 _ rfl e1 e2 hv
    · cases r1 <;> first | (cases hv; done) | skip
      exact key s (some _) none _ .i64 rfl e1 e2 hv
    · cases r1 <;> cases r2 <;> first | (cases hv; done) | skip
      exact key s (some _) (some _) _ _ rfl e1 e2 hv
  | _ => cases hv

/-- The operations of the kinds 0 and 1 but the quiet calls. -/
theorem pure_sound {quiet : FuncId → Bool} {qf : FuncId → List V → Heap → Option V} {h : Heap} (hs : St ρ h w) (hsK : ∀ b cb K, ρ b = some (cb, K) → K ≤ maxLen) (ht : TRel ρ (Own ρ h) w tm a) {o : Oper} {ao : AOp} (htr : trOp P quiet o.op = some ao)
    (hk : ao.kind < 2) (hnq : ∀ f xs, ao ≠ .qcall f xs) {v : V} (hv : apure qf ao tm h = some v) :
    ∃ cv, (execOp a.eval o).run P w = .ok (.value cv) w ∧ VRel ρ (Own ρ h) w v cv := by
  obtain ⟨dst, op, type, pos, after, guard⟩ := o
  simp only at htr
  cases op with
  | move x =>
    simp only [trOp, Option.map_eq_some_iff] at htr
    obtain ⟨y, hy, rfl⟩ := htr
    injection hv with hv; subst hv
    exact ⟨a.eval x, rfl, trO_rel ht hy⟩
  | assign x =>
    simp only [trOp, Option.map_eq_some_iff] at htr
    obtain ⟨y, hy, rfl⟩ := htr
    injection hv with hv; subst hv
    exact ⟨a.eval x, rfl, trO_rel ht hy⟩
  | pick c x y =>
    simp only [trOp] at htr
    split at htr
    · rename_i c' x' y' h1 h2 h3
      injection htr with htr; subst htr
      have r1 := trO_rel ht h1
      simp only [apure] at hv
      generalize c'.ev tm = vc at r1 hv
      generalize hcc : a.eval c = cc at r1
      cases r1 <;> first | (cases hv; done) | skip
      rename_i b
      injection hv with hv; subst hv
      refine ⟨if b then a.eval x else a.eval y, ?_, ?_⟩
      · simp [execOp, hcc, asBool]
      · cases b
        · exact trO_rel ht h3
        · exact trO_rel ht h2
    · cases htr
  | build t ps =>
    have hz : ∃ z ps', ao = .build z ps' := by
      simp only [trOp] at htr
      split at htr
      · split at htr
        · simp only [Option.map_eq_some_iff] at htr
          obtain ⟨_, _, rfl⟩ := htr; exact ⟨_, _, rfl⟩
        · cases htr
      · split at htr
        · simp only [Option.map_eq_some_iff] at htr
          obtain ⟨_, _, rfl⟩ := htr; exact ⟨_, _, rfl⟩
        · cases htr
      · cases htr
    obtain ⟨z, ps', rfl⟩ := hz
    simp only [apure, Option.map_eq_some_iff] at hv
    obtain ⟨cs, hcs, rfl⟩ := hv
    obtain ⟨cv, h1, h2⟩ := build_sound ht htr hcs
    exact ⟨cv, run_v h1, h2⟩
  | load t x =>
    simp only [trOp] at htr
    split at htr
    · rename_i g y h1 h2
      injection htr with htr; subst htr
      obtain ⟨cv, h3, h4⟩ := load_sound hs h1 (trO_rel ht h2) hv
      exact ⟨cv, run_v h3, h4⟩
    · cases htr
  | nilCheck x =>
    simp only [trOp, Option.map_eq_some_iff] at htr
    obtain ⟨y, hy, rfl⟩ := htr
    have r := trO_rel ht hy
    simp only [apure] at hv
    generalize y.ev tm = vy at r hv
    generalize hcx : a.eval x = cx at r
    cases r <;> first
      | (cases hv; done)
      | (injection hv with hv; subst hv
         refine ⟨a.eval x, ?_, ?_⟩
         · simp [execOp, hcx]
         · rw [hcx]; constructor <;> assumption)
  | binOp op t x y yt =>
    simp only [trOp] at htr
    split at htr
    · rename_i tk x' y' h1 h2 h3
      injection htr with htr; subst htr
      obtain ⟨cv, h4, h5⟩ := abin_sound h1 x y (trO_rel ht h2) (trO_rel ht h3) hv
      exact ⟨cv, run_v h4, h5⟩
    · cases htr
  | unOp op t x =>
    simp only [trOp, Option.map_eq_some_iff] at htr
    obtain ⟨y, hy, rfl⟩ := htr
    obtain ⟨cv, h4, h5⟩ := aun_sound (P := P) (trO_rel ht hy) hv
    exact ⟨cv, run_v h4, h5⟩
  | convert s d x =>
    simp only [trOp] at htr
    split at htr
    · rename_i k0 k y h1 h2 h3
      injection htr with htr; subst htr
      have r := trO_rel ht h3
      simp only [apure] at hv
      generalize y.ev tm = vy at r hv
      generalize hcx : a.eval x = cx at r
      cases r <;> first | (cases hv; done) | skip
      rename_i k' n
      injection hv with hv; subst hv
      refine ⟨.int k (k.wrap n), run_v ?_, .int _ _⟩
      rw [hcx]
      simp [convert, run_underlying h1, run_underlying h2, Conv.intToInt]
    · rename_i e y h1 h2 h3
      split at htr
      · rename_i he
        injection htr with htr; subst htr
        simp only [apure, aCstr] at hv
        split at hv
        · rename_i cs n hcs
          simp only [Option.map_eq_some_iff] at hv
          obtain ⟨l, hl, rfl⟩ := hv
          exact ⟨_, run_v (cstr_sound hs h1 he h2 (trO_rel ht h3) hcs hl), .str _⟩
        · cases hv
      · cases htr
    · cases htr
  | slice t x lo hi mx =>
    simp only [trOp] at htr
    split at htr
    · rename_i e hu
      split at htr
      · rename_i n x' lo' hi' mx' h1 h2 h3 h4 h5
        injection htr with htr; subst htr
        obtain ⟨cv, a1, a2⟩ := slS_sound hu h1 hsK ht (trO_rel ht h2) h3 h4 h5 hv
        exact ⟨cv, run_v a1, a2⟩
      · cases htr
    · rename_i hu
      split at htr
      · rename_i x' lo' hi' h1 h2 h3
        injection htr with htr; subst htr
        obtain ⟨cv, a1, a2⟩ := slStrAll_sound hu ht (trO_rel ht h1) h2 h3 hv
        exact ⟨cv, run_v a1, a2⟩
      · cases htr
    · cases htr
  | fieldAddr s x f =>
    simp only [trOp] at htr
    split at htr
    · rename_i fs y hu hy
      split at htr
      · rename_i fd hf
        split at htr
        · rename_i n hn
          split at htr
          · cases htr
          · rename_i h0
            injection htr with htr; subst htr
            obtain ⟨cv, a1, a2⟩ := fld_sound hu hf hn h0 (trO_rel ht hy) hv
            exact ⟨cv, run_v a1, a2⟩
        · cases htr
      · cases htr
    · cases htr
  | field s x f =>
    simp only [trOp] at htr
    split at htr
    · rename_i fs y hu hy
      split at htr
      · rename_i fd hf
        split at htr
        · rename_i g hg
          injection htr with htr; subst htr
          obtain ⟨cv, a1, a2⟩ := fldv_sound hu hf hg (trO_rel ht hy) hv
          exact ⟨cv, run_v a1, a2⟩
        · cases htr
      · cases htr
    · cases htr
  | indexAddr t x i =>
    simp only [trOp] at htr
    split at htr
    · rename_i e x' i' hu hx hi
      simp only [Option.map_eq_some_iff] at htr
      obtain ⟨n, hn, rfl⟩ := htr
      obtain ⟨cv, a1, a2⟩ := idx_sound hu hn (trO_rel ht hx) (trO_rel ht hi) hv
      exact ⟨cv, run_v a1, a2⟩
    · rename_i l e x' i' hu hx hi
      simp only [Option.map_eq_some_iff] at htr
      obtain ⟨n, hn, rfl⟩ := htr
      obtain ⟨cv, a1, a2⟩ := idxA_sound hu hn (trO_rel ht hx) (trO_rel ht hi) hv
      exact ⟨cv, run_v a1, a2⟩
    · cases htr
  | index t x i =>
    simp only [trOp] at htr
    split at htr
    · rename_i x' i' hu hx hi
      injection htr with htr; subst htr
      obtain ⟨cv, a1, a2⟩ := idxStr_sound (P := P) hu (trO_rel ht hx) (trO_rel ht hi) hv
      exact ⟨cv, run_v a1, a2⟩
    · cases htr
  | lookup t m k ok =>
    simp only [trOp] at htr
    split at htr
    · rename_i kT e hu
      split at htr
      · rename_i kt z m' k' h1 h2 h3 h4
        injection htr with htr; subst htr
        obtain ⟨cv, a1, a2⟩ := look_sound hs hu h1 h2 (trO_rel ht h3) (trO_rel ht h4) hv
        exact ⟨cv, run_v a1, a2⟩
      · cases htr
    · cases htr
  | extract x i =>
    simp only [trOp, Option.map_eq_some_iff] at htr
    obtain ⟨y, hy, rfl⟩ := htr
    obtain ⟨cv, a1, a2⟩ := ext_sound (P := P) (trO_rel ht hy) hv
    exact ⟨cv, run_v a1, a2⟩
  | call c =>
    simp only [trOp, trCall] at htr
    split at htr
    · rename_i hcal
      split at htr
      · rename_i x t hx ht'
        split at htr
        · rename_i e y hu hy
          injection htr with htr; subst htr
          obtain ⟨cv, a1, a2⟩ := len_sound (ty := type) hu (trO_rel ht hy) hv
          refine ⟨cv, ?_, a2⟩
          simp [execOp, resolve, hcal, invoke, builtin, args1 hx, types1 ht', a1]
        · rename_i y hu hy
          injection htr with htr; subst htr
          have r := trO_rel ht hy
          simp only [apure] at hv
          generalize y.ev tm = vy at r hv
          generalize hcx : a.eval x = cx at r
          cases r <;> first | (cases hv; done) | skip
          rename_i s
          injection hv with hv; subst hv
          refine ⟨_, ?_, .int _ _⟩
          simp [execOp, resolve, hcal, invoke, builtin, args1 hx, types1 ht', hcx, Builtin.len_, run_underlying hu, goInt]
        · cases htr
      · cases htr
    · rename_i hcal
      split at htr
      · rename_i x y hx
        split at htr
        · rename_i x' y' h1 h2
          injection htr with htr; subst htr
          have r1 := trO_rel ht h1
          have r2 := trO_rel ht h2
          simp only [apure] at hv
          generalize x'.ev tm = vx at r1 hv
          generalize y'.ev tm = vy at r2 hv
          generalize hcx : a.eval x = cx at r1
          generalize hcy : a.eval y = cy at r2
          cases r1 <;> cases r2 <;> first | (cases hv; done) | skip
          injection hv with hv; subst hv
          refine ⟨_, ?_, .int _ _⟩
          simp [execOp, resolve, hcal, invoke, builtin, args2 hx, hcx, hcy, Builtin.min_, Builtin.min2]
        · cases htr
      · cases htr
    · rename_i hcal
      split at htr
      · rename_i x y hx
        split at htr
        · rename_i x' y' h1 h2
          injection htr with htr; subst htr
          have r1 := trO_rel ht h1
          have r2 := trO_rel ht h2
          simp only [apure] at hv
          generalize x'.ev tm = vx at r1 hv
          generalize y'.ev tm = vy at r2 hv
          generalize hcx : a.eval x = cx at r1
          generalize hcy : a.eval y = cy at r2
          cases r1 <;> cases r2 <;> first | (cases hv; done) | skip
          injection hv with hv; subst hv
          refine ⟨_, ?_, .int _ _⟩
          simp [execOp, resolve, hcal, invoke, builtin, args2 hx, hcx, hcy, Builtin.max_, Builtin.max2]
        · cases htr
      · cases htr
    · split at htr
      · split at htr
        · split at htr
          · split at htr
            · injection htr with htr; subst htr; cases hv
            · cases htr
          · cases htr
        · cases htr
      · cases htr
    · split at htr
      · split at htr
        · injection htr with htr
          split at htr
          · exact absurd htr.symm (hnq _ _)
          · subst htr; cases hv
        · cases htr
      · cases htr
    · cases htr
  | alloc e => simp only [trOp, Option.map_eq_some_iff] at htr; obtain ⟨_, _, rfl⟩ := htr; cases hv
  | box e x =>
    simp only [trOp] at htr
    split at htr
    · injection htr with htr; subst htr; cases hv
    · cases htr
  | buildSlice t l ps =>
    simp only [trOp] at htr
    split at htr
    · split at htr
      · split at htr
        · injection htr with htr; subst htr; cases hv
        · cases htr
      · cases htr
    · cases htr
  | store t x y =>
    simp only [trOp] at htr
    split at htr
    · injection htr with htr; subst htr; cases hv
    · cases htr
  | makeSlice t l c =>
    simp only [trOp] at htr
    split at htr
    · split at htr
      · split at htr
        · injection htr with htr; subst htr; cases hv
        · cases htr
      · cases htr
    · cases htr
  | makeMap t r =>
    cases r with
    | none => injection htr with htr; subst htr; cases hv
    | some x => cases htr
  | mapUpdate t m k x =>
    simp only [trOp] at htr
    split at htr
    · split at htr
      · injection htr with htr; subst htr; cases hv
      · cases htr
    · cases htr
  | mapEntry t m k =>
    simp only [trOp] at htr
    split at htr
    · split at htr
      · injection htr with htr; subst htr; cases hv
      · cases htr
    · cases htr
  | entryStore t m s x =>
    simp only [trOp] at htr
    split at htr
    · injection htr with htr; subst htr; cases hv
    · cases htr
  | _ => cases htr

end
end Go.Abs
