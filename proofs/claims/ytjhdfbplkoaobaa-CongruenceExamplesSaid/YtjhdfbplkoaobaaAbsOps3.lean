/- Arithmetic, comparisons, conversions, maps' lookups, tuples, lengths. -/
import Derived.Test.YtjhdfbplkoaobaaAbsOps2
set_option linter.unusedVariables false
set_option linter.unusedSimpArgs false
namespace Go.Abs

section
variable {P : Program} {ρ : Ren} {O : Nat → Prop} {w : World} {tm : Nat → V} {a : Act}

theorem eqGuard_int (op : BinOp) (t : TypeId) (x y : Operand) (k k' : IntKind) (m n : Int) : (eqGuard op t x y (.int k m) (.int k' n)).run P w = .ok () w := by cases op <;> rfl
theorem eqGuard_bool (op : BinOp) (t : TypeId) (x y : Operand) (m n : Bool) : (eqGuard op t x y (.bool m) (.bool n)).run P w = .ok () w := by cases op <;> rfl
theorem eqGuard_str (op : BinOp) (t : TypeId) (x y : Operand) (m n : ByteArray) : (eqGuard op t x y (.string m) (.string n)).run P w = .ok () w := by cases op <;> rfl
theorem eqGuard_ptr (op : BinOp) (t : TypeId) (x y : Operand) (m n : Option Addr) : (eqGuard op t x y (.pointer m) (.pointer n)).run P w = .ok () w := by cases op <;> rfl

theorem run_equalIn_ptr (d : Nat) (t e : TypeId) (m n : Option Addr) (h : P.underlying t = some (.pointer e)) (hn : m = none ∨ n = none) :
    (Op.equalIn (d + 1) t (.pointer m) (.pointer n)).run P w = .ok (m.isNone && n.isNone) w := by
  rcases hn with rfl | rfl
  · cases n <;> simp [Op.equalIn, run_underlying h]
  · cases m <;> simp [Op.equalIn, run_underlying h]

theorem run_equal_ptr (t e : TypeId) (m n : Option Addr) (h : P.underlying t = some (.pointer e)) (hn : m = none ∨ n = none) :
    (Op.equal t (.pointer m) (.pointer n)).run P w = .ok (m.isNone && n.isNone) w := run_equalIn_ptr 9999 t e m n h hn

theorem run_eqBin_ptr {op : BinOp} (t e : TypeId) (m n : Option Addr) (h : P.underlying t = some (.pointer e)) (hn : m = none ∨ n = none) {v : V} (hv : eqBin op (m.isNone && n.isNone) = some v) :
    ∃ cv, (binOp op t (.pointer m) (.pointer n)).run P w = .ok cv w ∧ VRel ρ O w v cv := by
  have he := run_equal_ptr (w := w) t e m n h hn
  cases op <;> simp only [eqBin] at hv <;> first
    | (cases hv; done)
    | (injection hv with hv; subst hv
       refine ⟨_, ?_, .bool _⟩
       simp only [binOp]
       simp [he])

theorem intBin_sound {op : BinOp} {k : IntKind} {m n : Int} (hs : isShift op = false) (t : TypeId) {v : V} (hv : intBin op k m n = some v) :
    ∃ cv, (binOp op t (.int k m) (.int k n)).run P w = .ok cv w ∧ VRel ρ O w v cv := by
  cases op <;> simp only [intBin] at hv <;> first
    | (cases hs; done)
    | (injection hv with hv; subst hv; refine ⟨_, ?_, by constructor⟩; simp [binOp, Op.intArith, Op.intCmp, Op.intBits]; done)
    | (split at hv
       · cases hv
       · rename_i h0
         injection hv with hv; subst hv
         refine ⟨_, ?_, .int _ _⟩
         simp [binOp, Op.intDiv, h0])

theorem shiftBin_sound {op : BinOp} {k k' : IntKind} {m n : Int} (t : TypeId) {v : V} (hv : shiftBin op k m n = some v) :
    ∃ cv, (binOp op t (.int k m) (.int k' n)).run P w = .ok cv w ∧ VRel ρ O w v cv := by
  unfold shiftBin at hv
  split at hv
  · cases hv
  · rename_i h0
    cases op <;> simp only at hv <;> first
      | (cases hv; done)
      | (injection hv with hv; subst hv
         refine ⟨_, ?_, .int _ _⟩
         simp only [binOp, Op.shift, if_neg h0]
         rfl)

theorem strBin_sound {op : BinOp} {m n : ByteArray} (t : TypeId) {v : V} (hv : strBin op m n = some v) :
    ∃ cv, (binOp op t (.string m) (.string n)).run P w = .ok cv w ∧ VRel ρ O w v cv := by
  cases op <;> simp only [strBin] at hv <;> first
    | (cases hv; done)
    | (injection hv with hv; subst hv; refine ⟨_, ?_, by constructor⟩; simp [binOp, Op.stringOp]; done)
    | (split at hv
       · rename_i h0
         injection hv with hv; subst hv
         refine ⟨_, ?_, .str _⟩
         have h1 : ¬ ((9223372036854775807 : Int) < (m.size : Int) + (n.size : Int)) := by omega
         simp [binOp, Op.stringOp, IntKind.max, IntKind.signed, IntKind.bits, h1]
       · cases hv)

theorem abin_sound {op : BinOp} {t : TypeId} {tk : TK} (htk : tkOf P t = some tk) (ox oy : Operand) {x y : V} {cx cy : Value} (hx : VRel ρ O w x cx) (hy : VRel ρ O w y cy) {v : V} (hv : abin op tk x y = some v) :
    ∃ cv, (do eqGuard op t ox oy cx cy; binOp op t cx cy : Sem Value).run P w = .ok cv w ∧ VRel ρ O w v cv := by
  have hb : tk = .bool → P.underlying t = some .bool := by
    rintro rfl
    unfold tkOf at htk
    split at htk <;> first | assumption | (injection htk with htk; cases htk) | cases htk
  have hp : tk = .ptr → ∃ e, P.underlying t = some (.pointer e) := by
    rintro rfl
    unfold tkOf at htk
    split at htk <;> first | exact ⟨_, ‹_›⟩ | (injection htk with htk; cases htk) | cases htk
  cases tk with
  | num =>
    cases hx <;> cases hy <;> simp only [abin] at hv <;> first
      | (cases hv; done)
      | skip
    · rename_i k m k' n
      simp only [Sem.run_bind, eqGuard_int, Result.andThen_ok]
      split at hv
      · exact shiftBin_sound t hv
      · rename_i hs
        split at hv
        · rename_i hk; subst hk
          exact intBin_sound (by simpa using hs) t hv
        · cases hv
    · simp only [Sem.run_bind, eqGuard_str, Result.andThen_ok]
      exact strBin_sound t hv
  | bool =>
    cases hx <;> cases hy <;> simp only [abin] at hv <;> first
      | (cases hv; done)
      | skip
    rename_i m n
    simp only [Sem.run_bind, eqGuard_bool, Result.andThen_ok]
    cases op <;> simp only [eqBin] at hv <;> first
      | (cases hv; done)
      | (injection hv with hv; subst hv
         refine ⟨_, ?_, .bool _⟩
         first
           | exact run_eql_bool w t m n (hb rfl)
           | exact run_neq_bool w t m n (hb rfl))
  | ptr =>
    obtain ⟨e, he⟩ := hp rfl
    cases hx <;> cases hy <;> simp only [abin] at hv <;> first
      | (cases hv; done)
      | (simp only [Sem.run_bind, eqGuard_ptr, Result.andThen_ok]
         exact run_eqBin_ptr t e _ _ he (by simp) hv)

theorem aun_sound {op : UnOp} {x : V} {cx : Value} (hx : VRel ρ O w x cx) {v : V} (hv : aun op x = some v) : ∃ cv, (Op.unary op cx).run P w = .ok cv w ∧ VRel ρ O w v cv := by
  cases hx <;> cases op <;> simp only [aun] at hv <;> first
    | (cases hv; done)
    | (injection hv with hv; subst hv; refine ⟨_, ?_, by constructor⟩; simp [Op.unary, Op.intArith, Op.intBits]; done)

/-- The cells of a slice, as the model loads them. -/
theorem cells_sound {h : Heap} (hs : St ρ h w) {esz : Nat} {x : V} {cx : Value} (hx : VRel ρ (Own ρ h) w x cx) {cs : List V} {n : Nat} (hc : cellsOf h esz x = some (cs, n)) :
    ∃ A c, cx = .slice A n c ∧ n ≤ c ∧ c ≤ maxLen ∧ cs.length = n * esz ∧ ∃ vs : List Value, vs.length = n * esz ∧ (n * esz ≠ 0 → ∃ ad, A = some ad ∧ ∀ (j : Nat) (u : Value), vs[j]? = some u → w.cell? (ad.add j) = some u) ∧
      ∀ (j : Nat) (y : V) (u : Value), cs[j]? = some y → vs[j]? = some u → VRel ρ (Own ρ h) w y u := by
  cases hx with
  | nils =>
    injection hc with hc; injection hc with e1 e2; subst e1; subst e2
    exact ⟨none, 0, rfl, Nat.le_refl _, by simp, by simp, [], by simp, by simp, by simp⟩
  | ps esz' xs A c cvs hcap hm hsz ha hv =>
    simp only [cellsOf] at hc
    split at hc
    · rename_i e; subst e
      injection hc with hc; injection hc with e1 e2; subst e1; subst e2
      -- the j-th cell of the whole
      have key : ∀ (ys : List V) (k : Nat), (∀ y ∈ ys, y.cells.length = esz') → (∀ i y, ys[i]? = some y → xs[k + i]? = some y) →
          (ys.flatMap V.cells).length = ys.length * esz' ∧ ∀ (j : Nat) (y : V), (ys.flatMap V.cells)[j]? = some y → ∃ i x r, xs[i]? = some x ∧ x.cells[r]? = some y ∧ i * esz' + r = k * esz' + j := by
        intro ys
        induction ys with
        | nil => intro k _ _; exact ⟨by simp, fun j y hj => by simp at hj⟩
        | cons y ys ih =>
          intro k hl hg
          obtain ⟨h1, h2⟩ := ih (k + 1) (fun z hz => hl z (List.mem_cons_of_mem _ hz)) (fun i z hz => by
            have := hg (i + 1) z (by simpa using hz)
            rwa [show k + (i + 1) = k + 1 + i from by omega] at this)
          have hy := hl y List.mem_cons_self
          refine ⟨by simp only [List.flatMap_cons, List.length_append, hy, h1, List.length_cons, Nat.add_mul]; omega, fun j z hj => ?_⟩
          rw [List.flatMap_cons] at hj
          rcases Nat.lt_or_ge j esz' with hlt | hge
          · rw [List.getElem?_append_left (by omega)] at hj
            exact ⟨k, y, j, by simpa using hg 0 y rfl, hj, rfl⟩
          · rw [List.getElem?_append_right (by omega), hy] at hj
            obtain ⟨i, x, r, a1, a2, a3⟩ := h2 _ _ hj
            exact ⟨i, x, r, a1, a2, by rw [a3, Nat.add_mul]; omega⟩
      obtain ⟨k1, k2⟩ := key xs 0 hsz (fun i y hy => by simpa using hy)
      refine ⟨A, c, rfl, hcap, hm, k1, (List.range (xs.length * esz')).map cvs, by simp, fun hne => ?_, fun j y u hy hu => ?_⟩
      · obtain ⟨ad, rfl, _, _, hcell⟩ := ha (by rintro rfl; simp at hne)
        refine ⟨ad, rfl, fun j u hu => ?_⟩
        have hj : j < xs.length * esz' := by
          have := (List.getElem?_eq_some_iff.1 hu).1; simpa using this
        have hj' : j < (xs.flatMap V.cells).length := by omega
        obtain ⟨i, x, r, a1, a2, a3⟩ := k2 j _ (List.getElem?_eq_getElem hj')
        have := hcell i x a1 r _ a2
        rw [a3] at this
        simp only [Nat.zero_mul, Nat.zero_add] at this
        rw [this]
        simpa [List.getElem?_map, List.getElem?_range hj] using hu
      · obtain ⟨i, x, r, a1, a2, a3⟩ := k2 j y hy
        have := hv i x a1 r y a2
        rw [a3] at this
        simp only [Nat.zero_mul, Nat.zero_add] at this
        have hj : j < xs.length * esz' := by
          have := (List.getElem?_eq_some_iff.1 hu).1; simpa using this
        simp [List.getElem?_map, List.getElem?_range hj] at hu
        subst hu
        exact this
    · cases hc
  | sl esz' b off len cb K hr hk =>
    simp only [cellsOf] at hc
    split at hc
    · rename_i e; subst e
      split at hc
      · rename_i ty e' xs hb
        split at hc
        · rename_i hle
          obtain ⟨rfl, hle⟩ := hle
          injection hc with hc; injection hc with e1 e2; subst e1; subst e2
          obtain ⟨cb', K', hr', cur, g1, g2, g3, g4, g5⟩ := hs.blk b _ hb
          rw [hr] at hr'; injection hr' with hr'; injection hr' with e1 e2; subst e1; subst e2
          have hlen : (List.take (len * e') (List.drop (off * e') xs)).length = len * e' := by simp; omega
          refine ⟨_, _, rfl, by omega, by omega, hlen, (List.range (len * e')).map (fun j => cur.getD (off * e' + j) undef), by simp, fun hne => ⟨_, rfl, fun j u hu => ?_⟩, fun j y u hy hu => ?_⟩
          · have hj : j < len * e' := by
              have := (List.getElem?_eq_some_iff.1 hu).1; simpa using this
            rw [cell_at g1]
            simp [List.getElem?_map, List.getElem?_range hj] at hu
            have hlt : off * e' + j < cur.size := by omega
            simp [Array.getElem?_eq_getElem hlt] at hu ⊢
            exact hu
          · have hj : j < len * e' := by
              have := (List.getElem?_eq_some_iff.1 hu).1; simpa using this
            rw [List.getElem?_take, if_pos hj, List.getElem?_drop] at hy
            obtain ⟨_, cv, hcv, hrel⟩ := g5 _ _ hy
            simp [List.getElem?_map, List.getElem?_range hj, hcv] at hu
            subst hu
            exact hrel
        · cases hc
      · cases hc
    · cases hc
  | slc esz' b off len c cb K hr hn' hk =>
    simp only [cellsOf] at hc
    split at hc
    · rename_i e; subst e
      split at hc
      · rename_i ty e' xs hb
        split at hc
        · rename_i hle
          obtain ⟨rfl, hle⟩ := hle
          injection hc with hc; injection hc with e1 e2; subst e1; subst e2
          obtain ⟨cb', K', hr', cur, g1, g2, g3, g4, g5⟩ := hs.blk b _ hb
          rw [hr] at hr'; injection hr' with hr'; injection hr' with e1 e2; subst e1; subst e2
          have hlen : (List.take (len * e') (List.drop (off * e') xs)).length = len * e' := by simp; omega
          refine ⟨_, _, rfl, by omega, by omega, hlen, (List.range (len * e')).map (fun j => cur.getD (off * e' + j) undef), by simp, fun hne => ⟨_, rfl, fun j u hu => ?_⟩, fun j y u hy hu => ?_⟩
          · have hj : j < len * e' := by
              have := (List.getElem?_eq_some_iff.1 hu).1; simpa using this
            rw [cell_at g1]
            simp [List.getElem?_map, List.getElem?_range hj] at hu
            have hlt : off * e' + j < cur.size := by omega
            simp [Array.getElem?_eq_getElem hlt] at hu ⊢
            exact hu
          · have hj : j < len * e' := by
              have := (List.getElem?_eq_some_iff.1 hu).1; simpa using this
            rw [List.getElem?_take, if_pos hj, List.getElem?_drop] at hy
            obtain ⟨_, cv, hcv, hrel⟩ := g5 _ _ hy
            simp [List.getElem?_map, List.getElem?_range hj, hcv] at hu
            subst hu
            exact hrel
        · cases hc
      · cases hc
    · cases hc
  | _ => cases hc

end
end Go.Abs
