/- Deep changes of view: what is given to a call, or never written again, becomes a value that never changes, with all that it reaches. -/
import Derived.Test.YtjhdfbplkoaobaaAbsEval
set_option linter.unusedVariables false
set_option linter.unusedSimpArgs false
namespace Go.Abs

inductive Frz (h h' : Heap) : V → V → Prop
  | refl (v : V) : Frz h h' v v
  | nils (esz : Nat) : Frz h h' .nils (.ps esz [])
  | sl {e : TypeId} {esz b off n : Nat} {cap : Option Nat} {xs ys : List V} : h b = some (.cells e esz xs) → h' b = none → off * esz + n * esz ≤ xs.length → ys.length = n * esz →
      (∀ (j : Nat) (x y : V), xs[off * esz + j]? = some x → ys[j]? = some y → Frz h h' x y) → (∀ y ∈ ys, y.isCell = true) → Frz h h' (.sl esz b off n cap) (.ps esz (elems esz n ys))
  | ptr {e : TypeId} {esz b off : Nat} {xs ys : List V} : h b = some (.cells e esz xs) → h' b = none → off + ys.length ≤ xs.length →
      (∀ (j : Nat) (x y : V), xs[off + j]? = some x → ys[j]? = some y → Frz h h' x y) → Frz h h' (.ptr b off) (.pp ys)
  | agg {xs ys : List V} : xs.length = ys.length → (∀ (j : Nat) (x y : V), xs[j]? = some x → ys[j]? = some y → Frz h h' x y) → Frz h h' (.agg xs) (.agg ys)
  | tuple {xs ys : List V} : xs.length = ys.length → (∀ (j : Nat) (x y : V), xs[j]? = some x → ys[j]? = some y → Frz h h' x y) → Frz h h' (.tuple xs) (.tuple ys)

theorem frz_rel {ρ : Ren} {h h' : Heap} {w : World} (hs : St ρ h w) (hsub : Sub h' h) {v v' : V} (hf : Frz h h' v v') : ∀ {cv : Value}, VRel ρ (Own ρ h) w v cv → VRel ρ (Own ρ h') w v' cv := by
  have hfr := (hs.sub hsub).2
  have hne : ∀ c, h' c ≠ none → h c ≠ none := by
    intro c hc
    cases e : h' c with
    | none => exact absurd e hc
    | some x => rw [hsub c x e]; simp
  have hnown : ∀ {b : Nat} {x : Blk} {cb K : Nat}, h b = some x → h' b = none → ρ b = some (cb, K) → ¬ Own ρ h' cb := by
    rintro b x cb K hb hb' hr ⟨c, K', hc, hr'⟩
    have : c = b := hs.inj c b _ _ _ (hne c hc) (by rw [hb]; simp) hr' hr
    subst this
    exact hc hb'
  induction hf with
  | refl v => intro cv hv; exact hv.fr hfr
  | nils esz =>
    intro cv hv
    cases hv
    exact .ps esz [] none 0 (fun _ => undef) (by simp) (by simp [maxLen]) (by simp) (by simp) (by simp)
  | agg hl _ ih =>
    intro cv hv
    cases hv with
    | agg xs cs hl2 hv =>
      refine .agg _ _ (hl.symm.trans hl2) fun j y u hy hu => ?_
      have hj := (List.getElem?_eq_some_iff.1 hy).1
      rw [← hl] at hj
      exact ih j _ y (List.getElem?_eq_getElem hj) hy (hv j _ u (List.getElem?_eq_getElem hj) hu)
  | tuple hl _ ih =>
    intro cv hv
    cases hv with
    | tuple xs cs hl2 hv =>
      refine .tuple _ _ (hl.symm.trans hl2) fun j y u hy hu => ?_
      have hj := (List.getElem?_eq_some_iff.1 hy).1
      rw [← hl] at hj
      exact ih j _ y (List.getElem?_eq_getElem hj) hy (hv j _ u (List.getElem?_eq_getElem hj) hu)
  | @ptr e esz b off xs ys hb hb' hle _ ih =>
    intro cv hv
    cases hv with
    | ptr _ _ cb K hr =>
      obtain ⟨cb2, K2, hr2, cur, g1, g2, g3, g4, g5⟩ := hs.blk b _ hb
      rw [hr] at hr2; injection hr2 with hr2; injection hr2 with e1 e2; subst e1; subst e2
      refine .pp ys ⟨cb, off, none⟩ (fun j => cur.getD (off + j) undef) (hnown hb hb' hr) (hs.lt _ _ _ hr) (fun j u hj => ?_) (fun j u hj => ?_)
      · have hjl := (List.getElem?_eq_some_iff.1 hj).1
        obtain ⟨_, cv', a2, _⟩ := g5 (off + j) _ (List.getElem?_eq_getElem (by omega))
        rw [cell_at g1]
        simp [a2]
      · have hjl := (List.getElem?_eq_some_iff.1 hj).1
        have hx := List.getElem?_eq_getElem (show off + j < xs.length by omega)
        obtain ⟨_, cv', a2, a3⟩ := g5 (off + j) _ hx
        simp [a2]
        exact ih j _ u hx hj a3
  | @sl e esz b off n cap xs ys hb hb' hle hyl _ hcell ih =>
    intro cv hv
    obtain ⟨cb, K, hr, cur, g1, g2, g3, g4, g5⟩ := hs.blk b _ hb
    have hys : n * esz ≤ ys.length := by omega
    have main : ∀ (A : Nat), n ≤ A → A ≤ maxLen → VRel ρ (Own ρ h') w (.ps esz (elems esz n ys)) (.slice (some ⟨cb, off * esz, none⟩) n A) := by
      intro A hA hA2
      have hl := elems_length hys
      have key := VRel.ps (ρ := ρ) (O := Own ρ h') (w := w) esz (elems esz n ys) (some ⟨cb, off * esz, none⟩) A (fun j => cur.getD (off * esz + j) undef) (by rw [hl]; exact hA) hA2
        (fun x hx => by
          obtain ⟨i, hi⟩ := List.getElem?_of_mem hx
          obtain ⟨h1, h2⟩ := elems_cells hys hcell hi
          rw [h2]
          have : i * esz + esz ≤ n * esz := by rw [← Nat.succ_mul]; exact Nat.mul_le_mul_right _ h1
          simp; omega)
        (fun _ => ⟨_, rfl, hnown hb hb' hr, hs.lt _ _ _ hr, fun i x hx j u hj => by
          obtain ⟨h1, h2⟩ := elems_cells hys hcell hx
          rw [h2, List.getElem?_take] at hj
          split at hj
          · rename_i hjl
            rw [List.getElem?_drop] at hj
            have hjy := (List.getElem?_eq_some_iff.1 hj).1
            obtain ⟨_, cv', a2, _⟩ := g5 (off * esz + (i * esz + j)) _ (List.getElem?_eq_getElem (by omega))
            rw [cell_at g1]
            simp [a2]
          · cases hj⟩)
        (fun i x hx j u hj => by
          obtain ⟨h1, h2⟩ := elems_cells hys hcell hx
          rw [h2, List.getElem?_take] at hj
          split at hj
          · rw [List.getElem?_drop] at hj
            have hjy := (List.getElem?_eq_some_iff.1 hj).1
            have hxx := List.getElem?_eq_getElem (show off * esz + (i * esz + j) < xs.length by omega)
            obtain ⟨_, cv', a2, a3⟩ := g5 (off * esz + (i * esz + j)) _ hxx
            simp [a2]
            exact ih (i * esz + j) _ u hxx hj a3
          · cases hj)
      rw [hl] at key
      exact key
    cases hv with
    | sl _ _ _ _ cb' K' hr' hk =>
      rw [hr] at hr'; injection hr' with hr'; injection hr' with e1 e2; subst e1; subst e2
      exact main _ (by omega) (by omega)
    | slc _ _ _ _ c cb' K' hr' hn hk =>
      rw [hr] at hr'; injection hr' with hr'; injection hr' with e1 e2; subst e1; subst e2
      exact main _ hn (by omega)

/-- What a call is given. -/
theorem AC.give {P : Program} {f : FuncId} {args args' : List V} {h h' : Heap} {Q : V → Heap → Prop} (hsub : Sub h' h) (hl : args.length = args'.length) (hf : ∀ (j : Nat) (x y : V), args[j]? = some x → args'[j]? = some y → Frz h h' x y)
    (ha : AC P f args' h' Q) : AC P f args h Q := by
  intro ρ w cargs hs hargs
  obtain ⟨s1, s2⟩ := hs.sub hsub
  refine (ha ρ w cargs s1 ⟨hl.symm.trans hargs.1, fun j y u hy hu => ?_⟩).mono ?_
  · have hj : j < args.length := by rw [hl]; exact (List.getElem?_eq_some_iff.1 hy).1
    have hx := List.getElem?_eq_getElem hj
    exact frz_rel hs hsub (hf j _ y hx hy) (hargs.2 j _ u hx hu)
  · rintro e w' ⟨v, cv, h1, ρ', rfl, hq, t1, t2, t3⟩
    exact ⟨v, cv, h1, ρ', rfl, hq, t1, t2, s2.trans t3⟩

/-- Temporaries seen otherwise. -/
theorem Shift.frz {tm tm' : Nat → V} {h h' : Heap} (hsub : Sub h' h) (hf : ∀ t, Frz h h' (tm t) (tm' t)) : Shift tm h tm' h' := by
  intro ρ w a hs ht
  obtain ⟨s1, s2⟩ := hs.sub hsub
  exact ⟨s1, fun t => frz_rel hs hsub (hf t) (ht t), s2⟩

/-- One temporary seen otherwise. -/
theorem Shift.frz1 {tm : Nat → V} {h h' : Heap} (t : Nat) (v : V) (hsub : Sub h' h) (hf : Frz h h' (tm t) v) : Shift tm h (put tm t v) h' := by
  refine Shift.frz hsub fun u => ?_
  unfold put
  split
  · rename_i e; subst e; exact hf
  · exact .refl _

theorem View.frz {v v' : V} {h h' : Heap} (hsub : Sub h' h) (hf : Frz h h' v v') : View v h v' h' := by
  intro ρ w cv hs hv
  obtain ⟨s1, s2⟩ := hs.sub hsub
  exact ⟨s1, frz_rel hs hsub hf hv, s2⟩

theorem era_sub (h : Heap) (b : Nat) : Sub (era h b) h := by
  intro c x hx
  by_cases e : c = b
  · subst e; rw [era_eq] at hx; cases hx
  · rwa [era_ne _ _ _ e] at hx

/-- A slice of numbers, or of other cells that hold nothing of the heap. -/
theorem Frz.sl1 {h h' : Heap} {e : TypeId} {b n : Nat} {cap : Option Nat} {xs : List V} (hb : h b = some (.cells e 1 xs)) (hb' : h' b = none) (hn : n = xs.length) (hc : ∀ x ∈ xs, x.isCell = true) : Frz h h' (.sl 1 b 0 n cap) (.ps 1 xs) := by
  subst hn
  have := Frz.sl (h' := h') (esz := 1) (off := 0) (n := xs.length) (cap := cap) (ys := xs) hb hb' (by omega) (by omega) (fun j x y hx hy => by
    simp only [Nat.zero_mul, Nat.zero_add] at hx
    rw [hx] at hy; injection hy with hy; subst hy; exact .refl _) hc
  simpa [elems] using this

/-- Element by element. -/
inductive FrzL (h h' : Heap) : List V → List V → Prop
  | nil : FrzL h h' [] []
  | cons {x y : V} {xs ys : List V} : Frz h h' x y → FrzL h h' xs ys → FrzL h h' (x :: xs) (y :: ys)

theorem FrzL.length {h h' : Heap} {xs ys : List V} (f : FrzL h h' xs ys) : xs.length = ys.length := by
  induction f with
  | nil => rfl
  | cons _ _ ih => simp [ih]
theorem FrzL.get {h h' : Heap} {xs ys : List V} (f : FrzL h h' xs ys) : ∀ (j : Nat) (x y : V), xs[j]? = some x → ys[j]? = some y → Frz h h' x y := by
  induction f with
  | nil => intro j x y hx; simp at hx
  | cons h1 _ ih =>
    intro j x y hx hy
    cases j with
    | zero => simp at hx hy; subst hx; subst hy; exact h1
    | succ j => exact ih j x y (by simpa using hx) (by simpa using hy)
theorem FrzL.keep {h h' : Heap} {v : V} {xs ys : List V} (f : FrzL h h' xs ys) : FrzL h h' (v :: xs) (v :: ys) := .cons (.refl v) f
theorem FrzL.nils {h h' : Heap} {esz : Nat} {xs ys : List V} (f : FrzL h h' xs ys) : FrzL h h' (.nils :: xs) (.ps esz [] :: ys) := .cons (.nils esz) f

/-- A whole block. -/
theorem Frz.whole {h h' : Heap} {e : TypeId} {esz b n : Nat} {cap : Option Nat} {xs ys : List V} (hb : h b = some (.cells e esz xs)) (hb' : h' b = none) (f : FrzL h h' xs ys) (hn : ys.length = n * esz) (hc : ys.all V.isCell = true) : Frz h h' (.sl esz b 0 n cap) (.ps esz (elems esz n ys)) :=
  .sl hb hb' (by rw [f.length]; omega) hn (fun j x y hx hy => f.get j x y (by simpa using hx) hy) (fun y hy => List.all_eq_true.1 hc y hy)

end Go.Abs
