/- Changes of view: a slice of a block of one's own becomes a slice that never changes again; a slice is lent to a call that only reads. -/
import Derived.Test.YtjhdfbplkoaobaaAbsSound
set_option linter.unusedVariables false
set_option linter.unusedSimpArgs false
namespace Go.Abs

/-- The elements that cells make. -/
def elems (esz n : Nat) (ys : List V) : List V := if esz = 1 then ys.take n else (List.range n).map fun i => .agg ((ys.drop (i * esz)).take esz)

theorem isCell_cells {v : V} (h : v.isCell = true) : v.cells = [v] := by cases v <;> first | rfl | cases h

theorem elems_length {esz n : Nat} {ys : List V} (h : n * esz ≤ ys.length) : (elems esz n ys).length = n := by
  unfold elems
  split
  · rename_i e; subst e; simp; omega
  · simp

/-- The cells of the i-th element. -/
theorem elems_cells {esz n : Nat} {ys : List V} (h : n * esz ≤ ys.length) (hc : ∀ y ∈ ys, y.isCell = true) {i : Nat} {x : V} (hx : (elems esz n ys)[i]? = some x) : i < n ∧ x.cells = (ys.drop (i * esz)).take esz := by
  unfold elems at hx
  split at hx
  · rename_i e; subst e
    rw [List.getElem?_take] at hx
    split at hx
    · rename_i hi
      refine ⟨hi, ?_⟩
      rw [isCell_cells (hc x (List.mem_of_getElem? hx)), Nat.mul_one]
      have hlt : i < ys.length := (List.getElem?_eq_some_iff.1 hx).1
      rw [List.drop_eq_getElem_cons hlt]
      rw [List.getElem?_eq_getElem hlt] at hx
      injection hx with hx
      simp [hx]
    · cases hx
  · rw [List.getElem?_map] at hx
    cases hr : (List.range n)[i]? with
    | none => rw [hr] at hx; cases hx
    | some k =>
      rw [hr] at hx
      have hi : i < n := by
        have := (List.getElem?_eq_some_iff.1 hr).1; simpa using this
      have hk : k = i := by
        rw [List.getElem?_range hi] at hr; injection hr with hr; exact hr.symm
      subst hk
      simp at hx
      subst hx
      exact ⟨hi, rfl⟩

theorem sl_ps {ρ : Ren} {h h' : Heap} {w : World} (hs : St ρ h w) (hsub : Sub h' h) {esz b off n : Nat} {cap : Option Nat} {cv : Value} (hv : VRel ρ (Own ρ h) w (.sl esz b off n cap) cv) {e : TypeId} {xs : List V} (hb : h b = some (.cells e esz xs))
    (hle : off * esz + n * esz ≤ xs.length) (hb' : h' b = none) : VRel ρ (Own ρ h') w (.ps esz (elems esz n (xs.drop (off * esz)))) cv := by
  obtain ⟨cb, K, hr, cur, g1, g2, g3, g4, g5⟩ := hs.blk b _ hb
  have hne : ∀ c, h' c ≠ none → h c ≠ none := by
    intro c hc
    cases e : h' c with
    | none => exact absurd e hc
    | some x => rw [hsub c x e]; simp
  have hnown : ¬ Own ρ h' cb := by
    rintro ⟨c, K', hc, hr'⟩
    have : c = b := hs.inj c b _ _ _ (hne c hc) (by rw [hb]; simp) hr' hr
    subst this
    exact hc hb'
  have hmono : ∀ {x : V} {u : Value}, VRel ρ (Own ρ h) w x u → VRel ρ (Own ρ h') w x u := fun hx => hx.mono (fun _ _ h => h) (Nat.le_refl _) (fun k _ ⟨c, K', hc, hr'⟩ => ⟨c, K', hne c hc, hr'⟩) (fun _ _ _ => rfl)
  have hys : n * esz ≤ (xs.drop (off * esz)).length := by simp; omega
  have hcells : ∀ y ∈ xs.drop (off * esz), y.isCell = true := by
    intro y hy
    obtain ⟨j, hj⟩ := List.getElem?_of_mem (List.mem_of_mem_drop hy)
    exact (g5 j y hj).1
  have hcurlen : off * esz + n * esz ≤ cur.size := by omega
  have main : ∀ (A : Nat), n ≤ A → A ≤ maxLen → VRel ρ (Own ρ h') w (.ps esz (elems esz n (xs.drop (off * esz)))) (.slice (some ⟨cb, off * esz, none⟩) n A) := by
    intro A hA hA2
    have hl := elems_length hys
    have key := VRel.ps (ρ := ρ) (O := Own ρ h') (w := w) esz (elems esz n (xs.drop (off * esz))) (some ⟨cb, off * esz, none⟩) A (fun j => cur.getD (off * esz + j) undef) (by rw [hl]; exact hA) hA2
      (fun x hx => by
        obtain ⟨i, hi⟩ := List.getElem?_of_mem hx
        obtain ⟨h1, h2⟩ := elems_cells hys hcells hi
        rw [h2]
        have : i * esz + esz ≤ n * esz := by rw [← Nat.succ_mul]; exact Nat.mul_le_mul_right _ h1
        simp; omega)
      (fun _ => ⟨_, rfl, hnown, hs.lt _ _ _ hr, fun i x hx j u hj => by
        obtain ⟨h1, h2⟩ := elems_cells hys hcells hx
        rw [h2, List.getElem?_take] at hj
        split at hj
        · rename_i hjl
          rw [List.getElem?_drop, List.getElem?_drop] at hj
          obtain ⟨_, cv', a2, _⟩ := g5 _ _ hj
          rw [cell_at g1]
          simp [a2]
        · cases hj⟩)
      (fun i x hx j u hj => by
        obtain ⟨h1, h2⟩ := elems_cells hys hcells hx
        rw [h2, List.getElem?_take] at hj
        split at hj
        · rw [List.getElem?_drop, List.getElem?_drop] at hj
          obtain ⟨_, cv', a2, a3⟩ := g5 _ _ hj
          simp [a2]
          exact hmono a3
        · cases hj)
    rw [hl] at key
    exact key
  cases hv with
  | sl _ _ _ _ cb' K' hr' hk =>
    rw [hr] at hr'; injection hr' with hr'; injection hr' with e1 e2; subst e1; subst e2
    exact main _ (by omega) (by omega)
  | slc _ _ _ _ c cb' K' hr' hn hk =>
    rw [hr] at hr'; injection hr' with hr'; injection hr' with e1 e2; subst e1; subst e2
    exact main _ hn (by omega)

/-- A temporary's slice never changes again. -/
theorem Shift.tmp {tm : Nat → V} {h : Heap} {t esz b off n : Nat} {cap : Option Nat} {e : TypeId} {xs : List V} (ht : tm t = .sl esz b off n cap) (hb : h b = some (.cells e esz xs)) (hle : off * esz + n * esz ≤ xs.length) :
    Shift tm h (put tm t (.ps esz (elems esz n (xs.drop (off * esz))))) (era h b) := by
  intro ρ w a hs htr
  obtain ⟨s1, s2⟩ := hs.era b
  refine ⟨s1, fun u => ?_, s2⟩
  unfold put
  split
  · rename_i e'; subst e'
    refine sl_ps hs ?_ (by rw [← ht]; exact htr u) hb hle (era_eq _ _)
    intro c x hx
    by_cases e2 : c = b
    · subst e2; rw [era_eq] at hx; cases hx
    · rwa [era_ne _ _ _ e2] at hx
  · exact (htr u).fr s2

theorem Shift.refl (tm : Nat → V) (h : Heap) : Shift tm h tm h := fun ρ w a hs ht => ⟨hs, ht, Fr.refl _ _ _⟩

theorem Shift.trans {tm tm' tm'' : Nat → V} {h h' h'' : Heap} (a : Shift tm h tm' h') (b : Shift tm' h' tm'' h'') : Shift tm h tm'' h'' := by
  intro ρ w ac hs ht
  obtain ⟨a1, a2, a3⟩ := a ρ w ac hs ht
  obtain ⟨b1, b2, b3⟩ := b ρ w ac a1 a2
  exact ⟨b1, b2, a3.trans b3⟩

/-- A slice that lies in a cell of a block never changes again. -/
theorem Shift.cell {tm : Nat → V} {h : Heap} {nb sz j : Nat} {e0 : TypeId} {cs : List V} (hn : h nb = some (.cells e0 sz cs)) {esz b off n : Nat} {cap : Option Nat} (hj : cs[j]? = some (.sl esz b off n cap)) {e : TypeId} {xs : List V}
    (hb : h b = some (.cells e esz xs)) (hle : off * esz + n * esz ≤ xs.length) (hne : b ≠ nb) :
    Shift tm h tm (upd (era h b) nb (.cells e0 sz (cs.set j (.ps esz (elems esz n (xs.drop (off * esz))))))) := by
  intro ρ w a hs htr
  obtain ⟨s1, s2⟩ := hs.era b
  obtain ⟨cb, K, hr, cur, g1, g2, g3, g4, g5⟩ := s1.blk nb (.cells e0 sz cs) (by rw [era_ne _ _ _ (Ne.symm hne)]; exact hn)
  have key := s1.turn (w' := w) (x := .cells e0 sz (cs.set j (.ps esz (elems esz n (xs.drop (off * esz)))))) hr (by rw [era_ne _ _ _ (Ne.symm hne)]; exact hn) rfl rfl rfl rfl (fun _ _ => rfl) (fun f => by
    refine ⟨cur, g1, g2, g3, by simpa using g4, fun i x hx => ?_⟩
    rw [List.getElem?_set] at hx
    split at hx
    · rename_i e1; subst e1
      split at hx
      · injection hx with hx; subst hx
        refine ⟨rfl, ?_⟩
        obtain ⟨cb2, K2, hr2, cur2, k1, k2, k3, k4, k5⟩ := hs.blk nb _ hn
        obtain ⟨_, cv, a2, a3⟩ := k5 _ _ hj
        rw [hr] at hr2; injection hr2 with hr2; injection hr2 with e1 e2; subst e1
        rw [g1] at k1; injection k1 with k1; injection k1 with k1; subst k1
        refine ⟨cv, a2, ?_⟩
        refine (sl_ps hs (h' := era h b) ?_ a3 hb hle (era_eq _ _)).fr f
        intro c x hx
        by_cases e2 : c = b
        · subst e2; rw [era_eq] at hx; cases hx
        · rwa [era_ne _ _ _ e2] at hx
      · cases hx
    · obtain ⟨a1, cv, a2, a3⟩ := g5 _ _ hx
      exact ⟨a1, cv, a2, a3.fr f⟩)
  exact ⟨key.1, (htr.fr s2).fr key.2, s2.trans key.2⟩

/-- Another view of a value and a heap. -/
def View (v : V) (h : Heap) (v' : V) (h' : Heap) : Prop := ∀ (ρ : Ren) (w : World) (cv : Value), St ρ h w → VRel ρ (Own ρ h) w v cv → St ρ h' w ∧ VRel ρ (Own ρ h') w v' cv ∧ Fr ρ h w ρ h' w

theorem View.refl (v : V) (h : Heap) : View v h v h := fun ρ w cv hs hv => ⟨hs, hv, Fr.refl _ _ _⟩
theorem View.trans {v v' v'' : V} {h h' h'' : Heap} (a : View v h v' h') (b : View v' h' v'' h'') : View v h v'' h'' := by
  intro ρ w cv hs hv
  obtain ⟨a1, a2, a3⟩ := a ρ w cv hs hv
  obtain ⟨b1, b2, b3⟩ := b ρ w cv a1 a2
  exact ⟨b1, b2, a3.trans b3⟩
theorem View.sub {v : V} {h h' : Heap} (hsub : Sub h' h) : View v h v h' := by
  intro ρ w cv hs hv
  obtain ⟨s1, s2⟩ := hs.sub hsub
  exact ⟨s1, hv.fr s2, s2⟩
theorem View.ps {h : Heap} {esz b off n : Nat} {cap : Option Nat} {e : TypeId} {xs : List V} (hb : h b = some (.cells e esz xs)) (hle : off * esz + n * esz ≤ xs.length) : View (.sl esz b off n cap) h (.ps esz (elems esz n (xs.drop (off * esz)))) (era h b) := by
  intro ρ w cv hs hv
  obtain ⟨s1, s2⟩ := hs.era b
  refine ⟨s1, sl_ps hs ?_ hv hb hle (era_eq _ _), s2⟩
  intro c x hx
  by_cases e2 : c = b
  · subst e2; rw [era_eq] at hx; cases hx
  · rwa [era_ne _ _ _ e2] at hx

/-- The result of a call, viewed otherwise. -/
theorem AC.view {P : Program} {f : FuncId} {args : List V} {h : Heap} {Q Q' : V → Heap → Prop} (ha : AC P f args h Q) (hv : ∀ v h1, Q v h1 → ∃ v' h', View v h1 v' h' ∧ Q' v' h') : AC P f args h Q' := by
  intro ρ w cargs hs hl
  refine (ha ρ w cargs hs hl).mono ?_
  rintro e w' ⟨v, cv, h1, ρ', rfl, hq, s1, s2, s3⟩
  obtain ⟨v', h', hview, hq'⟩ := hv v h1 hq
  obtain ⟨a1, a2, a3⟩ := hview ρ' w' cv s1 s2
  exact ⟨v', cv, h', ρ', rfl, hq', a1, a2, s3.trans a3⟩

/-- A value that holds no memory. -/
def V.flat : V → Bool
  | .int _ _ | .bool _ | .str _ => true
  | .tuple [.int _ _, .bool _] | .tuple [.int _ _, .int _ _] | .tuple [.str _, .bool _] => true
  | _ => false

theorem flat_rel {v : V} (hf : v.flat = true) {ρ ρ' : Ren} {O O' : Nat → Prop} {w w' : World} {cv : Value} (h : VRel ρ O w v cv) : VRel ρ' O' w' v cv := by
  unfold V.flat at hf
  split at hf
  · cases h; constructor
  · cases h; constructor
  · cases h; constructor
  all_goals first
    | (cases h with
       | tuple xs cs hl hv =>
         refine .tuple _ _ hl (fun j x u hx hu => ?_)
         have := hv j x u hx hu
         match j with
         | 0 => simp at hx; subst hx; cases this; constructor
         | 1 => simp at hx; subst hx; cases this; constructor
         | j + 2 => simp at hx)
    | cases hf

/-- A slice is lent to a call that only reads. -/
def fzV (h : Heap) (v : V) : V :=
  match v with
  | .sl esz b off n _ =>
    match h b with
    | some (.cells _ e xs) => if e = esz ∧ off * esz + n * esz ≤ xs.length then .ps esz (elems esz n (xs.drop (off * esz))) else v
    | _ => v
  | _ => v

/-- The heap that owns nothing. -/
def noHeap : Heap := fun _ => none

theorem noHeap_sub (h : Heap) : Sub noHeap h := by
  intro c x hx
  cases hx

theorem fz_rel {ρ : Ren} {h : Heap} {w : World} (hs : St ρ h w) {v : V} {cv : Value} (hrel : VRel ρ (Own ρ h) w v cv) : VRel ρ (Own ρ noHeap) w (fzV h v) cv := by
  obtain ⟨s1, s2⟩ := hs.sub (noHeap_sub h)
  unfold fzV
  split
  · rename_i esz b off n cap
    split
    · rename_i e e' xs hb
      split
      · rename_i hc
        obtain ⟨rfl, hle⟩ := hc
        exact sl_ps hs (noHeap_sub h) hrel hb hle rfl
      · exact hrel.fr s2
    · exact hrel.fr s2
  · exact hrel.fr s2

theorem AC.lend {P : Program} {f : FuncId} {args : List V} {h : Heap} {v0 : V} (hf : v0.flat = true)
    (ha : AC P f (args.map (fzV h)) noHeap fun v h' => v = v0) : AC P f args h fun v h' => v = v0 ∧ h' = h := by
  intro ρ w cargs hs hargs
  obtain ⟨s1, s2⟩ := hs.sub (noHeap_sub h)
  have hargs' : LRel ρ (Own ρ noHeap) w (args.map (fzV h)) cargs := by
    refine ⟨by simpa using hargs.1, fun j x u hx hu => ?_⟩
    rw [List.getElem?_map] at hx
    cases hv : args[j]? with
    | none => rw [hv] at hx; cases hx
    | some v =>
      rw [hv] at hx
      simp at hx
      subst hx
      exact fz_rel hs (hargs.2 j v u hv hu)
  refine (ha ρ w cargs s1 hargs').mono ?_
  rintro e w' ⟨v, cv, h1, ρ', rfl, rfl, t1, t2, t3⟩
  have old : ∀ b, h b ≠ none → ∃ x, ρ b = some x := by
    intro b hb
    cases hx : h b with
    | none => exact absurd hx hb
    | some x => obtain ⟨cb, K, hr, _⟩ := hs.blk b x hx; exact ⟨_, hr⟩
  have hout : ∀ k, k < w.heap.size → Own ρ' h k → Own ρ h k := by
    rintro k hk ⟨c, K, hc, hr⟩
    obtain ⟨x, hx⟩ := old c hc
    have := t3.ext _ _ hx
    rw [hr] at this; injection this with this; subst this
    exact ⟨c, K, hc, hx⟩
  have hall : ∀ k, k < w.heap.size → w'.heap[k]? = w.heap[k]? := by
    intro k hk
    exact t3.keep k hk fun ⟨c, K, hc, hr⟩ => hc rfl
  have hfr : Fr ρ h w ρ' h w' := ⟨t3.os, t3.tape, t3.output, t3.size, t3.ext, fun k hk _ => hall k hk, hout⟩
  refine ⟨v, cv, h, ρ', rfl, ⟨rfl, rfl⟩, ⟨t1.fresh, t1.lt, t1.cap, ?_, ?_⟩, flat_rel hf t2, hfr⟩
  · intro b b' c K K' hb hb' hr hr'
    obtain ⟨⟨c1, k1⟩, h1⟩ := old b hb
    obtain ⟨⟨c2, k2⟩, h2⟩ := old b' hb'
    have e1 := t3.ext _ _ h1
    have e2 := t3.ext _ _ h2
    rw [hr] at e1; injection e1 with e1; injection e1 with e1 _; subst e1
    rw [hr'] at e2; injection e2 with e2; injection e2 with e2 _; subst e2
    exact hs.inj b b' _ _ _ hb hb' h1 h2
  · intro b x hb
    obtain ⟨cb, K, hr, hbr⟩ := hs.blk b x hb
    exact ⟨cb, K, t3.ext _ _ hr, hbr.fr hfr (hall cb (hs.lt _ _ _ hr))⟩

end Go.Abs
