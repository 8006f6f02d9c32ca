/- Forests in which every parent is at most its child: the root of an element, and what shortening a path and joining two roots do to it. -/
import Derived.Test.YtjhdfbplkoaobaaAbsEval
set_option linter.unusedVariables false
set_option linter.unusedSimpArgs false
namespace Go.Abs

theorem upd_upd (h : Heap) (b : Nat) (x y : Blk) : upd (upd h b x) b y = upd h b y := by
  funext c; simp only [upd]; split <;> rfl
theorem upd_self {h : Heap} {b : Nat} {x : Blk} (hb : h b = some x) : upd h b x = h := by
  funext c; simp only [upd]; split
  · rename_i e; subst e; exact hb.symm
  · rfl
theorem upd_comm {h : Heap} {b c : Nat} {x y : Blk} (hne : b ≠ c) : upd (upd h b x) c y = upd (upd h c y) b x := by
  funext k; simp only [upd]; split
  · rename_i e; subst e; rw [if_neg (Ne.symm hne)]
  · rfl

def Forest (p : List Nat) : Prop := ∀ i (h : i < p.length), p[i] ≤ i

def root (p : List Nat) (i : Nat) : Nat :=
  if h : p.getD i 0 < i then root p (p.getD i 0) else i
termination_by i

theorem getD_lt {p : List Nat} {i : Nat} (h : i < p.length) : p.getD i 0 = p[i] := by simp [List.getD_eq_getElem?_getD, h]

theorem root_le (p : List Nat) : ∀ i, root p i ≤ i := by
  intro i
  induction i using Nat.strongRecOn with
  | _ i ih =>
    unfold root
    split
    · rename_i h; exact Nat.le_trans (ih _ h) (Nat.le_of_lt h)
    · exact Nat.le_refl _

theorem root_self {p : List Nat} {i : Nat} (h : i < p.length) (e : p[i] = i) : root p i = i := by
  unfold root; rw [getD_lt h, e]; simp
theorem root_step {p : List Nat} (hf : Forest p) {i : Nat} (h : i < p.length) : root p p[i] = root p i := by
  rcases Nat.lt_or_ge p[i] i with c | c
  · conv => rhs; unfold root
    rw [getD_lt h, dif_pos c]
  · rw [Nat.le_antisymm (hf i h) c]
theorem root_lt {p : List Nat} {i : Nat} (h : i < p.length) : root p i < p.length := Nat.lt_of_le_of_lt (root_le p i) h
theorem root_root {p : List Nat} (hf : Forest p) : ∀ {i : Nat} (h : i < p.length), p[root p i]'(root_lt h) = root p i := by
  intro i
  induction i using Nat.strongRecOn with
  | _ i ih =>
    intro h
    rcases Nat.lt_or_ge p[i] i with c | c
    · have := ih _ c (Nat.lt_trans c h)
      simp only [root_step hf h] at this
      exact this
    · have e := Nat.le_antisymm (hf i h) c
      simp only [root_self h e, e]
theorem root_idem {p : List Nat} (hf : Forest p) {i : Nat} (h : i < p.length) : root p (root p i) = root p i := root_self _ (root_root hf h)
theorem root_self_iff {p : List Nat} (hf : Forest p) {i : Nat} (h : i < p.length) : root p i = i ↔ p[i] = i := by
  constructor
  · intro e
    have := root_root hf h
    simp only [e] at this
    exact this
  · exact root_self h

/-- The same sets. -/
structure SameF (p p' : List Nat) : Prop where
  forest : Forest p'
  len : p'.length = p.length
  same : ∀ j, j < p.length → root p' j = root p j

theorem SameF.refl {p : List Nat} (hf : Forest p) : SameF p p := ⟨hf, rfl, fun _ _ => rfl⟩
theorem SameF.trans {p q r : List Nat} (a : SameF p q) (b : SameF q r) : SameF p r := ⟨b.forest, b.len.trans a.len, fun j hj => (b.same j (by rw [a.len]; exact hj)).trans (a.same j hj)⟩

/-- Another parent of the same set. -/
theorem SameF.set {p : List Nat} (hf : Forest p) {i k : Nat} (hi : i < p.length) (hk : k < i) (hr : root p k = root p i) : SameF p (p.set i k) := by
  have hF : Forest (p.set i k) := by
    intro j hj
    rw [List.getElem_set]
    split
    · omega
    · exact hf j (by simpa using hj)
  refine ⟨hF, by simp, ?_⟩
  intro j
  induction j using Nat.strongRecOn with
  | _ j ih =>
    intro hj
    have hj' : j < (p.set i k).length := by simpa using hj
    by_cases e : j = i
    · subst e
      rw [← root_step hF hj', List.getElem_set_self, ih k hk (Nat.lt_trans hk hj), hr]
    · have e2 : (p.set i k)[j] = p[j] := by rw [List.getElem_set, if_neg (Ne.symm e)]
      rcases Nat.lt_or_ge p[j] j with c | c
      · rw [← root_step hF hj', ← root_step hf hj, e2]
        exact ih _ c (Nat.lt_trans c hj)
      · have e3 := Nat.le_antisymm (hf j hj) c
        rw [root_self hj' (e2.trans e3), root_self hj e3]

/-- Two roots joined. -/
theorem join_root {p : List Nat} (hf : Forest p) {a b : Nat} (ha : b < p.length) (hab : a < b) (ra : root p a = a) (rb : root p b = b) :
    Forest (p.set b a) ∧ ∀ j, j < p.length → root (p.set b a) j = if root p j = b then a else root p j := by
  have hF : Forest (p.set b a) := by
    intro j hj
    rw [List.getElem_set]
    split
    · omega
    · exact hf j (by simpa using hj)
  refine ⟨hF, ?_⟩
  intro j
  induction j using Nat.strongRecOn with
  | _ j ih =>
    intro hj
    have hj' : j < (p.set b a).length := by simpa using hj
    by_cases e : j = b
    · subst e
      rw [← root_step hF hj', List.getElem_set_self, ih a hab (by omega), ra, rb, if_neg (by omega), if_pos rfl]
    · have e2 : (p.set b a)[j] = p[j] := by rw [List.getElem_set, if_neg (Ne.symm e)]
      rcases Nat.lt_or_ge p[j] j with c | c
      · rw [← root_step hF hj', e2, ih _ c (Nat.lt_trans c hj), root_step hf hj]
      · have e3 := Nat.le_antisymm (hf j hj) c
        rw [root_self hj' (e2.trans e3), root_self hj e3, if_neg e]

end Go.Abs
