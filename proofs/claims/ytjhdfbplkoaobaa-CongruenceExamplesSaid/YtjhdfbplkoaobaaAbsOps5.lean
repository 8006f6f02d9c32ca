/- Composite values; and all that leaves the heap as it is, in one theorem. -/
import Derived.Test.YtjhdfbplkoaobaaAbsOps4
set_option linter.unusedVariables false
set_option linter.unusedSimpArgs false
namespace Go.Abs

section
variable {P : Program} {ρ : Ren} {O : Nat → Prop} {w : World} {tm : Nat → V} {a : Act}

theorem zeroOf_rel {t : TypeId} {zs : List V} (h : zeroOf P t = some zs) : ∃ i z, P.info? t = some i ∧ i.zero = some z ∧ z.cells.size = i.size ∧ LRel ρ O w zs z.cells ∧ zs.all V.isCell = true ∧ zs.length = i.size ∧ (zeroValue t).run P w = .ok z w := by
  unfold zeroOf at h
  split at h
  · rename_i i hi
    split at h
    · rename_i z hz
      split at h
      · rename_i hsz
        obtain ⟨h1, h2⟩ := tvs_rel (ρ := ρ) (O := O) (w := w) h
        exact ⟨i, z, hi, hz, hsz, ⟨by simpa using h1, fun j x u hx hu => h2 j x u hx (by simpa using hu)⟩, tvs_isCell h, by simpa [hsz] using h1, by simp [zeroValue, typeInfo, hi, hz]⟩
      · cases h
    · cases h
  · cases h

theorem zeroV_rel {t : TypeId} {z : V} (h : zeroV P t = some z) : ∃ cz, VRel ρ O w z cz ∧ (zeroValue t).run P w = .ok cz w := by
  unfold zeroV at h
  split at h
  · rename_i i hi
    split at h
    · rename_i cs hz
      simp only [Option.map_eq_some_iff] at h
      obtain ⟨zs, h, rfl⟩ := h
      obtain ⟨h1, h2⟩ := tvs_rel (ρ := ρ) (O := O) (w := w) h
      refine ⟨.agg cs, ?_, by simp [zeroValue, typeInfo, hi, hz]⟩
      have := VRel.agg (ρ := ρ) (O := O) (w := w) zs cs.toList h1 h2
      simpa using this
    · rename_i z' _ hz
      exact ⟨z', tv_rel h, by simp [zeroValue, typeInfo, hi, hz]⟩
    · cases h
  · cases h

theorem LRel.ofCells {v : V} {cv : Value} (h : VRel ρ O w v cv) (hc : v.cells.all V.isCell = true) : LRel ρ O w v.cells cv.cells := cells_rel h hc

theorem fillS_go {place : Nat → Option (Nat × Nat)} {sz : Nat} (hp : ∀ i, place i = some (i * sz, sz)) : ∀ (ps : List (Nat × Operand)) {ps' : List (Nat × Opnd)} {cs cs' : List V} {ccs : Array Value},
    TRel ρ O w tm a → trPartsL ps = some ps' → LRel ρ O w cs ccs → fillS tm sz cs ps' = some cs' →
    ∃ ccs', Instr.fill place ccs (ps.map fun p => (p.1, a.eval p.2)) = some ccs' ∧ LRel ρ O w cs' ccs'
  | [], ps', cs, cs', ccs, ht, htr, hl, hf => by
    injection htr with htr; subst htr
    injection hf with hf; subst hf
    exact ⟨ccs, rfl, hl⟩
  | (i, x) :: ps, ps', cs, cs', ccs, ht, htr, hl, hf => by
    simp only [trPartsL] at htr
    split at htr
    · rename_i y r hy hr
      injection htr with htr; subst htr
      simp only [fillS] at hf
      split at hf
      · rename_i hc
        obtain ⟨hc1, hc2, hc3⟩ := hc
        have hv := LRel.ofCells (trO_rel ht hy) hc3
        obtain ⟨ccs', g1, g2⟩ := fillS_go hp ps ht hr (LRel.layIn hl hv (off := i * sz) (by omega)) hf
        refine ⟨ccs', ?_, g2⟩
        simp only [List.map_cons, Instr.fill, hp]
        rw [if_neg (by
          have h1 := hv.1
          have h2 := hl.1
          simp; omega)]
        exact g1
      · cases hf
    · cases htr

theorem fillA_go {place : Nat → Option (Nat × Nat)} {sz : Nat} (hp : ∀ i, place i = some (i * sz, sz)) : ∀ (ps : List (Nat × Operand)) {ps' : List (Nat × Nat × Opnd)} {cs cs' : List V} {ccs : Array Value},
    TRel ρ O w tm a → trPartsA sz ps = some ps' → LRel ρ O w cs ccs → fillB tm cs ps' = some cs' →
    ∃ ccs', Instr.fill place ccs (ps.map fun p => (p.1, a.eval p.2)) = some ccs' ∧ LRel ρ O w cs' ccs'
  | [], ps', cs, cs', ccs, ht, htr, hl, hf => by
    injection htr with htr; subst htr
    injection hf with hf; subst hf
    exact ⟨ccs, rfl, hl⟩
  | (i, x) :: ps, ps', cs, cs', ccs, ht, htr, hl, hf => by
    simp only [trPartsA] at htr
    split at htr
    · rename_i y r hy hr
      injection htr with htr; subst htr
      simp only [fillB] at hf
      split at hf
      · rename_i hc
        obtain ⟨hc1, hc2, hc3⟩ := hc
        have hv := LRel.ofCells (trO_rel ht hy) hc3
        obtain ⟨ccs', g1, g2⟩ := fillA_go hp ps ht hr (LRel.layIn hl hv (off := i * sz) (by omega)) hf
        refine ⟨ccs', ?_, g2⟩
        simp only [List.map_cons, Instr.fill, hp]
        rw [if_neg (by
          have h1 := hv.1
          have h2 := hl.1
          simp; omega)]
        exact g1
      · cases hf
    · cases htr

theorem fillF_go {fs : Array Field} {place : Nat → Option (Nat × Nat)} (hp : ∀ (i : Nat) (f : Field) (n : Nat), fs[i]? = some f → szOf P f.type = some n → place i = some (f.offset, n)) :
    ∀ (ps : List (Nat × Operand)) {ps' : List (Nat × Nat × Opnd)} {cs cs' : List V} {ccs : Array Value},
    TRel ρ O w tm a → trPartsS P fs ps = some ps' → LRel ρ O w cs ccs → fillB tm cs ps' = some cs' →
    ∃ ccs', Instr.fill place ccs (ps.map fun p => (p.1, a.eval p.2)) = some ccs' ∧ LRel ρ O w cs' ccs'
  | [], ps', cs, cs', ccs, ht, htr, hl, hf => by
    injection htr with htr; subst htr
    injection hf with hf; subst hf
    exact ⟨ccs, rfl, hl⟩
  | (i, x) :: ps, ps', cs, cs', ccs, ht, htr, hl, hf => by
    simp only [trPartsS] at htr
    split at htr
    · rename_i f y r hfi hy hr
      split at htr
      · rename_i n hn
        injection htr with htr; subst htr
        simp only [fillB] at hf
        split at hf
        · rename_i hc
          obtain ⟨hc1, hc2, hc3⟩ := hc
          have hv := LRel.ofCells (trO_rel ht hy) hc3
          obtain ⟨ccs', g1, g2⟩ := fillF_go hp ps ht hr (LRel.layIn hl hv (off := f.offset) (by omega)) hf
          refine ⟨ccs', ?_, g2⟩
          simp only [List.map_cons, Instr.fill, hp i f n hfi hn]
          rw [if_neg (by
            have h1 := hv.1
            have h2 := hl.1
            simp; omega)]
          exact g1
        · cases hf
      · cases htr
    · cases htr

theorem run_places {fs : Array Field} (h : fs.all (fun f => (P.info? f.type).isSome) = true) :
    (fs.mapM fun f => do pure (f.offset, ← sizeOf f.type) : Sem (Array (Nat × Nat))).run P w = .ok (fs.map fun f => (f.offset, (szOf P f.type).getD 0)) w := by
  obtain ⟨l⟩ := fs
  rw [List.mapM_toArray]
  have key : ∀ l : List Field, l.all (fun f => (P.info? f.type).isSome) = true →
      (l.mapM fun f => do pure (f.offset, ← sizeOf f.type) : Sem (List (Nat × Nat))).run P w = .ok (l.map fun f => (f.offset, (szOf P f.type).getD 0)) w := by
    intro l
    induction l with
    | nil => intro _; rfl
    | cons f l ih =>
      intro h
      simp only [List.all_cons, Bool.and_eq_true] at h
      obtain ⟨i, hi⟩ := Option.isSome_iff_exists.1 h.1
      have hsz : szOf P f.type = some i.size := by simp [szOf, hi]
      rw [List.mapM_cons]
      simp only [Sem.run_bind, run_sizeOf' hsz, Result.andThen_ok, Sem.run_pure, ih h.2, List.map_cons, hsz, Option.getD_some]
  simp only [Sem.run_map, key l (by simpa using h), Result.andThen_ok]
  simp

theorem map_pairs (ps : Array (Nat × Operand)) : (ps.map fun (i, x) => (i, a.eval x)).toList = ps.toList.map fun p => (p.1, a.eval p.2) := by
  rw [Array.toList_map]

theorem build_sound {quiet : FuncId → Bool} (ht : TRel ρ O w tm a) {t : TypeId} {ps : Array (Nat × Operand)} {z : List V} {ps' : List (Nat × Nat × Opnd)}
    (htr : trOp P quiet (.build t ps) = some (.build z ps')) {cs : List V} (hf : fillB tm z ps' = some cs) :
    ∃ cv, (Instr.build t (ps.map fun (i, x) => (i, a.eval x))).run P w = .ok cv w ∧ VRel ρ O w (.agg cs) cv := by
  simp only [trOp] at htr
  have fin : ∀ {ccs : Array Value}, LRel ρ O w cs ccs → VRel ρ O w (.agg cs) (.agg ccs) := by
    intro ccs hl
    have := VRel.agg (ρ := ρ) (O := O) (w := w) cs ccs.toList (by simpa using hl.1) (fun j x u hx hu => hl.2 j x u hx (by simpa using hu))
    simpa using this
  split at htr
  · rename_i z0 fs hz hu
    split at htr
    · rename_i hall
      simp only [Option.map_eq_some_iff] at htr
      obtain ⟨ps1, hps, e⟩ := htr
      injection e with e1 e2; subst e1; subst e2
      obtain ⟨i, zv, hi, hzz, hsz, hl, _, _, hrun⟩ := zeroOf_rel (ρ := ρ) (O := O) (w := w) hz
      obtain ⟨ccs, g1, g2⟩ := fillF_go (P := P) (place := fun i => (fs.map fun f => (f.offset, (szOf P f.type).getD 0))[i]?) (by
        intro i f n hf hn
        simp [hf, hn]) ps.toList ht hps hl hf
      refine ⟨.agg ccs, ?_, fin g2⟩
      simp only [Instr.build, Sem.run_bind, hrun, Result.andThen_ok, run_underlying hu, run_places hall, map_pairs, g1, Sem.run_pure]
    · cases htr
  · rename_i z0 n e hz hu
    split at htr
    · rename_i sz hsz0
      simp only [Option.map_eq_some_iff] at htr
      obtain ⟨ps1, hps, e'⟩ := htr
      injection e' with e1 e2; subst e1; subst e2
      obtain ⟨i, zv, hi, hzz, hsz, hl, _, _, hrun⟩ := zeroOf_rel (ρ := ρ) (O := O) (w := w) hz
      obtain ⟨ccs, g1, g2⟩ := fillA_go (place := fun i => some (i * sz, sz)) (sz := sz) (fun _ => rfl) ps.toList ht hps hl hf
      refine ⟨.agg ccs, ?_, fin g2⟩
      simp only [Instr.build, Sem.run_bind, hrun, Result.andThen_ok, run_underlying hu, run_sizeOf' hsz0, map_pairs, g1, Sem.run_pure]
    · cases htr
  · cases htr

theorem flat_rep (z : List V) : ∀ (n j : Nat), ((List.replicate n z).flatten)[j]? = if j < n * z.length then z[j % z.length]? else none
  | 0, j => by simp
  | n + 1, j => by
    rw [List.replicate_succ, List.flatten_cons]
    rcases Nat.lt_or_ge j z.length with h | h
    · rw [List.getElem?_append_left h, if_pos (by rw [Nat.add_mul]; omega), Nat.mod_eq_of_lt h]
    · rw [List.getElem?_append_right h, flat_rep z n, Nat.add_mul, Nat.one_mul]
      have e : (j - z.length) % z.length = j % z.length := by
        conv => rhs; rw [show j = (j - z.length) + z.length from by omega]
        rw [Nat.add_mod_right]
      rw [e]
      by_cases hc : j - z.length < n * z.length
      · rw [if_pos hc, if_pos (by omega)]
      · rw [if_neg hc, if_neg (by omega)]

theorem flat_rep_length (z : List V) (n : Nat) : ((List.replicate n z).flatten).length = n * z.length := by
  induction n with
  | zero => simp
  | succ n ih => rw [List.replicate_succ, List.flatten_cons, List.length_append, ih, Nat.add_mul]; omega

theorem flat_rep_isCell {z : List V} (h : z.all V.isCell = true) : ∀ n : Nat, ((List.replicate n z).flatten).all V.isCell = true
  | 0 => rfl
  | n + 1 => by rw [List.replicate_succ, List.flatten_cons, List.all_append, h, flat_rep_isCell h n]; rfl

theorem range_rel {z : List V} {cz : Array Value} (h : LRel ρ O w z cz) (n : Nat) : LRel ρ O w ((List.replicate n z).flatten) ((Array.range (n * z.length)).map (cz[· % cz.size]!)) := by
  refine ⟨by rw [flat_rep_length]; simp, fun j x u hx hu => ?_⟩
  rw [flat_rep] at hx
  split at hx
  · rename_i hj
    have hz : 0 < z.length := by
      rcases Nat.eq_zero_or_pos z.length with h0 | h0
      · rw [h0] at hj; omega
      · exact h0
    have hm : j % z.length < cz.size := by rw [← h.1]; exact Nat.mod_lt _ hz
    have hu' : u = cz[j % z.length]'hm := by
      rw [Array.getElem?_map] at hu
      simp [Array.getElem?_range, hj] at hu
      rw [← hu]
      rw [← h.1] at hm ⊢
      rw [getElem!_pos cz (j % z.length) (by omega)]
    exact h.2 _ _ _ hx (by rw [hu', Array.getElem?_eq_getElem hm])
  · cases hx

theorem fldv_sound {s : TypeId} {fs : Array Field} (hu : P.underlying s = some (.struct fs)) {f : Nat} {fd : Field} (hf : fs[f]? = some fd) {g : Option Nat} (hg : gOf P fd.type = some g)
    {x : V} {cx : Value} (hx : VRel ρ O w x cx) {v : V}
    (hv : aFldv fd.offset g x = some v) :
    ∃ cv, (Instr.field s cx f).run P w = .ok cv w ∧ VRel ρ O w v cv := by
  cases hx with
  | agg xs cs hl hr =>
    simp only [aFldv] at hv
    unfold gOf at hg
    split at hg
    · rename_i n ha hn
      injection hg with hg; subst hg
      simp only at hv
      split at hv
      · rename_i hle
        injection hv with hv; subst hv
        refine ⟨.agg ((cs.drop fd.offset).take n).toArray, ?_, .agg _ _ (by simp; omega) (fun j x u hx hu => ?_)⟩
        · simp only [Instr.field, Sem.run_bind, run_underlying hu, Result.andThen_ok, hf, part, asAgg, Sem.run_pure, run_isAgg ha, if_true, run_sizeOf' hn]
          simp [List.extract_eq_drop_take']
        · rw [List.getElem?_take, List.getElem?_drop] at hx hu
          split at hx
          · rename_i c
            rw [if_pos c] at hu
            exact hr _ _ _ hx hu
          · cases hx
      · cases hv
    · rename_i n ha hn
      injection hg with hg; subst hg
      simp only at hv
      have hlt : fd.offset < cs.length := by rw [← hl]; exact (List.getElem?_eq_some_iff.1 hv).1
      refine ⟨cs[fd.offset], ?_, hr _ _ _ hv (List.getElem?_eq_getElem hlt)⟩
      simp only [Instr.field, Sem.run_bind, run_underlying hu, Result.andThen_ok, hf, part, asAgg, Sem.run_pure, run_isAgg ha, Bool.false_eq_true, if_false]
      simp [hlt]
    · cases hg
  | _ => cases hv

end
end Go.Abs
