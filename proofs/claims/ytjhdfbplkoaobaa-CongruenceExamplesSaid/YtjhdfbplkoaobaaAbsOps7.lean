/- The operations that turn the heap. -/
import Derived.Test.YtjhdfbplkoaobaaAbsOps6
import Derived.Maps.AppendAt
import Derived.Laws.CopyRow
import Derived.IntWalk
set_option linter.unusedVariables false
set_option linter.unusedSimpArgs false
namespace Go.Abs

section
variable {P : Program} {ρ : Ren} {w : World} {tm : Nat → V} {a : Act} {h : Heap}

/-- What such an operation leaves: its value, the new heap, what stands for it. -/
def Eff (P : Program) (ρ : Ren) (h : Heap) (w : World) (s : Sem Next) (K : V → Heap → Prop) : Prop :=
  ∃ v h' ρ' w' cv r, s.run P w = .ok r w' ∧ (r = .value cv ∨ (r = .skip ∧ cv = undef)) ∧ K v h' ∧ St ρ' h' w' ∧ VRel ρ' (Own ρ' h') w' v cv ∧ Fr ρ h w ρ' h' w'

theorem new_cells (hs : St ρ h w) {e : TypeId} {esz K : Nat} {xs : List V} {cs : Array Value} (hK : K ≤ maxLen) (hsz : cs.size = K * esz) (hle : xs.length ≤ cs.size)
    (hr : ∀ (j : Nat) (x : V), xs[j]? = some x → x.isCell = true ∧ ∃ cv, cs[j]? = some cv ∧ VRel ρ (Own ρ h) w x cv) :
    ∃ b ρ', h b = none ∧ ρ' b = some (w.heap.size, K) ∧ St ρ' (upd h b (.cells e esz xs)) { w with heap := w.heap.push (.cells cs e) } ∧
      Fr ρ h w ρ' (upd h b (.cells e esz xs)) { w with heap := w.heap.push (.cells cs e) } := by
  obtain ⟨b, hb, hhb⟩ := hs.name
  refine ⟨b, ren ρ b (w.heap.size, K), hhb, ren_eq _ _ _, ?_⟩
  refine hs.bind (w' := { w with heap := w.heap.push (.cells cs e) }) hK hb hhb rfl rfl rfl (by simp) (Nat.le_refl _) (by simp) (fun k hk => ?_) (fun f => ?_)
  · show (w.heap.push _)[k]? = _
    rw [Array.getElem?_push, if_neg (by omega)]
  · refine ⟨cs, by simp, hsz, hK, hle, fun j x hx => ?_⟩
    obtain ⟨h1, cv, h2, h3⟩ := hr j x hx
    exact ⟨h1, cv, h2, h3.fr f⟩

theorem LRel.full {O : Nat → Prop} {xs : List V} {cs : Array Value} (hl : LRel ρ O w xs cs) (hc : xs.all V.isCell = true) (j : Nat) (x : V) (hx : xs[j]? = some x) : x.isCell = true ∧ ∃ cv, cs[j]? = some cv ∧ VRel ρ O w x cv := by
  have hlt : j < cs.size := by rw [← hl.1]; exact (List.getElem?_eq_some_iff.1 hx).1
  refine ⟨?_, cs[j], Array.getElem?_eq_getElem hlt, hl.2 j x _ hx (Array.getElem?_eq_getElem hlt)⟩
  exact List.all_eq_true.1 hc x (List.mem_of_getElem? hx)

theorem alloc_eff (hs : St ρ h w) {e : TypeId} {z : List V} (hz : zeroOf P e = some z) {K : V → Heap → Prop} (hK : ∀ b, h b = none → K (.ptr b 0) (upd h b (.cells e z.length z))) :
    Eff P ρ h w (do pure (Next.value (← Instr.alloc e true (.tuple #[])))) K := by
  obtain ⟨i, cz, hi, hzz, hsz, hl, hc, hlen, hrun⟩ := zeroOf_rel (ρ := ρ) (O := Own ρ h) (w := w) hz
  obtain ⟨b, ρ', hb, hr, hst, hfr⟩ := new_cells (K := 1) (esz := z.length) hs (e := e) (by decide) (by rw [hl.1]; omega) (by rw [hl.1]; exact Nat.le_refl _) (LRel.full hl hc)
  refine ⟨_, _, ρ', _, _, _, ?_, .inl rfl, hK b hb, hst, .ptr b 0 _ _ hr, hfr⟩
  refine run_v ?_
  simp [Instr.alloc, hrun, newVar, newRow]

theorem box_eff (hs : St ρ h w) {e : TypeId} {n : Nat} {x : V} {cx : Value} (hx : VRel ρ (Own ρ h) w x cx) (hn : x.cells.length = n) (hc : x.cells.all V.isCell = true) {K : V → Heap → Prop}
    (hK : ∀ b, h b = none → K (.ptr b 0) (upd h b (.cells e n x.cells))) : Eff P ρ h w (do pure (Next.value (← Instr.box e cx))) K := by
  have hl := LRel.ofCells hx hc
  obtain ⟨b, ρ', hb, hr, hst, hfr⟩ := new_cells (K := 1) (esz := n) hs (e := e) (by decide) (by rw [← hl.1]; omega) (by rw [← hl.1]; exact Nat.le_refl _) (LRel.full hl hc)
  refine ⟨_, _, ρ', _, _, _, ?_, .inl rfl, hK b hb, hst, .ptr b 0 _ _ hr, hfr⟩
  refine run_v ?_
  simp [Instr.box, newVar, newRow]

theorem all_setAt : ∀ {v cs : List V} {off : Nat}, cs.all V.isCell = true → v.all V.isCell = true → (setAt cs off v).all V.isCell = true
  | [], cs, off, h1, h2 => h1
  | x :: v, cs, off, h1, h2 => by
    simp only [List.all_cons, Bool.and_eq_true] at h2
    refine all_setAt (v := v) ?_ h2.2
    rw [List.all_eq_true]
    intro y hy
    rcases List.mem_or_eq_of_mem_set hy with hy | rfl
    · exact List.all_eq_true.1 h1 y hy
    · exact h2.1

theorem fillS_all {sz : Nat} : ∀ {ps : List (Nat × Opnd)} {cs cs' : List V}, cs.all V.isCell = true → fillS tm sz cs ps = some cs' → cs'.all V.isCell = true
  | [], cs, cs', h1, h2 => by injection h2 with h2; subst h2; exact h1
  | (i, x) :: ps, cs, cs', h1, h2 => by
    simp only [fillS] at h2
    split at h2
    · rename_i hc
      exact fillS_all (all_setAt h1 hc.2.2) h2
    · cases h2

theorem buildS_eff (hs : St ρ h w) (ht : TRel ρ (Own ρ h) w tm a) {t e : TypeId} {n len : Nat} (hu : P.underlying t = some (.slice e)) (hn : szOf P e = some n) {z : List V} (hz : zeroOf P e = some z)
    {ps : Array (Nat × Operand)} {ps' : List (Nat × Opnd)} (hps : trPartsL ps.toList = some ps') (hsmall : len * n ≤ 2 ^ 24) (hpos : 0 < n) {K : V → Heap → Prop}
    (hW : wBuildS e n len (fillS tm n ((List.replicate len z).flatten) ps') h K) :
    Eff P ρ h w (do pure (Next.value (← Instr.buildSlice t len (ps.map fun (i, x) => (i, a.eval x))))) K := by
  obtain ⟨i, cz, hi, hzz, hsz, hl, hc, hlen, hrun⟩ := zeroOf_rel (ρ := ρ) (O := Own ρ h) (w := w) hz
  obtain ⟨i', hi', hin⟩ := szOf_info hn
  rw [hi] at hi'; injection hi' with hi'; subst hi'
  have hzn : z.length = n := by omega
  unfold wBuildS at hW
  split at hW
  · rename_i cs hcs
    obtain ⟨ccs, g1, g2⟩ := fillS_go (place := fun i => some (i * n, n)) (sz := n) (fun _ => rfl) ps.toList ht hps (range_rel hl len) hcs
    have hall := fillS_all (flat_rep_isCell hc len) hcs
    have hcl : cs.length = len * n := by
      have : ∀ {ps : List (Nat × Opnd)} {c1 c2 : List V}, fillS tm n c1 ps = some c2 → c2.length = c1.length := by
        intro ps
        induction ps with
        | nil => intro c1 c2 h; injection h with h; rw [h]
        | cons p ps ih =>
          intro c1 c2 h
          obtain ⟨i, x⟩ := p
          simp only [fillS] at h
          split at h
          · rw [ih h, setAt_length]
          · cases h
      rw [this hcs, flat_rep_length, hzn]
    have hlen2 : len ≤ maxLen := by
      have : len ≤ len * n := Nat.le_mul_of_pos_right _ hpos
      simp only [maxLen]; omega
    obtain ⟨b, ρ', hb, hr, hst, hfr⟩ := new_cells (K := len) (esz := n) hs (e := e) hlen2 (by rw [← g2.1, hcl]) (by rw [← g2.1]; exact Nat.le_refl _) (LRel.full g2 hall)
    refine ⟨_, _, ρ', _, _, _, ?_, .inl rfl, hW b hb, hst, .sl n b 0 len _ len hr (by omega), hfr⟩
    refine run_v ?_
    have hbig : ¬ (2 ^ 24 < len * n) := by omega
    simp only [Instr.buildSlice, Sem.run_bind, run_underlying hu, Result.andThen_ok, run_sizeOf' hn, gt_iff_lt, hbig, if_false]
    by_cases h0 : len * n = 0
    · rw [if_pos h0]
      have hl0 : len = 0 := by
        rcases Nat.mul_eq_zero.1 h0 with h0 | h0
        · exact h0
        · omega
      subst hl0
      have e0 : ∀ f : Nat → Value, (Array.range 0).map f = #[] := fun f => Array.eq_empty_of_size_eq_zero (by simp)
      simp only [Nat.zero_mul, e0] at g1
      simp only [Sem.run_pure, Result.andThen_ok, map_pairs, Nat.zero_mul, e0, g1]
      simp [newRow]
    · rw [if_neg h0]
      rw [hzn] at g1
      simp only [Sem.run_bind, hrun, Result.andThen_ok, Sem.run_pure, map_pairs, g1]
      simp [newRow]
  · exact hW.elim

theorem mkS_eff (hs : St ρ h w) {t e : TypeId} {i : TypeInfo} (hu : P.underlying t = some (.slice e)) (hi : P.info? e = some i) {z : List V} (hz : zeroOf P e = some z) (hpos : 0 < i.size) {l c : V} {cl cc : Value}
    (hl : VRel ρ (Own ρ h) w l cl) (hc : VRel ρ (Own ρ h) w c cc) {K : V → Heap → Prop}
    (hW : wMkS e i.size i.bytes z l c h K) : Eff P ρ h w (do pure (Next.value (← Instr.makeSlice t cl cc))) K := by
  obtain ⟨i', cz, hi', hzz, hsz, hlr, hcz, hlen, hrun⟩ := zeroOf_rel (ρ := ρ) (O := Own ρ h) (w := w) hz
  rw [hi] at hi'; injection hi' with hi'; subst hi'
  unfold wMkS at hW
  split at hW
  · rename_i l c
    obtain ⟨⟨h1, h2, h3, h4⟩, hK⟩ := hW
    have e1 := vrel_int hl
    have e2 := vrel_int hc
    subst e1; subst e2
    have w1 : IntKind.i64.wrap l = l := IntWalk.i64_in l (by omega)
    have w2 : IntKind.i64.wrap c = c := IntWalk.i64_in c (by omega)
    have hR := range_rel hlr c.toNat
    have hzl : z.length = i.size := hlen
    have hmul : l.toNat * i.size ≤ c.toNat * i.size := Nat.mul_le_mul_right _ (by omega)
    obtain ⟨b, ρ', hb, hr, hst, hfr⟩ := new_cells (K := c.toNat) (esz := i.size) (xs := (List.replicate l.toNat z).flatten) (cs := (Array.range (c.toNat * z.length)).map fun x => cz.cells[x % cz.cells.size]!) hs (e := e) (by simp only [maxLen]; omega) (by simp [hzl]) (by rw [flat_rep_length]; simp [hzl]; exact hmul) (by
        intro j x hx
        have hx' : ((List.replicate c.toNat z).flatten)[j]? = some x := by
          rw [flat_rep] at hx ⊢
          split at hx
          · rw [if_pos (by rw [hzl] at *; omega)]; exact hx
          · cases hx
        exact LRel.full hR (flat_rep_isCell hcz _) j x hx')
    refine ⟨_, _, ρ', _, _, _, ?_, .inl rfl, hK b hb, hst, .sl i.size b 0 l.toNat _ c.toNat hr (by omega), hfr⟩
    refine run_v ?_
    have n1 : ¬ (c < 0) := by omega
    have n2 : ¬ ((281474976710656 : Int) < (i.bytes : Int) * c) := by omega
    have n3 : ¬ (l < 0) := by omega
    have n4 : ¬ (c < l) := by omega
    have hti : (typeInfo e).run P w = .ok i w := by simp [typeInfo, hi]
    have hsz' : (sizeOf e).run P w = .ok i.size w := by simp [sizeOf, hti]
    simp only [Instr.makeSlice, Sem.run_bind, run_underlying hu, Result.andThen_ok, asInt, asIntOf, Sem.run_pure, hti, w1, w2, hsz', run_askRoom]
    simp [n1, n2, n3, n4, hsz']
    by_cases h0 : c.toNat * i.size = 0
    · have hc0 : c.toNat = 0 := by
        rcases Nat.mul_eq_zero.1 h0 with h0 | h0
        · exact h0
        · omega
      have e0 : ∀ f : Nat → Value, (Array.range 0).map f = #[] := fun f => Array.eq_empty_of_size_eq_zero (by simp)
      simp [hc0, newRow, e0]
    · have h0' : ¬ (c.toNat = 0 ∨ i.size = 0) := by
        rintro (hh | hh) <;> simp [hh] at h0
      simp only [Nat.mul_eq_zero, h0', if_false]
      simp [hrun, newRow, hzl]
  · exact hW.elim

theorem mkM_eff (hs : St ρ h w) {t : TypeId} {K : V → Heap → Prop} (hK : ∀ b, h b = none → K (.mp b) (upd h b (.map []))) : Eff P ρ h w (do pure (Next.value (← Instr.makeMap t none))) K := by
  obtain ⟨b, hb, hhb⟩ := hs.name
  have key := hs.bind (w' := { w with heap := w.heap.push (.map #[] 0) }) (cb := w.heap.size) (K := 0) (x := .map []) (Nat.zero_le _) hb hhb rfl rfl rfl (by simp) (Nat.le_refl _) (by simp) (fun k hk => by
    show (w.heap.push _)[k]? = _
    rw [Array.getElem?_push, if_neg (by omega)]) (fun f => ⟨#[], by simp, rfl, fun j k v hj => by simp at hj⟩)
  refine ⟨_, _, _, _, _, _, ?_, .inl rfl, hK b hhb, key.1, .mp b _ _ (ren_eq _ _ _), key.2⟩
  refine run_v ?_
  simp [Instr.makeMap]

theorem store_eff (hs : St ρ h w) {t : TypeId} {n : Nat} (hn : szOf P t = some n) {ad x : V} {ca cx : Value} (ha : VRel ρ (Own ρ h) w ad ca) (hx : VRel ρ (Own ρ h) w x cx) {K : V → Heap → Prop}
    (hW : wStore n ad x h K) : Eff P ρ h w (do Instr.storeAt t ca cx; pure Next.skip) K := by
  unfold wStore at hW
  split at hW
  · rename_i b off
    split at hW
    · rename_i e esz xs hb
      obtain ⟨⟨h1, h2, h3⟩, hK⟩ := hW
      cases ha with
      | ptr b off cb Kc hr =>
        obtain ⟨cb', K', hr', cur, g1, g2, g3, g4, g5⟩ := hs.blk b _ hb
        rw [hr] at hr'; injection hr' with hr'; injection hr' with e1 e2; subst e1; subst e2
        have hl := LRel.ofCells hx h2
        have hone : ∀ v ∈ cx.cells.toList, v.oneCell' = true := by
          intro v hv
          obtain ⟨j, hj⟩ := List.getElem?_of_mem hv
          have hj' : cx.cells[j]? = some v := by simpa using hj
          have hlt : j < x.cells.length := by rw [hl.1]; exact (Array.getElem?_eq_some_iff.1 hj').1
          exact isCell_oneCell (hl.2 j _ v (List.getElem?_eq_getElem hlt) hj') (List.all_eq_true.1 h2 _ (List.getElem_mem hlt))
        have hsz := hl.1
        have hst := run_storeCells_at P cb off e cx.cells.toList 0 cur w g1 (by simp; omega) hone
        simp only [Nat.add_zero] at hst
        have hnew : ∀ j : Nat, (cur.toList.take off ++ cx.cells.toList ++ cur.toList.drop (off + cx.cells.toList.length))[j]? = if off ≤ j ∧ j < off + x.cells.length then cx.cells[j - off]? else cur[j]? := by
          intro j
          have hlen1 : (cur.toList.take off).length = off := by simp; omega
          rcases Nat.lt_or_ge j off with c1 | c1
          · rw [if_neg (by omega), List.append_assoc, List.getElem?_append_left (by omega), List.getElem?_take, if_pos c1]; simp
          · rw [List.append_assoc, List.getElem?_append_right (by omega), hlen1]
            rcases Nat.lt_or_ge (j - off) cx.cells.toList.length with c2 | c2
            · rw [List.getElem?_append_left c2, if_pos (by simp at c2; omega)]; simp
            · rw [List.getElem?_append_right c2, if_neg (by simp at c2; omega), List.getElem?_drop]
              simp at c2 ⊢
              congr 1
              omega
        have hset := setAt_get x.cells xs off
        have key := hs.turn (w' := w.setRow cb (cur.toList.take off ++ cx.cells.toList ++ cur.toList.drop (off + cx.cells.toList.length)).toArray) (x := .cells e esz (setAt xs off x.cells)) hr hb rfl rfl rfl (by simp [World.setRow]) (fun k hk => by
          simp only [World.setRow, Array.getElem?_modify]; rw [if_neg (by omega)]) (fun f => by
          refine ⟨_, setRow_heap w cb cur _ e _ g1, ?_, g3, ?_, fun j y hy => ?_⟩
          · simp; omega
          · rw [setAt_length]; simp; omega
          · rw [hset j (by omega)] at hy
            have hnj := hnew j
            by_cases c : off ≤ j ∧ j < off + x.cells.length
            · rw [if_pos c] at hy hnj
              obtain ⟨a1, cv, a2, a3⟩ := LRel.full hl h2 _ _ hy
              refine ⟨a1, cv, ?_, a3.fr f⟩
              rw [List.getElem?_toArray, hnj]; exact a2
            · rw [if_neg c] at hy hnj
              obtain ⟨a1, cv, a2, a3⟩ := g5 _ _ hy
              refine ⟨a1, cv, ?_, a3.fr f⟩
              rw [List.getElem?_toArray, hnj]; exact a2)
        refine ⟨_, _, _, _, undef, _, ?_, .inr ⟨rfl, rfl⟩, hK, key.1, .undef, key.2⟩
        refine run_u ?_
        have hne : ¬ (cx.cells.size ≠ n) := by omega
        simp only [Instr.storeAt, Instr.sureAddr, Sem.run_bind, Sem.run_pure, Result.andThen_ok, storeVar, run_sizeOf' hn, hne, if_false, hst]
    · exact hW.elim
  · exact hW.elim

end
end Go.Abs
