/- The operations that leave the heap as it is: what the model's run of each comes to. -/
import Derived.Test.YtjhdfbplkoaobaaAbsRel
import Derived.Test.YtjhdfbplkoaobaaAbsTr
import Derived.Laws.Cells
import Derived.Laws.Slices
import Derived.Laws.BytesString
import Derived.Laws.StructEq
import Derived.WideLaws
set_option linter.unusedVariables false
set_option linter.unusedSimpArgs false
namespace Go.Abs

section
variable {P : Program} {ρ : Ren} {O : Nat → Prop} {w : World} {tm : Nat → V} {a : Act}

theorem tv_rel {c : Value} {v : V} (h : tv c = some v) : VRel ρ O w v c := by
  unfold tv at h
  split at h <;> first
    | (injection h with h; subst h; constructor)
    | cases h

theorem trO_rel (ht : TRel ρ O w tm a) {x : Operand} {y : Opnd} (h : trO x = some y) : VRel ρ O w (y.ev tm) (a.eval x) := by
  cases x with
  | tmp t => injection h with h; subst h; exact ht t
  | const v =>
    simp only [trO, Option.map_eq_some_iff] at h
    obtain ⟨u, hu, rfl⟩ := h
    exact tv_rel hu
  | func f => injection h with h; subst h; exact .fn f
  | global g => cases h

theorem tvs_rel : ∀ {cs : List Value} {vs : List V}, tvs cs = some vs → vs.length = cs.length ∧ ∀ (j : Nat) (x : V) (u : Value), vs[j]? = some x → cs[j]? = some u → VRel ρ O w x u
  | [], vs, h => by injection h with h; subst h; exact ⟨rfl, fun j x u hx => by simp at hx⟩
  | c :: cs, vs, h => by
    simp only [tvs] at h
    split at h
    · rename_i y ys h1 h2
      injection h with h; subst h
      obtain ⟨hl, hr⟩ := tvs_rel h2
      refine ⟨by simp [hl], fun j x u hx hu => ?_⟩
      cases j with
      | zero =>
        simp at hx hu; subst hx; subst hu
        exact tv_rel h1
      | succ j => exact hr j x u (by simpa using hx) (by simpa using hu)
    · cases h

theorem tv_isCell {c : Value} {v : V} (h : tv c = some v) : v.isCell = true := by
  unfold tv at h
  split at h <;> first
    | (injection h with h; subst h; rfl)
    | cases h

theorem tvs_isCell : ∀ {cs : List Value} {vs : List V}, tvs cs = some vs → vs.all V.isCell = true
  | [], vs, h => by injection h with h; subst h; rfl
  | c :: cs, vs, h => by
    simp only [tvs] at h
    split at h
    · rename_i y ys h1 h2
      injection h with h; subst h
      simp [tv_isCell h1, tvs_isCell h2]
    · cases h

/-- A value of one cell. -/
theorem isCell_oneCell {v : V} {cv : Value} (h : VRel ρ O w v cv) (hc : v.isCell = true) : cv.oneCell' = true := by
  cases h <;> first | rfl | cases hc

/-- The cells of related values are related. -/
theorem cells_rel {v : V} {cv : Value} (h : VRel ρ O w v cv) (hc : v.cells.all V.isCell = true) :
    v.cells.length = cv.cells.size ∧ ∀ (j : Nat) (x : V) (u : Value), v.cells[j]? = some x → cv.cells[j]? = some u → VRel ρ O w x u := by
  cases h with
  | agg xs cs hl hv => exact ⟨by simpa [V.cells, Value.cells] using hl, fun j x u hx hu => hv j x u hx (by simpa [Value.cells] using hu)⟩
  | undef => simp [V.cells, V.isCell] at hc
  | top => simp [V.cells, V.isCell] at hc
  | tuple => simp [V.cells, V.isCell] at hc
  | _ =>
    refine ⟨by simp [V.cells, Value.cells], fun j x u hx hu => ?_⟩
    cases j with
    | zero =>
      simp [V.cells, Value.cells] at hx hu
      subst hx; subst hu
      constructor <;> assumption
    | succ j => simp [V.cells] at hx

theorem run_isAgg {t : TypeId} {b : Bool} (h : isAggB P t = some b) : (isAgg t).run P w = .ok b w := by
  unfold isAggB at h
  split at h <;> first
    | (rename_i hu; injection h with h; subst h; simp [isAgg, run_underlying hu])
    | cases h

theorem szOf_info {t : TypeId} {n : Nat} (h : szOf P t = some n) : ∃ i, P.info? t = some i ∧ i.size = n := by
  simpa [szOf, Option.map_eq_some_iff] using h

theorem run_sizeOf' {t : TypeId} {n : Nat} (h : szOf P t = some n) : (sizeOf t).run P w = .ok n w := by
  obtain ⟨i, hi, rfl⟩ := szOf_info h
  simp [sizeOf, typeInfo, hi]

/-- What is read at an address whose cells are known. -/
theorem ld_sound {t : TypeId} {g : Option Nat} (hg : gOf P t = some g) {xs : List V} {ad : Addr} {cvs : Nat → Value}
    (hc : ∀ (j : Nat) (u : V), xs[j]? = some u → w.cell? (ad.add j) = some (cvs j) ∧ VRel ρ O w u (cvs j)) {v : V} (hv : ld g xs = some v) :
    ∃ cv, (loadVar t ad).run P w = .ok cv w ∧ VRel ρ O w v cv := by
  unfold gOf at hg
  split at hg
  · rename_i n ha hn
    injection hg with hg; subst hg
    simp only [ld] at hv
    split at hv
    · rename_i hle
      injection hv with hv; subst hv
      have hcells : ∀ j, j < n → w.cell? (ad.add j) = some (cvs j) := fun j hj => (hc j _ (List.getElem?_eq_getElem (by omega))).1
      refine ⟨.agg ((List.range n).map cvs).toArray, ?_, ?_⟩
      · simp only [loadVar, Sem.run_bind, run_isAgg ha, Result.andThen_ok, run_sizeOf' hn, if_true, run_loadCells w ad n cvs hcells, Sem.run_pure]
      · refine .agg _ _ (by simp; omega) (fun j x u hx hu => ?_)
        rw [List.getElem?_take] at hx
        split at hx
        · rename_i hj
          have hu' : u = cvs j := by
            simp [List.getElem?_map, List.getElem?_range hj] at hu
            exact hu.symm
          subst hu'
          exact (hc j x hx).2
        · cases hx
    · cases hv
  · rename_i n ha hn
    injection hg with hg; subst hg
    simp only [ld] at hv
    cases xs with
    | nil => cases hv
    | cons x rest =>
      simp at hv; subst hv
      obtain ⟨h1, h2⟩ := hc 0 x rfl
      have h1' : w.cell? ad = some (cvs 0) := by simpa [Addr.add] using h1
      refine ⟨cvs 0, ?_, h2⟩
      simp [loadVar, run_isAgg ha, h1']
  · cases hg

theorem add_add (ad : Addr) (n m : Nat) : (ad.add n).add m = ad.add (n + m) := by
  unfold Addr.add
  by_cases h1 : n = 0
  · subst h1; simp
  · by_cases h2 : m = 0
    · subst h2; simp [h1]
    · simp [h1, h2, Nat.add_assoc]

theorem cell_at {cb off : Nat} {cur : Array Value} {e : TypeId} (h : w.heap[cb]? = some (.cells cur e (0, 0))) (j : Nat) :
    w.cell? ((⟨cb, off, none⟩ : Addr).add j) = cur[off + j]? := by
  unfold Addr.add
  split
  · rename_i hj; subst hj; simp [World.cell?, h]
  · simp [World.cell?, h]

/-- The cells behind a pointer to a block of the heap. -/
theorem ptr_cells {h : Heap} (hs : St ρ h w) {b off cb K : Nat} (hr : ρ b = some (cb, K)) {e : TypeId} {esz : Nat} {xs : List V} (hb : h b = some (.cells e esz xs)) :
    ∃ cvs : Nat → Value, ∀ (j : Nat) (u : V), (xs.drop off)[j]? = some u → w.cell? ((⟨cb, off, none⟩ : Addr).add j) = some (cvs j) ∧ VRel ρ (Own ρ h) w u (cvs j) := by
  obtain ⟨cb', K', hr', cur, h1, h2, h3, h4, h5⟩ := hs.blk b _ hb
  rw [hr] at hr'; injection hr' with hr'; injection hr' with e1 e2; subst e1; subst e2
  refine ⟨fun j => cur.getD (off + j) undef, fun j u hu => ?_⟩
  rw [List.getElem?_drop] at hu
  obtain ⟨_, cv, hcv, hrel⟩ := h5 _ _ hu
  rw [cell_at h1]
  simp [hcv, hrel]

theorem load_sound {h : Heap} (hs : St ρ h w) {t : TypeId} {g : Option Nat} (hg : gOf P t = some g) {x : V} {cx : Value} (hx : VRel ρ (Own ρ h) w x cx) {v : V}
    (hv : aLoad h g x = some v) :
    ∃ cv, (Instr.loadAt t cx).run P w = .ok cv w ∧ VRel ρ (Own ρ h) w v cv := by
  cases hx with
  | ptr b off cb K hr =>
    simp only [aLoad] at hv
    split at hv
    · rename_i e esz xs hb
      obtain ⟨cvs, hc⟩ := ptr_cells hs (off := off) hr hb
      obtain ⟨cv, h1, h2⟩ := ld_sound hg hc hv
      exact ⟨cv, by simpa [Instr.loadAt, Instr.sureAddr] using h1, h2⟩
    · cases hv
  | pp xs ad cvs ho hl ha hv' =>
    obtain ⟨cv, h1, h2⟩ := ld_sound (ρ := ρ) (O := Own ρ h) hg (fun j u hu => ⟨ha j u hu, hv' j u hu⟩) hv
    exact ⟨cv, by simpa [Instr.loadAt, Instr.sureAddr] using h1, h2⟩
  | _ => cases hv

theorem fld_sound {s : TypeId} {fs : Array Field} (hu : P.underlying s = some (.struct fs)) {f : Nat} {fd : Field} (hf : fs[f]? = some fd) {n : Nat} (hn : szOf P fd.type = some n) (h0 : n ≠ 0)
    {x : V} {cx : Value} (hx : VRel ρ O w x cx) {v : V}
    (hv : aFld fd.offset x = some v) :
    ∃ cv, (Instr.fieldAt s cx f).run P w = .ok cv w ∧ VRel ρ O w v cv := by
  cases hx with
  | ptr b off cb K hr =>
    injection hv with hv; subst hv
    refine ⟨.pointer (some ⟨cb, off + fd.offset, none⟩), ?_, .ptr b _ cb K hr⟩
    simp [Instr.fieldAt, run_underlying hu, hf, Instr.sureAddr, fieldPlace, run_sizeOf' hn, h0, Addr.add]
  | pp xs ad cvs ho hl ha hv' =>
    injection hv with hv; subst hv
    refine ⟨.pointer (some (ad.add fd.offset)), ?_, .pp _ _ (fun j => cvs (fd.offset + j)) (by rwa [add_block]) (by rwa [add_block]) (fun j u hu => ?_) (fun j u hu => ?_)⟩
    · simp [Instr.fieldAt, run_underlying hu, hf, Instr.sureAddr, fieldPlace, run_sizeOf' hn, h0]
    · rw [List.getElem?_drop] at hu; rw [add_add]; exact ha _ _ hu
    · rw [List.getElem?_drop] at hu; exact hv' _ _ hu
  | _ => cases hv

theorem idx_sound {t e : TypeId} (hu : P.underlying t = some (.slice e)) {n : Nat} (hn : szOf P e = some n)
    {x i : V} {cx ci : Value} (hx : VRel ρ O w x cx) (hi : VRel ρ O w i ci) {v : V}
    (hv : aIdx n x i = some v) :
    ∃ cv, (Instr.indexAt t cx ci).run P w = .ok cv w ∧ VRel ρ O w v cv := by
  cases hx with
  | ps esz xs A c cvs hc hm hs ha hv' =>
    cases hi with
    | int k m =>
      simp only [aIdx] at hv
      split at hv
      · rename_i h0
        obtain ⟨rfl, h0⟩ := h0
        simp only [Option.map_eq_some_iff] at hv
        obtain ⟨u, hu', rfl⟩ := hv
        have hlt : m.toNat < xs.length := (List.getElem?_eq_some_iff.1 hu').1
        obtain ⟨ad, rfl, ho, hl, hcell⟩ := ha (by rintro rfl; simp at hlt)
        refine ⟨.pointer (some (ad.add (m.toNat * esz))), ?_, .pp _ _ (fun j => cvs (m.toNat * esz + j)) (by rwa [add_block]) (by rwa [add_block]) (fun j u hj => ?_) (fun j u hj => ?_)⟩
        · have h1 : m < (xs.length : Int) := by omega
          simp [Instr.indexAt, asIntOf, run_underlying hu, h0, h1, run_sizeOf' hn]
        · rw [add_add]; exact hcell _ _ hu' _ _ hj
        · exact hv' _ _ hu' _ _ hj
      · cases hv
    | _ => cases hv
  | sl esz b off len cb K hr hk =>
    cases hi with
    | int k m =>
      simp only [aIdx] at hv
      split at hv
      · rename_i h0
        obtain ⟨rfl, h0, h1⟩ := h0
        injection hv with hv; subst hv
        refine ⟨.pointer (some ⟨cb, (off + m.toNat) * esz, none⟩), ?_, .ptr b _ cb K hr⟩
        simp [Instr.indexAt, asIntOf, run_underlying hu, h0, h1, run_sizeOf' hn, Addr.add, Nat.add_mul]
      · cases hv
    | _ => cases hv
  | slc esz b off len c cb K hr hn' hk =>
    cases hi with
    | int k m =>
      simp only [aIdx] at hv
      split at hv
      · rename_i h0
        obtain ⟨rfl, h0, h1⟩ := h0
        injection hv with hv; subst hv
        refine ⟨.pointer (some ⟨cb, (off + m.toNat) * esz, none⟩), ?_, .ptr b _ cb K hr⟩
        simp [Instr.indexAt, asIntOf, run_underlying hu, h0, h1, run_sizeOf' hn, Addr.add, Nat.add_mul]
      · cases hv
    | _ => cases hv
  | _ => cases hv

end
end Go.Abs
