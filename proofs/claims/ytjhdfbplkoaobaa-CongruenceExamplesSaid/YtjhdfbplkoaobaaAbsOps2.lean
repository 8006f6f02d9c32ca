/- More operations that leave the heap as it is. -/
import Derived.Test.YtjhdfbplkoaobaaAbsOps1
set_option linter.unusedVariables false
set_option linter.unusedSimpArgs false
namespace Go.Abs

section
variable {P : Program} {ρ : Ren} {O : Nat → Prop} {w : World} {tm : Nat → V} {a : Act}

theorem idxA_sound {t e : TypeId} {l : Nat} (hu : P.underlying t = some (.array l e)) {n : Nat} (hn : szOf P e = some n)
    {x i : V} {cx ci : Value} (hx : VRel ρ O w x cx) (hi : VRel ρ O w i ci) {v : V}
    (hv : aIdxA l n x i = some v) :
    ∃ cv, (Instr.indexAt t cx ci).run P w = .ok cv w ∧ VRel ρ O w v cv := by
  cases hx with
  | ptr b off cb K hr =>
    cases hi with
    | int k m =>
      simp only [aIdxA, aIdxStr] at hv
      split at hv
      · rename_i h0
        obtain ⟨h0, h1⟩ := h0
        injection hv with hv; subst hv
        refine ⟨.pointer (some ⟨cb, off + m.toNat * n, none⟩), ?_, .ptr b _ cb K hr⟩
        simp [Instr.indexAt, asIntOf, run_underlying hu, h0, h1, run_sizeOf' hn, Addr.add, Instr.sureAddr]
      · cases hv
    | _ => cases hv
  | pp xs ad cvs ho hl ha hv' =>
    cases hi with
    | int k m =>
      simp only [aIdxA, aIdxStr] at hv
      split at hv
      · rename_i h0
        obtain ⟨h0, h1⟩ := h0
        injection hv with hv; subst hv
        refine ⟨.pointer (some (ad.add (m.toNat * n))), ?_, .pp _ _ (fun j => cvs (m.toNat * n + j)) (by rwa [add_block]) (by rwa [add_block]) (fun j u hj => ?_) (fun j u hj => ?_)⟩
        · simp [Instr.indexAt, asIntOf, run_underlying hu, h0, h1, run_sizeOf' hn, Instr.sureAddr]
        · rw [List.getElem?_drop] at hj; rw [add_add]; exact ha _ _ hj
        · rw [List.getElem?_drop] at hj; exact hv' _ _ hj
      · cases hv
    | _ => cases hv
  | _ => cases hv

theorem idxStr_sound {t : TypeId} (hu : P.underlying t = some .string) {x i : V} {cx ci : Value} (hx : VRel ρ O w x cx) (hi : VRel ρ O w i ci) {v : V}
    (hv : aIdxStr x i = some v) :
    ∃ cv, (Instr.index t cx ci).run P w = .ok cv w ∧ VRel ρ O w v cv := by
  cases hx with
  | str s =>
    cases hi with
    | int k m =>
      simp only [aIdxA, aIdxStr] at hv
      split at hv
      · rename_i h0
        simp only [Option.map_eq_some_iff] at hv
        obtain ⟨b, hb, rfl⟩ := hv
        refine ⟨.int .u8 b.toNat, ?_, .int _ _⟩
        simp [Instr.index, asIntOf, run_underlying hu, h0, hb]
      · cases hv
    | _ => cases hv
  | _ => cases hv

/-! ### Slices of slices -/

theorem ps_cut {esz : Nat} {xs : List V} {A : Option Addr} {c : Nat} (hx : VRel ρ O w (.ps esz xs) (.slice A xs.length c)) (l u : Nat) (hl : l ≤ u) (hu : u ≤ xs.length) :
    VRel ρ O w (.ps esz ((xs.take u).drop l)) (.slice (if c = l then A else A.map (·.add (l * esz))) (u - l) (c - l)) := by
  generalize hv : V.ps esz xs = v at hx
  generalize hcv : Value.slice A xs.length c = cv at hx
  cases hx with
  | ps esz' xs' A' c' cvs hc hm hs ha hv' =>
    injection hv with e1 e2; subst e1; subst e2
    injection hcv with e1 _ e3; subst e1; subst e3
    have hlen : ((xs.take u).drop l).length = u - l := by simp; omega
    rw [← hlen]
    have hget : ∀ (i : Nat) (x : V), ((xs.take u).drop l)[i]? = some x → xs[l + i]? = some x := by
      intro i x hx
      rw [List.getElem?_drop, List.getElem?_take] at hx
      split at hx
      · exact hx
      · cases hx
    refine .ps esz _ _ _ (fun j => cvs (l * esz + j)) (by omega) (by omega) (fun x hx => hs x (List.mem_of_mem_take (List.mem_of_mem_drop hx))) (fun hne => ?_) (fun i x hx j y hy => ?_)
    · have hlu : l < u := by
        rcases Nat.lt_or_ge l u with h | h
        · exact h
        · exact absurd (List.eq_nil_of_length_eq_zero (by omega)) hne
      obtain ⟨ad, rfl, ho, hlt, hcell⟩ := ha (by rintro rfl; simp at hu; omega)
      rw [if_neg (by omega)]
      refine ⟨ad.add (l * esz), rfl, by rwa [add_block], by rwa [add_block], fun i x hx j y hy => ?_⟩
      rw [add_add]
      have := hcell (l + i) x (hget i x hx) j y hy
      have e : (l + i) * esz + j = l * esz + (i * esz + j) := by rw [Nat.add_mul, Nat.add_assoc]
      rw [e] at this
      exact this
    · have := hv' (l + i) x (hget i x hx) j y hy
      have e : (l + i) * esz + j = l * esz + (i * esz + j) := by rw [Nat.add_mul, Nat.add_assoc]
      rw [e] at this
      exact this
  | _ => cases hv

theorem ps_nil (esz : Nat) (A : Option Addr) (c : Nat) (hc : c ≤ maxLen) : VRel ρ O w (.ps esz []) (.slice A 0 c) :=
  .ps esz [] A c (fun _ => undef) (Nat.zero_le _) hc (fun x hx => by cases hx) (fun h => absurd rfl h) (fun i x hx => by simp at hx)

/-- The bounds as the model takes them. -/
theorem run_bounds {isSlice : Bool} {len cap : Nat} {k1 k2 : IntKind} {lo hi : Option Int} (l u : Nat) (hl : lo.getD 0 = l) (hu : hi.getD len = u) (h1 : l ≤ u) (h2 : u ≤ cap) :
    (Instr.sliceBounds isSlice len cap (lo.map (Value.int k1)) (hi.map (Value.int k2)) none).run P w = .ok (l, u, cap) w := by
  have g1 : ∀ z, lo = some z → z = l := fun z hz => by rw [hz] at hl; exact hl
  have g2 : ∀ z, hi = some z → z = u := fun z hz => by rw [hz] at hu; exact hu
  cases lo with
  | none =>
    have : l = 0 := by simp at hl; omega
    subst this
    cases hi with
    | none =>
      have : u = len := by simp at hu; omega
      subst this
      simp [Instr.sliceBounds]
    | some z =>
      obtain rfl := g2 z rfl
      simp [Instr.sliceBounds, Instr.sliceBound, asIntOf, h2]
  | some y =>
    obtain rfl := g1 y rfl
    cases hi with
    | none =>
      have : u = len := by simp at hu; omega
      subst this
      simp [Instr.sliceBounds, Instr.sliceBound, asIntOf, h1]
    | some z =>
      obtain rfl := g2 z rfl
      simp [Instr.sliceBounds, Instr.sliceBound, asIntOf, h2, h1]

theorem run_bounds3 {len cap : Nat} {k1 k2 k3 : IntKind} {lo : Option Int} {hi mx : Int} (l u m : Nat) (hl : lo.getD 0 = l) (hu : hi = u) (hm : mx = m) (h1 : l ≤ u) (h2 : u ≤ m) (h3 : m ≤ cap) :
    (Instr.sliceBounds true len cap (lo.map (Value.int k1)) (some (.int k2 hi)) (some (.int k3 mx))).run P w = .ok (l, u, m) w := by
  subst hu; subst hm
  cases lo with
  | none =>
    have : l = 0 := by simp at hl; omega
    subst this
    simp [Instr.sliceBounds, Instr.sliceBound, asIntOf, h2, h3]
  | some y =>
    have : y = l := hl
    subst this
    simp [Instr.sliceBounds, Instr.sliceBound, asIntOf, h2, h3, h1]

theorem aslS_sound {t e : TypeId} (hu : P.underlying t = some (.slice e)) {n : Nat} (hn : szOf P e = some n) (hsK : ∀ b cb K, ρ b = some (cb, K) → K ≤ maxLen)
    {x : V} {cx : Value} (hx : VRel ρ O w x cx) {lo hi : Option Int} {mx : Option Int} {k1 k2 k3 : IntKind} (hmx : mx.isSome = true → hi.isSome = true) {v : V} (hv : aslS n x lo hi mx = some v) :
    ∃ cv, (Instr.sliceAt t cx (lo.map (Value.int k1)) (hi.map (Value.int k2)) (mx.map (Value.int k3))).run P w = .ok cv w ∧ VRel ρ O w v cv := by
  have hrun : ∀ (A : Option Addr) (len cap l u m : Nat), (Instr.sliceBounds true len cap (lo.map (Value.int k1)) (hi.map (Value.int k2)) (mx.map (Value.int k3))).run P w = .ok (l, u, m) w →
      (Instr.sliceAt t (.slice A len cap) (lo.map (Value.int k1)) (hi.map (Value.int k2)) (mx.map (Value.int k3))).run P w = .ok (.slice (if m = l then A else A.map (·.add (l * n))) (u - l) (m - l)) w := by
    intro A len cap l u m hb
    simp only [Instr.sliceAt, Instr.slice, Sem.run_bind, run_underlying hu, Result.andThen_ok, hb, run_sizeOf' hn, Sem.run_pure]
  cases hx with
  | nils =>
    simp only [aslS] at hv
    split at hv
    · rename_i h0
      obtain ⟨h0, h1, h2⟩ := h0
      injection hv with hv; subst hv
      cases mx with
      | none =>
        refine ⟨_, hrun none 0 0 0 0 0 (run_bounds (cap := 0) 0 0 (by simpa using h0) (by cases hi <;> simp_all) (Nat.le_refl _) (Nat.le_refl _)), ?_⟩
        simpa using VRel.nils
      | some m =>
        obtain ⟨hh, rfl⟩ := Option.isSome_iff_exists.1 (hmx rfl)
        refine ⟨_, hrun none 0 0 0 0 0 (run_bounds3 (cap := 0) 0 0 0 (by simpa using h0) (by simpa using h1) (by simpa using h2) (Nat.le_refl _) (Nat.le_refl _) (Nat.le_refl _)), ?_⟩
        simpa using VRel.nils
    · cases hv
  | ps esz xs A c cvs hc hm hs ha hv' =>
    have hx : VRel ρ O w (.ps esz xs) (.slice A xs.length c) := .ps esz xs A c cvs hc hm hs ha hv'
    simp only [aslS] at hv
    split at hv
    · rename_i h0
      obtain ⟨rfl, rfl, h1, h2, h3⟩ := h0
      injection hv with hv; subst hv
      have hb := run_bounds (P := P) (w := w) (isSlice := true) (len := xs.length) (cap := c) (k1 := k1) (k2 := k2) (lo := lo) (hi := hi) (lo.getD 0).toNat (hi.getD xs.length).toNat (by omega) (by omega) (by omega) (by omega)
      exact ⟨_, hrun A xs.length c _ _ _ hb, ps_cut hx _ _ (by omega) (by omega)⟩
    · cases hv
  | sl esz b off len cb K hr hk =>
    have hK := hsK b cb K hr
    simp only [aslS] at hv
    split at hv
    · rename_i h0
      obtain ⟨rfl, h1, h2, h3⟩ := h0
      split at hv
      · rename_i h4
        split at hv
        · rename_i hmn
          subst hmn
          injection hv with hv; subst hv
          have hb := run_bounds (P := P) (w := w) (isSlice := true) (len := len) (cap := K - off) (k1 := k1) (k2 := k2) (lo := lo) (hi := hi) (lo.getD 0).toNat (hi.getD len).toNat (by omega) (by omega) (by omega) (by omega)
          refine ⟨_, hrun _ len (K - off) _ _ _ hb, ?_⟩
          have e : (hi.getD len).toNat - (lo.getD 0).toNat = 0 := by omega
          rw [e]
          exact ps_nil _ _ _ (by omega)
        · cases hv
      · rename_i h4
        have hne : lo.getD 0 ≠ 0 → (lo.getD 0).toNat < (hi.getD len).toNat := by omega
        cases mx with
        | none =>
          injection hv with hv; subst hv
          have hb := run_bounds (P := P) (w := w) (isSlice := true) (len := len) (cap := K - off) (k1 := k1) (k2 := k2) (lo := lo) (hi := hi) (lo.getD 0).toNat (hi.getD len).toNat (by omega) (by omega) (by omega) (by omega)
          refine ⟨_, hrun _ len (K - off) _ _ _ hb, ?_⟩
          have e : (hi.getD len - lo.getD 0).toNat = (hi.getD len).toNat - (lo.getD 0).toNat := by omega
          rw [e]
          have hs := VRel.sl (ρ := ρ) (O := O) (w := w) esz b (off + (lo.getD 0).toNat) ((hi.getD len).toNat - (lo.getD 0).toNat) cb K hr (by omega)
          have e2 : K - off - (lo.getD 0).toNat = K - (off + (lo.getD 0).toNat) := by omega
          rw [e2]
          by_cases hz : K - off = (lo.getD 0).toNat
          · have : lo.getD 0 = 0 := by
              by_cases hq : lo.getD 0 = 0
              · exact hq
              · have := hne hq; omega
            rw [if_pos hz]
            simpa [this] using hs
          · rw [if_neg hz]
            have e3 : (Option.map (fun x => x.add ((lo.getD 0).toNat * esz)) (some (⟨cb, off * esz, none⟩ : Addr))) = some ⟨cb, (off + (lo.getD 0).toNat) * esz, none⟩ := by
              simp only [Option.map_some, Addr.add, Nat.add_mul]
              split
              · rename_i h; simp [h]
              · rfl
            rw [e3]
            exact hs
        | some m =>
          simp only at hv
          split at hv
          · rename_i h5
            injection hv with hv; subst hv
            obtain ⟨hh, rfl⟩ := Option.isSome_iff_exists.1 (hmx rfl)
            simp only [Option.getD_some] at *
            have hb := run_bounds3 (P := P) (w := w) (len := len) (cap := K - off) (k1 := k1) (k2 := k2) (k3 := k3) (lo := lo) (hi := hh) (mx := m) (lo.getD 0).toNat hh.toNat m.toNat (by omega) (by omega) (by omega) (by omega) (by omega) (by omega)
            refine ⟨_, hrun _ len (K - off) _ _ _ hb, ?_⟩
            have e : (hh - lo.getD 0).toNat = hh.toNat - (lo.getD 0).toNat := by omega
            have e' : (m - lo.getD 0).toNat = m.toNat - (lo.getD 0).toNat := by omega
            rw [e, e']
            have hs := VRel.slc (ρ := ρ) (O := O) (w := w) esz b (off + (lo.getD 0).toNat) (hh.toNat - (lo.getD 0).toNat) (m.toNat - (lo.getD 0).toNat) cb K hr (by omega) (by omega)
            by_cases hz : m.toNat = (lo.getD 0).toNat
            · have : lo.getD 0 = 0 := by
                by_cases hq : lo.getD 0 = 0
                · exact hq
                · have := hne hq; omega
              rw [if_pos hz]
              simpa [this] using hs
            · rw [if_neg hz]
              have e3 : (Option.map (fun x => x.add ((lo.getD 0).toNat * esz)) (some (⟨cb, off * esz, none⟩ : Addr))) = some ⟨cb, (off + (lo.getD 0).toNat) * esz, none⟩ := by
                simp only [Option.map_some, Addr.add, Nat.add_mul]
                split
                · rename_i h; simp [h]
                · rfl
              rw [e3]
              exact hs
          · cases hv
    · cases hv
  | slc esz b off len c cb K hr hn' hk =>
    have hK := hsK b cb K hr
    simp only [aslS] at hv
    split at hv
    · rename_i h0
      obtain ⟨rfl, h1, h2, h3⟩ := h0
      split at hv
      · rename_i h4
        split at hv
        · rename_i hmn
          subst hmn
          injection hv with hv; subst hv
          have hb := run_bounds (P := P) (w := w) (isSlice := true) (len := len) (cap := c) (k1 := k1) (k2 := k2) (lo := lo) (hi := hi) (lo.getD 0).toNat (hi.getD len).toNat (by omega) (by omega) (by omega) (by omega)
          refine ⟨_, hrun _ len c _ _ _ hb, ?_⟩
          have e : (hi.getD len).toNat - (lo.getD 0).toNat = 0 := by omega
          rw [e]
          exact ps_nil _ _ _ (by omega)
        · cases hv
      · rename_i h4
        have hne : lo.getD 0 ≠ 0 → (lo.getD 0).toNat < (hi.getD len).toNat := by omega
        cases mx with
        | none =>
          injection hv with hv; subst hv
          have hb := run_bounds (P := P) (w := w) (isSlice := true) (len := len) (cap := c) (k1 := k1) (k2 := k2) (lo := lo) (hi := hi) (lo.getD 0).toNat (hi.getD len).toNat (by omega) (by omega) (by omega) (by omega)
          refine ⟨_, hrun _ len c _ _ _ hb, ?_⟩
          have e : (hi.getD len - lo.getD 0).toNat = (hi.getD len).toNat - (lo.getD 0).toNat := by omega
          rw [e]
          have hs := VRel.slc (ρ := ρ) (O := O) (w := w) esz b (off + (lo.getD 0).toNat) ((hi.getD len).toNat - (lo.getD 0).toNat) (c - (lo.getD 0).toNat) cb K hr (by omega) (by omega)
          by_cases hz : c = (lo.getD 0).toNat
          · have : lo.getD 0 = 0 := by
              by_cases hq : lo.getD 0 = 0
              · exact hq
              · have := hne hq; omega
            rw [if_pos hz]
            simpa [this] using hs
          · rw [if_neg hz]
            have e3 : (Option.map (fun x => x.add ((lo.getD 0).toNat * esz)) (some (⟨cb, off * esz, none⟩ : Addr))) = some ⟨cb, (off + (lo.getD 0).toNat) * esz, none⟩ := by
              simp only [Option.map_some, Addr.add, Nat.add_mul]
              split
              · rename_i h; simp [h]
              · rfl
            rw [e3]
            exact hs
        | some m =>
          simp only at hv
          split at hv
          · rename_i h5
            injection hv with hv; subst hv
            obtain ⟨hh, rfl⟩ := Option.isSome_iff_exists.1 (hmx rfl)
            simp only [Option.getD_some] at *
            have hb := run_bounds3 (P := P) (w := w) (len := len) (cap := c) (k1 := k1) (k2 := k2) (k3 := k3) (lo := lo) (hi := hh) (mx := m) (lo.getD 0).toNat hh.toNat m.toNat (by omega) (by omega) (by omega) (by omega) (by omega) (by omega)
            refine ⟨_, hrun _ len c _ _ _ hb, ?_⟩
            have e : (hh - lo.getD 0).toNat = hh.toNat - (lo.getD 0).toNat := by omega
            have e' : (m - lo.getD 0).toNat = m.toNat - (lo.getD 0).toNat := by omega
            rw [e, e']
            have hs := VRel.slc (ρ := ρ) (O := O) (w := w) esz b (off + (lo.getD 0).toNat) (hh.toNat - (lo.getD 0).toNat) (m.toNat - (lo.getD 0).toNat) cb K hr (by omega) (by omega)
            by_cases hz : m.toNat = (lo.getD 0).toNat
            · have : lo.getD 0 = 0 := by
                by_cases hq : lo.getD 0 = 0
                · exact hq
                · have := hne hq; omega
              rw [if_pos hz]
              simpa [this] using hs
            · rw [if_neg hz]
              have e3 : (Option.map (fun x => x.add ((lo.getD 0).toNat * esz)) (some (⟨cb, off * esz, none⟩ : Addr))) = some ⟨cb, (off + (lo.getD 0).toNat) * esz, none⟩ := by
                simp only [Option.map_some, Addr.add, Nat.add_mul]
                split
                · rename_i h; simp [h]
                · rfl
              rw [e3]
              exact hs
          · cases hv
    · cases hv
  | _ => cases hv

end
end Go.Abs
