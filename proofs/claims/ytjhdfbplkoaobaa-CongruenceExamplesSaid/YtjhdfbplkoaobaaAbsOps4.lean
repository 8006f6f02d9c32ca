/- Maps' keys; strings of bytes; composite values; and all that leaves the heap as it is, in one theorem. -/
import Derived.Test.YtjhdfbplkoaobaaAbsOps3
set_option linter.unusedVariables false
set_option linter.unusedSimpArgs false
namespace Go.Abs

section
variable {P : Program} {ρ : Ren} {O : Nat → Prop} {w : World} {tm : Nat → V} {a : Act}

theorem ba_beq (x y : ByteArray) : (x == y) = decide (x = y) := by
  rw [beq_toListBytes, ByteArray.toList_eq, ByteArray.toList_eq]
  obtain ⟨⟨x⟩⟩ := x
  obtain ⟨⟨y⟩⟩ := y
  by_cases e : x = y
  · subst e; simp
  · have : ¬ ({ data := ⟨x⟩ } : ByteArray) = { data := ⟨y⟩ } := by
      intro h; injection h with h; injection h with h; exact e h
    simp [e]

theorem run_getObj_map {r : Nat} {es : Array MapEntry} {c : Nat} (h : w.heap[r]? = some (.map es c)) : (getObj r).run P w = .ok (.map es c) w := by
  simp [getObj, Sem.run, h]
theorem run_setObj_map {r : Nat} {es : Array MapEntry} {c : Nat} {o : Obj} (h : w.heap[r]? = some (.map es c)) : (setObj r o).run P w = .ok () { w with heap := w.heap.setIfInBounds r o } := by
  simp [setObj, Sem.run, h]

theorem vrel_int {k : IntKind} {n : Int} {c : Value} (h : VRel ρ O w (.int k n) c) : c = .int k n := by cases h; rfl
theorem vrel_str {s : ByteArray} {c : Value} (h : VRel ρ O w (.str s) c) : c = .string s := by cases h; rfl
theorem vrel_bool {b : Bool} {c : Value} (h : VRel ρ O w (.bool b) c) : c = .bool b := by cases h; rfl
theorem vrel_pair {k l : IntKind} {m n : Int} {c : Value} (h : VRel ρ O w (.agg [.int k m, .int l n]) c) : c = .agg #[.int k m, .int l n] := by
  cases h with
  | agg xs cs hl hv =>
    match cs, hl with
    | [c0, c1], _ =>
      have h0 := vrel_int (hv 0 _ c0 rfl rfl)
      have h1 := vrel_int (hv 1 _ c1 rfl rfl)
      subst h0; subst h1; rfl

/-- A pair's type. -/
structure PairT (P : Program) (t : TypeId) : Prop where mk ::
  out : ∃ f g : Field, P.underlying t = some (.struct #[f, g]) ∧ (∃ k, P.underlying f.type = some (.int k)) ∧ (∃ k, P.underlying g.type = some (.int k)) ∧ f.offset = 0 ∧ g.offset = 1 ∧ f.name ≠ "_" ∧ g.name ≠ "_" ∧ P.stoodInHeld t = false

theorem ktOf_cases {t : TypeId} {kt : KT} (h : ktOf P t = some kt) :
    (kt = .int ∧ ∃ k, P.underlying t = some (.int k)) ∨ (kt = .str ∧ P.underlying t = some .string) ∨ (kt = .pair ∧ PairT P t) := by
  unfold ktOf at h
  split at h
  · injection h with h; exact .inl ⟨h.symm, _, ‹_›⟩
  · injection h with h; exact .inr (.inl ⟨h.symm, ‹_›⟩)
  · rename_i fs hu
    split at h
    · rename_i f g hfs
      split at h
      · rename_i k1 k2 i j h1 h2 h3 h4
        split at h
        · rename_i hc
          injection h with h
          refine .inr (.inr ⟨h.symm, ⟨f, g, ?_, ⟨_, h1⟩, ⟨_, h2⟩, hc.1, hc.2.1, hc.2.2.1, hc.2.2.2.1, hc.2.2.2.2.2.2⟩⟩)
          have : fs = #[f, g] := by rw [← Array.toArray_toList (xs := fs), hfs]
          rw [hu, this]
        · cases h
      · cases h
    · cases h
  · cases h

theorem run_isAgg_int {t : TypeId} {k : IntKind} (h : P.underlying t = some (.int k)) : (isAgg t).run P w = .ok false w := by
  simp only [isAgg, Sem.run_bind, run_underlying h, Result.andThen_ok]; rfl

theorem run_equalIn_pair (d : Nat) {t : TypeId} (ht : PairT P t) (k l : IntKind) (m n m' n' : Int) :
    (Op.equalIn (d + 2) t (.agg #[.int k m, .int l n]) (.agg #[.int k m', .int l n'])).run P w = .ok (m == m' && n == n') w := by
  obtain ⟨f, g, hu, ⟨k1, h1⟩, ⟨k2, h2⟩, ho, ho', hn, hn', hst⟩ := ht.out
  have hfo : P.fieldsOf t = #[f, g] := by simp [Program.fieldsOf, hu]
  rw [run_equalIn_struct w (d + 1) t _ _ (by rw [hu, hfo]) hst, hfo]
  simp only [Op.eqFields, hn, hn', ne_eq, not_false_eq_true, if_true, Sem.run_bind, part, run_isAgg_int h1, run_isAgg_int h2, Result.andThen_ok, ho, ho', Bool.false_eq_true, if_false]
  simp [run_equalIn_int (w := w) d f.type k k1 m m' h1, run_equalIn_int (w := w) d g.type l k2 n n' h2]
  by_cases e : m = m' <;> by_cases e' : n = n' <;> simp [e, e', run_isAgg_int h2, run_equalIn_int (w := w) d g.type l k2 _ _ h2]

theorem run_equal_pair {t : TypeId} (ht : PairT P t) (k l : IntKind) (m n m' n' : Int) :
    (Op.equal t (.agg #[.int k m, .int l n]) (.agg #[.int k m', .int l n'])).run P w = .ok (m == m' && n == n') w := run_equalIn_pair 9998 ht k l m n m' n'

theorem run_checkKey1 (b : Bool) (d : Nat) {t : TypeId} {k : IntKind} (h : P.underlying t = some (.int k)) (v : Value) : (Instr.checkKey b (d + 1) t v).run P w = .ok () w := by
  simp [Instr.checkKey, run_underlying h]
theorem run_checkKey2 (b : Bool) (d : Nat) {t : TypeId} (h : P.underlying t = some .string) (v : Value) : (Instr.checkKey b (d + 1) t v).run P w = .ok () w := by
  simp [Instr.checkKey, run_underlying h]
theorem run_checkKey3 (b : Bool) (d : Nat) {t : TypeId} (ht : PairT P t) (k l : IntKind) (m n : Int) : (Instr.checkKey b (d + 2) t (.agg #[.int k m, .int l n])).run P w = .ok () w := by
  obtain ⟨f, g, hu, ⟨k1, h1⟩, ⟨k2, h2⟩, ho, ho', hn, hn', hst⟩ := ht.out
  unfold Instr.checkKey
  simp only [Sem.run_bind, run_underlying hu, Result.andThen_ok]
  rw [← Array.forIn_toList]
  simp [hn, hn', part, run_isAgg_int h1, run_isAgg_int h2, ho, ho', run_checkKey1 b d h1, run_checkKey1 b d h2]

theorem run_checkKey {t : TypeId} {kt : KT} (hkt : ktOf P t = some kt) {k : V} {ck : Value} (hk : VRel ρ O w k ck) (hik : k.isKey kt = true) (b : Bool) : (Instr.checkKey b 10000 t ck).run P w = .ok () w := by
  rcases ktOf_cases hkt with ⟨rfl, kk, hu⟩ | ⟨rfl, hu⟩ | ⟨rfl, ht⟩
  · exact run_checkKey1 b 9999 hu ck
  · exact run_checkKey2 b 9999 hu ck
  · unfold V.isKey at hik
    split at hik <;> first | cases hik | skip
    · rename_i e; cases e
    · rename_i e; cases e
    · rw [vrel_pair hk]
      exact run_checkKey3 b 9998 ht _ _ _ _

/-- Entries of a map, the abstract and the model's. -/
def ERel (ρ : Ren) (O : Nat → Prop) (w : World) (es : List (V × V)) (ces : List MapEntry) : Prop :=
  ces.length = es.length ∧ ∀ (j : Nat) (k v : V), es[j]? = some (k, v) → ∃ me : MapEntry, ces[j]? = some me ∧ VRel ρ O w k me.key ∧ VRel ρ O w v me.val

theorem ERel.cons {k v : V} {es : List (V × V)} {ces : List MapEntry} (h : ERel ρ O w ((k, v) :: es) ces) : ∃ me ces', ces = me :: ces' ∧ VRel ρ O w k me.key ∧ VRel ρ O w v me.val ∧ ERel ρ O w es ces' := by
  obtain ⟨hl, hr⟩ := h
  cases ces with
  | nil => simp at hl
  | cons me ces' =>
    obtain ⟨me', h1, h2, h3⟩ := hr 0 k v rfl
    simp at h1; subst h1
    exact ⟨_, _, rfl, h2, h3, by simpa using hl, fun j k' v' hj => by simpa using hr (j + 1) k' v' (by simpa using hj)⟩

theorem findNow_int {kk k : IntKind} {n : Int} : ∀ {es : List (V × V)} {ces : List MapEntry} {i : Nat} {r : Option Nat}, ERel ρ O w es ces → findK (.int k n) es i = some r →
    ∃ q, Instr.findNow (.int kk) (.int k n) ces i = some q ∧ (match r with
      | none => q = none
      | some j => ∃ me, i ≤ j ∧ ces[j - i]? = some me ∧ q = some (j, me.val) ∧ me.key = .int k n)
  | [], ces, i, r, hE, hf => by
    injection hf with hf; subst hf
    have : ces = [] := List.eq_nil_of_length_eq_zero (by simpa using hE.1)
    subst this
    exact ⟨none, rfl, rfl⟩
  | (k', v') :: es, ces, i, r, hE, hf => by
    obtain ⟨me, ces', rfl, h1, h2, h3⟩ := hE.cons
    simp only [findK] at hf
    split at hf
    · rename_i hk
      injection hf with hf; subst hf
      cases k' <;> simp only [keyEq] at hk <;> first | (cases hk; done) | skip
      rename_i l m
      split at hk
      · rename_i hkl; subst hkl
        injection hk with hk
        have hnm : n = m := by simpa using hk
        subst hnm
        have := vrel_int h1
        refine ⟨some (i, me.val), ?_, me, Nat.le_refl _, by simp, rfl, this⟩
        simp [Instr.findNow, this, Instr.sameNow]
      · cases hk
    · rename_i hk
      cases k' <;> simp only [keyEq] at hk <;> first | (cases hk; done) | skip
      rename_i l m
      split at hk
      · rename_i hkl; subst hkl
        injection hk with hk
        have hnm : ¬ n = m := by simpa using hk
        obtain ⟨q, g1, g2⟩ := findNow_int (kk := kk) h3 hf
        have := vrel_int h1
        refine ⟨q, ?_, ?_⟩
        · simp [Instr.findNow, this, Instr.sameNow, hk, g1]
        · cases r with
          | none => exact g2
          | some j =>
            obtain ⟨me', a1, a2, a3, a4⟩ := g2
            refine ⟨me', by omega, ?_, a3, a4⟩
            rw [show j - i = (j - (i + 1)) + 1 from by omega]
            simpa using a2
      · cases hk
    · cases hf

theorem findNow_str {s : ByteArray} : ∀ {es : List (V × V)} {ces : List MapEntry} {i : Nat} {r : Option Nat}, ERel ρ O w es ces → findK (.str s) es i = some r →
    ∃ q, Instr.findNow .string (.string s) ces i = some q ∧ (match r with
      | none => q = none
      | some j => ∃ me, i ≤ j ∧ ces[j - i]? = some me ∧ q = some (j, me.val) ∧ me.key = .string s)
  | [], ces, i, r, hE, hf => by
    injection hf with hf; subst hf
    have : ces = [] := List.eq_nil_of_length_eq_zero (by simpa using hE.1)
    subst this
    exact ⟨none, rfl, rfl⟩
  | (k', v') :: es, ces, i, r, hE, hf => by
    obtain ⟨me, ces', rfl, h1, h2, h3⟩ := hE.cons
    simp only [findK] at hf
    split at hf
    · rename_i hk
      injection hf with hf; subst hf
      cases k' <;> simp only [keyEq] at hk <;> first | (cases hk; done) | skip
      rename_i m
      injection hk with hk
      have hnm : s = m := by simpa [ba_beq] using hk
      subst hnm
      have := vrel_str h1
      refine ⟨some (i, me.val), ?_, me, Nat.le_refl _, by simp, rfl, this⟩
      simp [Instr.findNow, this, Instr.sameNow, ba_beq]
    · rename_i hk
      cases k' <;> simp only [keyEq] at hk <;> first | (cases hk; done) | skip
      rename_i m
      injection hk with hk
      obtain ⟨q, g1, g2⟩ := findNow_str h3 hf
      have := vrel_str h1
      refine ⟨q, ?_, ?_⟩
      · simp [Instr.findNow, this, Instr.sameNow, hk, g1]
      · cases r with
        | none => exact g2
        | some j =>
          obtain ⟨me', a1, a2, a3, a4⟩ := g2
          refine ⟨me', by omega, ?_, a3, a4⟩
          rw [show j - i = (j - (i + 1)) + 1 from by omega]
          simpa using a2
    · cases hf

theorem findAsking_pair {t : TypeId} (ht : PairT P t) {k l : IntKind} {m n : Int} : ∀ {es : List (V × V)} {ces : List MapEntry} {i : Nat} {r : Option Nat}, ERel ρ O w es ces → findK (.agg [.int k m, .int l n]) es i = some r →
    ∃ q, (Instr.findAsking t (.agg #[.int k m, .int l n]) ces i).run P w = .ok q w ∧ (match r with
      | none => q = none
      | some j => ∃ me, i ≤ j ∧ ces[j - i]? = some me ∧ q = some (j, me.val) ∧ me.key = .agg #[.int k m, .int l n])
  | [], ces, i, r, hE, hf => by
    injection hf with hf; subst hf
    have : ces = [] := List.eq_nil_of_length_eq_zero (by simpa using hE.1)
    subst this
    exact ⟨none, rfl, rfl⟩
  | (k', v') :: es, ces, i, r, hE, hf => by
    obtain ⟨me, ces', rfl, h1, h2, h3⟩ := hE.cons
    have hk'' : ∀ b, keyEq (.agg [.int k m, .int l n]) k' = some b → ∃ m' n', k' = .agg [.int k m', .int l n'] ∧ b = (m == m' && n == n') := by
      intro b hb
      unfold keyEq at hb
      split at hb
      · rename_i e; cases e
      · rename_i e; cases e
      · rename_i e
        injection e with e; injection e with e1 e; injection e with e2 e
        injection e1 with e3 e4; injection e2 with e5 e6
        subst e3; subst e4; subst e5; subst e6
        split at hb
        · rename_i hc
          obtain ⟨rfl, rfl⟩ := hc
          injection hb with hb
          exact ⟨_, _, rfl, hb.symm⟩
        · cases hb
      · cases hb
    simp only [findK] at hf
    split at hf
    · rename_i hk
      injection hf with hf; subst hf
      obtain ⟨m', n', rfl, hb⟩ := hk'' _ hk
      have hb' : m = m' ∧ n = n' := by simpa using hb.symm
      obtain ⟨rfl, rfl⟩ := hb'
      have := vrel_pair h1
      refine ⟨some (i, me.val), ?_, me, Nat.le_refl _, by simp, rfl, this⟩
      simp only [Instr.findAsking, Sem.run_bind, this, run_equal_pair ht, Result.andThen_ok]
      simp
    · rename_i hk
      obtain ⟨m', n', rfl, hb⟩ := hk'' _ hk
      obtain ⟨q, g1, g2⟩ := findAsking_pair ht h3 hf
      have := vrel_pair h1
      refine ⟨q, ?_, ?_⟩
      · simp only [Instr.findAsking, Sem.run_bind, this, run_equal_pair ht, Result.andThen_ok, ← hb]
        simpa using g1
      · cases r with
        | none => exact g2
        | some j =>
          obtain ⟨me', a1, a2, a3, a4⟩ := g2
          refine ⟨me', by omega, ?_, a3, a4⟩
          rw [show j - i = (j - (i + 1)) + 1 from by omega]
          simpa using a2
    · cases hf

theorem findKey_sound {t : TypeId} {kt : KT} (hkt : ktOf P t = some kt) {k : V} {ck : Value} (hk : VRel ρ O w k ck) (hik : k.isKey kt = true) {es : List (V × V)} {ces : List MapEntry} (hE : ERel ρ O w es ces) {r : Option Nat} (hf : findK k es 0 = some r) :
    ∃ q, (Instr.findKey t ck ces).run P w = .ok q w ∧ (match r with
      | none => q = none
      | some j => ∃ me, ces[j]? = some me ∧ q = some (j, me.val) ∧ Instr.sameBits 10000 me.key ck = true) := by
  rcases ktOf_cases hkt with ⟨rfl, kk, hu⟩ | ⟨rfl, hu⟩ | ⟨rfl, ht⟩
  · unfold V.isKey at hik
    split at hik <;> first | (cases hik; done) | skip
    · rename_i k0 n0 _
      have := vrel_int hk; subst this
      obtain ⟨q, h1, h2⟩ := findNow_int (kk := kk) hE hf
      refine ⟨q, by simp [Instr.findKey, run_underlying hu, h1], ?_⟩
      cases r with
      | none => exact h2
      | some j =>
        obtain ⟨me, _, a2, a3, a4⟩ := h2
        exact ⟨me, by simpa using a2, a3, by rw [a4]; simp [Instr.sameBits, ba_beq]⟩
    · rename_i e; cases e
    · rename_i e; cases e
  · unfold V.isKey at hik
    split at hik <;> first | (cases hik; done) | skip
    · rename_i e; cases e
    · have := vrel_str hk; subst this
      obtain ⟨q, h1, h2⟩ := findNow_str hE hf
      refine ⟨q, by simp [Instr.findKey, run_underlying hu, h1], ?_⟩
      cases r with
      | none => exact h2
      | some j =>
        obtain ⟨me, _, a2, a3, a4⟩ := h2
        exact ⟨me, by simpa using a2, a3, by rw [a4]; simp [Instr.sameBits, ba_beq]⟩
    · rename_i e; cases e
  · unfold V.isKey at hik
    split at hik <;> first | (cases hik; done) | skip
    · rename_i e; cases e
    · rename_i e; cases e
    · have := vrel_pair hk; subst this
      obtain ⟨q, h1, h2⟩ := findAsking_pair ht hE hf
      obtain ⟨f, g, hu, _⟩ := ht.out
      refine ⟨q, ?_, ?_⟩
      · simp only [Instr.findKey, Sem.run_bind, run_underlying hu, Result.andThen_ok]
        cases ces with
        | nil =>
          simp only [Instr.findNow]
          have : es = [] := List.eq_nil_of_length_eq_zero (by simpa using hE.1.symm)
          subst this
          have hr : r = none := by simpa [findK] using hf.symm
          subst hr
          simp only at h2
          subst h2
          rfl
        | cons me rest =>
          simp only [Instr.findNow, Instr.sameNow]
          exact h1
      · cases r with
        | none => exact h2
        | some j =>
          obtain ⟨me, _, a2, a3, a4⟩ := h2
          refine ⟨me, by simpa using a2, a3, ?_⟩
          rw [a4]
          show Instr.sameBits (9999 + 1) _ _ = true
          simp [Instr.sameBits]

theorem bytesOfV_sound : ∀ {cs : List V} {vs : List Value} {l : List UInt8}, cs.length = vs.length → (∀ (j : Nat) (y : V) (u : Value), cs[j]? = some y → vs[j]? = some u → VRel ρ O w y u) → bytesOfV cs = some l →
    ∃ ns : List Int, vs = ns.map (Value.int .u8) ∧ l = ns.map fun n => UInt8.ofNat n.toNat
  | [], vs, l, hl, hr, hb => by
    injection hb with hb; subst hb
    have : vs = [] := List.eq_nil_of_length_eq_zero (by simpa using hl.symm)
    subst this
    exact ⟨[], rfl, rfl⟩
  | c :: cs, [], l, hl, hr, hb => by simp at hl
  | c :: cs, v :: vs, l, hl, hr, hb => by
    unfold bytesOfV at hb
    split at hb
    · rename_i e; cases e
    · rename_i n rest e
      injection e with e1 e2; subst e1; subst e2
      simp only [Option.map_eq_some_iff] at hb
      obtain ⟨l', hl', rfl⟩ := hb
      obtain ⟨ns, rfl, rfl⟩ := bytesOfV_sound (by simpa using hl) (fun j y u hy hu => hr (j + 1) y u (by simpa using hy) (by simpa using hu)) hl'
      have := vrel_int (hr 0 _ v rfl rfl)
      subst this
      exact ⟨n :: ns, rfl, rfl⟩
    · cases hb

theorem foldl_push : ∀ (ns : List Int) (s : ByteArray), ns.foldl (fun r n => r.push (UInt8.ofNat n.toNat)) s = ⟨(s.data.toList ++ ns.map fun n => UInt8.ofNat n.toNat).toArray⟩
  | [], s => by cases s; simp
  | n :: ns, s => by
    rw [List.foldl_cons, foldl_push ns]
    simp [ByteArray.push]

theorem cstr_sound {h : Heap} (hs : St ρ h w) {s e d : TypeId} (hu : P.underlying s = some (.slice e)) (he : P.underlying e = some (.int .u8)) (hd : P.underlying d = some .string) {x : V} {cx : Value} (hx : VRel ρ (Own ρ h) w x cx) {cs : List V} {n : Nat}
    (hc : cellsOf h 1 x = some (cs, n)) {l : List UInt8} (hl : bytesOfV cs = some l) : (convert s d cx).run P w = .ok (.string ⟨l.toArray⟩) w := by
  obtain ⟨A, c, rfl, h1, h2, h3, vs, h4, h5, h6⟩ := cells_sound hs hx hc
  obtain ⟨ns, rfl, rfl⟩ := bytesOfV_sound (by omega) h6 hl
  rw [run_convert_bytes_string w s d e _ _ _ hu he hd]
  cases A with
  | none =>
    have h0 : n = 0 := by
      by_cases hz : n = 0
      · exact hz
      · obtain ⟨ad, e, _⟩ := h5 (by omega)
        cases e
    subst h0
    have : ns = [] := List.eq_nil_of_length_eq_zero (by simpa using h4)
    subst this
    rfl
  | some ad =>
    have hlc : (loadCells ad n).run P w = .ok (ns.map (Value.int .u8)).toArray w := by
      have hn : n = (ns.map (Value.int .u8)).length := by rw [h4]; omega
      by_cases hz : n * 1 = 0
      · have hn0 : n = 0 := by omega
        have : ns = [] := List.eq_nil_of_length_eq_zero (by simpa [hn0] using h4)
        subst this; subst hn0
        rfl
      · obtain ⟨ad', e, hcell⟩ := h5 hz
        injection e with e; subst e
        rw [hn]
        exact run_loadCells_list w ad _ hcell
    rw [run_bytesToString w ad n c ns hlc, foldl_push]
    simp

/-- A part laid into cells. -/
theorem setAt_length : ∀ (v : List V) (cs : List V) (off : Nat), (setAt cs off v).length = cs.length
  | [], cs, off => rfl
  | x :: v, cs, off => by rw [setAt, setAt_length v]; simp

theorem setAt_get : ∀ (v : List V) (cs : List V) (off j : Nat), off + v.length ≤ cs.length → (setAt cs off v)[j]? = if off ≤ j ∧ j < off + v.length then v[j - off]? else cs[j]?
  | [], cs, off, j, h => by rw [setAt, if_neg (by simp)]
  | x :: v, cs, off, j, h => by
    rw [List.length_cons] at h
    rw [setAt, setAt_get v _ _ _ (by simp; omega)]
    by_cases h1 : off + 1 ≤ j ∧ j < off + 1 + v.length
    · rw [if_pos h1, if_pos (by simp; omega), show j - off = (j - (off + 1)) + 1 from by omega]
      simp
    · rw [if_neg h1]
      by_cases h2 : j = off
      · subst h2
        rw [if_pos (by simp), List.getElem?_set_self (by omega)]
        simp
      · rw [if_neg (by simp; omega), List.getElem?_set_ne (by omega)]

/-- The model's laying in. -/
def layIn (cs : Array Value) (off : Nat) (v : Array Value) : Array Value := v.zipIdx.foldl (fun cs (c, j) => cs.setIfInBounds (off + j) c) cs

theorem layIn_spec (cs : Array Value) (off : Nat) (v : Array Value) : (layIn cs off v).size = cs.size ∧ ∀ j, off + v.size ≤ cs.size → (layIn cs off v)[j]? = if off ≤ j ∧ j < off + v.size then v[j - off]? else cs[j]? := by
  have key : ∀ (l : List Value) (k : Nat) (cs : Array Value),
      ((l.zipIdx k).foldl (fun cs (c, j) => cs.setIfInBounds (off + j) c) cs).size = cs.size ∧
      ∀ j, off + k + l.length ≤ cs.size → ((l.zipIdx k).foldl (fun cs (c, j) => cs.setIfInBounds (off + j) c) cs)[j]? = if off + k ≤ j ∧ j < off + k + l.length then l[j - (off + k)]? else cs[j]? := by
    intro l
    induction l with
    | nil => intro k cs; exact ⟨rfl, fun j _ => by simp; intro h1 h2; omega⟩
    | cons x l ih =>
      intro k cs
      obtain ⟨h1, h2⟩ := ih (k + 1) (cs.setIfInBounds (off + k) x)
      refine ⟨by simpa using h1, fun j hj => ?_⟩
      rw [List.length_cons] at hj
      rw [List.zipIdx_cons, List.foldl_cons]
      have := h2 j (by simp; omega)
      simp only at this ⊢
      rw [this]
      by_cases c1 : off + (k + 1) ≤ j ∧ j < off + (k + 1) + l.length
      · rw [if_pos c1, if_pos (by simp; omega), show j - (off + k) = (j - (off + (k + 1))) + 1 from by omega]
        simp
      · rw [if_neg c1]
        by_cases c2 : j = off + k
        · subst c2
          rw [if_pos (by simp)]
          simp [show off + k < cs.size from by omega]
        · rw [if_neg (by simp; omega), Array.getElem?_setIfInBounds_ne (by omega)]
  have e : layIn cs off v = (v.toList.zipIdx 0).foldl (fun cs (c, j) => cs.setIfInBounds (off + j) c) cs := by
    unfold layIn
    rw [← Array.foldl_toList, Array.toList_zipIdx]
  obtain ⟨h1, h2⟩ := key v.toList 0 cs
  rw [e]
  refine ⟨h1, fun j hj => ?_⟩
  have := h2 j (by simpa using hj)
  simpa using this

/-- Rows of cells, related. -/
def LRel (ρ : Ren) (O : Nat → Prop) (w : World) (xs : List V) (cs : Array Value) : Prop := xs.length = cs.size ∧ ∀ (j : Nat) (x : V) (u : Value), xs[j]? = some x → cs[j]? = some u → VRel ρ O w x u

theorem LRel.layIn {xs v : List V} {cs cv : Array Value} (h : LRel ρ O w xs cs) (hv : LRel ρ O w v cv) {off : Nat} (hle : off + v.length ≤ xs.length) : LRel ρ O w (setAt xs off v) (layIn cs off cv) := by
  obtain ⟨h1, h2⟩ := layIn_spec cs off cv
  refine ⟨by rw [setAt_length, h1, h.1], fun j x u hx hu => ?_⟩
  rw [setAt_get v xs off j hle] at hx
  rw [h2 j (by rw [← h.1, ← hv.1]; exact hle)] at hu
  rw [← hv.1] at hu
  split at hx
  · rename_i c
    rw [if_pos c] at hu
    exact hv.2 _ _ _ hx hu
  · rename_i c
    rw [if_neg c] at hu
    exact h.2 _ _ _ hx hu

end
end Go.Abs
