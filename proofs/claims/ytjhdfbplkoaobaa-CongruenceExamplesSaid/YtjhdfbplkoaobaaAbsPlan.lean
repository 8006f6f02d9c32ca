/- Regions whose order is open: the plan's tree covers every order. All on the abstract side. -/
import Derived.Test.YtjhdfbplkoaobaaAbsTr
set_option linter.unusedVariables false
set_option linter.unusedSimpArgs false
namespace Go.Abs

def Sub (h h' : Heap) : Prop := ∀ b x, h b = some x → h' b = some x
theorem Sub.refl (h : Heap) : Sub h h := fun _ _ hx => hx

/-- What a quiet function's meaning has to be. -/
def QMono (qf : FuncId → List V → Heap → Option V) : Prop := ∀ f args h h' v, Sub h h' → qf f args h = some v → qf f args h' = some v

section
variable {qf : FuncId → List V → Heap → Option V}

theorem cellsOf_mono {h h' : Heap} (hs : Sub h h') {esz : Nat} {x : V} {r : List V × Nat} (hr : cellsOf h esz x = some r) : cellsOf h' esz x = some r := by
  unfold cellsOf at hr ⊢
  split at hr <;> first
    | exact hr
    | skip
  · rename_i e b off n cap
    split at hr
    · rename_i he
      rw [if_pos he]
      split at hr
      · rename_i ty e' xs hb
        rw [hs _ _ hb]
        exact hr
      · cases hr
    · cases hr

theorem apure_mono (hq : QMono qf) {o : AOp} {tm : Nat → V} {h h' : Heap} (hs : Sub h h') {v : V} (hv : apure qf o tm h = some v) : apure qf o tm h' = some v := by
  cases o <;> simp only [apure] at hv ⊢ <;> first
    | exact hv
    | skip
  · unfold aLoad at hv ⊢
    split at hv
    · split at hv
      · rename_i b off _ e esz xs hb
        simp only [hs _ _ hb]
        exact hv
      · cases hv
    · exact hv
    · cases hv
  · unfold aCstr at hv ⊢
    split at hv
    · rename_i cs n hc
      rw [cellsOf_mono hs hc]
      exact hv
    · cases hv
  · unfold aLook at hv ⊢
    split at hv
    · exact hv
    · split at hv
      · rename_i b _ es hb
        simp only [hs _ _ hb]
        exact hv
      · cases hv
    · cases hv
  · exact hq _ _ _ _ _ hs hv

/-- An operation of kind 0 doesn't ask the heap. -/
theorem apure_still {o : AOp} (hk : o.kind = 0) {tm : Nat → V} (h h' : Heap) : apure qf o tm h = apure qf o tm h' := by
  cases o <;> first | rfl | cases hk

def Agree (tm tm' : Nat → V) (l : List Nat) : Prop := ∀ t, t ∈ l → tm t = tm' t

theorem ev_congr {tm tm' : Nat → V} {x : Opnd} (h : Agree tm tm' x.tmps) : x.ev tm = x.ev tm' := by
  cases x with
  | t n => exact h n (by simp [Opnd.tmps])
  | c v => rfl

theorem evo_congr {tm tm' : Nat → V} {x : Option Opnd} (h : Agree tm tm' (optTmps x)) : evo tm x = evo tm' x := by
  cases x with
  | none => rfl
  | some x => simp only [evo]; rw [ev_congr h]

theorem Agree.left {tm tm' : Nat → V} {l r : List Nat} (h : Agree tm tm' (l ++ r)) : Agree tm tm' l := fun t ht => h t (List.mem_append_left _ ht)
theorem Agree.right {tm tm' : Nat → V} {l r : List Nat} (h : Agree tm tm' (l ++ r)) : Agree tm tm' r := fun t ht => h t (List.mem_append_right _ ht)

theorem fillB_congr {tm tm' : Nat → V} : ∀ {ps : List (Nat × Nat × Opnd)} {cs : List V}, Agree tm tm' (ps.flatMap fun p => p.2.2.tmps) → fillB tm cs ps = fillB tm' cs ps
  | [], cs, h => rfl
  | (o, s, x) :: ps, cs, h => by
    rw [List.flatMap_cons] at h
    simp only [fillB, ev_congr h.left, fillB_congr (ps := ps) h.right]

theorem fillS_congr {tm tm' : Nat → V} {esz : Nat} : ∀ {ps : List (Nat × Opnd)} {cs : List V}, Agree tm tm' (ps.flatMap fun p => p.2.tmps) → fillS tm esz cs ps = fillS tm' esz cs ps
  | [], cs, h => rfl
  | (i, x) :: ps, cs, h => by
    rw [List.flatMap_cons] at h
    simp only [fillS, ev_congr h.left, fillS_congr (ps := ps) h.right]

theorem args_congr {tm tm' : Nat → V} : ∀ {xs : List Opnd}, Agree tm tm' (xs.flatMap Opnd.tmps) → xs.map (·.ev tm) = xs.map (·.ev tm')
  | [], h => rfl
  | x :: xs, h => by
    rw [List.flatMap_cons] at h
    simp only [List.map_cons, ev_congr h.left, args_congr (xs := xs) h.right]

theorem apure_congr {o : AOp} {tm tm' : Nat → V} (h : Heap) (ha : Agree tm tm' o.tmps) : apure qf o tm h = apure qf o tm' h := by
  cases o <;> simp only [apure, AOp.tmps] at ha ⊢ <;> first
    | rfl
    | rw [ev_congr ha]
    | rw [ev_congr ha.left, ev_congr ha.right]
    | rw [ev_congr ha.left.left, ev_congr ha.left.right, ev_congr ha.right]
    | rw [fillB_congr ha]
    | rw [args_congr ha]
    | rw [ev_congr ha.left.left.left, evo_congr ha.left.left.right, evo_congr ha.left.right, evo_congr ha.right]
    | rw [ev_congr ha.left.left, evo_congr ha.left.right, evo_congr ha.right]

theorem Wop_congr {C : FuncId → List V → Heap → (V → Heap → Prop) → Prop} {o : AOp} {tm tm' : Nat → V} {h : Heap} {K : V → Heap → Prop} (ha : Agree tm tm' o.tmps) (hw : Wop qf C o tm h K) : Wop qf C o tm' h K := by
  have hp := apure_congr (qf := qf) h ha
  cases o <;> simp only [Wop, AOp.tmps] at ha hw ⊢ <;> first
    | exact hw
    | (rw [← hp]; exact hw)
    | (rw [← ev_congr ha]; exact hw)
    | (rw [← ev_congr ha.left, ← ev_congr ha.right]; exact hw)
    | (rw [← ev_congr ha.left.left, ← ev_congr ha.left.right, ← ev_congr ha.right]; exact hw)
    | (rw [← fillS_congr ha]; exact hw)
    | (rw [← args_congr ha]; exact hw)

/-- The contracts' own law: a weaker question. -/
def CMono (C : FuncId → List V → Heap → (V → Heap → Prop) → Prop) : Prop := ∀ f args h (K K' : V → Heap → Prop), (∀ v h', K v h' → K' v h') → C f args h K → C f args h K'

theorem Wop_mono {C : FuncId → List V → Heap → (V → Heap → Prop) → Prop} (hC : CMono C) {o : AOp} {tm : Nat → V} {h : Heap} {K K' : V → Heap → Prop} (hK : ∀ v h', K v h' → K' v h') (hw : Wop qf C o tm h K) : Wop qf C o tm h K' := by
  cases o <;> simp only [Wop] at hw ⊢ <;> first
    | exact fun b hb => hK _ _ (hw b hb)
    | exact ⟨hw.1, fun b hb => hK _ _ (hw.2 b hb)⟩
    | exact hC _ _ _ _ _ hK hw
    | (split at hw
       · exact hK _ _ hw
       · exact hw.elim)
    | skip
  · unfold wBuildS at hw ⊢
    split at hw
    · exact fun b hb => hK _ _ (hw b hb)
    · exact hw.elim
  · unfold wStore at hw ⊢
    split at hw
    · split at hw
      · exact ⟨hw.1, hK _ _ hw.2⟩
      · exact hw.elim
    · exact hw.elim
  · unfold wMkS at hw ⊢
    split at hw
    · exact ⟨hw.1, fun b hb => hK _ _ (hw.2 b hb)⟩
    · exact hw.elim
  · unfold wMupd at hw ⊢
    split at hw
    · split at hw
      · split at hw
        · exact hK _ _ hw
        · exact hw.elim
      · exact hw.elim
    · exact hw.elim
  · unfold wMent at hw ⊢
    split at hw
    · split at hw
      · refine ⟨hw.1, ?_⟩
        have hw := hw.2
        split at hw
        · split at hw
          · exact hK _ _ hw
          · exact hw.elim
        · exact hK _ _ hw
        · exact hw.elim
      · exact hw.elim
    · exact hw.elim
  · unfold wEsts at hw ⊢
    split at hw
    · split at hw
      · exact ⟨hw.1, hK _ _ hw.2⟩
      · exact hw.elim
    · exact hw.elim
  · unfold wApp at hw ⊢
    split at hw
    · exact hw.elim
    · refine ⟨hw.1, ?_⟩
      have hw := hw.2
      split at hw
      · split at hw
        · rename_i c; rw [if_pos c]; exact hK _ _ hw
        · rename_i c; rw [if_neg c]; exact ⟨hw.1, hw.2.1, fun b hb => hK _ _ (hw.2.2 b hb)⟩
      · split at hw
        · refine ⟨hw.1, ?_⟩
          have hw := hw.2
          split at hw
          · refine ⟨hw.1, ?_⟩
            have hw := hw.2
            split at hw
            · rename_i c; rw [if_pos c]; exact hK _ _ hw
            · rename_i c; rw [if_neg c]; exact fun b hb => hK _ _ (hw b hb)
          · exact ⟨hw.1, fun b hb => hK _ _ (hw.2 b hb)⟩
        · exact hw.elim
      · exact hw.elim

theorem sub_upd {h : Heap} {b : Nat} (hb : h b = none) (x : Blk) : Sub h (upd h b x) := by
  intro c y hc
  have : c ≠ b := by rintro rfl; rw [hb] at hc; cases hc
  rw [upd_ne _ _ _ _ this]; exact hc

/-- An operation that only reads or makes new blocks. -/
theorem Wop_sub {C : FuncId → List V → Heap → (V → Heap → Prop) → Prop} {o : AOp} (hk : o.kind < 3) {tm : Nat → V} {h : Heap} {K : V → Heap → Prop} (hw : Wop qf C o tm h K) : Wop qf C o tm h (fun v h' => K v h' ∧ Sub h h') := by
  cases o <;> simp only [Wop] at hw ⊢ <;> first
    | (simp [AOp.kind] at hk; done)
    | exact fun b hb => ⟨hw b hb, sub_upd hb _⟩
    | exact ⟨hw.1, fun b hb => ⟨hw.2 b hb, sub_upd hb _⟩⟩
    | (split at hw
       · exact ⟨hw, Sub.refl _⟩
       · exact hw.elim)
    | skip
  · unfold wBuildS at hw ⊢
    split at hw
    · exact fun b hb => ⟨hw b hb, sub_upd hb _⟩
    · exact hw.elim
  · unfold wMkS at hw ⊢
    split at hw
    · exact ⟨hw.1, fun b hb => ⟨hw.2 b hb, sub_upd hb _⟩⟩
    · exact hw.elim

/-- The value of an operation of kind 0 or 1 with its guard. -/
def pv (qf : FuncId → List V → Heap → Option V) (x : AOper) (tm : Nat → V) (h : Heap) : Option V :=
  match x.guard with
  | none => apure qf x.op tm h
  | some (t, want) =>
    match tm t with
    | .bool b => if b = want then apure qf x.op tm h else some .undef
    | .undef => some .undef
    | _ => none

theorem Wop_pure {C : FuncId → List V → Heap → (V → Heap → Prop) → Prop} {o : AOp} (hk : o.kind < 2) {tm : Nat → V} {h : Heap} {K : V → Heap → Prop} : Wop qf C o tm h K ↔ ∃ v, apure qf o tm h = some v ∧ K v h := by
  cases o <;> first
    | (simp [AOp.kind] at hk; done)
    | (simp only [Wop]
       split
       · rename_i v hv; simp [hv]
       · rename_i hv; simp [hv])

theorem Woper_pure {C : FuncId → List V → Heap → (V → Heap → Prop) → Prop} {x : AOper} (hk : x.op.kind < 2) {K : (Nat → V) → Heap → Prop} {tm : Nat → V} {h : Heap} :
    Woper qf C x K tm h ↔ ∃ v, pv qf x tm h = some v ∧ K (putd tm x.dst v) h := by
  obtain ⟨dst, op, guard⟩ := x
  cases guard with
  | none =>
    simp only [Woper, pv]
    exact Wop_pure hk
  | some g =>
    obtain ⟨t, want⟩ := g
    simp only [Woper, pv]
    cases tm t <;> simp only
    · simp
    · simp
    · simp
    · rename_i b
      by_cases c : b = want
      · simp only [c, if_true]; exact Wop_pure hk
      · simp [c]
    all_goals simp

theorem putd_ne {tm : Nat → V} {d : Option Nat} {v : V} {t : Nat} (h : ∀ e, d = some e → t ≠ e) : putd tm d v t = tm t := by
  cases d with
  | none => rfl
  | some d => simp [putd, put, h d rfl]

theorem putd_comm {tm : Nat → V} {d e : Option Nat} {u v : V} (h : ∀ x, d = some x → e ≠ some x) : putd (putd tm d u) e v = putd (putd tm e v) d u := by
  cases d with
  | none => rfl
  | some d =>
    cases e with
    | none => rfl
    | some e =>
      have hne : e ≠ d := fun hh => h d rfl (by rw [hh])
      funext t
      simp only [putd, put]
      by_cases h1 : t = e
      · subst h1; simp [hne]
      · simp [h1]

theorem agree_putd {tm : Nat → V} {d : Option Nat} {v : V} {l : List Nat} (h : ∀ e, d = some e → e ∉ l) : Agree (putd tm d v) tm l :=
  fun t ht => putd_ne fun e he hte => h e he (hte ▸ ht)

theorem apart_spec {x y : AOper} (h : x.apart y = true) : (∀ d, x.dst = some d → d ∉ y.reads) ∧ (∀ d, x.dst = some d → y.dst ≠ some d) ∧ (∀ d, y.dst = some d → d ∉ x.reads) := by
  refine ⟨fun d hd => ?_, fun d hd => ?_, fun d hd => ?_⟩ <;> simp [AOper.apart, hd] at h
  · exact h.1.1
  · exact h.1.2
  · exact h.2

theorem reads_op {x : AOper} {t : Nat} (h : t ∈ x.op.tmps) : t ∈ x.reads := List.mem_append_left _ h
theorem reads_guard {x : AOper} {t : Nat} {b : Bool} (h : x.guard = some (t, b)) : t ∈ x.reads := by simp [AOper.reads, h]

theorem pv_congr {x : AOper} {tm tm' : Nat → V} (h : Heap) (ha : Agree tm tm' x.reads) : pv qf x tm h = pv qf x tm' h := by
  have hp := apure_congr (qf := qf) (o := x.op) h (fun t ht => ha t (reads_op ht))
  unfold pv
  split
  · exact hp
  · rename_i t want hg
    rw [ha t (reads_guard hg), hp]

theorem pv_mono (hq : QMono qf) {x : AOper} {tm : Nat → V} {h h' : Heap} (hs : Sub h h') {v : V} (hv : pv qf x tm h = some v) : pv qf x tm h' = some v := by
  unfold pv at hv ⊢
  split at hv
  · exact apure_mono hq hs hv
  · split at hv
    · split at hv
      · rename_i c; rw [if_pos c]; exact apure_mono hq hs hv
      · rename_i c; rw [if_neg c]; exact hv
    · exact hv
    · cases hv

theorem pv_still {x : AOper} (hk : x.op.kind = 0) {tm : Nat → V} (h h' : Heap) : pv qf x tm h = pv qf x tm h' := by
  unfold pv
  rw [apure_still hk h h']

theorem Woper_mono {C : FuncId → List V → Heap → (V → Heap → Prop) → Prop} (hC : CMono C) {o : AOper} {K K' : (Nat → V) → Heap → Prop} (hK : ∀ tm h, K tm h → K' tm h) {tm : Nat → V} {h : Heap} (hw : Woper qf C o K tm h) : Woper qf C o K' tm h := by
  unfold Woper at hw ⊢
  split at hw
  · exact Wop_mono hC (fun _ _ h => hK _ _ h) hw
  · split at hw
    · split at hw
      · rename_i c; rw [if_pos c]; exact Wop_mono hC (fun _ _ h => hK _ _ h) hw
      · rename_i c; rw [if_neg c]; exact hK _ _ hw
    · exact hK _ _ hw
    · exact hw.elim

/-- The later operation goes ahead. -/
theorem Woper_swap {C : FuncId → List V → Heap → (V → Heap → Prop) → Prop} (hC : CMono C) (hq : QMono qf) {x y : AOper} (hk : x.op.kind < 2) (ha : x.ahead y = true) {K : (Nat → V) → Heap → Prop} {tm : Nat → V} {h : Heap}
    (hw : Woper qf C x (Woper qf C y K) tm h) : Woper qf C y (Woper qf C x K) tm h := by
  simp only [AOper.ahead, Bool.and_eq_true] at ha
  obtain ⟨hap, hkind⟩ := ha
  obtain ⟨a1, a2, a3⟩ := apart_spec hap
  obtain ⟨v, hv, hw⟩ := (Woper_pure hk).1 hw
  have hag : Agree (putd tm x.dst v) tm y.reads := agree_putd a1
  have fin : ∀ (u : V) (h' : Heap), (x.op.kind = 0 ∨ Sub h h') → K (putd (putd tm x.dst v) y.dst u) h' → Woper qf C x K (putd tm y.dst u) h' := by
    intro u h' hh hKu
    refine (Woper_pure hk).2 ⟨v, ?_, ?_⟩
    · rw [pv_congr h' (agree_putd a3)]
      rcases hh with hh | hh
      · rw [pv_still hh h' h]; exact hv
      · exact pv_mono hq hh hv
    · rw [putd_comm a2] at hKu; exact hKu
  have step : Wop qf C y.op (putd tm x.dst v) h (fun u h' => K (putd (putd tm x.dst v) y.dst u) h') → Wop qf C y.op tm h (fun u h' => Woper qf C x K (putd tm y.dst u) h') := by
    intro hw
    have hw := Wop_congr (tm' := tm) (fun t ht => hag t (reads_op ht)) hw
    simp only [Bool.or_eq_true, Bool.and_eq_true, beq_iff_eq, decide_eq_true_eq] at hkind
    rcases hkind with h0 | ⟨_, h3⟩
    · exact Wop_mono hC (fun u h' hKu => fin u h' (.inl h0) hKu) hw
    · exact Wop_mono hC (fun u h' hKu => fin u h' (.inr hKu.2) hKu.1) (Wop_sub h3 hw)
  unfold Woper at hw ⊢
  split at hw
  · exact step hw
  · rename_i t want hg
    rw [hag t (reads_guard hg)] at hw
    split at hw
    · split at hw
      · rename_i c; rw [if_pos c]; exact step hw
      · rename_i c; rw [if_neg c]; exact fin _ _ (.inr (Sub.refl _)) hw
    · exact fin _ _ (.inr (Sub.refl _)) hw
    · exact hw.elim

/-! ### Every order -/

/-- Whichever ready operation comes next. -/
def Wall (qf : FuncId → List V → Heap → Option V) (C : FuncId → List V → Heap → (V → Heap → Prop) → Prop) (ops : Array Oper) (aops : Array AOper) : Nat → Array Bool → ((Nat → V) → Heap → Prop) → (Nat → V) → Heap → Prop
  | 0, listed, K, tm, h => Region.ready .any ops listed = [] ∧ K tm h
  | n + 1, listed, K, tm, h => (Region.ready .any ops listed = [] → K tm h) ∧
    ∀ i ∈ Region.ready .any ops listed, ∃ o, aops[i]? = some o ∧ Woper qf C o (Wall qf C ops aops n (listed.setIfInBounds i true) K) tm h

theorem mem_ready {ops : Array Oper} {listed : Array Bool} {i : Nat} : i ∈ Region.ready .any ops listed ↔
    i < ops.size ∧ listed.getD i true = false ∧ ∃ o, ops[i]? = some o ∧ ∀ e ∈ o.after, Region.binds .any e = true → listed.getD e.on false = true := by
  unfold Region.ready
  simp only [List.mem_filter, List.mem_range, Bool.and_eq_true, Bool.not_eq_true']
  constructor
  · rintro ⟨h1, h2, h3⟩
    refine ⟨h1, h2, ops[i], Array.getElem?_eq_getElem h1, fun e he hb => ?_⟩
    rw [Array.getElem?_eq_getElem h1] at h3
    simp only [Option.map_some, Option.getD_some, Array.all_eq_true_iff_forall_mem] at h3
    have := h3 e he
    simpa [hb] using this
  · rintro ⟨h1, h2, o, ho, h3⟩
    refine ⟨h1, h2, ?_⟩
    rw [ho]
    simp only [Option.map_some, Option.getD_some, Array.all_eq_true_iff_forall_mem]
    intro e he
    by_cases hb : Region.binds .any e = true
    · simp [hb, h3 e he hb]
    · simp [hb]

/-- What is listed has all that must come before it listed. -/
def Closed (ops : Array Oper) (listed : Array Bool) : Prop := listed.size = ops.size ∧ ∀ j o, listed.getD j false = true → ops[j]? = some o → ∀ e ∈ o.after, Region.binds .any e = true → listed.getD e.on false = true

theorem getD_set {listed : Array Bool} {i j : Nat} (b : Bool) (hi : i < listed.size) : (listed.setIfInBounds i true).getD j b = if j = i then true else listed.getD j b := by
  simp only [Array.getD_eq_getD_getElem?, Array.getElem?_setIfInBounds]
  by_cases e : i = j
  · subst e; simp [hi]
  · simp [e, Ne.symm e]

theorem Closed.set {ops : Array Oper} {listed : Array Bool} (hc : Closed ops listed) {i : Nat} (hi : i ∈ Region.ready .any ops listed) : Closed ops (listed.setIfInBounds i true) := by
  obtain ⟨h1, h2, o, ho, h3⟩ := mem_ready.1 hi
  have hil : i < listed.size := by rw [hc.1]; exact h1
  refine ⟨by simp [hc.1], fun j o' hj ho' e he hb => ?_⟩
  rw [getD_set _ hil] at hj ⊢
  by_cases e1 : e.on = i
  · rw [if_pos e1]
  · rw [if_neg e1]
    by_cases e2 : j = i
    · subst e2
      rw [ho] at ho'; injection ho' with ho'; subst ho'
      exact h3 e he hb
    · rw [if_neg e2] at hj
      exact hc.2 j o' hj ho' e he hb

theorem ready_set {ops : Array Oper} {listed : Array Bool} (hc : Closed ops listed) {i j : Nat} (hi : i ∈ Region.ready .any ops listed) (hj : j ∈ Region.ready .any ops listed) (hne : j ≠ i) : j ∈ Region.ready .any ops (listed.setIfInBounds i true) := by
  obtain ⟨h1, h2, o, ho, h3⟩ := mem_ready.1 hi
  obtain ⟨g1, g2, o', ho', g3⟩ := mem_ready.1 hj
  have hil : i < listed.size := by rw [hc.1]; exact h1
  refine mem_ready.2 ⟨g1, ?_, o', ho', fun e he hb => ?_⟩
  · rw [getD_set _ hil, if_neg hne]; exact g2
  · rw [getD_set _ hil]
    split
    · rfl
    · exact g3 e he hb

/-- What is not listed comes before nothing that is ready. -/
theorem anc_false {ops : Array Oper} {listed : Array Bool} (hc : Closed ops listed) {i : Nat} (hi : listed.getD i false = false) : ∀ (k j : Nat), (∀ o, ops[j]? = some o → ∀ e ∈ o.after, Region.binds .any e = true → listed.getD e.on false = true) → anc ops k j i = false
  | 0, _, _ => rfl
  | k + 1, j, h => by
    unfold anc
    cases ho : ops[j]? with
    | none => simp
    | some o =>
      simp only [Option.map_some, Option.getD_some]
      refine Bool.eq_false_iff.2 fun hh => ?_
      obtain ⟨e, he, hh⟩ := Array.any_eq_true'.1 hh
      simp only [Bool.and_eq_true, Bool.or_eq_true, beq_iff_eq] at hh
      obtain ⟨hb, hh⟩ := hh
      have hl := h o ho e he hb
      rcases hh with hh | hh
      · rw [hh, hi] at hl; cases hl
      · rw [anc_false hc hi k e.on (fun o' ho' e' he' hb' => hc.2 e.on o' hl ho' e' he' hb')] at hh
        cases hh

theorem free_first {C : FuncId → List V → Heap → (V → Heap → Prop) → Prop} (hC : CMono C) (hq : QMono qf) {ops : Array Oper} {aops : Array AOper} {K : (Nat → V) → Heap → Prop} {i : Nat} {x : AOper} (hx : aops[i]? = some x) (hk : x.op.kind < 2) :
    ∀ (n : Nat) (listed : Array Bool) (tm : Nat → V) (h : Heap), Closed ops listed → i ∈ Region.ready .any ops listed →
      (∀ j, j < ops.size → j = i ∨ listed.getD j true = true ∨ anc ops ops.size j i = true ∨ ∃ y, aops[j]? = some y ∧ x.ahead y = true) →
      Woper qf C x (Wall qf C ops aops n (listed.setIfInBounds i true) K) tm h → Wall qf C ops aops (n + 1) listed K tm h := by
  intro n
  induction n with
  | zero =>
    intro listed tm h hc hi hf hw
    refine ⟨fun he => by rw [he] at hi; simp at hi, fun j hj => ?_⟩
    by_cases e : j = i
    · subst e; exact ⟨x, hx, hw⟩
    · obtain ⟨v, _, hr, _⟩ := (Woper_pure hk).1 hw
      have := ready_set hc hi hj e
      rw [hr] at this
      simp at this
  | succ m ih =>
    intro listed tm h hc hi hf hw
    refine ⟨fun he => by rw [he] at hi; simp at hi, fun j hj => ?_⟩
    by_cases e : j = i
    · subst e; exact ⟨x, hx, hw⟩
    · obtain ⟨hj1, hj2, oj, hoj, hj3⟩ := mem_ready.1 hj
      obtain ⟨hi1, hi2, oi, hoi, hi3⟩ := mem_ready.1 hi
      have hil : i < listed.size := by rw [hc.1]; exact hi1
      have hjl : j < listed.size := by rw [hc.1]; exact hj1
      have hin : listed.getD i false = false := by
        have : listed.getD i true = listed.getD i false := by simp [Array.getD_eq_getD_getElem?, hil]
        rw [← this]; exact hi2
      have hanc := anc_false hc hin ops.size j (fun o ho e he hb => by rw [hoj] at ho; injection ho with ho; subst ho; exact hj3 e he hb)
      obtain ⟨y, hy, ha⟩ : ∃ y, aops[j]? = some y ∧ x.ahead y = true := by
        rcases hf j hj1 with h | h | h | h
        · exact absurd h e
        · rw [hj2] at h; cases h
        · rw [hanc] at h; cases h
        · exact h
      refine ⟨y, hy, ?_⟩
      have hw1 : Woper qf C x (Woper qf C y (Wall qf C ops aops m ((listed.setIfInBounds i true).setIfInBounds j true) K)) tm h := by
        refine Woper_mono hC (fun tm' h' hw' => ?_) hw
        obtain ⟨y', hy', hw'⟩ := hw'.2 j (ready_set hc hi hj e)
        rw [hy] at hy'; injection hy' with hy'; subst hy'
        exact hw'
      have hw2 := Woper_swap hC hq hk ha hw1
      refine Woper_mono hC (fun tm' h' hw' => ?_) hw2
      refine ih (listed.setIfInBounds j true) tm' h' (hc.set hj) (ready_set hc hj hi (Ne.symm e)) (fun k hk' => ?_) ?_
      · rcases hf k hk' with h | h | h | h
        · exact .inl h
        · refine .inr (.inl ?_)
          rw [getD_set _ hjl]; split
          · rfl
          · exact h
        · exact .inr (.inr (.inl h))
        · exact .inr (.inr (.inr h))
      · rw [Array.setIfInBounds_comm _ _ (Ne.symm e)] at hw'
        exact hw'

theorem Wt_both {C : FuncId → List V → Heap → (V → Heap → Prop) → Prop} {K : (Nat → V) → Heap → Prop} {tm : Nat → V} {h : Heap} : ∀ {ts : List RTree}, Wt qf C (both ts) K tm h → ∀ t ∈ ts, Wt qf C t K tm h
  | [], _, t, ht => by simp at ht
  | [t0], hw, t, ht => by simp at ht; subst ht; exact hw
  | t0 :: t1 :: ts, hw, t, ht => by
    simp only [both, Wt] at hw
    rcases List.mem_cons.1 ht with rfl | ht
    · exact hw.1
    · exact Wt_both hw.2 t ht

theorem plan_sound {C : FuncId → List V → Heap → (V → Heap → Prop) → Prop} (hC : CMono C) (hq : QMono qf) {ops : Array Oper} {aops : Array AOper} {K : (Nat → V) → Heap → Prop} :
    ∀ (n : Nat) (listed : Array Bool) (tm : Nat → V) (h : Heap), Closed ops listed → Wt qf C (plan ops aops n listed) K tm h → Wall qf C ops aops n listed K tm h := by
  intro n
  induction n with
  | zero =>
    intro listed tm h hc hw
    unfold plan at hw
    split at hw
    · rename_i he
      exact ⟨by simpa using he, hw⟩
    · exact hw.elim
  | succ n ih =>
    intro listed tm h hc hw
    unfold plan at hw
    simp only at hw
    split at hw
    · rename_i he
      have he' : Region.ready .any ops listed = [] := by simpa using he
      exact ⟨fun _ => hw, fun i hi => by rw [he'] at hi; simp at hi⟩
    · rename_i he
      split at hw
      · rename_i i hfi
        have hi := List.mem_of_find?_eq_some hfi
        have hfree := List.find?_some hfi
        split at hw
        · rename_i x hx
          unfold free at hfree
          rw [hx] at hfree
          simp only [Bool.and_eq_true, Bool.or_eq_true, beq_iff_eq, List.all_eq_true, List.mem_range] at hfree
          obtain ⟨hk, hall⟩ := hfree
          refine free_first hC hq hx (by rcases hk with hk | hk <;> omega) n listed tm h hc hi (fun j hj => ?_) (Woper_mono hC (fun tm' h' hw' => ih _ _ _ (hc.set hi) hw') hw)
          rcases hall j hj with ((h1 | h1) | h1) | h1
          · exact .inl h1
          · exact .inr (.inl h1)
          · exact .inr (.inr (.inl h1))
          · refine .inr (.inr (.inr ?_))
            cases hy : aops[j]? with
            | none => rw [hy] at h1; simp at h1
            | some y => rw [hy] at h1; exact ⟨y, rfl, by simpa using h1⟩
        · exact hw.elim
      · refine ⟨fun h0 => by rw [h0] at he; simp at he, fun i hi => ?_⟩
        have := Wt_both hw _ (List.mem_map.2 ⟨i, hi, rfl⟩)
        split at this
        · rename_i o ho
          exact ⟨o, ho, Woper_mono hC (fun tm' h' hw' => ih _ _ _ (hc.set hi) hw') this⟩
        · exact this.elim

end
end Go.Abs
