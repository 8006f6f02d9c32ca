/- Abstract code against the model's: the contract of a function from its abstract code. -/
import Derived.Test.YtjhdfbplkoaobaaAbsOps8
import Derived.Test.YtjhdfbplkoaobaaAbsPlan
set_option linter.unusedVariables false
set_option linter.unusedSimpArgs false
namespace Go.Abs

/-- The abstract contract of a function. -/
def AC (P : Program) (f : FuncId) (args : List V) (h : Heap) (Q : V → Heap → Prop) : Prop :=
  ∀ (ρ : Ren) (w : World) (cargs : Array Value), St ρ h w → LRel ρ (Own ρ h) w args cargs →
    Calls P f cargs w fun e w' => ∃ v cv h' ρ', e = .returned cv ∧ Q v h' ∧ St ρ' h' w' ∧ VRel ρ' (Own ρ' h') w' v cv ∧ Fr ρ h w ρ' h' w'

theorem AC.mono {P : Program} {f : FuncId} {args : List V} {h : Heap} {Q Q' : V → Heap → Prop} (ha : AC P f args h Q) (hq : ∀ v h', Q v h' → Q' v h') : AC P f args h Q' :=
  fun ρ w cargs hs hl => (ha ρ w cargs hs hl).mono fun _ _ ⟨v, cv, h', ρ', e, q, r⟩ => ⟨v, cv, h', ρ', e, hq _ _ q, r⟩

theorem AC_CMono (P : Program) : CMono (AC P) := fun _ _ _ _ _ hK ha => ha.mono hK

/-- Quiet functions' meanings hold. -/
structure QOk (P : Program) (qf : FuncId → List V → Heap → Option V) : Prop where
  sound : ∀ f args h v, qf f args h = some v → AC P f args h fun v' h' => v' = v ∧ h' = h
  mono : QMono qf

section
variable {P : Program} {qf : FuncId → List V → Heap → Option V} {quiet : FuncId → Bool}

theorem trOs_rel {ρ : Ren} {O : Nat → Prop} {w : World} {tm : Nat → V} {a : Act} (ht : TRel ρ O w tm a) : ∀ {xs : List Operand} {ys : List Opnd}, trOs xs = some ys → LRel ρ O w (ys.map (·.ev tm)) (xs.map a.eval).toArray
  | [], ys, h => by injection h with h; subst h; exact ⟨rfl, fun j x u hx => by simp at hx⟩
  | x :: xs, ys, h => by
    simp only [trOs] at h
    split at h
    · rename_i y ys' h1 h2
      injection h with h; subst h
      obtain ⟨g1, g2⟩ := trOs_rel ht h2
      refine ⟨by simpa using g1, fun j v u hv hu => ?_⟩
      cases j with
      | zero => simp at hv hu; subst hv; subst hu; exact trO_rel ht h1
      | succ j => exact g2 j v u (by simpa using hv) (by simpa using hu)
    · cases h

/-- What is known of an activation. -/
structure At (ρ : Ren) (h : Heap) (w : World) (tm : Nat → V) (a : Act) (N : Nat) : Prop where
  st : St ρ h w
  tr : TRel ρ (Own ρ h) w tm a
  size : N ≤ a.tmps.size
  defers : a.defers = []

theorem At.put {ρ ρ' : Ren} {h h' : Heap} {w w' : World} {tm : Nat → V} {a : Act} {N : Nat} (hA : At ρ h w tm a N) (hs : St ρ' h' w') (hf : Fr ρ h w ρ' h' w') {d : Option Nat} (hd : ∀ t, d = some t → t < N) {v : V} {cv : Value}
    (hv : VRel ρ' (Own ρ' h') w' v cv) : At ρ' h' w' (putd tm d v) (a.put d cv) N :=
  ⟨hs, (hA.tr.fr hf).putd (fun t ht => Nat.lt_of_lt_of_le (hd t ht) hA.size) hv, by rw [putd_size]; exact hA.size, by rw [putd_defers]; exact hA.defers⟩

theorem op_wp (hq : QOk P qf) {ρ : Ren} {h : Heap} {w : World} {tm : Nat → V} {a : Act} (hs : St ρ h w) (ht : TRel ρ (Own ρ h) w tm a) {o : Oper} {ao : AOp} (htr : trOp P quiet o.op = some ao) {K : V → Heap → Prop}
    (hW : Wop qf (AC P) ao tm h K) {next : Act → World → Prop} {Q : Exit → Act → World → Prop}
    (hK : ∀ v h' ρ' cv w', K v h' → St ρ' h' w' → VRel ρ' (Own ρ' h') w' v cv → Fr ρ h w ρ' h' w' → next (a.put o.dst cv) w') : o.wp P a w next Q := by
  have eff : Eff P ρ h w (execOp a.eval o) K → o.wp P a w next Q := by
    rintro ⟨v, h', ρ', w', cv, r, hrun, hr, hk, h1, h2, h3⟩
    unfold Oper.wp
    rw [hrun]
    rcases hr with rfl | ⟨rfl, rfl⟩
    · exact hK v h' ρ' cv w' hk h1 h2 h3
    · exact hK v h' ρ' undef w' hk h1 h2 h3
  have call : ∀ (f : FuncId) (args : List V) (cargs : Array Value), (execOp a.eval o).run P w = .ok (.enter f cargs) w → LRel ρ (Own ρ h) w args cargs → AC P f args h K → o.wp P a w next Q := by
    intro f args cargs hrun hl hac
    unfold Oper.wp
    rw [hrun]
    refine (hac ρ w cargs hs hl).mono ?_
    rintro e w' ⟨v, cv, h', ρ', rfl, hk, h1, h2, h3⟩
    exact hK v h' ρ' cv w' hk h1 h2 h3
  have pure' : ao.kind < 2 → (∀ f xs, ao ≠ .qcall f xs) → o.wp P a w next Q := by
    intro hk hnq
    obtain ⟨v, hv, hKv⟩ := (Wop_pure hk).1 hW
    obtain ⟨cv, h1, h2⟩ := pure_sound hs hs.cap ht htr hk hnq hv
    unfold Oper.wp
    rw [h1]
    exact hK v h ρ cv w hKv hs h2 (Fr.refl _ _ _)
  have runCall : ∀ {c : Call} {f : FuncId} {fn : Func} {xs : List Opnd}, o.op = .call c → c.callee = .value (.func f) → P.funcs[f]? = some fn → fn.body.isSome = true → (fn.name == "runtime.NumGoroutine") = false → trOs c.args.toList = some xs →
      (execOp a.eval o).run P w = .ok (.enter f (c.args.map a.eval)) w ∧ LRel ρ (Own ρ h) w (xs.map (·.ev tm)) (c.args.map a.eval) := by
    intro c f fn xs hop hcal hf hbody hname hxs
    refine ⟨?_, ?_⟩
    · obtain ⟨cd, hcd⟩ := Option.isSome_iff_exists.1 hbody
      have hn' : ¬ fn.name = "runtime.NumGoroutine" := by simpa using hname
      have hcf : ∀ args, (callFunc f args).run P w = .ok (.enter f args) w := fun args => by simp [callFunc, hf, hn', hcd]
      have he : a.eval (.func f) = .func (.func f) #[] #[] := rfl
      simp [execOp, hop, resolve, hcal, he, Deferred.ofValue, invoke, hcf]
    · have := trOs_rel ht hxs
      have e : (c.args.toList.map a.eval).toArray = c.args.map a.eval := by
        apply Array.ext'
        simp
      rw [e] at this
      exact this
  obtain ⟨dst, op, type, pos, after, guard⟩ := o
  simp only at htr
  cases op with
  | alloc e =>
    simp only [trOp, Option.map_eq_some_iff] at htr
    obtain ⟨z, hz, rfl⟩ := htr
    exact eff (alloc_eff hs hz hW)
  | box e x =>
    simp only [trOp] at htr
    split at htr
    · rename_i n y hn hy
      injection htr with htr; subst htr
      exact eff (box_eff hs (trO_rel ht hy) hW.1.1 hW.1.2 hW.2)
    · cases htr
  | buildSlice t len ps =>
    simp only [trOp] at htr
    split at htr
    · rename_i e hu
      split at htr
      · rename_i n z ps' h1 h2 h3
        split at htr
        · rename_i hc
          injection htr with htr; subst htr
          exact eff (buildS_eff hs ht hu h1 h2 h3 hc.1 hc.2 hW)
        · cases htr
      · cases htr
    · cases htr
  | makeSlice t l c =>
    simp only [trOp] at htr
    split at htr
    · rename_i e hu
      split at htr
      · rename_i i z l' c' h1 h2 h3 h4
        split at htr
        · rename_i hpos
          injection htr with htr; subst htr
          exact eff (mkS_eff hs hu h1 h2 hpos (trO_rel ht h3) (trO_rel ht h4) hW)
        · cases htr
      · cases htr
    · cases htr
  | makeMap t r =>
    cases r with
    | none =>
      injection htr with htr; subst htr
      exact eff (mkM_eff hs hW)
    | some x => cases htr
  | store t x y =>
    simp only [trOp] at htr
    split at htr
    · rename_i n x' y' h1 h2 h3
      injection htr with htr; subst htr
      exact eff (store_eff hs h1 (trO_rel ht h2) (trO_rel ht h3) hW)
    · cases htr
  | mapUpdate t m k x =>
    simp only [trOp] at htr
    split at htr
    · rename_i kT e hu
      split at htr
      · rename_i kt m' k' x' h1 h2 h3 h4
        injection htr with htr; subst htr
        exact eff (mupd_eff hs hu h1 (trO_rel ht h2) (trO_rel ht h3) (trO_rel ht h4) hW)
      · cases htr
    · cases htr
  | mapEntry t m k =>
    simp only [trOp] at htr
    split at htr
    · rename_i kT e hu
      split at htr
      · rename_i kt z m' k' h1 h2 h3 h4
        injection htr with htr; subst htr
        exact eff (ment_eff hs hu h1 h2 (trO_rel ht h3) (trO_rel ht h4) hW)
      · cases htr
    · cases htr
  | entryStore t m s x =>
    simp only [trOp] at htr
    split at htr
    · rename_i m' s' x' h2 h3 h4
      injection htr with htr; subst htr
      exact eff (ests_eff hs (trO_rel ht h2) (trO_rel ht h3) (trO_rel ht h4) hW)
    · cases htr
  | call c =>
    have htr0 := htr
    simp only [trOp, trCall] at htr
    split at htr
    · split at htr
      · split at htr
        · injection htr with htr; subst htr; exact pure' (by simp [AOp.kind]) (by simp)
        · injection htr with htr; subst htr; exact pure' (by simp [AOp.kind]) (by simp)
        · cases htr
      · cases htr
    · split at htr
      · split at htr
        · injection htr with htr; subst htr; exact pure' (by simp [AOp.kind]) (by simp)
        · cases htr
      · cases htr
    · split at htr
      · split at htr
        · injection htr with htr; subst htr; exact pure' (by simp [AOp.kind]) (by simp)
        · cases htr
      · cases htr
    · rename_i hcal
      split at htr
      · rename_i s x t u hargs htys
        split at htr
        · rename_i e s' x' hu h1 h2
          split at htr
          · rename_i i z hi hz
            split at htr
            · rename_i hc
              obtain ⟨rfl, hpos⟩ := hc
              injection htr with htr; subst htr
              have := app_eff (ty := type) hs hu hi hz hpos (trO_rel ht h1) (trO_rel ht h2) hW
              refine eff ?_
              obtain ⟨v, h', ρ', w', cv, r, hrun, rest⟩ := this
              refine ⟨v, h', ρ', w', cv, r, ?_, rest⟩
              rw [← hrun]
              simp [execOp, resolve, hcal, invoke, builtin, args2 hargs, types2 htys]
            · cases htr
          · cases htr
        · cases htr
      · cases htr
    · rename_i f hcal
      split at htr
      · rename_i fn xs hf hxs
        split at htr
        · rename_i hc
          obtain ⟨hbody, hname⟩ := hc
          obtain ⟨hrun, hl⟩ := runCall (c := c) rfl hcal hf hbody hname hxs
          injection htr with htr
          split at htr
          · subst htr
            obtain ⟨v, hv, hKv⟩ := (Wop_pure (o := .qcall f xs) (by simp [AOp.kind])).1 hW
            refine call f _ _ hrun hl ((hq.sound f _ h v hv).mono ?_)
            rintro v' h' ⟨rfl, rfl⟩
            exact hKv
          · subst htr
            exact call f _ _ hrun hl hW
        · cases htr
      · cases htr
    · cases htr
  | move x => simp only [trOp, Option.map_eq_some_iff] at htr; obtain ⟨_, _, rfl⟩ := htr; exact pure' (by simp [AOp.kind]) (by simp)
  | assign x => simp only [trOp, Option.map_eq_some_iff] at htr; obtain ⟨_, _, rfl⟩ := htr; exact pure' (by simp [AOp.kind]) (by simp)
  | pick c x y =>
    simp only [trOp] at htr
    split at htr
    · injection htr with htr; subst htr; exact pure' (by simp [AOp.kind]) (by simp)
    · cases htr
  | build t ps =>
    simp only [trOp] at htr
    split at htr
    · split at htr
      · simp only [Option.map_eq_some_iff] at htr
        obtain ⟨_, _, rfl⟩ := htr; exact pure' (by simp [AOp.kind]) (by simp)
      · cases htr
    · split at htr
      · simp only [Option.map_eq_some_iff] at htr
        obtain ⟨_, _, rfl⟩ := htr; exact pure' (by simp [AOp.kind]) (by simp)
      · cases htr
    · cases htr
  | load t x =>
    simp only [trOp] at htr
    split at htr
    · injection htr with htr; subst htr; exact pure' (by simp [AOp.kind]) (by simp)
    · cases htr
  | nilCheck x => simp only [trOp, Option.map_eq_some_iff] at htr; obtain ⟨_, _, rfl⟩ := htr; exact pure' (by simp [AOp.kind]) (by simp)
  | binOp op t x y yt =>
    simp only [trOp] at htr
    split at htr
    · injection htr with htr; subst htr; exact pure' (by simp [AOp.kind]) (by simp)
    · cases htr
  | unOp op t x => simp only [trOp, Option.map_eq_some_iff] at htr; obtain ⟨_, _, rfl⟩ := htr; exact pure' (by simp [AOp.kind]) (by simp)
  | convert s d x =>
    simp only [trOp] at htr
    split at htr
    · injection htr with htr; subst htr; exact pure' (by simp [AOp.kind]) (by simp)
    · split at htr
      · injection htr with htr; subst htr; exact pure' (by simp [AOp.kind]) (by simp)
      · cases htr
    · cases htr
  | slice t x lo hi mx =>
    simp only [trOp] at htr
    split at htr
    · split at htr
      · injection htr with htr; subst htr; exact pure' (by simp [AOp.kind]) (by simp)
      · cases htr
    · split at htr
      · injection htr with htr; subst htr; exact pure' (by simp [AOp.kind]) (by simp)
      · cases htr
    · cases htr
  | fieldAddr s x f =>
    simp only [trOp] at htr
    split at htr
    · split at htr
      · split at htr
        · split at htr
          · cases htr
          · injection htr with htr; subst htr; exact pure' (by simp [AOp.kind]) (by simp)
        · cases htr
      · cases htr
    · cases htr
  | field s x f =>
    simp only [trOp] at htr
    split at htr
    · split at htr
      · split at htr
        · injection htr with htr; subst htr; exact pure' (by simp [AOp.kind]) (by simp)
        · cases htr
      · cases htr
    · cases htr
  | indexAddr t x i =>
    simp only [trOp] at htr
    split at htr
    · simp only [Option.map_eq_some_iff] at htr
      obtain ⟨_, _, rfl⟩ := htr; exact pure' (by simp [AOp.kind]) (by simp)
    · simp only [Option.map_eq_some_iff] at htr
      obtain ⟨_, _, rfl⟩ := htr; exact pure' (by simp [AOp.kind]) (by simp)
    · cases htr
  | index t x i =>
    simp only [trOp] at htr
    split at htr
    · injection htr with htr; subst htr; exact pure' (by simp [AOp.kind]) (by simp)
    · cases htr
  | lookup t m k ok =>
    simp only [trOp] at htr
    split at htr
    · split at htr
      · injection htr with htr; subst htr; exact pure' (by simp [AOp.kind]) (by simp)
      · cases htr
    · cases htr
  | extract x i => simp only [trOp, Option.map_eq_some_iff] at htr; obtain ⟨_, _, rfl⟩ := htr; exact pure' (by simp [AOp.kind]) (by simp)
  | _ => cases htr

theorem vrel_undef {ρ : Ren} {O : Nat → Prop} {w : World} {c : Value} (h : VRel ρ O w .undef c) : c = undef := by cases h; rfl

/-- One operation with its guard. -/
theorem oper_wp (hq : QOk P qf) {N : Nat} {ops : Array Oper} {o : Oper} {x : AOper} (htr : trOper P quiet N ops o = some x) {ρ : Ren} {h : Heap} {w : World} {tm : Nat → V} {a : Act} (hA : At ρ h w tm a N) {K : (Nat → V) → Heap → Prop}
    (hW : Woper qf (AC P) x K tm h) {next : Act → World → Prop} {Q : Exit → Act → World → Prop}
    (hK : ∀ tm' h' ρ' a' w', K tm' h' → At ρ' h' w' tm' a' N → Fr ρ h w ρ' h' w' → next a' w') :
    if Region.wanted o (yielded ops a.tmps) then o.wp P a w next Q ∨ (o.asks P a w ∧ LetsOut Q) else next (a.put o.dst undef) w := by
  unfold trOper at htr
  split at htr
  · cases htr
  · rename_i ao hao
    split at htr
    · rename_i hdst
      have hd : ∀ t, o.dst = some t → t < N := by
        intro t ht
        rw [ht] at hdst
        simpa [dstOk] using hdst
      have go : x.op = ao → x.dst = o.dst → Wop qf (AC P) x.op tm h (fun v h' => K (putd tm x.dst v) h') → o.wp P a w next Q := by
        intro e1 e2 hw
        rw [e1, e2] at hw
        exact op_wp hq hA.st hA.tr hao hw fun v h' ρ' cv w' hk h1 h2 h3 => hK _ h' ρ' _ w' hk (hA.put h1 h3 hd h2) h3
      have skip : x.dst = o.dst → K (putd tm x.dst .undef) h → next (a.put o.dst undef) w := by
        intro e2 hk
        rw [e2] at hk
        exact hK _ h ρ _ w hk (hA.put hA.st (Fr.refl _ _ _) hd .undef) (Fr.refl _ _ _)
      split at htr
      · rename_i hg
        injection htr with htr; subst htr
        simp only [Woper] at hW
        have hwant : Region.wanted o (yielded ops a.tmps) = true := by simp [Region.wanted, hg]
        rw [if_pos hwant]
        exact .inl (go rfl rfl hW)
      · rename_i j want hg
        split at htr
        · rename_i t hj
          injection htr with htr; subst htr
          simp only [Woper] at hW
          have hrel := hA.tr t
          have hy : yielded ops a.tmps j = match a.tmps[t]? with
            | some (.bool b) => some b
            | _ => none := by
            unfold yielded
            rw [hj]
            rfl
          split at hW
          · rename_i b hb
            rw [hb] at hrel
            have hv := vrel_bool hrel
            have hget : a.tmps[t]? = some (.bool b) := by
              cases hq' : a.tmps[t]? with
              | none => simp [hq', undef] at hv
              | some u => simp [hq'] at hv; rw [hv]
            rw [hget] at hy
            have hw' : Region.wanted o (yielded ops a.tmps) = (b == want) := by simp [Region.wanted, hg, hy]
            split at hW
            · rename_i c
              rw [if_pos (by rw [hw']; simpa using c)]
              exact .inl (go rfl rfl hW)
            · rename_i c
              rw [if_neg (by rw [hw']; simpa using c)]
              exact skip rfl hW
          · rename_i hb
            rw [hb] at hrel
            have hv := vrel_undef hrel
            have hy' : yielded ops a.tmps j = none := by
              rw [hy]
              cases hq' : a.tmps[t]? with
              | none => rfl
              | some u => simp [hq'] at hv; rw [hv]; rfl
            have hw' : Region.wanted o (yielded ops a.tmps) = false := by simp [Region.wanted, hg, hy']
            rw [if_neg (by rw [hw']; simp)]
            exact skip rfl hW
          · exact hW.elim
        · cases htr
    · cases htr

theorem trOpers_get {N : Nat} {ops : Array Oper} : ∀ {l : List Oper} {as : List AOper}, trOpers P quiet N ops l = some as → as.length = l.length ∧ ∀ (j : Nat) (o : Oper), l[j]? = some o → ∃ x, as[j]? = some x ∧ trOper P quiet N ops o = some x
  | [], as, h => by injection h with h; subst h; exact ⟨rfl, fun j o ho => by simp at ho⟩
  | o :: l, as, h => by
    simp only [trOpers] at h
    split at h
    · rename_i x xs h1 h2
      injection h with h; subst h
      obtain ⟨g1, g2⟩ := trOpers_get h2
      refine ⟨by simp [g1], fun j o' ho => ?_⟩
      cases j with
      | zero => simp at ho; subst ho; exact ⟨x, rfl, h1⟩
      | succ j => simpa using g2 j o' (by simpa using ho)
    · cases h

/-- A region in its text's order. -/
theorem chain_wp (hq : QOk P qf) {N : Nat} {ops : Array Oper} {ρ0 : Ren} {h0 : Heap} {w0 : World} {K : (Nat → V) → Heap → Prop} {Q : Exit → Act → World → Prop}
    (hK : ∀ tm' h' ρ' a' w', K tm' h' → At ρ' h' w' tm' a' N → Fr ρ0 h0 w0 ρ' h' w' → Q .normal a' w') :
    ∀ {l : List Oper} {as : List AOper}, trOpers P quiet N ops l = some as → ∀ {ρ : Ren} {h : Heap} {w : World} {tm : Nat → V} {a : Act}, At ρ h w tm a N → Fr ρ0 h0 w0 ρ h w → Wt qf (AC P) (chain as) K tm h → wpList P ops Q l a w
  | [], as, htr, ρ, h, w, tm, a, hA, hF, hW => by
    injection htr with htr; subst htr
    exact hK tm h ρ a w hW hA hF
  | o :: l, as, htr, ρ, h, w, tm, a, hA, hF, hW => by
    simp only [trOpers] at htr
    split at htr
    · rename_i x xs h1 h2
      injection htr with htr; subst htr
      simp only [chain, Wt] at hW
      unfold wpList
      exact oper_wp hq h1 hA hW fun tm' h' ρ' a' w' hk hA' hF' => chain_wp hq hK h2 hA' (hF.trans hF') hk
    · cases htr

/-- A region whose order is drawn. -/
theorem wall_wp (hq : QOk P qf) {N : Nat} {ops : Array Oper} {as : List AOper} (htr : trOpers P quiet N ops ops.toList = some as) {ρ0 : Ren} {h0 : Heap} {w0 : World} {K : (Nat → V) → Heap → Prop} {Q : Exit → Act → World → Prop}
    (hK : ∀ tm' h' ρ' a' w', K tm' h' → At ρ' h' w' tm' a' N → Fr ρ0 h0 w0 ρ' h' w' → Q .normal a' w') :
    ∀ (n : Nat) (listed : Array Bool) {ρ : Ren} {h : Heap} {w : World} {tm : Nat → V} {a : Act}, At ρ h w tm a N → Fr ρ0 h0 w0 ρ h w → Wall qf (AC P) ops as.toArray n listed K tm h → wpAny P .any ops Q n listed a w := by
  intro n
  induction n with
  | zero =>
    intro listed ρ h w tm a hA hF hW
    exact ⟨hW.1, hK tm h ρ a w hW.2 hA hF⟩
  | succ n ih =>
    intro listed ρ h w tm a hA hF hW
    refine ⟨fun he => hK tm h ρ a w (hW.1 he) hA hF, fun i hi => ?_⟩
    obtain ⟨x, hx, hw⟩ := hW.2 i hi
    obtain ⟨hlt, _, o, ho, _⟩ := mem_ready.1 hi
    obtain ⟨_, hget⟩ := trOpers_get htr
    obtain ⟨x', hx', hox⟩ := hget i o (by simpa using ho)
    have : x' = x := by
      have hx2 : as[i]? = some x := by simpa using hx
      rw [hx'] at hx2; injection hx2
    subst this
    unfold wpOp
    simp only [ho]
    exact oper_wp hq hox hA hw fun tm' h' ρ' a' w' hk hA' hF' => ih _ hA' (hF.trans hF') hk

/-- How code is left, abstractly and in the model. -/
def aexit : Exit → Option AExit
  | .normal => some .normal
  | .exit id => some (.exit id)
  | .ret => some .ret
  | _ => none

/-- What the model's code has to come to. -/
def QRel (N : Nat) (ρ : Ren) (h : Heap) (w : World) (Q : AExit → (Nat → V) → Heap → Prop) : Exit → Act → World → Prop :=
  fun e a' w' => ∃ e' tm' h' ρ', aexit e = some e' ∧ Q e' tm' h' ∧ At ρ' h' w' tm' a' N ∧ Fr ρ h w ρ' h' w'

theorem wp_loop_rel {c : Code} {Q : Exit → Act → World → Prop} (I : Nat → Act → World → Prop)
    (round : ∀ n a w, I n a w → c.wp P (Exit.then (fun a' w' => ∃ m, m < n ∧ I m a' w') Q) a w) {n : Nat} {a : Act} {w : World} (h₀ : I n a w) : (Code.loop c).wp P Q a w := by
  intro b k cs
  have key : ∀ n a w, I n a w → ∃ e a' w', Q e a' w' ∧ Arrives P (lone (b.at a (.code c :: .inLoop c :: k)) cs w) b k cs e a' w' := by
    intro n
    induction n using Nat.strongRecOn with
    | _ n ih =>
      intro a w hI
      obtain ⟨e, a₁, w₁, hq, harr⟩ := round n a w hI b (.inLoop c :: k) cs
      cases e with
      | normal =>
        obtain ⟨m, hm, hI₁⟩ := hq
        obtain ⟨e₂, a₂, w₂, hq₂, harr₂⟩ := ih m hm a₁ w₁ hI₁
        exact ⟨e₂, a₂, w₂, hq₂, .of_steps (Steps.trans harr (.one step_inLoop)) harr₂⟩
      | exit id => exact ⟨_, a₁, w₁, hq, .pass (x := .inLoop c) rfl (fun _ _ => .inl (by simp)) harr⟩
      | goto l => exact ⟨_, a₁, w₁, hq, .pass (x := .inLoop c) rfl (fun _ _ => .inl (by simp)) harr⟩
      | ret => exact ⟨_, a₁, w₁, hq, .pass (x := .inLoop c) rfl (fun _ _ => .inl (by simp)) harr⟩
      | panic ch => exact ⟨_, a₁, w₁, hq, .pass (x := .inLoop c) rfl (fun _ _ => .inl (by simp)) harr⟩
      | outgrown => exact ⟨_, a₁, w₁, hq, .pass (x := .inLoop c) rfl (fun _ _ => .inl (by simp)) harr⟩
  obtain ⟨e, a', w', hq, harr⟩ := key _ a w h₀
  exact ⟨e, a', w', hq, .of_steps (.one step_loop) harr⟩

/-- Another view of the same state: what the abstract side says of it turns, the world does not. -/
def Shift (tm : Nat → V) (h : Heap) (tm' : Nat → V) (h' : Heap) : Prop := ∀ (ρ : Ren) (w : World) (a : Act), St ρ h w → TRel ρ (Own ρ h) w tm a → St ρ h' w ∧ TRel ρ (Own ρ h') w tm' a ∧ Fr ρ h w ρ h' w

/-- What code comes to. -/
def W (qf : FuncId → List V → Heap → Option V) (C : FuncId → List V → Heap → (V → Heap → Prop) → Prop) : ACode → (AExit → (Nat → V) → Heap → Prop) → (Nat → V) → Heap → Prop
  | .skip, Q, tm, h => Q .normal tm h
  | .ghost, Q, tm, h => ∃ tm' h', Shift tm h tm' h' ∧ Q .normal tm' h'
  | .region t, Q, tm, h => Wt qf C t (Q .normal) tm h
  | .seq a b, Q, tm, h => W qf C a (fun e tm' h' => match e with
    | .normal => W qf C b Q tm' h'
    | e => Q e tm' h') tm h
  | .cond c a b, Q, tm, h =>
    match c.ev tm with
    | .bool t => if t then W qf C a Q tm h else W qf C b Q tm h
    | _ => False
  | .block id a, Q, tm, h => W qf C a (fun e tm' h' => match e with
    | .exit id' => if id' = id then Q .normal tm' h' else Q (.exit id') tm' h'
    | e => Q e tm' h') tm h
  | .loop a, Q, tm, h => ∃ I : Nat → (Nat → V) → Heap → Prop, (∃ n, I n tm h) ∧
    ∀ n tm h, I n tm h → W qf C a (fun e tm' h' => match e with
      | .normal => ∃ m, m < n ∧ I m tm' h'
      | e => Q e tm' h') tm h
  | .exit id, Q, tm, h => Q (.exit id) tm h
  | .ret, Q, tm, h => Q .ret tm h

/-- The code without the changes of view. -/
def erase : ACode → ACode
  | .seq .ghost b => erase b
  | .seq a b => .seq (erase a) (erase b)
  | .cond c a b => .cond c (erase a) (erase b)
  | .block id a => .block id (erase a)
  | .loop a => .loop (erase a)
  | c => c

theorem code_wp (hq : QOk P qf) (hm : P.follows .mixedOrders = true) {N : Nat} : ∀ {ac : ACode} {c : Code}, trCode P quiet N c = some (erase ac) → ∀ {Q : AExit → (Nat → V) → Heap → Prop} {ρ : Ren} {h : Heap} {w : World} {tm : Nat → V} {a : Act},
    At ρ h w tm a N → W qf (AC P) ac Q tm h → c.wp P (QRel N ρ h w Q) a w := by
  intro ac
  -- what a translation can have come from
  have hseq : ∀ {c : Code} {x y : ACode}, trCode P quiet N c = some (.seq x y) → ∃ c1 c2, c = .seq c1 c2 ∧ trCode P quiet N c1 = some x ∧ trCode P quiet N c2 = some y := by
    intro c x y h
    cases c <;> simp only [trCode] at h <;> first
      | (cases h; done)
      | (injection h with h; cases h; done)
      | skip
    · split at h
      · injection h with h; cases h
      · cases h
    · split at h
      · rename_i h1 h2
        injection h with h; injection h with e1 e2; subst e1; subst e2
        exact ⟨_, _, rfl, h1, h2⟩
      · cases h
    · split at h
      · injection h with h; cases h
      · cases h
    · simp at h
    · simp at h
  induction ac with
  | skip =>
    intro c htr Q ρ h w tm a hA hW
    simp only [erase] at htr
    cases c <;> simp only [trCode] at htr <;> first
      | (cases htr; done)
      | exact wp_skip ⟨.normal, tm, h, ρ, rfl, hW, hA, Fr.refl _ _ _⟩
      | (split at htr
         · injection htr with htr; cases htr
         · cases htr)
      | (simp at htr; done)
      | (injection htr with htr; cases htr)
  | ghost =>
    intro c htr
    simp only [erase] at htr
    cases c <;> simp only [trCode] at htr <;> first
      | (cases htr; done)
      | (split at htr
         · injection htr with htr; cases htr
         · cases htr)
      | (simp at htr; done)
      | (injection htr with htr; cases htr)
  | region t =>
    intro c htr Q ρ h w tm a hA hW
    simp only [erase] at htr
    cases c <;> simp only [trCode] at htr <;> first
      | (cases htr; done)
      | (simp at htr; done)
      | (injection htr with htr; cases htr; done)
      | skip
    · rename_i id ops draw
      split at htr
      · rename_i as has
        injection htr with htr; injection htr with htr; subst htr
        simp only [W] at hW
        cases draw with
        | false =>
          simp only [Bool.false_eq_true, if_false] at hW
          exact wp_region_list (chain_wp hq (ρ0 := ρ) (h0 := h) (w0 := w) (fun tm' h' ρ' a' w' hk hA' hF' => ⟨.normal, tm', h', ρ', rfl, hk, hA', hF'⟩) has hA (Fr.refl _ _ _) hW)
        | true =>
          simp only [if_true] at hW
          obtain ⟨hs', hf'⟩ := hA.st.same (w' := { w with drawn := w.drawn + 1 }) rfl rfl rfl rfl
          refine wp_region_any hm (wall_wp hq has (ρ0 := ρ) (h0 := h) (w0 := w) (fun tm' h' ρ' a' w' hk hA' hF' => ⟨.normal, tm', h', ρ', rfl, hk, hA', hF'⟩) _ _ ⟨hs', hA.tr.fr hf', hA.size, hA.defers⟩ hf' ?_)
          refine plan_sound (AC_CMono P) hq.mono _ _ _ _ ⟨by simp, fun j o hj => ?_⟩ hW
          simp [Array.getD_eq_getD_getElem?, Array.getElem?_replicate] at hj
          split at hj <;> simp at hj
      · cases htr
    · split at htr
      · injection htr with htr; cases htr
      · cases htr
    · split at htr
      · injection htr with htr; cases htr
      · cases htr
  | seq x y ihx ihy =>
    intro c htr Q ρ h w tm a hA hW
    by_cases hg : x = .ghost
    · subst hg
      simp only [erase] at htr
      simp only [W] at hW
      obtain ⟨tm', h', hsh, hW⟩ := hW
      obtain ⟨s1, s2, s3⟩ := hsh ρ w a hA.st hA.tr
      refine wp_mono (ihy htr ⟨s1, s2, hA.size, hA.defers⟩ hW) ?_
      rintro e a' w' ⟨e', tm', h', ρ', he, hk, hA', hF'⟩
      exact ⟨e', tm', h', ρ', he, hk, hA', s3.trans hF'⟩
    · have he : erase (.seq x y) = .seq (erase x) (erase y) := by
        cases x <;> first | rfl | exact absurd rfl hg
      rw [he] at htr
      obtain ⟨c1, c2, rfl, h1, h2⟩ := hseq htr
      simp only [W] at hW
      refine wp_seq (wp_mono (ihx h1 hA hW) ?_)
      rintro e a' w' ⟨e', tm', h', ρ', he, hk, hA', hF'⟩
      cases e <;> simp only [aexit] at he <;> first
        | (cases he; done)
        | (injection he with he; subst he
           exact wp_mono (ihy h2 hA' hk) fun e a' w' ⟨e', tm'', h'', ρ'', he, hk, hA'', hF''⟩ => ⟨e', tm'', h'', ρ'', he, hk, hA'', hF'.trans hF''⟩)
        | (injection he with he; subst he
           exact ⟨_, tm', h', ρ', rfl, hk, hA', hF'⟩)
  | cond c0 x y ihx ihy =>
    intro c htr Q ρ h w tm a hA hW
    simp only [erase] at htr
    cases c <;> simp only [trCode] at htr <;> first
      | (cases htr; done)
      | (simp at htr; done)
      | (injection htr with htr; cases htr; done)
      | skip
    · split at htr
      · injection htr with htr; cases htr
      · cases htr
    · split at htr
      · injection htr with htr; cases htr
      · cases htr
    · split at htr
      · rename_i c' ax ay h0 h1 h2
        injection htr with htr; injection htr with e1 e2 e3; subst e1; subst e2; subst e3
        simp only [W] at hW
        have hrel := trO_rel hA.tr h0
        split at hW
        · rename_i b hb
          rw [hb] at hrel
          have hv := vrel_bool hrel
          refine wp_cond hv ?_
          cases b with
          | true => simp only [if_true] at hW ⊢; exact ihx h1 hA hW
          | false => simp only [Bool.false_eq_true, if_false] at hW ⊢; exact ihy h2 hA hW
        · exact hW.elim
      · cases htr
  | block id x ih =>
    intro c htr Q ρ h w tm a hA hW
    simp only [erase] at htr
    cases c <;> simp only [trCode] at htr <;> first
      | (cases htr; done)
      | (split at htr
         · injection htr with htr; cases htr
         · cases htr
         done)
      | (injection htr with htr; cases htr; done)
      | skip
    · simp only [Option.map_eq_some_iff] at htr
      obtain ⟨ax, h1, e⟩ := htr
      injection e with e1 e2; subst e1; subst e2
      simp only [W] at hW
      refine wp_block (wp_mono (ih h1 hA hW) ?_)
      rintro e a' w' ⟨e', tm', h', ρ', he, hk, hA', hF'⟩
      cases e <;> simp only [aexit] at he <;> first
        | (cases he; done)
        | skip
      · injection he with he; subst he
        exact ⟨.normal, tm', h', ρ', rfl, hk, hA', hF'⟩
      · injection he with he; subst he
        simp only [Exit.inBlock]
        simp only at hk
        split
        · rename_i c; rw [if_pos c] at hk; exact ⟨.normal, tm', h', ρ', rfl, hk, hA', hF'⟩
        · rename_i c; rw [if_neg c] at hk; exact ⟨.exit _, tm', h', ρ', rfl, hk, hA', hF'⟩
      · injection he with he; subst he
        exact ⟨.ret, tm', h', ρ', rfl, hk, hA', hF'⟩
    · simp at htr
  | loop x ih =>
    intro c htr Q ρ h w tm a hA hW
    simp only [erase] at htr
    cases c <;> simp only [trCode] at htr <;> first
      | (cases htr; done)
      | (split at htr
         · injection htr with htr; cases htr
         · cases htr
         done)
      | (injection htr with htr; cases htr; done)
      | skip
    · simp at htr
    · simp only [Option.map_eq_some_iff] at htr
      obtain ⟨ax, h1, e⟩ := htr
      injection e with e1; subst e1
      simp only [W] at hW
      obtain ⟨I, ⟨n, hI⟩, hround⟩ := hW
      refine wp_loop_rel (fun n a' w' => ∃ tm' h' ρ', I n tm' h' ∧ At ρ' h' w' tm' a' N ∧ Fr ρ h w ρ' h' w') ?_ ⟨tm, h, ρ, hI, hA, Fr.refl _ _ _⟩
      rintro n a1 w1 ⟨tm1, h1', ρ1, hI1, hA1, hF1⟩
      refine wp_mono (ih h1 hA1 (hround n tm1 h1' hI1)) ?_
      rintro e a' w' ⟨e', tm', h', ρ', he, hk, hA', hF'⟩
      cases e <;> simp only [aexit] at he <;> first
        | (cases he; done)
        | skip
      · injection he with he; subst he
        obtain ⟨m, hm', hI'⟩ := hk
        exact ⟨m, hm', tm', h', ρ', hI', hA', hF1.trans hF'⟩
      · injection he with he; subst he
        exact ⟨_, tm', h', ρ', rfl, hk, hA', hF1.trans hF'⟩
      · injection he with he; subst he
        exact ⟨_, tm', h', ρ', rfl, hk, hA', hF1.trans hF'⟩
  | exit id =>
    intro c htr Q ρ h w tm a hA hW
    simp only [erase] at htr
    cases c <;> simp only [trCode] at htr <;> first
      | (cases htr; done)
      | (injection htr with htr; injection htr with htr; subst htr; exact wp_exit ⟨.exit _, tm, h, ρ, rfl, hW, hA, Fr.refl _ _ _⟩)
      | (split at htr
         · injection htr with htr; cases htr
         · cases htr)
      | (simp at htr; done)
      | (injection htr with htr; cases htr)
  | ret =>
    intro c htr Q ρ h w tm a hA hW
    simp only [erase] at htr
    cases c <;> simp only [trCode] at htr <;> first
      | (cases htr; done)
      | exact wp_ret ⟨.ret, tm, h, ρ, rfl, hW, hA, Fr.refl _ _ _⟩
      | (split at htr
         · injection htr with htr; cases htr
         · cases htr)
      | (simp at htr; done)
      | (injection htr with htr; cases htr)

def resF (tmps : Array Value) : ResultVar → Sem Value
  | .tmp t => pure (tmps.getD t undef)
  | .cell b t => do loadVar t (← asAddr (tmps.getD b undef))

theorem results_eq (fn : Func) (tmps : Array Value) : results fn tmps = (do
    let vs ← fn.results.mapM (resF tmps)
    pure (if h : vs.size = 1 then vs[0] else .tuple vs)) := by
  unfold results
  congr 1

theorem res_one {ρ : Ren} {h : Heap} {w : World} {tm : Nat → V} {a : Act} {N : Nat} (hA : At ρ h w tm a N) : ∀ {rs : List ResultVar} {rs' : List ARes} {vs : List V}, trRes P rs = some rs' → resAll tm h rs' = some vs →
    ∃ cvs : List Value, (rs.mapM (resF a.tmps)).run P w = .ok cvs w ∧ vs.length = cvs.length ∧ ∀ (j : Nat) (x : V) (u : Value), vs[j]? = some x → cvs[j]? = some u → VRel ρ (Own ρ h) w x u
  | [], rs', vs, htr, hr => by
    injection htr with htr; subst htr
    injection hr with hr; subst hr
    exact ⟨[], rfl, rfl, fun j x u hx => by simp at hx⟩
  | .tmp t :: rs, rs', vs, htr, hr => by
    simp only [trRes, Option.map_eq_some_iff] at htr
    obtain ⟨r, h1, rfl⟩ := htr
    simp only [resAll, resOne] at hr
    split at hr
    · rename_i v vs' e1 e2
      injection e1 with e1; subst e1
      injection hr with hr; subst hr
      obtain ⟨cvs, g1, g2, g3⟩ := res_one hA h1 e2
      refine ⟨a.tmps.getD t undef :: cvs, ?_, by simp [g2], fun j x u hx hu => ?_⟩
      · rw [List.mapM_cons]
        simp only [Sem.run_bind, resF, Sem.run_pure, Result.andThen_ok, g1]
      · cases j with
        | zero => simp at hx hu; subst hx; subst hu; simpa using hA.tr t
        | succ j => exact g3 j x u (by simpa using hx) (by simpa using hu)
    · cases hr
  | .cell b t :: rs, rs', vs, htr, hr => by
    simp only [trRes] at htr
    split at htr
    · rename_i g r hg h1
      injection htr with htr; subst htr
      simp only [resAll, resOne] at hr
      split at hr
      · rename_i v vs' e1 e2
        injection hr with hr; subst hr
        obtain ⟨cvs, g1, g2, g3⟩ := res_one hA h1 e2
        have hrel := hA.tr b
        obtain ⟨cv', l1, l2⟩ := load_sound hA.st hg hrel e1
        have hload : (do loadVar t (← asAddr (a.tmps.getD b undef)) : Sem Value).run P w = .ok cv' w := by
          generalize tm b = vb at hrel e1
          generalize a.tmps.getD b undef = cv at hrel l1 ⊢
          cases hrel <;> first
            | (cases e1; done)
            | simpa [Instr.loadAt, Instr.sureAddr, asAddr] using l1
        refine ⟨cv' :: cvs, ?_, by simp [g2], fun j x u hx hu => ?_⟩
        · rw [List.mapM_cons]
          simp only [Sem.run_bind, resF] at hload ⊢
          rw [hload]
          simp only [Result.andThen_ok, g1, Sem.run_pure]
        · cases j with
          | zero => simp at hx hu; subst hx; subst hu; exact l2
          | succ j => exact g3 j x u (by simpa using hx) (by simpa using hu)
      · cases hr
    · cases htr

theorem resV_sound {ρ : Ren} {h : Heap} {w : World} {tm : Nat → V} {a : Act} {N : Nat} (hA : At ρ h w tm a N) {fn : Func} {rs' : List ARes} (htr : trRes P fn.results.toList = some rs') {v : V} (hv : resV tm h rs' = some v) :
    ∃ cv, (results fn a.tmps).run P w = .ok cv w ∧ VRel ρ (Own ρ h) w v cv := by
  have hrun : ∀ {vs : List V}, resAll tm h rs' = some vs → ∃ cvs : List Value, (results fn a.tmps).run P w = .ok (if h : cvs.length = 1 then cvs[0] else .tuple cvs.toArray) w ∧ vs.length = cvs.length ∧
      ∀ (j : Nat) (x : V) (u : Value), vs[j]? = some x → cvs[j]? = some u → VRel ρ (Own ρ h) w x u := by
    intro vs hvs
    obtain ⟨cvs, g1, g2, g3⟩ := res_one hA htr hvs
    refine ⟨cvs, ?_, g2, g3⟩
    have e : fn.results.mapM (resF a.tmps) = List.toArray <$> fn.results.toList.mapM (resF a.tmps) := by
      rw [← List.mapM_toArray]
    rw [results_eq, e]
    simp only [Sem.run_bind, Sem.run_map, g1, Result.andThen_ok, Sem.run_pure, List.size_toArray, List.getElem_toArray]
  unfold resV at hv
  split at hv
  · rename_i v' hvs
    injection hv with hv; subst hv
    obtain ⟨cvs, g1, g2, g3⟩ := hrun hvs
    match cvs, g2 with
    | [c], _ => exact ⟨c, by simpa using g1, g3 0 _ c rfl rfl⟩
  · rename_i vs hne hvs
    injection hv with hv; subst hv
    obtain ⟨cvs, g1, g2, g3⟩ := hrun hvs
    have h1 : ¬ cvs.length = 1 := by
      intro hh
      rw [hh] at g2
      match vs, g2 with
      | [v0], _ => exact hne v0 rfl
    rw [dif_neg h1] at g1
    exact ⟨_, g1, .tuple vs cvs g2 g3⟩
  · cases hv

/-- THE CONTRACT OF A FUNCTION, FROM ITS ABSTRACT CODE. Blocks may be let go at the end. -/
theorem AC_of (hq : QOk P qf) (hm : P.follows .mixedOrders = true) {f : FuncId} {af : AFun} (htr : trFun P quiet f = some ⟨erase af.code, af.res⟩) {args : List V} {h : Heap} {Q : V → Heap → Prop}
    (hW : W qf (AC P) af.code (fun e tm h' => match e with
      | .exit _ => False
      | _ => ∃ v, resV tm h' af.res = some v ∧ ∃ h'', Sub h'' h' ∧ Q v h'') (fun t => args.getD t .undef) h) : AC P f args h Q := by
  intro ρ w cargs hs hl
  unfold trFun at htr
  split at htr
  · rename_i fn hfn
    split at htr
    · rename_i c hc
      split at htr
      · rename_i ac rs hac hrs
        injection htr with htr; injection htr with e1 e2; subst e2
        rw [e1] at hac
        refine calls_of_wp hfn hc ?_
        have hA : At ρ h w (fun t => args.getD t .undef) { tmps := cargs ++ Array.replicate (fn.ntmps - cargs.size) undef, defers := [] } fn.ntmps := by
          refine ⟨hs, fun t => ?_, by simp; omega, rfl⟩
          rcases Nat.lt_or_ge t cargs.size with c1 | c1
          · have c2 : t < args.length := by rw [hl.1]; exact c1
            have := hl.2 t _ _ (List.getElem?_eq_getElem c2) (Array.getElem?_eq_getElem c1)
            simp only [List.getD_eq_getElem?_getD, List.getElem?_eq_getElem c2, Option.getD_some, Array.getD_eq_getD_getElem?]
            rw [Array.getElem?_append_left c1, Array.getElem?_eq_getElem c1]
            exact this
          · have c2 : args.length ≤ t := by rw [hl.1]; exact c1
            simp only [List.getD_eq_getElem?_getD, List.getElem?_eq_none c2, Option.getD_none, Array.getD_eq_getD_getElem?]
            rw [Array.getElem?_append_right c1]
            have : (Array.replicate (fn.ntmps - cargs.size) undef)[t - cargs.size]?.getD undef = undef := by
              rw [Array.getElem?_replicate]; split <;> rfl
            rw [this]
            exact .undef
        refine wp_mono (code_wp hq hm hac hA hW) ?_
        rintro e a' w' ⟨e', tm', h', ρ', he, hk, hA', hF'⟩
        have fin : (∃ v, resV tm' h' af.res = some v ∧ ∃ h'', Sub h'' h' ∧ Q v h'') → a'.defers = [] ∧ ∃ v, (results fn a'.tmps).run P w' = .ok v w' ∧ ∃ v_1 cv h'' ρ'', Ending.returned v = .returned cv ∧ Q v_1 h'' ∧ St ρ'' h'' w' ∧ VRel ρ'' (Own ρ'' h'') w' v_1 cv ∧ Fr ρ h w ρ'' h'' w' := by
          rintro ⟨v, hv, h'', hsub, hQ⟩
          obtain ⟨cv, g1, g2⟩ := resV_sound hA' hrs hv
          obtain ⟨s1, s2⟩ := hA'.st.sub hsub
          exact ⟨hA'.defers, cv, g1, v, cv, h'', ρ', rfl, hQ, s1, g2.fr s2, hF'.trans s2⟩
        cases e <;> simp only [aexit] at he <;> first
          | (cases he; done)
          | (injection he with he; subst he; exact fin hk)
          | (injection he with he; subst he; exact hk.elim)
      · cases htr
    · cases htr
  · cases htr

end
end Go.Abs
