/- Abstract code against the model's: the contract of a function from its abstract code. -/
import Derived.Test.YtjhdfbplkoaobaaMCalcB
import Derived.Test.YtjhdfbplkoaobaaMCalcA
import Derived.SizedLaws
import Derived.ChangeSlices
import Derived.OpenShut
set_option linter.unusedVariables false
set_option linter.unusedSimpArgs false
namespace Go.Abs

/-- The abstract contract of a function. -/
def AC (P : Program) (f : FuncId) (args : List V) (h : Heap) (Q : V → Heap → Prop) : Prop :=
  ∀ (ρ : Ren) (w : World) (cargs : Array Value), St ρ h w → LRel ρ (Own ρ h) w args cargs →
    Calls P f cargs w fun e w' => ∃ v cv h' ρ', e = .returned cv ∧ Q v h' ∧ St ρ' h' w' ∧ VRel ρ' (Own ρ' h') w' v cv ∧ Fr ρ h w ρ' h' w'

theorem AC.mono {P : Program} {f : FuncId} {args : List V} {h : Heap} {Q Q' : V → Heap → Prop} (ha : AC P f args h Q) (hq : ∀ v h', Q v h' → Q' v h') : AC P f args h Q' :=
  fun ρ w cargs hs hl => (ha ρ w cargs hs hl).mono fun _ _ ⟨v, cv, h', ρ', e, q, r⟩ => ⟨v, cv, h', ρ', e, hq _ _ q, r⟩

theorem AC_CMono (P : Program) : CMono (AC P) := fun _ _ _ _ _ hK ha => ha.mono hK

/-- Quiet functions' meanings hold. -/
structure QOk (P : Program) (qf : FuncId → List V → Heap → Option V) : Prop where
  sound : ∀ f args h v, qf f args h = some v → AC P f args h fun v' h' => v' = v ∧ h' = h
  mono : QMono qf

section
variable {P : Program} {qf : FuncId → List V → Heap → Option V} {quiet : FuncId → Bool}

theorem trOs_rel {ρ : Ren} {O : Nat → Prop} {w : World} {tm : Nat → V} {a : Act} (ht : TRel ρ O w tm a) : ∀ {xs : List Operand} {ys : List Opnd}, trOs xs = some ys → LRel ρ O w (ys.map (·.ev tm)) (xs.map a.eval).toArray
  | [], ys, h => by injection h with h; subst h; exact ⟨rfl, fun j x u hx => by simp at hx⟩
  | x :: xs, ys, h => by
    simp only [trOs] at h
    split at h
    · rename_i y ys' h1 h2
      injection h with h; subst h
      obtain ⟨g1, g2⟩ := trOs_rel ht h2
      refine ⟨by simpa using g1, fun j v u hv hu => ?_⟩
      cases j with
      | zero => simp at hv hu; subst hv; subst hu; exact trO_rel ht h1
      | succ j => exact g2 j v u (by simpa using hv) (by simpa using hu)
    · cases h

/-- What is known of an activation. -/
structure At (ρ : Ren) (h : Heap) (w : World) (tm : Nat → V) (a : Act) (N : Nat) : Prop where
  st : St ρ h w
  tr : TRel ρ (Own ρ h) w tm a
  size : N ≤ a.tmps.size
  defers : a.defers = []

theorem At.put {ρ ρ' : Ren} {h h' : Heap} {w w' : World} {tm : Nat → V} {a : Act} {N : Nat} (hA : At ρ h w tm a N) (hs : St ρ' h' w') (hf : Fr ρ h w ρ' h' w') {d : Option Nat} (hd : ∀ t, d = some t → t < N) {v : V} {cv : Value}
    (hv : VRel ρ' (Own ρ' h') w' v cv) : At ρ' h' w' (putd tm d v) (a.put d cv) N :=
  ⟨hs, (hA.tr.fr hf).putd (fun t ht => Nat.lt_of_lt_of_le (hd t ht) hA.size) hv, by rw [putd_size]; exact hA.size, by rw [putd_defers]; exact hA.defers⟩

theorem op_wp (hq : QOk P qf) {ρ : Ren} {h : Heap} {w : World} {tm : Nat → V} {a : Act} (hs : St ρ h w) (ht : TRel ρ (Own ρ h) w tm a) {o : Oper} {ao : AOp} (htr : trOp P quiet o.op = some ao) {K : V → Heap → Prop}
    (hW : Wop qf (AC P) ao tm h K) {next : Act → World → Prop} {Q : Exit → Act → World → Prop}
    (hK : ∀ v h' ρ' cv w', K v h' → St ρ' h' w' → VRel ρ' (Own ρ' h') w' v cv → Fr ρ h w ρ' h' w' → next (a.put o.dst cv) w') : o.wp P a w next Q := by
  have eff : Eff P ρ h w (execOp a.eval o) K → o.wp P a w next Q := by
    rintro ⟨v, h', ρ', w', cv, r, hrun, hr, hk, h1, h2, h3⟩
    unfold Oper.wp
    rw [hrun]
    rcases hr with rfl | ⟨rfl, rfl⟩
    · exact hK v h' ρ' cv w' hk h1 h2 h3
    · exact hK v h' ρ' undef w' hk h1 h2 h3
  have call : ∀ (f : FuncId) (args : List V) (cargs : Array Value), (execOp a.eval o).run P w = .ok (.enter f cargs) w → LRel ρ (Own ρ h) w args cargs → AC P f args h K → o.wp P a w next Q := by
    intro f args cargs hrun hl hac
    unfold Oper.wp
    rw [hrun]
    refine (hac ρ w cargs hs hl).mono ?_
    rintro e w' ⟨v, cv, h', ρ', rfl, hk, h1, h2, h3⟩
    exact hK v h' ρ' cv w' hk h1 h2 h3
  have pure' : ao.kind < 2 → (∀ f xs, ao ≠ .qcall f xs) → o.wp P a w next Q := by
    intro hk hnq
    obtain ⟨v, hv, hKv⟩ := (Wop_pure hk).1 hW
    obtain ⟨cv, h1, h2⟩ := pure_sound hs hs.cap ht htr hk hnq hv
    unfold Oper.wp
    rw [h1]
    exact hK v h ρ cv w hKv hs h2 (Fr.refl _ _ _)
  have runCall : ∀ {c : Call} {f : FuncId} {fn : Func} {xs : List Opnd}, o.op = .call c → c.callee = .value (.func f) → P.funcs[f]? = some fn → fn.body.isSome = true → (fn.name == "runtime.NumGoroutine") = false → trOs c.args.toList = some xs →
      (execOp a.eval o).run P w = .ok (.enter f (c.args.map a.eval)) w ∧ LRel ρ (Own ρ h) w (xs.map (·.ev tm)) (c.args.map a.eval) := by
    intro c f fn xs hop hcal hf hbody hname hxs
    refine ⟨?_, ?_⟩
    · obtain ⟨cd, hcd⟩ := Option.isSome_iff_exists.1 hbody
      have hn' : ¬ fn.name = "runtime.NumGoroutine" := by simpa using hname
      have hcf : ∀ args, (callFunc f args).run P w = .ok (.enter f args) w := fun args => by simp [callFunc, hf, hn', hcd]
      have he : a.eval (.func f) = .func (.func f) #[] #[] := rfl
      simp [execOp, hop, resolve, hcal, he, Deferred.ofValue, invoke, hcf]
    · have := trOs_rel ht hxs
      have e : (c.args.toList.map a.eval).toArray = c.args.map a.eval := by
        apply Array.ext'
        simp
      rw [e] at this
      exact this
  obtain ⟨dst, op, type, pos, after, guard⟩ := o
  simp only at htr
  cases op with
  | alloc e =>
    simp only [trOp, Option.map_eq_some_iff] at htr
    obtain ⟨z, hz, rfl⟩ := htr
    exact eff (alloc_eff hs hz hW)
  | box e x =>
    simp only [trOp] at htr
    split at htr
    · rename_i n y hn hy
      injection htr with htr; subst htr
      exact eff (box_eff hs (trO_rel ht hy) hW.1.1 hW.1.2 hW.2)
    · cases htr
  | buildSlice t len ps =>
    simp only [trOp] at htr
    split at htr
    · rename_i e hu
      split at htr
      · rename_i n z ps' h1 h2 h3
        split at htr
        · rename_i hc
          injection htr with htr; subst htr
          exact eff (buildS_eff hs ht hu h1 h2 h3 hc.1 hc.2 hW)
        · cases htr
      · cases htr
    · cases htr
  | makeSlice t l c =>
    simp only [trOp] at htr
    split at htr
    · rename_i e hu
      split at htr
      · rename_i i z l' c' h1 h2 h3 h4
        split at htr
        · rename_i hpos
          injection htr with htr; subst htr
          exact eff (mkS_eff hs hu h1 h2 hpos (trO_rel ht h3) (trO_rel ht h4) hW)
        · cases htr
      · cases htr
    · cases htr
  | makeMap t r =>
    cases r with
    | none =>
      injection htr with htr; subst htr
      exact eff (mkM_eff hs hW)
    | some x => cases htr
  | store t x y =>
    simp only [trOp] at htr
    split at htr
    · rename_i n x' y' h1 h2 h3
      injection htr with htr; subst htr
      exact eff (store_eff hs h1 (trO_rel ht h2) (trO_rel ht h3) hW)
    · cases htr
  | mapUpdate t m k x =>
    simp only [trOp] at htr
    split at htr
    · rename_i kT e hu
      split at htr
      · rename_i kt m' k' x' h1 h2 h3 h4
        injection htr with htr; subst htr
        exact eff (mupd_eff hs hu h1 (trO_rel ht h2) (trO_rel ht h3) (trO_rel ht h4) hW)
      · cases htr
    · cases htr
  | mapEntry t m k =>
    simp only [trOp] at htr
    split at htr
    · rename_i kT e hu
      split at htr
      · rename_i kt z m' k' h1 h2 h3 h4
        injection htr with htr; subst htr
        exact eff (ment_eff hs hu h1 h2 (trO_rel ht h3) (trO_rel ht h4) hW)
      · cases htr
    · cases htr
  | entryStore t m s x =>
    simp only [trOp] at htr
    split at htr
    · rename_i m' s' x' h2 h3 h4
      injection htr with htr; subst htr
      exact eff (ests_eff hs (trO_rel ht h2) (trO_rel ht h3) (trO_rel ht h4) hW)
    · cases htr
  | call c =>
    have htr0 := htr
    simp only [trOp, trCall] at htr
    split at htr
    · split at htr
      · split at htr
        · injection htr with htr; subst htr; exact pure' (by simp [AOp.kind]) (by simp)
        · injection htr with htr; subst htr; exact pure' (by simp [AOp.kind]) (by simp)
        · cases htr
      · cases htr
    · split at htr
      · split at htr
        · injection htr with htr; subst htr; exact pure' (by simp [AOp.kind]) (by simp)
        · cases htr
      · cases htr
    · split at htr
      · split at htr
        · injection htr with htr; subst htr; exact pure' (by simp [AOp.kind]) (by simp)
        · cases htr
      · cases htr
    · rename_i hcal
      split at htr
      · rename_i s x t u hargs htys
        split at htr
        · rename_i e s' x' hu h1 h2
          split at htr
          · rename_i i z hi hz
            split at htr
            · rename_i hc
              obtain ⟨rfl, hpos⟩ := hc
              injection htr with htr; subst htr
              have := app_eff (ty := type) hs hu hi hz hpos (trO_rel ht h1) (trO_rel ht h2) hW
              refine eff ?_
              obtain ⟨v, h', ρ', w', cv, r, hrun, rest⟩ := this
              refine ⟨v, h', ρ', w', cv, r, ?_, rest⟩
              rw [← hrun]
              simp [execOp, resolve, hcal, invoke, builtin, args2 hargs, types2 htys]
            · cases htr
          · cases htr
        · cases htr
      · cases htr
    · rename_i f hcal
      split at htr
      · rename_i fn xs hf hxs
        split at htr
        · rename_i hc
          obtain ⟨hbody, hname⟩ := hc
          obtain ⟨hrun, hl⟩ := runCall (c := c) rfl hcal hf hbody hname hxs
          injection htr with htr
          split at htr
          · subst htr
            obtain ⟨v, hv, hKv⟩ := (Wop_pure (o := .qcall f xs) (by simp [AOp.kind])).1 hW
            refine call f _ _ hrun hl ((hq.sound f _ h v hv).mono ?_)
            rintro v' h' ⟨rfl, rfl⟩
            exact hKv
          · subst htr
            exact call f _ _ hrun hl hW
        · cases htr
      · cases htr
    · cases htr
  | move x => simp only [trOp, Option.map_eq_some_iff] at htr; obtain ⟨_, _, rfl⟩ := htr; exact pure' (by simp [AOp.kind]) (by simp)
  | assign x => simp only [trOp, Option.map_eq_some_iff] at htr; obtain ⟨_, _, rfl⟩ := htr; exact pure' (by simp [AOp.kind]) (by simp)
  | pick c x y =>
    simp only [trOp] at htr
    split at htr
    · injection htr with htr; subst htr; exact pure' (by simp [AOp.kind]) (by simp)
    · cases htr
  | build t ps =>
    simp only [trOp] at htr
    split at htr
    · split at htr
      · simp only [Option.map_eq_some_iff] at htr
        obtain ⟨_, _, rfl⟩ := htr; exact pure' (by simp [AOp.kind]) (by simp)
      · cases htr
    · split at htr
      · simp only [Option.map_eq_some_iff] at htr
        obtain ⟨_, _, rfl⟩ := htr; exact pure' (by simp [AOp.kind]) (by simp)
      · cases htr
    · cases htr
  | load t x =>
    simp only [trOp] at htr
    split at htr
    · injection htr with htr; subst htr; exact pure' (by simp [AOp.kind]) (by simp)
    · cases htr
  | nilCheck x => simp only [trOp, Option.map_eq_some_iff] at htr; obtain ⟨_, _, rfl⟩ := htr; exact pure' (by simp [AOp.kind]) (by simp)
  | binOp op t x y yt =>
    simp only [trOp] at htr
    split at htr
    · injection htr with htr; subst htr; exact pure' (by simp [AOp.kind]) (by simp)
    · cases htr
  | unOp op t x => simp only [trOp, Option.map_eq_some_iff] at htr; obtain ⟨_, _, rfl⟩ := htr; exact pure' (by simp [AOp.kind]) (by simp)
  | convert s d x =>
    simp only [trOp] at htr
    split at htr
    · injection htr with htr; subst htr; exact pure' (by simp [AOp.kind]) (by simp)
    · split at htr
      · injection htr with htr; subst htr; exact pure' (by simp [AOp.kind]) (by simp)
      · cases htr
    · cases htr
  | slice t x lo hi mx =>
    simp only [trOp] at htr
    split at htr
    · split at htr
      · injection htr with htr; subst htr; exact pure' (by simp [AOp.kind]) (by simp)
      · cases htr
    · split at htr
      · injection htr with htr; subst htr; exact pure' (by simp [AOp.kind]) (by simp)
      · cases htr
    · cases htr
  | fieldAddr s x f =>
    simp only [trOp] at htr
    split at htr
    · split at htr
      · split at htr
        · split at htr
          · cases htr
          · injection htr with htr; subst htr; exact pure' (by simp [AOp.kind]) (by simp)
        · cases htr
      · cases htr
    · cases htr
  | field s x f =>
    simp only [trOp] at htr
    split at htr
    · split at htr
      · split at htr
        · injection htr with htr; subst htr; exact pure' (by simp [AOp.kind]) (by simp)
        · cases htr
      · cases htr
    · cases htr
  | indexAddr t x i =>
    simp only [trOp] at htr
    split at htr
    · simp only [Option.map_eq_some_iff] at htr
      obtain ⟨_, _, rfl⟩ := htr; exact pure' (by simp [AOp.kind]) (by simp)
    · simp only [Option.map_eq_some_iff] at htr
      obtain ⟨_, _, rfl⟩ := htr; exact pure' (by simp [AOp.kind]) (by simp)
    · cases htr
  | index t x i =>
    simp only [trOp] at htr
    split at htr
    · injection htr with htr; subst htr; exact pure' (by simp [AOp.kind]) (by simp)
    · cases htr
  | lookup t m k ok =>
    simp only [trOp] at htr
    split at htr
    · split at htr
      · injection htr with htr; subst htr; exact pure' (by simp [AOp.kind]) (by simp)
      · cases htr
    · cases htr
  | extract x i => simp only [trOp, Option.map_eq_some_iff] at htr; obtain ⟨_, _, rfl⟩ := htr; exact pure' (by simp [AOp.kind]) (by simp)
  | _ => cases htr

/-- The same with what is seen as frozen from its birth on. -/
theorem op_wp_fz (hq : QOk P qf) {ρ : Ren} {h : Heap} {w : World} {tm : Nat → V} {a : Act} (hs : St ρ h w) (ht : TRel ρ (Own ρ h) w tm a) {o : Oper} {ao : AOp} (htr : trOp P quiet o.op = some ao) {K : V → Heap → Prop} {b : Bool}
    (hW : Wop qf (AC P) (ao.fz b) tm h K) {next : Act → World → Prop} {Q : Exit → Act → World → Prop}
    (hK : ∀ v h' ρ' cv w', K v h' → St ρ' h' w' → VRel ρ' (Own ρ' h') w' v cv → Fr ρ h w ρ' h' w' → next (a.put o.dst cv) w') : o.wp P a w next Q := by
  have key : Wop qf (AC P) ao tm h (fun v h' => ∃ v' h'', View v h' v' h'' ∧ K v' h'') → o.wp P a w next Q := fun hw =>
    op_wp hq hs ht htr hw fun v h' ρ' cv w' ⟨v', h'', hv, hk⟩ h1 h2 h3 => by
      obtain ⟨a1, a2, a3⟩ := hv ρ' w' cv h1 h2
      exact hK v' h'' ρ' cv w' hk a1 a2 (h3.trans a3)
  have same : Wop qf (AC P) ao tm h K → o.wp P a w next Q := fun hw => op_wp hq hs ht htr hw hK
  cases b with
  | false => cases ao <;> exact same hW
  | true =>
    cases ao <;> first
      | exact same hW
      | skip
    · exact key ⟨hW.1, fun b hb => ⟨_, _, View.box hb, hW.2⟩⟩
    · refine key ?_
      simp only [AOp.fz, if_true, Wop, wBuildSp] at hW
      simp only [Wop, wBuildS]
      split at hW
      · exact fun b hb => ⟨_, _, View.buildS hb hW.1, hW.2⟩
      · exact hW.elim

theorem vrel_undef {ρ : Ren} {O : Nat → Prop} {w : World} {c : Value} (h : VRel ρ O w .undef c) : c = undef := by cases h; rfl

/-- One operation with its guard. -/
theorem oper_wp (hq : QOk P qf) {N : Nat} {ops : Array Oper} {o : Oper} {x : AOper} (htr : trOper P quiet N ops o = some x) {ρ : Ren} {h : Heap} {w : World} {tm : Nat → V} {a : Act} (hA : At ρ h w tm a N) {K : (Nat → V) → Heap → Prop}
    (hW : Woper qf (AC P) x K tm h) {next : Act → World → Prop} {Q : Exit → Act → World → Prop}
    (hK : ∀ tm' h' ρ' a' w', K tm' h' → At ρ' h' w' tm' a' N → Fr ρ h w ρ' h' w' → next a' w') :
    if Region.wanted o (yielded ops a.tmps) then o.wp P a w next Q ∨ (o.asks P a w ∧ LetsOut Q) else next (a.put o.dst undef) w := by
  unfold trOper at htr
  split at htr
  · cases htr
  · rename_i ao hao
    split at htr
    · rename_i hdst
      have hd : ∀ t, o.dst = some t → t < N := by
        intro t ht
        rw [ht] at hdst
        simpa [dstOk] using hdst
      have go : x.op = ao.fz (frozen quiet o.dst) → x.dst = o.dst → Wop qf (AC P) x.op tm h (fun v h' => K (putd tm x.dst v) h') → o.wp P a w next Q := by
        intro e1 e2 hw
        rw [e1, e2] at hw
        exact op_wp_fz hq hA.st hA.tr hao hw fun v h' ρ' cv w' hk h1 h2 h3 => hK _ h' ρ' _ w' hk (hA.put h1 h3 hd h2) h3
      have skip : x.dst = o.dst → K (putd tm x.dst .undef) h → next (a.put o.dst undef) w := by
        intro e2 hk
        rw [e2] at hk
        exact hK _ h ρ _ w hk (hA.put hA.st (Fr.refl _ _ _) hd .undef) (Fr.refl _ _ _)
      split at htr
      · rename_i hg
        injection htr with htr; subst htr
        simp only [Woper] at hW
        have hwant : Region.wanted o (yielded ops a.tmps) = true := by simp [Region.wanted, hg]
        rw [if_pos hwant]
        exact .inl (go rfl rfl hW)
      · rename_i j want hg
        split at htr
        · rename_i t hj
          injection htr with htr; subst htr
          simp only [Woper] at hW
          have hrel := hA.tr t
          have hy : yielded ops a.tmps j = match a.tmps[t]? with
            | some (.bool b) => some b
            | _ => none := by
            unfold yielded
            rw [hj]
            rfl
          split at hW
          · rename_i b hb
            rw [hb] at hrel
            have hv := vrel_bool hrel
            have hget : a.tmps[t]? = some (.bool b) := by
              cases hq' : a.tmps[t]? with
              | none => simp [hq', undef] at hv
              | some u => simp [hq'] at hv; rw [hv]
            rw [hget] at hy
            have hw' : Region.wanted o (yielded ops a.tmps) = (b == want) := by simp [Region.wanted, hg, hy]
            split at hW
            · rename_i c
              rw [if_pos (by rw [hw']; simpa using c)]
              exact .inl (go rfl rfl hW)
            · rename_i c
              rw [if_neg (by rw [hw']; simpa using c)]
              exact skip rfl hW
          · rename_i hb
            rw [hb] at hrel
            have hv := vrel_undef hrel
            have hy' : yielded ops a.tmps j = none := by
              rw [hy]
              cases hq' : a.tmps[t]? with
              | none => rfl
              | some u => simp [hq'] at hv; rw [hv]; rfl
            have hw' : Region.wanted o (yielded ops a.tmps) = false := by simp [Region.wanted, hg, hy']
            rw [if_neg (by rw [hw']; simp)]
            exact skip rfl hW
          · exact hW.elim
        · cases htr
    · cases htr

theorem trOpers_get {N : Nat} {ops : Array Oper} : ∀ {l : List Oper} {as : List AOper}, trOpers P quiet N ops l = some as → as.length = l.length ∧ ∀ (j : Nat) (o : Oper), l[j]? = some o → ∃ x, as[j]? = some x ∧ trOper P quiet N ops o = some x
  | [], as, h => by injection h with h; subst h; exact ⟨rfl, fun j o ho => by simp at ho⟩
  | o :: l, as, h => by
    simp only [trOpers] at h
    split at h
    · rename_i x xs h1 h2
      injection h with h; subst h
      obtain ⟨g1, g2⟩ := trOpers_get h2
      refine ⟨by simp [g1], fun j o' ho => ?_⟩
      cases j with
      | zero => simp at ho; subst ho; exact ⟨x, rfl, h1⟩
      | succ j => simpa using g2 j o' (by simpa using ho)
    · cases h

/-- A region in its text's order. -/
theorem chain_wp (hq : QOk P qf) {N : Nat} {ops : Array Oper} {ρ0 : Ren} {h0 : Heap} {w0 : World} {K : (Nat → V) → Heap → Prop} {Q : Exit → Act → World → Prop}
    (hK : ∀ tm' h' ρ' a' w', K tm' h' → At ρ' h' w' tm' a' N → Fr ρ0 h0 w0 ρ' h' w' → Q .normal a' w') :
    ∀ {l : List Oper} {as : List AOper}, trOpers P quiet N ops l = some as → ∀ {ρ : Ren} {h : Heap} {w : World} {tm : Nat → V} {a : Act}, At ρ h w tm a N → Fr ρ0 h0 w0 ρ h w → Wt qf (AC P) (chain as) K tm h → wpList P ops Q l a w
  | [], as, htr, ρ, h, w, tm, a, hA, hF, hW => by
    injection htr with htr; subst htr
    exact hK tm h ρ a w hW hA hF
  | o :: l, as, htr, ρ, h, w, tm, a, hA, hF, hW => by
    simp only [trOpers] at htr
    split at htr
    · rename_i x xs h1 h2
      injection htr with htr; subst htr
      simp only [chain, Wt] at hW
      unfold wpList
      exact oper_wp hq h1 hA hW fun tm' h' ρ' a' w' hk hA' hF' => chain_wp hq hK h2 hA' (hF.trans hF') hk
    · cases htr

/-- A region whose order is drawn. -/
theorem wall_wp (hq : QOk P qf) {N : Nat} {ops : Array Oper} {as : List AOper} (htr : trOpers P quiet N ops ops.toList = some as) {ρ0 : Ren} {h0 : Heap} {w0 : World} {K : (Nat → V) → Heap → Prop} {Q : Exit → Act → World → Prop}
    (hK : ∀ tm' h' ρ' a' w', K tm' h' → At ρ' h' w' tm' a' N → Fr ρ0 h0 w0 ρ' h' w' → Q .normal a' w') :
    ∀ (n : Nat) (listed : Array Bool) {ρ : Ren} {h : Heap} {w : World} {tm : Nat → V} {a : Act}, At ρ h w tm a N → Fr ρ0 h0 w0 ρ h w → Wall qf (AC P) ops as.toArray n listed K tm h → wpAny P .any ops Q n listed a w := by
  intro n
  induction n with
  | zero =>
    intro listed ρ h w tm a hA hF hW
    exact ⟨hW.1, hK tm h ρ a w hW.2 hA hF⟩
  | succ n ih =>
    intro listed ρ h w tm a hA hF hW
    refine ⟨fun he => hK tm h ρ a w (hW.1 he) hA hF, fun i hi => ?_⟩
    obtain ⟨x, hx, hw⟩ := hW.2 i hi
    obtain ⟨hlt, _, o, ho, _⟩ := mem_ready.1 hi
    obtain ⟨_, hget⟩ := trOpers_get htr
    obtain ⟨x', hx', hox⟩ := hget i o (by simpa using ho)
    have : x' = x := by
      have hx2 : as[i]? = some x := by simpa using hx
      rw [hx'] at hx2; injection hx2
    subst this
    unfold wpOp
    simp only [ho]
    exact oper_wp hq hox hA hw fun tm' h' ρ' a' w' hk hA' hF' => ih _ hA' (hF.trans hF') hk

/-- How code is left, abstractly and in the model. -/
def aexit : Exit → Option AExit
  | .normal => some .normal
  | .exit id => some (.exit id)
  | .ret => some .ret
  | _ => none

/-- What the model's code has to come to. -/
def QRel (N : Nat) (ρ : Ren) (h : Heap) (w : World) (Q : AExit → (Nat → V) → Heap → Prop) : Exit → Act → World → Prop :=
  fun e a' w' => ∃ e' tm' h' ρ', aexit e = some e' ∧ Q e' tm' h' ∧ At ρ' h' w' tm' a' N ∧ Fr ρ h w ρ' h' w'

theorem wp_loop_rel {c : Code} {Q : Exit → Act → World → Prop} (I : Nat → Act → World → Prop)
    (round : ∀ n a w, I n a w → c.wp P (Exit.then (fun a' w' => ∃ m, m < n ∧ I m a' w') Q) a w) {n : Nat} {a : Act} {w : World} (h₀ : I n a w) : (Code.loop c).wp P Q a w := by
  intro b k cs
  have key : ∀ n a w, I n a w → ∃ e a' w', Q e a' w' ∧ Arrives P (lone (b.at a (.code c :: .inLoop c :: k)) cs w) b k cs e a' w' := by
    intro n
    induction n using Nat.strongRecOn with
    | _ n ih =>
      intro a w hI
      obtain ⟨e, a₁, w₁, hq, harr⟩ := round n a w hI b (.inLoop c :: k) cs
      cases e with
      | normal =>
        obtain ⟨m, hm, hI₁⟩ := hq
        obtain ⟨e₂, a₂, w₂, hq₂, harr₂⟩ := ih m hm a₁ w₁ hI₁
        exact ⟨e₂, a₂, w₂, hq₂, .of_steps (Steps.trans harr (.one step_inLoop)) harr₂⟩
      | exit id => exact ⟨_, a₁, w₁, hq, .pass (x := .inLoop c) rfl (fun _ _ => .inl (by simp)) harr⟩
      | goto l => exact ⟨_, a₁, w₁, hq, .pass (x := .inLoop c) rfl (fun _ _ => .inl (by simp)) harr⟩
      | ret => exact ⟨_, a₁, w₁, hq, .pass (x := .inLoop c) rfl (fun _ _ => .inl (by simp)) harr⟩
      | panic ch => exact ⟨_, a₁, w₁, hq, .pass (x := .inLoop c) rfl (fun _ _ => .inl (by simp)) harr⟩
      | outgrown => exact ⟨_, a₁, w₁, hq, .pass (x := .inLoop c) rfl (fun _ _ => .inl (by simp)) harr⟩
  obtain ⟨e, a', w', hq, harr⟩ := key _ a w h₀
  exact ⟨e, a', w', hq, .of_steps (.one step_loop) harr⟩

/-- Another view of the same state: what the abstract side says of it turns, the world does not. -/
def Shift (tm : Nat → V) (h : Heap) (tm' : Nat → V) (h' : Heap) : Prop := ∀ (ρ : Ren) (w : World) (a : Act), St ρ h w → TRel ρ (Own ρ h) w tm a → St ρ h' w ∧ TRel ρ (Own ρ h') w tm' a ∧ Fr ρ h w ρ h' w

/-- What code comes to. -/
def W (qf : FuncId → List V → Heap → Option V) (C : FuncId → List V → Heap → (V → Heap → Prop) → Prop) : ACode → (AExit → (Nat → V) → Heap → Prop) → (Nat → V) → Heap → Prop
  | .skip, Q, tm, h => Q .normal tm h
  | .ghost, Q, tm, h => ∃ tm' h', Shift tm h tm' h' ∧ Q .normal tm' h'
  | .region t, Q, tm, h => Wt qf C t (Q .normal) tm h
  | .seq a b, Q, tm, h => W qf C a (fun e tm' h' => match e with
    | .normal => W qf C b Q tm' h'
    | e => Q e tm' h') tm h
  | .cond c a b, Q, tm, h =>
    match c.ev tm with
    | .bool t => if t then W qf C a Q tm h else W qf C b Q tm h
    | _ => False
  | .block id a, Q, tm, h => W qf C a (fun e tm' h' => match e with
    | .exit id' => if id' = id then Q .normal tm' h' else Q (.exit id') tm' h'
    | e => Q e tm' h') tm h
  | .loop a, Q, tm, h => ∃ I : Nat → (Nat → V) → Heap → Prop, (∃ n, I n tm h) ∧
    ∀ n tm h, I n tm h → W qf C a (fun e tm' h' => match e with
      | .normal => ∃ m, m < n ∧ I m tm' h'
      | e => Q e tm' h') tm h
  | .exit id, Q, tm, h => Q (.exit id) tm h
  | .ret, Q, tm, h => Q .ret tm h
  | .cregion S t, Q, tm, h => Wct qf C t (fun tm' h' => Q .normal (mk (S.map fun t => (t, tm' t))) h') tm h
  | .keep S, Q, tm, h => Q .normal (mk (S.map fun t => (t, tm t))) h
  | .after a S, Q, tm, h => W qf C a (fun e tm' h' => match e with
    | .normal => Q .normal (mk (S.map fun t => (t, tm' t))) h'
    | e => Q e tm' h') tm h

/-- The code without the changes of view. -/
def erase : ACode → ACode
  | .seq .ghost b => erase b
  | .seq (.keep _) b => erase b
  | .after a _ => erase a
  | .seq a b => .seq (erase a) (erase b)
  | .cond c a b => .cond c (erase a) (erase b)
  | .block id a => .block id (erase a)
  | .loop a => .loop (erase a)
  | c => c

theorem mk_rel {ρ : Ren} {O : Nat → Prop} {w : World} {tm : Nat → V} {a : Act} (ht : TRel ρ O w tm a) : ∀ (S : List Nat), TRel ρ O w (mk (S.map fun t => (t, tm t))) a
  | [], t => .top _
  | d :: S, t => by
    show VRel ρ O w (if t = d then tm d else mk (S.map fun t => (t, tm t)) t) _
    split
    · rename_i e; subst e; exact ht t
    · exact mk_rel ht S t

theorem at_forget {ρ : Ren} {h : Heap} {w : World} {tm : Nat → V} {a : Act} {N : Nat} (hA : At ρ h w tm a N) (S : List Nat) : At ρ h w (mk (S.map fun t => (t, tm t))) a N :=
  ⟨hA.st, mk_rel hA.tr S, hA.size, hA.defers⟩

theorem region_wp (hq : QOk P qf) (hm : P.follows .mixedOrders = true) {N : Nat} {t : RTree} {c : Code} (htr : trCode P quiet N c = some (.region t)) {K : (Nat → V) → Heap → Prop} {ρ : Ren} {h : Heap} {w : World} {tm : Nat → V} {a : Act}
    (hA : At ρ h w tm a N) (hW : Wt qf (AC P) t K tm h) : c.wp P (fun e a' w' => e = .normal ∧ ∃ tm' h' ρ', K tm' h' ∧ At ρ' h' w' tm' a' N ∧ Fr ρ h w ρ' h' w') a w := by
    cases c <;> simp only [trCode] at htr <;> first
      | (cases htr; done)
      | (simp at htr; done)
      | (injection htr with htr; cases htr; done)
      | skip
    · rename_i id ops draw
      split at htr
      · rename_i as has
        injection htr with htr; injection htr with htr; subst htr
        cases draw with
        | false =>
          simp only [Bool.false_eq_true, if_false] at hW
          exact wp_region_list (chain_wp hq (ρ0 := ρ) (h0 := h) (w0 := w) (fun tm' h' ρ' a' w' hk hA' hF' => ⟨rfl, tm', h', ρ', hk, hA', hF'⟩) has hA (Fr.refl _ _ _) hW)
        | true =>
          simp only [if_true] at hW
          obtain ⟨hs', hf'⟩ := hA.st.same (w' := { w with drawn := w.drawn + 1 }) rfl rfl rfl rfl
          refine wp_region_any hm (wall_wp hq has (ρ0 := ρ) (h0 := h) (w0 := w) (fun tm' h' ρ' a' w' hk hA' hF' => ⟨rfl, tm', h', ρ', hk, hA', hF'⟩) _ _ ⟨hs', hA.tr.fr hf', hA.size, hA.defers⟩ hf' ?_)
          refine plan_sound (AC_CMono P) hq.mono (fun j i hb => masks_sound _ [] [] rfl rfl (by simp) j i hb) _ _ _ _ ⟨by simp, fun j o hj => ?_⟩ hW
          simp [Array.getD_eq_getD_getElem?, Array.getElem?_replicate] at hj
          split at hj <;> simp at hj
      · cases htr
    · split at htr
      · injection htr with htr; cases htr
      · cases htr
    · split at htr
      · injection htr with htr; cases htr
      · cases htr

theorem code_wp (hq : QOk P qf) (hm : P.follows .mixedOrders = true) {N : Nat} : ∀ {ac x : ACode} {hs : List (List Nat)} {c : Code}, trCode P quiet N c = some x → (compC x hs).1 = erase ac → ∀ {Q : AExit → (Nat → V) → Heap → Prop} {ρ : Ren} {h : Heap} {w : World} {tm : Nat → V} {a : Act},
    At ρ h w tm a N → W qf (AC P) ac Q tm h → c.wp P (QRel N ρ h w Q) a w := by
  intro ac
  -- what a translation can have come from
  have hseq : ∀ {c : Code} {x y : ACode}, trCode P quiet N c = some (.seq x y) → ∃ c1 c2, c = .seq c1 c2 ∧ trCode P quiet N c1 = some x ∧ trCode P quiet N c2 = some y := by
    intro c x y h
    cases c <;> simp only [trCode] at h <;> first
      | (cases h; done)
      | (injection h with h; cases h; done)
      | skip
    · split at h
      · injection h with h; cases h
      · cases h
    · split at h
      · rename_i h1 h2
        injection h with h; injection h with e1 e2; subst e1; subst e2
        exact ⟨_, _, rfl, h1, h2⟩
      · cases h
    · split at h
      · injection h with h; cases h
      · cases h
    · simp at h
    · simp at h
  induction ac with
  | skip =>
    intro x hs c htr hco Q ρ h w tm a hA hW
    simp only [erase] at hco
    obtain rfl := comp_skip hco
    cases c <;> simp only [trCode] at htr <;> first
      | (cases htr; done)
      | exact wp_skip ⟨.normal, tm, h, ρ, rfl, hW, hA, Fr.refl _ _ _⟩
      | (split at htr
         · injection htr with htr; cases htr
         · cases htr)
      | (simp at htr; done)
      | (injection htr with htr; cases htr)
  | ghost =>
    intro x hs c htr hco
    simp only [erase] at hco
    obtain rfl := comp_ghost hco
    cases c <;> simp only [trCode] at htr <;> first
      | (cases htr; done)
      | (split at htr
         · injection htr with htr; cases htr
         · cases htr)
      | (simp at htr; done)
      | (injection htr with htr; cases htr)
  | keep S =>
    intro x hs c htr hco
    simp only [erase] at hco
    obtain rfl := comp_keep hco
    cases c <;> simp only [trCode] at htr <;> first
      | (cases htr; done)
      | (split at htr
         · injection htr with htr; cases htr
         · cases htr)
      | (simp at htr; done)
      | (injection htr with htr; cases htr)
  | after x S ih =>
    intro x0 hs c htr hco Q ρ h w tm a hA hW
    simp only [erase] at hco
    simp only [W] at hW
    refine wp_mono (ih htr hco hA hW) ?_
    rintro e a' w' ⟨e', tm', h', ρ', he, hk, hA', hF'⟩
    cases e <;> simp only [aexit] at he <;> first
      | (cases he; done)
      | (injection he with he; subst he
         exact ⟨_, _, h', ρ', rfl, hk, at_forget hA' S, hF'⟩)
      | (injection he with he; subst he
         exact ⟨_, tm', h', ρ', rfl, hk, hA', hF'⟩)
  | region t =>
    intro x hs c htr hco Q ρ h w tm a hA hW
    simp only [erase] at hco
    obtain rfl := comp_region hco
    refine wp_mono (region_wp hq hm htr hA (K := Q .normal) hW) ?_
    rintro e a' w' ⟨rfl, tm', h', ρ', hk, hA', hF'⟩
    exact ⟨.normal, tm', h', ρ', rfl, hk, hA', hF'⟩
  | cregion S ct =>
    intro x hs c htr hco Q ρ h w tm a hA hW
    simp only [erase] at hco
    rcases comp_cregion hco with ⟨t, rfl, rfl⟩ | rfl
    · refine wp_mono (region_wp hq hm htr hA (K := fun tm h => ∃ tmc : Nat → V, Q .normal (mk (S.map fun t => (t, tmc t))) h ∧ ∀ n ∈ S, tm n = tmc n) (comp_sound (AC_CMono P) hW)) ?_
      rintro e a' w' ⟨rfl, tm', h', ρ', ⟨tmc, hk, hag⟩, hA', hF'⟩
      refine ⟨.normal, _, h', ρ', rfl, hk, ?_, hF'⟩
      have e1 : (S.map fun t => (t, tmc t)) = S.map fun t => (t, tm' t) := List.map_congr_left fun n hn => by rw [hag n hn]
      rw [e1]
      exact at_forget hA' S
    · cases c <;> simp only [trCode] at htr <;> first
        | (cases htr; done)
        | (split at htr
           · injection htr with htr; cases htr
           · cases htr)
        | (simp at htr; done)
        | (injection htr with htr; cases htr)
  | seq x y ihx ihy =>
    intro x0 hs c htr hco Q ρ h w tm a hA hW
    by_cases hg : x = .ghost
    · subst hg
      simp only [erase] at hco
      simp only [W] at hW
      obtain ⟨tm', h', hsh, hW⟩ := hW
      obtain ⟨s1, s2, s3⟩ := hsh ρ w a hA.st hA.tr
      refine wp_mono (ihy htr hco ⟨s1, s2, hA.size, hA.defers⟩ hW) ?_
      rintro e a' w' ⟨e', tm', h', ρ', he, hk, hA', hF'⟩
      exact ⟨e', tm', h', ρ', he, hk, hA', s3.trans hF'⟩
    · by_cases hkp : ∃ S, x = .keep S
      · obtain ⟨S, rfl⟩ := hkp
        simp only [erase] at hco
        simp only [W] at hW
        exact ihy htr hco (at_forget hA S) hW
      have he : erase (.seq x y) = .seq (erase x) (erase y) := by
        cases x <;> first | rfl | exact absurd rfl hg | exact absurd ⟨_, rfl⟩ hkp
      rw [he] at hco
      obtain ⟨x1, x2, hs2, rfl, k1, k2⟩ := comp_seq hco
      obtain ⟨c1, c2, rfl, h1, h2⟩ := hseq htr
      simp only [W] at hW
      refine wp_seq (wp_mono (ihx h1 k1 hA hW) ?_)
      rintro e a' w' ⟨e', tm', h', ρ', he, hk, hA', hF'⟩
      cases e <;> simp only [aexit] at he <;> first
        | (cases he; done)
        | (injection he with he; subst he
           exact wp_mono (ihy h2 k2 hA' hk) fun e a' w' ⟨e', tm'', h'', ρ'', he, hk, hA'', hF''⟩ => ⟨e', tm'', h'', ρ'', he, hk, hA'', hF'.trans hF''⟩)
        | (injection he with he; subst he
           exact ⟨_, tm', h', ρ', rfl, hk, hA', hF'⟩)
  | cond c0 x y ihx ihy =>
    intro x0 hs c htr hco Q ρ h w tm a hA hW
    simp only [erase] at hco
    obtain ⟨x1, x2, hs2, rfl, k1, k2⟩ := comp_cond hco
    cases c <;> simp only [trCode] at htr <;> first
      | (cases htr; done)
      | (simp at htr; done)
      | (injection htr with htr; cases htr; done)
      | skip
    · split at htr
      · injection htr with htr; cases htr
      · cases htr
    · split at htr
      · injection htr with htr; cases htr
      · cases htr
    · split at htr
      · rename_i c' ax ay h0 h1 h2
        injection htr with htr; injection htr with e1 e2 e3; subst e1; subst e2; subst e3
        simp only [W] at hW
        have hrel := trO_rel hA.tr h0
        split at hW
        · rename_i b hb
          rw [hb] at hrel
          have hv := vrel_bool hrel
          refine wp_cond hv ?_
          cases b with
          | true => simp only [if_true] at hW ⊢; exact ihx h1 k1 hA hW
          | false => simp only [Bool.false_eq_true, if_false] at hW ⊢; exact ihy h2 k2 hA hW
        · exact hW.elim
      · cases htr
  | block id x ih =>
    intro x0 hs c htr hco Q ρ h w tm a hA hW
    simp only [erase] at hco
    obtain ⟨x1, rfl, k1⟩ := comp_block hco
    cases c <;> simp only [trCode] at htr <;> first
      | (cases htr; done)
      | (split at htr
         · injection htr with htr; cases htr
         · cases htr
         done)
      | (injection htr with htr; cases htr; done)
      | skip
    · simp only [Option.map_eq_some_iff] at htr
      obtain ⟨ax, h1, e⟩ := htr
      injection e with e1 e2; subst e1; subst e2
      simp only [W] at hW
      refine wp_block (wp_mono (ih h1 k1 hA hW) ?_)
      rintro e a' w' ⟨e', tm', h', ρ', he, hk, hA', hF'⟩
      cases e <;> simp only [aexit] at he <;> first
        | (cases he; done)
        | skip
      · injection he with he; subst he
        exact ⟨.normal, tm', h', ρ', rfl, hk, hA', hF'⟩
      · injection he with he; subst he
        simp only [Exit.inBlock]
        simp only at hk
        split
        · rename_i c; rw [if_pos c] at hk; exact ⟨.normal, tm', h', ρ', rfl, hk, hA', hF'⟩
        · rename_i c; rw [if_neg c] at hk; exact ⟨.exit _, tm', h', ρ', rfl, hk, hA', hF'⟩
      · injection he with he; subst he
        exact ⟨.ret, tm', h', ρ', rfl, hk, hA', hF'⟩
    · simp at htr
  | loop x ih =>
    intro x0 hs c htr hco Q ρ h w tm a hA hW
    simp only [erase] at hco
    obtain ⟨x1, rfl, k1⟩ := comp_loop hco
    cases c <;> simp only [trCode] at htr <;> first
      | (cases htr; done)
      | (split at htr
         · injection htr with htr; cases htr
         · cases htr
         done)
      | (injection htr with htr; cases htr; done)
      | skip
    · simp at htr
    · simp only [Option.map_eq_some_iff] at htr
      obtain ⟨ax, h1, e⟩ := htr
      injection e with e1; subst e1
      simp only [W] at hW
      obtain ⟨I, ⟨n, hI⟩, hround⟩ := hW
      refine wp_loop_rel (fun n a' w' => ∃ tm' h' ρ', I n tm' h' ∧ At ρ' h' w' tm' a' N ∧ Fr ρ h w ρ' h' w') ?_ ⟨tm, h, ρ, hI, hA, Fr.refl _ _ _⟩
      rintro n a1 w1 ⟨tm1, h1', ρ1, hI1, hA1, hF1⟩
      refine wp_mono (ih h1 k1 hA1 (hround n tm1 h1' hI1)) ?_
      rintro e a' w' ⟨e', tm', h', ρ', he, hk, hA', hF'⟩
      cases e <;> simp only [aexit] at he <;> first
        | (cases he; done)
        | skip
      · injection he with he; subst he
        obtain ⟨m, hm', hI'⟩ := hk
        exact ⟨m, hm', tm', h', ρ', hI', hA', hF1.trans hF'⟩
      · injection he with he; subst he
        exact ⟨_, tm', h', ρ', rfl, hk, hA', hF1.trans hF'⟩
      · injection he with he; subst he
        exact ⟨_, tm', h', ρ', rfl, hk, hA', hF1.trans hF'⟩
  | exit id =>
    intro x hs c htr hco Q ρ h w tm a hA hW
    simp only [erase] at hco
    obtain rfl := comp_exit hco
    cases c <;> simp only [trCode] at htr <;> first
      | (cases htr; done)
      | (injection htr with htr; injection htr with htr; subst htr; exact wp_exit ⟨.exit _, tm, h, ρ, rfl, hW, hA, Fr.refl _ _ _⟩)
      | (split at htr
         · injection htr with htr; cases htr
         · cases htr)
      | (simp at htr; done)
      | (injection htr with htr; cases htr)
  | ret =>
    intro x hs c htr hco Q ρ h w tm a hA hW
    simp only [erase] at hco
    obtain rfl := comp_ret hco
    cases c <;> simp only [trCode] at htr <;> first
      | (cases htr; done)
      | exact wp_ret ⟨.ret, tm, h, ρ, rfl, hW, hA, Fr.refl _ _ _⟩
      | (split at htr
         · injection htr with htr; cases htr
         · cases htr)
      | (simp at htr; done)
      | (injection htr with htr; cases htr)

def resF (tmps : Array Value) : ResultVar → Sem Value
  | .tmp t => pure (tmps.getD t undef)
  | .cell b t => do loadVar t (← asAddr (tmps.getD b undef))

theorem results_eq (fn : Func) (tmps : Array Value) : results fn tmps = (do
    let vs ← fn.results.mapM (resF tmps)
    pure (if h : vs.size = 1 then vs[0] else .tuple vs)) := by
  unfold results
  congr 1

theorem res_one {ρ : Ren} {h : Heap} {w : World} {tm : Nat → V} {a : Act} {N : Nat} (hA : At ρ h w tm a N) : ∀ {rs : List ResultVar} {rs' : List ARes} {vs : List V}, trRes P rs = some rs' → resAll tm h rs' = some vs →
    ∃ cvs : List Value, (rs.mapM (resF a.tmps)).run P w = .ok cvs w ∧ vs.length = cvs.length ∧ ∀ (j : Nat) (x : V) (u : Value), vs[j]? = some x → cvs[j]? = some u → VRel ρ (Own ρ h) w x u
  | [], rs', vs, htr, hr => by
    injection htr with htr; subst htr
    injection hr with hr; subst hr
    exact ⟨[], rfl, rfl, fun j x u hx => by simp at hx⟩
  | .tmp t :: rs, rs', vs, htr, hr => by
    simp only [trRes, Option.map_eq_some_iff] at htr
    obtain ⟨r, h1, rfl⟩ := htr
    simp only [resAll, resOne] at hr
    split at hr
    · rename_i v vs' e1 e2
      injection e1 with e1; subst e1
      injection hr with hr; subst hr
      obtain ⟨cvs, g1, g2, g3⟩ := res_one hA h1 e2
      refine ⟨a.tmps.getD t undef :: cvs, ?_, by simp [g2], fun j x u hx hu => ?_⟩
      · rw [List.mapM_cons]
        simp only [Sem.run_bind, resF, Sem.run_pure, Result.andThen_ok, g1]
      · cases j with
        | zero => simp at hx hu; subst hx; subst hu; simpa using hA.tr t
        | succ j => exact g3 j x u (by simpa using hx) (by simpa using hu)
    · cases hr
  | .cell b t :: rs, rs', vs, htr, hr => by
    simp only [trRes] at htr
    split at htr
    · rename_i g r hg h1
      injection htr with htr; subst htr
      simp only [resAll, resOne] at hr
      split at hr
      · rename_i v vs' e1 e2
        injection hr with hr; subst hr
        obtain ⟨cvs, g1, g2, g3⟩ := res_one hA h1 e2
        have hrel := hA.tr b
        obtain ⟨cv', l1, l2⟩ := load_sound hA.st hg hrel e1
        have hload : (do loadVar t (← asAddr (a.tmps.getD b undef)) : Sem Value).run P w = .ok cv' w := by
          generalize tm b = vb at hrel e1
          generalize a.tmps.getD b undef = cv at hrel l1 ⊢
          cases hrel <;> first
            | (cases e1; done)
            | simpa [Instr.loadAt, Instr.sureAddr, asAddr] using l1
        refine ⟨cv' :: cvs, ?_, by simp [g2], fun j x u hx hu => ?_⟩
        · rw [List.mapM_cons]
          simp only [Sem.run_bind, resF] at hload ⊢
          rw [hload]
          simp only [Result.andThen_ok, g1, Sem.run_pure]
        · cases j with
          | zero => simp at hx hu; subst hx; subst hu; exact l2
          | succ j => exact g3 j x u (by simpa using hx) (by simpa using hu)
      · cases hr
    · cases htr

theorem resV_sound {ρ : Ren} {h : Heap} {w : World} {tm : Nat → V} {a : Act} {N : Nat} (hA : At ρ h w tm a N) {fn : Func} {rs' : List ARes} (htr : trRes P fn.results.toList = some rs') {v : V} (hv : resV tm h rs' = some v) :
    ∃ cv, (results fn a.tmps).run P w = .ok cv w ∧ VRel ρ (Own ρ h) w v cv := by
  have hrun : ∀ {vs : List V}, resAll tm h rs' = some vs → ∃ cvs : List Value, (results fn a.tmps).run P w = .ok (if h : cvs.length = 1 then cvs[0] else .tuple cvs.toArray) w ∧ vs.length = cvs.length ∧
      ∀ (j : Nat) (x : V) (u : Value), vs[j]? = some x → cvs[j]? = some u → VRel ρ (Own ρ h) w x u := by
    intro vs hvs
    obtain ⟨cvs, g1, g2, g3⟩ := res_one hA htr hvs
    refine ⟨cvs, ?_, g2, g3⟩
    have e : fn.results.mapM (resF a.tmps) = List.toArray <$> fn.results.toList.mapM (resF a.tmps) := by
      rw [← List.mapM_toArray]
    rw [results_eq, e]
    simp only [Sem.run_bind, Sem.run_map, g1, Result.andThen_ok, Sem.run_pure, List.size_toArray, List.getElem_toArray]
  unfold resV at hv
  split at hv
  · rename_i v' hvs
    injection hv with hv; subst hv
    obtain ⟨cvs, g1, g2, g3⟩ := hrun hvs
    match cvs, g2 with
    | [c], _ => exact ⟨c, by simpa using g1, g3 0 _ c rfl rfl⟩
  · rename_i vs hne hvs
    injection hv with hv; subst hv
    obtain ⟨cvs, g1, g2, g3⟩ := hrun hvs
    have h1 : ¬ cvs.length = 1 := by
      intro hh
      rw [hh] at g2
      match vs, g2 with
      | [v0], _ => exact hne v0 rfl
    rw [dif_neg h1] at g1
    exact ⟨_, g1, .tuple vs cvs g2 g3⟩
  · cases hv

/-- The translation with its regions compressed. -/
def trFunC (P : Program) (quiet : FuncId → Bool) (hs : List (List Nat)) (f : FuncId) : Option AFun := (trFun P quiet f).map fun a => ⟨(compC a.code hs).1, a.res⟩

/-- THE CONTRACT OF A FUNCTION, FROM ITS ABSTRACT CODE. Blocks may be let go at the end. -/
theorem AC_ofc (hq : QOk P qf) (hm : P.follows .mixedOrders = true) {f : FuncId} {af : AFun} {hs : List (List Nat)} (htr : trFunC P quiet hs f = some ⟨erase af.code, af.res⟩) {args : List V} {h : Heap} {Q : V → Heap → Prop}
    (hW : W qf (AC P) af.code (fun e tm h' => match e with
      | .exit _ => False
      | _ => ∃ v, resV tm h' af.res = some v ∧ ∃ h'', Sub h'' h' ∧ Q v h'') (fun t => args.getD t .undef) h) : AC P f args h Q := by
  intro ρ w cargs hst hl
  simp only [trFunC, Option.map_eq_some_iff] at htr
  obtain ⟨a0, htr, hco⟩ := htr
  injection hco with hco hcr
  unfold trFun at htr
  split at htr
  · rename_i fn hfn
    split at htr
    · rename_i c hc
      split at htr
      · rename_i ac rs hac hrs
        injection htr with htr; subst htr
        simp only at hco hcr
        subst hcr
        refine calls_of_wp hfn hc ?_
        have hA : At ρ h w (fun t => args.getD t .undef) { tmps := cargs ++ Array.replicate (fn.ntmps - cargs.size) undef, defers := [] } fn.ntmps := by
          refine ⟨hst, fun t => ?_, by simp; omega, rfl⟩
          rcases Nat.lt_or_ge t cargs.size with c1 | c1
          · have c2 : t < args.length := by rw [hl.1]; exact c1
            have := hl.2 t _ _ (List.getElem?_eq_getElem c2) (Array.getElem?_eq_getElem c1)
            simp only [List.getD_eq_getElem?_getD, List.getElem?_eq_getElem c2, Option.getD_some, Array.getD_eq_getD_getElem?]
            rw [Array.getElem?_append_left c1, Array.getElem?_eq_getElem c1]
            exact this
          · have c2 : args.length ≤ t := by rw [hl.1]; exact c1
            simp only [List.getD_eq_getElem?_getD, List.getElem?_eq_none c2, Option.getD_none, Array.getD_eq_getD_getElem?]
            rw [Array.getElem?_append_right c1]
            have : (Array.replicate (fn.ntmps - cargs.size) undef)[t - cargs.size]?.getD undef = undef := by
              rw [Array.getElem?_replicate]; split <;> rfl
            rw [this]
            exact .undef
        refine wp_mono (code_wp hq hm hac hco hA hW) ?_
        rintro e a' w' ⟨e', tm', h', ρ', he, hk, hA', hF'⟩
        have fin : (∃ v, resV tm' h' af.res = some v ∧ ∃ h'', Sub h'' h' ∧ Q v h'') → a'.defers = [] ∧ ∃ v, (results fn a'.tmps).run P w' = .ok v w' ∧ ∃ v_1 cv h'' ρ'', Ending.returned v = .returned cv ∧ Q v_1 h'' ∧ St ρ'' h'' w' ∧ VRel ρ'' (Own ρ'' h'') w' v_1 cv ∧ Fr ρ h w ρ'' h'' w' := by
          rintro ⟨v, hv, h'', hsub, hQ⟩
          obtain ⟨cv, g1, g2⟩ := resV_sound hA' hrs hv
          obtain ⟨s1, s2⟩ := hA'.st.sub hsub
          exact ⟨hA'.defers, cv, g1, v, cv, h'', ρ', rfl, hQ, s1, g2.fr s2, hF'.trans s2⟩
        cases e <;> simp only [aexit] at he <;> first
          | (cases he; done)
          | (injection he with he; subst he; exact fin hk)
          | (injection he with he; subst he; exact hk.elim)
      · cases htr
    · cases htr
  · cases htr

theorem AC_of (hq : QOk P qf) (hm : P.follows .mixedOrders = true) {f : FuncId} {af : AFun} (htr : trFun P quiet f = some ⟨erase af.code, af.res⟩) {args : List V} {h : Heap} {Q : V → Heap → Prop}
    (hW : W qf (AC P) af.code (fun e tm h' => match e with
      | .exit _ => False
      | _ => ∃ v, resV tm h' af.res = some v ∧ ∃ h'', Sub h'' h' ∧ Q v h'') (fun t => args.getD t .undef) h) : AC P f args h Q :=
  AC_ofc (hs := []) (quiet := quiet) hq hm (by simp [trFunC, htr, compC_nil]) hW

end
end Go.Abs

/- Changes of view: a slice of a block of one's own becomes a slice that never changes again; a slice is lent to a call that only reads. -/
namespace Go.Abs

/-- A temporary's slice never changes again. -/
theorem Shift.tmp {tm : Nat → V} {h : Heap} {t esz b off n : Nat} {cap : Option Nat} {e : TypeId} {xs : List V} (ht : tm t = .sl esz b off n cap) (hb : h b = some (.cells e esz xs)) (hle : off * esz + n * esz ≤ xs.length) :
    Shift tm h (put tm t (.ps esz (elems esz n (xs.drop (off * esz))))) (era h b) := by
  intro ρ w a hs htr
  obtain ⟨s1, s2⟩ := hs.era b
  refine ⟨s1, fun u => ?_, s2⟩
  unfold put
  split
  · rename_i e'; subst e'
    refine sl_ps hs ?_ (by rw [← ht]; exact htr u) hb hle (era_eq _ _)
    intro c x hx
    by_cases e2 : c = b
    · subst e2; rw [era_eq] at hx; cases hx
    · rwa [era_ne _ _ _ e2] at hx
  · exact (htr u).fr s2

theorem Shift.refl (tm : Nat → V) (h : Heap) : Shift tm h tm h := fun ρ w a hs ht => ⟨hs, ht, Fr.refl _ _ _⟩

theorem Shift.trans {tm tm' tm'' : Nat → V} {h h' h'' : Heap} (a : Shift tm h tm' h') (b : Shift tm' h' tm'' h'') : Shift tm h tm'' h'' := by
  intro ρ w ac hs ht
  obtain ⟨a1, a2, a3⟩ := a ρ w ac hs ht
  obtain ⟨b1, b2, b3⟩ := b ρ w ac a1 a2
  exact ⟨b1, b2, a3.trans b3⟩

/-- A slice that lies in a cell of a block never changes again. -/
theorem Shift.cell {tm : Nat → V} {h : Heap} {nb sz j : Nat} {e0 : TypeId} {cs : List V} (hn : h nb = some (.cells e0 sz cs)) {esz b off n : Nat} {cap : Option Nat} (hj : cs[j]? = some (.sl esz b off n cap)) {e : TypeId} {xs : List V}
    (hb : h b = some (.cells e esz xs)) (hle : off * esz + n * esz ≤ xs.length) (hne : b ≠ nb) :
    Shift tm h tm (upd (era h b) nb (.cells e0 sz (cs.set j (.ps esz (elems esz n (xs.drop (off * esz))))))) := by
  intro ρ w a hs htr
  obtain ⟨s1, s2⟩ := hs.era b
  obtain ⟨cb, K, hr, cur, g1, g2, g3, g4, g5⟩ := s1.blk nb (.cells e0 sz cs) (by rw [era_ne _ _ _ (Ne.symm hne)]; exact hn)
  have key := s1.turn (w' := w) (x := .cells e0 sz (cs.set j (.ps esz (elems esz n (xs.drop (off * esz)))))) hr (by rw [era_ne _ _ _ (Ne.symm hne)]; exact hn) rfl rfl rfl rfl (fun _ _ => rfl) (fun f => by
    refine ⟨cur, g1, g2, g3, by simpa using g4, fun i x hx => ?_⟩
    rw [List.getElem?_set] at hx
    split at hx
    · rename_i e1; subst e1
      split at hx
      · injection hx with hx; subst hx
        refine ⟨rfl, ?_⟩
        obtain ⟨cb2, K2, hr2, cur2, k1, k2, k3, k4, k5⟩ := hs.blk nb _ hn
        obtain ⟨_, cv, a2, a3⟩ := k5 _ _ hj
        rw [hr] at hr2; injection hr2 with hr2; injection hr2 with e1 e2; subst e1
        rw [g1] at k1; injection k1 with k1; injection k1 with k1; subst k1
        refine ⟨cv, a2, ?_⟩
        refine (sl_ps hs (h' := era h b) ?_ a3 hb hle (era_eq _ _)).fr f
        intro c x hx
        by_cases e2 : c = b
        · subst e2; rw [era_eq] at hx; cases hx
        · rwa [era_ne _ _ _ e2] at hx
      · cases hx
    · obtain ⟨a1, cv, a2, a3⟩ := g5 _ _ hx
      exact ⟨a1, cv, a2, a3.fr f⟩)
  exact ⟨key.1, (htr.fr s2).fr key.2, s2.trans key.2⟩

/-- The result of a call, viewed otherwise. -/
theorem AC.view {P : Program} {f : FuncId} {args : List V} {h : Heap} {Q Q' : V → Heap → Prop} (ha : AC P f args h Q) (hv : ∀ v h1, Q v h1 → ∃ v' h', View v h1 v' h' ∧ Q' v' h') : AC P f args h Q' := by
  intro ρ w cargs hs hl
  refine (ha ρ w cargs hs hl).mono ?_
  rintro e w' ⟨v, cv, h1, ρ', rfl, hq, s1, s2, s3⟩
  obtain ⟨v', h', hview, hq'⟩ := hv v h1 hq
  obtain ⟨a1, a2, a3⟩ := hview ρ' w' cv s1 s2
  exact ⟨v', cv, h', ρ', rfl, hq', a1, a2, s3.trans a3⟩

/-- A value that holds no memory. -/
def V.flat : V → Bool
  | .int _ _ | .bool _ | .str _ => true
  | .tuple [.int _ _, .bool _] | .tuple [.int _ _, .int _ _] | .tuple [.str _, .bool _] => true
  | _ => false

theorem flat_rel {v : V} (hf : v.flat = true) {ρ ρ' : Ren} {O O' : Nat → Prop} {w w' : World} {cv : Value} (h : VRel ρ O w v cv) : VRel ρ' O' w' v cv := by
  unfold V.flat at hf
  split at hf
  · cases h; constructor
  · cases h; constructor
  · cases h; constructor
  all_goals first
    | (cases h with
       | tuple xs cs hl hv =>
         refine .tuple _ _ hl (fun j x u hx hu => ?_)
         have := hv j x u hx hu
         match j with
         | 0 => simp at hx; subst hx; cases this; constructor
         | 1 => simp at hx; subst hx; cases this; constructor
         | j + 2 => simp at hx)
    | cases hf

/-- A slice is lent to a call that only reads. -/
def fzV (h : Heap) (v : V) : V :=
  match v with
  | .sl esz b off n _ =>
    match h b with
    | some (.cells _ e xs) => if e = esz ∧ off * esz + n * esz ≤ xs.length then .ps esz (elems esz n (xs.drop (off * esz))) else v
    | _ => v
  | _ => v

/-- The heap that owns nothing. -/
def noHeap : Heap := fun _ => none

theorem noHeap_sub (h : Heap) : Sub noHeap h := by
  intro c x hx
  cases hx

theorem fz_rel {ρ : Ren} {h : Heap} {w : World} (hs : St ρ h w) {v : V} {cv : Value} (hrel : VRel ρ (Own ρ h) w v cv) : VRel ρ (Own ρ noHeap) w (fzV h v) cv := by
  obtain ⟨s1, s2⟩ := hs.sub (noHeap_sub h)
  unfold fzV
  split
  · rename_i esz b off n cap
    split
    · rename_i e e' xs hb
      split
      · rename_i hc
        obtain ⟨rfl, hle⟩ := hc
        exact sl_ps hs (noHeap_sub h) hrel hb hle rfl
      · exact hrel.fr s2
    · exact hrel.fr s2
  · exact hrel.fr s2

theorem AC.lend {P : Program} {f : FuncId} {args : List V} {h : Heap} {v0 : V} (hf : v0.flat = true)
    (ha : AC P f (args.map (fzV h)) noHeap fun v h' => v = v0) : AC P f args h fun v h' => v = v0 ∧ h' = h := by
  intro ρ w cargs hs hargs
  obtain ⟨s1, s2⟩ := hs.sub (noHeap_sub h)
  have hargs' : LRel ρ (Own ρ noHeap) w (args.map (fzV h)) cargs := by
    refine ⟨by simpa using hargs.1, fun j x u hx hu => ?_⟩
    rw [List.getElem?_map] at hx
    cases hv : args[j]? with
    | none => rw [hv] at hx; cases hx
    | some v =>
      rw [hv] at hx
      simp at hx
      subst hx
      exact fz_rel hs (hargs.2 j v u hv hu)
  refine (ha ρ w cargs s1 hargs').mono ?_
  rintro e w' ⟨v, cv, h1, ρ', rfl, rfl, t1, t2, t3⟩
  have old : ∀ b, h b ≠ none → ∃ x, ρ b = some x := by
    intro b hb
    cases hx : h b with
    | none => exact absurd hx hb
    | some x => obtain ⟨cb, K, hr, _⟩ := hs.blk b x hx; exact ⟨_, hr⟩
  have hout : ∀ k, k < w.heap.size → Own ρ' h k → Own ρ h k := by
    rintro k hk ⟨c, K, hc, hr⟩
    obtain ⟨x, hx⟩ := old c hc
    have := t3.ext _ _ hx
    rw [hr] at this; injection this with this; subst this
    exact ⟨c, K, hc, hx⟩
  have hall : ∀ k, k < w.heap.size → w'.heap[k]? = w.heap[k]? := by
    intro k hk
    exact t3.keep k hk fun ⟨c, K, hc, hr⟩ => hc rfl
  have hfr : Fr ρ h w ρ' h w' := ⟨t3.os, t3.tape, t3.output, t3.size, t3.ext, fun k hk _ => hall k hk, hout⟩
  refine ⟨v, cv, h, ρ', rfl, ⟨rfl, rfl⟩, ⟨t1.fresh, t1.lt, t1.cap, ?_, ?_⟩, flat_rel hf t2, hfr⟩
  · intro b b' c K K' hb hb' hr hr'
    obtain ⟨⟨c1, k1⟩, h1⟩ := old b hb
    obtain ⟨⟨c2, k2⟩, h2⟩ := old b' hb'
    have e1 := t3.ext _ _ h1
    have e2 := t3.ext _ _ h2
    rw [hr] at e1; injection e1 with e1; injection e1 with e1 _; subst e1
    rw [hr'] at e2; injection e2 with e2; injection e2 with e2 _; subst e2
    exact hs.inj b b' _ _ _ hb hb' h1 h2
  · intro b x hb
    obtain ⟨cb, K, hr, hbr⟩ := hs.blk b x hb
    exact ⟨cb, K, t3.ext _ _ hr, hbr.fr hfr (hall cb (hs.lt _ _ _ hr))⟩

end Go.Abs

/- How abstract code is evaluated symbolically: the rules that `simp` uses, and rules for loops and calls. -/
namespace Go.Abs

/-- A fresh block. -/
def New (h : Heap) (F : Nat → Prop) : Prop := ∀ b, h b = none → F b

section
variable {qf : FuncId → List V → Heap → Option V} {C : FuncId → List V → Heap → (V → Heap → Prop) → Prop} {Q : AExit → (Nat → V) → Heap → Prop} {tm : Nat → V} {h : Heap} {K : V → Heap → Prop}

@[congr] theorem W_congr {a : ACode} {tm' : Nat → V} {h' : Heap} (h1 : ∀ _ : Unit, tm = tm') (h2 : ∀ _ : Unit, h = h') : W qf C a Q tm h = W qf C a Q tm' h' := by rw [h1 (), h2 ()]
@[congr] theorem New_congr {h h' : Heap} {F : Nat → Prop} (h1 : ∀ _ : Unit, h = h') : New h F = New h' F := by rw [h1 ()]
@[congr] theorem AC_congr {P : Program} {f : FuncId} {args args' : List V} {h h' : Heap} {Q : V → Heap → Prop} (h1 : ∀ _ : Unit, args = args') (h2 : ∀ _ : Unit, h = h') : AC P f args h Q = AC P f args' h' Q := by rw [h1 (), h2 ()]
@[congr] theorem Wop_congr' {o : AOp} {tm' : Nat → V} {h' : Heap} (h1 : ∀ _ : Unit, tm = tm') (h2 : ∀ _ : Unit, h = h') : Wop qf C o tm h K = Wop qf C o tm' h' K := by rw [h1 (), h2 ()]
@[congr] theorem wApp_congr {e : TypeId} {esz bytes : Nat} {s x s' x' : V} {h' : Heap} (h0 : ∀ _ : Unit, s = s') (h1 : ∀ _ : Unit, x = x') (h2 : ∀ _ : Unit, h = h') : wApp e esz bytes s x h K = wApp e esz bytes s' x' h' K := by rw [h0 (), h1 (), h2 ()]

theorem W_skip : W qf C .skip Q tm h = Q .normal tm h := propext Iff.rfl
theorem W_region (t : RTree) : W qf C (.region t) Q tm h = Wt qf C t (Q .normal) tm h := propext Iff.rfl
theorem W_seq (a b : ACode) : W qf C (.seq a b) Q tm h = W qf C a (fun e tm' h' => match e with
    | .normal => W qf C b Q tm' h'
    | e => Q e tm' h') tm h := propext Iff.rfl
theorem W_cond (c : Opnd) (a b : ACode) : W qf C (.cond c a b) Q tm h = (match c.ev tm with
    | .bool t => if t then W qf C a Q tm h else W qf C b Q tm h
    | _ => False) := propext Iff.rfl
theorem W_block (id : Nat) (a : ACode) : W qf C (.block id a) Q tm h = W qf C a (fun e tm' h' => match e with
    | .exit id' => if id' = id then Q .normal tm' h' else Q (.exit id') tm' h'
    | e => Q e tm' h') tm h := propext Iff.rfl
theorem W_exit (id : Nat) : W qf C (.exit id) Q tm h = Q (.exit id) tm h := propext Iff.rfl
theorem W_ret : W qf C .ret Q tm h = Q .ret tm h := propext Iff.rfl
theorem W_keep (S : List Nat) : W qf C (.keep S) Q tm h = Q .normal (mk (S.map fun t => (t, tm t))) h := propext Iff.rfl
theorem W_after (a : ACode) (S : List Nat) : W qf C (.after a S) Q tm h = W qf C a (fun e tm' h' => match e with
    | .normal => Q .normal (mk (S.map fun t => (t, tm' t))) h'
    | e => Q e tm' h') tm h := propext Iff.rfl

/-- A loop, by an invariant and a measure. -/
theorem W_loop {a : ACode} (I : Nat → (Nat → V) → Heap → Prop) (n : Nat) (h0 : I n tm h) (step : ∀ n tm h, I n tm h → W qf C a (fun e tm' h' => match e with
      | .normal => ∃ m, m < n ∧ I m tm' h'
      | e => Q e tm' h') tm h) : W qf C (.loop a) Q tm h := ⟨I, ⟨n, h0⟩, step⟩

/-- The same, with the invariant out of `simp`'s sight. -/
theorem W_loop' {a : ACode} (I : Nat → (Nat → V) → Heap → Prop) (n : Nat) (h0 : I n tm h) (step : ∀ J : Nat → (Nat → V) → Heap → Prop, (∀ m tm h, I m tm h → J m tm h) → ∀ n tm h, I n tm h → W qf C a (fun e tm' h' => match e with
      | .normal => ∃ m, m < n ∧ J m tm' h'
      | e => Q e tm' h') tm h) : W qf C (.loop a) Q tm h := ⟨I, ⟨n, h0⟩, step I fun _ _ _ h => h⟩

/-- A function's contract, with what is asked of its end out of `simp`'s sight. -/
theorem AC_of' {P : Program} {quiet : FuncId → Bool} (hq : QOk P qf) (hm : P.follows .mixedOrders = true) {f : FuncId} {af : AFun} (htr : trFun P quiet f = some ⟨erase af.code, af.res⟩) {args : List V} {Q : V → Heap → Prop}
    (hW : ∀ R : V → Heap → Prop, (∀ v h1 h2, Sub h1 h2 → Q v h1 → R v h2) → W qf (AC P) af.code (fun e tm h' => match e with
      | .exit _ => False
      | _ => ∃ v, resV tm h' af.res = some v ∧ R v h') (fun t => args.getD t .undef) h) : AC P f args h Q :=
  AC_of hq hm htr (hW (fun v h' => ∃ h'', Sub h'' h' ∧ Q v h'') fun v h1 h2 hs hq => ⟨h1, hs, hq⟩)

/-- The same, where the result is viewed otherwise in the end. -/
theorem AC_ofv {P : Program} {quiet : FuncId → Bool} (hq : QOk P qf) (hm : P.follows .mixedOrders = true) {f : FuncId} {af : AFun} (htr : trFun P quiet f = some ⟨erase af.code, af.res⟩) {args : List V} {Q : V → Heap → Prop}
    (hW : ∀ R : V → Heap → Prop, (∀ v h1 v' h', View v h1 v' h' → Q v' h' → R v h1) → W qf (AC P) af.code (fun e tm h' => match e with
      | .exit _ => False
      | _ => ∃ v, resV tm h' af.res = some v ∧ R v h') (fun t => args.getD t .undef) h) : AC P f args h Q :=
  AC.view (AC_of hq hm htr (Q := fun v h1 => ∃ v' h', View v h1 v' h' ∧ Q v' h') (hW (fun v h' => ∃ h'', Sub h'' h' ∧ ∃ v' h3, View v h'' v' h3 ∧ Q v' h3) fun v h1 v' h' hv hq => ⟨h1, Sub.refl _, v', h', hv, hq⟩)) fun v h1 h => h

/-- A branching whose sides meet again: what is known where they meet. -/
theorem W_join {a b : ACode} (J : (Nat → V) → Heap → Prop) (ha : ∀ J' : (Nat → V) → Heap → Prop, (∀ tm h, J tm h → J' tm h) → W qf C a (fun e tm' h' => match e with
      | .normal => J' tm' h'
      | e => Q e tm' h') tm h) (hb : ∀ tm h, J tm h → W qf C b Q tm h) : W qf C (.seq a b) Q tm h := ha _ hb

/-- Forget the temporaries but for what is told. -/
theorem W_cut {a : ACode} (R : (Nat → V) → Prop) (h0 : R tm) (k : ∀ tm', R tm' → W qf C a Q tm' h) : W qf C a Q tm h := k tm h0
theorem Wt_cut {t : RTree} {K : (Nat → V) → Heap → Prop} (R : (Nat → V) → Prop) (h0 : R tm) (k : ∀ tm', R tm' → Wt qf C t K tm' h) : Wt qf C t K tm h := k tm h0

/-- A function's contract from its compressed code. -/
theorem AC_c' {P : Program} {quiet : FuncId → Bool} {hs : List (List Nat)} (hq : QOk P qf) (hm : P.follows .mixedOrders = true) {f : FuncId} {af : AFun} (htr : trFunC P quiet hs f = some ⟨erase af.code, af.res⟩) {args : List V} {Q : V → Heap → Prop}
    (hW : ∀ R : V → Heap → Prop, (∀ v h1 h2, Sub h1 h2 → Q v h1 → R v h2) → W qf (AC P) af.code (fun e tm h' => match e with
      | .exit _ => False
      | _ => ∃ v, resV tm h' af.res = some v ∧ R v h') (fun t => args.getD t .undef) h) : AC P f args h Q :=
  AC_ofc hq hm htr (hW (fun v h' => ∃ h'', Sub h'' h' ∧ Q v h'') fun v h1 h2 hs hq => ⟨h1, hs, hq⟩)
theorem AC_cv {P : Program} {quiet : FuncId → Bool} {hs : List (List Nat)} (hq : QOk P qf) (hm : P.follows .mixedOrders = true) {f : FuncId} {af : AFun} (htr : trFunC P quiet hs f = some ⟨erase af.code, af.res⟩) {args : List V} {Q : V → Heap → Prop}
    (hW : ∀ R : V → Heap → Prop, (∀ v h1 v' h', View v h1 v' h' → Q v' h' → R v h1) → W qf (AC P) af.code (fun e tm h' => match e with
      | .exit _ => False
      | _ => ∃ v, resV tm h' af.res = some v ∧ R v h') (fun t => args.getD t .undef) h) : AC P f args h Q :=
  AC.view (AC_ofc hq hm htr (Q := fun v h1 => ∃ v' h', View v h1 v' h' ∧ Q v' h') (hW (fun v h' => ∃ h'', Sub h'' h' ∧ ∃ v' h3, View v h'' v' h3 ∧ Q v' h3) fun v h1 v' h' hv hq => ⟨h1, Sub.refl _, v', h', hv, hq⟩)) fun v h1 h => h

/-- A change of view, and on. -/
theorem W_ghost (tm' : Nat → V) (h' : Heap) (hs : Shift tm h tm' h') (k : Q .normal tm' h') : W qf C .ghost Q tm h := ⟨tm', h', hs, k⟩

/-! The operations one by one. -/
theorem Wop_alloc (e : TypeId) (z : List V) : Wop qf C (.alloc e z) tm h K = New h fun b => K (.ptr b 0) (upd h b (.cells e z.length z)) := propext Iff.rfl
theorem Wop_box (e : TypeId) (n : Nat) (x : Opnd) : Wop qf C (.box e n x) tm h K = (((x.ev tm).cells.length = n ∧ (x.ev tm).cells.all V.isCell = true) ∧ New h fun b => K (.ptr b 0) (upd h b (.cells e n (x.ev tm).cells))) := propext Iff.rfl
theorem Wop_boxp (e : TypeId) (n : Nat) (x : Opnd) : Wop qf C (.boxp e n x) tm h K = (((x.ev tm).cells.length = n ∧ (x.ev tm).cells.all V.isCell = true) ∧ K (.pp (x.ev tm).cells) h) := propext Iff.rfl
theorem Wop_buildSp (e : TypeId) (esz len : Nat) (z : List V) (ps : List (Nat × Opnd)) : Wop qf C (.buildSp e esz len z ps) tm h K = wBuildSp esz len (fillS tm esz ((List.replicate len z).flatten) ps) h K := propext Iff.rfl
theorem wBuildSp_some (esz len : Nat) (cs : List V) : wBuildSp esz len (some cs) h K = (len * esz ≤ cs.length ∧ K (.ps esz (elems esz len cs)) h) := propext Iff.rfl
theorem Wop_buildS (e : TypeId) (esz len : Nat) (z : List V) (ps : List (Nat × Opnd)) : Wop qf C (.buildS e esz len z ps) tm h K = wBuildS e esz len (fillS tm esz ((List.replicate len z).flatten) ps) h K := propext Iff.rfl
theorem wBuildS_some (e : TypeId) (esz len : Nat) (cs : List V) : wBuildS e esz len (some cs) h K = New h fun b => K (.sl esz b 0 len none) (upd h b (.cells e esz cs)) := propext Iff.rfl
theorem Wop_mkS (e : TypeId) (esz bytes : Nat) (z : List V) (l c : Opnd) : Wop qf C (.mkS e esz bytes z l c) tm h K = wMkS e esz bytes z (l.ev tm) (c.ev tm) h K := propext Iff.rfl
theorem wMkS_int (e : TypeId) (esz bytes : Nat) (z : List V) (l c : Int) : wMkS e esz bytes z (.int .i64 l) (.int .i64 c) h K = ((0 ≤ l ∧ l ≤ c ∧ c ≤ 140737488355328 ∧ bytes * c ≤ 140737488355328) ∧
    New h fun b => K (.sl esz b 0 l.toNat none) (upd h b (.cells e esz ((List.replicate l.toNat z).flatten)))) := propext Iff.rfl
theorem Wop_mkM : Wop qf C .mkM tm h K = New h fun b => K (.mp b) (upd h b (.map [])) := propext Iff.rfl
theorem Wop_store (n : Nat) (a x : Opnd) : Wop qf C (.store n a x) tm h K = wStore n (a.ev tm) (x.ev tm) h K := propext Iff.rfl
theorem Wop_mupd (kt : KT) (m k v : Opnd) : Wop qf C (.mupd kt m k v) tm h K = wMupd kt (m.ev tm) (k.ev tm) (v.ev tm) h K := propext Iff.rfl
theorem Wop_ment (kt : KT) (z : V) (m k : Opnd) : Wop qf C (.ment kt z m k) tm h K = wMent kt z (m.ev tm) (k.ev tm) h K := propext Iff.rfl
theorem Wop_ests (m s v : Opnd) : Wop qf C (.ests m s v) tm h K = wEsts (m.ev tm) (s.ev tm) (v.ev tm) h K := propext Iff.rfl
theorem Wop_app (e : TypeId) (esz bytes : Nat) (s x : Opnd) : Wop qf C (.app e esz bytes s x) tm h K = wApp e esz bytes (s.ev tm) (x.ev tm) h K := propext Iff.rfl
theorem Wop_call (f : FuncId) (xs : List Opnd) : Wop qf C (.call f xs) tm h K = C f (xs.map (·.ev tm)) h K := propext Iff.rfl

theorem Wop_mov (x : Opnd) : Wop qf C (.mov x) tm h K = K (x.ev tm) h := propext Iff.rfl

/-- An operation that leaves the heap, by its value. -/
def Wv (o : Option V) (h : Heap) (K : V → Heap → Prop) : Prop :=
  match o with
  | some v => K v h
  | none => False
theorem Wv_some (v : V) : Wv (some v) h K = K v h := propext Iff.rfl
@[congr] theorem Wv_congr {o o' : Option V} (h1 : ∀ _ : Unit, o = o') : Wv o h K = Wv o' h K := by rw [h1 ()]
theorem Wop_pick (c a b : Opnd) : Wop qf C (.pick c a b) tm h K = Wv (aPick (c.ev tm) (a.ev tm) (b.ev tm)) h K := propext Iff.rfl
theorem Wop_build (z : List V) (ps : List (Nat × Nat × Opnd)) : Wop qf C (.build z ps) tm h K = Wv ((fillB tm z ps).map .agg) h K := propext Iff.rfl
theorem Wop_load (g : Option Nat) (a : Opnd) : Wop qf C (.load g a) tm h K = Wv (aLoad h g (a.ev tm)) h K := propext Iff.rfl
theorem Wop_nchk (x : Opnd) : Wop qf C (.nchk x) tm h K = Wv (aNchk (x.ev tm)) h K := propext Iff.rfl
theorem Wop_bin (op : BinOp) (tk : TK) (x y : Opnd) : Wop qf C (.bin op tk x y) tm h K = Wv (abin op tk (x.ev tm) (y.ev tm)) h K := propext Iff.rfl
theorem Wop_un (op : UnOp) (x : Opnd) : Wop qf C (.un op x) tm h K = Wv (aun op (x.ev tm)) h K := propext Iff.rfl
theorem Wop_cint (k : IntKind) (x : Opnd) : Wop qf C (.cint k x) tm h K = Wv (aCint k (x.ev tm)) h K := propext Iff.rfl
theorem Wop_cstr (x : Opnd) : Wop qf C (.cstr x) tm h K = Wv (aCstr h (x.ev tm)) h K := propext Iff.rfl
theorem Wop_slS (esz : Nat) (x : Opnd) (lo hi mx : Option Opnd) : Wop qf C (.slS esz x lo hi mx) tm h K = Wv (aSlS esz (x.ev tm) (evo tm lo) (evo tm hi) (evo tm mx)) h K := propext Iff.rfl
theorem Wop_slStr (x : Opnd) (lo hi : Option Opnd) : Wop qf C (.slStr x lo hi) tm h K = Wv (aSlStr (x.ev tm) (evo tm lo) (evo tm hi)) h K := propext Iff.rfl
theorem Wop_fld (off : Nat) (x : Opnd) : Wop qf C (.fld off x) tm h K = Wv (aFld off (x.ev tm)) h K := propext Iff.rfl
theorem Wop_fldv (off : Nat) (g : Option Nat) (x : Opnd) : Wop qf C (.fldv off g x) tm h K = Wv (aFldv off g (x.ev tm)) h K := propext Iff.rfl
theorem Wop_idx (esz : Nat) (x i : Opnd) : Wop qf C (.idx esz x i) tm h K = Wv (aIdx esz (x.ev tm) (i.ev tm)) h K := propext Iff.rfl
theorem Wop_idxA (len esz : Nat) (x i : Opnd) : Wop qf C (.idxA len esz x i) tm h K = Wv (aIdxA len esz (x.ev tm) (i.ev tm)) h K := propext Iff.rfl
theorem Wop_idxStr (x i : Opnd) : Wop qf C (.idxStr x i) tm h K = Wv (aIdxStr (x.ev tm) (i.ev tm)) h K := propext Iff.rfl
theorem Wop_look (kt : KT) (z : V) (ok : Bool) (m k : Opnd) : Wop qf C (.look kt z ok m k) tm h K = Wv (aLook h kt z ok (m.ev tm) (k.ev tm)) h K := propext Iff.rfl
theorem Wop_ext (i : Nat) (x : Opnd) : Wop qf C (.ext i x) tm h K = Wv (aExt i (x.ev tm)) h K := propext Iff.rfl
theorem Wop_len (x : Opnd) : Wop qf C (.len x) tm h K = Wv (aLen (x.ev tm)) h K := propext Iff.rfl
theorem Wop_lenS (x : Opnd) : Wop qf C (.lenS x) tm h K = Wv (aLenS (x.ev tm)) h K := propext Iff.rfl
theorem Wop_mn (x y : Opnd) : Wop qf C (.mn x y) tm h K = Wv (aMn (x.ev tm) (y.ev tm)) h K := propext Iff.rfl
theorem Wop_mx (x y : Opnd) : Wop qf C (.mx x y) tm h K = Wv (aMx (x.ev tm) (y.ev tm)) h K := propext Iff.rfl
theorem Wop_qcall (f : FuncId) (xs : List Opnd) : Wop qf C (.qcall f xs) tm h K = Wv (qf f (xs.map (·.ev tm)) h) h K := propext Iff.rfl

theorem Wt_nil (K : (Nat → V) → Heap → Prop) : Wt qf C .nil K tm h = K tm h := propext Iff.rfl
theorem Wt_op (o : AOp) (d : Option Nat) (t : RTree) (K : (Nat → V) → Heap → Prop) : Wt qf C (.op ⟨d, o, none⟩ t) K tm h = Wop qf C o tm h fun v h' => Wt qf C t K (putd tm d v) h' := propext Iff.rfl

/-- An operation that is made only where a truth value says so. -/
def Wg (v : V) (want : Bool) (a b : Prop) : Prop :=
  match v with
  | .bool c => if c = want then a else b
  | .undef => b
  | _ => False
@[congr] theorem Wg_congr {v v' : V} {want : Bool} {a b : Prop} (h1 : ∀ _ : Unit, v = v') : Wg v want a b = Wg v' want a b := by rw [h1 ()]
theorem Wg_tt (a b : Prop) : Wg (.bool true) true a b = a := propext Iff.rfl
theorem Wg_ff (a b : Prop) : Wg (.bool false) false a b = a := propext Iff.rfl
theorem Wg_tf (a b : Prop) : Wg (.bool true) false a b = b := propext Iff.rfl
theorem Wg_ft (a b : Prop) : Wg (.bool false) true a b = b := propext Iff.rfl
theorem Wg_undef (w : Bool) (a b : Prop) : Wg .undef w a b = b := propext Iff.rfl
theorem Wt_opg (o : AOp) (d : Option Nat) (g : Nat) (want : Bool) (t : RTree) (K : (Nat → V) → Heap → Prop) : Wt qf C (.op ⟨d, o, some (g, want)⟩ t) K tm h =
    Wg (tm g) want (Wop qf C o tm h fun v h' => Wt qf C t K (putd tm d v) h') (Wt qf C t K (putd tm d .undef) h) := by
  show Woper qf C ⟨d, o, some (g, want)⟩ (Wt qf C t K) tm h = _
  unfold Woper Wg
  dsimp only
  cases tm g <;> rfl
theorem Wt_and (a b : RTree) (K : (Nat → V) → Heap → Prop) : Wt qf C (.both a b) K tm h = (Wt qf C a K tm h ∧ Wt qf C b K tm h) := propext Iff.rfl
theorem Wt_tt (K : (Nat → V) → Heap → Prop) : Wt qf C .tt K tm h = True := propext Iff.rfl

/-! Compressed regions. -/
theorem W_cregion (S : List Nat) (t : CTree) : W qf C (.cregion S t) Q tm h = Wct qf C t (fun tm' h' => Q .normal (mk (S.map fun t => (t, tm' t))) h') tm h := propext Iff.rfl
@[congr] theorem Wct_congr {t : CTree} {K : (Nat → V) → Heap → Prop} {tm' : Nat → V} {h' : Heap} (h1 : ∀ _ : Unit, tm = tm') (h2 : ∀ _ : Unit, h = h') : Wct qf C t K tm h = Wct qf C t K tm' h' := by rw [h1 (), h2 ()]
/-- A value is there, and on. -/
def Wo {α : Type} (o : Option α) (F : α → Prop) : Prop :=
  match o with
  | some v => F v
  | none => False
@[congr] theorem Wo_congr {α : Type} {o o' : Option α} {F : α → Prop} (h1 : ∀ _ : Unit, o = o') : Wo o F = Wo o' F := by rw [h1 ()]
theorem Wo_some {α : Type} (v : α) (F : α → Prop) : Wo (some v) F = F v := propext Iff.rfl
theorem Wo_ite {α : Type} (p : Prop) [Decidable p] (v : α) (F : α → Prop) : Wo (if p then some v else none) F = (p ∧ F v) := by
  by_cases c : p <;> simp [c, Wo]
def Wgo (o : Option V) (w : Bool) (a b : Prop) : Prop :=
  match o with
  | some (.bool c) => if c = w then a else b
  | some .undef => b
  | _ => False
@[congr] theorem Wgo_congr {o o' : Option V} {w : Bool} {a b : Prop} (h1 : ∀ _ : Unit, o = o') : Wgo o w a b = Wgo o' w a b := by rw [h1 ()]
theorem Wgo_bool (c w : Bool) (a b : Prop) : Wgo (some (.bool c)) w a b = Wg (.bool c) w a b := propext Iff.rfl
theorem Wgo_undef (w : Bool) (a b : Prop) : Wgo (some .undef) w a b = b := propext Iff.rfl
theorem Wct_nil (K : (Nat → V) → Heap → Prop) : Wct qf C .nil K tm h = K tm h := propext Iff.rfl
theorem Wct_asg (d : Nat) (e : Ex) (t : CTree) (K : (Nat → V) → Heap → Prop) : Wct qf C (.asg d e t) K tm h = Wo (e.ev qf tm h) fun v => Wct qf C t K (put tm d v) h := by
  simp only [Wct, Wo]; cases e.ev qf tm h <;> rfl
theorem Wct_chk (e : Ex) (t : CTree) (K : (Nat → V) → Heap → Prop) : Wct qf C (.chk e t) K tm h = ((Wo (e.ev qf tm h) fun _ => True) ∧ Wct qf C t K tm h) := by
  simp only [Wct]
  congr 1
  refine propext ⟨fun ⟨v, hv⟩ => by rw [hv]; trivial, fun hw => ?_⟩
  cases hv : e.ev qf tm h with
  | none => rw [hv] at hw; exact hw.elim
  | some v => exact ⟨v, rfl⟩
theorem Wct_op (d : Option Nat) (o : AOp) (as : List Ex) (t : CTree) (K : (Nat → V) → Heap → Prop) : Wct qf C (.op d o as t) K tm h = Wo (evs qf tm h as) fun vs => Wop qf C o (loc vs) h fun v h' => Wct qf C t K (putd tm d v) h' := by
  simp only [Wct, Wo]; cases evs qf tm h as <;> rfl
theorem Wct_opg (g : Ex) (w : Bool) (d : Option Nat) (o : AOp) (as : List Ex) (t : CTree) (K : (Nat → V) → Heap → Prop) : Wct qf C (.opg g w d o as t) K tm h = Wgo (g.ev qf tm h) w (Wo (evs qf tm h as) fun vs => Wop qf C o (loc vs) h fun v h' => Wct qf C t K (putd tm d v) h') (Wct qf C t K (putd tm d .undef) h) := by
  simp only [Wct, Wo, Wgo]; cases evs qf tm h as <;> cases g.ev qf tm h <;> first | rfl | (rename_i v; cases v <;> rfl) | (rename_i v _; cases v <;> rfl)
theorem Wct_both (a b : CTree) (K : (Nat → V) → Heap → Prop) : Wct qf C (.both a b) K tm h = (Wct qf C a K tm h ∧ Wct qf C b K tm h) := propext Iff.rfl
theorem Wct_tt (K : (Nat → V) → Heap → Prop) : Wct qf C .tt K tm h = True := propext Iff.rfl

def obind (o : Option V) (f : V → Option V) : Option V :=
  match o with
  | some v => f v
  | none => none
@[congr] theorem obind_congr {o o' : Option V} {f : V → Option V} (h1 : ∀ _ : Unit, o = o') : obind o f = obind o' f := by rw [h1 ()]
theorem obind_some (v : V) (f : V → Option V) : obind (some v) f = f v := Eq.trans rfl rfl
theorem Ev_t (n : Nat) : (Ex.t n).ev qf tm h = some (tm n) := Eq.trans rfl rfl
theorem Ev_c (v : V) : (Ex.c v).ev qf tm h = some v := Eq.trans rfl rfl
theorem Ev_o0 (o : AOp) : (Ex.o0 o).ev qf tm h = apure qf o (loc []) h := Eq.trans rfl rfl
theorem Ev_o1 (o : AOp) (a : Ex) : (Ex.o1 o a).ev qf tm h = obind (a.ev qf tm h) fun x => apure qf o (loc [x]) h := by
  simp only [Ex.ev, obind]; cases a.ev qf tm h <;> rfl
theorem Ev_o2 (o : AOp) (a b : Ex) : (Ex.o2 o a b).ev qf tm h = obind (a.ev qf tm h) fun x => obind (b.ev qf tm h) fun y => apure qf o (loc [x, y]) h := by
  simp only [Ex.ev, obind]; cases a.ev qf tm h <;> cases b.ev qf tm h <;> rfl
theorem Ev_o3 (o : AOp) (a b d : Ex) : (Ex.o3 o a b d).ev qf tm h = obind (a.ev qf tm h) fun x => obind (b.ev qf tm h) fun y => obind (d.ev qf tm h) fun z => apure qf o (loc [x, y, z]) h := by
  simp only [Ex.ev, obind]; cases a.ev qf tm h <;> cases b.ev qf tm h <;> cases d.ev qf tm h <;> rfl
theorem Ev_gd (g : Ex) (w : Bool) (e : Ex) : (Ex.gd g w e).ev qf tm h = gdV (g.ev qf tm h) w (e.ev qf tm h) := Eq.trans rfl rfl
theorem Ev_or (a b : Ex) : (Ex.or a b).ev qf tm h = orV (a.ev qf tm h) (b.ev qf tm h) := Eq.trans rfl rfl
theorem Ev_and (a b : Ex) : (Ex.and a b).ev qf tm h = andV (a.ev qf tm h) (b.ev qf tm h) := Eq.trans rfl rfl
theorem evs_nil : evs qf tm h [] = some [] := Eq.trans rfl rfl
def ocons (o : Option V) (r : Option (List V)) : Option (List V) :=
  match o, r with
  | some v, some vs => some (v :: vs)
  | _, _ => none
theorem evs_cons (e : Ex) (es : List Ex) : evs qf tm h (e :: es) = ocons (e.ev qf tm h) (evs qf tm h es) := by
  simp only [evs, ocons]; cases e.ev qf tm h <;> cases evs qf tm h es <;> rfl
theorem ocons_some (v : V) (vs : List V) : ocons (some v) (some vs) = some (v :: vs) := Eq.trans rfl rfl
theorem loc_0 (a : V) (r : List V) : loc (a :: r) 0 = a := Eq.trans rfl rfl
theorem loc_1 (a b : V) (r : List V) : loc (a :: b :: r) 1 = b := Eq.trans rfl rfl
theorem loc_2 (a b c : V) (r : List V) : loc (a :: b :: c :: r) 2 = c := Eq.trans rfl rfl
theorem loc_3 (a b c d : V) (r : List V) : loc (a :: b :: c :: d :: r) 3 = d := Eq.trans rfl rfl
theorem loc_4 (a b c d e : V) (r : List V) : loc (a :: b :: c :: d :: e :: r) 4 = e := Eq.trans rfl rfl
theorem loc_5 (a b c d e f : V) (r : List V) : loc (a :: b :: c :: d :: e :: f :: r) 5 = f := Eq.trans rfl rfl
theorem orV_tt (b : Option V) : orV (some (.bool true)) b = some (.bool true) := Eq.trans rfl rfl
theorem orV_ff (b : Option V) : orV (some (.bool false)) b = b := Eq.trans rfl rfl
theorem orV_bool (a b : Bool) : orV (some (.bool a)) (some (.bool b)) = some (.bool (a || b)) := by cases a <;> rfl
theorem andV_tt (b : Option V) : andV (some (.bool true)) b = b := Eq.trans rfl rfl
theorem andV_ff (b : Option V) : andV (some (.bool false)) b = some (.bool false) := Eq.trans rfl rfl
theorem andV_bool (a b : Bool) : andV (some (.bool a)) (some (.bool b)) = some (.bool (a && b)) := by cases a <;> rfl
theorem gdV_tt (e : Option V) : gdV (some (.bool true)) true e = e := Eq.trans rfl rfl
theorem gdV_ff (e : Option V) : gdV (some (.bool false)) false e = e := Eq.trans rfl rfl
theorem gdV_tf (e : Option V) : gdV (some (.bool true)) false e = some .undef := Eq.trans rfl rfl
theorem gdV_ft (e : Option V) : gdV (some (.bool false)) true e = some .undef := Eq.trans rfl rfl
theorem gdV_undef (w : Bool) (e : Option V) : gdV (some .undef) w e = some .undef := Eq.trans rfl rfl

theorem Wo_gd (g w : Bool) (v : V) (F : V → Prop) : Wo (gdV (some (.bool g)) w (some v)) F = if g = w then F v else F .undef := by
  cases g <;> cases w <;> rfl
theorem Wo_gd2 (g w a w' : Bool) (v : V) : Wo (gdV (gdV (some (.bool g)) w (some (.bool a))) w' (some v)) (fun _ => True) = True := by
  cases g <;> cases w <;> cases a <;> cases w' <;> simp [gdV, Wo]
theorem and_or_gd (g a b : Bool) : andV (some (.bool g)) (orV (gdV (some (.bool g)) true (some (.bool a))) (some (.bool b))) = some (.bool (g && (a || b))) := by
  cases g <;> cases a <;> rfl
theorem or_and_gd (g a b : Bool) : orV (some (.bool g)) (andV (gdV (some (.bool g)) false (some (.bool a))) (some (.bool b))) = some (.bool (g || (a && b))) := by
  cases g <;> cases a <;> rfl

theorem apure_mov (x : Opnd) : apure qf (.mov x) tm h = some (x.ev tm) := Eq.trans rfl rfl
theorem apure_pick (c a b : Opnd) : apure qf (.pick c a b) tm h = aPick (c.ev tm) (a.ev tm) (b.ev tm) := Eq.trans rfl rfl
theorem apure_build (z : List V) (ps : List (Nat × Nat × Opnd)) : apure qf (.build z ps) tm h = (fillB tm z ps).map .agg := Eq.trans rfl rfl
theorem apure_load (g : Option Nat) (a : Opnd) : apure qf (.load g a) tm h = aLoad h g (a.ev tm) := Eq.trans rfl rfl
theorem apure_nchk (x : Opnd) : apure qf (.nchk x) tm h = aNchk (x.ev tm) := Eq.trans rfl rfl
theorem apure_bin (op : BinOp) (tk : TK) (x y : Opnd) : apure qf (.bin op tk x y) tm h = abin op tk (x.ev tm) (y.ev tm) := Eq.trans rfl rfl
theorem apure_un (op : UnOp) (x : Opnd) : apure qf (.un op x) tm h = aun op (x.ev tm) := Eq.trans rfl rfl
theorem apure_cint (k : IntKind) (x : Opnd) : apure qf (.cint k x) tm h = aCint k (x.ev tm) := Eq.trans rfl rfl
theorem apure_cstr (x : Opnd) : apure qf (.cstr x) tm h = aCstr h (x.ev tm) := Eq.trans rfl rfl
theorem apure_slS (esz : Nat) (x : Opnd) (lo hi mx : Option Opnd) : apure qf (.slS esz x lo hi mx) tm h = aSlS esz (x.ev tm) (evo tm lo) (evo tm hi) (evo tm mx) := Eq.trans rfl rfl
theorem apure_slStr (x : Opnd) (lo hi : Option Opnd) : apure qf (.slStr x lo hi) tm h = aSlStr (x.ev tm) (evo tm lo) (evo tm hi) := Eq.trans rfl rfl
theorem apure_fld (off : Nat) (x : Opnd) : apure qf (.fld off x) tm h = aFld off (x.ev tm) := Eq.trans rfl rfl
theorem apure_fldv (off : Nat) (g : Option Nat) (x : Opnd) : apure qf (.fldv off g x) tm h = aFldv off g (x.ev tm) := Eq.trans rfl rfl
theorem apure_idx (esz : Nat) (x i : Opnd) : apure qf (.idx esz x i) tm h = aIdx esz (x.ev tm) (i.ev tm) := Eq.trans rfl rfl
theorem apure_idxA (len esz : Nat) (x i : Opnd) : apure qf (.idxA len esz x i) tm h = aIdxA len esz (x.ev tm) (i.ev tm) := Eq.trans rfl rfl
theorem apure_idxStr (x i : Opnd) : apure qf (.idxStr x i) tm h = aIdxStr (x.ev tm) (i.ev tm) := Eq.trans rfl rfl
theorem apure_look (kt : KT) (z : V) (ok : Bool) (m k : Opnd) : apure qf (.look kt z ok m k) tm h = aLook h kt z ok (m.ev tm) (k.ev tm) := Eq.trans rfl rfl
theorem apure_ext (i : Nat) (x : Opnd) : apure qf (.ext i x) tm h = aExt i (x.ev tm) := Eq.trans rfl rfl
theorem apure_len (x : Opnd) : apure qf (.len x) tm h = aLen (x.ev tm) := Eq.trans rfl rfl
theorem apure_lenS (x : Opnd) : apure qf (.lenS x) tm h = aLenS (x.ev tm) := Eq.trans rfl rfl
theorem apure_mn (x y : Opnd) : apure qf (.mn x y) tm h = aMn (x.ev tm) (y.ev tm) := Eq.trans rfl rfl
theorem apure_mx (x y : Opnd) : apure qf (.mx x y) tm h = aMx (x.ev tm) (y.ev tm) := Eq.trans rfl rfl
theorem apure_qcall (f : FuncId) (xs : List Opnd) : apure qf (.qcall f xs) tm h = qf f (xs.map (·.ev tm)) h := Eq.trans rfl rfl

/-- A branch. -/
def Wc (v : V) (a b : Prop) : Prop :=
  match v with
  | .bool t => if t then a else b
  | _ => False
@[congr] theorem Wc_congr {v v' : V} {a b : Prop} (h1 : ∀ _ : Unit, v = v') : Wc v a b = Wc v' a b := by rw [h1 ()]
theorem Wc_true (a b : Prop) : Wc (.bool true) a b = a := propext Iff.rfl
theorem Wc_false (a b : Prop) : Wc (.bool false) a b = b := propext Iff.rfl
theorem W_cond' (c : Opnd) (a b : ACode) : W qf C (.cond c a b) Q tm h = Wc (c.ev tm) (W qf C a Q tm h) (W qf C b Q tm h) := propext Iff.rfl
theorem Wc_intro {t : Bool} {a b : Prop} (h1 : t = true → a) (h2 : t = false → b) : Wc (.bool t) a b := by
  cases t
  · exact h2 rfl
  · exact h1 rfl

theorem Wc_ite (t : Bool) (a b : Prop) : Wc (.bool t) a b = if t = true then a else b := by cases t <;> rfl

/-! Slices that grow. -/
theorem wApp_nils {e : TypeId} {esz bytes : Nat} {x : V} {ys : List V} {m : Nat} (hx : cellsOf h esz x = some (ys, m)) : wApp e esz bytes .nils x h K =
    (ys.all V.isCell = true ∧ if m = 0 then K .nils h else m * bytes ≤ 140737488355328 ∧ m ≤ 140737488355328 ∧ New h fun b => K (.sl esz b 0 m none) (upd h b (.cells e esz ys))) := by
  simp only [wApp, hx]; rfl
theorem wApp_tip {e : TypeId} {esz bytes b n : Nat} {xs : List V} {x : V} {ys : List V} {m : Nat} (hx : cellsOf h esz x = some (ys, m)) (hb : h b = some (.cells e esz xs)) : wApp e esz bytes (.sl esz b 0 n none) x h K =
    (ys.all V.isCell = true ∧ ((n + m) * bytes ≤ 140737488355328 ∧ n + m ≤ 140737488355328) ∧ xs.length = n * esz ∧ New h fun b' => K (.sl esz b' 0 (n + m) none) (upd (era h b) b' (.cells e esz (xs ++ ys)))) := by
  simp only [wApp, hx, hb, true_and]; rfl
theorem wApp_cap {e : TypeId} {esz bytes b off n : Nat} {xs : List V} {x : V} {ys : List V} {m : Nat} (hx : cellsOf h esz x = some (ys, m)) (hb : h b = some (.cells e esz xs)) (hm : m ≠ 0) : wApp e esz bytes (.sl esz b off n (some n)) x h K =
    (ys.all V.isCell = true ∧ ((n + m) * bytes ≤ 140737488355328 ∧ n + m ≤ 140737488355328) ∧ off * esz + n * esz ≤ xs.length ∧
      New h fun b' => K (.sl esz b' 0 (n + m) none) (upd h b' (.cells e esz ((xs.drop (off * esz)).take (n * esz) ++ ys)))) := by
  simp only [wApp, hx, hb, true_and, if_neg hm]; rfl
end

/-- A slice that grows from nil on: where it lies. -/
def Grow (e : TypeId) (esz : Nat) (h : Heap) (v : V) (h1 : Heap) (xs : List V) (n : Nat) : Prop :=
  (v = .nils ∧ n = 0 ∧ xs = [] ∧ h1 = h) ∨ ∃ b, h b = none ∧ v = .sl esz b 0 n none ∧ xs.length = n * esz ∧ h1 = upd h b (.cells e esz xs)

theorem Grow.nil (e : TypeId) (esz : Nat) (h : Heap) : Grow e esz h .nils h [] 0 := .inl ⟨rfl, rfl, rfl, rfl⟩

theorem Grow.sub {e : TypeId} {esz n : Nat} {h h1 : Heap} {v : V} {xs : List V} (g : Grow e esz h v h1 xs n) : Sub h h1 := by
  rcases g with ⟨_, _, _, rfl⟩ | ⟨b, hb, _, _, rfl⟩
  · exact Sub.refl _
  · exact sub_upd hb _

theorem Grow.len {e : TypeId} {esz n : Nat} {h h1 : Heap} {v : V} {xs : List V} (g : Grow e esz h v h1 xs n) : aLen v = some (.int .i64 n) := by
  rcases g with ⟨rfl, rfl, _, _⟩ | ⟨b, hb, rfl, _, rfl⟩ <;> rfl

theorem era_upd_fresh {h : Heap} {b : Nat} (hb : h b = none) (x : Blk) : era (upd h b x) b = h := by
  funext c
  by_cases e : c = b
  · subst e; rw [era_eq, hb]
  · rw [era_ne _ _ _ e, upd_ne _ _ _ _ e]

theorem Grow.app {C : FuncId → List V → Heap → (V → Heap → Prop) → Prop} {e : TypeId} {esz n bytes m : Nat} {h h1 : Heap} {v x : V} {xs ys : List V} {K : V → Heap → Prop} (g : Grow e esz h v h1 xs n) (hx : cellsOf h1 esz x = some (ys, m)) (hy : ys.all V.isCell = true)
    (hyl : ys.length = m * esz) (hb1 : (n + m) * bytes ≤ 140737488355328) (hb2 : n + m ≤ 140737488355328) (k : ∀ v' h', Grow e esz h v' h' (xs ++ ys) (n + m) → K v' h') : wApp e esz bytes v x h1 K := by
  rcases g with ⟨rfl, rfl, rfl, rfl⟩ | ⟨b, hb, rfl, hl, rfl⟩
  · rw [wApp_nils hx]
    refine ⟨hy, ?_⟩
    split
    · rename_i e0
      subst e0
      have : ys = [] := List.eq_nil_of_length_eq_zero (by rw [hyl, Nat.zero_mul])
      subst this
      exact k _ _ (.nil _ _ _)
    · rw [Nat.zero_add] at hb1 hb2 k
      exact ⟨hb1, hb2, fun b hb => k _ _ (.inr ⟨b, hb, rfl, by simpa using hyl, by simp⟩)⟩
  · rw [wApp_tip hx (upd_eq _ _ _)]
    refine ⟨hy, ⟨hb1, hb2⟩, hl, fun b' hb' => ?_⟩
    rw [era_upd_fresh hb]
    refine k _ _ (.inr ⟨b', ?_, rfl, by rw [List.length_append, hl, hyl, Nat.add_mul], rfl⟩)
    by_cases e : b' = b
    · subst e; exact hb
    · rwa [upd_ne _ _ _ _ e] at hb'

/-- Not empty: a block of its own. -/
theorem Grow.sl_of {e : TypeId} {esz n : Nat} {h h1 : Heap} {v : V} {xs : List V} (g : Grow e esz h v h1 xs n) (hn : n ≠ 0) : ∃ b, h b = none ∧ v = .sl esz b 0 n none ∧ xs.length = n * esz ∧ h1 = upd h b (.cells e esz xs) := by
  rcases g with ⟨_, h0, _⟩ | g
  · exact absurd h0 hn
  · exact g

theorem Grow.view1 {e : TypeId} {n : Nat} {h h1 : Heap} {v : V} {xs : List V} (g : Grow e 1 h v h1 xs n) : View v h1 (.ps 1 xs) h := by
  have hl : xs.length = n := by
    rcases g with ⟨_, rfl, rfl, _⟩ | ⟨_, _, _, hl, _⟩
    · rfl
    · omega
  rcases g with ⟨rfl, rfl, rfl, rfl⟩ | ⟨b, hb, rfl, _, rfl⟩
  · intro ρ w cv hs hv
    cases hv
    exact ⟨hs, .ps 1 [] none 0 (fun _ => undef) (by simp) (by simp [maxLen]) (by simp) (by simp) (by simp), Fr.refl _ _ _⟩
  · have := View.buildS (esz := 1) (n := n) (e := e) (xs := xs) hb (by omega)
    have e1 : elems 1 n xs = xs := by simp [elems, ← hl]
    rwa [e1] at this

/-- In the end it never changes again. -/
theorem Grow.view {e : TypeId} {esz n : Nat} {h h1 : Heap} {v : V} {xs : List V} (g : Grow e esz h v h1 xs n) : View v h1 (.ps esz (elems esz n xs)) h := by
  rcases g with ⟨rfl, rfl, rfl, rfl⟩ | ⟨b, hb, rfl, hl, rfl⟩
  · intro ρ w cv hs hv
    have : elems esz 0 ([] : List V) = [] := by simp [elems]
    rw [this]
    cases hv
    exact ⟨hs, .ps esz [] none 0 (fun _ => undef) (by simp) (by simp [maxLen]) (by simp) (by simp) (by simp), Fr.refl _ _ _⟩
  · exact View.buildS hb (by omega)

theorem put_same (tm : Nat → V) (d : Nat) (v : V) : put tm d v d = v := by simp [put]
theorem put_other (tm : Nat → V) (d t : Nat) (v : V) (hne : t ≠ d) : put tm d v t = tm t := by simp [put, hne]
theorem mk_same (l : List (Nat × V)) (d : Nat) (v : V) : mk ((d, v) :: l) d = v := by simp [mk]
theorem mk_other (l : List (Nat × V)) (d t : Nat) (v : V) (hne : t ≠ d) : mk ((d, v) :: l) t = mk l t := by simp [mk, hne]
theorem putd_some (tm : Nat → V) (d : Nat) (v : V) : putd tm (some d) v = put tm d v := rfl
theorem putd_none (tm : Nat → V) (v : V) : putd tm none v = tm := rfl
theorem upd_at (h : Heap) (b c : Nat) (x : Blk) : upd h b x c = if c = b then some x else h c := rfl
theorem era_at (h : Heap) (b c : Nat) : era h b c = if c = b then none else h c := rfl

theorem wrap_id {x : Int} (h1 : -9223372036854775808 ≤ x) (h2 : x ≤ 9223372036854775807) : IntKind.i64.wrap x = x := by
  simp only [IntKind.wrap, IntKind.signed, IntKind.bits]
  simp
  omega

@[simp] theorem aMn_int (k k' : IntKind) (a b : Int) : aMn (.int k a) (.int k' b) = some (.int k (min a b)) := by
  simp only [aMn, Option.some.injEq, V.int.injEq, true_and]
  split <;> omega
@[simp] theorem aMx_int (k k' : IntKind) (a b : Int) : aMx (.int k a) (.int k' b) = some (.int k (max a b)) := by
  simp only [aMx, Option.some.injEq, V.int.injEq, true_and]
  split <;> omega

attribute [simp ↓] W_cregion Wct_nil Wct_asg Wct_chk Wct_op Wct_opg Wct_both Wct_tt Ev_t Ev_c Ev_o0 Ev_o1 Ev_o2 Ev_o3 Ev_gd Ev_or Ev_and evs_nil evs_cons apure_mov apure_pick apure_build apure_load apure_nchk apure_bin apure_un apure_cint apure_cstr apure_slS apure_slStr apure_fld apure_fldv apure_idx apure_idxA apure_idxStr apure_look apure_ext apure_len apure_lenS apure_mn apure_mx apure_qcall W_keep W_after Wop_boxp Wop_buildSp W_skip W_region W_seq W_cond' W_block W_exit W_ret Wt_nil Wt_op Wt_opg Wt_and Wt_tt Wop_alloc Wop_box Wop_buildS Wop_mkS Wop_mkM Wop_store Wop_mupd Wop_ment Wop_ests Wop_app Wop_call
  Wop_mov Wop_pick Wop_build Wop_load Wop_nchk Wop_bin Wop_un Wop_cint Wop_cstr Wop_slS Wop_slStr Wop_fld Wop_fldv Wop_idx Wop_idxA Wop_idxStr Wop_look Wop_ext Wop_len Wop_lenS Wop_mn Wop_mx Wop_qcall
attribute [simp] Wo_gd Wo_gd2 and_or_gd or_and_gd Wo_some Wo_ite Wgo_bool Wgo_undef obind_some ocons_some loc_0 loc_1 loc_2 loc_3 loc_4 loc_5 orV_tt orV_ff orV_bool andV_tt andV_ff andV_bool gdV_tt gdV_ff gdV_tf gdV_ft gdV_undef
attribute [simp] putd_some putd_none Wv_some Wg_tt Wg_ff Wg_tf Wg_ft Wg_undef Wc_true Wc_false wBuildS_some wBuildSp_some mk_same mk_other wMkS_int
attribute [simp] put_same put_other setAt
@[simp] theorem isCell_undef  : V.isCell (.undef) = false := Eq.trans rfl rfl
@[simp] theorem cells_undef  : V.cells (.undef) = [(.undef)] := Eq.trans rfl rfl
@[simp] theorem isCell_top  : V.isCell (.top) = false := Eq.trans rfl rfl
@[simp] theorem cells_top  : V.cells (.top) = [(.top)] := Eq.trans rfl rfl
@[simp] theorem isCell_int (k : IntKind) (n : Int) : V.isCell (.int k n) = true := Eq.trans rfl rfl
@[simp] theorem cells_int (k : IntKind) (n : Int) : V.cells (.int k n) = [(.int k n)] := Eq.trans rfl rfl
@[simp] theorem isCell_bool (b : Bool) : V.isCell (.bool b) = true := Eq.trans rfl rfl
@[simp] theorem cells_bool (b : Bool) : V.cells (.bool b) = [(.bool b)] := Eq.trans rfl rfl
@[simp] theorem isCell_str (s : ByteArray) : V.isCell (.str s) = true := Eq.trans rfl rfl
@[simp] theorem cells_str (s : ByteArray) : V.cells (.str s) = [(.str s)] := Eq.trans rfl rfl
@[simp] theorem isCell_nils  : V.isCell (.nils) = true := Eq.trans rfl rfl
@[simp] theorem cells_nils  : V.cells (.nils) = [(.nils)] := Eq.trans rfl rfl
@[simp] theorem isCell_ps (e : Nat) (xs : List V) : V.isCell (.ps e xs) = true := Eq.trans rfl rfl
@[simp] theorem cells_ps (e : Nat) (xs : List V) : V.cells (.ps e xs) = [(.ps e xs)] := Eq.trans rfl rfl
@[simp] theorem isCell_sl (e b o n : Nat) (c : Option Nat) : V.isCell (.sl e b o n c) = true := Eq.trans rfl rfl
@[simp] theorem cells_sl (e b o n : Nat) (c : Option Nat) : V.cells (.sl e b o n c) = [(.sl e b o n c)] := Eq.trans rfl rfl
@[simp] theorem isCell_nilp  : V.isCell (.nilp) = true := Eq.trans rfl rfl
@[simp] theorem cells_nilp  : V.cells (.nilp) = [(.nilp)] := Eq.trans rfl rfl
@[simp] theorem isCell_ptr (b o : Nat) : V.isCell (.ptr b o) = true := Eq.trans rfl rfl
@[simp] theorem cells_ptr (b o : Nat) : V.cells (.ptr b o) = [(.ptr b o)] := Eq.trans rfl rfl
@[simp] theorem isCell_pp (xs : List V) : V.isCell (.pp xs) = true := Eq.trans rfl rfl
@[simp] theorem cells_pp (xs : List V) : V.cells (.pp xs) = [(.pp xs)] := Eq.trans rfl rfl
@[simp] theorem isCell_agg (xs : List V) : V.isCell (.agg xs) = false := Eq.trans rfl rfl
@[simp] theorem cells_agg (xs : List V) : V.cells (.agg xs) = xs := Eq.trans rfl rfl
@[simp] theorem isCell_tuple (xs : List V) : V.isCell (.tuple xs) = false := Eq.trans rfl rfl
@[simp] theorem cells_tuple (xs : List V) : V.cells (.tuple xs) = [(.tuple xs)] := Eq.trans rfl rfl
@[simp] theorem isCell_nilm  : V.isCell (.nilm) = true := Eq.trans rfl rfl
@[simp] theorem cells_nilm  : V.cells (.nilm) = [(.nilm)] := Eq.trans rfl rfl
@[simp] theorem isCell_mp (b : Nat) : V.isCell (.mp b) = true := Eq.trans rfl rfl
@[simp] theorem cells_mp (b : Nat) : V.cells (.mp b) = [(.mp b)] := Eq.trans rfl rfl
@[simp] theorem isCell_fn (f : FuncId) : V.isCell (.fn f) = true := Eq.trans rfl rfl
@[simp] theorem cells_fn (f : FuncId) : V.cells (.fn f) = [(.fn f)] := Eq.trans rfl rfl

/-! Values: what each operation makes of each kind, told so that no step is by unfolding alone. -/
section
variable {h : Heap} {tm : Nat → V}
@[simp] theorem ev_t (n : Nat) : (Opnd.t n).ev tm = tm n := Eq.trans rfl rfl
@[simp] theorem ev_c (v : V) : (Opnd.c v).ev tm = v := Eq.trans rfl rfl
@[simp] theorem evo_none : evo tm none = none := Eq.trans rfl rfl
@[simp] theorem evo_some (x : Opnd) : evo tm (some x) = some (x.ev tm) := Eq.trans rfl rfl

def ldB (o : Option Blk) (g : Option Nat) (off : Nat) : Option V :=
  match o with
  | some (.cells _ _ xs) => ld g (xs.drop off)
  | _ => none
@[simp] theorem aLoad_ptr (g : Option Nat) (b off : Nat) : aLoad h g (.ptr b off) = ldB (h b) g off := by
  unfold aLoad ldB; rfl
@[simp] theorem aLoad_pp (g : Option Nat) (xs : List V) : aLoad h g (.pp xs) = ld g xs := Eq.trans rfl rfl
@[simp] theorem ldB_cells (e : TypeId) (esz : Nat) (xs : List V) (g : Option Nat) (off : Nat) : ldB (some (.cells e esz xs)) g off = ld g (xs.drop off) := Eq.trans rfl rfl
@[simp] theorem ld_none (xs : List V) : ld none xs = xs.head? := Eq.trans rfl rfl
@[simp] theorem ld_some (n : Nat) (xs : List V) : ld (some n) xs = if n ≤ xs.length then some (.agg (xs.take n)) else none := Eq.trans rfl rfl
@[simp] theorem aFld_ptr (off b o : Nat) : aFld off (.ptr b o) = some (.ptr b (o + off)) := Eq.trans rfl rfl
@[simp] theorem aFld_pp (off : Nat) (xs : List V) : aFld off (.pp xs) = some (.pp (xs.drop off)) := Eq.trans rfl rfl
@[simp] theorem aFldv_none (off : Nat) (xs : List V) : aFldv off none (.agg xs) = xs[off]? := Eq.trans rfl rfl
@[simp] theorem aFldv_some (off n : Nat) (xs : List V) : aFldv off (some n) (.agg xs) = if off + n ≤ xs.length then some (.agg ((xs.drop off).take n)) else none := Eq.trans rfl rfl
@[simp] theorem aIdx_ps (esz e : Nat) (xs : List V) (k : IntKind) (n : Int) : aIdx esz (.ps e xs) (.int k n) = if e = esz ∧ 0 ≤ n then (xs[n.toNat]?).map fun v => .pp v.cells else none := Eq.trans rfl rfl
@[simp] theorem aIdx_sl (esz e b off len : Nat) (cap : Option Nat) (k : IntKind) (n : Int) : aIdx esz (.sl e b off len cap) (.int k n) = if e = esz ∧ 0 ≤ n ∧ n < len then some (.ptr b ((off + n.toNat) * esz)) else none := Eq.trans rfl rfl
@[simp] theorem aIdxA_ptr (len esz b o : Nat) (k : IntKind) (n : Int) : aIdxA len esz (.ptr b o) (.int k n) = if 0 ≤ n ∧ n < len then some (.ptr b (o + n.toNat * esz)) else none := Eq.trans rfl rfl
@[simp] theorem aIdxA_pp (len esz : Nat) (xs : List V) (k : IntKind) (n : Int) : aIdxA len esz (.pp xs) (.int k n) = if 0 ≤ n ∧ n < len then some (.pp (xs.drop (n.toNat * esz))) else none := Eq.trans rfl rfl
@[simp] theorem aIdxStr_str (s : ByteArray) (k : IntKind) (n : Int) : aIdxStr (.str s) (.int k n) = if 0 ≤ n then (s[n.toNat]?).map fun b => .int .u8 b.toNat else none := Eq.trans rfl rfl
@[simp] theorem aExt_tuple (i : Nat) (xs : List V) : aExt i (.tuple xs) = xs[i]? := Eq.trans rfl rfl
def iAnd (k : IntKind) (a b : Int) : Int := k.wrap (BitVec.ofInt k.bits a &&& BitVec.ofInt k.bits b).toNat
def iOr (k : IntKind) (a b : Int) : Int := k.wrap (BitVec.ofInt k.bits a ||| BitVec.ofInt k.bits b).toNat
def iXor (k : IntKind) (a b : Int) : Int := k.wrap (BitVec.ofInt k.bits a ^^^ BitVec.ofInt k.bits b).toNat
def iNot (k : IntKind) (n : Int) : Int := k.wrap (BitVec.ofInt k.bits (if k.signed then -1 else k.max) ^^^ BitVec.ofInt k.bits n).toNat
@[simp] theorem aLen_nils : aLen .nils = some (.int .i64 0) := Eq.trans rfl rfl
@[simp] theorem aLen_ps (e : Nat) (xs : List V) : aLen (.ps e xs) = some (.int .i64 xs.length) := Eq.trans rfl rfl
@[simp] theorem aLen_sl (e b off n : Nat) (cap : Option Nat) : aLen (.sl e b off n cap) = some (.int .i64 n) := Eq.trans rfl rfl
@[simp] theorem aLenS_str (s : ByteArray) : aLenS (.str s) = some (.int .i64 s.size) := Eq.trans rfl rfl
@[simp] theorem aPick_bool (t : Bool) (x y : V) : aPick (.bool t) x y = some (if t then x else y) := Eq.trans rfl rfl
@[simp] theorem aNchk_ptr (b off : Nat) : aNchk (.ptr b off) = some (.ptr b off) := Eq.trans rfl rfl
@[simp] theorem aNchk_pp (xs : List V) : aNchk (.pp xs) = some (.pp xs) := Eq.trans rfl rfl
@[simp] theorem aCint_int (k k' : IntKind) (n : Int) : aCint k (.int k' n) = some (.int k (k.wrap n)) := Eq.trans rfl rfl
@[simp] theorem aun_neg (k : IntKind) (n : Int) : aun .neg (.int k n) = some (.int k (k.wrap (0 - n))) := Eq.trans rfl rfl
@[simp] theorem aun_xor (k : IntKind) (n : Int) : aun .xor (.int k n) = some (.int k (iNot k n)) := Eq.trans rfl rfl
@[simp] theorem aun_not (b : Bool) : aun .not (.bool b) = some (.bool (!b)) := Eq.trans rfl rfl
@[simp] theorem abin_add (k : IntKind) (a b : Int) : abin .add .num (.int k a) (.int k b) = some (.int k (k.wrap (a + b))) := by simp [abin, isShift, intBin]
@[simp] theorem abin_sub (k : IntKind) (a b : Int) : abin .sub .num (.int k a) (.int k b) = some (.int k (k.wrap (a - b))) := by simp [abin, isShift, intBin]
@[simp] theorem abin_mul (k : IntKind) (a b : Int) : abin .mul .num (.int k a) (.int k b) = some (.int k (k.wrap (a * b))) := by simp [abin, isShift, intBin]
@[simp] theorem abin_quo (k : IntKind) (a b : Int) : abin .quo .num (.int k a) (.int k b) = if b = 0 then none else some (.int k (k.wrap (a.tdiv b))) := by simp [abin, isShift, intBin]
@[simp] theorem abin_rem (k : IntKind) (a b : Int) : abin .rem .num (.int k a) (.int k b) = if b = 0 then none else some (.int k (a.tmod b)) := by simp [abin, isShift, intBin]
@[simp] theorem abin_and (k : IntKind) (a b : Int) : abin .and .num (.int k a) (.int k b) = some (.int k (iAnd k a b)) := by simp only [abin, isShift, intBin]; rfl
@[simp] theorem abin_or (k : IntKind) (a b : Int) : abin .or .num (.int k a) (.int k b) = some (.int k (iOr k a b)) := by simp only [abin, isShift, intBin]; rfl
@[simp] theorem abin_xor (k : IntKind) (a b : Int) : abin .xor .num (.int k a) (.int k b) = some (.int k (iXor k a b)) := by simp only [abin, isShift, intBin]; rfl
@[simp] theorem abin_eql (k : IntKind) (a b : Int) : abin .eql .num (.int k a) (.int k b) = some (.bool (a == b)) := by simp [abin, isShift, intBin]
@[simp] theorem abin_neq (k : IntKind) (a b : Int) : abin .neq .num (.int k a) (.int k b) = some (.bool (a != b)) := by simp [abin, isShift, intBin]
@[simp] theorem abin_lss (k : IntKind) (a b : Int) : abin .lss .num (.int k a) (.int k b) = some (.bool (decide (a < b))) := by simp [abin, isShift, intBin]
@[simp] theorem abin_leq (k : IntKind) (a b : Int) : abin .leq .num (.int k a) (.int k b) = some (.bool (decide (a ≤ b))) := by simp [abin, isShift, intBin]
@[simp] theorem abin_gtr (k : IntKind) (a b : Int) : abin .gtr .num (.int k a) (.int k b) = some (.bool (decide (a > b))) := by simp [abin, isShift, intBin]
@[simp] theorem abin_geq (k : IntKind) (a b : Int) : abin .geq .num (.int k a) (.int k b) = some (.bool (decide (a ≥ b))) := by simp [abin, isShift, intBin]
@[simp] theorem abin_shl (k k' : IntKind) (a b : Int) : abin .shl .num (.int k a) (.int k' b) = if b < 0 then none else some (.int k (k.wrap (a * 2 ^ (min b.toNat k.bits)))) := by simp [abin, isShift, shiftBin]
@[simp] theorem abin_shr (k k' : IntKind) (a b : Int) : abin .shr .num (.int k a) (.int k' b) = if b < 0 then none else some (.int k (a.fdiv (2 ^ (min b.toNat k.bits)))) := by simp [abin, isShift, shiftBin]
@[simp] theorem abin_sadd (a b : ByteArray) : abin .add .num (.str a) (.str b) = if a.size + b.size ≤ 9223372036854775807 then some (.str (a ++ b)) else none := by simp [abin, strBin]
@[simp] theorem abin_seql (a b : ByteArray) : abin .eql .num (.str a) (.str b) = some (.bool (a.toList == b.toList)) := by simp [abin, strBin]
@[simp] theorem abin_sneq (a b : ByteArray) : abin .neq .num (.str a) (.str b) = some (.bool (!(a.toList == b.toList))) := by simp [abin, strBin]
@[simp] theorem abin_beql (a b : Bool) : abin .eql .bool (.bool a) (.bool b) = some (.bool (a == b)) := by simp [abin, eqBin]
@[simp] theorem abin_bneq (a b : Bool) : abin .neq .bool (.bool a) (.bool b) = some (.bool (!(a == b))) := by simp [abin, eqBin]
@[simp] theorem abin_nn (op : BinOp) : abin op .ptr .nilp .nilp = eqBin op true := Eq.trans rfl rfl
@[simp] theorem abin_pn (op : BinOp) (b o : Nat) : abin op .ptr (.ptr b o) .nilp = eqBin op false := Eq.trans rfl rfl
@[simp] theorem abin_ppn (op : BinOp) (xs : List V) : abin op .ptr (.pp xs) .nilp = eqBin op false := Eq.trans rfl rfl
@[simp] theorem eqBin_eql (t : Bool) : eqBin .eql t = some (.bool t) := Eq.trans rfl rfl
@[simp] theorem eqBin_neq (t : Bool) : eqBin .neq t = some (.bool (!t)) := Eq.trans rfl rfl
@[simp] theorem aSlS_000 (esz : Nat) (x : V) : aSlS esz x none none none = aslS esz x none none none := Eq.trans rfl rfl
@[simp] theorem aSlS_100 (esz : Nat) (x : V) (k : IntKind) (l : Int) : aSlS esz x (some (.int k l)) none none = aslS esz x (some l) none none := Eq.trans rfl rfl
@[simp] theorem aSlS_010 (esz : Nat) (x : V) (k : IntKind) (l : Int) : aSlS esz x none (some (.int k l)) none = aslS esz x none (some l) none := Eq.trans rfl rfl
@[simp] theorem aSlS_110 (esz : Nat) (x : V) (k k' : IntKind) (l u : Int) : aSlS esz x (some (.int k l)) (some (.int k' u)) none = aslS esz x (some l) (some u) none := Eq.trans rfl rfl
@[simp] theorem aslS_ps (esz e : Nat) (xs : List V) (lo hi : Option Int) : aslS esz (.ps e xs) lo hi none = if e = esz ∧ 0 ≤ lo.getD 0 ∧ lo.getD 0 ≤ hi.getD xs.length ∧ hi.getD xs.length ≤ xs.length then some (.ps e ((xs.take (hi.getD xs.length).toNat).drop (lo.getD 0).toNat)) else none := by
  simp [aslS]
@[simp] theorem fillB_nil (cs : List V) : fillB tm cs [] = some cs := Eq.trans rfl rfl
@[simp] theorem fillB_cons (cs : List V) (off size : Nat) (x : Opnd) (rest : List (Nat × Nat × Opnd)) : fillB tm cs ((off, size, x) :: rest) = if (x.ev tm).cells.length = size ∧ off + size ≤ cs.length ∧ (x.ev tm).cells.all V.isCell then fillB tm (setAt cs off (x.ev tm).cells) rest else none := Eq.trans rfl rfl
@[simp] theorem fillS_nil (esz : Nat) (cs : List V) : fillS tm esz cs [] = some cs := Eq.trans rfl rfl
@[simp] theorem fillS_cons (esz : Nat) (cs : List V) (i : Nat) (x : Opnd) (rest : List (Nat × Opnd)) : fillS tm esz cs ((i, x) :: rest) = if (x.ev tm).cells.length = esz ∧ i * esz + esz ≤ cs.length ∧ (x.ev tm).cells.all V.isCell then fillS tm esz (setAt cs (i * esz) (x.ev tm).cells) rest else none := Eq.trans rfl rfl

def wStB (o : Option Blk) (n b off : Nat) (cs : List V) (h : Heap) (K : V → Heap → Prop) : Prop :=
  match o with
  | some (.cells e esz xs) => (cs.length = n ∧ cs.all V.isCell = true ∧ off + n ≤ xs.length) ∧ K .undef (upd h b (.cells e esz (setAt xs off cs)))
  | _ => False
@[congr] theorem wStB_congr {o o' : Option Blk} {n b off : Nat} {cs cs' : List V} {K : V → Heap → Prop} (h1 : ∀ _ : Unit, o = o') (h2 : ∀ _ : Unit, cs = cs') : wStB o n b off cs h K = wStB o' n b off cs' h K := by rw [h1 (), h2 ()]
@[congr] theorem wStore_congr {n : Nat} {a a' x x' : V} {K : V → Heap → Prop} (h1 : ∀ _ : Unit, a = a') (h2 : ∀ _ : Unit, x = x') : wStore n a x h K = wStore n a' x' h K := by rw [h1 (), h2 ()]
@[simp] theorem wStore_ptr (n b off : Nat) (x : V) (K : V → Heap → Prop) : wStore n (.ptr b off) x h K = wStB (h b) n b off x.cells h K := by
  unfold wStore wStB; rfl
@[simp] theorem wStB_some (e : TypeId) (esz : Nat) (xs : List V) (n b off : Nat) (cs : List V) (K : V → Heap → Prop) : wStB (some (.cells e esz xs)) n b off cs h K =
    ((cs.length = n ∧ cs.all V.isCell = true ∧ off + n ≤ xs.length) ∧ K .undef (upd h b (.cells e esz (setAt xs off cs)))) := propext Iff.rfl
attribute [simp] resV resAll resOne
end

/-- Natural numbers as a program's numbers. -/
def nats (l : List Nat) : List V := l.map fun (n : Nat) => .int .i64 (n : Int)
def ints (l : List Int) : List V := l.map fun (n : Int) => .int .i64 n
@[simp] theorem nats_len (l : List Nat) : (nats l).length = l.length := by simp [nats]
@[simp] theorem ints_len (l : List Int) : (ints l).length = l.length := by simp [ints]
@[simp] theorem nats_get (l : List Nat) (i : Nat) : (nats l)[i]? = (l[i]?).map fun (n : Nat) => .int .i64 (n : Int) := by simp [nats]
@[simp] theorem ints_get (l : List Int) (i : Nat) : (ints l)[i]? = (l[i]?).map fun (n : Int) => .int .i64 n := by simp [ints]
@[simp] theorem nats_getE (l : List Nat) (i : Nat) (hi : i < (nats l).length) : (nats l)[i] = .int .i64 ((l[i]'(by simpa using hi) : Nat) : Int) := by simp [nats]
@[simp] theorem ints_getE (l : List Int) (i : Nat) (hi : i < (ints l).length) : (ints l)[i] = .int .i64 (l[i]'(by simpa using hi)) := by simp [ints]
/-- What is kept of the heap at a function's end. -/
theorem keepAll {h : Heap} {Q : Heap → Prop} (hq : Q h) : ∃ h'', Sub h'' h ∧ Q h'' := ⟨h, Sub.refl h, hq⟩
theorem nats_set (l : List Nat) (i n : Nat) : (nats l).set i (.int .i64 n) = nats (l.set i n) := by simp [nats, List.map_set]
theorem ints_set (l : List Int) (i : Nat) (n : Int) : (ints l).set i (.int .i64 n) = ints (l.set i n) := by simp [ints, List.map_set]

end Go.Abs

/- Deep changes of view: what is given to a call, or never written again, becomes a value that never changes, with all that it reaches. -/
namespace Go.Abs

inductive Frz (h h' : Heap) : V → V → Prop
  | refl (v : V) : Frz h h' v v
  | nils (esz : Nat) : Frz h h' .nils (.ps esz [])
  | sl {e : TypeId} {esz b off n : Nat} {cap : Option Nat} {xs ys : List V} : h b = some (.cells e esz xs) → h' b = none → off * esz + n * esz ≤ xs.length → ys.length = n * esz →
      (∀ (j : Nat) (x y : V), xs[off * esz + j]? = some x → ys[j]? = some y → Frz h h' x y) → (∀ y ∈ ys, y.isCell = true) → Frz h h' (.sl esz b off n cap) (.ps esz (elems esz n ys))
  | ptr {e : TypeId} {esz b off : Nat} {xs ys : List V} : h b = some (.cells e esz xs) → h' b = none → off + ys.length ≤ xs.length →
      (∀ (j : Nat) (x y : V), xs[off + j]? = some x → ys[j]? = some y → Frz h h' x y) → Frz h h' (.ptr b off) (.pp ys)
  | agg {xs ys : List V} : xs.length = ys.length → (∀ (j : Nat) (x y : V), xs[j]? = some x → ys[j]? = some y → Frz h h' x y) → Frz h h' (.agg xs) (.agg ys)
  | tuple {xs ys : List V} : xs.length = ys.length → (∀ (j : Nat) (x y : V), xs[j]? = some x → ys[j]? = some y → Frz h h' x y) → Frz h h' (.tuple xs) (.tuple ys)

theorem frz_rel {ρ : Ren} {h h' : Heap} {w : World} (hs : St ρ h w) (hsub : Sub h' h) {v v' : V} (hf : Frz h h' v v') : ∀ {cv : Value}, VRel ρ (Own ρ h) w v cv → VRel ρ (Own ρ h') w v' cv := by
  have hfr := (hs.sub hsub).2
  have hne : ∀ c, h' c ≠ none → h c ≠ none := by
    intro c hc
    cases e : h' c with
    | none => exact absurd e hc
    | some x => rw [hsub c x e]; simp
  have hnown : ∀ {b : Nat} {x : Blk} {cb K : Nat}, h b = some x → h' b = none → ρ b = some (cb, K) → ¬ Own ρ h' cb := by
    rintro b x cb K hb hb' hr ⟨c, K', hc, hr'⟩
    have : c = b := hs.inj c b _ _ _ (hne c hc) (by rw [hb]; simp) hr' hr
    subst this
    exact hc hb'
  induction hf with
  | refl v => intro cv hv; exact hv.fr hfr
  | nils esz =>
    intro cv hv
    cases hv
    exact .ps esz [] none 0 (fun _ => undef) (by simp) (by simp [maxLen]) (by simp) (by simp) (by simp)
  | agg hl _ ih =>
    intro cv hv
    cases hv with
    | agg xs cs hl2 hv =>
      refine .agg _ _ (hl.symm.trans hl2) fun j y u hy hu => ?_
      have hj := (List.getElem?_eq_some_iff.1 hy).1
      rw [← hl] at hj
      exact ih j _ y (List.getElem?_eq_getElem hj) hy (hv j _ u (List.getElem?_eq_getElem hj) hu)
  | tuple hl _ ih =>
    intro cv hv
    cases hv with
    | tuple xs cs hl2 hv =>
      refine .tuple _ _ (hl.symm.trans hl2) fun j y u hy hu => ?_
      have hj := (List.getElem?_eq_some_iff.1 hy).1
      rw [← hl] at hj
      exact ih j _ y (List.getElem?_eq_getElem hj) hy (hv j _ u (List.getElem?_eq_getElem hj) hu)
  | @ptr e esz b off xs ys hb hb' hle _ ih =>
    intro cv hv
    cases hv with
    | ptr _ _ cb K hr =>
      obtain ⟨cb2, K2, hr2, cur, g1, g2, g3, g4, g5⟩ := hs.blk b _ hb
      rw [hr] at hr2; injection hr2 with hr2; injection hr2 with e1 e2; subst e1; subst e2
      refine .pp ys ⟨cb, off, none⟩ (fun j => cur.getD (off + j) undef) (hnown hb hb' hr) (hs.lt _ _ _ hr) (fun j u hj => ?_) (fun j u hj => ?_)
      · have hjl := (List.getElem?_eq_some_iff.1 hj).1
        obtain ⟨_, cv', a2, _⟩ := g5 (off + j) _ (List.getElem?_eq_getElem (by omega))
        rw [cell_at g1]
        simp [a2]
      · have hjl := (List.getElem?_eq_some_iff.1 hj).1
        have hx := List.getElem?_eq_getElem (show off + j < xs.length by omega)
        obtain ⟨_, cv', a2, a3⟩ := g5 (off + j) _ hx
        simp [a2]
        exact ih j _ u hx hj a3
  | @sl e esz b off n cap xs ys hb hb' hle hyl _ hcell ih =>
    intro cv hv
    obtain ⟨cb, K, hr, cur, g1, g2, g3, g4, g5⟩ := hs.blk b _ hb
    have hys : n * esz ≤ ys.length := by omega
    have main : ∀ (A : Nat), n ≤ A → A ≤ maxLen → VRel ρ (Own ρ h') w (.ps esz (elems esz n ys)) (.slice (some ⟨cb, off * esz, none⟩) n A) := by
      intro A hA hA2
      have hl := elems_length hys
      have key := VRel.ps (ρ := ρ) (O := Own ρ h') (w := w) esz (elems esz n ys) (some ⟨cb, off * esz, none⟩) A (fun j => cur.getD (off * esz + j) undef) (by rw [hl]; exact hA) hA2
        (fun x hx => by
          obtain ⟨i, hi⟩ := List.getElem?_of_mem hx
          obtain ⟨h1, h2⟩ := elems_cells hys hcell hi
          rw [h2]
          have : i * esz + esz ≤ n * esz := by rw [← Nat.succ_mul]; exact Nat.mul_le_mul_right _ h1
          simp; omega)
        (fun _ => ⟨_, rfl, hnown hb hb' hr, hs.lt _ _ _ hr, fun i x hx j u hj => by
          obtain ⟨h1, h2⟩ := elems_cells hys hcell hx
          rw [h2, List.getElem?_take] at hj
          split at hj
          · rename_i hjl
            rw [List.getElem?_drop] at hj
            have hjy := (List.getElem?_eq_some_iff.1 hj).1
            obtain ⟨_, cv', a2, _⟩ := g5 (off * esz + (i * esz + j)) _ (List.getElem?_eq_getElem (by omega))
            rw [cell_at g1]
            simp [a2]
          · cases hj⟩)
        (fun i x hx j u hj => by
          obtain ⟨h1, h2⟩ := elems_cells hys hcell hx
          rw [h2, List.getElem?_take] at hj
          split at hj
          · rw [List.getElem?_drop] at hj
            have hjy := (List.getElem?_eq_some_iff.1 hj).1
            have hxx := List.getElem?_eq_getElem (show off * esz + (i * esz + j) < xs.length by omega)
            obtain ⟨_, cv', a2, a3⟩ := g5 (off * esz + (i * esz + j)) _ hxx
            simp [a2]
            exact ih (i * esz + j) _ u hxx hj a3
          · cases hj)
      rw [hl] at key
      exact key
    cases hv with
    | sl _ _ _ _ cb' K' hr' hk =>
      rw [hr] at hr'; injection hr' with hr'; injection hr' with e1 e2; subst e1; subst e2
      exact main _ (by omega) (by omega)
    | slc _ _ _ _ c cb' K' hr' hn hk =>
      rw [hr] at hr'; injection hr' with hr'; injection hr' with e1 e2; subst e1; subst e2
      exact main _ hn (by omega)

/-- What a call is given. -/
theorem AC.give {P : Program} {f : FuncId} {args args' : List V} {h h' : Heap} {Q : V → Heap → Prop} (hsub : Sub h' h) (hl : args.length = args'.length) (hf : ∀ (j : Nat) (x y : V), args[j]? = some x → args'[j]? = some y → Frz h h' x y)
    (ha : AC P f args' h' Q) : AC P f args h Q := by
  intro ρ w cargs hs hargs
  obtain ⟨s1, s2⟩ := hs.sub hsub
  refine (ha ρ w cargs s1 ⟨hl.symm.trans hargs.1, fun j y u hy hu => ?_⟩).mono ?_
  · have hj : j < args.length := by rw [hl]; exact (List.getElem?_eq_some_iff.1 hy).1
    have hx := List.getElem?_eq_getElem hj
    exact frz_rel hs hsub (hf j _ y hx hy) (hargs.2 j _ u hx hu)
  · rintro e w' ⟨v, cv, h1, ρ', rfl, hq, t1, t2, t3⟩
    exact ⟨v, cv, h1, ρ', rfl, hq, t1, t2, s2.trans t3⟩

/-- Temporaries seen otherwise. -/
theorem Shift.frz {tm tm' : Nat → V} {h h' : Heap} (hsub : Sub h' h) (hf : ∀ t, Frz h h' (tm t) (tm' t)) : Shift tm h tm' h' := by
  intro ρ w a hs ht
  obtain ⟨s1, s2⟩ := hs.sub hsub
  exact ⟨s1, fun t => frz_rel hs hsub (hf t) (ht t), s2⟩

/-- One temporary seen otherwise. -/
theorem Shift.frz1 {tm : Nat → V} {h h' : Heap} (t : Nat) (v : V) (hsub : Sub h' h) (hf : Frz h h' (tm t) v) : Shift tm h (put tm t v) h' := by
  refine Shift.frz hsub fun u => ?_
  unfold put
  split
  · rename_i e; subst e; exact hf
  · exact .refl _

theorem View.frz {v v' : V} {h h' : Heap} (hsub : Sub h' h) (hf : Frz h h' v v') : View v h v' h' := by
  intro ρ w cv hs hv
  obtain ⟨s1, s2⟩ := hs.sub hsub
  exact ⟨s1, frz_rel hs hsub hf hv, s2⟩

theorem era_sub (h : Heap) (b : Nat) : Sub (era h b) h := by
  intro c x hx
  by_cases e : c = b
  · subst e; rw [era_eq] at hx; cases hx
  · rwa [era_ne _ _ _ e] at hx

/-- A slice of numbers, or of other cells that hold nothing of the heap. -/
theorem Frz.sl1 {h h' : Heap} {e : TypeId} {b n : Nat} {cap : Option Nat} {xs : List V} (hb : h b = some (.cells e 1 xs)) (hb' : h' b = none) (hn : n = xs.length) (hc : ∀ x ∈ xs, x.isCell = true) : Frz h h' (.sl 1 b 0 n cap) (.ps 1 xs) := by
  subst hn
  have := Frz.sl (h' := h') (esz := 1) (off := 0) (n := xs.length) (cap := cap) (ys := xs) hb hb' (by omega) (by omega) (fun j x y hx hy => by
    simp only [Nat.zero_mul, Nat.zero_add] at hx
    rw [hx] at hy; injection hy with hy; subst hy; exact .refl _) hc
  simpa [elems] using this

/-- Element by element. -/
inductive FrzL (h h' : Heap) : List V → List V → Prop
  | nil : FrzL h h' [] []
  | cons {x y : V} {xs ys : List V} : Frz h h' x y → FrzL h h' xs ys → FrzL h h' (x :: xs) (y :: ys)

theorem FrzL.length {h h' : Heap} {xs ys : List V} (f : FrzL h h' xs ys) : xs.length = ys.length := by
  induction f with
  | nil => rfl
  | cons _ _ ih => simp [ih]
theorem FrzL.get {h h' : Heap} {xs ys : List V} (f : FrzL h h' xs ys) : ∀ (j : Nat) (x y : V), xs[j]? = some x → ys[j]? = some y → Frz h h' x y := by
  induction f with
  | nil => intro j x y hx; simp at hx
  | cons h1 _ ih =>
    intro j x y hx hy
    cases j with
    | zero => simp at hx hy; subst hx; subst hy; exact h1
    | succ j => exact ih j x y (by simpa using hx) (by simpa using hy)
theorem FrzL.keep {h h' : Heap} {v : V} {xs ys : List V} (f : FrzL h h' xs ys) : FrzL h h' (v :: xs) (v :: ys) := .cons (.refl v) f
theorem FrzL.nils {h h' : Heap} {esz : Nat} {xs ys : List V} (f : FrzL h h' xs ys) : FrzL h h' (.nils :: xs) (.ps esz [] :: ys) := .cons (.nils esz) f

/-- A whole block. -/
theorem Frz.whole {h h' : Heap} {e : TypeId} {esz b n : Nat} {cap : Option Nat} {xs ys : List V} (hb : h b = some (.cells e esz xs)) (hb' : h' b = none) (f : FrzL h h' xs ys) (hn : ys.length = n * esz) (hc : ys.all V.isCell = true) : Frz h h' (.sl esz b 0 n cap) (.ps esz (elems esz n ys)) :=
  .sl hb hb' (by rw [f.length]; omega) hn (fun j x y hx hy => f.get j x y (by simpa using hx) hy) (fun y hy => List.all_eq_true.1 hc y hy)

/-- A slice that grew never changes again. -/
theorem Grow.frz {e : TypeId} {n : Nat} {h h1 : Heap} {v : V} {xs : List V} (g : Grow e 1 h v h1 xs n) (hc : xs.all V.isCell = true) : Frz h1 h v (.ps 1 xs) := by
  rcases g with ⟨rfl, rfl, rfl, rfl⟩ | ⟨b, hb, rfl, hl, rfl⟩
  · exact .nils 1
  · exact Frz.sl1 (upd_eq _ _ _) hb (by omega) fun x hx => List.all_eq_true.1 hc x hx

theorem Shift.sub {tm : Nat → V} {h h' : Heap} (hs : Sub h' h) : Shift tm h tm h' := Shift.frz hs fun _ => .refl _

/-- A temporary that grew is frozen, and its block let go. -/
theorem Grow.shift {e : TypeId} {n t : Nat} {h h1 : Heap} {v : V} {xs : List V} {tm : Nat → V} (g : Grow e 1 h v h1 xs n) (ht : tm t = v) (hc : xs.all V.isCell = true) : Shift tm h1 (put tm t (.ps 1 xs)) h :=
  Shift.frz1 t _ g.sub (by rw [ht]; exact g.frz hc)

end Go.Abs

/- From a contract of the abstract calculus to the call that a law's row speaks of. -/
namespace Go.Abs
open Go.RowKit

theorem St.start (W : World) : St (fun _ => none) noHeap W where
  fresh := ⟨0, fun _ _ => rfl⟩
  lt := by intro b c K h; cases h
  cap := by intro b c K h; cases h
  inj := by intro b b' c K K' hb _ _ _; exact absurd rfl hb
  blk := by intro b x h; cases h

/-- Nobody owns anything. -/
theorem own_none (k : Nat) : ¬ Own (fun _ => none) noHeap k := by
  rintro ⟨b, K, h, _⟩; exact h rfl

theorem law_calls {P : Program} {f : FuncId} {args : List V} {cargs : Array Value} {W : World} (ha : AC P f args noHeap fun v _ => v = .bool true) (hl : LRel (fun _ => none) (Own (fun _ => none) noHeap) W args cargs) :
    Calls P f cargs W fun e w' => e = .returned (.bool true) ∧ Below W.heap.size W w' := by
  refine (ha _ W cargs (St.start W) hl).mono ?_
  rintro e w' ⟨v, cv, h', ρ', rfl, rfl, s1, s2, s3⟩
  cases s2
  exact ⟨rfl, s3.os, s3.tape, s3.output, s3.size, fun k hk => s3.keep k hk (own_none k)⟩

end Go.Abs

/- From the data that a row tells to the abstract values: slices, structs, arrays of numbers, read cell by cell. -/
namespace Go.Abs
open Go.ChangeShapes Go.WideShapes

theorem choose_list {α : Type} {R : Nat → α → Prop} : ∀ {n : Nat}, (∀ i, i < n → ∃ a, R i a) → ∃ l : List α, l.length = n ∧ ∀ i a, l[i]? = some a → R i a
  | 0, _ => ⟨[], rfl, fun i a h => by simp at h⟩
  | n + 1, h => by
    obtain ⟨l, h1, h2⟩ := choose_list (n := n) fun i hi => h i (by omega)
    obtain ⟨a, ha⟩ := h n (by omega)
    refine ⟨l ++ [a], by simp [h1], fun i b hb => ?_⟩
    rcases Nat.lt_or_ge i l.length with c | c
    · rw [List.getElem?_append_left c] at hb; exact h2 i b hb
    · rw [List.getElem?_append_right c] at hb
      have : i - l.length = 0 := by have := (List.getElem?_eq_some_iff.1 hb).1; simpa using this
      rw [this] at hb
      simp at hb
      subst hb
      have : i = n := by omega
      subst this
      exact ha

/-- Cells that stand for abstract values, one for one. -/
def CsRel (W : World) (vs : List V) (cs : List Value) : Prop := vs.length = cs.length ∧ ∀ (j : Nat) u c, vs[j]? = some u → cs[j]? = some c → VRel (fun _ => none) (Own (fun _ => none) noHeap) W u c

section
variable {H : Type} {enc : TypeId × Value → H} {P : Program} {W : World}

/-- What data of a type read as. -/
def RdF (enc : TypeId × Value → H) (P : Program) (W : World) (fuel : Nat) (t : TypeId) {α : Type} (g : α → V) (ok : α → Prop) : Prop :=
  ∀ (cs : List Value) (d : DataW H) (ps : List MemPlace), DataW.trod enc P W 0 (fun _ => true) true fuel t cs = some (d, ps) → (∀ n ∈ d.weights P t, n ≤ reachBytes) → ∃ a, ok a ∧ CsRel W (g a).cells cs
def Rd (enc : TypeId × Value → H) (P : Program) (W : World) (t : TypeId) {α : Type} (g : α → V) (ok : α → Prop) : Prop := ∀ fuel, RdF enc P W fuel t g ok

def okI (k : IntKind) (n : Int) : Prop := (Lit.int k n).wf = true

theorem rd_int {fuel : Nat} {t : TypeId} {k : IntKind} (ht : P.underlying t = some (.int k)) : RdF enc P W fuel t (fun n : Int => .int k n) (okI k) := by
  intro cs d ps h _
  obtain ⟨n, rfl, hx, hw⟩ := DataW.trod_int ht h
  refine ⟨n, hw, rfl, fun j u c hu hc => ?_⟩
  match j with
  | 0 => simp [V.cells] at hu hc; subst hu; subst hc; exact .int k n
  | j + 1 => simp at hc

theorem rd_bool {fuel : Nat} {t : TypeId} (ht : P.underlying t = some .bool) : RdF enc P W fuel t (fun b : Bool => .bool b) (fun _ => True) := by
  intro cs d ps h _
  obtain ⟨n, rfl, hx⟩ := DataW.trod_bool ht h
  refine ⟨n, trivial, rfl, fun j u c hu hc => ?_⟩
  match j with
  | 0 => simp [V.cells] at hu hc; subst hu; subst hc; exact .bool n
  | j + 1 => simp at hc

theorem weightsAll_mem {e : TypeId} {d : DataW H} {n : Nat} (hn : n ∈ d.weights P e) : ∀ {l : List (DataW H)}, d ∈ l → n ∈ DataW.weightsAll P e l
  | a :: l, h => by
    rcases List.mem_cons.1 h with rfl | h
    · exact List.mem_append_left _ hn
    · exact List.mem_append_right _ (weightsAll_mem hn h)

theorem cell?_lt {a : Addr} {v : Value} (h : W.cell? a = some v) : a.block < W.heap.size := by
  unfold World.cell? at h
  cases e : W.heap[a.block]? with
  | none => simp [e] at h
  | some o => exact (Array.getElem?_eq_some_iff.1 e).1

theorem rd_slice {fuel : Nat} {t e : TypeId} {esz B : Nat} {α : Type} {g : α → V} {ok : α → Prop} (ht : P.underlying t = some (.slice e)) (he : P.cellsOf e = esz) (hB : P.bytesOf e = B) (hz : 0 < esz) (hcl : ∀ a, ok a → (g a).cells.length = esz)
    (hr : RdF enc P W fuel e g ok) : RdF enc P W (fuel + 1) t (fun l : List α => .ps esz (l.map g)) (fun l => (∀ a ∈ l, ok a) ∧ l.length * B ≤ reachBytes) := by
  subst he; subst hB
  intro cs d ps h hw
  rcases DataW.trod_slice ht h with ⟨rfl, hx⟩ | ⟨a, len, cap, elems, rest, n, hfu, rfl, hx, hb, hl, hm, hlen, hel, _, _⟩
  · refine ⟨[], ⟨by simp, by simp⟩, rfl, fun j u c hu hc => ?_⟩
    match j with
    | 0 =>
      simp [V.cells] at hu hc; subst hu; subst hc
      exact .ps _ [] none 0 (fun _ => undef) (by simp) (by simp [maxLen]) (by simp) (by simp) (by simp)
    | j + 1 => simp at hc
  · injection hfu with hfu
    subst hfu
    injection hx with hx hx2
    subst hx
    simp only [DataW.weights, ht] at hw
    have each : ∀ i, i < len → ∃ x : α, ok x ∧ ∃ cs', W.cells? 0 (a.add (i * P.cellsOf e)) (P.cellsOf e) = some cs' ∧ CsRel W (g x).cells cs' := by
      intro i hi
      have h1 := hel i hi
      have h2 := List.getElem?_eq_getElem (show i < elems.length by omega)
      rw [h2, Option.bind_eq_some_iff] at h1
      obtain ⟨cs', h3, h4⟩ := h1
      obtain ⟨x, hx1, hx2⟩ := hr cs' elems[i].1 elems[i].2 h4 fun n hn => hw n (List.mem_cons_of_mem _ (List.mem_append_left _ (weightsAll_mem hn (List.mem_map.2 ⟨_, List.getElem_mem _, rfl⟩))))
      exact ⟨x, hx1, cs', h3, hx2⟩
    obtain ⟨l, hll, hR⟩ := choose_list each
    have hmem : ∀ x ∈ l, ok x := by
      intro x hx
      obtain ⟨i, hi⟩ := List.getElem?_of_mem hx
      exact (hR i x hi).1
    have hwl : l.length * P.bytesOf e ≤ reachBytes := by
      have := hw ((elems.length + rest.length) * P.bytesOf e) (by simp)
      have e1 : l.length ≤ elems.length + rest.length := by omega
      exact Nat.le_trans (Nat.mul_le_mul_right _ e1) this
    refine ⟨l, ⟨hmem, hwl⟩, rfl, fun j u c hu hc => ?_⟩
    match j with
    | j + 1 => simp at hc
    | 0 =>
      simp [V.cells] at hu hc; subst hu; subst hc
      have key := VRel.ps (ρ := fun _ => none) (O := Own (fun _ => none) noHeap) (w := W) (P.cellsOf e) (l.map g) (some a) cap (fun j => (W.cell? (a.add j)).getD undef) (by simp; omega) hm (by
          intro x hx
          obtain ⟨y, hy, rfl⟩ := List.mem_map.1 hx
          exact hcl y (hmem y hy)) ?_ ?_
      · rw [List.length_map, hll] at key; exact key
      · intro hne
        have hl0 : 0 < len := by
          rcases Nat.eq_zero_or_pos len with h0 | h0
          · exfalso; exact hne (by rw [List.map_eq_nil_iff]; exact List.eq_nil_of_length_eq_zero (by omega))
          · exact h0
        refine ⟨a, rfl, own_none _, ?_, fun i x hx j u hu => ?_⟩
        · obtain ⟨_, _, cs', h3, _⟩ := each 0 hl0
          obtain ⟨_, h6, h7⟩ := World.cells?_some h3
          have h8 := h7 0 hz
          rw [List.getElem?_eq_getElem (show 0 < cs'.length by omega), add_add] at h8
          have := cell?_lt h8
          rwa [add_block] at this
        · obtain ⟨y, hy, rfl⟩ : ∃ y, l[i]? = some y ∧ g y = x := by simpa [List.getElem?_map] using hx
          obtain ⟨_, cs', h3, h4, h5⟩ := hR i y hy
          obtain ⟨_, h6, h7⟩ := World.cells?_some h3
          have hj := (List.getElem?_eq_some_iff.1 hu).1
          have hj2 : j < P.cellsOf e := by omega
          have h8 := h7 j hj2
          rw [add_add] at h8
          rw [h8, List.getElem?_eq_getElem (by omega)]
          rfl
      · intro i x hx j u hu
        obtain ⟨y, hy, rfl⟩ : ∃ y, l[i]? = some y ∧ g y = x := by simpa [List.getElem?_map] using hx
        obtain ⟨_, cs', h3, h4, h5⟩ := hR i y hy
        obtain ⟨_, h6, h7⟩ := World.cells?_some h3
        have hj := (List.getElem?_eq_some_iff.1 hu).1
        have hj2 : j < P.cellsOf e := by omega
        have h8 := h7 j hj2
        rw [add_add] at h8
        have h9 := List.getElem?_eq_getElem (show j < cs'.length by omega)
        simp only [h8, h9, Option.getD_some]
        exact h5 j u _ hu h9

theorem CsRel.append {a b : List V} {c d : List Value} (h1 : CsRel W a c) (h2 : CsRel W b d) : CsRel W (a ++ b) (c ++ d) := by
  refine ⟨by simp [h1.1, h2.1], fun j u x hu hx => ?_⟩
  rcases Nat.lt_or_ge j a.length with q | q
  · rw [List.getElem?_append_left q] at hu
    rw [List.getElem?_append_left (by rw [← h1.1]; exact q)] at hx
    exact h1.2 j u x hu hx
  · rw [List.getElem?_append_right q] at hu
    rw [List.getElem?_append_right (by rw [← h1.1]; exact q), ← h1.1] at hx
    exact h2.2 _ u x hu hx

theorem rd_string {fuel : Nat} {t : TypeId} (ht : P.underlying t = some .string) : RdF enc P W fuel t (fun s : ByteArray => .str s) (fun s => s.size ≤ reachBytes) := by
  intro cs d ps h hw
  obtain ⟨s, rfl, hx, _⟩ := DataW.trod_string ht h
  injection hx with hx _
  subst hx
  refine ⟨s, by have := hw s.data.toList.length (by simp [DataW.weights]); simpa using this, rfl, fun j u c hu hc => ?_⟩
  match j with
  | 0 => simp [V.cells] at hu hc; subst hu; subst hc; exact .str s
  | j + 1 => simp at hc

/-- Another reading of the same data. -/
theorem RdF.map {fuel : Nat} {t : TypeId} {α β : Type} {g : α → V} {ok : α → Prop} {g' : β → V} {ok' : β → Prop} (hr : RdF enc P W fuel t g ok) (φ : α → β) (h1 : ∀ a, (g' (φ a)).cells = (g a).cells) (h2 : ∀ a, ok a → ok' (φ a)) : RdF enc P W fuel t g' ok' := by
  intro cs d ps h hw
  obtain ⟨a, h3, h4⟩ := hr cs d ps h hw
  exact ⟨φ a, h2 a h3, by rw [h1]; exact h4⟩

/-- The fields of a struct. -/
def RdFs (enc : TypeId × Value → H) (P : Program) (W : World) (fuel : Nat) (fs : List Field) (off tot : Nat) {α : Type} (g : α → List V) (ok : α → Prop) : Prop :=
  ∀ (cs : List Value) (xs : List (DataW H × List MemPlace)), cs.length = tot → xs.length = fs.length →
    (∀ (i : Nat) (f : Field), fs[i]? = some f → DataW.trod enc P W 0 (fun _ => true) true fuel f.type ((cs.drop f.offset).take (P.cellsOf f.type)) = xs[i]?) →
    (∀ n ∈ DataW.weightsEach P (fs.map (·.type)) (xs.map (·.1)), n ≤ reachBytes) → ∃ a, ok a ∧ CsRel W (g a) (cs.drop off)

theorem rdfs_nil {fuel off tot : Nat} (h : tot ≤ off) : RdFs enc P W fuel [] off tot (fun _ : Unit => []) (fun _ => True) := by
  intro cs xs hl _ _ _
  refine ⟨(), trivial, ?_⟩
  rw [List.drop_eq_nil_of_le (by omega)]
  exact ⟨rfl, fun j u c hu => by simp at hu⟩

theorem rdfs_cons {fuel off tot k : Nat} {f : Field} {fs : List Field} {α β : Type} {g : α → V} {ok : α → Prop} {g' : β → List V} {ok' : β → Prop} (ho : f.offset = off) (hk : P.cellsOf f.type = k)
    (hr : RdF enc P W fuel f.type g ok) (hs : RdFs enc P W fuel fs (off + k) tot g' ok') : RdFs enc P W fuel (f :: fs) off tot (fun p : α × β => (g p.1).cells ++ g' p.2) (fun p => ok p.1 ∧ ok' p.2) := by
  intro cs xs hl hx hf hw
  match xs, hx with
  | x :: xs, hx =>
    have h0 := hf 0 f rfl
    simp only [List.getElem?_cons_zero] at h0
    obtain ⟨a, ha, hca⟩ := hr _ x.1 x.2 h0 fun n hn => hw n (List.mem_append_left _ hn)
    obtain ⟨b, hb, hcb⟩ := hs cs xs hl (by simpa using hx) (fun i f' hi => by have := hf (i + 1) f' (by simpa using hi); simpa using this) fun n hn => hw n (List.mem_append_right _ hn)
    refine ⟨(a, b), ⟨ha, hb⟩, ?_⟩
    have := hca.append hcb
    rw [ho, hk, ← List.drop_drop, List.take_append_drop] at this
    exact this

theorem rd_struct {fuel tot : Nat} {t : TypeId} {fs : Array Field} {α : Type} {g : α → List V} {ok : α → Prop} (ht : P.underlying t = some (.struct fs)) (hc : P.cellsOf t = tot) (hs : RdFs enc P W fuel fs.toList 0 tot g ok) :
    RdF enc P W (fuel + 1) t (fun a => .agg (g a)) ok := by
  intro cs d ps h hw
  obtain ⟨xs, n, hfu, hx, hl, hlen, hf⟩ := DataW.trod_struct ht h
  injection hfu with hfu
  subst hfu
  injection hx with hx _
  subst hx
  simp only [DataW.weights, ht] at hw
  obtain ⟨a, ha, hr⟩ := hs cs xs (by rw [hl, hc]) (by simpa using hlen) (fun i f hi => hf i f (by simpa using hi)) hw
  exact ⟨a, ha, by simpa [V.cells] using hr⟩

theorem rd_array2 {fuel k : Nat} {t e : TypeId} {α : Type} {g : α → V} {ok : α → Prop} (ht : P.underlying t = some (.array 2 e)) (he : P.cellsOf e = k) (hc : P.cellsOf t = k + k) (hr : RdF enc P W fuel e g ok) :
    RdF enc P W (fuel + 1) t (fun p : α × α => .agg ((g p.1).cells ++ (g p.2).cells)) (fun p => ok p.1 ∧ ok p.2) := by
  intro cs d ps h hw
  obtain ⟨xs, n, hfu, hx, hl, hlen, hf⟩ := DataW.trod_array ht h
  injection hfu with hfu
  subst hfu
  injection hx with hx _
  subst hx
  match xs, hlen with
  | [x, y], _ =>
    simp only [DataW.weights, ht] at hw
    have h0 := hf 0 (by omega)
    have h1 := hf 1 (by omega)
    simp only [Nat.zero_mul, List.drop_zero, he, Nat.one_mul, List.getElem?_cons_zero, List.getElem?_cons_succ] at h0 h1
    obtain ⟨a, ha, hca⟩ := hr _ x.1 x.2 h0 fun n hn => hw n (weightsAll_mem hn (by simp))
    obtain ⟨b, hb, hcb⟩ := hr _ y.1 y.2 h1 fun n hn => hw n (weightsAll_mem hn (by simp))
    refine ⟨(a, b), ⟨ha, hb⟩, ?_⟩
    have := hca.append hcb
    have e : (cs.drop k).take k = cs.drop k := by rw [List.take_of_length_le]; rw [List.length_drop]; omega
    rw [e, List.take_append_drop] at this
    simpa [V.cells] using this

/-- An argument of one cell. -/
theorem rd_arg {t : TypeId} {α : Type} {g : α → V} {ok : α → Prop} (hr : ∀ fuel, RdF enc P W fuel t g ok) {v : Value} {d : DataW H} {ps : List MemPlace} (h : DataW.Trod enc P W 0 (fun _ => true) true t v d ps) (hw : ∀ n ∈ d.weights P t, n ≤ reachBytes)
    (hv : v.cells = #[v]) (hg : ∀ a, (g a).cells = [g a]) : ∃ a, ok a ∧ VRel (fun _ => none) (Own (fun _ => none) noHeap) W (g a) v := by
  obtain ⟨fuel, hf⟩ := h
  rw [hv] at hf
  obtain ⟨a, ha, hr⟩ := hr fuel _ _ _ hf hw
  rw [hg] at hr
  exact ⟨a, ha, hr.2 0 _ _ rfl rfl⟩

theorem lrel_nil : LRel (fun _ => none) (Own (fun _ => none) noHeap) W [] #[] := ⟨rfl, fun j x u hx => by simp at hx⟩
theorem lrel_cons {a : V} {as : List V} {v : Value} {vs : List Value} (h : VRel (fun _ => none) (Own (fun _ => none) noHeap) W a v) (hs : LRel (fun _ => none) (Own (fun _ => none) noHeap) W as vs.toArray) : LRel (fun _ => none) (Own (fun _ => none) noHeap) W (a :: as) (v :: vs).toArray := by
  refine ⟨by have := hs.1; simp at this ⊢; exact this, fun j x u hx hu => ?_⟩
  match j with
  | 0 => simp at hx hu; subst hx; subst hu; exact h
  | j + 1 => exact hs.2 j x u (by simpa using hx) (by simpa using hu)

theorem weights_of {ts : List TypeId} {ds : List (DataW H)} (hsz : (DataW.weightsEach P ts ds).all (· ≤ reachBytes) = true) {j : Nat} {t : TypeId} {d : DataW H} (ht : ts[j]? = some t) (hd : ds[j]? = some d) : ∀ n ∈ d.weights P t, n ≤ reachBytes := by
  intro n hn
  have := List.all_eq_true.1 hsz n (DataW.weights_mem_each ht hd n hn)
  simpa using this
end
end Go.Abs
