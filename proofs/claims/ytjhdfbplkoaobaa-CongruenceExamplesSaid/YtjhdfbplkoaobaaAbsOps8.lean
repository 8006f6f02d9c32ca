/- Maps' writes and appends. -/
import Derived.Test.YtjhdfbplkoaobaaAbsOps7
set_option linter.unusedVariables false
set_option linter.unusedSimpArgs false
namespace Go.Abs

section
variable {P : Program} {ρ : Ren} {w : World} {tm : Nat → V} {a : Act} {h : Heap}

/-- A map's entries are laid anew. -/
theorem map_turn (hs : St ρ h w) {b cb K0 : Nat} (hr : ρ b = some (cb, K0)) {es es' : List (V × V)} (hb : h b = some (.map es)) {ces ces' : Array MapEntry} (g1 : w.heap[cb]? = some (.map ces ces.size))
    (hsz : ces'.size = es'.length) (hrel : ∀ (j : Nat) (k v : V), es'[j]? = some (k, v) → ∃ me : MapEntry, ces'[j]? = some me ∧ me.born = j ∧ VRel ρ (Own ρ h) w k me.key ∧ VRel ρ (Own ρ h) w v me.val) :
    St ρ (upd h b (.map es')) { w with heap := w.heap.setIfInBounds cb (.map ces' ces'.size) } ∧ Fr ρ h w ρ (upd h b (.map es')) { w with heap := w.heap.setIfInBounds cb (.map ces' ces'.size) } := by
  have hlt : cb < w.heap.size := hs.lt _ _ _ hr
  refine hs.turn (w' := { w with heap := w.heap.setIfInBounds cb (.map ces' ces'.size) }) hr hb rfl rfl rfl (by simp) (fun k hk => ?_) (fun f => ⟨ces', by simp [hlt], hsz, fun j k v hj => ?_⟩)
  · show (w.heap.setIfInBounds _ _)[k]? = _
    rw [Array.getElem?_setIfInBounds_ne (Ne.symm hk)]
  · obtain ⟨me, a1, a2, a3, a4⟩ := hrel j k v hj
    exact ⟨me, a1, a2, a3.fr f, a4.fr f⟩

theorem modify_rel {O : Nat → Prop} {es : List (V × V)} {ces : Array MapEntry} (g3 : ∀ (j : Nat) (k v : V), es[j]? = some (k, v) → ∃ me : MapEntry, ces[j]? = some me ∧ me.born = j ∧ VRel ρ O w k me.key ∧ VRel ρ O w v me.val)
    {i : Nat} {f : V × V → V × V} {g : MapEntry → MapEntry} (hfg : ∀ (k v : V) (me : MapEntry), VRel ρ O w k me.key → VRel ρ O w v me.val → (g me).born = me.born ∧ VRel ρ O w (f (k, v)).1 (g me).key ∧ VRel ρ O w (f (k, v)).2 (g me).val) :
    ∀ (j : Nat) (k v : V), (es.modify i f)[j]? = some (k, v) → ∃ me : MapEntry, (ces.modify i g)[j]? = some me ∧ me.born = j ∧ VRel ρ O w k me.key ∧ VRel ρ O w v me.val := by
  intro j k v hj
  rw [List.getElem?_modify] at hj
  rw [Array.getElem?_modify]
  by_cases e : i = j
  · subst e
    simp only [if_true] at hj ⊢
    cases he : es[i]? with
    | none => rw [he] at hj; cases hj
    | some p =>
      obtain ⟨k0, v0⟩ := p
      rw [he] at hj
      simp at hj
      obtain ⟨me, a1, a2, a3, a4⟩ := g3 i k0 v0 he
      obtain ⟨b1, b2, b3⟩ := hfg k0 v0 me a3 a4
      rw [hj] at b2 b3
      exact ⟨g me, by simp [a1], by rw [b1, a2], b2, b3⟩
  · simp only [e, if_false] at hj ⊢
    exact g3 j k v (by simpa using hj)

theorem push_rel {O : Nat → Prop} {es : List (V × V)} {ces : Array MapEntry} (g2 : ces.size = es.length) (g3 : ∀ (j : Nat) (k v : V), es[j]? = some (k, v) → ∃ me : MapEntry, ces[j]? = some me ∧ me.born = j ∧ VRel ρ O w k me.key ∧ VRel ρ O w v me.val)
    {k0 v0 : V} {ck cv : Value} (hk : VRel ρ O w k0 ck) (hv : VRel ρ O w v0 cv) :
    ∀ (j : Nat) (k v : V), (es ++ [(k0, v0)])[j]? = some (k, v) → ∃ me : MapEntry, (ces.push { key := ck, val := cv, born := ces.size })[j]? = some me ∧ me.born = j ∧ VRel ρ O w k me.key ∧ VRel ρ O w v me.val := by
  intro j k v hj
  rcases Nat.lt_or_ge j es.length with c | c
  · rw [List.getElem?_append_left c] at hj
    obtain ⟨me, a1, a2, a3, a4⟩ := g3 j k v hj
    exact ⟨me, by rw [Array.getElem?_push, if_neg (by omega)]; exact a1, a2, a3, a4⟩
  · rw [List.getElem?_append_right c] at hj
    have : j = es.length := by
      have := (List.getElem?_eq_some_iff.1 hj).1
      simp at this; omega
    subst this
    simp at hj
    obtain ⟨rfl, rfl⟩ := hj
    exact ⟨_, by rw [Array.getElem?_push, if_pos g2.symm], g2, hk, hv⟩

theorem keyStays {o n : Value} (h : Instr.sameBits 10000 o n = true) : (Instr.keyThatStays o n).run P w = .ok n w := by
  simp [Instr.keyThatStays, h]

theorem mupd_eff (hs : St ρ h w) {t kT e : TypeId} (hu : P.underlying t = some (.map kT e)) {kt : KT} (hkt : ktOf P kT = some kt) {m k v : V} {cm ck cv : Value}
    (hm : VRel ρ (Own ρ h) w m cm) (hk : VRel ρ (Own ρ h) w k ck) (hv : VRel ρ (Own ρ h) w v cv) {K : V → Heap → Prop} (hW : wMupd kt m k v h K) : Eff P ρ h w (do Instr.mapUpdate t cm ck cv; pure Next.skip) K := by
  unfold wMupd at hW
  split at hW
  · rename_i b
    split at hW
    · rename_i es hb
      split at hW
      · rename_i es' hes'
        cases hm with
        | mp b cb K0 hr =>
          obtain ⟨cb', K', hr', ces, g1, g2, g3⟩ := hs.blk b _ hb
          rw [hr] at hr'; injection hr' with hr'; injection hr' with e1 e2; subst e1; subst e2
          unfold putK at hes'
          split at hes'
          · rename_i hik
            have hE : ERel ρ (Own ρ h) w es ces.toList := ⟨by simpa using g2, fun j k v hj => by
              obtain ⟨me, a1, _, a3, a4⟩ := g3 j k v hj
              exact ⟨me, by simpa using a1, a3, a4⟩⟩
            have hck := run_checkKey (w := w) hkt hk hik false
            split at hes'
            · rename_i i hfi
              injection hes' with hes'; subst hes'
              obtain ⟨q, h1, me, h2, h3, h4⟩ := findKey_sound hkt hk hik hE hfi
              subst h3
              have h2' : ces[i]? = some me := by simpa using h2
              have key := map_turn hs hr hb g1 (es' := es.modify i fun e => (k, v)) (ces' := ces.modify i fun e => { e with key := ck, val := cv }) (by simp [g2]) (modify_rel g3 (fun _ _ me _ _ => ⟨rfl, hk, hv⟩))
              refine ⟨_, _, _, _, undef, _, ?_, .inr ⟨rfl, rfl⟩, hW, key.1, .undef, key.2⟩
              refine run_u ?_
              simp only [Instr.mapUpdate, Sem.run_bind, run_underlying hu, Result.andThen_ok, run_getObj_map g1, hck, h1, h2', Option.map_some, Option.getD_some, keyStays h4, run_setObj_map g1]
              simp
            · rename_i hfi
              injection hes' with hes'; subst hes'
              obtain ⟨q, h1, h2⟩ := findKey_sound hkt hk hik hE hfi
              simp only at h2; subst h2
              have key := map_turn hs hr hb g1 (es' := es ++ [(k, v)]) (ces' := ces.push { key := ck, val := cv, born := ces.size }) (by simp [g2]) (push_rel g2 g3 hk hv)
              refine ⟨_, _, _, _, undef, _, ?_, .inr ⟨rfl, rfl⟩, hW, key.1, .undef, key.2⟩
              refine run_u ?_
              simp only [Instr.mapUpdate, Sem.run_bind, run_underlying hu, Result.andThen_ok, run_getObj_map g1, hck, h1, run_setObj_map g1]
              simp
            · cases hes'
          · cases hes'
      · exact hW.elim
    · exact hW.elim
  · exact hW.elim

theorem ment_eff (hs : St ρ h w) {t kT e : TypeId} (hu : P.underlying t = some (.map kT e)) {kt : KT} (hkt : ktOf P kT = some kt) {z : V} (hz : zeroV P e = some z) {m k : V} {cm ck : Value}
    (hm : VRel ρ (Own ρ h) w m cm) (hk : VRel ρ (Own ρ h) w k ck) {K : V → Heap → Prop} (hW : wMent kt z m k h K) : Eff P ρ h w (do pure (Next.value (← Instr.mapEntry t cm ck))) K := by
  obtain ⟨cz, hzr, hzrun⟩ := zeroV_rel (ρ := ρ) (O := Own ρ h) (w := w) hz
  have pair : ∀ {ρ' : Ren} {O' : Nat → Prop} {w' : World} {u : V} {cu : Value} (n : Int), VRel ρ' O' w' u cu → VRel ρ' O' w' (.tuple [u, .int .i64 n]) (.tuple #[cu, .int .i64 n]) := by
    intro ρ' O' w' u cu n hu
    have := VRel.tuple (ρ := ρ') (O := O') (w := w') [u, .int .i64 n] [cu, .int .i64 n] rfl (by
      intro j x y hx hy
      match j with
      | 0 => simp at hx hy; subst hx; subst hy; exact hu
      | 1 => simp at hx hy; subst hx; subst hy; exact .int _ _
      | j + 2 => simp at hx)
    simpa using this
  unfold wMent at hW
  split at hW
  · rename_i b
    split at hW
    · rename_i es hb
      obtain ⟨hik, hW⟩ := hW
      cases hm with
      | mp b cb K0 hr =>
        obtain ⟨cb', K', hr', ces, g1, g2, g3⟩ := hs.blk b _ hb
        rw [hr] at hr'; injection hr' with hr'; injection hr' with e1 e2; subst e1; subst e2
        have hE : ERel ρ (Own ρ h) w es ces.toList := ⟨by simpa using g2, fun j k v hj => by
          obtain ⟨me, a1, _, a3, a4⟩ := g3 j k v hj
          exact ⟨me, by simpa using a1, a3, a4⟩⟩
        have hck := run_checkKey (w := w) hkt hk hik false
        split at hW
        · rename_i i hfi
          split at hW
          · rename_i ent he
            obtain ⟨k0, v0⟩ := ent
            obtain ⟨q, h1, me, h2, h3, h4⟩ := findKey_sound hkt hk hik hE hfi
            subst h3
            have h2' : ces[i]? = some me := by simpa using h2
            obtain ⟨me', a1, a2, a3, a4⟩ := g3 i k0 v0 he
            rw [h2'] at a1; injection a1 with a1; subst a1
            have key := map_turn hs hr hb g1 (es' := es.modify i fun e => (k, e.2)) (ces' := ces.modify i fun e => { e with key := ck }) (by simp [g2]) (modify_rel g3 (fun _ _ me _ h2 => ⟨rfl, hk, h2⟩))
            refine ⟨_, _, _, _, .tuple #[me.val, .int .i64 i], _, ?_, .inl rfl, hW, key.1, pair _ (a4.fr key.2), key.2⟩
            refine run_v ?_
            simp only [Instr.mapEntry, Sem.run_bind, run_underlying hu, Result.andThen_ok, run_getObj_map g1, hck, h1, h2', Option.map_some, Option.getD_some, keyStays h4, run_setObj_map g1, Sem.run_pure, a2, goInt]
            simp
          · exact hW.elim
        · rename_i hfi
          obtain ⟨q, h1, h2⟩ := findKey_sound hkt hk hik hE hfi
          simp only at h2; subst h2
          have key := map_turn hs hr hb g1 (es' := es ++ [(k, z)]) (ces' := ces.push { key := ck, val := cz, born := ces.size }) (by simp [g2]) (push_rel g2 g3 hk hzr)
          refine ⟨_, _, _, _, .tuple #[cz, .int .i64 es.length], _, ?_, .inl rfl, hW, key.1, pair _ (hzr.fr key.2), key.2⟩
          refine run_v ?_
          simp only [Instr.mapEntry, Sem.run_bind, run_underlying hu, Result.andThen_ok, run_getObj_map g1, hck, h1, hzrun, run_setObj_map g1, Sem.run_pure, goInt]
          simp [g2]
        · exact hW.elim
    · exact hW.elim
  · exact hW.elim

theorem ests_eff (hs : St ρ h w) {t : TypeId} {m s v : V} {cm cs cv : Value} (hm : VRel ρ (Own ρ h) w m cm) (hss : VRel ρ (Own ρ h) w s cs) (hv : VRel ρ (Own ρ h) w v cv) {K : V → Heap → Prop} (hW : wEsts m s v h K) :
    Eff P ρ h w (do Instr.entryStore t cm cs cv; pure Next.skip) K := by
  unfold wEsts at hW
  split at hW
  · rename_i b i
    split at hW
    · rename_i es hb
      obtain ⟨⟨h0, h1⟩, hK⟩ := hW
      have := vrel_int hss
      subst this
      cases hm with
      | mp b cb K0 hr =>
        obtain ⟨cb', K', hr', ces, g1, g2, g3⟩ := hs.blk b _ hb
        rw [hr] at hr'; injection hr' with hr'; injection hr' with e1 e2; subst e1; subst e2
        have hborn : ∀ j (hj : j < ces.size), ces[j].born = j := by
          intro j hj
          obtain ⟨me, a1, a2, _, _⟩ := g3 j es[j].1 es[j].2 (by rw [List.getElem?_eq_getElem (by omega)])
          rw [Array.getElem?_eq_getElem hj] at a1
          injection a1 with a1; subst a1; exact a2
        have hfind : ces.findIdx? (fun e => (e.born : Int) == i) = some i.toNat := by
          rw [Array.findIdx?_eq_some_iff_getElem]
          refine ⟨by omega, ?_, fun j hj => ?_⟩
          · rw [hborn _ (by omega)]
            simp; omega
          · rw [hborn _ (by omega)]
            simp; omega
        have key := map_turn hs hr hb g1 (es' := es.modify i.toNat fun e => (e.1, v)) (ces' := ces.modify i.toNat fun e => { e with val := cv }) (by simp [g2]) (modify_rel g3 (fun _ _ me h1 _ => ⟨rfl, h1, hv⟩))
        refine ⟨_, _, _, _, undef, _, ?_, .inr ⟨rfl, rfl⟩, hK, key.1, .undef, key.2⟩
        refine run_u ?_
        simp only [Instr.entryStore, Sem.run_bind, Result.andThen_ok, run_getObj_map g1, asInt, asIntOf, Sem.run_pure, hfind, run_setObj_map g1]
        simp
    · exact hW.elim
  · exact hW.elim

/-! ### append -/

theorem append_zero {t ty e : TypeId} {i : TypeInfo} (ht : P.underlying t = some (.slice e)) (hi : P.info? e = some i) (base A : Option Addr) (n cap c : Nat) (hn : n ≤ cap) :
    (Builtin.append_ #[t, t] ty #[.slice base n cap, .slice A 0 c]).run P w = .ok (.slice base n cap) w := by
  have hf : (Builtin.firstCells i.size 0 (.slice A 0 c)).run P w = .ok #[] w := by
    cases A with
    | none => rfl
    | some ad =>
      simp only [Builtin.firstCells, Nat.zero_mul]
      simpa using run_loadCells_list (P := P) w ad [] (by simp)
  cases base with
  | none => simp [Builtin.append_, run_underlying ht, sizeOf, typeInfo, hi, Builtin.lenOf, hn, hf]
  | some b => simp [Builtin.append_, run_underlying ht, sizeOf, typeInfo, hi, Builtin.lenOf, hn, hf, storeCells]

theorem news_one {O : Nat → Prop} {ys : List V} {vs : List Value} (hl : ys.length = vs.length) (hc : ys.all V.isCell = true) (hr : ∀ (j : Nat) (y : V) (u : Value), ys[j]? = some y → vs[j]? = some u → VRel ρ O w y u) : ∀ u ∈ vs, u.oneCell' = true := by
  intro u hu
  obtain ⟨j, hj⟩ := List.getElem?_of_mem hu
  have hlt : j < ys.length := by rw [hl]; exact (List.getElem?_eq_some_iff.1 hj).1
  exact isCell_oneCell (hr j _ u (List.getElem?_eq_getElem hlt) hj) (List.all_eq_true.1 hc _ (List.getElem_mem hlt))

theorem app_eff (hs : St ρ h w) {t ty e : TypeId} {i : TypeInfo} (ht : P.underlying t = some (.slice e)) (hi : P.info? e = some i) {z : List V} (hz : zeroOf P e = some z) (hpos : 0 < i.size) {s x : V} {cs cx : Value}
    (hsr : VRel ρ (Own ρ h) w s cs) (hx : VRel ρ (Own ρ h) w x cx) {K : V → Heap → Prop} (hW : wApp e i.size i.bytes s x h K) :
    Eff P ρ h w (do pure (Next.value (← Builtin.append_ #[t, t] ty #[cs, cx]))) K := by
  obtain ⟨i', cz, hi', hzz, hsz, hlz, hcz, hlen, hrun⟩ := zeroOf_rel (ρ := ρ) (O := Own ρ h) (w := w) hz
  rw [hi] at hi'; injection hi' with hi'; subst hi'
  unfold wApp at hW
  split at hW
  · exact hW.elim
  · rename_i ys m hys
    obtain ⟨hall, hW⟩ := hW
    obtain ⟨A, c, rfl, hmc, hcm, hyl, vs, hvl, hva, hvr⟩ := cells_sound hs hx hys
    have hone := news_one (by omega) hall hvr
    split at hW
    · -- the nil slice
      cases hsr with
      | nils =>
        split at hW
        · rename_i h0
          subst h0
          refine ⟨_, _, ρ, w, _, _, run_v (append_zero ht hi none A 0 0 c (Nat.le_refl _)), .inl rfl, hW, hs, .nils, Fr.refl _ _ _⟩
        · rename_i h0
          obtain ⟨hb1, hb2, hK⟩ := hW
          have hne : m * i.size ≠ 0 := by
            intro hh
            rcases Nat.mul_eq_zero.1 hh with hh | hh <;> omega
          obtain ⟨ad, rfl, hcell⟩ := hva hne
          obtain ⟨v', w', r1, r2, r3, r4, r5⟩ := run_append_own_at (P := P) w 0 t ty e i cz i.size i.bytes ht hi hzz rfl rfl hsz hpos (.slice none 0 0) 0 [] (World.ownsRow_nil w 0 e i.size) ad m c vs hvl hcell hone
            (by simp only [maxLen]; omega) (by simpa using hb1) (Nat.zero_le _)
          simp only [Nat.zero_add, List.nil_append] at r1 r2
          rcases r2.2 with ⟨rfl, hm0⟩ | ⟨g, cap, cur, rfl, _, hg, hmcap, hcapm, hcsz, htake⟩
          · omega
          · have hgw : g = w.heap.size := by
              rcases r5 with r5 | r5
              · simp [Value.ownBlock] at r5
              · simpa [Value.ownBlock] using r5
            subst hgw
            obtain ⟨b, hb, hhb⟩ := hs.name
            have hcurl : ∀ j : Nat, j < m * i.size → cur[j]? = vs[j]? := by
              intro j hj
              rw [← htake, List.getElem?_take, if_pos hj]; simp
            have key := hs.bind (w' := w') (cb := w.heap.size) (K := cap) (x := .cells e i.size ys) hcapm hb hhb r3.os r3.tape r3.output r3.size (Nat.le_refl _) (by
                rcases Nat.lt_or_ge w.heap.size w'.heap.size with c | c
                · exact c
                · rw [Array.getElem?_eq_none c] at hg; cases hg) (fun k hk => r3.block k hk (by simp [Value.ownBlock])) (fun f => by
              refine ⟨cur, hg, hcsz, hcapm, ?_, fun j y hy => ?_⟩
              · rw [hyl, hcsz]; exact Nat.mul_le_mul_right _ hmcap
              · have hj : j < m * i.size := by rw [← hyl]; exact (List.getElem?_eq_some_iff.1 hy).1
                have hv : vs[j]? = some vs[j] := List.getElem?_eq_getElem (by omega)
                exact ⟨List.all_eq_true.1 hall _ (List.mem_of_getElem? hy), vs[j], by rw [hcurl j hj, hv], (hvr j y _ hy hv).fr f⟩)
            refine ⟨_, _, _, w', _, _, run_v r1, .inl rfl, hK b hhb, key.1, ?_, key.2⟩
            have := VRel.sl (ρ := ren ρ b (w.heap.size, cap)) (O := Own (ren ρ b (w.heap.size, cap)) (upd h b (.cells e i.size ys))) (w := w') i.size b 0 m w.heap.size cap (ren_eq _ _ _) (by omega)
            simpa using this
    · rename_i e1 b off n cap0
      split at hW
      · rename_i e2 e3 xs hb
        obtain ⟨⟨rfl, he2, rfl, hb1, hb2⟩, hW⟩ := hW
        obtain rfl := he2.symm
        split at hW
        · -- a known capacity
          rename_i c0
          obtain ⟨⟨rfl, hle⟩, hW⟩ := hW
          cases hsr with
          | slc _ b off n c0 cb Kc hr hn hk =>
            split at hW
            · rename_i h0
              subst h0
              exact ⟨_, _, ρ, w, _, _, run_v (append_zero ht hi _ A _ _ c (Nat.le_refl _)), .inl rfl, hW, hs, .slc _ b off _ _ cb Kc hr hn hk, Fr.refl _ _ _⟩
            · rename_i h0
              have hne : m * i.size ≠ 0 := by
                intro hh
                rcases Nat.mul_eq_zero.1 hh with hh | hh <;> omega
              obtain ⟨ad, rfl, hcell⟩ := hva hne
              obtain ⟨cb', K', hr', cur, g1, g2, g3, g4, g5⟩ := hs.blk b _ hb
              rw [hr] at hr'; injection hr' with hr'; injection hr' with e1 e2; subst e1; subst e2
              have holdl : ((cur.toList.drop (off * i.size)).take (c0 * i.size)).length = c0 * i.size := by simp; omega
              have hg := run_append_grow (P := P) w t ty e i cz ht hi hzz ⟨cb, off * i.size, none⟩ c0 c0 ((cur.toList.drop (off * i.size)).take (c0 * i.size)) holdl (fun j v hj => by
                  rw [cell_at g1]
                  rw [List.getElem?_take] at hj
                  split at hj
                  · rw [List.getElem?_drop] at hj; simpa using hj
                  · cases hj) ad m c vs hvl hcell (by omega) (by omega) (by have := growslice_fits (need := c0 + m) (old := c0) (bytes := i.bytes) (by omega) hb1; omega)
              have hge := grownCap_ge w (c0 + m) c0 e
              have hcmx : grownCap w (c0 + m) c0 e ≤ maxLen := grownCap_le_maxLen w (c0 + m) c0 e (by simp only [maxLen]; omega)
              have hns := hs.same (w' := w.drew) rfl rfl rfl rfl
              generalize hcap : grownCap w (c0 + m) c0 e = cap' at *
              obtain ⟨b', ρ', hb', hr', hst, hfr⟩ := new_cells (K := cap') (esz := i.size) (w := w.drew) (e := e) (xs := (xs.drop (off * i.size)).take (c0 * i.size) ++ ys)
                (cs := ((cur.toList.drop (off * i.size)).take (c0 * i.size)).toArray ++ vs.toArray ++ Builtin.zeroCells cz.cells (cap' - (c0 + m))) hns.1 hcmx (by
                  have e1 : (Builtin.zeroCells cz.cells (cap' - (c0 + m))).size = (cap' - (c0 + m)) * i.size := by rw [size_zeroCells, hsz]
                  have e2 : c0 * i.size + m * i.size + (cap' - (c0 + m)) * i.size = cap' * i.size := by
                    rw [← Nat.add_mul, ← Nat.add_mul]; congr 1; omega
                  simp only [Array.size_append, List.size_toArray, holdl, hvl, e1, e2]) (by
                  simp only [Array.size_append, List.size_toArray, holdl, hvl, List.length_append, hyl]
                  have : ((xs.drop (off * i.size)).take (c0 * i.size)).length = c0 * i.size := by simp; omega
                  omega) (fun j y hy => by
                  have hxl : ((xs.drop (off * i.size)).take (c0 * i.size)).length = c0 * i.size := by simp; omega
                  rcases Nat.lt_or_ge j (c0 * i.size) with c1 | c1
                  · rw [List.getElem?_append_left (by omega), List.getElem?_take, if_pos c1, List.getElem?_drop] at hy
                    obtain ⟨a1, cv, a2, a3⟩ := g5 _ _ hy
                    refine ⟨a1, cv, ?_, a3.fr hns.2⟩
                    rw [Array.append_assoc, Array.getElem?_append_left (by simp only [List.size_toArray, holdl]; exact c1), List.getElem?_toArray, List.getElem?_take, if_pos c1, List.getElem?_drop]
                    simpa using a2
                  · rw [List.getElem?_append_right (by omega), hxl] at hy
                    have hj : j - c0 * i.size < m * i.size := by rw [← hyl]; exact (List.getElem?_eq_some_iff.1 hy).1
                    have hv : vs[j - c0 * i.size]? = some vs[j - c0 * i.size] := List.getElem?_eq_getElem (by omega)
                    refine ⟨List.all_eq_true.1 hall _ (List.mem_of_getElem? hy), _, ?_, (hvr _ y _ hy hv).fr hns.2⟩
                    rw [Array.append_assoc, Array.getElem?_append_right (by simp only [List.size_toArray, holdl]; exact c1), List.size_toArray, holdl, Array.getElem?_append_left (by simp only [List.size_toArray, hvl]; exact hj), List.getElem?_toArray]
                    exact hv)
              have := VRel.sl (ρ := ρ') (O := Own ρ' (upd h b' (.cells e i.size ((xs.drop (off * i.size)).take (c0 * i.size) ++ ys)))) (w := { w.drew with heap := w.drew.heap.push (.cells (((cur.toList.drop (off * i.size)).take (c0 * i.size)).toArray ++ vs.toArray ++ Builtin.zeroCells cz.cells (cap' - (c0 + m))) e) }) i.size b' 0 (c0 + m) w.heap.size cap' hr' (by omega)
              rw [Nat.zero_mul, Nat.sub_zero] at this
              exact ⟨_, _, ρ', _, _, _, run_v hg, .inl rfl, hW b' hb', hst, this, hns.2.trans hfr⟩
        · -- the tip of a block of its own
          obtain ⟨⟨rfl, hxl⟩, hK⟩ := hW
          cases hsr with
          | sl _ b _ n cb Kc hr hk =>
            obtain ⟨cb', K', hr', cur, g1, g2, g3, g4, g5⟩ := hs.blk b _ hb
            rw [hr] at hr'; injection hr' with hr'; injection hr' with e1 e2; subst e1; subst e2
            simp only [Nat.zero_mul, Nat.sub_zero, Nat.zero_add] at *
            obtain ⟨b', hb', hhb'⟩ := hs.name
            have hcur : ∀ j : Nat, j < n * i.size → ∃ x cv, xs[j]? = some x ∧ x.isCell = true ∧ cur[j]? = some cv ∧ VRel ρ (Own ρ h) w x cv := by
              intro j hj
              have hx' : xs[j]? = some xs[j] := List.getElem?_eq_getElem (by omega)
              obtain ⟨a1, cv, a2, a3⟩ := g5 _ _ hx'
              exact ⟨_, cv, hx', a1, a2, a3⟩
            by_cases h0 : m = 0
            · subst h0
              have hys0 : ys = [] := List.eq_nil_of_length_eq_zero (by simpa using hyl)
              subst hys0
              have key := hs.rename (w' := w) (b' := b') (cb' := cb) (K' := Kc) (x := .cells e i.size (xs ++ [])) (hs.cap _ _ _ hr) hr hb hb' hhb' (.inl rfl) (hs.lt _ _ _ hr) rfl rfl rfl (Nat.le_refl _) (fun k _ _ => rfl) (fun f => by
                refine ⟨cur, g1, g2, g3, by simpa using g4, fun j y hy => ?_⟩
                rw [List.append_nil] at hy
                obtain ⟨a1, cv, a2, a3⟩ := g5 _ _ hy
                exact ⟨a1, cv, a2, a3.fr f⟩)
              have := VRel.sl (ρ := ren ρ b' (cb, Kc)) (O := Own (ren ρ b' (cb, Kc)) (upd (era h b) b' (.cells e i.size (xs ++ [])))) (w := w) i.size b' 0 n cb Kc (ren_eq _ _ _) (by omega)
              exact ⟨_, _, _, w, _, _, run_v (append_zero ht hi _ A n Kc c hk), .inl rfl, hK b' hhb', key.1, by simpa using this, key.2⟩
            · have hne : m * i.size ≠ 0 := by
                intro hh
                rcases Nat.mul_eq_zero.1 hh with hh | hh <;> omega
              obtain ⟨ad, rfl, hcell⟩ := hva hne
              have hnK : n * i.size ≤ cur.size := by rw [g2]; exact Nat.mul_le_mul_right _ hk
              have hown : w.ownsRow 0 e i.size (.slice (some ⟨cb, 0, none⟩) n Kc) n (cur.toList.take (n * i.size)) :=
                ⟨by simp; omega, .inr ⟨cb, Kc, cur, rfl, Nat.zero_le _, g1, hk, g3, g2, rfl⟩⟩
              obtain ⟨v', w', r1, r2, r3, r4, r5⟩ := run_append_own_at (P := P) w 0 t ty e i cz i.size i.bytes ht hi hzz rfl rfl hsz hpos _ n _ hown ad m c vs hvl hcell hone
                (by simp only [maxLen]; omega) hb1 (Nat.zero_le _)
              rcases r2.2 with ⟨rfl, hm0⟩ | ⟨g, cap, cur', rfl, _, hg, hmcap, hcapm, hcsz, htake⟩
              · omega
              · have hgw : g = cb ∨ w.heap.size ≤ g := by
                  rcases r5 with r5 | r5
                  · simp [Value.ownBlock] at r5; exact .inl r5
                  · simp [Value.ownBlock] at r5; omega
                have hglt : g < w'.heap.size := by
                  rcases Nat.lt_or_ge g w'.heap.size with c | c
                  · exact c
                  · rw [Array.getElem?_eq_none c] at hg; cases hg
                have hnl : (cur.toList.take (n * i.size)).length = n * i.size := by simp; omega
                have hnew : ∀ j : Nat, j < (n + m) * i.size → cur'[j]? = (cur.toList.take (n * i.size) ++ vs)[j]? := by
                  intro j hj
                  rw [← htake, List.getElem?_take, if_pos hj]; simp
                have key := hs.rename (w' := w') (b' := b') (cb' := g) (K' := cap) (x := .cells e i.size (xs ++ ys)) hcapm hr hb hb' hhb' hgw hglt r3.os r3.tape r3.output r3.size (fun k hk1 hk2 => r3.block k hk1 (by simp [Value.ownBlock]; exact hk2)) (fun f => by
                  refine ⟨cur', hg, hcsz, hcapm, ?_, fun j y hy => ?_⟩
                  · rw [List.length_append, hxl, hyl, hcsz, ← Nat.add_mul]; exact Nat.mul_le_mul_right _ hmcap
                  · have hj : j < (n + m) * i.size := by
                      have := (List.getElem?_eq_some_iff.1 hy).1
                      rw [List.length_append, hxl, hyl, ← Nat.add_mul] at this; exact this
                    have hnj := hnew j hj
                    rcases Nat.lt_or_ge j (n * i.size) with c1 | c1
                    · rw [List.getElem?_append_left (by omega)] at hy hnj
                      obtain ⟨a1, cv, a2, a3⟩ := g5 _ _ hy
                      rw [List.getElem?_take, if_pos c1] at hnj
                      refine ⟨a1, cv, ?_, a3.fr f⟩
                      rw [hnj]; simpa using a2
                    · rw [List.getElem?_append_right (by omega), hxl] at hy
                      rw [List.getElem?_append_right (by omega), hnl] at hnj
                      have hjm : j - n * i.size < m * i.size := by rw [← hyl]; exact (List.getElem?_eq_some_iff.1 hy).1
                      have hv : vs[j - n * i.size]? = some vs[j - n * i.size] := List.getElem?_eq_getElem (by omega)
                      exact ⟨List.all_eq_true.1 hall _ (List.mem_of_getElem? hy), _, by rw [hnj]; exact hv, (hvr _ y _ hy hv).fr f⟩)
                have := VRel.sl (ρ := ren ρ b' (g, cap)) (O := Own (ren ρ b' (g, cap)) (upd (era h b) b' (.cells e i.size (xs ++ ys)))) (w := w') i.size b' 0 (n + m) g cap (ren_eq _ _ _) (by omega)
                exact ⟨_, _, _, w', _, _, run_v r1, .inl rfl, hK b' hhb', key.1, by simpa using this, key.2⟩
      · exact hW.elim
    · exact hW.elim

end
end Go.Abs
