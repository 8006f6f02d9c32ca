/- Maps' writes and appends. -/
import Derived.Test.YtjhdfbplkoaobaaMCalcA
set_option linter.unusedVariables false
set_option linter.unusedSimpArgs false
namespace Go.Abs

section
variable {P : Program} {ρ : Ren} {w : World} {tm : Nat → V} {a : Act} {h : Heap}

/-- A map's entries are laid anew. -/
theorem map_turn (hs : St ρ h w) {b cb K0 : Nat} (hr : ρ b = some (cb, K0)) {es es' : List (V × V)} (hb : h b = some (.map es)) {ces ces' : Array MapEntry} (g1 : w.heap[cb]? = some (.map ces ces.size))
    (hsz : ces'.size = es'.length) (hrel : ∀ (j : Nat) (k v : V), es'[j]? = some (k, v) → ∃ me : MapEntry, ces'[j]? = some me ∧ me.born = j ∧ VRel ρ (Own ρ h) w k me.key ∧ VRel ρ (Own ρ h) w v me.val) :
    St ρ (upd h b (.map es')) { w with heap := w.heap.setIfInBounds cb (.map ces' ces'.size) } ∧ Fr ρ h w ρ (upd h b (.map es')) { w with heap := w.heap.setIfInBounds cb (.map ces' ces'.size) } := by
  have hlt : cb < w.heap.size := hs.lt _ _ _ hr
  refine hs.turn (w' := { w with heap := w.heap.setIfInBounds cb (.map ces' ces'.size) }) hr hb rfl rfl rfl (by simp) (fun k hk => ?_) (fun f => ⟨ces', by simp [hlt], hsz, fun j k v hj => ?_⟩)
  · show (w.heap.setIfInBounds _ _)[k]? = _
    rw [Array.getElem?_setIfInBounds_ne (Ne.symm hk)]
  · obtain ⟨me, a1, a2, a3, a4⟩ := hrel j k v hj
    exact ⟨me, a1, a2, a3.fr f, a4.fr f⟩

theorem modify_rel {O : Nat → Prop} {es : List (V × V)} {ces : Array MapEntry} (g3 : ∀ (j : Nat) (k v : V), es[j]? = some (k, v) → ∃ me : MapEntry, ces[j]? = some me ∧ me.born = j ∧ VRel ρ O w k me.key ∧ VRel ρ O w v me.val)
    {i : Nat} {f : V × V → V × V} {g : MapEntry → MapEntry} (hfg : ∀ (k v : V) (me : MapEntry), VRel ρ O w k me.key → VRel ρ O w v me.val → (g me).born = me.born ∧ VRel ρ O w (f (k, v)).1 (g me).key ∧ VRel ρ O w (f (k, v)).2 (g me).val) :
    ∀ (j : Nat) (k v : V), (es.modify i f)[j]? = some (k, v) → ∃ me : MapEntry, (ces.modify i g)[j]? = some me ∧ me.born = j ∧ VRel ρ O w k me.key ∧ VRel ρ O w v me.val := by
  intro j k v hj
  rw [List.getElem?_modify] at hj
  rw [Array.getElem?_modify]
  by_cases e : i = j
  · subst e
    simp only [if_true] at hj ⊢
    cases he : es[i]? with
    | none => rw [he] at hj; cases hj
    | some p =>
      obtain ⟨k0, v0⟩ := p
      rw [he] at hj
      simp at hj
      obtain ⟨me, a1, a2, a3, a4⟩ := g3 i k0 v0 he
      obtain ⟨b1, b2, b3⟩ := hfg k0 v0 me a3 a4
      rw [hj] at b2 b3
      exact ⟨g me, by simp [a1], by rw [b1, a2], b2, b3⟩
  · simp only [e, if_false] at hj ⊢
    exact g3 j k v (by simpa using hj)

theorem push_rel {O : Nat → Prop} {es : List (V × V)} {ces : Array MapEntry} (g2 : ces.size = es.length) (g3 : ∀ (j : Nat) (k v : V), es[j]? = some (k, v) → ∃ me : MapEntry, ces[j]? = some me ∧ me.born = j ∧ VRel ρ O w k me.key ∧ VRel ρ O w v me.val)
    {k0 v0 : V} {ck cv : Value} (hk : VRel ρ O w k0 ck) (hv : VRel ρ O w v0 cv) :
    ∀ (j : Nat) (k v : V), (es ++ [(k0, v0)])[j]? = some (k, v) → ∃ me : MapEntry, (ces.push { key := ck, val := cv, born := ces.size })[j]? = some me ∧ me.born = j ∧ VRel ρ O w k me.key ∧ VRel ρ O w v me.val := by
  intro j k v hj
  rcases Nat.lt_or_ge j es.length with c | c
  · rw [List.getElem?_append_left c] at hj
    obtain ⟨me, a1, a2, a3, a4⟩ := g3 j k v hj
    exact ⟨me, by rw [Array.getElem?_push, if_neg (by omega)]; exact a1, a2, a3, a4⟩
  · rw [List.getElem?_append_right c] at hj
    have : j = es.length := by
      have := (List.getElem?_eq_some_iff.1 hj).1
      simp at this; omega
    subst this
    simp at hj
    obtain ⟨rfl, rfl⟩ := hj
    exact ⟨_, by rw [Array.getElem?_push, if_pos g2.symm], g2, hk, hv⟩

theorem keyStays {o n : Value} (h : Instr.sameBits 10000 o n = true) : (Instr.keyThatStays o n).run P w = .ok n w := by
  simp [Instr.keyThatStays, h]

theorem mupd_eff (hs : St ρ h w) {t kT e : TypeId} (hu : P.underlying t = some (.map kT e)) {kt : KT} (hkt : ktOf P kT = some kt) {m k v : V} {cm ck cv : Value}
    (hm : VRel ρ (Own ρ h) w m cm) (hk : VRel ρ (Own ρ h) w k ck) (hv : VRel ρ (Own ρ h) w v cv) {K : V → Heap → Prop} (hW : wMupd kt m k v h K) : Eff P ρ h w (do Instr.mapUpdate t cm ck cv; pure Next.skip) K := by
  unfold wMupd at hW
  split at hW
  · rename_i b
    split at hW
    · rename_i es hb
      split at hW
      · rename_i es' hes'
        cases hm with
        | mp b cb K0 hr =>
          obtain ⟨cb', K', hr', ces, g1, g2, g3⟩ := hs.blk b _ hb
          rw [hr] at hr'; injection hr' with hr'; injection hr' with e1 e2; subst e1; subst e2
          unfold putK at hes'
          split at hes'
          · rename_i hik
            have hE : ERel ρ (Own ρ h) w es ces.toList := ⟨by simpa using g2, fun j k v hj => by
              obtain ⟨me, a1, _, a3, a4⟩ := g3 j k v hj
              exact ⟨me, by simpa using a1, a3, a4⟩⟩
            have hck := run_checkKey (w := w) hkt hk hik false
            split at hes'
            · rename_i i hfi
              injection hes' with hes'; subst hes'
              obtain ⟨q, h1, me, h2, h3, h4⟩ := findKey_sound hkt hk hik hE hfi
              subst h3
              have h2' : ces[i]? = some me := by simpa using h2
              have key := map_turn hs hr hb g1 (es' := es.modify i fun e => (k, v)) (ces' := ces.modify i fun e => { e with key := ck, val := cv }) (by simp [g2]) (modify_rel g3 (fun _ _ me _ _ => ⟨rfl, hk, hv⟩))
              refine ⟨_, _, _, _, undef, _, ?_, .inr ⟨rfl, rfl⟩, hW, key.1, .undef, key.2⟩
              refine run_u ?_
              simp only [Instr.mapUpdate, Sem.run_bind, run_underlying hu, Result.andThen_ok, run_getObj_map g1, hck, h1, h2', Option.map_some, Option.getD_some, keyStays h4, run_setObj_map g1]
              simp
            · rename_i hfi
              injection hes' with hes'; subst hes'
              obtain ⟨q, h1, h2⟩ := findKey_sound hkt hk hik hE hfi
              simp only at h2; subst h2
              have key := map_turn hs hr hb g1 (es' := es ++ [(k, v)]) (ces' := ces.push { key := ck, val := cv, born := ces.size }) (by simp [g2]) (push_rel g2 g3 hk hv)
              refine ⟨_, _, _, _, undef, _, ?_, .inr ⟨rfl, rfl⟩, hW, key.1, .undef, key.2⟩
              refine run_u ?_
              simp only [Instr.mapUpdate, Sem.run_bind, run_underlying hu, Result.andThen_ok, run_getObj_map g1, hck, h1, run_setObj_map g1]
              simp
            · cases hes'
          · cases hes'
      · exact hW.elim
    · exact hW.elim
  · exact hW.elim

theorem ment_eff (hs : St ρ h w) {t kT e : TypeId} (hu : P.underlying t = some (.map kT e)) {kt : KT} (hkt : ktOf P kT = some kt) {z : V} (hz : zeroV P e = some z) {m k : V} {cm ck : Value}
    (hm : VRel ρ (Own ρ h) w m cm) (hk : VRel ρ (Own ρ h) w k ck) {K : V → Heap → Prop} (hW : wMent kt z m k h K) : Eff P ρ h w (do pure (Next.value (← Instr.mapEntry t cm ck))) K := by
  obtain ⟨cz, hzr, hzrun⟩ := zeroV_rel (ρ := ρ) (O := Own ρ h) (w := w) hz
  have pair : ∀ {ρ' : Ren} {O' : Nat → Prop} {w' : World} {u : V} {cu : Value} (n : Int), VRel ρ' O' w' u cu → VRel ρ' O' w' (.tuple [u, .int .i64 n]) (.tuple #[cu, .int .i64 n]) := by
    intro ρ' O' w' u cu n hu
    have := VRel.tuple (ρ := ρ') (O := O') (w := w') [u, .int .i64 n] [cu, .int .i64 n] rfl (by
      intro j x y hx hy
      match j with
      | 0 => simp at hx hy; subst hx; subst hy; exact hu
      | 1 => simp at hx hy; subst hx; subst hy; exact .int _ _
      | j + 2 => simp at hx)
    simpa using this
  unfold wMent at hW
  split at hW
  · rename_i b
    split at hW
    · rename_i es hb
      obtain ⟨hik, hW⟩ := hW
      cases hm with
      | mp b cb K0 hr =>
        obtain ⟨cb', K', hr', ces, g1, g2, g3⟩ := hs.blk b _ hb
        rw [hr] at hr'; injection hr' with hr'; injection hr' with e1 e2; subst e1; subst e2
        have hE : ERel ρ (Own ρ h) w es ces.toList := ⟨by simpa using g2, fun j k v hj => by
          obtain ⟨me, a1, _, a3, a4⟩ := g3 j k v hj
          exact ⟨me, by simpa using a1, a3, a4⟩⟩
        have hck := run_checkKey (w := w) hkt hk hik false
        split at hW
        · rename_i i hfi
          split at hW
          · rename_i ent he
            obtain ⟨k0, v0⟩ := ent
            obtain ⟨q, h1, me, h2, h3, h4⟩ := findKey_sound hkt hk hik hE hfi
            subst h3
            have h2' : ces[i]? = some me := by simpa using h2
            obtain ⟨me', a1, a2, a3, a4⟩ := g3 i k0 v0 he
            rw [h2'] at a1; injection a1 with a1; subst a1
            have key := map_turn hs hr hb g1 (es' := es.modify i fun e => (k, e.2)) (ces' := ces.modify i fun e => { e with key := ck }) (by simp [g2]) (modify_rel g3 (fun _ _ me _ h2 => ⟨rfl, hk, h2⟩))
            refine ⟨_, _, _, _, .tuple #[me.val, .int .i64 i], _, ?_, .inl rfl, hW, key.1, pair _ (a4.fr key.2), key.2⟩
            refine run_v ?_
            simp only [Instr.mapEntry, Sem.run_bind, run_underlying hu, Result.andThen_ok, run_getObj_map g1, hck, h1, h2', Option.map_some, Option.getD_some, keyStays h4, run_setObj_map g1, Sem.run_pure, a2, goInt]
            simp
          · exact hW.elim
        · rename_i hfi
          obtain ⟨q, h1, h2⟩ := findKey_sound hkt hk hik hE hfi
          simp only at h2; subst h2
          have key := map_turn hs hr hb g1 (es' := es ++ [(k, z)]) (ces' := ces.push { key := ck, val := cz, born := ces.size }) (by simp [g2]) (push_rel g2 g3 hk hzr)
          refine ⟨_, _, _, _, .tuple #[cz, .int .i64 es.length], _, ?_, .inl rfl, hW, key.1, pair _ (hzr.fr key.2), key.2⟩
          refine run_v ?_
          simp only [Instr.mapEntry, Sem.run_bind, run_underlying hu, Result.andThen_ok, run_getObj_map g1, hck, h1, hzrun, run_setObj_map g1, Sem.run_pure, goInt]
          simp [g2]
        · exact hW.elim
    · exact hW.elim
  · exact hW.elim

theorem ests_eff (hs : St ρ h w) {t : TypeId} {m s v : V} {cm cs cv : Value} (hm : VRel ρ (Own ρ h) w m cm) (hss : VRel ρ (Own ρ h) w s cs) (hv : VRel ρ (Own ρ h) w v cv) {K : V → Heap → Prop} (hW : wEsts m s v h K) :
    Eff P ρ h w (do Instr.entryStore t cm cs cv; pure Next.skip) K := by
  unfold wEsts at hW
  split at hW
  · rename_i b i
    split at hW
    · rename_i es hb
      obtain ⟨⟨h0, h1⟩, hK⟩ := hW
      have := vrel_int hss
      subst this
      cases hm with
      | mp b cb K0 hr =>
        obtain ⟨cb', K', hr', ces, g1, g2, g3⟩ := hs.blk b _ hb
        rw [hr] at hr'; injection hr' with hr'; injection hr' with e1 e2; subst e1; subst e2
        have hborn : ∀ j (hj : j < ces.size), ces[j].born = j := by
          intro j hj
          obtain ⟨me, a1, a2, _, _⟩ := g3 j es[j].1 es[j].2 (by rw [List.getElem?_eq_getElem (by omega)])
          rw [Array.getElem?_eq_getElem hj] at a1
          injection a1 with a1; subst a1; exact a2
        have hfind : ces.findIdx? (fun e => (e.born : Int) == i) = some i.toNat := by
          rw [Array.findIdx?_eq_some_iff_getElem]
          refine ⟨by omega, ?_, fun j hj => ?_⟩
          · rw [hborn _ (by omega)]
            simp; omega
          · rw [hborn _ (by omega)]
            simp; omega
        have key := map_turn hs hr hb g1 (es' := es.modify i.toNat fun e => (e.1, v)) (ces' := ces.modify i.toNat fun e => { e with val := cv }) (by simp [g2]) (modify_rel g3 (fun _ _ me h1 _ => ⟨rfl, h1, hv⟩))
        refine ⟨_, _, _, _, undef, _, ?_, .inr ⟨rfl, rfl⟩, hK, key.1, .undef, key.2⟩
        refine run_u ?_
        simp only [Instr.entryStore, Sem.run_bind, Result.andThen_ok, run_getObj_map g1, asInt, asIntOf, Sem.run_pure, hfind, run_setObj_map g1]
        simp
    · exact hW.elim
  · exact hW.elim

/-! ### append -/

theorem append_zero {t ty e : TypeId} {i : TypeInfo} (ht : P.underlying t = some (.slice e)) (hi : P.info? e = some i) (base A : Option Addr) (n cap c : Nat) (hn : n ≤ cap) :
    (Builtin.append_ #[t, t] ty #[.slice base n cap, .slice A 0 c]).run P w = .ok (.slice base n cap) w := by
  have hf : (Builtin.firstCells i.size 0 (.slice A 0 c)).run P w = .ok #[] w := by
    cases A with
    | none => rfl
    | some ad =>
      simp only [Builtin.firstCells, Nat.zero_mul]
      simpa using run_loadCells_list (P := P) w ad [] (by simp)
  cases base with
  | none => simp [Builtin.append_, run_underlying ht, sizeOf, typeInfo, hi, Builtin.lenOf, hn, hf]
  | some b => simp [Builtin.append_, run_underlying ht, sizeOf, typeInfo, hi, Builtin.lenOf, hn, hf, storeCells]

theorem news_one {O : Nat → Prop} {ys : List V} {vs : List Value} (hl : ys.length = vs.length) (hc : ys.all V.isCell = true) (hr : ∀ (j : Nat) (y : V) (u : Value), ys[j]? = some y → vs[j]? = some u → VRel ρ O w y u) : ∀ u ∈ vs, u.oneCell' = true := by
  intro u hu
  obtain ⟨j, hj⟩ := List.getElem?_of_mem hu
  have hlt : j < ys.length := by rw [hl]; exact (List.getElem?_eq_some_iff.1 hj).1
  exact isCell_oneCell (hr j _ u (List.getElem?_eq_getElem hlt) hj) (List.all_eq_true.1 hc _ (List.getElem_mem hlt))

theorem app_eff (hs : St ρ h w) {t ty e : TypeId} {i : TypeInfo} (ht : P.underlying t = some (.slice e)) (hi : P.info? e = some i) {z : List V} (hz : zeroOf P e = some z) (hpos : 0 < i.size) {s x : V} {cs cx : Value}
    (hsr : VRel ρ (Own ρ h) w s cs) (hx : VRel ρ (Own ρ h) w x cx) {K : V → Heap → Prop} (hW : wApp e i.size i.bytes s x h K) :
    Eff P ρ h w (do pure (Next.value (← Builtin.append_ #[t, t] ty #[cs, cx]))) K := by
  obtain ⟨i', cz, hi', hzz, hsz, hlz, hcz, hlen, hrun⟩ := zeroOf_rel (ρ := ρ) (O := Own ρ h) (w := w) hz
  rw [hi] at hi'; injection hi' with hi'; subst hi'
  unfold wApp at hW
  split at hW
  · exact hW.elim
  · rename_i ys m hys
    obtain ⟨hall, hW⟩ := hW
    obtain ⟨A, c, rfl, hmc, hcm, hyl, vs, hvl, hva, hvr⟩ := cells_sound hs hx hys
    have hone := news_one (by omega) hall hvr
    split at hW
    · -- the nil slice
      cases hsr with
      | nils =>
        split at hW
        · rename_i h0
          subst h0
          refine ⟨_, _, ρ, w, _, _, run_v (append_zero ht hi none A 0 0 c (Nat.le_refl _)), .inl rfl, hW, hs, .nils, Fr.refl _ _ _⟩
        · rename_i h0
          obtain ⟨hb1, hb2, hK⟩ := hW
          have hne : m * i.size ≠ 0 := by
            intro hh
            rcases Nat.mul_eq_zero.1 hh with hh | hh <;> omega
          obtain ⟨ad, rfl, hcell⟩ := hva hne
          obtain ⟨v', w', r1, r2, r3, r4, r5⟩ := run_append_own_at (P := P) w 0 t ty e i cz i.size i.bytes ht hi hzz rfl rfl hsz hpos (.slice none 0 0) 0 [] (World.ownsRow_nil w 0 e i.size) ad m c vs hvl hcell hone
            (by simp only [maxLen]; omega) (by simpa using hb1) (Nat.zero_le _)
          simp only [Nat.zero_add, List.nil_append] at r1 r2
          rcases r2.2 with ⟨rfl, hm0⟩ | ⟨g, cap, cur, rfl, _, hg, hmcap, hcapm, hcsz, htake⟩
          · omega
          · have hgw : g = w.heap.size := by
              rcases r5 with r5 | r5
              · simp [Value.ownBlock] at r5
              · simpa [Value.ownBlock] using r5
            subst hgw
            obtain ⟨b, hb, hhb⟩ := hs.name
            have hcurl : ∀ j : Nat, j < m * i.size → cur[j]? = vs[j]? := by
              intro j hj
              rw [← htake, List.getElem?_take, if_pos hj]; simp
            have key := hs.bind (w' := w') (cb := w.heap.size) (K := cap) (x := .cells e i.size ys) hcapm hb hhb r3.os r3.tape r3.output r3.size (Nat.le_refl _) (by
                rcases Nat.lt_or_ge w.heap.size w'.heap.size with c | c
                · exact c
                · rw [Array.getElem?_eq_none c] at hg; cases hg) (fun k hk => r3.block k hk (by simp [Value.ownBlock])) (fun f => by
              refine ⟨cur, hg, hcsz, hcapm, ?_, fun j y hy => ?_⟩
              · rw [hyl, hcsz]; exact Nat.mul_le_mul_right _ hmcap
              · have hj : j < m * i.size := by rw [← hyl]; exact (List.getElem?_eq_some_iff.1 hy).1
                have hv : vs[j]? = some vs[j] := List.getElem?_eq_getElem (by omega)
                exact ⟨List.all_eq_true.1 hall _ (List.mem_of_getElem? hy), vs[j], by rw [hcurl j hj, hv], (hvr j y _ hy hv).fr f⟩)
            refine ⟨_, _, _, w', _, _, run_v r1, .inl rfl, hK b hhb, key.1, ?_, key.2⟩
            have := VRel.sl (ρ := ren ρ b (w.heap.size, cap)) (O := Own (ren ρ b (w.heap.size, cap)) (upd h b (.cells e i.size ys))) (w := w') i.size b 0 m w.heap.size cap (ren_eq _ _ _) (by omega)
            simpa using this
    · rename_i e1 b off n cap0
      split at hW
      · rename_i e2 e3 xs hb
        obtain ⟨⟨rfl, he2, rfl, hb1, hb2⟩, hW⟩ := hW
        obtain rfl := he2.symm
        split at hW
        · -- a known capacity
          rename_i c0
          obtain ⟨⟨rfl, hle⟩, hW⟩ := hW
          cases hsr with
          | slc _ b off n c0 cb Kc hr hn hk =>
            split at hW
            · rename_i h0
              subst h0
              exact ⟨_, _, ρ, w, _, _, run_v (append_zero ht hi _ A _ _ c (Nat.le_refl _)), .inl rfl, hW, hs, .slc _ b off _ _ cb Kc hr hn hk, Fr.refl _ _ _⟩
            · rename_i h0
              have hne : m * i.size ≠ 0 := by
                intro hh
                rcases Nat.mul_eq_zero.1 hh with hh | hh <;> omega
              obtain ⟨ad, rfl, hcell⟩ := hva hne
              obtain ⟨cb', K', hr', cur, g1, g2, g3, g4, g5⟩ := hs.blk b _ hb
              rw [hr] at hr'; injection hr' with hr'; injection hr' with e1 e2; subst e1; subst e2
              have holdl : ((cur.toList.drop (off * i.size)).take (c0 * i.size)).length = c0 * i.size := by simp; omega
              have hg := run_append_grow (P := P) w t ty e i cz ht hi hzz ⟨cb, off * i.size, none⟩ c0 c0 ((cur.toList.drop (off * i.size)).take (c0 * i.size)) holdl (fun j v hj => by
                  rw [cell_at g1]
                  rw [List.getElem?_take] at hj
                  split at hj
                  · rw [List.getElem?_drop] at hj; simpa using hj
                  · cases hj) ad m c vs hvl hcell (by omega) (by omega) (by have := growslice_fits (need := c0 + m) (old := c0) (bytes := i.bytes) (by omega) hb1; omega)
              have hge := grownCap_ge w (c0 + m) c0 e
              have hcmx : grownCap w (c0 + m) c0 e ≤ maxLen := grownCap_le_maxLen w (c0 + m) c0 e (by simp only [maxLen]; omega)
              have hns := hs.same (w' := w.drew) rfl rfl rfl rfl
              generalize hcap : grownCap w (c0 + m) c0 e = cap' at *
              obtain ⟨b', ρ', hb', hr', hst, hfr⟩ := new_cells (K := cap') (esz := i.size) (w := w.drew) (e := e) (xs := (xs.drop (off * i.size)).take (c0 * i.size) ++ ys)
                (cs := ((cur.toList.drop (off * i.size)).take (c0 * i.size)).toArray ++ vs.toArray ++ Builtin.zeroCells cz.cells (cap' - (c0 + m))) hns.1 hcmx (by
                  have e1 : (Builtin.zeroCells cz.cells (cap' - (c0 + m))).size = (cap' - (c0 + m)) * i.size := by rw [size_zeroCells, hsz]
                  have e2 : c0 * i.size + m * i.size + (cap' - (c0 + m)) * i.size = cap' * i.size := by
                    rw [← Nat.add_mul, ← Nat.add_mul]; congr 1; omega
                  simp only [Array.size_append, List.size_toArray, holdl, hvl, e1, e2]) (by
                  simp only [Array.size_append, List.size_toArray, holdl, hvl, List.length_append, hyl]
                  have : ((xs.drop (off * i.size)).take (c0 * i.size)).length = c0 * i.size := by simp; omega
                  omega) (fun j y hy => by
                  have hxl : ((xs.drop (off * i.size)).take (c0 * i.size)).length = c0 * i.size := by simp; omega
                  rcases Nat.lt_or_ge j (c0 * i.size) with c1 | c1
                  · rw [List.getElem?_append_left (by omega), List.getElem?_take, if_pos c1, List.getElem?_drop] at hy
                    obtain ⟨a1, cv, a2, a3⟩ := g5 _ _ hy
                    refine ⟨a1, cv, ?_, a3.fr hns.2⟩
                    rw [Array.append_assoc, Array.getElem?_append_left (by simp only [List.size_toArray, holdl]; exact c1), List.getElem?_toArray, List.getElem?_take, if_pos c1, List.getElem?_drop]
                    simpa using a2
                  · rw [List.getElem?_append_right (by omega), hxl] at hy
                    have hj : j - c0 * i.size < m * i.size := by rw [← hyl]; exact (List.getElem?_eq_some_iff.1 hy).1
                    have hv : vs[j - c0 * i.size]? = some vs[j - c0 * i.size] := List.getElem?_eq_getElem (by omega)
                    refine ⟨List.all_eq_true.1 hall _ (List.mem_of_getElem? hy), _, ?_, (hvr _ y _ hy hv).fr hns.2⟩
                    rw [Array.append_assoc, Array.getElem?_append_right (by simp only [List.size_toArray, holdl]; exact c1), List.size_toArray, holdl, Array.getElem?_append_left (by simp only [List.size_toArray, hvl]; exact hj), List.getElem?_toArray]
                    exact hv)
              have := VRel.sl (ρ := ρ') (O := Own ρ' (upd h b' (.cells e i.size ((xs.drop (off * i.size)).take (c0 * i.size) ++ ys)))) (w := { w.drew with heap := w.drew.heap.push (.cells (((cur.toList.drop (off * i.size)).take (c0 * i.size)).toArray ++ vs.toArray ++ Builtin.zeroCells cz.cells (cap' - (c0 + m))) e) }) i.size b' 0 (c0 + m) w.heap.size cap' hr' (by omega)
              rw [Nat.zero_mul, Nat.sub_zero] at this
              exact ⟨_, _, ρ', _, _, _, run_v hg, .inl rfl, hW b' hb', hst, this, hns.2.trans hfr⟩
        · -- the tip of a block of its own
          obtain ⟨⟨rfl, hxl⟩, hK⟩ := hW
          cases hsr with
          | sl _ b _ n cb Kc hr hk =>
            obtain ⟨cb', K', hr', cur, g1, g2, g3, g4, g5⟩ := hs.blk b _ hb
            rw [hr] at hr'; injection hr' with hr'; injection hr' with e1 e2; subst e1; subst e2
            simp only [Nat.zero_mul, Nat.sub_zero, Nat.zero_add] at *
            obtain ⟨b', hb', hhb'⟩ := hs.name
            have hcur : ∀ j : Nat, j < n * i.size → ∃ x cv, xs[j]? = some x ∧ x.isCell = true ∧ cur[j]? = some cv ∧ VRel ρ (Own ρ h) w x cv := by
              intro j hj
              have hx' : xs[j]? = some xs[j] := List.getElem?_eq_getElem (by omega)
              obtain ⟨a1, cv, a2, a3⟩ := g5 _ _ hx'
              exact ⟨_, cv, hx', a1, a2, a3⟩
            by_cases h0 : m = 0
            · subst h0
              have hys0 : ys = [] := List.eq_nil_of_length_eq_zero (by simpa using hyl)
              subst hys0
              have key := hs.rename (w' := w) (b' := b') (cb' := cb) (K' := Kc) (x := .cells e i.size (xs ++ [])) (hs.cap _ _ _ hr) hr hb hb' hhb' (.inl rfl) (hs.lt _ _ _ hr) rfl rfl rfl (Nat.le_refl _) (fun k _ _ => rfl) (fun f => by
                refine ⟨cur, g1, g2, g3, by simpa using g4, fun j y hy => ?_⟩
                rw [List.append_nil] at hy
                obtain ⟨a1, cv, a2, a3⟩ := g5 _ _ hy
                exact ⟨a1, cv, a2, a3.fr f⟩)
              have := VRel.sl (ρ := ren ρ b' (cb, Kc)) (O := Own (ren ρ b' (cb, Kc)) (upd (era h b) b' (.cells e i.size (xs ++ [])))) (w := w) i.size b' 0 n cb Kc (ren_eq _ _ _) (by omega)
              exact ⟨_, _, _, w, _, _, run_v (append_zero ht hi _ A n Kc c hk), .inl rfl, hK b' hhb', key.1, by simpa using this, key.2⟩
            · have hne : m * i.size ≠ 0 := by
                intro hh
                rcases Nat.mul_eq_zero.1 hh with hh | hh <;> omega
              obtain ⟨ad, rfl, hcell⟩ := hva hne
              have hnK : n * i.size ≤ cur.size := by rw [g2]; exact Nat.mul_le_mul_right _ hk
              have hown : w.ownsRow 0 e i.size (.slice (some ⟨cb, 0, none⟩) n Kc) n (cur.toList.take (n * i.size)) :=
                ⟨by simp; omega, .inr ⟨cb, Kc, cur, rfl, Nat.zero_le _, g1, hk, g3, g2, rfl⟩⟩
              obtain ⟨v', w', r1, r2, r3, r4, r5⟩ := run_append_own_at (P := P) w 0 t ty e i cz i.size i.bytes ht hi hzz rfl rfl hsz hpos _ n _ hown ad m c vs hvl hcell hone
                (by simp only [maxLen]; omega) hb1 (Nat.zero_le _)
              rcases r2.2 with ⟨rfl, hm0⟩ | ⟨g, cap, cur', rfl, _, hg, hmcap, hcapm, hcsz, htake⟩
              · omega
              · have hgw : g = cb ∨ w.heap.size ≤ g := by
                  rcases r5 with r5 | r5
                  · simp [Value.ownBlock] at r5; exact .inl r5
                  · simp [Value.ownBlock] at r5; omega
                have hglt : g < w'.heap.size := by
                  rcases Nat.lt_or_ge g w'.heap.size with c | c
                  · exact c
                  · rw [Array.getElem?_eq_none c] at hg; cases hg
                have hnl : (cur.toList.take (n * i.size)).length = n * i.size := by simp; omega
                have hnew : ∀ j : Nat, j < (n + m) * i.size → cur'[j]? = (cur.toList.take (n * i.size) ++ vs)[j]? := by
                  intro j hj
                  rw [← htake, List.getElem?_take, if_pos hj]; simp
                have key := hs.rename (w' := w') (b' := b') (cb' := g) (K' := cap) (x := .cells e i.size (xs ++ ys)) hcapm hr hb hb' hhb' hgw hglt r3.os r3.tape r3.output r3.size (fun k hk1 hk2 => r3.block k hk1 (by simp [Value.ownBlock]; exact hk2)) (fun f => by
                  refine ⟨cur', hg, hcsz, hcapm, ?_, fun j y hy => ?_⟩
                  · rw [List.length_append, hxl, hyl, hcsz, ← Nat.add_mul]; exact Nat.mul_le_mul_right _ hmcap
                  · have hj : j < (n + m) * i.size := by
                      have := (List.getElem?_eq_some_iff.1 hy).1
                      rw [List.length_append, hxl, hyl, ← Nat.add_mul] at this; exact this
                    have hnj := hnew j hj
                    rcases Nat.lt_or_ge j (n * i.size) with c1 | c1
                    · rw [List.getElem?_append_left (by omega)] at hy hnj
                      obtain ⟨a1, cv, a2, a3⟩ := g5 _ _ hy
                      rw [List.getElem?_take, if_pos c1] at hnj
                      refine ⟨a1, cv, ?_, a3.fr f⟩
                      rw [hnj]; simpa using a2
                    · rw [List.getElem?_append_right (by omega), hxl] at hy
                      rw [List.getElem?_append_right (by omega), hnl] at hnj
                      have hjm : j - n * i.size < m * i.size := by rw [← hyl]; exact (List.getElem?_eq_some_iff.1 hy).1
                      have hv : vs[j - n * i.size]? = some vs[j - n * i.size] := List.getElem?_eq_getElem (by omega)
                      exact ⟨List.all_eq_true.1 hall _ (List.mem_of_getElem? hy), _, by rw [hnj]; exact hv, (hvr _ y _ hy hv).fr f⟩)
                have := VRel.sl (ρ := ren ρ b' (g, cap)) (O := Own (ren ρ b' (g, cap)) (upd (era h b) b' (.cells e i.size (xs ++ ys)))) (w := w') i.size b' 0 (n + m) g cap (ren_eq _ _ _) (by omega)
                exact ⟨_, _, _, w', _, _, run_v r1, .inl rfl, hK b' hhb', key.1, by simpa using this, key.2⟩
      · exact hW.elim
    · exact hW.elim

end
end Go.Abs

/- Regions whose order is open: the plan's tree covers every order. All on the abstract side. -/
namespace Go.Abs

def Sub (h h' : Heap) : Prop := ∀ b x, h b = some x → h' b = some x
theorem Sub.refl (h : Heap) : Sub h h := fun _ _ hx => hx

/-- What a quiet function's meaning has to be. -/
def QMono (qf : FuncId → List V → Heap → Option V) : Prop := ∀ f args h h' v, Sub h h' → qf f args h = some v → qf f args h' = some v

section
variable {qf : FuncId → List V → Heap → Option V}

theorem cellsOf_mono {h h' : Heap} (hs : Sub h h') {esz : Nat} {x : V} {r : List V × Nat} (hr : cellsOf h esz x = some r) : cellsOf h' esz x = some r := by
  unfold cellsOf at hr ⊢
  split at hr <;> first
    | exact hr
    | skip
  · rename_i e b off n cap
    split at hr
    · rename_i he
      rw [if_pos he]
      split at hr
      · rename_i ty e' xs hb
        rw [hs _ _ hb]
        exact hr
      · cases hr
    · cases hr

theorem apure_mono (hq : QMono qf) {o : AOp} {tm : Nat → V} {h h' : Heap} (hs : Sub h h') {v : V} (hv : apure qf o tm h = some v) : apure qf o tm h' = some v := by
  cases o <;> simp only [apure] at hv ⊢ <;> first
    | exact hv
    | skip
  · unfold aLoad at hv ⊢
    split at hv
    · split at hv
      · rename_i b off _ e esz xs hb
        simp only [hs _ _ hb]
        exact hv
      · cases hv
    · exact hv
    · cases hv
  · unfold aCstr at hv ⊢
    split at hv
    · rename_i cs n hc
      rw [cellsOf_mono hs hc]
      exact hv
    · cases hv
  · unfold aLook at hv ⊢
    split at hv
    · exact hv
    · split at hv
      · rename_i b _ es hb
        simp only [hs _ _ hb]
        exact hv
      · cases hv
    · cases hv
  · exact hq _ _ _ _ _ hs hv

/-- An operation of kind 0 doesn't ask the heap. -/
theorem apure_still {o : AOp} (hk : o.kind = 0) {tm : Nat → V} (h h' : Heap) : apure qf o tm h = apure qf o tm h' := by
  cases o <;> first | rfl | cases hk

def Agree (tm tm' : Nat → V) (l : List Nat) : Prop := ∀ t, t ∈ l → tm t = tm' t

theorem ev_congr {tm tm' : Nat → V} {x : Opnd} (h : Agree tm tm' x.tmps) : x.ev tm = x.ev tm' := by
  cases x with
  | t n => exact h n (by simp [Opnd.tmps])
  | c v => rfl

theorem evo_congr {tm tm' : Nat → V} {x : Option Opnd} (h : Agree tm tm' (optTmps x)) : evo tm x = evo tm' x := by
  cases x with
  | none => rfl
  | some x => simp only [evo]; rw [ev_congr h]

theorem Agree.left {tm tm' : Nat → V} {l r : List Nat} (h : Agree tm tm' (l ++ r)) : Agree tm tm' l := fun t ht => h t (List.mem_append_left _ ht)
theorem Agree.right {tm tm' : Nat → V} {l r : List Nat} (h : Agree tm tm' (l ++ r)) : Agree tm tm' r := fun t ht => h t (List.mem_append_right _ ht)

theorem fillB_congr {tm tm' : Nat → V} : ∀ {ps : List (Nat × Nat × Opnd)} {cs : List V}, Agree tm tm' (ps.flatMap fun p => p.2.2.tmps) → fillB tm cs ps = fillB tm' cs ps
  | [], cs, h => rfl
  | (o, s, x) :: ps, cs, h => by
    rw [List.flatMap_cons] at h
    simp only [fillB, ev_congr h.left, fillB_congr (ps := ps) h.right]

theorem fillS_congr {tm tm' : Nat → V} {esz : Nat} : ∀ {ps : List (Nat × Opnd)} {cs : List V}, Agree tm tm' (ps.flatMap fun p => p.2.tmps) → fillS tm esz cs ps = fillS tm' esz cs ps
  | [], cs, h => rfl
  | (i, x) :: ps, cs, h => by
    rw [List.flatMap_cons] at h
    simp only [fillS, ev_congr h.left, fillS_congr (ps := ps) h.right]

theorem args_congr {tm tm' : Nat → V} : ∀ {xs : List Opnd}, Agree tm tm' (xs.flatMap Opnd.tmps) → xs.map (·.ev tm) = xs.map (·.ev tm')
  | [], h => rfl
  | x :: xs, h => by
    rw [List.flatMap_cons] at h
    simp only [List.map_cons, ev_congr h.left, args_congr (xs := xs) h.right]

theorem apure_congr {o : AOp} {tm tm' : Nat → V} (h : Heap) (ha : Agree tm tm' o.tmps) : apure qf o tm h = apure qf o tm' h := by
  cases o <;> simp only [apure, AOp.tmps] at ha ⊢ <;> first
    | rfl
    | rw [ev_congr ha]
    | rw [ev_congr ha.left, ev_congr ha.right]
    | rw [ev_congr ha.left.left, ev_congr ha.left.right, ev_congr ha.right]
    | rw [fillB_congr ha]
    | rw [args_congr ha]
    | rw [ev_congr ha.left.left.left, evo_congr ha.left.left.right, evo_congr ha.left.right, evo_congr ha.right]
    | rw [ev_congr ha.left.left, evo_congr ha.left.right, evo_congr ha.right]

theorem Wop_congr {C : FuncId → List V → Heap → (V → Heap → Prop) → Prop} {o : AOp} {tm tm' : Nat → V} {h : Heap} {K : V → Heap → Prop} (ha : Agree tm tm' o.tmps) (hw : Wop qf C o tm h K) : Wop qf C o tm' h K := by
  have hp := apure_congr (qf := qf) h ha
  cases o <;> simp only [Wop, AOp.tmps] at ha hw ⊢ <;> first
    | exact hw
    | (rw [← hp]; exact hw)
    | (rw [← ev_congr ha]; exact hw)
    | (rw [← ev_congr ha.left, ← ev_congr ha.right]; exact hw)
    | (rw [← ev_congr ha.left.left, ← ev_congr ha.left.right, ← ev_congr ha.right]; exact hw)
    | (rw [← fillS_congr ha]; exact hw)
    | (rw [← args_congr ha]; exact hw)

/-- The contracts' own law: a weaker question. -/
def CMono (C : FuncId → List V → Heap → (V → Heap → Prop) → Prop) : Prop := ∀ f args h (K K' : V → Heap → Prop), (∀ v h', K v h' → K' v h') → C f args h K → C f args h K'

theorem Wop_mono {C : FuncId → List V → Heap → (V → Heap → Prop) → Prop} (hC : CMono C) {o : AOp} {tm : Nat → V} {h : Heap} {K K' : V → Heap → Prop} (hK : ∀ v h', K v h' → K' v h') (hw : Wop qf C o tm h K) : Wop qf C o tm h K' := by
  cases o <;> simp only [Wop] at hw ⊢ <;> first
    | exact fun b hb => hK _ _ (hw b hb)
    | exact ⟨hw.1, fun b hb => hK _ _ (hw.2 b hb)⟩
    | exact hC _ _ _ _ _ hK hw
    | (split at hw
       · exact hK _ _ hw
       · exact hw.elim)
    | skip
  · exact ⟨hw.1, hK _ _ hw.2⟩
  · unfold wBuildS at hw ⊢
    split at hw
    · exact fun b hb => hK _ _ (hw b hb)
    · exact hw.elim
  · unfold wBuildSp at hw ⊢
    split at hw
    · exact ⟨hw.1, hK _ _ hw.2⟩
    · exact hw.elim
  · unfold wStore at hw ⊢
    split at hw
    · split at hw
      · exact ⟨hw.1, hK _ _ hw.2⟩
      · exact hw.elim
    · exact hw.elim
  · unfold wMkS at hw ⊢
    split at hw
    · exact ⟨hw.1, fun b hb => hK _ _ (hw.2 b hb)⟩
    · exact hw.elim
  · unfold wMupd at hw ⊢
    split at hw
    · split at hw
      · split at hw
        · exact hK _ _ hw
        · exact hw.elim
      · exact hw.elim
    · exact hw.elim
  · unfold wMent at hw ⊢
    split at hw
    · split at hw
      · refine ⟨hw.1, ?_⟩
        have hw := hw.2
        split at hw
        · split at hw
          · exact hK _ _ hw
          · exact hw.elim
        · exact hK _ _ hw
        · exact hw.elim
      · exact hw.elim
    · exact hw.elim
  · unfold wEsts at hw ⊢
    split at hw
    · split at hw
      · exact ⟨hw.1, hK _ _ hw.2⟩
      · exact hw.elim
    · exact hw.elim
  · unfold wApp at hw ⊢
    split at hw
    · exact hw.elim
    · refine ⟨hw.1, ?_⟩
      have hw := hw.2
      split at hw
      · split at hw
        · rename_i c; rw [if_pos c]; exact hK _ _ hw
        · rename_i c; rw [if_neg c]; exact ⟨hw.1, hw.2.1, fun b hb => hK _ _ (hw.2.2 b hb)⟩
      · split at hw
        · refine ⟨hw.1, ?_⟩
          have hw := hw.2
          split at hw
          · refine ⟨hw.1, ?_⟩
            have hw := hw.2
            split at hw
            · rename_i c; rw [if_pos c]; exact hK _ _ hw
            · rename_i c; rw [if_neg c]; exact fun b hb => hK _ _ (hw b hb)
          · exact ⟨hw.1, fun b hb => hK _ _ (hw.2 b hb)⟩
        · exact hw.elim
      · exact hw.elim

theorem sub_upd {h : Heap} {b : Nat} (hb : h b = none) (x : Blk) : Sub h (upd h b x) := by
  intro c y hc
  have : c ≠ b := by rintro rfl; rw [hb] at hc; cases hc
  rw [upd_ne _ _ _ _ this]; exact hc

/-- An operation that only reads or makes new blocks. -/
theorem Wop_sub {C : FuncId → List V → Heap → (V → Heap → Prop) → Prop} {o : AOp} (hk : o.kind < 3) {tm : Nat → V} {h : Heap} {K : V → Heap → Prop} (hw : Wop qf C o tm h K) : Wop qf C o tm h (fun v h' => K v h' ∧ Sub h h') := by
  cases o <;> simp only [Wop] at hw ⊢ <;> first
    | (simp [AOp.kind] at hk; done)
    | exact fun b hb => ⟨hw b hb, sub_upd hb _⟩
    | exact ⟨hw.1, fun b hb => ⟨hw.2 b hb, sub_upd hb _⟩⟩
    | (split at hw
       · exact ⟨hw, Sub.refl _⟩
       · exact hw.elim)
    | skip
  · exact ⟨hw.1, hw.2, Sub.refl _⟩
  · unfold wBuildS at hw ⊢
    split at hw
    · exact fun b hb => ⟨hw b hb, sub_upd hb _⟩
    · exact hw.elim
  · unfold wBuildSp at hw ⊢
    split at hw
    · exact ⟨hw.1, hw.2, Sub.refl _⟩
    · exact hw.elim
  · unfold wMkS at hw ⊢
    split at hw
    · exact ⟨hw.1, fun b hb => ⟨hw.2 b hb, sub_upd hb _⟩⟩
    · exact hw.elim

/-- The value of an operation of kind 0 or 1 with its guard. -/
def pv (qf : FuncId → List V → Heap → Option V) (x : AOper) (tm : Nat → V) (h : Heap) : Option V :=
  match x.guard with
  | none => apure qf x.op tm h
  | some (t, want) =>
    match tm t with
    | .bool b => if b = want then apure qf x.op tm h else some .undef
    | .undef => some .undef
    | _ => none

theorem Wop_pure {C : FuncId → List V → Heap → (V → Heap → Prop) → Prop} {o : AOp} (hk : o.kind < 2) {tm : Nat → V} {h : Heap} {K : V → Heap → Prop} : Wop qf C o tm h K ↔ ∃ v, apure qf o tm h = some v ∧ K v h := by
  cases o <;> first
    | (simp [AOp.kind] at hk; done)
    | (simp only [Wop]
       split
       · rename_i v hv; simp [hv]
       · rename_i hv; simp [hv])

theorem Woper_pure {C : FuncId → List V → Heap → (V → Heap → Prop) → Prop} {x : AOper} (hk : x.op.kind < 2) {K : (Nat → V) → Heap → Prop} {tm : Nat → V} {h : Heap} :
    Woper qf C x K tm h ↔ ∃ v, pv qf x tm h = some v ∧ K (putd tm x.dst v) h := by
  obtain ⟨dst, op, guard⟩ := x
  cases guard with
  | none =>
    simp only [Woper, pv]
    exact Wop_pure hk
  | some g =>
    obtain ⟨t, want⟩ := g
    simp only [Woper, pv]
    cases tm t <;> simp only
    · simp
    · simp
    · simp
    · rename_i b
      by_cases c : b = want
      · simp only [c, if_true]; exact Wop_pure hk
      · simp [c]
    all_goals simp

theorem putd_ne {tm : Nat → V} {d : Option Nat} {v : V} {t : Nat} (h : ∀ e, d = some e → t ≠ e) : putd tm d v t = tm t := by
  cases d with
  | none => rfl
  | some d => simp [putd, put, h d rfl]

theorem putd_comm {tm : Nat → V} {d e : Option Nat} {u v : V} (h : ∀ x, d = some x → e ≠ some x) : putd (putd tm d u) e v = putd (putd tm e v) d u := by
  cases d with
  | none => rfl
  | some d =>
    cases e with
    | none => rfl
    | some e =>
      have hne : e ≠ d := fun hh => h d rfl (by rw [hh])
      funext t
      simp only [putd, put]
      by_cases h1 : t = e
      · subst h1; simp [hne]
      · simp [h1]

theorem agree_putd {tm : Nat → V} {d : Option Nat} {v : V} {l : List Nat} (h : ∀ e, d = some e → e ∉ l) : Agree (putd tm d v) tm l :=
  fun t ht => putd_ne fun e he hte => h e he (hte ▸ ht)

theorem apart_spec {x y : AOper} (h : x.apart y = true) : (∀ d, x.dst = some d → d ∉ y.reads) ∧ (∀ d, x.dst = some d → y.dst ≠ some d) ∧ (∀ d, y.dst = some d → d ∉ x.reads) := by
  refine ⟨fun d hd => ?_, fun d hd => ?_, fun d hd => ?_⟩ <;> simp [AOper.apart, hd] at h
  · exact h.1.1
  · exact h.1.2
  · exact h.2

theorem reads_op {x : AOper} {t : Nat} (h : t ∈ x.op.tmps) : t ∈ x.reads := List.mem_append_left _ h
theorem reads_guard {x : AOper} {t : Nat} {b : Bool} (h : x.guard = some (t, b)) : t ∈ x.reads := by simp [AOper.reads, h]

theorem pv_congr {x : AOper} {tm tm' : Nat → V} (h : Heap) (ha : Agree tm tm' x.reads) : pv qf x tm h = pv qf x tm' h := by
  have hp := apure_congr (qf := qf) (o := x.op) h (fun t ht => ha t (reads_op ht))
  unfold pv
  split
  · exact hp
  · rename_i t want hg
    rw [ha t (reads_guard hg), hp]

theorem pv_mono (hq : QMono qf) {x : AOper} {tm : Nat → V} {h h' : Heap} (hs : Sub h h') {v : V} (hv : pv qf x tm h = some v) : pv qf x tm h' = some v := by
  unfold pv at hv ⊢
  split at hv
  · exact apure_mono hq hs hv
  · split at hv
    · split at hv
      · rename_i c; rw [if_pos c]; exact apure_mono hq hs hv
      · rename_i c; rw [if_neg c]; exact hv
    · exact hv
    · cases hv

theorem pv_still {x : AOper} (hk : x.op.kind = 0) {tm : Nat → V} (h h' : Heap) : pv qf x tm h = pv qf x tm h' := by
  unfold pv
  rw [apure_still hk h h']

theorem Woper_mono {C : FuncId → List V → Heap → (V → Heap → Prop) → Prop} (hC : CMono C) {o : AOper} {K K' : (Nat → V) → Heap → Prop} (hK : ∀ tm h, K tm h → K' tm h) {tm : Nat → V} {h : Heap} (hw : Woper qf C o K tm h) : Woper qf C o K' tm h := by
  unfold Woper at hw ⊢
  split at hw
  · exact Wop_mono hC (fun _ _ h => hK _ _ h) hw
  · split at hw
    · split at hw
      · rename_i c; rw [if_pos c]; exact Wop_mono hC (fun _ _ h => hK _ _ h) hw
      · rename_i c; rw [if_neg c]; exact hK _ _ hw
    · exact hK _ _ hw
    · exact hw.elim

/-- The later operation goes ahead. -/
theorem Woper_swap {C : FuncId → List V → Heap → (V → Heap → Prop) → Prop} (hC : CMono C) (hq : QMono qf) {x y : AOper} (hk : x.op.kind < 2) (ha : x.ahead y = true) {K : (Nat → V) → Heap → Prop} {tm : Nat → V} {h : Heap}
    (hw : Woper qf C x (Woper qf C y K) tm h) : Woper qf C y (Woper qf C x K) tm h := by
  simp only [AOper.ahead, Bool.and_eq_true] at ha
  obtain ⟨hap, hkind⟩ := ha
  obtain ⟨a1, a2, a3⟩ := apart_spec hap
  obtain ⟨v, hv, hw⟩ := (Woper_pure hk).1 hw
  have hag : Agree (putd tm x.dst v) tm y.reads := agree_putd a1
  have fin : ∀ (u : V) (h' : Heap), (x.op.kind = 0 ∨ Sub h h') → K (putd (putd tm x.dst v) y.dst u) h' → Woper qf C x K (putd tm y.dst u) h' := by
    intro u h' hh hKu
    refine (Woper_pure hk).2 ⟨v, ?_, ?_⟩
    · rw [pv_congr h' (agree_putd a3)]
      rcases hh with hh | hh
      · rw [pv_still hh h' h]; exact hv
      · exact pv_mono hq hh hv
    · rw [putd_comm a2] at hKu; exact hKu
  have step : Wop qf C y.op (putd tm x.dst v) h (fun u h' => K (putd (putd tm x.dst v) y.dst u) h') → Wop qf C y.op tm h (fun u h' => Woper qf C x K (putd tm y.dst u) h') := by
    intro hw
    have hw := Wop_congr (tm' := tm) (fun t ht => hag t (reads_op ht)) hw
    simp only [Bool.or_eq_true, Bool.and_eq_true, beq_iff_eq, decide_eq_true_eq] at hkind
    rcases hkind with h0 | ⟨_, h3⟩
    · exact Wop_mono hC (fun u h' hKu => fin u h' (.inl h0) hKu) hw
    · exact Wop_mono hC (fun u h' hKu => fin u h' (.inr hKu.2) hKu.1) (Wop_sub h3 hw)
  unfold Woper at hw ⊢
  split at hw
  · exact step hw
  · rename_i t want hg
    rw [hag t (reads_guard hg)] at hw
    split at hw
    · split at hw
      · rename_i c; rw [if_pos c]; exact step hw
      · rename_i c; rw [if_neg c]; exact fin _ _ (.inr (Sub.refl _)) hw
    · exact fin _ _ (.inr (Sub.refl _)) hw
    · exact hw.elim

/-! ### Every order -/

/-- Whichever ready operation comes next. -/
def Wall (qf : FuncId → List V → Heap → Option V) (C : FuncId → List V → Heap → (V → Heap → Prop) → Prop) (ops : Array Oper) (aops : Array AOper) : Nat → Array Bool → ((Nat → V) → Heap → Prop) → (Nat → V) → Heap → Prop
  | 0, listed, K, tm, h => Region.ready .any ops listed = [] ∧ K tm h
  | n + 1, listed, K, tm, h => (Region.ready .any ops listed = [] → K tm h) ∧
    ∀ i ∈ Region.ready .any ops listed, ∃ o, aops[i]? = some o ∧ Woper qf C o (Wall qf C ops aops n (listed.setIfInBounds i true) K) tm h

theorem mem_ready {ops : Array Oper} {listed : Array Bool} {i : Nat} : i ∈ Region.ready .any ops listed ↔
    i < ops.size ∧ listed.getD i true = false ∧ ∃ o, ops[i]? = some o ∧ ∀ e ∈ o.after, Region.binds .any e = true → listed.getD e.on false = true := by
  unfold Region.ready
  simp only [List.mem_filter, List.mem_range, Bool.and_eq_true, Bool.not_eq_true']
  constructor
  · rintro ⟨h1, h2, h3⟩
    refine ⟨h1, h2, ops[i], Array.getElem?_eq_getElem h1, fun e he hb => ?_⟩
    rw [Array.getElem?_eq_getElem h1] at h3
    simp only [Option.map_some, Option.getD_some, Array.all_eq_true_iff_forall_mem] at h3
    have := h3 e he
    simpa [hb] using this
  · rintro ⟨h1, h2, o, ho, h3⟩
    refine ⟨h1, h2, ?_⟩
    rw [ho]
    simp only [Option.map_some, Option.getD_some, Array.all_eq_true_iff_forall_mem]
    intro e he
    by_cases hb : Region.binds .any e = true
    · simp [hb, h3 e he hb]
    · simp [hb]

/-- What is listed has all that must come before it listed. -/
def Closed (ops : Array Oper) (listed : Array Bool) : Prop := listed.size = ops.size ∧ ∀ j o, listed.getD j false = true → ops[j]? = some o → ∀ e ∈ o.after, Region.binds .any e = true → listed.getD e.on false = true

theorem getD_set {listed : Array Bool} {i j : Nat} (b : Bool) (hi : i < listed.size) : (listed.setIfInBounds i true).getD j b = if j = i then true else listed.getD j b := by
  simp only [Array.getD_eq_getD_getElem?, Array.getElem?_setIfInBounds]
  by_cases e : i = j
  · subst e; simp [hi]
  · simp [e, Ne.symm e]

theorem Closed.set {ops : Array Oper} {listed : Array Bool} (hc : Closed ops listed) {i : Nat} (hi : i ∈ Region.ready .any ops listed) : Closed ops (listed.setIfInBounds i true) := by
  obtain ⟨h1, h2, o, ho, h3⟩ := mem_ready.1 hi
  have hil : i < listed.size := by rw [hc.1]; exact h1
  refine ⟨by simp [hc.1], fun j o' hj ho' e he hb => ?_⟩
  rw [getD_set _ hil] at hj ⊢
  by_cases e1 : e.on = i
  · rw [if_pos e1]
  · rw [if_neg e1]
    by_cases e2 : j = i
    · subst e2
      rw [ho] at ho'; injection ho' with ho'; subst ho'
      exact h3 e he hb
    · rw [if_neg e2] at hj
      exact hc.2 j o' hj ho' e he hb

theorem ready_set {ops : Array Oper} {listed : Array Bool} (hc : Closed ops listed) {i j : Nat} (hi : i ∈ Region.ready .any ops listed) (hj : j ∈ Region.ready .any ops listed) (hne : j ≠ i) : j ∈ Region.ready .any ops (listed.setIfInBounds i true) := by
  obtain ⟨h1, h2, o, ho, h3⟩ := mem_ready.1 hi
  obtain ⟨g1, g2, o', ho', g3⟩ := mem_ready.1 hj
  have hil : i < listed.size := by rw [hc.1]; exact h1
  refine mem_ready.2 ⟨g1, ?_, o', ho', fun e he hb => ?_⟩
  · rw [getD_set _ hil, if_neg hne]; exact g2
  · rw [getD_set _ hil]
    split
    · rfl
    · exact g3 e he hb

/-- What is not listed comes before nothing that is ready. -/
theorem anc_false {ops : Array Oper} {listed : Array Bool} (hc : Closed ops listed) {i : Nat} (hi : listed.getD i false = false) : ∀ (k j : Nat), (∀ o, ops[j]? = some o → ∀ e ∈ o.after, Region.binds .any e = true → listed.getD e.on false = true) → anc ops k j i = false
  | 0, _, _ => rfl
  | k + 1, j, h => by
    unfold anc
    cases ho : ops[j]? with
    | none => simp
    | some o =>
      simp only [Option.map_some, Option.getD_some]
      refine Bool.eq_false_iff.2 fun hh => ?_
      obtain ⟨e, he, hh⟩ := Array.any_eq_true'.1 hh
      simp only [Bool.and_eq_true, Bool.or_eq_true, beq_iff_eq] at hh
      obtain ⟨hb, hh⟩ := hh
      have hl := h o ho e he hb
      rcases hh with hh | hh
      · rw [hh, hi] at hl; cases hl
      · rw [anc_false hc hi k e.on (fun o' ho' e' he' hb' => hc.2 e.on o' hl ho' e' he' hb')] at hh
        cases hh

theorem mask_bit {acc : List Nat} {es : List Edge} {i : Nat} : ∀ {m : Nat}, (es.foldl (fun m e => if Region.binds .any e then (m ||| 2 ^ e.on) ||| acc.getD e.on 0 else m) m).testBit i = true →
    m.testBit i = true ∨ ∃ e ∈ es, Region.binds .any e = true ∧ (e.on = i ∨ (acc.getD e.on 0).testBit i = true) := by
  induction es with
  | nil => intro m h; exact .inl h
  | cons e es ih =>
    intro m h
    rw [List.foldl_cons] at h
    rcases ih h with h1 | ⟨e', h1, h2⟩
    · split at h1
      · rename_i hb
        simp only [Nat.testBit_or, Nat.testBit_two_pow, Bool.or_eq_true, decide_eq_true_eq] at h1
        rcases h1 with (h1 | h1) | h1
        · exact .inl h1
        · exact .inr ⟨e, by simp, hb, .inl h1⟩
        · exact .inr ⟨e, by simp, hb, .inr h1⟩
      · exact .inl h1
    · exact .inr ⟨e', by simp [h1], h2⟩

theorem masks_sound {ops : Array Oper} : ∀ (rest : List Oper) (pre : List Oper) (acc : List Nat), ops.toList = pre ++ rest → pre.length = acc.length → (∀ j i, (acc.getD j 0).testBit i = true → ∃ k, anc ops k j i = true) →
    ∀ j i, ((masks rest acc).getD j 0).testBit i = true → ∃ k, anc ops k j i = true
  | [], _, _, _, _, h => h
  | o :: rest, pre, acc, h1, h2, h3 => by
    unfold masks
    refine masks_sound rest (pre ++ [o]) (acc ++ [maskOf acc o]) (by simp [h1]) (by simp [h2]) fun j i hb => ?_
    rcases Nat.lt_or_ge j acc.length with c | c
    · refine h3 j i ?_
      simpa [List.getD_eq_getElem?_getD, List.getElem?_append_left c] using hb
    · rw [List.getD_eq_getElem?_getD, List.getElem?_append_right c] at hb
      by_cases e0 : j = acc.length
      · subst e0
        simp only [Nat.sub_self, List.getElem?_cons_zero, Option.getD_some] at hb
        rcases mask_bit hb with h4 | ⟨e, h4, h5, h6⟩
        · simp at h4
        · have ho : ops[acc.length]? = some o := by
            rw [← Array.getElem?_toList, h1, List.getElem?_append_right (by omega), h2]; simp
          have he : e ∈ o.after := by simpa using h4
          rcases h6 with h6 | h6
          · refine ⟨1, ?_⟩
            unfold anc
            rw [ho]
            simp only [Option.map_some, Option.getD_some, Array.any_eq_true']
            exact ⟨e, he, by simp [h5, h6]⟩
          · obtain ⟨k, hk⟩ := h3 _ _ h6
            refine ⟨k + 1, ?_⟩
            unfold anc
            rw [ho]
            simp only [Option.map_some, Option.getD_some, Array.any_eq_true']
            exact ⟨e, he, by simp [h5, hk]⟩
      · obtain ⟨d, hd⟩ : ∃ d, j - acc.length = d + 1 := ⟨j - acc.length - 1, by omega⟩
        rw [hd] at hb
        simp at hb

theorem free_first {C : FuncId → List V → Heap → (V → Heap → Prop) → Prop} (hC : CMono C) (hq : QMono qf) {ops : Array Oper} {aops : Array AOper} {K : (Nat → V) → Heap → Prop} {i : Nat} {x : AOper} (hx : aops[i]? = some x) (hk : x.op.kind < 2) :
    ∀ (n : Nat) (listed : Array Bool) (tm : Nat → V) (h : Heap), Closed ops listed → i ∈ Region.ready .any ops listed →
      (∀ j, j < ops.size → j = i ∨ listed.getD j true = true ∨ (∃ k, anc ops k j i = true) ∨ ∃ y, aops[j]? = some y ∧ x.ahead y = true) →
      Woper qf C x (Wall qf C ops aops n (listed.setIfInBounds i true) K) tm h → Wall qf C ops aops (n + 1) listed K tm h := by
  intro n
  induction n with
  | zero =>
    intro listed tm h hc hi hf hw
    refine ⟨fun he => by rw [he] at hi; simp at hi, fun j hj => ?_⟩
    by_cases e : j = i
    · subst e; exact ⟨x, hx, hw⟩
    · obtain ⟨v, _, hr, _⟩ := (Woper_pure hk).1 hw
      have := ready_set hc hi hj e
      rw [hr] at this
      simp at this
  | succ m ih =>
    intro listed tm h hc hi hf hw
    refine ⟨fun he => by rw [he] at hi; simp at hi, fun j hj => ?_⟩
    by_cases e : j = i
    · subst e; exact ⟨x, hx, hw⟩
    · obtain ⟨hj1, hj2, oj, hoj, hj3⟩ := mem_ready.1 hj
      obtain ⟨hi1, hi2, oi, hoi, hi3⟩ := mem_ready.1 hi
      have hil : i < listed.size := by rw [hc.1]; exact hi1
      have hjl : j < listed.size := by rw [hc.1]; exact hj1
      have hin : listed.getD i false = false := by
        have : listed.getD i true = listed.getD i false := by simp [Array.getD_eq_getD_getElem?, hil]
        rw [← this]; exact hi2
      have hanc := fun k => anc_false hc hin k j (fun o ho e he hb => by rw [hoj] at ho; injection ho with ho; subst ho; exact hj3 e he hb)
      obtain ⟨y, hy, ha⟩ : ∃ y, aops[j]? = some y ∧ x.ahead y = true := by
        rcases hf j hj1 with h | h | h | h
        · exact absurd h e
        · rw [hj2] at h; cases h
        · obtain ⟨k, h⟩ := h; rw [hanc k] at h; cases h
        · exact h
      refine ⟨y, hy, ?_⟩
      have hw1 : Woper qf C x (Woper qf C y (Wall qf C ops aops m ((listed.setIfInBounds i true).setIfInBounds j true) K)) tm h := by
        refine Woper_mono hC (fun tm' h' hw' => ?_) hw
        obtain ⟨y', hy', hw'⟩ := hw'.2 j (ready_set hc hi hj e)
        rw [hy] at hy'; injection hy' with hy'; subst hy'
        exact hw'
      have hw2 := Woper_swap hC hq hk ha hw1
      refine Woper_mono hC (fun tm' h' hw' => ?_) hw2
      refine ih (listed.setIfInBounds j true) tm' h' (hc.set hj) (ready_set hc hj hi (Ne.symm e)) (fun k hk' => ?_) ?_
      · rcases hf k hk' with h | h | h | h
        · exact .inl h
        · refine .inr (.inl ?_)
          rw [getD_set _ hjl]; split
          · rfl
          · exact h
        · exact .inr (.inr (.inl h))
        · exact .inr (.inr (.inr h))
      · rw [Array.setIfInBounds_comm _ _ (Ne.symm e)] at hw'
        exact hw'

theorem Wt_both {C : FuncId → List V → Heap → (V → Heap → Prop) → Prop} {K : (Nat → V) → Heap → Prop} {tm : Nat → V} {h : Heap} : ∀ {ts : List RTree}, Wt qf C (both ts) K tm h → ∀ t ∈ ts, Wt qf C t K tm h
  | [], _, t, ht => by simp at ht
  | [t0], hw, t, ht => by simp at ht; subst ht; exact hw
  | t0 :: t1 :: ts, hw, t, ht => by
    simp only [both, Wt] at hw
    rcases List.mem_cons.1 ht with rfl | ht
    · exact hw.1
    · exact Wt_both hw.2 t ht

theorem plan_sound {C : FuncId → List V → Heap → (V → Heap → Prop) → Prop} (hC : CMono C) (hq : QMono qf) {ops : Array Oper} {aops : Array AOper} {ms : List Nat} (hms : ∀ j i, (ms.getD j 0).testBit i = true → ∃ k, anc ops k j i = true) {K : (Nat → V) → Heap → Prop} :
    ∀ (n : Nat) (listed : Array Bool) (tm : Nat → V) (h : Heap), Closed ops listed → Wt qf C (plan ops aops ms n listed) K tm h → Wall qf C ops aops n listed K tm h := by
  intro n
  induction n with
  | zero =>
    intro listed tm h hc hw
    unfold plan at hw
    split at hw
    · rename_i he
      exact ⟨by simpa using he, hw⟩
    · exact hw.elim
  | succ n ih =>
    intro listed tm h hc hw
    unfold plan at hw
    simp only at hw
    split at hw
    · rename_i he
      have he' : Region.ready .any ops listed = [] := by simpa using he
      exact ⟨fun _ => hw, fun i hi => by rw [he'] at hi; simp at hi⟩
    · rename_i he
      split at hw
      · rename_i i hfi
        have hi := List.mem_of_find?_eq_some hfi
        have hfree := List.find?_some hfi
        split at hw
        · rename_i x hx
          unfold free at hfree
          rw [hx] at hfree
          simp only [Bool.and_eq_true, Bool.or_eq_true, beq_iff_eq, List.all_eq_true, List.mem_range] at hfree
          obtain ⟨hk, hall⟩ := hfree
          refine free_first hC hq hx (by rcases hk with hk | hk <;> omega) n listed tm h hc hi (fun j hj => ?_) (Woper_mono hC (fun tm' h' hw' => ih _ _ _ (hc.set hi) hw') hw)
          rcases hall j hj with ((h1 | h1) | h1) | h1
          · exact .inl h1
          · exact .inr (.inl h1)
          rotate_left
          · exact .inr (.inr (.inl (hms _ _ h1)))
          · refine .inr (.inr (.inr ?_))
            cases hy : aops[j]? with
            | none => rw [hy] at h1; simp at h1
            | some y => rw [hy] at h1; exact ⟨y, rfl, by simpa using h1⟩
        · exact hw.elim
      · refine ⟨fun h0 => by rw [h0] at he; simp at he, fun i hi => ?_⟩
        have := Wt_both hw _ (List.mem_map.2 ⟨i, hi, rfl⟩)
        split at this
        · rename_i o ho
          exact ⟨o, ho, Woper_mono hC (fun tm' h' hw' => ih _ _ _ (hc.set hi) hw') this⟩
        · exact this.elim

end
end Go.Abs

/- Another view of a value and a heap: what is never written again becomes a value that never changes. -/
namespace Go.Abs

theorem isCell_cells {v : V} (h : v.isCell = true) : v.cells = [v] := by cases v <;> first | rfl | cases h

theorem elems_length {esz n : Nat} {ys : List V} (h : n * esz ≤ ys.length) : (elems esz n ys).length = n := by
  unfold elems
  split
  · rename_i e; subst e; simp; omega
  · simp

/-- The cells of the i-th element. -/
theorem elems_cells {esz n : Nat} {ys : List V} (h : n * esz ≤ ys.length) (hc : ∀ y ∈ ys, y.isCell = true) {i : Nat} {x : V} (hx : (elems esz n ys)[i]? = some x) : i < n ∧ x.cells = (ys.drop (i * esz)).take esz := by
  unfold elems at hx
  split at hx
  · rename_i e; subst e
    rw [List.getElem?_take] at hx
    split at hx
    · rename_i hi
      refine ⟨hi, ?_⟩
      rw [isCell_cells (hc x (List.mem_of_getElem? hx)), Nat.mul_one]
      have hlt : i < ys.length := (List.getElem?_eq_some_iff.1 hx).1
      rw [List.drop_eq_getElem_cons hlt]
      rw [List.getElem?_eq_getElem hlt] at hx
      injection hx with hx
      simp [hx]
    · cases hx
  · rw [List.getElem?_map] at hx
    cases hr : (List.range n)[i]? with
    | none => rw [hr] at hx; cases hx
    | some k =>
      rw [hr] at hx
      have hi : i < n := by
        have := (List.getElem?_eq_some_iff.1 hr).1; simpa using this
      have hk : k = i := by
        rw [List.getElem?_range hi] at hr; injection hr with hr; exact hr.symm
      subst hk
      simp at hx
      subst hx
      exact ⟨hi, rfl⟩

theorem sl_ps {ρ : Ren} {h h' : Heap} {w : World} (hs : St ρ h w) (hsub : Sub h' h) {esz b off n : Nat} {cap : Option Nat} {cv : Value} (hv : VRel ρ (Own ρ h) w (.sl esz b off n cap) cv) {e : TypeId} {xs : List V} (hb : h b = some (.cells e esz xs))
    (hle : off * esz + n * esz ≤ xs.length) (hb' : h' b = none) : VRel ρ (Own ρ h') w (.ps esz (elems esz n (xs.drop (off * esz)))) cv := by
  obtain ⟨cb, K, hr, cur, g1, g2, g3, g4, g5⟩ := hs.blk b _ hb
  have hne : ∀ c, h' c ≠ none → h c ≠ none := by
    intro c hc
    cases e : h' c with
    | none => exact absurd e hc
    | some x => rw [hsub c x e]; simp
  have hnown : ¬ Own ρ h' cb := by
    rintro ⟨c, K', hc, hr'⟩
    have : c = b := hs.inj c b _ _ _ (hne c hc) (by rw [hb]; simp) hr' hr
    subst this
    exact hc hb'
  have hmono : ∀ {x : V} {u : Value}, VRel ρ (Own ρ h) w x u → VRel ρ (Own ρ h') w x u := fun hx => hx.mono (fun _ _ h => h) (Nat.le_refl _) (fun k _ ⟨c, K', hc, hr'⟩ => ⟨c, K', hne c hc, hr'⟩) (fun _ _ _ => rfl)
  have hys : n * esz ≤ (xs.drop (off * esz)).length := by simp; omega
  have hcells : ∀ y ∈ xs.drop (off * esz), y.isCell = true := by
    intro y hy
    obtain ⟨j, hj⟩ := List.getElem?_of_mem (List.mem_of_mem_drop hy)
    exact (g5 j y hj).1
  have hcurlen : off * esz + n * esz ≤ cur.size := by omega
  have main : ∀ (A : Nat), n ≤ A → A ≤ maxLen → VRel ρ (Own ρ h') w (.ps esz (elems esz n (xs.drop (off * esz)))) (.slice (some ⟨cb, off * esz, none⟩) n A) := by
    intro A hA hA2
    have hl := elems_length hys
    have key := VRel.ps (ρ := ρ) (O := Own ρ h') (w := w) esz (elems esz n (xs.drop (off * esz))) (some ⟨cb, off * esz, none⟩) A (fun j => cur.getD (off * esz + j) undef) (by rw [hl]; exact hA) hA2
      (fun x hx => by
        obtain ⟨i, hi⟩ := List.getElem?_of_mem hx
        obtain ⟨h1, h2⟩ := elems_cells hys hcells hi
        rw [h2]
        have : i * esz + esz ≤ n * esz := by rw [← Nat.succ_mul]; exact Nat.mul_le_mul_right _ h1
        simp; omega)
      (fun _ => ⟨_, rfl, hnown, hs.lt _ _ _ hr, fun i x hx j u hj => by
        obtain ⟨h1, h2⟩ := elems_cells hys hcells hx
        rw [h2, List.getElem?_take] at hj
        split at hj
        · rename_i hjl
          rw [List.getElem?_drop, List.getElem?_drop] at hj
          obtain ⟨_, cv', a2, _⟩ := g5 _ _ hj
          rw [cell_at g1]
          simp [a2]
        · cases hj⟩)
      (fun i x hx j u hj => by
        obtain ⟨h1, h2⟩ := elems_cells hys hcells hx
        rw [h2, List.getElem?_take] at hj
        split at hj
        · rw [List.getElem?_drop, List.getElem?_drop] at hj
          obtain ⟨_, cv', a2, a3⟩ := g5 _ _ hj
          simp [a2]
          exact hmono a3
        · cases hj)
    rw [hl] at key
    exact key
  cases hv with
  | sl _ _ _ _ cb' K' hr' hk =>
    rw [hr] at hr'; injection hr' with hr'; injection hr' with e1 e2; subst e1; subst e2
    exact main _ (by omega) (by omega)
  | slc _ _ _ _ c cb' K' hr' hn hk =>
    rw [hr] at hr'; injection hr' with hr'; injection hr' with e1 e2; subst e1; subst e2
    exact main _ hn (by omega)

/-- Another view of a value and a heap. -/
def View (v : V) (h : Heap) (v' : V) (h' : Heap) : Prop := ∀ (ρ : Ren) (w : World) (cv : Value), St ρ h w → VRel ρ (Own ρ h) w v cv → St ρ h' w ∧ VRel ρ (Own ρ h') w v' cv ∧ Fr ρ h w ρ h' w

theorem View.refl (v : V) (h : Heap) : View v h v h := fun ρ w cv hs hv => ⟨hs, hv, Fr.refl _ _ _⟩
theorem View.trans {v v' v'' : V} {h h' h'' : Heap} (a : View v h v' h') (b : View v' h' v'' h'') : View v h v'' h'' := by
  intro ρ w cv hs hv
  obtain ⟨a1, a2, a3⟩ := a ρ w cv hs hv
  obtain ⟨b1, b2, b3⟩ := b ρ w cv a1 a2
  exact ⟨b1, b2, a3.trans b3⟩
theorem View.sub {v : V} {h h' : Heap} (hsub : Sub h' h) : View v h v h' := by
  intro ρ w cv hs hv
  obtain ⟨s1, s2⟩ := hs.sub hsub
  exact ⟨s1, hv.fr s2, s2⟩
theorem View.ps {h : Heap} {esz b off n : Nat} {cap : Option Nat} {e : TypeId} {xs : List V} (hb : h b = some (.cells e esz xs)) (hle : off * esz + n * esz ≤ xs.length) : View (.sl esz b off n cap) h (.ps esz (elems esz n (xs.drop (off * esz)))) (era h b) := by
  intro ρ w cv hs hv
  obtain ⟨s1, s2⟩ := hs.era b
  refine ⟨s1, sl_ps hs ?_ hv hb hle (era_eq _ _), s2⟩
  intro c x hx
  by_cases e2 : c = b
  · subst e2; rw [era_eq] at hx; cases hx
  · rwa [era_ne _ _ _ e2] at hx


/-- A block just made becomes a value that never changes. -/
theorem View.box {h : Heap} {b n : Nat} {e : TypeId} {xs : List V} (hb : h b = none) : View (.ptr b 0) (upd h b (.cells e n xs)) (.pp xs) h := by
  intro ρ w cv hs hv
  have hsub : Sub h (upd h b (.cells e n xs)) := sub_upd hb _
  obtain ⟨s1, s2⟩ := hs.sub hsub
  refine ⟨s1, ?_, s2⟩
  cases hv with
  | ptr _ _ cb K hr =>
    obtain ⟨cb2, K2, hr2, cur, g1, g2, g3, g4, g5⟩ := hs.blk b _ (upd_eq _ _ _)
    rw [hr] at hr2; injection hr2 with hr2; injection hr2 with e1 e2; subst e1; subst e2
    have hnown : ¬ Own ρ h cb := by
      rintro ⟨c, K', hc, hr'⟩
      have hcb : c ≠ b := by rintro rfl; exact hc hb
      have : c = b := hs.inj c b _ _ _ (by rw [upd_ne _ _ _ _ hcb]; exact hc) (by rw [upd_eq]; simp) hr' hr
      exact hcb this
    refine .pp xs ⟨cb, 0, none⟩ (fun j => cur.getD j undef) hnown (hs.lt _ _ _ hr) (fun j u hj => ?_) (fun j u hj => ?_)
    · obtain ⟨_, cv', a2, _⟩ := g5 j _ hj
      rw [cell_at g1]
      simp [a2]
    · obtain ⟨_, cv', a2, a3⟩ := g5 j _ hj
      simp [a2]
      exact a3.fr s2

theorem View.buildS {h : Heap} {b n esz : Nat} {e : TypeId} {xs : List V} (hb : h b = none) (hle : n * esz ≤ xs.length) : View (.sl esz b 0 n none) (upd h b (.cells e esz xs)) (.ps esz (elems esz n xs)) h := by
  intro ρ w cv hs hv
  obtain ⟨s1, s2⟩ := hs.sub (sub_upd hb (.cells e esz xs))
  have := sl_ps hs (sub_upd hb _) hv (upd_eq _ _ _) (by omega) hb
  simp only [Nat.zero_mul, List.drop_zero] at this
  exact ⟨s1, this, s2⟩

end Go.Abs

/- Compressed regions: what is computed on the way is written into the expressions that use it. The compressing is a Lean function; here it is shown to be sound. -/
namespace Go.Abs

/-! ### Renaming the places of an operation's operands -/

def Opnd.ren (f : Nat → Nat) : Opnd → Opnd
  | .t n => .t (f n)
  | .c v => .c v

def AOp.ren (f : Nat → Nat) : AOp → AOp
  | .mov x => .mov (x.ren f)
  | .pick c a b => .pick (c.ren f) (a.ren f) (b.ren f)
  | .alloc e z => .alloc e z
  | .box e n x => .box e n (x.ren f)
  | .boxp e n x => .boxp e n (x.ren f)
  | .build z ps => .build z (ps.map fun p => (p.1, p.2.1, p.2.2.ren f))
  | .buildS e k n z ps => .buildS e k n z (ps.map fun p => (p.1, p.2.ren f))
  | .buildSp e k n z ps => .buildSp e k n z (ps.map fun p => (p.1, p.2.ren f))
  | .load g a => .load g (a.ren f)
  | .store n a x => .store n (a.ren f) (x.ren f)
  | .nchk x => .nchk (x.ren f)
  | .bin o k x y => .bin o k (x.ren f) (y.ren f)
  | .un o x => .un o (x.ren f)
  | .cint k x => .cint k (x.ren f)
  | .cstr x => .cstr (x.ren f)
  | .mkS e k b z l c => .mkS e k b z (l.ren f) (c.ren f)
  | .slS k x lo hi m3 => .slS k (x.ren f) (lo.map (·.ren f)) (hi.map (·.ren f)) (m3.map (·.ren f))
  | .slStr x lo hi => .slStr (x.ren f) (lo.map (·.ren f)) (hi.map (·.ren f))
  | .fld n x => .fld n (x.ren f)
  | .fldv n g x => .fldv n g (x.ren f)
  | .idx k x i => .idx k (x.ren f) (i.ren f)
  | .idxA l k x i => .idxA l k (x.ren f) (i.ren f)
  | .idxStr x i => .idxStr (x.ren f) (i.ren f)
  | .mkM => .mkM
  | .look kt z b m k => .look kt z b (m.ren f) (k.ren f)
  | .mupd kt m k v => .mupd kt (m.ren f) (k.ren f) (v.ren f)
  | .ment kt z m k => .ment kt z (m.ren f) (k.ren f)
  | .ests m s v => .ests (m.ren f) (s.ren f) (v.ren f)
  | .ext i x => .ext i (x.ren f)
  | .len x => .len (x.ren f)
  | .lenS x => .lenS (x.ren f)
  | .mn x y => .mn (x.ren f) (y.ren f)
  | .mx x y => .mx (x.ren f) (y.ren f)
  | .app e k b s x => .app e k b (s.ren f) (x.ren f)
  | .call g xs => .call g (xs.map (·.ren f))
  | .qcall g xs => .qcall g (xs.map (·.ren f))

section
variable {qf : FuncId → List V → Heap → Option V} {C : FuncId → List V → Heap → (V → Heap → Prop) → Prop}

theorem ren_ev (f : Nat → Nat) (tm : Nat → V) (x : Opnd) : (x.ren f).ev tm = x.ev fun n => tm (f n) := by cases x <;> rfl
theorem ren_evo (f : Nat → Nat) (tm : Nat → V) (x : Option Opnd) : evo tm (x.map (·.ren f)) = evo (fun n => tm (f n)) x := by
  cases x with
  | none => rfl
  | some x => simp [evo, ren_ev]
theorem ren_fillB (f : Nat → Nat) (tm : Nat → V) : ∀ (ps : List (Nat × Nat × Opnd)) (cs : List V), fillB tm cs (ps.map fun p => (p.1, p.2.1, p.2.2.ren f)) = fillB (fun n => tm (f n)) cs ps
  | [], cs => rfl
  | (o, s, x) :: ps, cs => by simp only [List.map_cons, fillB, ren_ev, ren_fillB f tm ps]
theorem ren_fillS (f : Nat → Nat) (tm : Nat → V) (esz : Nat) : ∀ (ps : List (Nat × Opnd)) (cs : List V), fillS tm esz cs (ps.map fun p => (p.1, p.2.ren f)) = fillS (fun n => tm (f n)) esz cs ps
  | [], cs => rfl
  | (i, x) :: ps, cs => by simp only [List.map_cons, fillS, ren_ev, ren_fillS f tm esz ps]
theorem ren_args (f : Nat → Nat) (tm : Nat → V) (xs : List Opnd) : (xs.map (·.ren f)).map (·.ev tm) = xs.map (·.ev fun n => tm (f n)) := by
  rw [List.map_map]
  exact List.map_congr_left fun x _ => ren_ev f tm x

theorem apure_ren (f : Nat → Nat) (o : AOp) (tm : Nat → V) (h : Heap) : apure qf (o.ren f) tm h = apure qf o (fun n => tm (f n)) h := by
  cases o <;> simp only [AOp.ren, apure, ren_ev, ren_evo, ren_fillB, ren_args]

theorem Wop_ren (f : Nat → Nat) (o : AOp) (tm : Nat → V) (h : Heap) (K : V → Heap → Prop) : Wop qf C (o.ren f) tm h K = Wop qf C o (fun n => tm (f n)) h K := by
  have hp := apure_ren (qf := qf) f o tm h
  cases o <;> simp only [AOp.ren] at hp ⊢ <;> simp only [Wop, hp, ren_ev, ren_fillS, ren_args]

theorem ren_kind (f : Nat → Nat) (o : AOp) : (o.ren f).kind = o.kind := by cases o <;> rfl

/-! ### Places -/

def pos : List Nat → Nat → Nat
  | [], _ => 0
  | a :: r, n => if n = a then 0 else pos r n + 1
def nub : List Nat → List Nat
  | [] => []
  | a :: r => if r.contains a then nub r else a :: nub r
def loc (vs : List V) : Nat → V := fun i => vs.getD i .undef

theorem mem_nub {n : Nat} : ∀ {l : List Nat}, n ∈ l → n ∈ nub l
  | a :: r, h => by
    unfold nub
    split
    · rename_i c
      rcases List.mem_cons.1 h with rfl | h
      · exact mem_nub (by simpa using c)
      · exact mem_nub h
    · rcases List.mem_cons.1 h with rfl | h
      · simp
      · exact List.mem_cons_of_mem _ (mem_nub h)
theorem nub_mem {n : Nat} : ∀ {l : List Nat}, n ∈ nub l → n ∈ l
  | [], h => h
  | a :: r, h => by
    unfold nub at h
    split at h
    · exact List.mem_cons_of_mem _ (nub_mem h)
    · rcases List.mem_cons.1 h with rfl | h
      · simp
      · exact List.mem_cons_of_mem _ (nub_mem h)

theorem loc_pos (tm : Nat → V) {n : Nat} : ∀ {u : List Nat}, n ∈ u → loc (u.map tm) (pos u n) = tm n
  | a :: r, h => by
    unfold pos
    split
    · rename_i e; subst e; rfl
    · rename_i e
      rcases List.mem_cons.1 h with h | h
      · exact absurd h e
      · have := loc_pos tm h
        simpa [loc] using this

theorem apure_loc {o : AOp} {tm : Nat → V} {h : Heap} : apure qf (o.ren (pos (nub o.tmps))) (loc ((nub o.tmps).map tm)) h = apure qf o tm h := by
  rw [apure_ren]
  exact apure_congr h fun n hn => loc_pos tm (mem_nub hn)
theorem Wop_loc {o : AOp} {tm : Nat → V} {h : Heap} {K : V → Heap → Prop} (hw : Wop qf C (o.ren (pos (nub o.tmps))) (loc ((nub o.tmps).map tm)) h K) : Wop qf C o tm h K := by
  rw [Wop_ren] at hw
  exact Wop_congr (fun n hn => loc_pos tm (mem_nub hn)) hw

/-! ### Expressions -/

def gdV (g : Option V) (w : Bool) (e : Option V) : Option V :=
  match g with
  | some (.bool b) => if b = w then e else some .undef
  | some .undef => some .undef
  | _ => none
def orV (a b : Option V) : Option V :=
  match a with
  | some (.bool true) => some (.bool true)
  | some (.bool false) => b
  | _ => none
def andV (a b : Option V) : Option V :=
  match a with
  | some (.bool true) => b
  | some (.bool false) => some (.bool false)
  | _ => none

def Ex.ev (qf : FuncId → List V → Heap → Option V) (tm : Nat → V) (h : Heap) : Ex → Option V
  | .t n => some (tm n)
  | .c v => some v
  | .o0 o => apure qf o (loc []) h
  | .o1 o a => (a.ev qf tm h).bind fun x => apure qf o (loc [x]) h
  | .o2 o a b => (a.ev qf tm h).bind fun x => (b.ev qf tm h).bind fun y => apure qf o (loc [x, y]) h
  | .o3 o a b d => (a.ev qf tm h).bind fun x => (b.ev qf tm h).bind fun y => (d.ev qf tm h).bind fun z => apure qf o (loc [x, y, z]) h
  | .gd g w e => gdV (g.ev qf tm h) w (e.ev qf tm h)
  | .or a b => orV (a.ev qf tm h) (b.ev qf tm h)
  | .and a b => andV (a.ev qf tm h) (b.ev qf tm h)

def evs (qf : FuncId → List V → Heap → Option V) (tm : Nat → V) (h : Heap) : List Ex → Option (List V)
  | [] => some []
  | e :: es => (e.ev qf tm h).bind fun v => (evs qf tm h es).bind fun vs => some (v :: vs)

def Ex.reads (n : Nat) : Ex → Bool
  | .t m => m == n
  | .c _ => false
  | .o0 _ => false
  | .o1 _ a => a.reads n
  | .o2 _ a b => a.reads n || b.reads n
  | .o3 _ a b d => a.reads n || b.reads n || d.reads n
  | .gd a _ b | .or a b | .and a b => a.reads n || b.reads n

def Ex.heapy : Ex → Bool
  | .t _ | .c _ => false
  | .o0 o => o.kind != 0
  | .o1 o a => o.kind != 0 || a.heapy
  | .o2 o a b => o.kind != 0 || a.heapy || b.heapy
  | .o3 o a b d => o.kind != 0 || a.heapy || b.heapy || d.heapy
  | .gd a _ b | .or a b | .and a b => a.heapy || b.heapy

theorem ev_put {n : Nat} {v : V} {tm : Nat → V} {h : Heap} : ∀ {e : Ex}, e.reads n = false → e.ev qf (put tm n v) h = e.ev qf tm h
  | .t m, hr => by
    have : m ≠ n := by simpa [Ex.reads] using hr
    simp [Ex.ev, put, this]
  | .c _, _ => rfl
  | .o0 _, _ => rfl
  | .o1 o a, hr => by simp only [Ex.ev, ev_put (e := a) hr]
  | .o2 o a b, hr => by
    simp only [Ex.reads, Bool.or_eq_false_iff] at hr
    simp only [Ex.ev, ev_put hr.1, ev_put hr.2]
  | .o3 o a b d, hr => by
    simp only [Ex.reads, Bool.or_eq_false_iff] at hr
    simp only [Ex.ev, ev_put hr.1.1, ev_put hr.1.2, ev_put hr.2]
  | .gd a w b, hr => by
    simp only [Ex.reads, Bool.or_eq_false_iff] at hr
    simp only [Ex.ev, ev_put hr.1, ev_put hr.2]
  | .or a b, hr => by
    simp only [Ex.reads, Bool.or_eq_false_iff] at hr
    simp only [Ex.ev, ev_put hr.1, ev_put hr.2]
  | .and a b, hr => by
    simp only [Ex.reads, Bool.or_eq_false_iff] at hr
    simp only [Ex.ev, ev_put hr.1, ev_put hr.2]

theorem ev_still {tm : Nat → V} (h h' : Heap) : ∀ {e : Ex}, e.heapy = false → e.ev qf tm h = e.ev qf tm h'
  | .t m, hr => rfl
  | .c _, _ => rfl
  | .o0 o, hr => by
    simp only [Ex.heapy, bne_eq_false_iff_eq] at hr
    exact apure_still hr h h'
  | .o1 o a, hr => by
    simp only [Ex.heapy, Bool.or_eq_false_iff, bne_eq_false_iff_eq] at hr
    simp only [Ex.ev, ev_still h h' (e := a) hr.2, apure_still hr.1 h h']
  | .o2 o a b, hr => by
    simp only [Ex.heapy, Bool.or_eq_false_iff, bne_eq_false_iff_eq] at hr
    simp only [Ex.ev, ev_still h h' hr.1.2, ev_still h h' hr.2, apure_still hr.1.1 h h']
  | .o3 o a b d, hr => by
    simp only [Ex.heapy, Bool.or_eq_false_iff, bne_eq_false_iff_eq] at hr
    simp only [Ex.ev, ev_still h h' hr.1.1.2, ev_still h h' hr.1.2, ev_still h h' hr.2, apure_still hr.1.1.1 h h']
  | .gd a w b, hr => by
    simp only [Ex.heapy, Bool.or_eq_false_iff] at hr
    simp only [Ex.ev, ev_still h h' hr.1, ev_still h h' hr.2]
  | .or a b, hr => by
    simp only [Ex.heapy, Bool.or_eq_false_iff] at hr
    simp only [Ex.ev, ev_still h h' hr.1, ev_still h h' hr.2]
  | .and a b, hr => by
    simp only [Ex.heapy, Bool.or_eq_false_iff] at hr
    simp only [Ex.ev, ev_still h h' hr.1, ev_still h h' hr.2]

/-! ### What a compressed region comes to -/

def Wct (qf : FuncId → List V → Heap → Option V) (C : FuncId → List V → Heap → (V → Heap → Prop) → Prop) : CTree → ((Nat → V) → Heap → Prop) → (Nat → V) → Heap → Prop
  | .nil, K, tm, h => K tm h
  | .asg d e t, K, tm, h =>
    match e.ev qf tm h with
    | some v => Wct qf C t K (put tm d v) h
    | none => False
  | .chk e t, K, tm, h => (∃ v, e.ev qf tm h = some v) ∧ Wct qf C t K tm h
  | .op d o as t, K, tm, h =>
    match evs qf tm h as with
    | some vs => Wop qf C o (loc vs) h fun v h' => Wct qf C t K (putd tm d v) h'
    | none => False
  | .opg g w d o as t, K, tm, h =>
    match g.ev qf tm h with
    | some (.bool b) =>
      if b = w then
        match evs qf tm h as with
        | some vs => Wop qf C o (loc vs) h fun v h' => Wct qf C t K (putd tm d v) h'
        | none => False
      else Wct qf C t K (putd tm d .undef) h
    | some .undef => Wct qf C t K (putd tm d .undef) h
    | _ => False
  | .both a b, K, tm, h => Wct qf C a K tm h ∧ Wct qf C b K tm h
  | .tt, _, _, _ => True
  | .ff, _, _, _ => False

/-! ### The compressing -/

/-- What is not written yet: under which guard, which expression, and whether it is known to have a value. -/
structure Pend where
  guard : Option (Nat × Bool × Ex)
  e : Ex
  ok : Bool

def Pend.full (p : Pend) : Ex :=
  match p.guard with
  | none => p.e
  | some (_, w, eg) => .gd eg w p.e

/-- The temporaries that are not written: by an expression, or lost. -/
abbrev Env := List (Nat × Option Pend)
def Env.get (σ : Env) (n : Nat) : Option (Option Pend) :=
  match σ with
  | [] => none
  | (m, p) :: r => if n = m then some p else Env.get r n

def use (σ : Env) (g : Option (Nat × Bool)) (n : Nat) : Option Ex :=
  match Env.get σ n with
  | none => some (.t n)
  | some none => none
  | some (some p) =>
    match p.guard with
    | none => some p.e
    | some (g', w', eg) => if g = some (g', w') then some p.e else some (.gd eg w' p.e)

def uses (σ : Env) (g : Option (Nat × Bool)) : List Nat → Option (List Ex)
  | [] => some []
  | n :: r =>
    match use σ g n, uses σ g r with
    | some e, some es => some (e :: es)
    | _, _ => none

def Pend.touches (d : Nat) (p : Pend) : Bool := p.e.reads d || (match p.guard with
  | none => false
  | some (g, _, eg) => g == d || eg.reads d)

def Env.cut (d : Nat) (f : Pend → Bool) : Env → Env
  | [] => []
  | (m, p) :: r => if m = d then Env.cut d f r else (m, p.bind fun p => if f p then none else some p) :: Env.cut d f r
/-- Behind a temporary's writing. -/
def Env.write (σ : Env) (d : Nat) : Env := σ.cut d (Pend.touches d)
/-- Behind the writing of what is its value already. -/
def Env.settle (σ : Env) (d : Nat) : Env := σ.cut d fun p => p.full.reads d
def Env.writes (σ : Env) (d : Option Nat) : Env :=
  match d with
  | none => σ
  | some d => σ.write d
/-- Behind a turn of the heap. -/
def Env.heap (σ : Env) : Env := σ.map fun x => (x.1, x.2.bind fun p => if p.full.heapy then none else some p)
def Env.mark (σ : Env) (b : Nat → Bool) : Env := σ.map fun x => (x.1, x.2.map fun p => ⟨p.guard, p.e, p.ok || b x.1⟩)
/-- What must be shown to have a value. -/
def Env.owed (σ : Env) : List Ex := σ.filterMap fun x => x.2.bind fun p => if p.ok then none else some p.full
def chks (es : List Ex) (t : CTree) : CTree := es.foldr .chk t

def shape (o : AOp) (u : List Nat) (as : List Ex) : Option Ex :=
  match o, as with
  | .mov (.t _), [a] => some a
  | .mov (.c v), [] => some (.c v)
  | o, [] => some (.o0 (o.ren (pos u)))
  | o, [a] => some (.o1 (o.ren (pos u)) a)
  | o, [a, b] => some (.o2 (o.ren (pos u)) a b)
  | o, [a, b, d] => some (.o3 (o.ren (pos u)) a b d)
  | _, _ => none

/-- Both truth values' short ways; and whose value they are made of. -/
def short (σ : Env) (o : AOp) : Option (Ex × Nat) :=
  match o with
  | .pick (.t g) (.c (.bool true)) (.t n) =>
    match Env.get σ n with
    | some (some ⟨some (g', false, eg), e, _⟩) => if g' = g then some (.or eg e, n) else none
    | _ => none
  | .pick (.t g) (.t n) (.c (.bool false)) =>
    match Env.get σ n with
    | some (some ⟨some (g', true, eg), e, _⟩) => if g' = g then some (.and eg e, n) else none
    | _ => none
  | _ => none

def bare (σ : Env) (x : AOper) : Option Ex :=
  match short σ x.op with
  | some r => some r.1
  | none =>
    match uses σ x.guard (nub x.op.tmps) with
    | none => none
    | some as => shape x.op (nub x.op.tmps) as

def mkE (σ : Env) (x : AOper) : Option Pend :=
  match bare σ x with
  | none => none
  | some e =>
    match x.guard with
    | none => some ⟨none, e, false⟩
    | some (g, w) => (use σ none g).map fun eg => ⟨some (g, w, eg), e, false⟩

/-- Whose value an operation asks for in any case. -/
def strict (σ : Env) (x : AOper) (n : Nat) : Bool :=
  match x.guard with
  | none =>
    match short σ x.op with
    | some r => n == r.2
    | none => x.op.tmps.contains n
  | some (g, w) => n == g || ((short σ x.op).isNone && x.op.tmps.contains n && (match Env.get σ n with
    | some (some p) => (match p.guard with
      | some (g', w', _) => g' == g && w' == w
      | none => false)
    | _ => false))

def Ex.atom : Ex → Bool
  | .t _ | .c _ => true
  | _ => false

def RTree.reads (n : Nat) : RTree → Bool
  | .nil | .tt | .ff => false
  | .op o t => o.reads.contains n || t.reads n
  | .both a b => a.reads n || b.reads n

def flush : List Nat → Env → (Env → CTree) → CTree
  | [], σ, k => k σ
  | n :: r, σ, k =>
    match Env.get σ n with
    | some (some p) => chks (Env.owed (σ.filter fun y => match y.2 with
        | some q => q.full.reads n
        | none => false)) (.asg n p.full (flush r (σ.settle n) k))
    | _ => flush r σ k

/-- Which expressions are written down ahead of an operation that makes them untrue. -/
def stale (σ : Env) (x : AOper) (t : RTree) : List Nat :=
  (σ.filter fun y => t.reads y.1 && (match y.2 with
    | some p => (match x.dst with
        | some d => y.1 != d && p.touches d
        | none => false) || (decide (2 ≤ x.op.kind) && p.full.heapy)
    | none => false)).map (·.1)

def endsWell (S : List Nat) (σ : Env) : Bool := S.all fun n => (Env.get σ n).isNone

def inGuard (σ : Env) (x : AOper) (g : Nat) (w : Bool) (n : Nat) : Bool := n == g || (x.op.tmps.contains n && (match Env.get σ n with
  | some (some p) => (match p.guard with
    | some (g', w', _) => g' == g && w' == w
    | none => false)
  | _ => false))

/-- An operation that is written down. -/
def putOp (S : List Nat) (x : AOper) (rest : Env → CTree) (σ : Env) : CTree :=
  if x.op.kind < 2 ∧ (mkE σ x).isSome = true then
    match mkE σ x with
    | none => .ff
    | some p =>
      match x.dst with
      | none => chks (σ.mark (strict σ x)).owed (.chk p.full (rest (σ.mark fun _ => true)))
      | some d => chks (σ.mark (strict σ x)).owed (.asg d p.full (rest ((σ.mark fun _ => true).write d)))
  else
    match x.guard with
    | none =>
      match uses σ none (nub x.op.tmps) with
      | none => .ff
      | some as => chks (σ.mark fun n => x.op.tmps.contains n).owed (.op x.dst (x.op.ren (pos (nub x.op.tmps))) as (rest (((σ.mark fun _ => true).heap).writes x.dst)))
    | some (g, w) =>
      match use σ none g, uses σ (some (g, w)) (nub x.op.tmps) with
      | some eg, some as => chks (σ.mark (inGuard σ x g w)).owed (.opg eg w x.dst (x.op.ren (pos (nub x.op.tmps))) as (rest (((σ.mark fun _ => true).heap).writes x.dst)))
      | _, _ => .ff

def later (S : List Nat) (x : AOper) (d : Nat) : Bool := decide (x.op.kind < 2) && !S.contains d && (match x.guard with
  | none => true
  | some (g, _) => g != d)

def lost (σ : Env) (d : Nat) : Env := σ.filter fun y => y.1 == d || (match y.2 with
  | some q => q.touches d
  | none => false)

def compOp (S : List Nat) (x : AOper) (t : RTree) (rest : Env → CTree) (σ : Env) : CTree :=
  match stale σ x t with
  | [] =>
    match x.dst, mkE σ x with
    | some d, some p =>
      if later S x d = true then chks (Env.owed (lost σ d)) (rest ((d, some ⟨p.guard, p.e, p.full.atom⟩) :: (σ.mark (strict σ x)).write d))
      else putOp S x rest σ
    | _, _ => putOp S x rest σ
  | l => flush l σ (putOp S x rest)

def compT (S : List Nat) : RTree → Env → CTree
  | .nil, σ => if endsWell S σ = true then chks σ.owed .nil else .ff
  | .tt, σ => chks σ.owed .tt
  | .ff, _ => .ff
  | .both a b, σ => .both (compT S a σ) (compT S b σ)
  | .op x t, σ => compOp S x t (compT S t) σ

/-! ### Soundness -/

theorem chks_iff {es : List Ex} {t : CTree} {K : (Nat → V) → Heap → Prop} {tm : Nat → V} {h : Heap} : Wct qf C (chks es t) K tm h ↔ (∀ e ∈ es, ∃ v, e.ev qf tm h = some v) ∧ Wct qf C t K tm h := by
  induction es with
  | nil => simp [chks]
  | cons e es ih =>
    show (_ ∧ Wct qf C (chks es t) K tm h) ↔ _
    rw [ih]
    simp only [List.mem_cons, forall_eq_or_imp, and_assoc]

theorem get_cons (m n : Nat) (p : Option Pend) (σ : Env) : Env.get ((m, p) :: σ) n = if n = m then some p else Env.get σ n := rfl
theorem cut_cons (m d : Nat) (f : Pend → Bool) (p : Option Pend) (σ : Env) : Env.cut d f ((m, p) :: σ) = if m = d then Env.cut d f σ else (m, p.bind fun p => if f p then none else some p) :: Env.cut d f σ := rfl

theorem get_cut_self (d : Nat) (f : Pend → Bool) : ∀ (σ : Env), Env.get (Env.cut d f σ) d = none
  | [] => rfl
  | (m, p) :: σ => by
    rw [cut_cons]
    split
    · exact get_cut_self d f σ
    · rename_i e
      rw [get_cons, if_neg (Ne.symm e)]
      exact get_cut_self d f σ

theorem get_cut_ne {n d : Nat} (hne : n ≠ d) (f : Pend → Bool) : ∀ (σ : Env), Env.get (Env.cut d f σ) n = (Env.get σ n).map fun p => p.bind fun p => if f p then none else some p
  | [] => rfl
  | (m, p) :: σ => by
    rw [cut_cons, get_cons]
    split
    · rename_i e
      subst e
      rw [if_neg hne]
      exact get_cut_ne hne f σ
    · rw [get_cons]
      split
      · rfl
      · exact get_cut_ne hne f σ

theorem get_write_self (d : Nat) (σ : Env) : Env.get (σ.write d) d = none := get_cut_self d _ σ
theorem get_write_ne {n d : Nat} (hne : n ≠ d) (σ : Env) : Env.get (σ.write d) n = (Env.get σ n).map fun p => p.bind fun p => if p.touches d then none else some p := get_cut_ne hne _ σ

theorem get_map (f : Nat → Option Pend → Option Pend) (n : Nat) : ∀ (σ : Env), Env.get (σ.map fun x => (x.1, f x.1 x.2)) n = (Env.get σ n).map (f n)
  | [] => rfl
  | (m, p) :: σ => by
    rw [List.map_cons, get_cons, get_cons]
    split
    · rename_i e; subst e; rfl
    · exact get_map f n σ

theorem get_mem {n : Nat} {p : Option Pend} : ∀ {σ : Env}, Env.get σ n = some p → (n, p) ∈ σ
  | (m, q) :: σ, h => by
    rw [get_cons] at h
    split at h
    · rename_i e; subst e; injection h with h; subst h; simp
    · exact List.mem_cons_of_mem _ (get_mem h)

theorem owed_mem {σ : Env} {n : Nat} {p : Pend} (h : Env.get σ n = some (some p)) (ho : p.ok = false) : p.full ∈ σ.owed := by
  refine List.mem_filterMap.2 ⟨_, get_mem h, ?_⟩
  simp [ho]

/-- What the pending expressions have to do with the values that the temporaries should have. -/
def RS (qf : FuncId → List V → Heap → Option V) (σ : Env) (tm : Nat → V) (val : Nat → Option V) (h : Heap) : Prop := ∀ n,
  match Env.get σ n with
  | none => val n = some (tm n)
  | some none => True
  | some (some p) => p.full.ev qf tm h = val n ∧ ∀ g w eg, p.guard = some (g, w, eg) → eg.ev qf tm h = val g

theorem RS.mark {σ : Env} {tm : Nat → V} {val : Nat → Option V} {h : Heap} (r : RS qf σ tm val h) (b : Nat → Bool) : RS qf (σ.mark b) tm val h := by
  intro n
  have := r n
  unfold Env.mark
  rw [get_map fun m p => p.map fun p => ⟨p.guard, p.e, p.ok || b m⟩]
  cases hg : Env.get σ n with
  | none => rw [hg] at this; exact this
  | some p =>
    cases p with
    | none => trivial
    | some p => rw [hg] at this; exact this

theorem RS.heap {σ : Env} {tm : Nat → V} {val : Nat → Option V} {h : Heap} (r : RS qf σ tm val h) (h' : Heap) : RS qf σ.heap tm val h' := by
  intro n
  have := r n
  unfold Env.heap
  rw [get_map fun _ p => p.bind fun p => if p.full.heapy then none else some p]
  cases hg : Env.get σ n with
  | none => rw [hg] at this; exact this
  | some p =>
    cases p with
    | none => trivial
    | some p =>
      rw [hg] at this
      simp only [Option.map_some, Option.bind_some]
      by_cases c : p.full.heapy = true
      · rw [if_pos c]; trivial
      · rw [if_neg c]
        simp only [Bool.not_eq_true] at c
        refine ⟨by rw [ev_still h' h c]; exact this.1, fun g w eg hp => ?_⟩
        have h2 := this.2 g w eg hp
        unfold Pend.full at c
        rw [hp] at c
        simp only [Ex.heapy, Bool.or_eq_false_iff] at c
        rw [ev_still h' h c.1]; exact h2

/-- Behind a writing, of the others. -/
theorem RS.write_ne {σ : Env} {tm : Nat → V} {val : Nat → Option V} {h : Heap} (r : RS qf σ tm val h) (d : Nat) (tm' : Nat → V) (ht : tm' = tm ∨ ∃ v, tm' = put tm d v) (val' : Nat → Option V) (hv : ∀ m, m ≠ d → val' m = val m) {n : Nat} (hn : n ≠ d) :
    match Env.get (σ.write d) n with
    | none => val' n = some (tm' n)
    | some none => True
    | some (some p) => p.full.ev qf tm' h = val' n ∧ ∀ g w eg, p.guard = some (g, w, eg) → eg.ev qf tm' h = val' g := by
  have := r n
  rw [get_write_ne hn]
  cases hg : Env.get σ n with
  | none =>
    rw [hg] at this
    simp only [Option.map_none]
    rw [hv n hn, this]
    rcases ht with rfl | ⟨v, rfl⟩
    · rfl
    · simp [put, hn]
  | some p =>
    cases p with
    | none => trivial
    | some p =>
      rw [hg] at this
      simp only [Option.map_some, Option.bind_some]
      by_cases c : p.touches d = true
      · rw [if_pos c]; trivial
      · rw [if_neg c]
        simp only [Bool.not_eq_true] at c
        have hev : ∀ {e : Ex}, e.reads d = false → e.ev qf tm' h = e.ev qf tm h := by
          intro e he
          rcases ht with rfl | ⟨v, rfl⟩
          · rfl
          · exact ev_put he
        unfold Pend.touches at c
        cases hp : p.guard with
        | none =>
          rw [hp] at c
          simp only [Bool.or_false] at c
          have hf : p.full = p.e := by unfold Pend.full; rw [hp]
          have hfr : p.full.reads d = false := by rw [hf]; exact c
          exact ⟨by rw [hev hfr, hv n hn]; exact this.1, fun g w eg hh => by rw [hp] at hh; cases hh⟩
        | some y =>
          obtain ⟨g, w, eg⟩ := y
          rw [hp] at c
          simp only [Bool.or_eq_false_iff, beq_eq_false_iff_ne] at c
          have hf : p.full = .gd eg w p.e := by unfold Pend.full; rw [hp]
          have hfr : p.full.reads d = false := by rw [hf]; simp [Ex.reads, c.1, c.2.2]
          refine ⟨by rw [hev hfr, hv n hn]; exact this.1, fun g' w' eg' hh => ?_⟩
          rw [hp] at hh
          injection hh with hh; injection hh with h1 h2; injection h2 with h2 h3
          subst h1; subst h2; subst h3
          rw [hev c.2.2, hv g c.2.1]
          exact this.2 g w eg hp

theorem RS.write {σ : Env} {tm : Nat → V} {val : Nat → Option V} {h : Heap} (r : RS qf σ tm val h) (d : Nat) (v : V) : RS qf (σ.write d) (put tm d v) (fun n => if n = d then some v else val n) h := by
  intro n
  by_cases hn : n = d
  · subst hn
    rw [get_write_self]
    simp [put]
  · exact r.write_ne d _ (.inr ⟨v, rfl⟩) (fun n => if n = d then some v else val n) (fun m hm => if_neg hm) hn

theorem RS.settle {σ : Env} {tm : Nat → V} {val : Nat → Option V} {h : Heap} (r : RS qf σ tm val h) (d : Nat) (v : V) (hv : val d = some v) : RS qf (σ.settle d) (put tm d v) val h := by
  intro n
  have := r n
  by_cases hn : n = d
  · subst hn
    unfold Env.settle
    rw [get_cut_self]
    simp [put, hv]
  · unfold Env.settle
    rw [get_cut_ne hn]
    cases hg : Env.get σ n with
    | none => rw [hg] at this; simpa [put, hn] using this
    | some p =>
      cases p with
      | none => trivial
      | some p =>
        rw [hg] at this
        simp only [Option.map_some, Option.bind_some]
        by_cases c : p.full.reads d = true
        · rw [if_pos c]; trivial
        · rw [if_neg c]
          simp only [Bool.not_eq_true] at c
          refine ⟨by rw [ev_put c]; exact this.1, fun g w eg hp => ?_⟩
          have hf : p.full = .gd eg w p.e := by unfold Pend.full; rw [hp]
          rw [hf] at c
          simp only [Ex.reads, Bool.or_eq_false_iff] at c
          rw [ev_put c.1]
          exact this.2 g w eg hp

theorem use_sound {σ : Env} {tm : Nat → V} {val : Nat → Option V} {h : Heap} (r : RS qf σ tm val h) {g : Option (Nat × Bool)} (hg : ∀ gt w, g = some (gt, w) → val gt = some (.bool w)) {n : Nat} {e : Ex} (hu : use σ g n = some e) : e.ev qf tm h = val n := by
  have := r n
  unfold use at hu
  split at hu
  · rename_i hget
    rw [hget] at this
    injection hu with hu; subst hu
    exact this.symm
  · cases hu
  · rename_i p hget
    rw [hget] at this
    simp only at this
    split at hu
    · rename_i hp
      injection hu with hu; subst hu
      have hf : p.full = p.e := by unfold Pend.full; rw [hp]
      rw [← hf]; exact this.1
    · rename_i g' w' eg hp
      have hf : p.full = .gd eg w' p.e := by unfold Pend.full; rw [hp]
      split at hu
      · rename_i hgg
        injection hu with hu; subst hu
        have h1 := this.1
        rw [hf] at h1
        simp only [Ex.ev] at h1
        rw [this.2 g' w' eg hp, hg g' w' hgg] at h1
        simpa [gdV] using h1
      · injection hu with hu; subst hu
        rw [← hf]; exact this.1

theorem uses_sound {σ : Env} {tm : Nat → V} {tmA : Nat → V} {h : Heap} (r : RS qf σ tm (fun n => some (tmA n)) h) {g : Option (Nat × Bool)} (hg : ∀ gt w, g = some (gt, w) → tmA gt = .bool w) : ∀ {u : List Nat} {as : List Ex}, uses σ g u = some as → evs qf tm h as = some (u.map tmA)
  | [], as, hu => by injection hu with hu; subst hu; rfl
  | n :: u, as, hu => by
    unfold uses at hu
    split at hu
    · rename_i e es h1 h2
      injection hu with hu; subst hu
      simp only [evs, use_sound r (fun gt w hh => by simp [hg gt w hh]) h1, uses_sound r hg h2, Option.bind_some, List.map_cons]
    · cases hu

theorem shape_sound {o : AOp} {as : List Ex} {e : Ex} {tm tmA : Nat → V} {h : Heap} (hk : o.kind < 2) (ha : evs qf tm h as = some ((nub o.tmps).map tmA)) (hs : shape o (nub o.tmps) as = some e) : e.ev qf tm h = apure qf o tmA h := by
  have loc1 : ∀ {vs : List V}, evs qf tm h as = some vs → apure qf (o.ren (pos (nub o.tmps))) (loc vs) h = apure qf o tmA h := by
    intro vs hvs
    rw [ha] at hvs; injection hvs with hvs; subst hvs
    exact apure_loc
  unfold shape at hs
  split at hs
  · rename_i m a
    injection hs with hs; subst hs
    have e1 : nub (AOp.mov (.t m)).tmps = [m] := rfl
    rw [e1] at ha
    simp only [evs, List.map_cons, List.map_nil] at ha
    cases hx : a.ev qf tm h with
    | none => rw [hx] at ha; cases ha
    | some x =>
      rw [hx] at ha
      simp at ha
      subst ha
      rfl
  · injection hs with hs; subst hs
    rfl
  · injection hs with hs; subst hs
    exact loc1 rfl
  · rename_i a _
    injection hs with hs; subst hs
    simp only [evs] at ha loc1
    simp only [Ex.ev]
    cases hx : a.ev qf tm h with
    | none => rw [hx] at ha; cases ha
    | some x => rw [hx] at loc1; exact loc1 rfl
  · rename_i a b
    injection hs with hs; subst hs
    simp only [evs] at ha loc1
    simp only [Ex.ev]
    cases hx : a.ev qf tm h with
    | none => rw [hx] at ha; cases ha
    | some x =>
      cases hy : b.ev qf tm h with
      | none => rw [hx, hy] at ha; cases ha
      | some y => rw [hx, hy] at loc1; exact loc1 rfl
  · rename_i a b d
    injection hs with hs; subst hs
    simp only [evs] at ha loc1
    simp only [Ex.ev]
    cases hx : a.ev qf tm h with
    | none => rw [hx] at ha; cases ha
    | some x =>
      cases hy : b.ev qf tm h with
      | none => rw [hx, hy] at ha; cases ha
      | some y =>
        cases hz : d.ev qf tm h with
        | none => rw [hx, hy, hz] at ha; cases ha
        | some z => rw [hx, hy, hz] at loc1; exact loc1 rfl
  · cases hs

theorem short_spec {σ : Env} {o : AOp} {r : Ex × Nat} (hs : short σ o = some r) : ∃ g w eg e k, Env.get σ r.2 = some (some ⟨some (g, w, eg), e, k⟩) ∧
    ((w = false ∧ o = .pick (.t g) (.c (.bool true)) (.t r.2) ∧ r.1 = .or eg e) ∨ (w = true ∧ o = .pick (.t g) (.t r.2) (.c (.bool false)) ∧ r.1 = .and eg e)) := by
  unfold short at hs
  split at hs
  · split at hs
    · rename_i hg
      split at hs
      · rename_i c
        injection hs with hs; subst hs; subst c
        exact ⟨_, _, _, _, _, hg, .inl ⟨rfl, rfl, rfl⟩⟩
      · cases hs
    · cases hs
  · split at hs
    · rename_i hg
      split at hs
      · rename_i c
        injection hs with hs; subst hs; subst c
        exact ⟨_, _, _, _, _, hg, .inr ⟨rfl, rfl, rfl⟩⟩
      · cases hs
    · cases hs
  · cases hs

theorem bare_sound {σ : Env} {tm tmA : Nat → V} {h : Heap} (r : RS qf σ tm (fun n => some (tmA n)) h) {x : AOper} (hk : x.op.kind < 2) (hg : ∀ gt w, x.guard = some (gt, w) → tmA gt = .bool w) {e : Ex} (hb : bare σ x = some e) : e.ev qf tm h = apure qf x.op tmA h := by
  unfold bare at hb
  split at hb
  · rename_i y hy
    injection hb with hb; subst hb
    obtain ⟨g, w, eg, e, k, hget, hc⟩ := short_spec hy
    have := r y.2
    rw [hget] at this
    obtain ⟨h1, h2⟩ := this
    have h3 : eg.ev qf tm h = some (tmA g) := h2 g w eg rfl
    clear h2
    simp only [Pend.full, Ex.ev, h3] at h1
    rcases hc with ⟨rfl, ho, hr⟩ | ⟨rfl, ho, hr⟩
    · rw [hr, ho]
      simp only [Ex.ev, h3, apure, Opnd.ev]
      by_cases hb : ∃ b, tmA g = .bool b
      · obtain ⟨b, hb⟩ := hb
        rw [hb] at h1 ⊢
        cases b with
        | true => simp [orV, aPick]
        | false => simp [gdV] at h1; simp [orV, aPick, h1]
      · cases hv : tmA g <;> first
          | rfl
          | exact absurd ⟨_, hv⟩ hb
    · rw [hr, ho]
      simp only [Ex.ev, h3, apure, Opnd.ev]
      by_cases hb : ∃ b, tmA g = .bool b
      · obtain ⟨b, hb⟩ := hb
        rw [hb] at h1 ⊢
        cases b with
        | false => simp [andV, aPick]
        | true => simp [gdV] at h1; simp [andV, aPick, h1]
      · cases hv : tmA g <;> first
          | rfl
          | exact absurd ⟨_, hv⟩ hb
  · split at hb
    · cases hb
    · rename_i as has
      exact shape_sound hk (uses_sound r hg has) hb

theorem mkE_guard {σ : Env} {tm : Nat → V} {val : Nat → Option V} {h : Heap} (r : RS qf σ tm val h) {x : AOper} {p : Pend} (hm : mkE σ x = some p) : ∀ g w eg, p.guard = some (g, w, eg) → x.guard = some (g, w) ∧ eg.ev qf tm h = val g ∧ use σ none g = some eg := by
  intro g w eg hp
  unfold mkE at hm
  split at hm
  · cases hm
  · split at hm
    · injection hm with hm; subst hm; cases hp
    · rename_i g' w' hxg
      simp only [Option.map_eq_some_iff] at hm
      obtain ⟨eg', h1, rfl⟩ := hm
      injection hp with hp; injection hp with e1 e2; injection e2 with e2 e3
      subst e1; subst e2; subst e3
      exact ⟨hxg, use_sound r (fun _ _ hh => by cases hh) h1, h1⟩

theorem mkE_sound {σ : Env} {tm tmA : Nat → V} {h : Heap} (r : RS qf σ tm (fun n => some (tmA n)) h) {x : AOper} (hk : x.op.kind < 2) {p : Pend} (hm : mkE σ x = some p) : p.full.ev qf tm h = pv qf x tmA h := by
  unfold mkE at hm
  split at hm
  · cases hm
  · rename_i e he
    split at hm
    · rename_i hxg
      injection hm with hm; subst hm
      simp only [Pend.full, pv, hxg]
      exact bare_sound r hk (fun gt w hh => by rw [hxg] at hh; cases hh) he
    · rename_i g w hxg
      simp only [Option.map_eq_some_iff] at hm
      obtain ⟨eg, h1, rfl⟩ := hm
      have h2 := use_sound r (fun _ _ hh => by cases hh) h1
      simp only [Pend.full, Ex.ev, pv, hxg, h2]
      cases hg : tmA g <;> simp only [gdV]
      rename_i b
      by_cases c : b = w
      · subst c
        simp only [if_true]
        refine bare_sound r hk (fun gt w' hh => ?_) he
        rw [hxg] at hh; injection hh with hh; injection hh with e1 e2; subst e1; subst e2
        exact hg
      · simp [c]

theorem shape_strict {o : AOp} {u : List Nat} {as : List Ex} {e : Ex} {tm : Nat → V} {h : Heap} (hs : shape o u as = some e) {v : V} (hv : e.ev qf tm h = some v) : ∀ a ∈ as, ∃ v, a.ev qf tm h = some v := by
  unfold shape at hs
  split at hs
  · rename_i a
    injection hs with hs; subst hs
    intro b hb; simp at hb; subst hb; exact ⟨v, hv⟩
  · intro b hb; simp at hb
  · intro b hb; simp at hb
  · rename_i a _
    injection hs with hs; subst hs
    simp only [Ex.ev] at hv
    intro b hb; simp at hb; subst hb
    cases hx : b.ev qf tm h with
    | none => rw [hx] at hv; cases hv
    | some x => exact ⟨x, rfl⟩
  · rename_i a a2
    injection hs with hs; subst hs
    simp only [Ex.ev] at hv
    cases hx : a.ev qf tm h with
    | none => rw [hx] at hv; cases hv
    | some x =>
      cases hy : a2.ev qf tm h with
      | none => rw [hx, hy] at hv; cases hv
      | some y =>
        intro b hb; simp at hb
        rcases hb with rfl | rfl
        · exact ⟨_, hx⟩
        · exact ⟨_, hy⟩
  · rename_i a a2 a3
    injection hs with hs; subst hs
    simp only [Ex.ev] at hv
    cases hx : a.ev qf tm h with
    | none => rw [hx] at hv; cases hv
    | some x =>
      cases hy : a2.ev qf tm h with
      | none => rw [hx, hy] at hv; cases hv
      | some y =>
        cases hz : a3.ev qf tm h with
        | none => rw [hx, hy, hz] at hv; cases hv
        | some z =>
          intro b hb; simp at hb
          rcases hb with rfl | rfl | rfl
          · exact ⟨_, hx⟩
          · exact ⟨_, hy⟩
          · exact ⟨_, hz⟩
  · cases hs

theorem uses_mem {σ : Env} {g : Option (Nat × Bool)} {n : Nat} : ∀ {u : List Nat} {as : List Ex}, uses σ g u = some as → n ∈ u → ∃ a ∈ as, use σ g n = some a
  | m :: u, as, hu, hn => by
    unfold uses at hu
    split at hu
    · rename_i e es h1 h2
      injection hu with hu; subst hu
      rcases List.mem_cons.1 hn with rfl | hn
      · exact ⟨e, by simp, h1⟩
      · obtain ⟨a, ha, hh⟩ := uses_mem h2 hn
        exact ⟨a, List.mem_cons_of_mem _ ha, hh⟩
    · cases hu

theorem use_full {σ : Env} {n : Nat} {p : Pend} (hg : Env.get σ n = some (some p)) : use σ none n = some p.full := by
  unfold use Pend.full
  rw [hg]
  simp only
  split
  · rename_i h; simp [h]
  · rename_i h; simp [h]

theorem gdV_some {a e : Option V} {w : Bool} {v : V} (h : gdV a w e = some v) : a = some .undef ∨ ∃ b, a = some (.bool b) ∧ (b = w → e = some v) := by
  unfold gdV at h
  split at h
  · rename_i b
    refine .inr ⟨b, rfl, fun hb => ?_⟩
    rw [if_pos hb] at h; exact h
  · exact .inl rfl
  · cases h

theorem gdV_of {a e : Option V} {w : Bool} (h : a = some .undef ∨ ∃ b, a = some (.bool b) ∧ (b = w → ∃ v, e = some v)) : ∃ v, gdV a w e = some v := by
  rcases h with rfl | ⟨b, rfl, h⟩
  · exact ⟨_, rfl⟩
  · unfold gdV
    by_cases c : b = w
    · simp only [if_pos c]; exact h c
    · simp only [if_neg c]; exact ⟨_, rfl⟩

theorem strict_some {σ : Env} {tm : Nat → V} {val : Nat → Option V} {h : Heap} (r : RS qf σ tm val h) {x : AOper} {q p : Pend} (hm : mkE σ x = some q) {n : Nat} (hs : strict σ x n = true) (hget : Env.get σ n = some (some p)) {v : V} (hv : q.full.ev qf tm h = some v) :
    ∃ v, p.full.ev qf tm h = some v := by
  have hm0 := hm
  unfold mkE at hm
  split at hm
  · cases hm
  · rename_i e he
    unfold bare at he
    unfold strict at hs
    split at hm
    · rename_i hxg
      rw [hxg] at hs he
      injection hm with hm; subst hm
      simp only [Pend.full] at hv
      simp only at hs
      split at hs
      · rename_i y hy
        rw [hy] at he
        injection he with he; subst he
        obtain ⟨g, w, eg, e, k, hget', hc⟩ := short_spec hy
        have : n = y.2 := by simpa using hs
        subst this
        rw [hget] at hget'; injection hget' with hget'; injection hget' with hget'; subst hget'
        simp only [Pend.full, Ex.ev]
        rcases hc with ⟨rfl, ho, hr⟩ | ⟨rfl, ho, hr⟩
        · rw [hr] at hv
          simp only [Ex.ev] at hv
          unfold orV at hv
          split at hv
          · rename_i e1; rw [e1]; exact ⟨_, rfl⟩
          · rename_i e1; rw [e1]; exact ⟨v, by simpa [gdV] using hv⟩
          · cases hv
        · rw [hr] at hv
          simp only [Ex.ev] at hv
          unfold andV at hv
          split at hv
          · rename_i e1; rw [e1]; exact ⟨v, by simpa [gdV] using hv⟩
          · rename_i e1; rw [e1]; exact ⟨_, rfl⟩
          · cases hv
      · rename_i hy
        rw [hy] at he
        simp only at he
        split at he
        · cases he
        · rename_i as has
          obtain ⟨a, ha, hua⟩ := uses_mem has (mem_nub (by simpa using hs))
          rw [use_full hget] at hua
          injection hua with hua
          rw [hua]
          exact shape_strict he hv a ha
    · rename_i g w hxg
      simp only [Option.map_eq_some_iff] at hm
      obtain ⟨eg, h1, rfl⟩ := hm
      rw [hxg] at hs
      simp only [Pend.full, Ex.ev] at hv
      have hgd := gdV_some hv
      simp only [Bool.or_eq_true, beq_iff_eq, Bool.and_eq_true] at hs
      rcases hs with rfl | ⟨⟨hsh, hn⟩, hp⟩
      · rw [use_full hget] at h1
        injection h1 with h1
        rw [h1]
        rcases hgd with e1 | ⟨b, e1, _⟩ <;> exact ⟨_, e1⟩
      · rw [hget] at hp
        simp only at hp
        split at hp
        · rename_i g' w' eg' hpg
          simp only [Bool.and_eq_true, beq_iff_eq] at hp
          obtain ⟨rfl, rfl⟩ := hp
          have hf : p.full = .gd eg' w' p.e := by unfold Pend.full; rw [hpg]
          have e1 := (mkE_guard r hm0 g' w' eg rfl).2.1
          have hr := r n
          rw [hget] at hr
          have e2 := hr.2 g' w' eg' hpg
          rw [hf]
          simp only [Ex.ev]
          rw [e2, ← e1]
          refine gdV_of ?_
          rcases hgd with e3 | ⟨b, e3, e4⟩
          · exact .inl e3
          · refine .inr ⟨b, e3, fun hb => ?_⟩
            have hsn : short σ x.op = none := by simpa using hsh
            rw [hsn] at he
            simp only at he
            split at he
            · cases he
            · rename_i as has
              obtain ⟨a, ha, hua⟩ := uses_mem has (mem_nub (by simpa using hn))
              have : use σ x.guard n = some p.e := by
                unfold use
                rw [hget]
                simp only [hpg, hxg]
                simp
              rw [this] at hua
              injection hua with hua
              rw [hua]
              exact shape_strict he (e4 hb) a ha
        · cases hp

theorem evs_mem {tm : Nat → V} {h : Heap} {a : Ex} : ∀ {as : List Ex} {vs : List V}, evs qf tm h as = some vs → a ∈ as → ∃ v, a.ev qf tm h = some v
  | a0 :: as, vs, hvs, ha => by
    simp only [evs] at hvs
    cases h0 : a0.ev qf tm h with
    | none => rw [h0] at hvs; cases hvs
    | some v0 =>
      rw [h0] at hvs
      cases h1 : evs qf tm h as with
      | none => rw [h1] at hvs; cases hvs
      | some vs1 =>
        rcases List.mem_cons.1 ha with rfl | ha
        · exact ⟨v0, h0⟩
        · exact evs_mem h1 ha

theorem atom_some {e : Ex} (ha : e.atom = true) (tm : Nat → V) (h : Heap) : ∃ v, e.ev qf tm h = some v := by
  cases e <;> first
    | exact ⟨_, rfl⟩
    | cases ha

/-- Every pending expression is asked for its value before anything turns. -/
def Owes (qf : FuncId → List V → Heap → Option V) (C : FuncId → List V → Heap → (V → Heap → Prop) → Prop) (f : Env → CTree) : Prop := ∀ (σ : Env) (tm : Nat → V) (val : Nat → Option V) (h : Heap) (K : (Nat → V) → Heap → Prop), RS qf σ tm val h → Wct qf C (f σ) K tm h →
  ∀ n p, Env.get σ n = some (some p) → p.ok = false → ∃ v, p.full.ev qf tm h = some v

theorem get_mark {σ : Env} {b : Nat → Bool} {n : Nat} {p : Pend} (hg : Env.get σ n = some (some p)) : Env.get (σ.mark b) n = some (some ⟨p.guard, p.e, p.ok || b n⟩) := by
  unfold Env.mark
  rw [get_map fun m p => p.map fun p => ⟨p.guard, p.e, p.ok || b m⟩, hg]
  rfl

theorem owed_or {σ : Env} {b : Nat → Bool} {t : CTree} {K : (Nat → V) → Heap → Prop} {tm : Nat → V} {h : Heap} (hW : Wct qf C (chks (σ.mark b).owed t) K tm h) {n : Nat} {p : Pend} (hg : Env.get σ n = some (some p)) (ho : p.ok = false)
    (hb : b n = true → Wct qf C t K tm h → ∃ v, p.full.ev qf tm h = some v) : ∃ v, p.full.ev qf tm h = some v := by
  obtain ⟨h1, h2⟩ := chks_iff.1 hW
  by_cases c : b n = true
  · exact hb c h2
  · have := owed_mem (get_mark (b := b) hg) (by simp [ho, c])
    exact h1 _ this

theorem putOp_owes {S : List Nat} {x : AOper} {rest : Env → CTree} : Owes qf C (putOp S x rest) := by
  intro σ tm val h K r hW n p hg ho
  unfold putOp at hW
  split at hW
  · split at hW
    · exact hW.elim
    · rename_i q hq
      split at hW
      · exact owed_or hW hg ho fun hs ⟨⟨v, hv⟩, _⟩ => strict_some r hq hs hg hv
      · refine owed_or hW hg ho fun hs hw => ?_
        simp only [Wct] at hw
        split at hw
        · rename_i v hv; exact strict_some r hq hs hg hv
        · exact hw.elim
  · split at hW
    · split at hW
      · exact hW.elim
      · rename_i as has
        refine owed_or hW hg ho fun hs hw => ?_
        simp only [Wct] at hw
        split at hw
        · rename_i vs hvs
          obtain ⟨a, ha, hua⟩ := uses_mem has (mem_nub (by simpa using hs))
          rw [use_full hg] at hua
          injection hua with hua
          rw [hua]
          exact evs_mem hvs ha
        · exact hw.elim
    · rename_i g w hxg
      split at hW
      · rename_i eg as heg has
        refine owed_or hW hg ho fun hs hw => ?_
        have hgd : eg.ev qf tm h = some .undef ∨ ∃ b, eg.ev qf tm h = some (.bool b) ∧ (b = w → ∃ vs, evs qf tm h as = some vs) := by
          simp only [Wct] at hw
          split at hw
          · rename_i b hh
            refine .inr ⟨b, hh, fun hb => ?_⟩
            rw [if_pos hb] at hw
            split at hw
            · rename_i vs hvs; exact ⟨vs, hvs⟩
            · exact hw.elim
          · rename_i hh; exact .inl hh
          · exact hw.elim
        simp only [inGuard, Bool.or_eq_true, beq_iff_eq, Bool.and_eq_true] at hs
        rcases hs with rfl | ⟨hn, hp⟩
        · rw [use_full hg] at heg
          injection heg with heg
          rw [heg]
          rcases hgd with e1 | ⟨b, e1, _⟩ <;> exact ⟨_, e1⟩
        · rw [hg] at hp
          simp only at hp
          split at hp
          · rename_i g' w' eg' hpg
            simp only [Bool.and_eq_true, beq_iff_eq] at hp
            obtain ⟨rfl, rfl⟩ := hp
            have hf : p.full = .gd eg' w' p.e := by unfold Pend.full; rw [hpg]
            have hr := r n
            rw [hg] at hr
            have e2 := hr.2 g' w' eg' hpg
            have e1 := use_sound r (fun _ _ hh => by cases hh) heg
            rw [hf]
            simp only [Ex.ev]
            rw [e2, ← e1]
            refine gdV_of ?_
            rcases hgd with e3 | ⟨b, e3, e4⟩
            · exact .inl e3
            · refine .inr ⟨b, e3, fun hb => ?_⟩
              obtain ⟨vs, hvs⟩ := e4 hb
              obtain ⟨a, ha, hua⟩ := uses_mem has (mem_nub (by simpa using hn))
              have : use σ (some (g', w')) n = some p.e := by
                unfold use
                rw [hg]
                simp only [hpg]
                simp
              rw [this] at hua
              injection hua with hua
              rw [hua]
              exact evs_mem hvs ha
          · cases hp
      · exact hW.elim

theorem flush_owes {f : Env → CTree} (hf : Owes qf C f) : ∀ (l : List Nat), Owes qf C (fun σ => flush l σ f)
  | [] => hf
  | n :: l => by
    intro σ tm val h K r hW m p hg ho
    simp only [flush] at hW
    split at hW
    · rename_i q hq
      obtain ⟨h1, hW⟩ := chks_iff.1 hW
      simp only [Wct] at hW
      split at hW
      · rename_i v hv
        by_cases c : m = n
        · subst c
          rw [hg] at hq; injection hq with hq; injection hq with hq; subst hq
          exact ⟨v, hv⟩
        · by_cases c2 : p.full.reads n = true
          · refine h1 _ (List.mem_filterMap.2 ⟨(m, some p), List.mem_filter.2 ⟨get_mem hg, by simp [c2]⟩, by simp [ho]⟩)
          · have hn := r n
            rw [hq] at hn
            have hvn : val n = some v := by rw [← hn.1, hv]
            have r' := r.settle n v hvn
            have hg' : Env.get (σ.settle n) m = some (some p) := by
              unfold Env.settle
              rw [get_cut_ne c, hg]
              simp [c2]
            obtain ⟨u, hu⟩ := flush_owes hf l _ _ val h K r' hW m p hg' ho
            have e1 := r m
            rw [hg] at e1
            have e2 := r' m
            rw [hg'] at e2
            exact ⟨u, by rw [e1.1, ← e2.1, hu]⟩
      · exact hW.elim
    · exact flush_owes hf l σ tm val h K r hW m p hg ho

theorem lost_mem {σ : Env} {n d : Nat} {p : Pend} (hg : Env.get σ n = some (some p)) (ho : p.ok = false) (hl : n = d ∨ p.touches d = true) : p.full ∈ Env.owed (lost σ d) := by
  refine List.mem_filterMap.2 ⟨(n, some p), ?_, by simp [ho]⟩
  unfold lost
  refine List.mem_filter.2 ⟨get_mem hg, ?_⟩
  rcases hl with rfl | hl
  · simp
  · simp [hl]

theorem RS.later {σ : Env} {tm : Nat → V} {val : Nat → Option V} {h : Heap} (r : RS qf σ tm val h) {x : AOper} {q : Pend} (hm : mkE σ x = some q) {d : Nat} (hne : ∀ g w, x.guard = some (g, w) → g ≠ d) (b : Nat → Bool) (k : Bool) (val' : Nat → Option V) (hd : val' d = q.full.ev qf tm h) (hv : ∀ m, m ≠ d → val' m = val m) :
    RS qf ((d, some ⟨q.guard, q.e, k⟩) :: (σ.mark b).write d) tm val' h := by
  intro n
  rw [get_cons]
  by_cases hn : n = d
  · subst hn
    rw [if_pos rfl]
    refine ⟨hd.symm, fun g w eg hp => ?_⟩
    obtain ⟨h1, h2, _⟩ := mkE_guard r hm g w eg hp
    rw [hv g (hne g w h1)]; exact h2
  · rw [if_neg hn]
    exact (r.mark b).write_ne d tm (.inl rfl) val' hv hn

theorem compT_owes {S : List Nat} : ∀ (t : RTree), Owes qf C (compT S t)
  | .nil => by
    intro σ tm val h K r hW n p hg ho
    unfold compT at hW
    split at hW
    · exact (chks_iff.1 hW).1 _ (owed_mem hg ho)
    · exact hW.elim
  | .tt => by
    intro σ tm val h K r hW n p hg ho
    exact (chks_iff.1 hW).1 _ (owed_mem hg ho)
  | .ff => by
    intro σ tm val h K r hW
    exact hW.elim
  | .both a b => by
    intro σ tm val h K r hW
    exact compT_owes a σ tm val h K r hW.1
  | .op x t => by
    intro σ tm val h K r hW n p hg ho
    have ih : Owes qf C (compT S t) := compT_owes t
    unfold compT compOp at hW
    split at hW
    · split at hW
      · rename_i d q hd hm
        split at hW
        · rename_i hl
          have hne : ∀ g w, x.guard = some (g, w) → g ≠ d := by
            intro g w hx
            simp only [later, Bool.and_eq_true, hx, bne_iff_ne] at hl
            exact hl.2
          obtain ⟨h1, h2⟩ := chks_iff.1 hW
          by_cases c : n = d ∨ p.touches d = true
          · exact h1 _ (lost_mem hg ho c)
          · have c1 : n ≠ d := fun e => c (.inl e)
            have c2 : ¬ p.touches d = true := fun e => c (.inr e)
            have r' := r.later hm hne (strict σ x) q.full.atom (fun n => if n = d then q.full.ev qf tm h else val n) (by simp) (fun m hm => by simp [hm])
            by_cases cs : strict σ x n = true
            · have : ∃ v, q.full.ev qf tm h = some v := by
                by_cases ca : q.full.atom = true
                · exact atom_some ca tm h
                · exact ih _ tm _ h K r' h2 d ⟨q.guard, q.e, q.full.atom⟩ (by rw [get_cons, if_pos rfl]) (by simpa using ca)
              obtain ⟨v, hv⟩ := this
              exact strict_some r hm cs hg hv
            · refine ih _ tm _ h K r' h2 n ⟨p.guard, p.e, p.ok || strict σ x n⟩ ?_ (by simp [ho, cs])
              rw [get_cons, if_neg c1, get_write_ne c1, get_mark hg]
              have : Pend.touches d ⟨p.guard, p.e, p.ok || strict σ x n⟩ = p.touches d := rfl
              simp [this, c2]
        · exact putOp_owes σ tm val h K r hW n p hg ho
      · exact putOp_owes σ tm val h K r hW n p hg ho
    · exact flush_owes putOp_owes _ σ tm val h K r hW n p hg ho

theorem RS.put {σ : Env} {tm tmA : Nat → V} {h : Heap} (r : RS qf σ tm (fun n => some (tmA n)) h) (d : Nat) (v : V) : RS qf (σ.write d) (put tm d v) (fun n => some (put tmA d v n)) h := by
  have := r.write d v
  have e : (fun n => if n = d then some v else some (tmA n)) = fun n => some (Abs.put tmA d v n) := by
    funext n; unfold Abs.put; split <;> rfl
  rw [e] at this; exact this

theorem RS.putd {σ : Env} {tm tmA : Nat → V} {h : Heap} (r : RS qf σ tm (fun n => some (tmA n)) h) (d : Option Nat) (v : V) : RS qf (σ.writes d) (putd tm d v) (fun n => some (putd tmA d v n)) h := by
  cases d with
  | none => exact r
  | some d => exact r.put d v

/-- What a compressed piece and its rest have to do with the operations. -/
def Does (qf : FuncId → List V → Heap → Option V) (C : FuncId → List V → Heap → (V → Heap → Prop) → Prop) (K : (Nat → V) → Heap → Prop) (f : Env → CTree) (G : (Nat → V) → Heap → Prop) : Prop := ∀ (σ : Env) (tm tmA : Nat → V) (h : Heap), RS qf σ tm (fun n => some (tmA n)) h → Wct qf C (f σ) K tm h → G tmA h

theorem putOp_does (hC : CMono C) {S : List Nat} {x : AOper} {rest : Env → CTree} {K G : (Nat → V) → Heap → Prop} (hr : Does qf C K rest G) : Does qf C K (putOp S x rest) (Woper qf C x G) := by
  intro σ tm tmA h r hW
  unfold putOp at hW
  split at hW
  · rename_i hc
    split at hW
    · exact hW.elim
    · rename_i q hq
      have hv := mkE_sound r hc.1 hq
      split at hW
      · rename_i hd
        obtain ⟨_, ⟨v, hv'⟩, hW⟩ := chks_iff.1 hW
        refine (Woper_pure hc.1).2 ⟨v, by rw [← hv, hv'], ?_⟩
        rw [hd]
        exact hr _ _ _ _ (r.mark _) hW
      · rename_i d hd
        obtain ⟨_, hW⟩ := chks_iff.1 hW
        simp only [Wct] at hW
        split at hW
        · rename_i v hv'
          refine (Woper_pure hc.1).2 ⟨v, by rw [← hv, hv'], ?_⟩
          rw [hd]
          exact hr _ _ _ _ ((r.mark _).put d v) hW
        · exact hW.elim
  · have step : ∀ {g : Option (Nat × Bool)} {as : List Ex}, (∀ gt w, g = some (gt, w) → tmA gt = .bool w) → uses σ g (nub x.op.tmps) = some as →
        (match evs qf tm h as with
          | some vs => Wop qf C (x.op.ren (pos (nub x.op.tmps))) (loc vs) h fun v h' => Wct qf C (rest (((σ.mark fun _ => true).heap).writes x.dst)) K (putd tm x.dst v) h'
          | none => False) → Wop qf C x.op tmA h fun v h' => G (putd tmA x.dst v) h' := by
      intro g as hg has hw
      rw [uses_sound r hg has] at hw
      exact Wop_mono hC (fun v h' hk => hr _ _ _ _ (((r.mark _).heap h').putd x.dst v) hk) (Wop_loc hw)
    unfold Woper
    split at hW
    · rename_i hxg
      rw [hxg]
      split at hW
      · exact hW.elim
      · rename_i as has
        obtain ⟨_, hW⟩ := chks_iff.1 hW
        exact step (fun _ _ hh => by cases hh) has hW
    · rename_i g w hxg
      rw [hxg]
      split at hW
      · rename_i eg as heg has
        obtain ⟨_, hW⟩ := chks_iff.1 hW
        simp only [Wct] at hW
        rw [use_sound r (fun _ _ hh => by cases hh) heg] at hW
        simp only at hW ⊢
        have skip : Wct qf C (rest (((σ.mark fun _ => true).heap).writes x.dst)) K (putd tm x.dst .undef) h → G (putd tmA x.dst .undef) h := fun hk => hr _ _ _ _ (((r.mark _).heap h).putd x.dst .undef) hk
        split at hW
        · rename_i b hb
          injection hb with hb
          rw [hb]
          simp only
          split at hW
          · rename_i c
            rw [if_pos c]
            refine step (g := some (g, w)) (fun gt w' hh => ?_) has hW
            injection hh with hh; injection hh with e1 e2; subst e1; subst e2
            rw [hb, c]
          · rename_i c
            rw [if_neg c]
            exact skip hW
        · rename_i hb
          injection hb with hb
          rw [hb]
          exact skip hW
        · exact hW.elim
      · exact hW.elim

theorem flush_does {K G : (Nat → V) → Heap → Prop} {f : Env → CTree} (hf : Does qf C K f G) : ∀ (l : List Nat), Does qf C K (fun σ => flush l σ f) G
  | [] => hf
  | n :: l => by
    intro σ tm tmA h r hW
    simp only [flush] at hW
    split at hW
    · rename_i p hp
      obtain ⟨_, hW⟩ := chks_iff.1 hW
      have hn := r n
      rw [hp] at hn
      simp only [Wct] at hW
      rw [hn.1] at hW
      exact flush_does hf l _ _ _ _ (r.settle n (tmA n) rfl) hW
    · exact flush_does hf l _ _ _ _ r hW

theorem compT_does (hC : CMono C) (S : List Nat) {K : (Nat → V) → Heap → Prop} : ∀ (t : RTree), Does qf C K (compT S t) (Wt qf C t fun tm h => ∃ tmc, K tmc h ∧ ∀ n ∈ S, tm n = tmc n)
  | .nil => by
    intro σ tm tmA h r hW
    unfold compT at hW
    split at hW
    · rename_i he
      refine ⟨tm, (chks_iff.1 hW).2, fun n hn => ?_⟩
      have h1 := List.all_eq_true.1 he n hn
      have h2 := r n
      cases hg : Env.get σ n with
      | none => rw [hg] at h2; injection h2
      | some p => rw [hg] at h1; simp at h1
    · exact hW.elim
  | .tt => fun _ _ _ _ _ _ => trivial
  | .ff => fun _ _ _ _ _ hW => hW.elim
  | .both a b => fun σ tm tmA h r hW => ⟨compT_does hC S a σ tm tmA h r hW.1, compT_does hC S b σ tm tmA h r hW.2⟩
  | .op x t => by
    intro σ tm tmA h r hW
    have ih := compT_does hC S (K := K) t
    have hput : Does qf C K (putOp S x (compT S t)) (Wt qf C (.op x t) fun tm h => ∃ tmc, K tmc h ∧ ∀ n ∈ S, tm n = tmc n) := putOp_does hC ih
    unfold compT compOp at hW
    split at hW
    · split at hW
      · rename_i d q hd hm
        split at hW
        · rename_i hl
          have hk : x.op.kind < 2 := by
            simp only [later, Bool.and_eq_true, decide_eq_true_eq] at hl
            exact hl.1.1
          have hne : ∀ g w, x.guard = some (g, w) → g ≠ d := by
            intro g w hx
            simp only [later, Bool.and_eq_true, hx, bne_iff_ne] at hl
            exact hl.2
          obtain ⟨_, hW⟩ := chks_iff.1 hW
          have hv := mkE_sound r hk hm
          have r1 := r.later hm hne (strict σ x) q.full.atom (fun n => if n = d then q.full.ev qf tm h else some (tmA n)) (by simp) (fun m hm => by simp [hm])
          have : ∃ v, q.full.ev qf tm h = some v := by
            by_cases ca : q.full.atom = true
            · exact atom_some ca tm h
            · exact compT_owes t _ tm _ h K r1 hW d ⟨q.guard, q.e, q.full.atom⟩ (by rw [get_cons, if_pos rfl]) (by simpa using ca)
          obtain ⟨v, hv'⟩ := this
          refine (Woper_pure hk).2 ⟨v, by rw [← hv, hv'], ?_⟩
          rw [hd]
          have e : (fun n => if n = d then q.full.ev qf tm h else some (tmA n)) = fun n => some (putd tmA (some d) v n) := by
            funext n; unfold putd put; rw [hv']; simp only; split <;> rfl
          rw [e] at r1
          exact ih _ _ _ _ r1 hW
        · exact hput σ tm tmA h r hW
      · exact hput σ tm tmA h r hW
    · rename_i l hl
      exact flush_does hput _ _ _ _ _ r hW

/-- A compressed region does what the region does. -/
theorem comp_sound (hC : CMono C) {S : List Nat} {t : RTree} {K : (Nat → V) → Heap → Prop} {tm : Nat → V} {h : Heap} (hW : Wct qf C (compT S t []) K tm h) : Wt qf C t (fun tm h => ∃ tmc, K tmc h ∧ ∀ n ∈ S, tm n = tmc n) tm h :=
  compT_does hC S t [] tm tm h (fun _ => rfl) hW

/-- The code with its regions compressed, in order, each by what is live behind it. -/
def compC : ACode → List (List Nat) → ACode × List (List Nat)
  | .region t, hs =>
    match hs with
    | [] => (.region t, [])
    | S :: r => (.cregion S (compT S t []), r)
  | .seq a b, hs => (.seq (compC a hs).1 (compC b (compC a hs).2).1, (compC b (compC a hs).2).2)
  | .cond c a b, hs => (.cond c (compC a hs).1 (compC b (compC a hs).2).1, (compC b (compC a hs).2).2)
  | .block id a, hs => (.block id (compC a hs).1, (compC a hs).2)
  | .loop a, hs => (.loop (compC a hs).1, (compC a hs).2)
  | c, hs => (c, hs)

theorem compC_nil : ∀ (a : ACode), compC a [] = (a, [])
  | .region t => rfl
  | .seq a b => by simp [compC, compC_nil a, compC_nil b]
  | .cond c a b => by simp [compC, compC_nil a, compC_nil b]
  | .block id a => by simp [compC, compC_nil a]
  | .loop a => by simp [compC, compC_nil a]
  | .skip | .exit _ | .ret | .ghost | .keep _ | .after _ _ | .cregion _ _ => rfl

section
variable {x : ACode} {hs : List (List Nat)}
theorem comp_region {t : RTree} (h : (compC x hs).1 = .region t) : x = .region t := by
  cases x <;> first
    | (cases hs <;> simp [compC] at h <;> first | (subst h; rfl) | done)
    | (simp [compC] at h; done)
theorem comp_cregion {S : List Nat} {ct : CTree} (h : (compC x hs).1 = .cregion S ct) : (∃ t, x = .region t ∧ ct = compT S t []) ∨ x = .cregion S ct := by
  cases x <;> first
    | (cases hs <;> simp [compC] at h
       obtain ⟨rfl, rfl⟩ := h
       exact .inl ⟨_, rfl, rfl⟩)
    | (simp [compC] at h; done)
    | (simp [compC] at h; obtain ⟨rfl, rfl⟩ := h; exact .inr rfl)
theorem comp_seq {A B : ACode} (h : (compC x hs).1 = .seq A B) : ∃ a b hs', x = .seq a b ∧ (compC a hs).1 = A ∧ (compC b hs').1 = B := by
  cases x <;> first
    | (cases hs <;> simp [compC] at h; done)
    | (simp [compC] at h; done)
    | (simp [compC] at h; exact ⟨_, _, _, rfl, h.1, h.2⟩)
theorem comp_cond {c : Opnd} {A B : ACode} (h : (compC x hs).1 = .cond c A B) : ∃ a b hs', x = .cond c a b ∧ (compC a hs).1 = A ∧ (compC b hs').1 = B := by
  cases x <;> first
    | (cases hs <;> simp [compC] at h; done)
    | (simp [compC] at h; done)
    | (simp [compC] at h; obtain ⟨rfl, h1, h2⟩ := h; exact ⟨_, _, _, rfl, h1, h2⟩)
theorem comp_block {id : Nat} {A : ACode} (h : (compC x hs).1 = .block id A) : ∃ a, x = .block id a ∧ (compC a hs).1 = A := by
  cases x <;> first
    | (cases hs <;> simp [compC] at h; done)
    | (simp [compC] at h; done)
    | (simp [compC] at h; obtain ⟨rfl, h1⟩ := h; exact ⟨_, rfl, h1⟩)
theorem comp_loop {A : ACode} (h : (compC x hs).1 = .loop A) : ∃ a, x = .loop a ∧ (compC a hs).1 = A := by
  cases x <;> first
    | (cases hs <;> simp [compC] at h; done)
    | (simp [compC] at h; done)
    | (simp [compC] at h; exact ⟨_, rfl, h⟩)
theorem comp_exit {id : Nat} (h : (compC x hs).1 = .exit id) : x = .exit id := by
  cases x <;> first
    | (cases hs <;> simp [compC] at h; done)
    | (simp [compC] at h; done)
    | (simp [compC] at h; subst h; rfl)
theorem comp_skip (h : (compC x hs).1 = .skip) : x = .skip := by
  cases x <;> first
    | rfl
    | (cases hs <;> simp [compC] at h; done)
    | (simp [compC] at h; done)
theorem comp_ret (h : (compC x hs).1 = .ret) : x = .ret := by
  cases x <;> first
    | rfl
    | (cases hs <;> simp [compC] at h; done)
    | (simp [compC] at h; done)
theorem comp_ghost (h : (compC x hs).1 = .ghost) : x = .ghost := by
  cases x <;> first
    | rfl
    | (cases hs <;> simp [compC] at h; done)
    | (simp [compC] at h; done)
theorem comp_keep {S : List Nat} (h : (compC x hs).1 = .keep S) : x = .keep S := by
  cases x <;> first
    | (cases hs <;> simp [compC] at h; done)
    | (simp [compC] at h; done)
    | (simp [compC] at h; subst h; rfl)
end

end
end Go.Abs
