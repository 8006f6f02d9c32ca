/- The loop of congruence.Classes that merges congruent nodes. -/
import Derived.Test.YtjhdfbplkoaobaaAbsConC
set_option linter.unusedVariables false
set_option linter.unusedSimpArgs false
namespace Go.Abs
open Go.Proofs.Try (prog)

/-- Entries of the map: what a key tells, and the node that it was put for. -/
abbrev Ent := List Int × Nat
def entV (es : List Ent) : List (V × V) := es.map fun e => (.str (keyStr e.1), .int .i64 (e.2 : Int))
def Rng (q : List Int) : Prop := ∀ u ∈ q, 0 ≤ u ∧ u < 18446744073709551616

theorem keyEq_ent {q q' : List Int} (h : Rng q) (h' : Rng q') : keyEq (.str (keyStr q)) (.str (keyStr q')) = some (decide (q' = q)) := by
  show some (keyStr q == keyStr q') = _
  congr 1
  rw [Bool.eq_iff_iff, ba_beq]
  simp only [decide_eq_true_eq]
  constructor
  · intro e; exact (keyStr_inj h h' e).symm
  · intro e; rw [e]

theorem findK_ent {q : List Int} (hq : Rng q) : ∀ (es : List Ent) (k : Nat), (∀ e ∈ es, Rng e.1) → findK (.str (keyStr q)) (entV es) k = some ((es.findIdx? fun e => decide (e.1 = q)).map (· + k))
  | [], k, _ => rfl
  | e :: es, k, h => by
    have ih := findK_ent hq es (k + 1) fun e he => h e (by simp [he])
    have h1 := keyEq_ent hq (h e (by simp))
    simp only [entV, List.map_cons, findK, h1] at ih ⊢
    rw [List.findIdx?_cons]
    by_cases c : e.1 = q
    · simp [c]
    · simp only [c, decide_false]
      rw [ih]
      cases es.findIdx? (fun e => decide (e.1 = q)) with
      | none => rfl
      | some i => simp; omega

theorem look_ent {h : Heap} {m : Nat} {es : List Ent} {q : List Int} {z : V} (hm : h m = some (.map (entV es))) (hq : Rng q) (hes : ∀ e ∈ es, Rng e.1) :
    (∃ j, (q, j) ∈ es ∧ aLook h .str z true (.mp m) (.str (keyStr q)) = some (.tuple [.int .i64 (j : Nat), .bool true])) ∨
    ((∀ j, (q, j) ∉ es) ∧ aLook h .str z true (.mp m) (.str (keyStr q)) = some (.tuple [z, .bool false]) ∧ ∀ j : Nat, putK .str (entV es) (.str (keyStr q)) (.int .i64 j) = some (entV (es ++ [(q, j)]))) := by
  have hf := findK_ent hq es 0 hes
  cases hi : es.findIdx? (fun e => decide (e.1 = q)) with
  | some i =>
    left
    rw [hi] at hf
    rw [List.findIdx?_eq_some_iff_getElem] at hi
    obtain ⟨h1, h2, _⟩ := hi
    simp at h2
    refine ⟨es[i].2, ?_, ?_⟩
    · rw [← h2]; exact List.getElem_mem h1
    · simp only [aLook, hm, hf, V.isKey, Option.map_some, Nat.add_zero, if_true]
      simp [entV, h1]
  | none =>
    right
    rw [hi] at hf
    rw [List.findIdx?_eq_none_iff] at hi
    refine ⟨fun j hj => by simpa using hi _ hj, ?_, fun j => ?_⟩
    · simp [aLook, hm, hf, V.isKey]
    · unfold putK
      rw [hf]
      simp [V.isKey, entV]

theorem wMupd_mp {kt : KT} {h : Heap} {b : Nat} {es es' : List (V × V)} {k v : V} {K : V → Heap → Prop} (hb : h b = some (.map es)) (hp : putK kt es k v = some es') (hK : K .undef (upd h b (.map es'))) : wMupd kt (.mp b) k v h K := by
  simp only [wMupd, hb, hp]; exact hK

section
variable {l : List Nd} {ps : List (Int × Int)}

/-- What a key tells of a node, up to the closure. -/
def KeyOf (l : List Nd) (ps : List (Int × Int)) (j : Nat) (q : List Int) : Prop :=
  ∃ x, l[j]? = some x ∧ kidsIn l.length x.kids = true ∧ ∃ ws : List Nat, q = IntKind.u64.wrap x.op :: IntKind.u64.wrap x.imm :: ws.map (fun (w : Nat) => (w : Int)) ∧ ws.length = x.kids.length ∧ ∀ (t a w : Nat), x.kids[t]? = some (a : Int) → ws[t]? = some w → Cl l ps a w

theorem kidsIn_get {n : Nat} {ks : List Int} (h : kidsIn n ks = true) {t : Nat} {k : Int} (hk : ks[t]? = some k) : 0 ≤ k ∧ k < n := by
  have := List.all_eq_true.1 h k (List.mem_of_getElem? hk)
  simpa using this

theorem keyOf_nums {p : List Nat} {j : Nat} {x : Nd} (hx : l[j]? = some x) (hk : kidsIn l.length x.kids = true) (hs : SoundF l ps p) : KeyOf l ps j (keyNums p x) := by
  refine ⟨x, hx, hk, x.kids.map fun k => root p k.toNat, by simp [keyNums, Function.comp_def], by simp, ?_⟩
  intro t a w ha hw
  rw [List.getElem?_map, ha] at hw
  simp at hw
  subst hw
  have := kidsIn_get hk ha
  exact hs a (by omega)

theorem keyOf_cl {i j : Nat} {q : List Int} (hwf : ∀ x ∈ l, x.wf) (hi : KeyOf l ps i q) (hj : KeyOf l ps j q) : Cl l ps i j := by
  obtain ⟨x, hx, kx, ws, e1, l1, c1⟩ := hi
  obtain ⟨y, hy, ky, ws', e2, l2, c2⟩ := hj
  rw [e1] at e2
  injection e2 with e3 e4
  injection e4 with e4 e5
  have hxw := hwf x (List.mem_of_getElem? hx)
  have hyw := hwf y (List.mem_of_getElem? hy)
  have hws : ws = ws' := by
    refine List.ext_getElem? fun t => ?_
    have := congrArg (fun l => l[t]?) e5
    simp only [List.getElem?_map] at this
    cases h1 : ws[t]? with
    | none => cases h2 : ws'[t]? with
      | none => rfl
      | some b => simp [h1, h2] at this
    | some a => cases h2 : ws'[t]? with
      | none => simp [h1, h2] at this
      | some b =>
        simp only [h1, h2, Option.map_some, Option.some.injEq] at this
        congr 1; omega
  subst hws
  refine .cong hx hy (wrap_u64_inj hxw.1 hyw.1 e3) (wrap_u64_inj hxw.2 hyw.2 e4) (by omega) kx ky ?_
  intro t a b ha hb
  have ht : t < ws.length := by rw [l1]; exact (List.getElem?_eq_some_iff.1 ha).1
  have hw := List.getElem?_eq_getElem ht
  exact (c1 t a _ ha hw).trans (c2 t b _ hb hw).symm

theorem rng_nums {p : List Nat} {x : Nd} (hp : p.length ≤ 140737488355328) (hk : kidsIn p.length x.kids = true) : Rng (keyNums p x) := by
  intro u hu
  simp only [keyNums, List.mem_cons, List.mem_map] at hu
  rcases hu with rfl | rfl | ⟨k, hk', rfl⟩
  · exact wrap_u64_range _
  · exact wrap_u64_range _
  · have := List.all_eq_true.1 hk k hk'
    simp at this
    have := root_le p k.toNat
    omega

theorem keyOf_rng {j : Nat} {q : List Int} (hl : l.length ≤ 140737488355328) (h : KeyOf l ps j q) : Rng q := by
  obtain ⟨x, hx, kx, ws, rfl, l1, c1⟩ := h
  intro u hu
  simp only [List.mem_cons, List.mem_map] at hu
  rcases hu with rfl | rfl | ⟨w, hw, rfl⟩
  · exact wrap_u64_range _
  · exact wrap_u64_range _
  · obtain ⟨t, ht⟩ := List.getElem?_of_mem hw
    have h1 : t < x.kids.length := by rw [← l1]; exact (List.getElem?_eq_some_iff.1 ht).1
    have h2 := List.getElem?_eq_getElem h1
    obtain ⟨k1, k2⟩ := kidsIn_get kx h2
    have h3 : x.kids[t]? = some ((x.kids[t].toNat : Nat) : Int) := by rw [h2]; congr 1; omega
    have := (c1 t _ _ h3 ht).lt
    omega

theorem keyNums_same {p p' : List Nat} {x : Nd} (hk : kidsIn p.length x.kids = true) (hS : SameF p p') : keyNums p' x = keyNums p x := by
  unfold keyNums
  congr 2
  refine List.map_congr_left fun k hk' => ?_
  have := List.all_eq_true.1 hk k hk'
  simp at this
  rw [hS.same k.toNat (by omega)]

/-- The state of a pass over the nodes. -/
structure Pass (l : List Nd) (ps : List (Int × Int)) (p0 p : List Nat) (es : List Ent) (on : Bool) (i : Nat) : Prop where
  forest : Forest p
  len : p.length = l.length
  sound : SoundF l ps p
  pairs : PairsC l ps (root p)
  keys : ∀ e ∈ es, KeyOf l ps e.2 e.1
  uniq : ∀ q a b, (q, a) ∈ es → (q, b) ∈ es → a = b
  le : rsum p l.length ≤ rsum p0 l.length
  less : on = true → rsum p l.length < rsum p0 l.length
  same : on = false → SameF p0 p ∧ ∀ j x, j < i → l[j]? = some x → kidsIn l.length x.kids = true → ∃ j', (keyNums p0 x, j') ∈ es ∧ root p0 j' = root p0 j

theorem Pass.sameF {p0 p p1 : List Nat} {es : List Ent} {on : Bool} {i : Nat} (I : Pass l ps p0 p es on i) (hS : SameF p p1) : Pass l ps p0 p1 es on i := by
  have hr := rsum_same hS
  rw [I.len] at hr
  refine ⟨hS.forest, hS.len.trans I.len, fun j hj => ?_, fun u v hm hu hv => ?_, I.keys, I.uniq, ?_, fun ho => ?_, fun ho => ?_⟩
  · rw [hS.same j (by rw [I.len]; exact hj)]; exact I.sound j hj
  · rw [hS.same u (by rw [I.len]; exact hu), hS.same v (by rw [I.len]; exact hv)]; exact I.pairs u v hm hu hv
  · rw [hr]; exact I.le
  · rw [hr]; exact I.less ho
  · obtain ⟨g1, g2⟩ := I.same ho
    exact ⟨g1.trans hS, g2⟩

/-- A node more. -/
theorem Pass.next {p0 p : List Nat} {es : List Ent} {on : Bool} {i : Nat} {x : Nd} (I : Pass l ps p0 p es on i) (hx : l[i]? = some x) (h : on = false → kidsIn l.length x.kids = true → ∃ j', (keyNums p0 x, j') ∈ es ∧ root p0 j' = root p0 i) : Pass l ps p0 p es on (i + 1) := by
  refine { I with same := fun ho => ⟨(I.same ho).1, fun j y hj hy hky => ?_⟩ }
  rcases Nat.lt_or_ge j i with c | c
  · exact (I.same ho).2 j y c hy hky
  · have : j = i := by omega
    subst this
    rw [hx] at hy; injection hy with hy; subst hy
    exact h ho hky

theorem Pass.closed {p0 p : List Nat} {es : List Ent} (h : Pass l ps p0 p es false l.length) (hp0 : p0.length = l.length) : CongC l (root p) := by
  obtain ⟨hS, hk⟩ := h.same rfl
  intro i j x y hx hy e1 e2 e3 kx ky hr
  have hi := (List.getElem?_eq_some_iff.1 hx).1
  have hj := (List.getElem?_eq_some_iff.1 hy).1
  obtain ⟨a, ha, ra⟩ := hk i x hi hx kx
  obtain ⟨b, hb, rb⟩ := hk j y hj hy ky
  have hq : keyNums p0 x = keyNums p0 y := by
    unfold keyNums
    rw [e1, e2]
    congr 2
    refine List.ext_getElem? fun t => ?_
    simp only [List.getElem?_map]
    rcases Nat.lt_or_ge t x.kids.length with c | c
    · have h1 := List.getElem?_eq_getElem c
      have h2 := List.getElem?_eq_getElem (show t < y.kids.length by omega)
      obtain ⟨k1, k2⟩ := kidsIn_get kx h1
      obtain ⟨k3, k4⟩ := kidsIn_get ky h2
      rw [h1, h2]
      simp only [Option.map_some, Option.some.injEq, Int.natCast_inj]
      have := hr t x.kids[t].toNat y.kids[t].toNat (by rw [h1]; congr 1; omega) (by rw [h2]; congr 1; omega)
      rwa [hS.same _ (by omega), hS.same _ (by omega)] at this
    · rw [List.getElem?_eq_none c, List.getElem?_eq_none (by omega)]
  rw [← hq] at hb
  have := h.uniq _ _ _ ha hb
  subst this
  rw [hS.same _ (by omega), hS.same _ (by omega), ← ra, ← rb]

/-- One pass over the nodes. -/
theorem loop22_3 {Q : AExit → (Nat → V) → Heap → Prop} {tm : Nat → V} {h h1 : Heap} {b mb : Nat} {p0 : List Nat} (h0 : tm 0 = .ps 3 (l.map Nd.v)) (h5 : tm 5 = .sl 1 b 0 l.length none) (h9 : tm 9 = .bool false) (h10 : tm 10 = .mp mb)
    (h63 : tm 63 = .ps 3 (l.map Nd.v)) (h64 : tm 64 = .int .i64 (l.length : Nat)) (h65 : tm 65 = .int .i64 0)
    (H : H22 h h1 b p0) (hmb : h1 mb = some (.map [])) (hm0 : h mb = none) (hwf : ∀ x ∈ l, x.wf) (hks : ∀ x ∈ l, x.kids.length * 8 ≤ 140737488351232) (hn : l.length ≤ 140737488355328) (hF : Forest p0) (hp : p0.length = l.length) (hs : SoundF l ps p0) (hP : PairsC l ps (root p0))
    (post : ∀ tm' h' p es on, tm' 0 = .ps 3 (l.map Nd.v) → tm' 5 = .sl 1 b 0 l.length none → tm' 9 = .bool on → H22 h h' b p → Pass l ps p0 p es on l.length → Q .normal tm' h') : W noq (AC prog) l22_3 Q tm h1 := by
  have hbm : b ≠ mb := by
    rintro rfl
    have := H.at_b
    rw [hmb] at this
    cases this
  simp only [l22_3, W_block]
  refine W_loop' (fun m tm h1 => ∃ i p es on, m = l.length - i ∧ i ≤ l.length ∧ tm 0 = .ps 3 (l.map Nd.v) ∧ tm 5 = .sl 1 b 0 l.length none ∧ tm 9 = .bool on ∧ tm 10 = .mp mb ∧ tm 63 = .ps 3 (l.map Nd.v) ∧ tm 64 = .int .i64 (l.length : Nat) ∧ tm 65 = .int .i64 (i : Nat) ∧
      H22 h h1 b p ∧ h1 mb = some (.map (entV es)) ∧ Pass l ps p0 p es on i)
    l.length ⟨0, p0, [], false, rfl, by omega, h0, h5, h9, h10, h63, h64, h65, H, hmb, ⟨hF, hp, hs, hP, by simp, by simp, Nat.le_refl _, by simp, fun _ => ⟨.refl hF, fun j x hj => by omega⟩⟩⟩ ?_
  clear h0 h5 h9 h10 h63 h64 h65 H hmb
  rintro J hJ m tm h2 ⟨i, p, es, on, rfl, hi, h0, h5, h9, h10, h63, h64, h65, H, hmb, I⟩
  simp [b22_3, h64, h65]
  refine Wc_intro (fun hc => ?_) (fun hc => ?_)
  · simp at hc
    obtain ⟨x, hx⟩ : ∃ x, l[i]? = some x := ⟨_, List.getElem?_eq_getElem hc⟩
    have hxl : x ∈ l := List.mem_of_getElem? hx
    have w5 : IntKind.i64.wrap ((i : Int) + 1) = i + 1 := wrap_id (by omega) (by omega)
    simp [s22_9, h63, h65, hx, Nd.v]
    intro b1 hb1
    obtain ⟨H1, n1⟩ := H.new hb1 (.cells 24 3 [.int .i64 x.op, .int .i64 x.imm, .ps 1 (ints x.kids)])
    have n2 : mb ≠ b1 := by rintro rfl; rw [hmb] at hb1; cases hb1
    simp [r22_4, upd_at, upd_upd]
    simp [s22_10, h5, upd_at]
    refine (ac58 (nd := x) (p := p) H1.at_b I.len.symm I.forest (by rw [I.len]; exact hn) (hks x hxl)).mono ?_
    rintro v h3 ⟨rfl, p1, hS, rfl⟩
    have H2 := H1.over p1
    have hmb2 : (upd (upd h2 b1 (.cells 24 3 [.int .i64 x.op, .int .i64 x.imm, .ps 1 (ints x.kids)])) b (.cells 3 1 (nats p1))) mb = some (.map (entV es)) := by
      simp [upd_at, n2, Ne.symm hbm, hmb]
    generalize upd (upd h2 b1 (.cells 24 3 [.int .i64 x.op, .int .i64 x.imm, .ps 1 (ints x.kids)])) b (.cells 3 1 (nats p1)) = h4 at H2 hmb2
    have I2 := I.sameF hS
    have hl1 : p1.length = l.length := hS.len.trans I.len
    cases hk : kidsIn p.length x.kids with
    | false =>
      simp [r22_5, s22_11, s22_14, h65, w5]
      refine ⟨l.length - (i + 1), by omega, hJ _ _ _ ⟨i + 1, p1, es, on, rfl, by omega, by simp [h0], by simp [h5], by simp [h9], by simp [h10], by simp [h63], by simp [h64], by simp, H2, hmb2, ?_⟩⟩
      refine I2.next hx fun _ hky => ?_
      rw [I.len] at hk
      rw [hk] at hky; cases hky
    | true =>
      have hkl : kidsIn l.length x.kids = true := by rw [← I.len]; exact hk
      have hq : Rng (keyNums p x) := rng_nums (by rw [I.len]; exact hn) hk
      have hKey : KeyOf l ps i (keyNums p x) := keyOf_nums hx hkl I.sound
      simp [r22_5, s22_11, s22_12, h10]
      have hnum : ∀ (_ : on = false), keyNums p0 x = keyNums p x := fun ho => (keyNums_same (by rw [hp]; exact hkl) (I.same ho).1).symm
      rcases look_ent (z := .int .i64 0) hmb2 hq (fun e he => keyOf_rng hn (I.keys e he)) with ⟨j, hj, hlook⟩ | ⟨hno, hlook, hput⟩
      · have hjK := I.keys _ hj
        have hcl : Cl l ps i j := keyOf_cl hwf hKey hjK
        have hjl : j < l.length := hcl.lt.2
        simp [hlook, k22_2, h5]
        refine (ac57 (p := p1) (i := i) (j := j) H2.at_b hl1.symm hS.forest (by omega) (by omega)).mono ?_
        rintro v h5' ⟨rfl, p2, hJ2, rfl⟩
        have H3 := H2.over p2
        have hmb3 : (upd h4 b (.cells 3 1 (nats p2))) mb = some (.map (entV es)) := by
          rw [upd_ne _ _ _ _ (Ne.symm hbm)]; exact hmb2
        have hl2 : p2.length = l.length := hJ2.len.trans hl1
        by_cases hne : root p1 i = root p1 j
        · have hS2 : SameF p1 p2 := ⟨hJ2.forest, hJ2.len, fun k hk => by rw [hJ2.join k hk, hne]; split <;> omega⟩
          have e1 : (root p1 i != root p1 j) = false := by simp [hne]
          simp [s22_13, e1, s22_14, h65, w5]
          refine ⟨l.length - (i + 1), by omega, hJ _ _ _ ⟨i + 1, p2, es, on, rfl, by omega, by simp [h0], by simp [h5], by simp [h9], by simp [h10], by simp [h63], by simp [h64], by simp, H3, hmb3, ?_⟩⟩
          refine (I2.sameF hS2).next hx fun ho _ => ⟨j, by rw [hnum ho]; exact hj, ?_⟩
          have hS0 := (I2.same ho).1
          rw [← hS0.same j (by omega), ← hS0.same i (by omega)]
          exact hne.symm
        · have e1 : (root p1 i != root p1 j) = true := by simp [hne]
          simp [s22_13, e1, s22_14, h65, w5]
          refine ⟨l.length - (i + 1), by omega, hJ _ _ _ ⟨i + 1, p2, es, true, rfl, by omega, by simp [h0], by simp [h5], by simp, by simp [h10], by simp [h63], by simp [h64], by simp, H3, hmb3, ?_⟩⟩
          have hlt := rsum_join hJ2 (by omega) (by omega) hne
          rw [hl1] at hlt
          have hle := I2.le
          exact ⟨hJ2.forest, hl2, sound_join I2.sound hl1 (by omega) (by omega) hcl hJ2, fun u v hm hu hv => join_coarse hJ2 (by omega) (by omega) (I2.pairs u v hm hu hv), I2.keys, I2.uniq, by omega, fun _ => by omega, fun ho => by cases ho⟩
      · simp [hlook, k22_1, h10]
        refine wMupd_mp hmb2 (hput i) ?_
        simp [s22_14, h65, w5]
        refine ⟨l.length - (i + 1), by omega, hJ _ _ _ ⟨i + 1, p1, es ++ [(keyNums p x, i)], on, rfl, by omega, by simp [h0], by simp [h5], by simp [h9], by simp [h10], by simp [h63], by simp [h64], by simp, H2.else hm0 hbm _, upd_eq _ _ _, ?_⟩⟩
        have I3 : Pass l ps p0 p1 (es ++ [(keyNums p x, i)]) on i := by
          refine { I2 with keys := fun e he => ?_, uniq := fun q a c ha hc' => ?_, same := fun ho => ⟨(I2.same ho).1, fun j y hj hy hky => ?_⟩ }
          · rcases List.mem_append.1 he with he | he
            · exact I2.keys e he
            · simp at he; subst he; exact hKey
          · rcases List.mem_append.1 ha with u1 | u1 <;> rcases List.mem_append.1 hc' with u2 | u2
            · exact I2.uniq q a c u1 u2
            · simp at u2; rw [u2.1] at u1; exact absurd u1 (hno a)
            · simp at u1; rw [u1.1] at u2; exact absurd u2 (hno c)
            · simp at u1 u2; rw [u1.2, u2.2]
          · obtain ⟨j', g1, g2⟩ := (I2.same ho).2 j y hj hy hky
            exact ⟨j', List.mem_append_left _ g1, g2⟩
        exact I3.next hx fun ho _ => ⟨i, by rw [hnum ho]; simp, rfl⟩
  · simp at hc
    have : i = l.length := by omega
    subst this
    exact post _ _ p es on (by simp [h0]) (by simp [h5]) (by simp [h9]) H I

end
end Go.Abs
