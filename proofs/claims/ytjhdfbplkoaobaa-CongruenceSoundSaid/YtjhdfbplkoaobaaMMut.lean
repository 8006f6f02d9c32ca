/- What pairs and Mutate, the seeds' pairs and changed nodes, return. -/
import Derived.Test.YtjhdfbplkoaobaaMNodes
set_option linter.unusedVariables false
set_option linter.unusedSimpArgs false
namespace Go.Abs
open Go.Proofs.Try (prog)
open Classical

/-- Elements of several cells each. -/
theorem elems_flat {α : Type} {esz : Nat} (he : esz ≠ 1) (g : α → List V) (x : List α) (hg : ∀ a ∈ x, (g a).length = esz) : elems esz x.length (x.flatMap g) = x.map fun a => .agg (g a) := by
  unfold elems
  rw [if_neg he]
  induction x with
  | nil => rfl
  | cons a x ih =>
    have h1 : (g a).length = esz := hg a (by simp)
    rw [List.length_cons, List.range_succ_eq_map, List.map_cons, List.map_map, List.map_cons, ← ih fun b hb => hg b (by simp [hb])]
    congr 1
    · rw [List.flatMap_cons, Nat.zero_mul, List.drop_zero, ← h1, List.take_left]
    · apply List.map_congr_left
      intro i _
      simp only [Function.comp, List.flatMap_cons]
      have e : (Nat.succ i) * esz = (g a).length + i * esz := by rw [h1, Nat.succ_mul]; omega
      rw [e, List.drop_append]
      rw [List.drop_eq_nil_of_le (by omega), List.nil_append, Nat.add_sub_cancel_left]

def prC (p : Int × Int) : List V := [.int .i64 p.1, .int .i64 p.2]
theorem elems_prs (ps : List (Int × Int)) : elems 2 ps.length (ps.flatMap prC) = prsV ps := elems_flat (by omega) prC ps fun _ _ => rfl
theorem prs_cell (ps : List (Int × Int)) : (ps.flatMap prC).all V.isCell = true := by
  induction ps with
  | nil => rfl
  | cons p ps ih => rw [List.flatMap_cons, List.all_append, ih]; rfl

section
variable {h : Heap}

def PrIn (n : Int) (p : Int × Int) : Prop := (-1 ≤ p.1 ∧ p.1 ≤ n) ∧ -1 ≤ p.2 ∧ p.2 ≤ n

theorem ac26 {l : List Int} {n : Int} (hn : 0 ≤ n ∧ n ≤ 1000000) (hl : l.length ≤ 140737488355328) : AC prog 26 [.ps 1 (ints l), .int .i64 n] h fun v h' => ∃ ps, ps.length ≤ 6 ∧ (∀ p ∈ ps, PrIn n p) ∧ v = .ps 2 (prsV ps) ∧ h' = h := by
  refine AC_cv qf1_ok mixed t26 fun R hR => ?_
  simp [c26, l26_0]
  refine W_loop' (fun mm tm h1 => ∃ (i : Nat) (v : V) (ps : List (Int × Int)), mm = 6 - ps.length ∧ i = 2 * ps.length ∧ ps.length ≤ 6 ∧ tm = mk [(0, .ps 1 (ints l)), (1, .int .i64 n), (5, v), (6, .int .i64 (i : Nat))] ∧ Grow 28 2 h v h1 (ps.flatMap prC) ps.length ∧ ∀ p ∈ ps, PrIn n p)
    6 ⟨0, .nils, [], rfl, rfl, by simp, rfl, .nil _ _ _, by simp⟩ ?_
  rintro J hJ mm _ h1 ⟨i, v, ps, rfl, hi, hps, rfl, g, hin⟩
  have w1 : IntKind.i64.wrap ((i : Int) + 1) = (i : Int) + 1 := wrap_id (by omega) (by omega)
  have w2 : IntKind.i64.wrap ((i : Int) + 2) = (i : Int) + 2 := wrap_id (by omega) (by omega)
  simp [b26_0, w1]
  refine Wc_intro (fun hc => ?_) (fun hc => ?_)
  · simp at hc
    have d1 : i < l.length := by omega
    have d2 : i + 1 < l.length := by omega
    have wn : IntKind.i64.wrap (n + 2) = n + 2 := wrap_id (by omega) (by omega)
    have hmod : ∀ y : Int, 0 ≤ y % (n + 2) ∧ y % (n + 2) < n + 2 := fun y => ⟨Int.emod_nonneg _ (by omega), Int.emod_lt_of_pos _ (by omega)⟩
    have wm : ∀ y : Int, IntKind.i64.wrap (y % (n + 2) - 1) = y % (n + 2) - 1 := fun y => wrap_id (by have := hmod y; omega) (by have := hmod y; omega)
    have q1 : 0 < n + 2 := by omega
    have q2 : n + 2 ≤ 4611686018427387904 := by omega
    have e1 := List.getElem?_eq_getElem d1
    have e2 := List.getElem?_eq_getElem d2
    have n1 : (0 : Int) ≤ (i : Int) + 1 := by omega
    have t2 : ((i : Int) + 1).toNat = i + 1 := by omega
    simp [s26_0, w1, w2, wn, d1, d2, t2, n1, q1, q2, wm, elems]
    refine g.app (C := AC prog) (ys := prC (l[i] % (n + 2) - 1, l[i + 1] % (n + 2) - 1)) (m := 1) rfl rfl rfl (by omega) (by omega) fun v' h' g' => ?_
    simp [r26_0, s26_1, w2]
    have e3 : (ps ++ [(l[i] % (n + 2) - 1, l[i + 1] % (n + 2) - 1)]).flatMap prC = ps.flatMap prC ++ prC (l[i] % (n + 2) - 1, l[i + 1] % (n + 2) - 1) := by simp
    refine ⟨6 - (ps.length + 1), by omega, hJ _ _ _ ⟨i + 2, v', ps ++ [(l[i] % (n + 2) - 1, l[i + 1] % (n + 2) - 1)], by simp, by simp; omega, by simp; omega, by simp, ?_, fun p hp => ?_⟩⟩
    · rw [e3, List.length_append]; exact g'
    · rcases List.mem_append.1 hp with hp | hp
      · exact hin p hp
      · simp at hp
        subst hp
        have a1 := hmod l[i]
        have a2 := hmod l[i + 1]
        simp [PrIn]
        omega
  · simp at hc
    simp [s26_2]
    have e := elems_prs ps
    refine hR _ _ _ _ g.view ⟨ps, hps, hin, by rw [e], rfl⟩

theorem flat_ints : ∀ (l : List Int), (ints l).flatMap V.cells = ints l
  | [] => rfl
  | a :: l => by
    have := flat_ints l
    simp only [ints, List.map_cons, List.flatMap_cons] at this ⊢
    rw [this]; rfl

/-- What lies in a node's third cell. -/
def KV (h0 h : Heap) (b7 b9 : Nat) (u : V) (ks : List Int) : Prop :=
  u = .ps 1 (ints ks) ∨ (u = .nils ∧ ks = []) ∨ ∃ bk off n cap XS, u = .sl 1 bk off n cap ∧ h bk = some (.cells 3 1 XS) ∧ h0 bk = none ∧ off + n ≤ XS.length ∧ (XS.drop off).take n = ints ks ∧ n = ks.length ∧ bk ≠ b7 ∧ bk ≠ b9

theorem KV.frz {h0 h : Heap} {b7 b9 : Nat} {u : V} {ks : List Int} (k : KV h0 h b7 b9 u ks) : Frz h h0 u (.ps 1 (ints ks)) := by
  rcases k with rfl | ⟨rfl, rfl⟩ | ⟨bk, off, n, cap, XS, rfl, h1, h2, h3, h4, h5, _, _⟩
  · exact .refl _
  · exact .nils 1
  · have := Frz.sl (h' := h0) (esz := 1) (off := off) (n := n) (cap := cap) (ys := ints ks) h1 h2 (by omega) (by simp [h5]) (fun j x y hx hy => by
      rw [← h4, List.getElem?_take] at hy
      split at hy
      · rw [List.getElem?_drop] at hy
        simp only [Nat.mul_one] at hx
        rw [hx] at hy; injection hy with hy; subst hy; exact .refl _
      · cases hy) (fun y hy => List.all_eq_true.1 (ints_isCell ks) y hy)
    have e : elems 1 n (ints ks) = ints ks := by simp [elems, h5]
    rwa [e] at this

theorem KV.heap {h0 h h' : Heap} {b7 b9 b7' : Nat} {u : V} {ks : List Int} (k : KV h0 h b7 b9 u ks) (hh : ∀ c x, h c = some x → h0 c = none → c ≠ b7 → c ≠ b9 → h' c = some x ∧ c ≠ b7') : KV h0 h' b7' b9 u ks := by
  rcases k with rfl | ⟨rfl, rfl⟩ | ⟨bk, off, n, cap, XS, rfl, h1, h2, h3, h4, h5, h6, h7⟩
  · exact .inl rfl
  · exact .inr (.inl ⟨rfl, rfl⟩)
  · exact .inr (.inr ⟨bk, off, n, cap, XS, rfl, (hh _ _ h1 h2 h6 h7).1, h2, h3, h4, h5, (hh _ _ h1 h2 h6 h7).2, h7⟩)

/-- A node whose operands lie in some way. -/
structure NW where
  op : Int
  imm : Int
  u : V
  ks : List Int
def NW.cells (p : NW) : List V := [.int .i64 p.op, .int .i64 p.imm, p.u]
def NW.nd (p : NW) : Nd := ⟨p.op, p.imm, p.ks⟩

theorem nw_frz {h0 h : Heap} {b7 b9 : Nat} : ∀ {w : List NW}, (∀ p ∈ w, KV h0 h b7 b9 p.u p.ks) → FrzL h h0 (w.flatMap NW.cells) ((w.map NW.nd).flatMap fun n => n.v.cells)
  | [], _ => .nil
  | p :: w, hk => .keep (.keep (.cons (hk p (by simp)).frz (nw_frz fun q hq => hk q (by simp [hq]))))

theorem nw_len : ∀ (w : List NW), (w.flatMap NW.cells).length = w.length * 3
  | [] => rfl
  | p :: w => by rw [List.flatMap_cons, List.length_append, nw_len w]; simp [NW.cells]; omega
theorem nw_set : ∀ (w : List NW) (k : Nat) (p : NW), k < w.length → setAt (w.flatMap NW.cells) (k * 3) p.cells = (w.set k p).flatMap NW.cells
  | [], k, p, h => by simp at h
  | q :: w, 0, p, h => by simp [NW.cells, setAt, List.set]
  | q :: w, k + 1, p, h => by
    have ih := nw_set w k p (by simpa using h)
    have e : (k + 1) * 3 = k * 3 + 3 := by omega
    simp only [List.flatMap_cons, List.set_cons_succ, ← ih, e]
    simp [NW.cells, setAt]
theorem nw_get : ∀ (w : List NW) (k : Nat) (p : NW), w[k]? = some p → ((w.flatMap NW.cells).drop (k * 3)).take 3 = p.cells
  | [], k, p, h => by simp at h
  | q :: w, 0, p, h => by simp at h; subst h; simp [NW.cells]
  | q :: w, k + 1, p, h => by
    have ih := nw_get w k p (by simpa using h)
    have e : (k + 1) * 3 = 3 + k * 3 := by omega
    rw [List.flatMap_cons, e, ← List.drop_drop]
    simpa [NW.cells] using ih

/-- What is known when the change is made and the node has still to be put back. -/
structure M25 (h0 h : Heap) (b7 b9 : Nat) (w : List NW) (p : NW) : Prop where
  sub : Sub h0 h
  out : h b7 = some (.cells 24 3 (w.flatMap NW.cells))
  n : h b9 = some (.cells 24 3 p.cells)
  n7 : h0 b7 = none
  n9 : h0 b9 = none
  ne : b7 ≠ b9
  kw : ∀ q ∈ w, KV h0 h b7 b9 q.u q.ks
  kp : KV h0 h b7 b9 p.u p.ks

/-- How large and how long things are. -/
structure MOk (N K : Nat) (w : List NW) (p : NW) : Prop where
  len : w.length ≤ N
  ks : ∀ q ∈ w, q.ks.length ≤ K
  wf : ∀ q ∈ w, q.nd.wf
  pk : p.ks.length ≤ K
  pwf : p.nd.wf

def MutR (h : Heap) (N K M : Nat) (v : V) (h' : Heap) : Prop := ∃ y : List Nd, v = .ps 3 (y.map Nd.v) ∧ y.length ≤ N ∧ M ≤ y.length ∧ (∀ n ∈ y, n.kids.length ≤ K) ∧ (∀ n ∈ y, n.wf) ∧ h' = h

theorem nw_cell {h0 h : Heap} {b7 b9 : Nat} {w : List NW} (hk : ∀ p ∈ w, KV h0 h b7 b9 p.u p.ks) : (w.flatMap NW.cells).all V.isCell = true := by
  rw [List.all_eq_true]
  intro v hv
  obtain ⟨p, hp, hv⟩ := List.mem_flatMap.1 hv
  simp [NW.cells] at hv
  rcases hv with rfl | rfl | rfl
  · rfl
  · rfl
  · rcases hk p hp with h1 | ⟨h1, _⟩ | ⟨_, _, _, _, _, h1, _⟩ <;> rw [h1] <;> rfl

theorem sum3 : ∀ (w : List NW), (List.map (fun _ => 3) w).sum = w.length * 3
  | [] => rfl
  | p :: w => by rw [List.map_cons, List.sum_cons, sum3 w, List.length_cons]; omega

theorem fin25 {N K M : Nat} {h0 h : Heap} {b7 b9 k : Nat} {w : List NW} {p : NW} {R : V → Heap → Prop} {tm : Nat → V} (hR : ∀ v h1 v' h', View v h1 v' h' → MutR h0 N K M v' h' → R v h1) (m : M25 h0 h b7 b9 w p) (ok : MOk N K w p) (hM : M ≤ w.length) (hk : k < w.length)
    (h7 : tm 7 = .sl 3 b7 0 w.length none) (h8 : tm 8 = .int .i64 (k : Nat)) (h9 : tm 9 = .ptr b9 0) : W qf1 (AC prog) s25_4 (fun e tm h' => match e with
      | .exit _ => False
      | _ => R (tm 6) h') tm h := by
  have hc : p.u.isCell = true := by
    rcases m.kp with h1 | ⟨h1, _⟩ | ⟨_, _, _, _, _, h1, _⟩ <;> rw [h1] <;> rfl
  have hl := nw_len w
  have hs := nw_set w k p hk
  have hk3 : k * 3 + 3 ≤ (w.flatMap NW.cells).length := by omega
  have hk3' := sum3 w
  have e : ((((w.flatMap NW.cells).set (k * 3) (.int .i64 p.op)).set (k * 3 + 1) (.int .i64 p.imm)).set (k * 3 + 1 + 1) p.u) = (w.set k p).flatMap NW.cells := by
    rw [← hs]; rfl
  simp [s25_4, h7, h8, h9, hk, m.out, m.n, NW.cells]
  refine ⟨⟨hc, by omega⟩, ?_⟩
  rw [e]
  have hsub : Sub h0 (upd h b7 (.cells 24 3 ((w.set k p).flatMap NW.cells))) := sub_upd_out m.sub m.n7
  have hkw : ∀ q ∈ w.set k p, KV h0 (upd h b7 (.cells 24 3 ((w.set k p).flatMap NW.cells))) b7 b9 q.u q.ks := by
    intro q hq
    have : KV h0 h b7 b9 q.u q.ks := by
      rcases List.mem_or_eq_of_mem_set hq with h1 | h1
      · exact m.kw q h1
      · rw [h1]; exact m.kp
    exact this.heap fun c x hx _ h7 _ => ⟨by rw [upd_ne _ _ _ _ h7]; exact hx, h7⟩
  have hyc : ((w.set k p).map NW.nd).length * 3 = (((w.set k p).map NW.nd).flatMap fun n => n.v.cells).length := (flat_nodes_len _).symm
  refine hR _ _ (.ps 3 (((w.set k p).map NW.nd).map Nd.v)) h0 ?_ ⟨(w.set k p).map NW.nd, rfl, by simpa using ok.len, by simpa using hM, ?_, ?_, rfl⟩
  · rw [← elems_nodes]
    have e2 : w.length = ((w.set k p).map NW.nd).length := by simp
    rw [e2]
    exact View.frz hsub (Frz.whole (upd_eq _ _ _) m.n7 (nw_frz hkw) hyc.symm (flat_nodes_cell _))
  · intro n hn
    obtain ⟨q, hq, rfl⟩ := List.mem_map.1 hn
    rcases List.mem_or_eq_of_mem_set hq with h1 | h1
    · exact ok.ks q h1
    · rw [h1]; exact ok.pk
  · intro n hn
    obtain ⟨q, hq, rfl⟩ := List.mem_map.1 hn
    rcases List.mem_or_eq_of_mem_set hq with h1 | h1
    · exact ok.wf q h1
    · rw [h1]; exact ok.pwf

theorem M25.put {h0 h1 : Heap} {b7 b9 : Nat} {w : List NW} {p : NW} (m : M25 h0 h1 b7 b9 w p) (p' : NW) (k' : KV h0 h1 b7 b9 p'.u p'.ks) : M25 h0 (upd h1 b9 (.cells 24 3 p'.cells)) b7 b9 w p' := by
  refine ⟨sub_upd_out m.sub m.n9, by rw [upd_ne _ _ _ _ m.ne]; exact m.out, upd_eq _ _ _, m.n7, m.n9, m.ne, fun q hq => (m.kw q hq).heap fun c x hx _ h7 h9 => ⟨by rw [upd_ne _ _ _ _ h9]; exact hx, h7⟩, k'.heap fun c x hx _ h7 h9 => ⟨by rw [upd_ne _ _ _ _ h9]; exact hx, h7⟩⟩

/-- The node's operands lie in a block of their own. -/
def OwnK (h0 h : Heap) (b7 b9 : Nat) (u : V) (ks : List Int) : Prop := (u = .nils ∧ ks = []) ∨ ∃ bk, u = .sl 1 bk 0 ks.length none ∧ h bk = some (.cells 3 1 (ints ks)) ∧ h0 bk = none ∧ bk ≠ b7 ∧ bk ≠ b9

theorem OwnK.kv {h0 h1 : Heap} {b7 b9 : Nat} {u : V} {ks : List Int} (k : OwnK h0 h1 b7 b9 u ks) : KV h0 h1 b7 b9 u ks := by
  rcases k with h | ⟨bk, h2, h3, h4, h5, h6⟩
  · exact .inr (.inl h)
  · exact .inr (.inr ⟨bk, 0, _, none, ints ks, h2, h3, h4, by simp, by simp, rfl, h5, h6⟩)

theorem kv_ps {h0 h1 h2 : Heap} {a b c d : Nat} {w : List NW} (hw : ∀ q ∈ w, q.u = .ps 1 (ints q.ks)) : ∀ q ∈ w, KV h0 h2 c d q.u q.ks := fun q hq => .inl (hw q hq)

theorem M25.app {C : FuncId → List V → Heap → (V → Heap → Prop) → Prop} {h0 h1 : Heap} {b7 b9 : Nat} {w : List NW} {p : NW} (m : M25 h0 h1 b7 b9 w p) (hw : ∀ q ∈ w, q.u = .ps 1 (ints q.ks)) (hu : OwnK h0 h1 b7 b9 p.u p.ks) (v : Int) (hl : p.ks.length ≤ 100000) {K : V → Heap → Prop}
    (next : ∀ (b : Nat) (h3 : Heap), h3 b9 = some (.cells 24 3 p.cells) → M25 h0 (upd h3 b9 (.cells 24 3 [.int .i64 p.op, .int .i64 p.imm, .sl 1 b 0 (p.ks.length + 1) none])) b7 b9 w ⟨p.op, p.imm, .sl 1 b 0 (p.ks.length + 1) none, p.ks ++ [v]⟩ → K (.sl 1 b 0 (p.ks.length + 1) none) h3) :
    wApp 3 1 8 p.u (.ps 1 [.int .i64 v]) h1 K := by
  have hx : cellsOf h1 1 (.ps 1 [.int .i64 v]) = some ([.int .i64 v], 1) := rfl
  rcases hu with ⟨e1, e2⟩ | ⟨bk, e1, e2, e3, e4, e5⟩
  · rw [e1, wApp_nils hx]
    refine ⟨rfl, ?_⟩
    rw [if_neg (by omega)]
    refine ⟨by omega, by omega, fun b hb => ?_⟩
    have hb7 : b ≠ b7 := by rintro rfl; rw [m.out] at hb; cases hb
    have hb9 : b ≠ b9 := by rintro rfl; rw [m.n] at hb; cases hb
    have hb0 : h0 b = none := by
      cases hx : h0 b with
      | none => rfl
      | some x => rw [m.sub b x hx] at hb; cases hb
    have el : p.ks.length = 0 := by rw [e2]; rfl
    have := next b (upd h1 b (.cells 3 1 [.int .i64 v])) (by rw [upd_ne _ _ _ _ hb9.symm]; exact m.n) ⟨sub_upd_out (sub_upd_out m.sub hb0) m.n9, by rw [upd_ne _ _ _ _ m.ne, upd_ne _ _ _ _ hb7.symm]; exact m.out, upd_eq _ _ _, m.n7, m.n9, m.ne, fun q hq => .inl (hw q hq), .inr (.inr ⟨b, 0, _, none, [.int .i64 v], rfl, by rw [upd_ne _ _ _ _ hb9, upd_eq], hb0, by simp [el], by simp [e2, ints], by simp, hb7, hb9⟩)⟩
    rw [el] at this
    exact this
  · rw [e1, wApp_tip hx e2]
    refine ⟨rfl, ⟨by omega, by omega⟩, by simp, fun b hb => ?_⟩
    have hbk : ∀ c, c ≠ bk → era h1 bk c = h1 c := fun c hc => era_ne _ _ _ hc
    have hbb : b ≠ bk := by rintro rfl; rw [e2] at hb; cases hb
    have hb7 : b ≠ b7 := by rintro rfl; rw [m.out] at hb; cases hb
    have hb9 : b ≠ b9 := by rintro rfl; rw [m.n] at hb; cases hb
    have hb0 : h0 b = none := by
      cases hx : h0 b with
      | none => rfl
      | some x => rw [m.sub b x hx] at hb; cases hb
    have hsub : Sub h0 (era h1 bk) := by
      intro c x hc
      have : c ≠ bk := by rintro rfl; rw [e3] at hc; cases hc
      rw [hbk c this]; exact m.sub c x hc
    refine next b _ (by rw [upd_ne _ _ _ _ hb9.symm, hbk _ e5.symm]; exact m.n) ⟨sub_upd_out (sub_upd_out hsub hb0) m.n9, by rw [upd_ne _ _ _ _ m.ne, upd_ne _ _ _ _ hb7.symm, hbk _ e4.symm]; exact m.out, upd_eq _ _ _, m.n7, m.n9, m.ne, fun q hq => .inl (hw q hq), .inr (.inr ⟨b, 0, _, none, ints p.ks ++ [.int .i64 v], rfl, by rw [upd_ne _ _ _ _ hb9, upd_eq], hb0, by simp, by rw [List.drop_zero, List.take_of_length_le (by simp)]; simp [ints], by simp, hb7, hb9⟩)⟩

theorem sw25 {N K M : Nat} {h0 h : Heap} {b7 b9 k : Nat} {w : List NW} {p : NW} {how at_ : Int} {R : V → Heap → Prop} (hR : ∀ v h1 v' h', View v h1 v' h' → MutR h0 N K M v' h' → R v h1) (m : M25 h0 h b7 b9 w p) (ok : MOk N K w p) (hM : M ≤ w.length) (hk : k < w.length)
    (hw : ∀ q ∈ w, q.u = .ps 1 (ints q.ks)) (hu : OwnK h0 h b7 b9 p.u p.ks) (hN : w.length + 1 ≤ N) (hN2 : N ≤ 100000) (hK : p.ks.length + 1 ≤ K) (hK2 : K ≤ 100000) (hhow : -9223372036854775808 ≤ how ∧ how ≤ 9223372036854775807) :
    W qf1 (AC prog) s25_3 (fun e tm h' => match e with
      | .exit _ => False
      | _ => R (tm 6) h') (mk [(1, .int .i64 how), (2, .int .i64 at_), (7, .sl 3 b7 0 w.length none), (8, .int .i64 (k : Nat)), (9, .ptr b9 0)]) h := by
  have hm : ∀ y m : Int, 0 < m → 0 ≤ y % m ∧ y % m < m := fun y m hm => ⟨Int.emod_nonneg _ (by omega), Int.emod_lt_of_pos _ hm⟩
  have hmn := m.n
  obtain ⟨c, hc⟩ : ∃ c : Nat, how % 10 = c := ⟨_, (Int.toNat_of_nonneg (hm how 10 (by omega)).1).symm⟩
  have hc10 : c < 10 := by have := hm how 10 (by omega); omega
  have q : c = 0 ∨ c = 1 ∨ c = 2 ∨ c = 3 ∨ c = 4 ∨ c = 5 ∨ c = 6 ∨ c = 7 ∨ c = 8 ∨ c = 9 := by omega
  rcases q with rfl | rfl | rfl | rfl | rfl | rfl | rfl | rfl | rfl | rfl
  · have hr := hm (IntKind.i64.wrap (how.tdiv 10)) 36 (by omega)
    simp [s25_3, hc, m.n, NW.cells]
    refine fin25 hR (m.put ⟨_, p.imm, p.u, p.ks⟩ m.kp) ⟨ok.len, ok.ks, ok.wf, ok.pk, ⟨?_, ok.pwf.2⟩⟩ hM hk rfl rfl rfl
    have : IntKind.i64.wrap (IntKind.i64.wrap (how.tdiv 10) % 36 - 1) = IntKind.i64.wrap (how.tdiv 10) % 36 - 1 := wrap_id (by omega) (by omega)
    simp only [NW.nd]
    show -9223372036854775808 ≤ IntKind.i64.wrap (IntKind.i64.wrap (how.tdiv 10) % 36 - 1) ∧ IntKind.i64.wrap (IntKind.i64.wrap (how.tdiv 10) % 36 - 1) ≤ _
    rw [this]; omega
  · have hr := hm (IntKind.i64.wrap (how.tdiv 10)) 300 (by omega)
    simp [s25_3, k25_0, hc, m.n, NW.cells]
    refine fin25 hR (m.put ⟨p.op, IntKind.i64.wrap (IntKind.i64.wrap (how.tdiv 10) % 300 - 3), p.u, p.ks⟩ m.kp) ⟨ok.len, ok.ks, ok.wf, ok.pk, ⟨ok.pwf.1, ?_⟩⟩ hM hk rfl rfl rfl
    have : IntKind.i64.wrap (IntKind.i64.wrap (how.tdiv 10) % 300 - 3) = IntKind.i64.wrap (how.tdiv 10) % 300 - 3 := wrap_id (by omega) (by omega)
    simp only [NW.nd, this]; omega
  · have d1 : IntKind.i64.wrap ((w.length : Int) + 2) = (w.length : Int) + 2 := wrap_id (by omega) (by omega)
    have d2 : (0 : Int) < (w.length : Int) + 2 := by omega
    have d3 : (w.length : Int) + 2 ≤ 4611686018427387904 := by omega
    simp [s25_3, k25_0, k25_1, k25_2, hc, m.n, NW.cells, d1, d2, d3, elems]
    refine m.app (C := AC prog) hw hu _ (by omega) fun b h3 hn3 m' => ?_
    simp [r25_5, hn3, NW.cells]
    exact fin25 hR m' ⟨ok.len, ok.ks, ok.wf, by simp; omega, ok.pwf⟩ hM hk rfl rfl rfl
  · obtain ⟨o, im, u, ks⟩ := p
    rcases hu with ⟨e1, e2⟩ | ⟨bk, e1, e2, e3, e4, e5⟩
    · simp only at e1 e2; subst e1; subst e2
      simp [s25_3, k25_0, k25_1, k25_3, k25_4, hc, m.n, NW.cells]
      exact fin25 hR m ok hM hk rfl rfl rfl
    · simp only at e1 e2; subst e1
      have d1 : IntKind.i64.wrap ((w.length : Int) + 2) = (w.length : Int) + 2 := wrap_id (by omega) (by omega)
      have d2 : (0 : Int) < (w.length : Int) + 2 := by omega
      have d3 : (w.length : Int) + 2 ≤ 4611686018427387904 := by omega
      simp [s25_3, k25_0, k25_1, k25_3, k25_4, hc, m.n, NW.cells, d1, d2, d3]
      refine Wc_intro (fun hc2 => ?_) (fun hc2 => ?_)
      · simp only [decide_eq_true_eq] at hc2
        have hpk := ok.pk
        simp only at hpk hK e2
        have q1 : (0 : Int) < ks.length := by omega
        have q2 : (ks.length : Int) ≤ 4611686018427387904 := by omega
        obtain ⟨j, hj⟩ : ∃ j : Nat, IntKind.i64.wrap (how.tdiv 10) % (ks.length : Int) = j := ⟨_, (Int.toNat_of_nonneg (hm _ _ q1).1).symm⟩
        have hjl : j < ks.length := by have := hm (IntKind.i64.wrap (how.tdiv 10)) _ q1; omega
        obtain ⟨v, hv⟩ : ∃ v, v = IntKind.i64.wrap (IntKind.i64.wrap (at_.tdiv 3) % ((w.length : Int) + 2) - 1) := ⟨_, rfl⟩
        simp [hc2, q2, hj, hjl, e2, ← hv, ints_set]
        refine ⟨by omega, ?_⟩
        refine fin25 (p := ⟨o, im, .sl 1 bk 0 ks.length none, ks.set j v⟩) hR ⟨sub_upd_out m.sub e3, by rw [upd_ne _ _ _ _ e4.symm]; exact m.out, by rw [upd_ne _ _ _ _ e5.symm]; exact m.n, m.n7, m.n9, m.ne, fun q hq => .inl (hw q hq), .inr (.inr ⟨bk, 0, _, none, _, rfl, upd_eq _ _ _, e3, by simp, by rw [List.drop_zero, List.take_of_length_le (by simp)], by simp, e4, e5⟩)⟩
          ⟨ok.len, ok.ks, ok.wf, by simp; exact hpk, ok.pwf⟩ hM hk rfl rfl rfl
      · exact fin25 hR m ok hM hk rfl rfl rfl
  · obtain ⟨o, im, u, ks⟩ := p
    rcases hu with ⟨e1, e2⟩ | ⟨bk, e1, e2, e3, e4, e5⟩
    · simp only at e1 e2; subst e1; subst e2
      simp [s25_3, k25_0, k25_1, k25_3, k25_5, k25_6, hc, m.n, NW.cells]
      exact fin25 hR m ok hM hk rfl rfl rfl
    · simp only at e1 e2; subst e1
      simp [s25_3, k25_0, k25_1, k25_3, k25_5, k25_6, hc, m.n, NW.cells]
      refine Wc_intro (fun hc2 => ?_) (fun hc2 => ?_)
      · simp only [decide_eq_true_eq] at hc2
        have hpk := ok.pk
        simp only at hpk hK e2
        have hl1 : 1 ≤ ks.length := by omega
        have hl1' : (1 : Int) ≤ ks.length := by omega
        by_cases hl2 : ks.length = 1
        · have ea : aslS 1 (.sl 1 bk 0 ks.length none) (some 1) none none = some (.ps 1 []) := by
            simp only [aslS, Option.getD_some, Option.getD_none, hl2]
            simp
          simp [ea, m.n, NW.cells]
          have ek : ks.tail = [] := List.eq_nil_of_length_eq_zero (by simp; omega)
          exact fin25 (p := ⟨o, im, .ps 1 [], []⟩) hR (m.put ⟨o, im, .ps 1 [], []⟩ (.inl rfl)) ⟨ok.len, ok.ks, ok.wf, by simp, ok.pwf⟩ hM hk rfl rfl rfl
        · have ea : aslS 1 (.sl 1 bk 0 ks.length none) (some 1) none none = some (.sl 1 bk 1 (ks.length - 1) none) := by
            simp only [aslS, Option.getD_some, Option.getD_none]
            rw [if_pos ⟨trivial, by omega, hl1', Int.le_refl _⟩, if_neg (by omega)]
            simp
          simp [ea, m.n, NW.cells]
          exact fin25 (p := ⟨o, im, .sl 1 bk 1 (ks.length - 1) none, ks.tail⟩) hR (m.put ⟨o, im, .sl 1 bk 1 (ks.length - 1) none, ks.tail⟩ (.inr (.inr ⟨bk, 1, _, none, _, rfl, e2, e3, by simp; omega, by
            rw [List.take_of_length_le (by simp)]; simp, by simp, e4, e5⟩))) ⟨ok.len, ok.ks, ok.wf, by simp; omega, ok.pwf⟩ hM hk rfl rfl rfl
      · exact fin25 hR m ok hM hk rfl rfl rfl
  · obtain ⟨o, im, u, ks⟩ := p
    have huc : u.isCell = true := by
      rcases hu with ⟨e1, e2⟩ | ⟨bk, e1, e2, e3, e4, e5⟩ <;> simp only at e1 <;> subst e1 <;> rfl
    simp [s25_3, k25_0, k25_1, k25_3, k25_5, k25_7, k25_8, hc, m.n, NW.cells, huc, elems]
    rw [wApp_tip (ys := [.int .i64 o, .int .i64 im, u]) (m := 1) rfl m.out]
    refine ⟨by simp [huc], ⟨by omega, by omega⟩, nw_len w, fun b hb => ?_⟩
    have hb7 : b ≠ b7 := by rintro rfl; rw [m.out] at hb; cases hb
    have hb9 : b ≠ b9 := by rintro rfl; rw [m.n] at hb; cases hb
    have hb0 : h0 b = none := by
      cases hx : h0 b with
      | none => rfl
      | some x => rw [m.sub b x hx] at hb; cases hb
    have hsub : Sub h0 (era h b7) := by
      intro c x hc
      have : c ≠ b7 := by rintro rfl; rw [m.n7] at hc; cases hc
      rw [era_ne _ _ _ this]; exact m.sub c x hc
    have kk : ∀ (u' : V) (ks' : List Int), KV h0 h b7 b9 u' ks' → KV h0 (upd (era h b7) b (.cells 24 3 (w.flatMap NW.cells ++ [.int .i64 o, .int .i64 im, u]))) b b9 u' ks' := fun u' ks' k' => k'.heap fun c x hx _ h7 h9 => by
      have hcb : c ≠ b := by rintro rfl; rw [hb] at hx; cases hx
      exact ⟨by rw [upd_ne _ _ _ _ hcb, era_ne _ _ _ h7]; exact hx, hcb⟩
    have key := fin25 (w := w ++ [⟨o, im, u, ks⟩]) (p := ⟨o, im, u, ks⟩) (k := k) (tm := mk [(7, .sl 3 b 0 (w.length + 1) none), (8, .int .i64 (k : Nat)), (9, .ptr b9 0)]) hR
      ⟨sub_upd_out hsub hb0, by rw [upd_eq]; simp [NW.cells], by rw [upd_ne _ _ _ _ hb9.symm, era_ne _ _ _ m.ne.symm]; exact m.n, hb0, m.n9, hb9, fun q hq => by
        rcases List.mem_append.1 hq with hq | hq
        · exact kk _ _ (m.kw q hq)
        · simp at hq; subst hq; exact kk _ _ m.kp, kk _ _ m.kp⟩
      ⟨by simp; exact hN, fun q hq => by
        rcases List.mem_append.1 hq with hq | hq
        · exact ok.ks q hq
        · simp at hq; subst hq; exact ok.pk, fun q hq => by
        rcases List.mem_append.1 hq with hq | hq
        · exact ok.wf q hq
        · simp at hq; subst hq; exact ok.pwf, ok.pk, ok.pwf⟩ (by simp; omega) (by simp; omega) (by simp) rfl rfl
    simp [r25_6]
    exact key
  · have hr := hm (IntKind.i64.wrap (how.tdiv 10)) 40 (by omega)
    simp [s25_3, k25_0, k25_1, k25_3, k25_5, k25_7, k25_9, k25_10, hc, m.n, NW.cells, upd_eq]
    rw [upd_upd, upd_upd]
    refine fin25 hR (m.put ⟨3, IntKind.i64.wrap (how.tdiv 10) % 40, .nils, []⟩ (.inr (.inl ⟨rfl, rfl⟩))) ⟨ok.len, ok.ks, ok.wf, by simp, ⟨by simp [NW.nd], by simp only [NW.nd]; omega⟩⟩ hM hk rfl rfl rfl
  all_goals
    simp [s25_3, k25_0, k25_1, k25_3, k25_5, k25_7, k25_9, hc]
    exact fin25 hR m ok hM hk rfl rfl rfl

theorem ac25 {x : List Nd} {how at_ : Int} {N K : Nat} (hx : x.length + 1 ≤ N) (hN : N ≤ 100000) (hK : ∀ n ∈ x, n.kids.length + 1 ≤ K) (hK2 : K ≤ 100000) (hw : ∀ n ∈ x, n.wf) (hhow : -9223372036854775808 ≤ how ∧ how ≤ 9223372036854775807) :
    AC prog 25 [.ps 3 (x.map Nd.v), .int .i64 how, .int .i64 at_] h (MutR h N K x.length) := by
  refine AC_cv qf1_ok mixed t25 fun R hR => ?_
  have hx0 : ∀ hh, cellsOf hh 3 (.ps 3 (x.map Nd.v)) = some (x.flatMap fun n => n.v.cells, x.length) := by
    intro hh
    simp [cellsOf, List.flatMap_map]
  have hnw : ∀ y : List Nd, (y.map fun n => (⟨n.op, n.imm, .ps 1 (ints n.kids), n.kids⟩ : NW)).flatMap NW.cells = y.flatMap fun n => n.v.cells := by
    intro y
    rw [List.flatMap_map]
    rfl
  simp [c25]
  intro b10 hb10
  simp [r25_0]
  have g0 : Grow 24 3 h (.sl 3 b10 0 0 none) (upd h b10 (.cells 24 3 [])) [] 0 := .inr ⟨b10, hb10, rfl, rfl, rfl⟩
  refine g0.app (C := AC prog) (hx0 _) (flat_nodes_cell _) (flat_nodes_len _) (by omega) (by omega) fun v7 h7 g => ?_
  simp only [List.nil_append, Nat.zero_add] at g
  simp [r25_1, s25_0, g.len]
  refine Wc_intro (fun hc => ?_) (fun hc => ?_)
  · simp at hc
    subst hc
    refine hR _ _ _ _ g.view ⟨[], by rw [elems_nodes], by simp, by simp, by simp, by simp, rfl⟩
  · simp at hc
    have hx1 : 0 < x.length := by
      rcases x with _ | ⟨a, x⟩
      · simp at hc
      · simp
    obtain ⟨w, hwx⟩ : ∃ w : List NW, w = x.map fun n => ⟨n.op, n.imm, .ps 1 (ints n.kids), n.kids⟩ := ⟨_, rfl⟩
    have hwl : w.length = x.length := by simp [hwx]
    have hwm : ∀ p ∈ w, p.nd ∈ x ∧ p.u = .ps 1 (ints p.ks) := by
      intro p hp
      rw [hwx] at hp
      obtain ⟨n, hn, rfl⟩ := List.mem_map.1 hp
      exact ⟨hn, rfl⟩
    rw [← hnw x, ← hwx, ← hwl] at g
    clear hnw hx0
    rw [← hwl] at hx hx1 hR
    obtain ⟨b7, hb7, rfl, hl7, rfl⟩ := g.sl_of (by omega)
    have hm : ∀ y m : Int, 0 < m → 0 ≤ y % m ∧ y % m < m := fun y m hm => ⟨Int.emod_nonneg _ (by omega), Int.emod_lt_of_pos _ hm⟩
    have d1 : (0 : Int) < w.length := by omega
    have d2 : (w.length : Int) ≤ 4611686018427387904 := by omega
    obtain ⟨k, hk⟩ : ∃ k : Nat, at_ % (w.length : Int) = k := ⟨_, (Int.toNat_of_nonneg (hm at_ _ d1).1).symm⟩
    have hkl : k < w.length := by have := hm at_ _ d1; omega
    obtain ⟨p, hp⟩ : ∃ p, w[k]? = some p := ⟨_, List.getElem?_eq_getElem hkl⟩
    have hpw := hwm p (List.mem_of_getElem? hp)
    have hg := nw_get w k p hp
    have hs3 := sum3 w
    have hl3 := nw_len w
    have hle : 3 ≤ (w.flatMap NW.cells).length - k * 3 := by omega
    simp [s25_1, hx1, d2, hk, hkl, upd_at, hg, hle, -List.length_flatMap]
    intro b9 hb9
    have n79 : b7 ≠ b9 := by rintro rfl; simp [upd_at] at hb9
    have h9 : h b9 = none := by simpa [upd_at, Ne.symm n79] using hb9
    simp [r25_2, NW.cells, hpw.2, upd_at]
    rw [upd_upd]
    simp [s25_2]
    intro b25 hb25
    obtain ⟨H9, hH9⟩ : ∃ H, H = upd (upd h b7 (.cells 24 3 (w.flatMap NW.cells))) b9 (.cells 24 3 [.int .i64 p.op, .int .i64 p.imm, .ps 1 (ints p.ks)]) := ⟨_, rfl⟩
    rw [← hH9] at hb25 ⊢
    have e7 : H9 b7 = some (.cells 24 3 (w.flatMap NW.cells)) := by rw [hH9, upd_ne _ _ _ _ n79, upd_eq]
    have e9 : H9 b9 = some (.cells 24 3 [.int .i64 p.op, .int .i64 p.imm, .ps 1 (ints p.ks)]) := by rw [hH9, upd_eq]
    have n259 : b9 ≠ b25 := by rintro rfl; rw [e9] at hb25; cases hb25
    have hpk := hK p.nd hpw.1
    simp only [NW.nd] at hpk
    simp [r25_3, upd_ne _ _ _ _ n259, e9]
    have g1 : Grow 3 1 H9 (.sl 1 b25 0 0 none) (upd H9 b25 (.cells 3 1 [])) [] 0 := .inr ⟨b25, hb25, rfl, rfl, rfl⟩
    refine g1.app (C := AC prog) (ys := ints p.ks) (m := p.ks.length) (by simp [cellsOf, flat_ints]) (ints_isCell _) (by simp) (by omega) (by omega) fun u h8 g2 => ?_
    simp only [List.nil_append, Nat.zero_add] at g2
    have e89 := g2.sub _ _ e9
    have e87 := g2.sub _ _ e7
    have hs0 : Sub h H9 := by rw [hH9]; exact (sub_upd hb7 _).trans (sub_upd (by rw [upd_ne _ _ _ _ n79.symm]; exact h9) _)
    have huc : u.isCell = true := by
      rcases g2 with ⟨rfl, _⟩ | ⟨_, _, rfl, _⟩ <;> rfl
    have huc1 := isCell_cells huc
    simp [r25_4, e89, huc, huc1]
    have ho : OwnK h (upd h8 b9 (.cells 24 3 [.int .i64 p.op, .int .i64 p.imm, u])) b7 b9 u p.ks := by
      rcases g2 with ⟨rfl, e, _, _⟩ | ⟨bk, e1, rfl, _, rfl⟩
      · exact .inl ⟨rfl, List.eq_nil_of_length_eq_zero e⟩
      · have k7 : bk ≠ b7 := by rintro rfl; rw [e7] at e1; cases e1
        have k9 : bk ≠ b9 := by rintro rfl; rw [e9] at e1; cases e1
        refine .inr ⟨bk, rfl, by rw [upd_ne _ _ _ _ k9, upd_eq], ?_, k7, k9⟩
        cases hx : h bk with
        | none => rfl
        | some x => rw [hs0 bk x hx] at e1; cases e1
    refine sw25 (p := ⟨p.op, p.imm, u, p.ks⟩) hR ⟨sub_upd_out (hs0.trans g2.sub) h9, by rw [upd_ne _ _ _ _ n79]; exact e87, by rw [upd_eq]; rfl, hb7, h9, n79, fun q hq => .inl (hwm q hq).2, ho.kv⟩
      ⟨by omega, fun q hq => by have := hK _ (hwm q hq).1; simp only [NW.nd] at this; omega, fun q hq => hw _ (hwm q hq).1, by simp only; omega, hw _ hpw.1⟩ (Nat.le_refl _) hkl (fun q hq => (hwm q hq).2) ho hx hN hpk hK2 hhow
end
end Go.Abs
