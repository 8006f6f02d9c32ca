/- Plain facts about the seeds' nodes: their sorts when one more is appended. -/
import Derived.Test.YtjhdfbplkoaobaaMNumB
set_option linter.unusedVariables false
set_option linter.unusedSimpArgs false
namespace Go.Abs
open Classical

theorem nodeSortF_append {x r : List Nd} {y : Nd} {k : List Int} (h : ∀ q : Int, y.kids[0]? = some q → 0 ≤ q ∧ q < x.length) : nodeSortF (x ++ r) y k = nodeSortF x y k := by
  unfold nodeSortF
  by_cases hb : (arity y.op).2 = false ∨ (0 ≤ (arity y.op).1 ∧ (y.kids.length : Int) ≠ (arity y.op).1) ∨ validImm y.op y.imm = false
  · rw [if_pos hb, if_pos hb]
  · rw [if_neg hb, if_neg hb]
    by_cases e : y.op = 25
    · have hl : y.kids.length = 1 := by
        simp only [not_or] at hb
        have := hb.2.1
        simp only [arity, e] at this
        simp at this
        omega
      obtain ⟨q, hq⟩ := len1 hl
      have := h q (by rw [hq]; rfl)
      have e2 : (x ++ r).getD (y.kids.getD 0 0).toNat ⟨0, 0, []⟩ = x.getD (y.kids.getD 0 0).toNat ⟨0, 0, []⟩ := by
        rw [hq]
        simp only [List.getD_eq_getElem?_getD, List.getElem?_cons_zero, Option.getD_some]
        rw [List.getElem?_append_left (by omega)]
      rw [e2]
    · simp only [if_neg e]

theorem sortAt_append {x r : List Nd} {out : List Int} {i : Nat} {y : Nd} (hi : i ≤ x.length) : sortAt (x ++ r) out i y = sortAt x out i y := by
  unfold sortAt
  cases hk : kidSorts out i y.kids with
  | none => rfl
  | some k =>
    refine nodeSortF_append fun q hq => ?_
    have := kidSorts_in hk q (List.mem_of_getElem? hq)
    omega

theorem sortsN_append (x r : List Nd) : ∀ i, i ≤ x.length → sortsN (x ++ r) i = sortsN x i
  | 0, _ => rfl
  | i + 1, hi => by
    have ih := sortsN_append x r i (by omega)
    simp only [sortsN, ih]
    rw [List.getElem?_append_left (by omega), List.getElem?_eq_getElem (by omega : i < x.length)]
    simp only
    rw [sortAt_append (by omega)]

theorem sortsF_snoc (x : List Nd) (n : Nd) : sortsF (x ++ [n]) = sortsF x ++ [sortAt x (sortsF x) x.length n] := by
  unfold sortsF
  rw [List.length_append, List.length_singleton]
  simp only [sortsN, sortsN_append x [n] x.length (Nat.le_refl _)]
  rw [List.getElem?_append_right (Nat.le_refl _), Nat.sub_self]
  simp only [List.getElem?_cons_zero]
  rw [sortAt_append (Nat.le_refl _)]

/-- What a seed may make: operation and immediate operand. -/
def SeedOp (vals : Bool) (o m : Int) : Prop :=
  (o = 1 ∧ -9223372036854775808 ≤ m ∧ m ≤ 9223372036854775807) ∨ (4 ≤ o ∧ o ≤ 22 ∧ m = 0) ∨ (vals = false ∧ (o = 23 ∨ o = 28) ∧ 0 ≤ m ∧ m ≤ 1) ∨ (vals = false ∧ o = 27 ∧ 1 ≤ m ∧ m ≤ 2) ∨ (vals = false ∧ (o = 29 ∨ o = 24) ∧ m = 0)

/-- Seeds' nodes. -/
structure GoodN (vals : Bool) (x : List Nd) : Prop where
  three : 3 ≤ x.length
  n0 : x[0]? = some ⟨2, 0, []⟩
  n1 : x[1]? = some ⟨2, 1, []⟩
  n2 : x[2]? = some ⟨26, 0, []⟩
  kids : ∀ y ∈ x, y.kids.length ≤ 3
  wf : ∀ y ∈ x, y.wf
  nodup : x.Nodup
  s0 : (sortsF x)[0]? = some 1
  s2 : (sortsF x)[2]? = some 2
  sorts : ∀ (i : Nat) (s : Int), (sortsF x)[i]? = some s → s ≠ 0 ∧ (vals = true → i ≠ 2 → s = 1)
  ops : ∀ y ∈ x, (y = ⟨2, 0, []⟩ ∨ y = ⟨2, 1, []⟩ ∨ y = ⟨26, 0, []⟩) ∨ SeedOp vals y.op y.imm

def seed0 : List Nd := [⟨2, 0, []⟩, ⟨2, 1, []⟩, ⟨26, 0, []⟩]
theorem sorts_seed0 : sortsF seed0 = [1, 1, 2] := by
  simp [sortsF, seed0, sortsN, sortAt, kidSorts, nodeSortF, arity, validImm, maxImm, all1]

theorem good_seed0 (vals : Bool) : GoodN vals seed0 where
  three := by simp [seed0]
  n0 := rfl
  n1 := rfl
  n2 := rfl
  kids := by intro y hy; simp [seed0] at hy; rcases hy with rfl | rfl | rfl <;> simp
  wf := by intro y hy; simp [seed0] at hy; rcases hy with rfl | rfl | rfl <;> simp [Nd.wf]
  nodup := by simp [seed0]
  s0 := by rw [sorts_seed0]; rfl
  s2 := by rw [sorts_seed0]; rfl
  sorts := by
    intro i s hs
    rw [sorts_seed0] at hs
    match i with
    | 0 => simp at hs; subst hs; simp
    | 1 => simp at hs; subst hs; simp
    | 2 => simp at hs; subst hs; simp
    | i + 3 => simp at hs
  ops := by intro y hy; simp [seed0] at hy; exact .inl hy

/-- The operands' sorts are as the operation asks. -/
def SeedKids (x : List Nd) (o : Int) (ks : List Int) : Prop := ∀ (t : Nat) (q : Int), ks[t]? = some q → 0 ≤ q ∧ q < x.length ∧ (sortsF x)[q.toNat]? = some (opSort o t)

theorem seed_kidSorts {x : List Nd} {o : Int} : ∀ {ks : List Int} (d : Nat), (∀ (t : Nat) (q : Int), ks[t]? = some q → 0 ≤ q ∧ q < x.length ∧ (sortsF x)[q.toNat]? = some (opSort o (d + t))) → kidSorts (sortsF x) x.length ks = some ((List.range ks.length).map fun (t : Nat) => opSort o ((d : Int) + (t : Int)))
  | [], d, _ => rfl
  | q :: ks, d, h => by
    obtain ⟨h1, h2, h3⟩ := h 0 q rfl
    have hs : (sortsF x).getD q.toNat 0 = opSort o d := by
      rw [List.getD_eq_getElem?_getD, h3]; rfl
    have hne : opSort o d ≠ 0 := by unfold opSort; split <;> omega
    have hc : ¬ (q < 0 ∨ (x.length : Int) ≤ q ∨ (sortsF x).getD q.toNat 0 = 0) := by rw [hs]; omega
    have ih := seed_kidSorts (x := x) (o := o) (ks := ks) (d + 1) fun t q' hq' => by
      have := h (t + 1) q' (by simpa using hq')
      have e : ((d : Int) + ((t + 1 : Nat) : Int)) = (((d + 1 : Nat) : Int) + (t : Int)) := by omega
      rw [e] at this
      exact this
    simp only [kidSorts, if_neg hc, ih, Option.map_some, hs, List.length_cons, List.range_succ_eq_map, List.map_cons, List.map_map]
    simp
    exact ⟨⟨h1, h2, hne⟩, fun a _ => by congr 1; omega⟩

theorem GoodN.snoc {vals : Bool} {x : List Nd} (g : GoodN vals x) {o m : Int} {ks : List Int} (ho : SeedOp vals o m) (hk : SeedKids x o ks) (hl : (ks.length : Int) = (arity o).1) (hn : (⟨o, m, ks⟩ : Nd) ∉ x) : GoodN vals (x ++ [⟨o, m, ks⟩]) := by
  have hkl : ks.length ≤ 3 := by
    have : (arity o).1 ≤ 3 := by unfold arity; repeat' split
                                 all_goals simp
    omega
  have hks := seed_kidSorts (x := x) (o := o) (ks := ks) 0 fun t q hq => by
    have h1 := hk t q hq
    have e : (((0 : Nat) : Int) + (t : Int)) = t := by omega
    rw [e]
    exact h1
  have hsort : sortAt x (sortsF x) x.length ⟨o, m, ks⟩ ≠ 0 ∧ (vals = true → sortAt x (sortsF x) x.length ⟨o, m, ks⟩ = 1) := by
    unfold sortAt
    simp only [hks]
    generalize hkk : (List.range ks.length).map (fun (t : Nat) => opSort o (((0 : Nat) : Int) + (t : Int))) = k
    have fin0 : ks.length = 0 → k = [] := fun h => by rw [← hkk, h]; rfl
    have fin1 : ks.length = 1 → k = [opSort o 0] := fun h => by rw [← hkk, h]; rfl
    have fin2 : ks.length = 2 → k = [opSort o 0, opSort o 1] := fun h => by rw [← hkk, h]; rfl
    have fin3 : ks.length = 3 → k = [opSort o 0, opSort o 1, opSort o 2] := fun h => by rw [← hkk, h]; rfl
    clear hkk hks
    rcases ho with ⟨rfl, _, _⟩ | ⟨h1, h2, rfl⟩ | ⟨hv, rfl | rfl, h1, h2⟩ | ⟨hv, rfl, h1, h2⟩ | ⟨hv, rfl | rfl, rfl⟩
    · have h0 : ks.length = 0 := by simp [arity] at hl; simp [hl]
      rw [fin0 h0]
      simp [nodeSortF, arity, h0, validImm, all1]
    · have q : o = 22 ∨ (o = 20 ∨ o = 21) ∨ (4 ≤ o ∧ o ≤ 19) := by omega
      rcases q with rfl | q | q
      · have h0 : ks.length = 3 := by simp [arity] at hl; omega
        rw [fin3 h0]
        simp [nodeSortF, arity, h0, validImm, maxImm, k0, k1, k2, opSort]
      · have h0 : ks.length = 1 := by rcases q with rfl | rfl <;> simp [arity] at hl <;> omega
        rw [fin1 h0]
        rcases q with rfl | rfl <;> simp [nodeSortF, arity, h0, validImm, maxImm, all1, opSort]
      · have ha : arity o = (2, true) := by
          unfold arity
          repeat' split
          all_goals first | rfl | (exfalso; omega)
        have h0 : ks.length = 2 := by rw [ha] at hl; simp at hl; omega
        have hm : maxImm o = -1 := by
          unfold maxImm
          repeat' split
          all_goals first | rfl | (exfalso; omega)
        have e0 : opSort o 0 = 1 := by unfold opSort; rw [if_neg]; omega
        have e1 : opSort o 1 = 1 := by unfold opSort; rw [if_neg]; omega
        have hv : validImm o 0 = true := by simp [validImm, hm]
        rw [fin2 h0, e0, e1]
        unfold nodeSortF
        simp only [ha, hv, h0]
        have t1 : ¬ o = 3 := by omega
        have t2 : ¬ o = 26 := by omega
        have t3 : ¬ o = 22 := by omega
        have t4 : ¬ o = 23 := by omega
        have t5 : ¬ o = 24 := by omega
        have t6 : ¬ o = 25 := by omega
        have t7 : ¬ (o = 27 ∨ o = 29) := by omega
        have t8 : ¬ o = 28 := by omega
        have t9 : ¬ o = 30 := by omega
        have t10 : ¬ o = 31 := by omega
        simp [t1, t2, t3, t4, t5, t6, t7, t8, t9, t10, all1]
    · have h0 : ks.length = 2 := by simp [arity] at hl; omega
      rw [fin2 h0]
      have e3 : m ≤ 3 := by omega
      simp [nodeSortF, arity, h0, validImm, maxImm, k0, k1, opSort, h1, e3, hv]
    · have h0 : ks.length = 3 := by simp [arity] at hl; omega
      rw [fin3 h0]
      have e3 : m ≤ 3 := by omega
      simp [nodeSortF, arity, h0, validImm, maxImm, k0, k1, k2, opSort, h1, e3, hv]
    · have h0 : ks.length = 2 := by simp [arity] at hl; omega
      rw [fin2 h0]
      have e3 : m ≤ 1000016 := by omega
      have e4 : 0 ≤ m := by omega
      have e5 : 0 < m := by omega
      simp [nodeSortF, arity, h0, validImm, maxImm, k0, k1, opSort, e3, e4, e5, hv]
    · have h0 : ks.length = 2 := by simp [arity] at hl; omega
      rw [fin2 h0]
      simp [nodeSortF, arity, h0, validImm, maxImm, k0, k1, opSort, hv]
    · have h0 : ks.length = 1 := by simp [arity] at hl; omega
      rw [fin1 h0]
      simp [nodeSortF, arity, h0, validImm, maxImm, k0, opSort, hv]
  have hlen : (sortsF x).length = x.length := by simp [sortsF]
  refine ⟨by rw [List.length_append]; have := g.three; omega, ?_, ?_, ?_, ?_, ?_, ?_, ?_, ?_, ?_, ?_⟩
  · rw [List.getElem?_append_left (by have := g.three; omega)]; exact g.n0
  · rw [List.getElem?_append_left (by have := g.three; omega)]; exact g.n1
  · rw [List.getElem?_append_left (by have := g.three; omega)]; exact g.n2
  · intro y hy
    rcases List.mem_append.1 hy with hy | hy
    · exact g.kids y hy
    · simp at hy; subst hy; exact hkl
  · intro y hy
    rcases List.mem_append.1 hy with hy | hy
    · exact g.wf y hy
    · simp at hy; subst hy
      unfold Nd.wf SeedOp at *
      simp only
      omega
  · rw [List.nodup_append]
    exact ⟨g.nodup, by simp, fun a ha b hb => by simp at hb; subst hb; rintro rfl; exact hn ha⟩
  · rw [sortsF_snoc, List.getElem?_append_left (by have := g.three; omega)]; exact g.s0
  · rw [sortsF_snoc, List.getElem?_append_left (by have := g.three; omega)]; exact g.s2
  · intro i s hs
    rw [sortsF_snoc] at hs
    rcases Nat.lt_or_ge i (sortsF x).length with c | c
    · rw [List.getElem?_append_left c] at hs
      exact g.sorts i s hs
    · rw [List.getElem?_append_right c] at hs
      have : i - (sortsF x).length = 0 := by have := (List.getElem?_eq_some_iff.1 hs).1; simpa using this
      rw [this] at hs
      simp at hs
      subst hs
      exact ⟨hsort.1, fun hv _ => hsort.2 hv⟩
  · intro y hy
    rcases List.mem_append.1 hy with hy | hy
    · exact g.ops y hy
    · simp at hy; subst hy
      exact .inr ho
end Go.Abs

/- What Nodes, the seeds' nodes, returns. -/
namespace Go.Abs
open Go.Proofs.Try (prog)
open Classical

/-- A block of one's own, seen otherwise cell by cell; what its cells reach is let go. -/
theorem Shift.blk {tm : Nat → V} {h h' : Heap} {nb sz : Nat} {e0 : TypeId} {cs cs' : List V} (hsub : Sub h' h) (hn : h' nb = some (.cells e0 sz cs)) (f : FrzL h h' cs cs') (hc : cs'.all V.isCell = true) : Shift tm h tm (upd h' nb (.cells e0 sz cs')) := by
  intro ρ w a hs htr
  obtain ⟨s1, s2⟩ := hs.sub hsub
  obtain ⟨cb, K, hr, cur, g1, g2, g3, g4, g5⟩ := hs.blk nb _ (hsub _ _ hn)
  have key := s1.turn (w' := w) (x := .cells e0 sz cs') hr hn rfl rfl rfl rfl (fun _ _ => rfl) (fun ff => by
    refine ⟨cur, g1, g2, g3, by rw [← f.length]; exact g4, fun i y hy => ?_⟩
    have hi : i < cs.length := by rw [f.length]; exact (List.getElem?_eq_some_iff.1 hy).1
    have hx := List.getElem?_eq_getElem hi
    obtain ⟨_, cv, a2, a3⟩ := g5 _ _ hx
    exact ⟨List.all_eq_true.1 hc y (List.mem_of_getElem? hy), cv, a2, (frz_rel hs hsub (f.get i _ y hx hy) a3).fr ff⟩)
  exact ⟨key.1, (htr.fr s2).fr key.2, s2.trans key.2⟩

theorem wordF_range {n raw : Int} (h : -9223372036854775808 ≤ raw ∧ raw ≤ 9223372036854775807) : -9223372036854775808 ≤ wordF n raw ∧ wordF n raw ≤ 9223372036854775807 := by
  unfold wordF
  split
  · rename_i h1
    have g1 := Int.emod_nonneg n (show (24 : Int) ≠ 0 by omega)
    obtain ⟨k, hk⟩ : ∃ k : Nat, n % 24 = k := ⟨_, (Int.toNat_of_nonneg g1).symm⟩
    rw [hk]
    have q : k = 0 ∨ k = 1 ∨ k = 2 ∨ k = 3 ∨ k = 4 ∨ k = 5 ∨ k = 6 ∨ k = 7 ∨ k = 8 ∨ k = 9 := by omega
    rcases q with rfl | rfl | rfl | rfl | rfl | rfl | rfl | rfl | rfl | rfl <;> simp [edges]
  · split
    · have g3 := Int.emod_nonneg (IntKind.i64.wrap (n.tdiv 24)) (show (17 : Int) ≠ 0 by omega)
      have g4 := Int.emod_lt_of_pos (IntKind.i64.wrap (n.tdiv 24)) (show (0 : Int) < 17 by omega)
      omega
    · exact h

theorem flat_nodes_len (x : List Nd) : (x.flatMap fun n => n.v.cells).length = x.length * 3 := by
  induction x with
  | nil => rfl
  | cons a x ih => rw [List.flatMap_cons, List.length_append, ih, List.length_cons]; simp [Nd.v]; omega
theorem flat_nodes_cell (x : List Nd) : (x.flatMap fun n => n.v.cells).all V.isCell = true := by
  induction x with
  | nil => rfl
  | cons a x ih => rw [List.flatMap_cons, List.all_append, ih]; rfl
theorem elems_nodes : ∀ (x : List Nd), elems 3 x.length (x.flatMap fun n => n.v.cells) = x.map Nd.v := by
  intro x
  have key : ∀ (x : List Nd), (List.range x.length).map (fun i => V.agg (((x.flatMap fun n => n.v.cells).drop (i * 3)).take 3)) = x.map Nd.v := by
    intro x
    induction x with
    | nil => rfl
    | cons a x ih =>
      rw [List.length_cons, List.range_succ_eq_map, List.map_cons, List.map_map, List.map_cons, ← ih]
      congr 1
      apply List.map_congr_left
      intro i _
      simp only [Function.comp, List.flatMap_cons]
      have e : (Nat.succ i) * 3 = (a.v.cells).length + i * 3 := by simp [Nd.v]; omega
      rw [e, List.drop_append]
      simp [Nd.v]
      rw [List.drop_eq_nil_of_le (by simp)]
      rfl
  unfold elems
  simp
  have := key x
  simpa using this

/-- What is known while a node is made: `rd` is left to read, `u` lies in the node's third cell. -/
structure K24 (h1 h2 : Heap) (b7 b8 : Nat) (rd : List Int) (o m : Int) (u : V) (ks : List Int) : Prop where
  sub : Sub h1 h2
  r : h2 b7 = some (.cells 106 2 [.ps 1 (ints rd), .int .i64 0])
  n : h2 b8 = some (.cells 24 3 [.int .i64 o, .int .i64 m, u])
  u : (u = .nils ∧ ks = []) ∨ ∃ bk, u = .sl 1 bk 0 ks.length none ∧ h2 bk = some (.cells 3 1 (ints ks)) ∧ h1 bk = none ∧ bk ≠ b7 ∧ bk ≠ b8
  n7 : h1 b7 = none
  n8 : h1 b8 = none
  ne : b7 ≠ b8

theorem sub_upd_out {h1 h2 : Heap} {b : Nat} {x : Blk} (hs : Sub h1 h2) (hb : h1 b = none) : Sub h1 (upd h2 b x) := by
  intro c y hc
  have : c ≠ b := by rintro rfl; rw [hb] at hc; cases hc
  rw [upd_ne _ _ _ _ this]; exact hs c y hc

theorem K24.read {h1 h2 : Heap} {b7 b8 : Nat} {rd rd' : List Int} {o m : Int} {u : V} {ks : List Int} (k : K24 h1 h2 b7 b8 rd o m u ks) : K24 h1 (upd h2 b7 (.cells 106 2 [.ps 1 (ints rd'), .int .i64 0])) b7 b8 rd' o m u ks := by
  refine ⟨sub_upd_out k.sub k.n7, upd_eq _ _ _, by rw [upd_ne _ _ _ _ k.ne.symm]; exact k.n, ?_, k.n7, k.n8, k.ne⟩
  rcases k.u with h | ⟨bk, e1, e2, e3, e4, e5⟩
  · exact .inl h
  · exact .inr ⟨bk, e1, by rw [upd_ne _ _ _ _ e4]; exact e2, e3, e4, e5⟩

theorem K24.setN {h1 h2 : Heap} {b7 b8 : Nat} {rd : List Int} {o m o' m' : Int} {u : V} {ks : List Int} (k : K24 h1 h2 b7 b8 rd o m u ks) : K24 h1 (upd h2 b8 (.cells 24 3 [.int .i64 o', .int .i64 m', u])) b7 b8 rd o' m' u ks := by
  refine ⟨sub_upd_out k.sub k.n8, by rw [upd_ne _ _ _ _ k.ne]; exact k.r, upd_eq _ _ _, ?_, k.n7, k.n8, k.ne⟩
  rcases k.u with h | ⟨bk, e1, e2, e3, e4, e5⟩
  · exact .inl h
  · exact .inr ⟨bk, e1, by rw [upd_ne _ _ _ _ e5]; exact e2, e3, e4, e5⟩

/-- One operand more. -/
theorem K24.app {C : FuncId → List V → Heap → (V → Heap → Prop) → Prop} {h1 h2 : Heap} {b7 b8 : Nat} {rd : List Int} {o m : Int} {u : V} {ks : List Int} (k : K24 h1 h2 b7 b8 rd o m u ks) {q : Int} (hl : ks.length < 1000) {K : V → Heap → Prop}
    (next : ∀ (b : Nat) (h3 : Heap), h3 b8 = some (.cells 24 3 [.int .i64 o, .int .i64 m, u]) → K24 h1 (upd h3 b8 (.cells 24 3 [.int .i64 o, .int .i64 m, .sl 1 b 0 (ks.length + 1) none])) b7 b8 rd o m (.sl 1 b 0 (ks.length + 1) none) (ks ++ [q]) → K (.sl 1 b 0 (ks.length + 1) none) h3) : wApp 3 1 8 u (.ps 1 [.int .i64 q]) h2 K := by
  have hx : cellsOf h2 1 (.ps 1 [.int .i64 q]) = some ([.int .i64 q], 1) := rfl
  rcases k.u with ⟨rfl, rfl⟩ | ⟨bk, rfl, e2, e3, e4, e5⟩
  · rw [wApp_nils hx]
    refine ⟨rfl, ?_⟩
    rw [if_neg (by omega)]
    refine ⟨by omega, by omega, fun b hb => ?_⟩
    have hb7 : b ≠ b7 := by rintro rfl; rw [k.r] at hb; cases hb
    have hb8 : b ≠ b8 := by rintro rfl; rw [k.n] at hb; cases hb
    have hb1 : h1 b = none := by
      cases hx : h1 b with
      | none => rfl
      | some x => rw [k.sub b x hx] at hb; cases hb
    refine next _ _ (by rw [upd_ne _ _ _ _ hb8.symm]; exact k.n) ⟨sub_upd_out (sub_upd_out k.sub hb1) k.n8, ?_, upd_eq _ _ _, .inr ⟨b, rfl, ?_, hb1, hb7, hb8⟩, k.n7, k.n8, k.ne⟩
    · rw [upd_ne _ _ _ _ k.ne, upd_ne _ _ _ _ hb7.symm]; exact k.r
    · rw [upd_ne _ _ _ _ hb8, upd_eq]; rfl
  · rw [wApp_tip hx e2]
    refine ⟨rfl, ⟨by omega, by omega⟩, by simp, fun b hb => ?_⟩
    have hbk : ∀ c, c ≠ bk → era h2 bk c = h2 c := fun c hc => era_ne _ _ _ hc
    by_cases hbb : b = bk
    · subst hbb; rw [e2] at hb; cases hb
    have hb7 : b ≠ b7 := by rintro rfl; rw [k.r] at hb; cases hb
    have hb8 : b ≠ b8 := by rintro rfl; rw [k.n] at hb; cases hb
    have hb1 : h1 b = none := by
      cases hx : h1 b with
      | none => rfl
      | some x => rw [k.sub b x hx] at hb; cases hb
    have hsub : Sub h1 (era h2 bk) := by
      intro c x hc
      have : c ≠ bk := by rintro rfl; rw [e3] at hc; cases hc
      rw [hbk c this]; exact k.sub c x hc
    refine next _ _ (by rw [upd_ne _ _ _ _ hb8.symm, hbk _ e5.symm]; exact k.n) ⟨sub_upd_out (sub_upd_out hsub hb1) k.n8, ?_, upd_eq _ _ _, .inr ⟨b, by simp, ?_, hb1, hb7, hb8⟩, k.n7, k.n8, k.ne⟩
    · rw [upd_ne _ _ _ _ k.ne, upd_ne _ _ _ _ hb7.symm, hbk _ e4.symm]; exact k.r
    · rw [upd_ne _ _ _ _ hb8, upd_eq]; simp [ints]

/-- In the end the node never changes again. -/
theorem K24.shift {h1 h2 : Heap} {b7 b8 t : Nat} {rd : List Int} {o m : Int} {u : V} {ks : List Int} {tm : Nat → V} (k : K24 h1 h2 b7 b8 rd o m u ks) (ht : tm t = .ptr b8 0) : Shift tm h2 (put tm t (.pp [.int .i64 o, .int .i64 m, .ps 1 (ints ks)])) h1 := by
  refine Shift.frz1 t _ k.sub ?_
  rw [ht]
  refine Frz.ptr (ys := [.int .i64 o, .int .i64 m, .ps 1 (ints ks)]) k.n k.n8 (by simp) ?_
  have f : FrzL h2 h1 [.int .i64 o, .int .i64 m, u] [.int .i64 o, .int .i64 m, .ps 1 (ints ks)] := by
    refine .keep (.keep (.cons ?_ .nil))
    rcases k.u with ⟨rfl, rfl⟩ | ⟨bk, rfl, e2, e3, _, _⟩
    · exact .nils 1
    · exact Frz.sl1 e2 e3 (by simp) fun x hx => List.all_eq_true.1 (ints_isCell ks) x hx
  intro j x y hx hy
  exact f.get j x y (by simpa using hx) hy
end Go.Abs

/- The walk through Nodes, the seeds' nodes. -/
namespace Go.Abs
open Go.Proofs.Try (prog)
open Classical
section
variable {h : Heap} {l : List Int} {vals : Bool}

/-- The operations before the immediate operand is set. -/
def SeedOp0 (vals : Bool) (o m : Int) : Prop :=
  (o = 1 ∧ -9223372036854775808 ≤ m ∧ m ≤ 9223372036854775807) ∨ (4 ≤ o ∧ o ≤ 22 ∧ m = 0) ∨ (vals = false ∧ (o = 23 ∨ o = 28 ∨ o = 27 ∨ o = 29 ∨ o = 24) ∧ m = 0)

abbrev T24 (l : List Int) (vals : Bool) (v : V) (i : Nat) : List (Nat × V) := [(0, .ps 1 (ints l)), (1, .bool vals), (5, v), (6, .int .i64 (i : Nat))]

theorem nodes_lend {h1 h2 : Heap} {v : V} {x : List Nd} (g : Grow 24 3 h v h1 (x.flatMap fun n => n.v.cells) x.length) (hs : Sub h1 h2) (hx : x ≠ []) : fzV h2 v = .ps 3 (x.map Nd.v) := by
  have hx0 : x.length ≠ 0 := fun h => hx (List.eq_nil_of_length_eq_zero h)
  obtain ⟨b, hb, rfl, hl, rfl⟩ := g.sl_of hx0
  have := hs b _ (upd_eq _ _ _)
  simp only [fzV, this]
  have hle : 0 * 3 + x.length * 3 ≤ (x.flatMap fun n => n.v.cells).length := by omega
  simp only [hle, and_self, if_true, Nat.zero_mul, List.drop_zero]
  rw [elems_nodes]

/-- One operand: the two calls, in whatever order with the node's load. -/
theorem next24 {h1 h2 : Heap} {b7 b8 : Nat} {rd : List Int} {o m : Int} {u : V} {ks : List Int} (k : K24 h1 h2 b7 b8 rd o m u ks) {Q : V → Heap → Prop} (q : ∀ a h3 rd', K24 h1 h3 b7 b8 rd' o m u ks → Q (.int .i64 a) h3) : AC prog 65 [.ptr b7 0] h2 Q := by
  refine (ac65 k.r).mono ?_
  rintro v h' ⟨rfl, rfl⟩
  exact q _ _ _ k.read

theorem of24 {h1 h2 : Heap} {v : V} {x : List Nd} (g : Grow 24 3 h v h1 (x.flatMap fun n => n.v.cells) x.length) (gx : GoodN vals x) (hxl : x.length ≤ 17) (hs : Sub h1 h2) {s a : Int} (hs12 : s = 1 ∨ s = 2) {Q : V → Heap → Prop}
    (q : ∀ t : Nat, t < x.length → (sortsF x)[t]? = some s → Q (.int .i64 (t : Nat)) h2) : AC prog 63 [v, .int .i64 s, .int .i64 a] h2 Q := by
  have hex : ∃ t : Nat, (sortsF x)[t]? = some s := by
    rcases hs12 with rfl | rfl
    · exact ⟨0, gx.s0⟩
    · exact ⟨2, gx.s2⟩
  obtain ⟨o1, o2⟩ := ofF_spec (n := a) hex
  refine (AC.lend (v0 := .int .i64 (ofF x s a : Nat)) rfl ?_).mono ?_
  · have e1 := nodes_lend g hs (fun e => by have := gx.three; rw [e] at this; simp at this)
    simp only [List.map_cons, List.map_nil, e1]
    show AC prog 63 [.ps 3 (x.map Nd.v), .int .i64 s, .int .i64 a] noHeap _
    exact (ac63 (by omega) (fun y hy => by have := gx.kids y hy; omega) hex).mono fun _ _ h => h.1
  · rintro v' h' ⟨rfl, rfl⟩
    exact q _ o1 o2

theorem kids24 {h1 h2 : Heap} {v : V} {x : List Nd} {b7 b8 i A : Nat} {rd : List Int} {o m : Int} {Q : AExit → (Nat → V) → Heap → Prop} (g : Grow 24 3 h v h1 (x.flatMap fun n => n.v.cells) x.length) (gx : GoodN vals x) (hxl : x.length ≤ 17) (k : K24 h1 h2 b7 b8 rd o m .nils []) (hA : A ≤ 3)
    (post : ∀ h3 u ks rd', K24 h1 h3 b7 b8 rd' o m u ks → ks.length = A → SeedKids x o ks → Q .normal (mk [(0, .ps 1 (ints l)), (1, .bool vals), (5, v), (6, .int .i64 (i : Nat)), (7, .ptr b7 0), (8, .ptr b8 0), (9, .int .i64 (A : Nat)), (11, .int .i64 (A : Nat)), (96, .bool false)]) h3) :
    W qf1 (AC prog) l24_1 Q (mk [(0, .ps 1 (ints l)), (1, .bool vals), (5, v), (6, .int .i64 (i : Nat)), (7, .ptr b7 0), (8, .ptr b8 0), (9, .int .i64 (A : Nat)), (11, .int .i64 0)]) h2 := by
  simp only [l24_1, W_block]
  refine W_loop' (fun mm tm h3 => ∃ (j : Nat) (u : V) (ks rd : List Int), mm = A - j ∧ j ≤ A ∧ tm = mk [(0, .ps 1 (ints l)), (1, .bool vals), (5, v), (6, .int .i64 (i : Nat)), (7, .ptr b7 0), (8, .ptr b8 0), (9, .int .i64 (A : Nat)), (11, .int .i64 (j : Nat))] ∧ K24 h1 h3 b7 b8 rd o m u ks ∧ ks.length = j ∧ SeedKids x o ks)
    A ⟨0, .nils, [], rd, rfl, by omega, rfl, k, rfl, fun t q hq => by simp at hq⟩ ?_
  clear k rd h2
  rintro J hJ mm _ h2 ⟨j, u, ks, rd, rfl, hj, rfl, k, hkl, hks⟩
  simp [b24_1]
  refine Wc_intro (fun hc => ?_) (fun hc => ?_)
  · simp at hc
    have w5 : IntKind.i64.wrap ((j : Int) + 1) = j + 1 := wrap_id (by omega) (by omega)
    have hs12 : opSort o j = 1 ∨ opSort o j = 2 := by unfold opSort; split <;> simp
    -- what each order comes to
    have fin : ∀ (t : Nat) (h4 : Heap) (u' : V) (rd' : List Int), t < x.length → (sortsF x)[t]? = some (opSort o j) → K24 h1 h4 b7 b8 rd' o m u' (ks ++ [(t : Int)]) → ∃ mm, mm < A - j ∧ J mm (mk [(0, .ps 1 (ints l)), (1, .bool vals), (5, v), (6, .int .i64 (i : Nat)), (7, .ptr b7 0), (8, .ptr b8 0), (9, .int .i64 (A : Nat)), (11, .int .i64 ((j : Int) + 1))]) h4 := by
      intro t h4 u' rd' ht1 ht2 k'
      refine ⟨A - (j + 1), by omega, hJ _ _ _ ⟨j + 1, u', _, rd', rfl, by omega, by simp, k', by simp [hkl], fun p q hq => ?_⟩⟩
      rcases Nat.lt_or_ge p ks.length with c | c
      · rw [List.getElem?_append_left c] at hq; exact hks p q hq
      · rw [List.getElem?_append_right c] at hq
        have hp : p - ks.length = 0 := by have := (List.getElem?_eq_some_iff.1 hq).1; simpa using this
        rw [hp] at hq
        simp at hq
        subst hq
        have : p = j := by omega
        subst this
        exact ⟨by omega, by omega, by simpa using ht2⟩
    simp [s24_8, k.n]
    refine ⟨?_, ?_⟩
    · refine next24 k fun a h3 rd' k' => ?_
      simp [r24_3]
      refine of24 g gx hxl k'.sub hs12 fun t ht1 ht2 => ?_
      simp [r24_4, elems]
      refine k'.app (C := AC prog) (by omega) fun b h4 hn4 k4 => ?_
      simp [r24_5, hn4, s24_9, w5]
      exact fin t _ _ _ ht1 ht2 k4
    · refine next24 k fun a h3 rd' k' => ?_
      simp [r24_6, k'.n]
      refine ⟨?_, ?_⟩
      · refine of24 g gx hxl k'.sub hs12 fun t ht1 ht2 => ?_
        simp [r24_7, elems]
        refine k'.app (C := AC prog) (by omega) fun b h4 hn4 k4 => ?_
        simp [r24_8, hn4, s24_9, w5]
        exact fin t _ _ _ ht1 ht2 k4
      · refine of24 g gx hxl k'.sub hs12 fun t ht1 ht2 => ?_
        simp [r24_9, elems, k'.n]
        refine k'.app (C := AC prog) (by omega) fun b h4 hn4 k4 => ?_
        simp [r24_10, hn4, s24_9, w5]
        exact fin t _ _ _ ht1 ht2 k4
  · simp at hc
    obtain rfl : j = A := by omega
    have d : decide (j < j) = false := by simp
    rw [d]
    exact post _ _ _ _ k hkl hks

theorem rest24 {h1 h3 : Heap} {v : V} {x : List Nd} {b7 b8 i : Nat} {rd : List Int} {o m : Int} {u : V} {ks : List Int} {Q : AExit → (Nat → V) → Heap → Prop} (g : Grow 24 3 h v h1 (x.flatMap fun n => n.v.cells) x.length) (gx : GoodN vals x) (hxl : x.length ≤ 16) (k : K24 h1 h3 b7 b8 rd o m u ks)
    (hk : SeedKids x o ks) (hkl : (ks.length : Int) = (arity o).1) (ho : SeedOp0 vals o m) (hi : i < l.length)
    (post : ∀ (tm : Nat → V) v' h' x', tm 0 = .ps 1 (ints l) → tm 1 = .bool vals → tm 5 = v' → tm 6 = .int .i64 (i : Nat) → GoodN vals x' → x'.length ≤ x.length + 1 → Grow 24 3 h v' h' (x'.flatMap fun n => n.v.cells) x'.length → Q .normal tm h') :
    W qf1 (AC prog) s24_10 Q (mk [(0, .ps 1 (ints l)), (1, .bool vals), (5, v), (6, .int .i64 (i : Nat)), (8, .ptr b8 0)]) h3 := by
  have hx := List.getElem?_eq_getElem hi
  have hmod : ∀ y : Int, 0 ≤ y % 2 ∧ y % 2 < 2 := fun y => ⟨Int.emod_nonneg _ (by omega), Int.emod_lt_of_pos _ (by omega)⟩
  have wm : ∀ y : Int, IntKind.i64.wrap (1 + y % 2) = 1 + y % 2 := fun y => wrap_id (by have := hmod y; omega) (by have := hmod y; omega)
  simp only [s24_10, j24_2]
  refine W_join (fun tm h' => tm = mk [(0, .ps 1 (ints l)), (1, .bool vals), (5, v), (6, .int .i64 (i : Nat)), (8, .ptr b8 0)] ∧ ∃ m', K24 h1 h' b7 b8 rd o m' u ks ∧ ((o = 27 ∧ 1 ≤ m' ∧ m' ≤ 2) ∨ (o ≠ 27 ∧ m' = m))) (fun J hJ => ?_) ?_
  · simp [k.n]
    refine Wc_intro (fun hc => ?_) (fun hc => ?_)
    · simp at hc
      simp [k.n, hx, wm]
      exact hJ _ _ ⟨rfl, _, k.setN, .inl ⟨hc, by have := hmod; omega, by have := hmod; omega⟩⟩
    · simp at hc
      exact hJ _ _ ⟨by simp, m, k, .inr ⟨hc, rfl⟩⟩
  rintro _ h4 ⟨rfl, m1, k1, hm1⟩
  simp only [s24_11, j24_3]
  refine W_join (fun tm h' => tm = mk [(0, .ps 1 (ints l)), (1, .bool vals), (5, v), (6, .int .i64 (i : Nat)), (8, .ptr b8 0)] ∧ ∃ m', K24 h1 h' b7 b8 rd o m' u ks ∧ SeedOp vals o m') (fun J hJ => ?_) ?_
  · simp [k1.n]
    refine Wc_intro (fun hc => ?_) (fun hc => ?_)
    · simp at hc
      simp [k1.n, hx]
      refine hJ _ _ ⟨rfl, _, k1.setN, ?_⟩
      have := hmod ((IntKind.i64.wrap (l[i].tdiv 5)))
      rcases ho with q | q | ⟨hv, _, _⟩
      · exfalso; omega
      · exfalso; omega
      · exact .inr (.inr (.inl ⟨hv, hc, by omega, by omega⟩))
    · simp at hc
      refine hJ _ _ ⟨by simp, m1, k1, ?_⟩
      rcases ho with q | q | ⟨hv, hq, hm0⟩
      · exact .inl (by omega)
      · exact .inr (.inl (by omega))
      · by_cases h27 : o = 27
        · exact .inr (.inr (.inr (.inl ⟨hv, h27, by omega, by omega⟩)))
        · exact .inr (.inr (.inr (.inr ⟨hv, by omega, by omega⟩)))
  rintro _ h5 ⟨rfl, m2, k2, ho2⟩
  simp [s24_12]
  refine W_ghost _ h1 (k2.shift (t := 8) (by simp)) ?_
  simp [s24_13]
  have hne : x ≠ [] := fun e => by have := gx.three; rw [e] at this; simp at this
  refine (AC.lend (v0 := .bool (decide ((⟨o, m2, ks⟩ : Nd) ∈ x))) rfl ?_).mono ?_
  · have e1 := nodes_lend g (Sub.refl _) hne
    simp only [List.map_cons, List.map_nil, e1]
    show AC prog 66 [.ps 3 (x.map Nd.v), (⟨o, m2, ks⟩ : Nd).v] noHeap _
    exact (ac66 (by omega) (fun y hy => by have := gx.kids y hy; omega)).mono fun _ _ h => h.1
  rintro u2 h6 ⟨rfl, rfl⟩
  simp [r24_11, s24_14]
  refine Wc_intro (fun hc => ?_) (fun hc => ?_)
  · simp at hc
    simp [k24_1, elems]
    refine g.app (C := AC prog) (ys := (⟨o, m2, ks⟩ : Nd).v.cells) (m := 1) rfl rfl rfl (by omega) (by omega) fun v' h' g' => ?_
    simp [r24_12]
    have e2 : (x ++ [(⟨o, m2, ks⟩ : Nd)]).flatMap (fun n => n.v.cells) = (x.flatMap fun n => n.v.cells) ++ (⟨o, m2, ks⟩ : Nd).v.cells := by simp
    refine post _ v' h' (x ++ [⟨o, m2, ks⟩]) (by simp) (by simp) (by simp) (by simp) (gx.snoc ho2 hk hkl hc) (by simp) ?_
    rw [e2, List.length_append]
    exact g'
  · exact post _ v _ x (by simp) (by simp) (by simp) (by simp) gx (by omega) g

theorem seed_arity {o m : Int} (h : SeedOp0 vals o m) : ∃ A : Nat, (arity o).1 = A ∧ A ≤ 3 := by
  rcases h with ⟨rfl, _, _⟩ | ⟨h1, h2, _⟩ | ⟨_, h1, _⟩
  · exact ⟨0, by simp [arity], by omega⟩
  · unfold arity
    repeat' split
    all_goals first | exact ⟨0, rfl, by omega⟩ | exact ⟨1, rfl, by omega⟩ | exact ⟨2, rfl, by omega⟩ | exact ⟨3, rfl, by omega⟩ | (exfalso; omega)
  · rcases h1 with rfl | rfl | rfl | rfl | rfl
    · exact ⟨2, by simp [arity], by omega⟩
    · exact ⟨3, by simp [arity], by omega⟩
    · exact ⟨2, by simp [arity], by omega⟩
    · exact ⟨2, by simp [arity], by omega⟩
    · exact ⟨1, by simp [arity], by omega⟩

theorem body24 {h1 h2 : Heap} {v : V} {x : List Nd} {b7 b8 i : Nat} {rd : List Int} {o : Int} {Q : AExit → (Nat → V) → Heap → Prop} (g : Grow 24 3 h v h1 (x.flatMap fun n => n.v.cells) x.length) (gx : GoodN vals x) (hxl : x.length ≤ 16) (k : K24 h1 h2 b7 b8 rd o 0 .nils [])
    (ho : 4 ≤ o ∧ o ≤ 22) (hi : i < l.length) (hr : ∀ a ∈ l, -9223372036854775808 ≤ a ∧ a ≤ 9223372036854775807)
    (post : ∀ (tm : Nat → V) v' h' x', tm 0 = .ps 1 (ints l) → tm 1 = .bool vals → tm 5 = v' → tm 6 = .int .i64 (i : Nat) → GoodN vals x' → x'.length ≤ x.length + 1 → Grow 24 3 h v' h' (x'.flatMap fun n => n.v.cells) x'.length → Q .normal tm h') :
    W qf1 (AC prog) s24_5 Q (mk [(0, .ps 1 (ints l)), (1, .bool vals), (5, v), (6, .int .i64 (i : Nat)), (7, .ptr b7 0), (8, .ptr b8 0)]) h2 := by
  have hx := List.getElem?_eq_getElem hi
  have hm5 : ∀ y : Int, 0 ≤ y % 5 ∧ y % 5 < 5 := fun y => ⟨Int.emod_nonneg _ (by omega), Int.emod_lt_of_pos _ (by omega)⟩
  simp only [s24_5, j24_0]
  refine W_join (fun tm h' => tm = mk [(0, .ps 1 (ints l)), (1, .bool vals), (5, v), (6, .int .i64 (i : Nat)), (7, .ptr b7 0), (8, .ptr b8 0)] ∧ ∃ o', K24 h1 h' b7 b8 rd o' 0 .nils [] ∧ SeedOp0 vals o' 0) (fun J hJ => ?_) ?_
  · simp [hx]
    refine Wc_intro (fun hc => ?_) (fun hc => ?_)
    · simp at hc
      have hp := hm5 (IntKind.i64.wrap (l[i].tdiv 9))
      obtain ⟨p, hpp⟩ : ∃ p : Nat, IntKind.i64.wrap (l[i].tdiv 9) % 5 = p := ⟨_, (Int.toNat_of_nonneg hp.1).symm⟩
      have q : p = 0 ∨ p = 1 ∨ p = 2 ∨ p = 3 ∨ p = 4 := by omega
      rcases q with rfl | rfl | rfl | rfl | rfl <;> simp [k24_0, elems, hx, hpp, k.n] <;> exact hJ _ _ ⟨rfl, _, k.setN, .inr (.inr ⟨hc.1, by omega, rfl⟩)⟩
    · exact hJ _ _ ⟨by simp, o, k, .inr (.inl ⟨ho.1, ho.2, rfl⟩)⟩
  rintro _ h3 ⟨rfl, o1, k1, ho1⟩
  simp only [s24_6, j24_1]
  refine W_join (fun tm h' => tm = mk [(0, .ps 1 (ints l)), (1, .bool vals), (5, v), (6, .int .i64 (i : Nat)), (7, .ptr b7 0), (8, .ptr b8 0)] ∧ ∃ o' m', K24 h1 h' b7 b8 rd o' m' .nils [] ∧ SeedOp0 vals o' m') (fun J hJ => ?_) ?_
  · simp [hx]
    refine Wc_intro (fun hc => ?_) (fun hc => ?_)
    · simp at hc
      have hw := wordF_range (n := IntKind.i64.wrap (l[i].tdiv 11)) (hr _ (List.getElem_mem hi))
      simp [k1.n, hx]
      exact hJ _ _ ⟨rfl, _, _, k1.setN, .inl ⟨rfl, hw.1, hw.2⟩⟩
    · exact hJ _ _ ⟨by simp, o1, 0, k1, ho1⟩
  rintro _ h4 ⟨rfl, o2, m2, k2, ho2⟩
  obtain ⟨A, hA, hA3⟩ := seed_arity ho2
  simp [s24_7, k2.n, hA]
  refine kids24 g gx (by omega) k2 hA3 fun h5 u ks rd' k5 hkl hks => ?_
  simp
  exact rest24 g gx hxl k5 hks (by rw [hkl, hA]) ho2 hi post

theorem ac24 (hr : ∀ a ∈ l, -9223372036854775808 ≤ a ∧ a ≤ 9223372036854775807) (hl : l.length ≤ 140737488355328) : AC prog 24 [.ps 1 (ints l), .bool vals] h fun v h' => ∃ x, GoodN vals x ∧ x.length ≤ 17 ∧ v = .ps 3 (x.map Nd.v) ∧ h' = h := by
  refine AC_cv qf1_ok mixed t24 fun R hR => ?_
  simp [c24]
  intro b0 hb0
  simp [r24_0, s24_0]
  refine W_ghost _ _ (Shift.blk (h' := upd h b0 (.cells 24 3 [.int .i64 2, .int .i64 0, .nils, .int .i64 2, .int .i64 1, .nils, .int .i64 26, .int .i64 0, .nils])) (cs' := seed0.flatMap fun n => n.v.cells) (Sub.refl _) (upd_eq _ _ _) ?_ (flat_nodes_cell _)) ?_
  · exact .keep (.keep (.nils (.keep (.keep (.nils (.keep (.keep (.nils .nil))))))))
  rw [upd_upd]
  simp [s24_1, s24_2, l24_0]
  refine W_loop' (fun mm tm h1 => ∃ (i : Nat) (v : V) (x : List Nd), mm = l.length - i ∧ i ≤ l.length ∧ i ≤ 14 ∧ x.length ≤ 3 + i ∧ tm = mk [(0, .ps 1 (ints l)), (1, .bool vals), (5, v), (6, .int .i64 (i : Nat))] ∧ GoodN vals x ∧ Grow 24 3 h v h1 (x.flatMap fun n => n.v.cells) x.length)
    l.length ⟨0, _, seed0, rfl, by omega, by omega, by simp [seed0], rfl, good_seed0 vals, .inr ⟨b0, hb0, rfl, rfl, rfl⟩⟩ ?_
  rintro J hJ mm _ h1 ⟨i, v, x, rfl, hi, hi14, hx3, rfl, gx, g⟩
  simp [b24_0]
  refine Wc_intro (fun hc => ?_) (fun hc => ?_)
  · simp at hc
    have hcl : i < l.length := by omega
    have w5 : IntKind.i64.wrap ((i : Int) + 1) = i + 1 := wrap_id (by omega) (by omega)
    have hx := List.getElem?_eq_getElem hcl
    have hra := hr _ (List.getElem_mem hcl)
    simp [s24_3, hx, elems]
    intro b7 hb7
    simp [r24_1, s24_4, hx]
    intro b8 hb8
    have hm19 : 0 ≤ l[i] % 19 ∧ l[i] % 19 < 19 := ⟨Int.emod_nonneg _ (by omega), Int.emod_lt_of_pos _ (by omega)⟩
    have w19 : IntKind.i64.wrap (4 + l[i] % 19) = 4 + l[i] % 19 := wrap_id (by omega) (by omega)
    have n78 : b7 ≠ b8 := by rintro rfl; simp [upd_at] at hb8
    have h8 : h1 b8 = none := by simpa [upd_at, Ne.symm n78] using hb8
    simp [r24_2, w19, upd_at]
    rw [upd_upd]
    refine body24 (rd := [IntKind.i64.wrap (l[i].tdiv 7), IntKind.i64.wrap (l[i].tdiv 101), IntKind.i64.wrap (l[i].tdiv 1009)]) g gx (by omega) ⟨sub_upd_out (sub_upd hb7 _) h8, ?_, upd_eq _ _ _, .inl ⟨rfl, rfl⟩, hb7, h8, n78⟩ (by omega) hcl hr ?_
    · rw [upd_ne _ _ _ _ n78, upd_eq]; rfl
    rintro tm v' h' x' t0 t1 t5 t6 gx' hl' g'
    simp [s24_15, t0, t1, t5, t6, w5]
    exact ⟨l.length - (i + 1), by omega, hJ _ _ _ ⟨i + 1, v', x', rfl, by omega, by omega, by omega, by simp, gx', g'⟩⟩
  · simp [s24_16]
    refine hR _ _ _ _ g.view ⟨x, gx, by omega, ?_, rfl⟩
    rw [elems_nodes]
end
end Go.Abs
