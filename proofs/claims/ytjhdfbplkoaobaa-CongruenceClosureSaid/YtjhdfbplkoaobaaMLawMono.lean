/- The code of the law CongruenceMonotonic. -/
import Derived.Test.YtjhdfbplkoaobaaMCalcC
import Derived.Test.YtjhdfbplkoaobaaProg
import Derived.KernelRfl
import Derived.Test.YtjhdfbplkoaobaaMLawRef
set_option linter.unusedVariables false
set_option linter.unusedSimpArgs false
namespace Go.Abs

/-- The rest of a region. -/
def r6_0 : CTree := (.asg 7 (.t 16)
    .nil)

/-- The rest of a region. -/
def r6_1 : CTree := (.asg 8 (.t 20)
    .nil)

/-- The rest of a region. -/
def r6_2 : CTree := (.asg 9 (.t 29)
    .nil)

/-- The rest of a region. -/
def r6_3 : CTree := (.asg 10 (.t 32)
    .nil)

/-- The rest of a region. -/
def r6_4 : CTree := (.asg 11 (.t 62)
    .nil)

/-- The rest. -/
def s6_5 : ACode := (.cregion [7, 8, 9, 10, 11, 12] (.asg 12 (.o1 (.bin .sub .num (.t 0) (.c (.int .i64 1))) (.t 12))
    .nil))

/-- The rest. -/
def s6_4 : ACode := (.seq (.block 1 (.cregion [7, 8, 9, 10, 11, 12] (.op (some 61) (.buildSp 28 2 2 [(.int .i64 0), (.int .i64 0)] [(0, (.t 0)), (1, (.t 1))]) [(.o2 (.build [(.int .i64 0), (.int .i64 0)] [(0, (1, (.t 0))), (1, (1, (.t 1)))]) (.o1 (.load none (.t 0)) (.o1 (.idxA 2 1 (.t 0) (.c (.int .i64 1))) (.o2 (.idx 2 (.t 0) (.t 1)) (.t 8) (.t 12)))) (.o1 (.load none (.t 0)) (.o1 (.idxA 2 1 (.t 0) (.c (.int .i64 0))) (.o2 (.idx 2 (.t 0) (.t 1)) (.t 8) (.t 12))))), (.o2 (.build [(.int .i64 0), (.int .i64 0)] [(0, (1, (.t 0))), (1, (1, (.t 1)))]) (.o2 (.bin .rem .num (.t 0) (.t 1)) (.t 12) (.o1 (.len (.t 0)) (.t 7))) (.o2 (.bin .rem .num (.t 0) (.t 1)) (.t 12) (.o1 (.len (.t 0)) (.t 7))))]
    (.op (some 62) (.app 28 2 16 (.t 0) (.t 1)) [(.t 11), (.t 61)]
    r6_4))))
  (.seq (.keep [7, 8, 9, 10, 11, 12]) s6_5))

/-- A loop's body. -/
def b6_0 : ACode := (.seq (.seq (.cregion [7, 8, 9, 10, 11, 12, 37] (.asg 37 (.o1 (.bin .geq .num (.t 0) (.c (.int .i64 0))) (.t 12))
    .nil))
  (.cond (.t 37) .skip (.exit 0)))
  (.seq (.keep [7, 8, 9, 10, 11, 12]) s6_4))

/-- A loop. -/
def l6_0 : ACode := .block 0 (.loop (.after b6_0 [7, 8, 9, 10, 11, 12]))

/-- The rest. -/
def s6_10 : ACode := (.cregion [7, 9, 10, 11, 13, 76, 77, 81, 82] (.asg 82 (.o1 (.bin .add .num (.t 0) (.c (.int .i64 1))) (.t 82))
    .nil))

/-- The rest. -/
def s6_9 : ACode := (.seq (.block 5 (.seq (.cregion [7, 9, 10, 11, 13, 14, 76, 77, 81, 82] (.asg 14 (.t 82)
    .nil))
  (.seq (.cregion [7, 9, 10, 11, 13, 76, 77, 81, 82, 104] (.asg 104 (.and (.o2 (.bin .eql .num (.t 0) (.t 1)) (.o1 (.load none (.t 0)) (.o2 (.idx 1 (.t 0) (.t 1)) (.t 9) (.t 13))) (.o1 (.load none (.t 0)) (.o2 (.idx 1 (.t 0) (.t 1)) (.t 9) (.t 14)))) (.o2 (.bin .neq .num (.t 0) (.t 1)) (.o1 (.load none (.t 0)) (.o2 (.idx 1 (.t 0) (.t 1)) (.t 10) (.t 13))) (.o1 (.load none (.t 0)) (.o2 (.idx 1 (.t 0) (.t 1)) (.t 10) (.t 14)))))
    .nil))
  (.cond (.t 104) (.seq (.cregion [6] (.asg 6 (.c (.bool false))
    .nil))
  .ret) .skip))))
  (.seq (.keep [7, 9, 10, 11, 13, 76, 77, 81, 82]) s6_10))

/-- A loop's body. -/
def b6_2 : ACode := (.seq (.cregion [7, 9, 10, 11, 13, 76, 77, 81, 82, 83] (.asg 83 (.o2 (.bin .lss .num (.t 0) (.t 1)) (.t 82) (.t 81))
    .nil))
  (.seq (.cond (.t 83) .skip (.exit 4))
  (.seq (.keep [7, 9, 10, 11, 13, 76, 77, 81, 82]) s6_9)))

/-- A loop. -/
def l6_2 : ACode := .block 4 (.loop (.after b6_2 [7, 9, 10, 11, 13, 76, 77, 81, 82]))

/-- The rest. -/
def s6_11 : ACode := (.cregion [7, 9, 10, 11, 76, 77] (.asg 77 (.o1 (.bin .add .num (.t 0) (.c (.int .i64 1))) (.t 77))
    .nil))

/-- The rest. -/
def s6_8 : ACode := (.seq (.block 3 (.seq (.cregion [7, 9, 10, 11, 13, 76, 77] (.asg 13 (.t 77)
    .nil))
  (.seq (.cregion [7, 9, 10, 11, 13, 76, 77, 81, 82] (.asg 81 (.o1 (.len (.t 0)) (.t 7))
    (.asg 82 (.c (.int .i64 0))
    .nil)))
  (.seq (.keep [7, 9, 10, 11, 13, 76, 77, 81, 82]) l6_2))))
  (.seq (.keep [7, 9, 10, 11, 76, 77]) s6_11))

/-- A loop's body. -/
def b6_1 : ACode := (.seq (.cregion [7, 9, 10, 11, 76, 77, 78] (.asg 78 (.o2 (.bin .lss .num (.t 0) (.t 1)) (.t 77) (.t 76))
    .nil))
  (.seq (.cond (.t 78) .skip (.exit 2))
  (.seq (.keep [7, 9, 10, 11, 76, 77]) s6_8)))

/-- A loop. -/
def l6_1 : ACode := .block 2 (.loop (.after b6_1 [7, 9, 10, 11, 76, 77]))

/-- The rest of a region. -/
def r6_7 : CTree := (.asg 6 (.o2 (.pick (.t 0) (.t 1) (.c (.bool false))) (.t 111) (.t 113))
    .nil)

/-- The rest of a region. -/
def r6_6 : CTree := (.opg (.t 111) true (some 113) (.call 3 []) []
    r6_7)

/-- The rest of a region. -/
def r6_5 : CTree := (.op (some 111) (.call 21 [(.t 0), (.t 1)]) [(.t 109), (.t 10)]
    r6_6)

/-- The rest. -/
def s6_12 : ACode := (.seq (.cregion [6] (.op (some 109) (.call 22 [(.t 0), (.t 1)]) [(.t 7), (.t 11)]
    r6_5))
  .ret)

/-- The rest. -/
def s6_7 : ACode := (.seq (.seq (.cregion [7, 9, 10, 11, 76, 77] (.asg 76 (.o1 (.len (.t 0)) (.t 7))
    (.asg 77 (.c (.int .i64 0))
    .nil)))
  (.seq (.keep [7, 9, 10, 11, 76, 77]) l6_1))
  (.seq (.keep [7, 10, 11]) s6_12))

/-- The rest. -/
def s6_6 : ACode := (.seq (.seq (.cregion [7, 9, 10, 11, 74] (.asg 74 (.or (.o2 (.bin .neq .num (.t 0) (.t 1)) (.o1 (.len (.t 0)) (.t 9)) (.o1 (.len (.t 0)) (.t 7))) (.o2 (.bin .neq .num (.t 0) (.t 1)) (.o1 (.len (.t 0)) (.t 10)) (.o1 (.len (.t 0)) (.t 7))))
    .nil))
  (.cond (.t 74) (.seq (.cregion [6] (.asg 6 (.c (.bool false))
    .nil))
  .ret) .skip))
  (.seq (.keep [7, 9, 10, 11]) s6_7))

/-- The rest. -/
def s6_3 : ACode := (.seq (.cregion [7, 8, 9, 10, 11] (.asg 11 (.c .nils)
    .nil))
  (.seq (.seq (.cregion [7, 8, 9, 10, 11, 12] (.asg 12 (.o1 (.bin .sub .num (.t 0) (.c (.int .i64 1))) (.o1 (.len (.t 0)) (.t 8)))
    .nil))
  (.seq (.keep [7, 8, 9, 10, 11, 12]) l6_0))
  (.seq (.keep [7, 9, 10, 11]) s6_6)))

/-- The rest. -/
def s6_2 : ACode := (.seq (.cregion [7, 8, 9, 10] (.op (some 32) (.call 22 [(.t 0), (.t 1)]) [(.t 7), (.t 8)]
    r6_3))
  (.seq (.keep [7, 8, 9, 10]) s6_3))

/-- The rest. -/
def s6_1 : ACode := (.seq (.cregion [7, 8, 9] (.op (some 29) (.call 22 [(.t 0), (.t 1)]) [(.t 7), (.o2 (.slS 2 (.t 0) none (some (.t 1)) none) (.t 8) (.o2 (.qcall 27 [(.t 0), (.t 1)]) (.t 2) (.o1 (.bin .add .num (.t 0) (.c (.int .i64 1))) (.o1 (.len (.t 0)) (.t 8)))))]
    r6_2))
  (.seq (.keep [7, 8, 9]) s6_2))

/-- The rest. -/
def s6_0 : ACode := (.seq (.cregion [2, 7, 8] (.op (some 20) (.call 26 [(.t 0), (.t 1)]) [(.t 1), (.o1 (.len (.t 0)) (.t 7))]
    r6_1))
  (.seq (.keep [2, 7, 8]) s6_1))

/-- The code. -/
def c6 : AFun := ⟨(.seq (.cregion [0, 1, 2] .nil)
  (.seq (.cregion [1, 2, 7] (.op (some 16) (.call 24 [(.t 0), (.c (.bool false))]) [(.t 0)]
    r6_0))
  (.seq (.keep [1, 2, 7]) s6_0))),
  [(.tmp 6)]⟩

theorem t6 : trFunC Go.Proofs.Try.prog (fun f => ([27, 28, 62, 64, 67, 68, 98, 125, 126, 158, 1000061] : List Nat).contains f) [[0, 1, 2], [1, 2, 7], [2, 7, 8], [7, 8, 9], [7, 8, 9, 10], [7, 8, 9, 10, 11], [7, 8, 9, 10, 11, 12], [7, 8, 9, 10, 11, 12, 37], [7, 8, 9, 10, 11, 12], [7, 8, 9, 10, 11, 12], [7, 9, 10, 11, 74], [6], [7, 9, 10, 11, 76, 77], [7, 9, 10, 11, 76, 77, 78], [7, 9, 10, 11, 13, 76, 77], [7, 9, 10, 11, 13, 76, 77, 81, 82], [7, 9, 10, 11, 13, 76, 77, 81, 82, 83], [7, 9, 10, 11, 13, 14, 76, 77, 81, 82], [7, 9, 10, 11, 13, 76, 77, 81, 82, 104], [6], [7, 9, 10, 11, 13, 76, 77, 81, 82], [7, 9, 10, 11, 76, 77], [6]] 6 = some ⟨erase c6.code, c6.res⟩ := by kernel_rfl

end Go.Abs

/- The law CongruenceMonotonic returns true. -/
namespace Go.Abs
open Go.Proofs.Try (prog)

section
variable {h : Heap} {x : List Nd} {ps : List (Int × Int)} {c c' : List Nat}

theorem FrzL.refl {h h' : Heap} : ∀ (xs : List V), FrzL h h' xs xs
  | [] => .nil
  | x :: xs => .keep (FrzL.refl xs)

/-- A slice that grew never changes again, of elements of any size. -/
theorem Grow.frzE {e : TypeId} {esz n : Nat} {h h1 : Heap} {v : V} {xs : List V} (g : Grow e esz h v h1 xs n) (hc : xs.all V.isCell = true) : Frz h1 h v (.ps esz (elems esz n xs)) := by
  rcases g with ⟨rfl, rfl, rfl, rfl⟩ | ⟨b, hb, rfl, hl, rfl⟩
  · have : elems esz 0 ([] : List V) = [] := by simp [elems]
    rw [this]
    exact .nils esz
  · exact Frz.whole (upd_eq _ _ _) hb (FrzL.refl _) (by omega) hc

/-- What is gathered on the way back. -/
structure Bk (ps qs : List (Int × Int)) (k : Nat) : Prop where
  all : ∀ t : Nat, k ≤ t → ∀ p, ps[t]? = some p → (p.2, p.1) ∈ qs
  only : ∀ q ∈ qs, q.1 = q.2 ∨ (q.2, q.1) ∈ ps
  len : qs.length + 2 * k = 2 * ps.length

theorem ac6 {l m : List Int} {cut : Int} (hl : l.length ≤ 140737488355328) (hr : ∀ a ∈ l, in64 a) (hm : m.length ≤ 140737488355328) : AC prog 6 [.ps 1 (ints l), .ps 1 (ints m), .int .i64 cut] h fun v _ => v = .bool true := by
  refine AC_c' qf1_ok mixed t6 fun R hR => ?_
  simp [c6]
  refine (ac24 hr hl).mono ?_
  rintro v h' ⟨x, gx, hx, rfl, rfl⟩
  have h3 := gx.three
  have hks : ∀ y ∈ x, y.kids.length * 8 ≤ 140737488351232 := fun y hy => by have := gx.kids y hy; omega
  simp [r6_0, s6_0]
  refine (ac26 ⟨by omega, by omega⟩ hm).mono ?_
  rintro v h' ⟨ps, hps, _, rfl, rfl⟩
  have d1 : IntKind.i64.wrap ((ps.length : Int) + 1) = (ps.length : Int) + 1 := wrap_id (by omega) (by omega)
  have d2 : (0 : Int) < (ps.length : Int) + 1 := by omega
  have d3 : (ps.length : Int) + 1 ≤ 4611686018427387904 := by omega
  have d4 := Int.emod_nonneg cut (show ((ps.length : Int) + 1) ≠ 0 by omega)
  have d5 := Int.emod_lt_of_pos cut d2
  have d6 : cut % ((ps.length : Int) + 1) ≤ ps.length := by omega
  simp [r6_1, s6_1, d1, d2, d3, d4, d6]
  have e1 : (prsV ps).take (cut % ((ps.length : Int) + 1)).toNat = prsV (ps.take (cut % ((ps.length : Int) + 1)).toNat) := by simp [prsV, List.map_take]
  rw [e1]
  obtain ⟨few, hfew⟩ : ∃ f, f = ps.take (cut % ((ps.length : Int) + 1)).toNat := ⟨_, rfl⟩
  have hfm : ∀ p ∈ few, p ∈ ps := fun p hp => by rw [hfew] at hp; exact List.mem_of_mem_take hp
  have hfl : few.length ≤ 6 := by rw [hfew, List.length_take]; omega
  rw [← hfew]
  refine same_cl gx.wf hks (by omega) (by omega) fun c hc => ?_
  simp [r6_2, s6_2]
  refine same_cl gx.wf hks (by omega) (by omega) fun c' hc' => ?_
  simp [r6_3, s6_3]
  have w0 : IntKind.i64.wrap ((ps.length : Int) - 1) = (ps.length : Int) - 1 := wrap_id (by omega) (by omega)
  simp [w0, l6_0]
  refine W_loop' (fun mm tm h1 => ∃ (k : Nat) (v : V) (qs : List (Int × Int)), mm = k ∧ k ≤ ps.length ∧ tm = mk [(7, .ps 3 (x.map Nd.v)), (8, .ps 2 (prsV ps)), (9, .ps 1 (nats c)), (10, .ps 1 (nats c')), (11, v), (12, .int .i64 ((k : Int) - 1))] ∧ Grow 28 2 h' v h1 (qs.flatMap prC) qs.length ∧ Bk ps qs k)
    ps.length ⟨ps.length, .nils, [], rfl, Nat.le_refl _, rfl, .nil _ _ _, ⟨fun t ht p hp => by have := (List.getElem?_eq_some_iff.1 hp).1; omega, by simp, by simp⟩⟩ ?_
  rintro J hJ mm _ h1 ⟨_, v, qs, rfl, hk, rfl, g, bk⟩
  simp [b6_0]
  refine Wc_intro (fun hc2 => ?_) (fun hc2 => ?_)
  · simp at hc2
    obtain ⟨t, ht1⟩ : ∃ t, mm = t + 1 := ⟨mm - 1, by omega⟩
    subst ht1
    have ht : t < ps.length := by omega
    have hp := List.getElem?_eq_getElem ht
    have w1 : IntKind.i64.wrap ((t : Int) - 1) = (t : Int) - 1 := wrap_id (by omega) (by omega)
    have hne : x ≠ [] := fun e => by rw [e] at h3; simp at h3
    have r2 : List.range 2 = [0, 1] := rfl
    simp [s6_4, hp, hne, elems, r2]
    refine g.app (C := AC prog) (ys := prC (ps[t].2, ps[t].1) ++ prC ((t : Int).tmod x.length, (t : Int).tmod x.length)) (m := 2) rfl rfl rfl (by have := bk.len; omega) (by have := bk.len; omega) fun v' h2 g' => ?_
    simp [r6_4, s6_5, w1]
    refine ⟨t, by omega, hJ _ _ _ ⟨t, v', qs ++ [(ps[t].2, ps[t].1), ((t : Int).tmod x.length, (t : Int).tmod x.length)], rfl, by omega, rfl, ?_, ?_⟩⟩
    · have e3 : (qs ++ [(ps[t].2, ps[t].1), ((t : Int).tmod x.length, (t : Int).tmod x.length)]).flatMap prC = qs.flatMap prC ++ (prC (ps[t].2, ps[t].1) ++ prC ((t : Int).tmod x.length, (t : Int).tmod x.length)) := by simp
      rw [e3, List.length_append]; exact g'
    · refine ⟨fun t' ht' p hp' => ?_, fun q hq => ?_, ?_⟩
      · rcases Nat.lt_or_ge t t' with c1 | c1
        · exact List.mem_append_left _ (bk.all t' (by omega) p hp')
        · obtain rfl : t' = t := by omega
          rw [hp] at hp'; injection hp' with hp'; subst hp'
          simp
      · rcases List.mem_append.1 hq with hq | hq
        · exact bk.only q hq
        · simp at hq
          rcases hq with rfl | rfl
          · right; exact List.getElem_mem ht
          · left; rfl
      · have := bk.len; simp; omega
  · simp at hc2
    obtain rfl : mm = 0 := by omega
    have hcl := hc.len
    have hcl' := hc'.len
    have hb := hc'.back (qs := qs) (fun p hp => by
      obtain ⟨t, ht⟩ := List.getElem?_of_mem hp
      exact bk.all t (by omega) p ht) bk.only
    have hql : qs.length ≤ 12 := by have := bk.len; omega
    have t1 : ((c.length : Int) != x.length) = false := by simp [hcl]
    have t2 : ((c'.length : Int) != x.length) = false := by simp [hcl']
    simp [s6_6, t1, t2, s6_7, l6_1]
    clear hJ J bk hk hc2
    refine W_loop' (fun mm tm h2 => ∃ i : Nat, mm = x.length - i ∧ i ≤ x.length ∧ tm = mk [(7, .ps 3 (x.map Nd.v)), (9, .ps 1 (nats c)), (10, .ps 1 (nats c')), (11, v), (76, .int .i64 (x.length : Nat)), (77, .int .i64 (i : Nat))] ∧ h1 = h2)
      x.length ⟨0, rfl, by omega, rfl, rfl⟩ ?_
    rintro J hJ mm _ _ ⟨i, rfl, hi, rfl, rfl⟩
    simp [b6_1]
    refine Wc_intro (fun hc3 => ?_) (fun hc3 => ?_)
    · simp at hc3
      have w1 : IntKind.i64.wrap ((i : Int) + 1) = (i : Int) + 1 := wrap_id (by omega) (by omega)
      simp [s6_8, l6_2]
      refine W_loop' (fun mm tm h2 => ∃ j : Nat, mm = x.length - j ∧ j ≤ x.length ∧ tm = mk [(7, .ps 3 (x.map Nd.v)), (9, .ps 1 (nats c)), (10, .ps 1 (nats c')), (11, v), (13, .int .i64 (i : Nat)), (76, .int .i64 (x.length : Nat)), (77, .int .i64 (i : Nat)), (81, .int .i64 (x.length : Nat)), (82, .int .i64 (j : Nat))] ∧ h1 = h2)
        x.length ⟨0, rfl, by omega, rfl, rfl⟩ ?_
      rintro J2 hJ2 mm _ _ ⟨j, rfl, hj, rfl, rfl⟩
      simp [b6_2]
      refine Wc_intro (fun hc4 => ?_) (fun hc4 => ?_)
      · simp at hc4
        have w2 : IntKind.i64.wrap ((j : Int) + 1) = (j : Int) + 1 := wrap_id (by omega) (by omega)
        have hic : i < c.length := by omega
        have hjc : j < c.length := by omega
        have hic' : i < c'.length := by omega
        have hjc' : j < c'.length := by omega
        have hno : ((c[i] : Int) == c[j] && (c'[i] : Int) != c'[j]) = false := by
          rw [Bool.eq_false_iff]
          intro hh
          simp at hh
          exact hh.2 (congrArg _ ((hc'.eq_iff hic' hjc').2 (((hc.eq_iff hic hjc).1 (by omega)).mono hfm)))
        simp [s6_9, hic, hjc, hic', hjc', hno, s6_10, w2]
        exact ⟨x.length - (j + 1), by omega, hJ2 _ _ _ ⟨j + 1, rfl, by omega, by simp, rfl⟩⟩
      · simp at hc4
        simp [s6_11, w1]
        exact ⟨x.length - (i + 1), by omega, hJ _ _ _ ⟨i + 1, rfl, by omega, by simp, rfl⟩⟩
    · simp [s6_12]
      refine AC.give (args' := [.ps 3 (x.map Nd.v), .ps 2 (prsV qs)]) (h' := h') g.sub rfl (FrzL.get (.keep (.cons ?_ .nil))) ?_
      · rw [← elems_prs]
        exact g.frzE (prs_cell _)
      refine same_cl (ps := qs) gx.wf hks (by omega) (by omega) fun c2 hc2 => ?_
      rw [hc2.unique hb]
      simp [r6_5]
      refine same_ints (c := c') (by omega) ?_
      simp [r6_6]
      refine ac3.mono ?_
      rintro v h2 ⟨rfl, rfl⟩
      simp [r6_7]
      exact hR _ _ _ (Sub.refl _) rfl

theorem law6 {l m : List Int} {cut : Int} (h0 : okInts l) (h1 : okInts m) (_ : in64 cut) : AC prog 6 [.ps 1 (ints l), .ps 1 (ints m), .int .i64 cut] noHeap fun v _ => v = .bool true := ac6 h0.len h0.1 h1.len
end
end Go.Abs
