/- The code of the reference's Classes and of Pick. -/
import Derived.Test.YtjhdfbplkoaobaaMCalcC
import Derived.Test.YtjhdfbplkoaobaaProg
import Derived.KernelRfl
import Derived.Test.YtjhdfbplkoaobaaMCongA
set_option linter.unusedVariables false
set_option linter.unusedSimpArgs false
namespace Go.Abs

/-- The rest. -/
def s27_0 : ACode := (.seq (.cregion [4] (.asg 4 (.t 0)
    .nil))
  .ret)

/-- The code. -/
def c27 : AFun := ⟨(.seq (.cregion [0, 1] .nil)
  (.seq (.cregion [0, 1] (.asg 0 (.o2 (.bin .rem .num (.t 0) (.t 1)) (.t 0) (.t 1))
    .nil))
  (.seq (.seq (.cregion [0, 1, 9] (.asg 9 (.o1 (.bin .lss .num (.t 0) (.c (.int .i64 0))) (.t 0))
    .nil))
  (.cond (.t 9) (.cregion [0] (.asg 0 (.o2 (.bin .add .num (.t 0) (.t 1)) (.t 0) (.t 1))
    .nil)) .skip))
  (.seq (.keep [0]) s27_0)))),
  [(.tmp 4)]⟩

theorem t27 : trFunC Go.Proofs.Try.prog (fun f => ([] : List Nat).contains f) [[0, 1], [0, 1], [0, 1, 9], [0], [4]] 27 = some ⟨erase c27.code, c27.res⟩ := by kernel_rfl

/-- The rest. -/
def s60_1 : ACode := (.cregion [0, 6, 7, 8] (.asg 8 (.o1 (.bin .add .num (.t 0) (.c (.int .i64 1))) (.t 8))
    .nil))

/-- The rest. -/
def s60_0 : ACode := (.seq (.block 1 (.seq (.cregion [0, 6, 7, 8, 38] (.asg 38 (.o2 (.bin .eql .num (.t 0) (.t 1)) (.o1 (.load none (.t 0)) (.o2 (.idx 1 (.t 0) (.t 1)) (.t 0) (.t 8))) (.t 7))
    .nil))
  (.cond (.t 38) (.cregion [0, 6, 7, 8] (.op none (.store 1 (.t 0) (.t 1)) [(.o2 (.idx 1 (.t 0) (.t 1)) (.t 0) (.t 8)), (.t 6)]
    .nil)) .skip)))
  (.seq (.keep [0, 6, 7, 8]) s60_1))

/-- A loop's body. -/
def b60_0 : ACode := (.seq (.seq (.cregion [0, 6, 7, 8, 30] (.asg 30 (.o2 (.bin .lss .num (.t 0) (.t 1)) (.t 8) (.o1 (.len (.t 0)) (.t 0)))
    .nil))
  (.cond (.t 30) .skip (.exit 0)))
  (.seq (.keep [0, 6, 7, 8]) s60_0))

/-- A loop. -/
def l60_0 : ACode := .block 0 (.loop (.after b60_0 [0, 6, 7, 8]))

/-- The code. -/
def c60 : AFun := ⟨(.seq (.cregion [0, 1, 2, 6] (.asg 6 (.o2 (.mn (.t 0) (.t 1)) (.o1 (.load none (.t 0)) (.o2 (.idx 1 (.t 0) (.t 1)) (.t 0) (.t 1))) (.o1 (.load none (.t 0)) (.o2 (.idx 1 (.t 0) (.t 1)) (.t 0) (.t 2))))
    .nil))
  (.seq (.cregion [0, 6, 7] (.asg 7 (.o2 (.mx (.t 0) (.t 1)) (.o1 (.load none (.t 0)) (.o2 (.idx 1 (.t 0) (.t 1)) (.t 0) (.t 1))) (.o1 (.load none (.t 0)) (.o2 (.idx 1 (.t 0) (.t 1)) (.t 0) (.t 2))))
    .nil))
  (.seq (.cregion [0, 6, 7, 8] (.asg 8 (.c (.int .i64 0))
    .nil))
  (.seq (.keep [0, 6, 7, 8]) l60_0)))),
  []⟩

theorem t60 : trFunC Go.Proofs.Try.prog (fun f => ([] : List Nat).contains f) [[0, 1, 2, 6], [0, 6, 7], [0, 6, 7, 8], [0, 6, 7, 8, 30], [0, 6, 7, 8, 38], [0, 6, 7, 8], [0, 6, 7, 8]] 60 = some ⟨erase c60.code, c60.res⟩ := by kernel_rfl

/-- The rest. -/
def s61_2 : ACode := (.cregion [2, 3, 4, 7] (.asg 7 (.o1 (.bin .add .num (.t 0) (.c (.int .i64 1))) (.t 7))
    .nil))

/-- The rest. -/
def s61_1 : ACode := (.seq (.block 1 (.seq (.cregion [2, 3, 4, 7, 8] (.asg 8 (.o1 (.load none (.t 0)) (.o2 (.idx 1 (.t 0) (.t 1)) (.o1 (.load none (.t 0)) (.o1 (.fld 2 (.t 0)) (.t 3))) (.t 7)))
    .nil))
  (.seq (.cregion [2, 3, 4, 7, 8, 9] (.asg 9 (.o1 (.load none (.t 0)) (.o2 (.idx 1 (.t 0) (.t 1)) (.o1 (.load none (.t 0)) (.o1 (.fld 2 (.t 0)) (.t 4))) (.t 7)))
    .nil))
  (.seq (.cregion [2, 3, 4, 7, 76] (.asg 76 (.or (.or (.or (.or (.o1 (.bin .lss .num (.t 0) (.c (.int .i64 0))) (.t 8)) (.o1 (.bin .lss .num (.t 0) (.c (.int .i64 0))) (.t 9))) (.o2 (.bin .geq .num (.t 0) (.t 1)) (.t 8) (.o1 (.len (.t 0)) (.t 2)))) (.o2 (.bin .geq .num (.t 0) (.t 1)) (.t 9) (.o1 (.len (.t 0)) (.t 2)))) (.o2 (.bin .neq .num (.t 0) (.t 1)) (.o1 (.load none (.t 0)) (.o2 (.idx 1 (.t 0) (.t 1)) (.t 2) (.t 8))) (.o1 (.load none (.t 0)) (.o2 (.idx 1 (.t 0) (.t 1)) (.t 2) (.t 9)))))
    .nil))
  (.cond (.t 76) (.seq (.cregion [6] (.asg 6 (.c (.bool false))
    .nil))
  .ret) .skip)))))
  (.seq (.keep [2, 3, 4, 7]) s61_2))

/-- A loop's body. -/
def b61_0 : ACode := (.seq (.seq (.cregion [2, 3, 4, 7, 35] (.asg 35 (.o2 (.bin .lss .num (.t 0) (.t 1)) (.t 7) (.o1 (.len (.t 0)) (.o1 (.load none (.t 0)) (.o1 (.fld 2 (.t 0)) (.t 3)))))
    .nil))
  (.cond (.t 35) .skip (.exit 0)))
  (.seq (.keep [2, 3, 4, 7]) s61_1))

/-- A loop. -/
def l61_0 : ACode := .block 0 (.loop (.after b61_0 [2, 3, 4, 7]))

/-- The rest. -/
def s61_3 : ACode := (.seq (.cregion [6] (.asg 6 (.c (.bool true))
    .nil))
  .ret)

/-- The rest. -/
def s61_0 : ACode := (.seq (.seq (.cregion [2, 3, 4, 7] (.asg 7 (.c (.int .i64 0))
    .nil))
  (.seq (.keep [2, 3, 4, 7]) l61_0))
  (.seq (.keep []) s61_3))

/-- The code. -/
def c61 : AFun := ⟨(.seq (.cregion [2, 3, 4] (.op (some 3) (.boxp 24 3 (.t 0)) [(.t 0)]
    (.op (some 4) (.boxp 24 3 (.t 0)) [(.t 1)]
    .nil)))
  (.seq (.seq (.cregion [2, 3, 4, 30] (.asg 30 (.or (.or (.o2 (.bin .neq .num (.t 0) (.t 1)) (.o1 (.load none (.t 0)) (.o1 (.fld 0 (.t 0)) (.t 3))) (.o1 (.load none (.t 0)) (.o1 (.fld 0 (.t 0)) (.t 4)))) (.o2 (.bin .neq .num (.t 0) (.t 1)) (.o1 (.load none (.t 0)) (.o1 (.fld 1 (.t 0)) (.t 3))) (.o1 (.load none (.t 0)) (.o1 (.fld 1 (.t 0)) (.t 4))))) (.o2 (.bin .neq .num (.t 0) (.t 1)) (.o1 (.len (.t 0)) (.o1 (.load none (.t 0)) (.o1 (.fld 2 (.t 0)) (.t 3)))) (.o1 (.len (.t 0)) (.o1 (.load none (.t 0)) (.o1 (.fld 2 (.t 0)) (.t 4))))))
    .nil))
  (.cond (.t 30) (.seq (.cregion [6] (.asg 6 (.c (.bool false))
    .nil))
  .ret) .skip))
  (.seq (.keep [2, 3, 4]) s61_0))),
  [(.tmp 6)]⟩

theorem t61 : trFunC Go.Proofs.Try.prog (fun f => ([1000003, 1000004] : List Nat).contains f) [[2, 3, 4], [2, 3, 4, 30], [6], [2, 3, 4, 7], [2, 3, 4, 7, 35], [2, 3, 4, 7, 8], [2, 3, 4, 7, 8, 9], [2, 3, 4, 7, 76], [6], [2, 3, 4, 7], [6]] 61 = some ⟨erase c61.code, c61.res⟩ := by kernel_rfl

/-- The rest of a region. -/
def r23_0 : CTree := (.asg 5 (.t 22)
    .nil)

/-- The rest. -/
def s23_1 : ACode := (.cregion [0, 1, 5, 6] (.asg 6 (.o1 (.bin .add .num (.t 0) (.c (.int .i64 1))) (.t 6))
    .nil))

/-- The rest. -/
def s23_0 : ACode := (.seq (.block 1 (.cregion [0, 1, 5, 6] (.op (some 21) (.buildSp 3 1 1 [(.int .i64 0)] [(0, (.t 0))]) [(.t 6)]
    (.op (some 22) (.app 3 1 8 (.t 0) (.t 1)) [(.t 5), (.t 21)]
    r23_0))))
  (.seq (.keep [0, 1, 5, 6]) s23_1))

/-- A loop's body. -/
def b23_0 : ACode := (.seq (.seq (.cregion [0, 1, 5, 6, 16] (.asg 16 (.o2 (.bin .lss .num (.t 0) (.t 1)) (.t 6) (.o1 (.len (.t 0)) (.t 0)))
    .nil))
  (.cond (.t 16) .skip (.exit 0)))
  (.seq (.keep [0, 1, 5, 6]) s23_0))

/-- A loop. -/
def l23_0 : ACode := .block 0 (.loop (.after b23_0 [0, 1, 5, 6]))

/-- The rest. -/
def s23_4 : ACode := (.cregion [0, 1, 5, 7] (.asg 7 (.o1 (.bin .add .num (.t 0) (.c (.int .i64 1))) (.t 7))
    .nil))

/-- The rest. -/
def s23_3 : ACode := (.seq (.block 3 (.seq (.cregion [0, 1, 5, 7, 8] (.asg 8 (.o1 (.load none (.t 0)) (.o1 (.idxA 2 1 (.t 0) (.c (.int .i64 0))) (.o2 (.idx 2 (.t 0) (.t 1)) (.t 1) (.t 7))))
    .nil))
  (.seq (.cregion [0, 1, 5, 7, 8, 9] (.asg 9 (.o1 (.load none (.t 0)) (.o1 (.idxA 2 1 (.t 0) (.c (.int .i64 1))) (.o2 (.idx 2 (.t 0) (.t 1)) (.t 1) (.t 7))))
    .nil))
  (.seq (.cregion [0, 1, 5, 7, 8, 9, 56] (.asg 56 (.and (.and (.and (.o1 (.bin .geq .num (.t 0) (.c (.int .i64 0))) (.t 8)) (.o1 (.bin .geq .num (.t 0) (.c (.int .i64 0))) (.t 9))) (.o2 (.bin .lss .num (.t 0) (.t 1)) (.t 8) (.o1 (.len (.t 0)) (.t 0)))) (.o2 (.bin .lss .num (.t 0) (.t 1)) (.t 9) (.o1 (.len (.t 0)) (.t 0))))
    .nil))
  (.cond (.t 56) (.cregion [0, 1, 5, 7] (.op (some 60) (.call 60 [(.t 0), (.t 1), (.t 2)]) [(.t 5), (.t 8), (.t 9)]
    .nil)) .skip)))))
  (.seq (.keep [0, 1, 5, 7]) s23_4))

/-- A loop's body. -/
def b23_1 : ACode := (.seq (.seq (.cregion [0, 1, 5, 7, 26] (.asg 26 (.o2 (.bin .lss .num (.t 0) (.t 1)) (.t 7) (.o1 (.len (.t 0)) (.t 1)))
    .nil))
  (.cond (.t 26) .skip (.exit 2)))
  (.seq (.keep [0, 1, 5, 7]) s23_3))

/-- A loop. -/
def l23_1 : ACode := .block 2 (.loop (.after b23_1 [0, 1, 5, 7]))

/-- The rest of a region. -/
def r23_1 : CTree := (.asg 93 (.o2 (.pick (.t 0) (.t 1) (.c (.bool false))) (.t 82) (.t 92))
    .nil)

/-- The rest. -/
def s23_10 : ACode := (.cregion [0, 5, 10, 11, 12] (.asg 10 (.c (.bool true))
    .nil))

/-- A branch. -/
def k23_0 : ACode := (.seq (.cregion [0, 5, 11, 12] (.op (some 97) (.call 60 [(.t 0), (.t 1), (.t 2)]) [(.t 5), (.t 12), (.t 11)]
    .nil))
  (.seq (.keep [0, 5, 11, 12]) s23_10))

/-- The rest. -/
def s23_9 : ACode := (.cond (.t 93) (.seq (.keep [0, 5, 11, 12]) k23_0) .skip)

/-- The rest. -/
def s23_11 : ACode := (.cregion [0, 5, 10, 11, 12] (.asg 12 (.o1 (.bin .add .num (.t 0) (.c (.int .i64 1))) (.t 12))
    .nil))

/-- The rest. -/
def s23_8 : ACode := (.seq (.block 9 (.seq (.cregion [0, 5, 10, 11, 12, 93] (.asg 82 (.o2 (.bin .neq .num (.t 0) (.t 1)) (.o1 (.load none (.t 0)) (.o2 (.idx 1 (.t 0) (.t 1)) (.t 5) (.t 12))) (.o1 (.load none (.t 0)) (.o2 (.idx 1 (.t 0) (.t 1)) (.t 5) (.t 11))))
    (.opg (.t 82) true (some 92) (.call 61 [(.t 0), (.t 1), (.t 2)]) [(.o1 (.load (some 3) (.t 0)) (.o2 (.idx 3 (.t 0) (.t 1)) (.t 0) (.t 12))), (.o1 (.load (some 3) (.t 0)) (.o2 (.idx 3 (.t 0) (.t 1)) (.t 0) (.t 11))), (.t 5)]
    r23_1)))
  (.seq (.keep [0, 5, 10, 11, 12, 93]) s23_9)))
  (.seq (.keep [0, 5, 10, 11, 12]) s23_11))

/-- A loop's body. -/
def b23_4 : ACode := (.seq (.seq (.cregion [0, 5, 10, 11, 12, 70] (.asg 70 (.o2 (.bin .lss .num (.t 0) (.t 1)) (.t 12) (.t 11))
    .nil))
  (.cond (.t 70) .skip (.exit 8)))
  (.seq (.keep [0, 5, 10, 11, 12]) s23_8))

/-- A loop. -/
def l23_4 : ACode := .block 8 (.loop (.after b23_4 [0, 5, 10, 11, 12]))

/-- The rest. -/
def s23_12 : ACode := (.cregion [0, 5, 10, 11] (.asg 11 (.o1 (.bin .add .num (.t 0) (.c (.int .i64 1))) (.t 11))
    .nil))

/-- The rest. -/
def s23_7 : ACode := (.seq (.block 7 (.seq (.cregion [0, 5, 10, 11, 12] (.asg 12 (.c (.int .i64 0))
    .nil))
  (.seq (.keep [0, 5, 10, 11, 12]) l23_4)))
  (.seq (.keep [0, 5, 10, 11]) s23_12))

/-- A loop's body. -/
def b23_3 : ACode := (.seq (.seq (.cregion [0, 5, 10, 11, 65] (.asg 65 (.o2 (.bin .lss .num (.t 0) (.t 1)) (.t 11) (.o1 (.len (.t 0)) (.t 0)))
    .nil))
  (.cond (.t 65) .skip (.exit 6)))
  (.seq (.keep [0, 5, 10, 11]) s23_7))

/-- A loop. -/
def l23_3 : ACode := .block 6 (.loop (.after b23_3 [0, 5, 10, 11]))

/-- The rest. -/
def s23_6 : ACode := (.block 5 (.seq (.cregion [0, 5, 10] (.asg 10 (.c (.bool false))
    .nil))
  (.seq (.cregion [0, 5, 10, 11] (.asg 11 (.c (.int .i64 0))
    .nil))
  (.seq (.keep [0, 5, 10, 11]) l23_3))))

/-- A loop's body. -/
def b23_2 : ACode := (.seq (.seq (.cregion [0, 5, 61] (.asg 61 (.t 10)
    .nil))
  (.cond (.t 61) .skip (.exit 4)))
  (.seq (.keep [0, 5]) s23_6))

/-- A loop. -/
def l23_2 : ACode := .block 4 (.loop (.after b23_2 [0, 5, 10]))

/-- The rest. -/
def s23_13 : ACode := (.seq (.cregion [4] (.asg 4 (.t 5)
    .nil))
  .ret)

/-- The rest. -/
def s23_5 : ACode := (.seq (.seq (.cregion [0, 5, 10] (.asg 10 (.c (.bool true))
    .nil))
  (.seq (.keep [0, 5, 10]) l23_2))
  (.seq (.keep [5]) s23_13))

/-- The rest. -/
def s23_2 : ACode := (.seq (.seq (.cregion [0, 1, 5, 7] (.asg 7 (.c (.int .i64 0))
    .nil))
  (.seq (.keep [0, 1, 5, 7]) l23_1))
  (.seq (.keep [0, 5]) s23_5))

/-- The code. -/
def c23 : AFun := ⟨(.seq (.cregion [0, 1] .nil)
  (.seq (.cregion [0, 1, 5] (.asg 5 (.c .nils)
    .nil))
  (.seq (.seq (.cregion [0, 1, 5, 6] (.asg 6 (.c (.int .i64 0))
    .nil))
  (.seq (.keep [0, 1, 5, 6]) l23_0))
  (.seq (.keep [0, 1, 5]) s23_2)))),
  [(.tmp 4)]⟩

theorem t23 : trFunC Go.Proofs.Try.prog (fun f => ([1000021] : List Nat).contains f) [[0, 1], [0, 1, 5], [0, 1, 5, 6], [0, 1, 5, 6, 16], [0, 1, 5, 6], [0, 1, 5, 6], [0, 1, 5, 7], [0, 1, 5, 7, 26], [0, 1, 5, 7, 8], [0, 1, 5, 7, 8, 9], [0, 1, 5, 7, 8, 9, 56], [0, 1, 5, 7], [0, 1, 5, 7], [0, 5, 10], [0, 5, 61], [0, 5, 10], [0, 5, 10, 11], [0, 5, 10, 11, 65], [0, 5, 10, 11, 12], [0, 5, 10, 11, 12, 70], [0, 5, 10, 11, 12, 93], [0, 5, 11, 12], [0, 5, 10, 11, 12], [0, 5, 10, 11, 12], [0, 5, 10, 11], [4]] 23 = some ⟨erase c23.code, c23.res⟩ := by kernel_rfl

end Go.Abs

/- What Pick, the seeds' remainder, does; what join of the reference does. -/
namespace Go.Abs
open Go.Proofs.Try (prog)

/-- Pick. -/
theorem ac27 {h : Heap} {a m : Int} (hm : 0 < m) (hm2 : m ≤ 4611686018427387904) : AC prog 27 [.int .i64 a, .int .i64 m] h fun v h' => v = .int .i64 (a % m) ∧ h' = h := by
  refine AC_c' noq_ok mixed t27 fun R hR => ?_
  have hne : m ≠ 0 := by omega
  have g1 := Int.emod_nonneg a hne
  have g2 := Int.emod_lt_of_pos a hm
  have key : a.tmod m = a % m ∨ a.tmod m = a % m - m := by
    have hn : (m.natAbs : Int) = m := by omega
    rw [Int.tmod_eq_emod]
    split
    · left; simp
    · right; rw [hn]
  simp [c27, hne]
  refine Wc_intro (fun hc => ?_) (fun hc => ?_)
  · simp at hc
    have e : a.tmod m + m = a % m := by omega
    have w : IntKind.i64.wrap (a.tmod m + m) = a % m := by rw [e]; exact wrap_id (by omega) (by omega)
    simp [s27_0, w]
    exact hR _ _ _ (Sub.refl _) ⟨rfl, rfl⟩
  · simp at hc
    have e : a.tmod m = a % m := by omega
    simp [s27_0, e]
    exact hR _ _ _ (Sub.refl _) ⟨rfl, rfl⟩

/-- What join leaves. -/
def joinL (c : List Nat) (a b : Nat) : List Nat := c.map fun x => if x = max (c.getD a 0) (c.getD b 0) then min (c.getD a 0) (c.getD b 0) else x

/-- join. -/
theorem ac60 {h : Heap} {b n : Nat} {cap : Option Nat} {e : TypeId} {c : List Nat} {i j : Nat} (hb : h b = some (.cells e 1 (nats c))) (hn : n = c.length) (hi : i < c.length) (hj : j < c.length) (hl : c.length ≤ 140737488355328) :
    AC prog 60 [.sl 1 b 0 n cap, .int .i64 i, .int .i64 j] h fun v h' => h' = upd h b (.cells e 1 (nats (joinL c i j))) := by
  subst hn
  refine AC_c' noq_ok mixed t60 fun R hR => ?_
  have e1 : c.getD i 0 = c[i] := by simp [List.getD_eq_getElem?_getD, hi]
  have e2 : c.getD j 0 = c[j] := by simp [List.getD_eq_getElem?_getD, hj]
  simp [c60, hi, hj, hb, l60_0]
  have hJl : ∀ k (hk : k < c.length), (joinL c i j)[k]? = some (if c[k] = max c[i] c[j] then min c[i] c[j] else c[k]) := by
    intro k hk
    simp only [joinL, List.getElem?_map, List.getElem?_eq_getElem hk, Option.map_some, e1, e2]
  refine W_loop' (fun m tm h1 => ∃ (k : Nat) (q : List Nat), m = c.length - k ∧ k ≤ c.length ∧ tm = mk [(0, .sl 1 b 0 c.length cap), (6, .int .i64 (min (c[i] : Int) c[j])), (7, .int .i64 (max (c[i] : Int) c[j])), (8, .int .i64 (k : Nat))] ∧
      h1 = upd h b (.cells e 1 (nats q)) ∧ q.length = c.length ∧ (∀ x, x < k → q[x]? = (joinL c i j)[x]?) ∧ (∀ x, k ≤ x → q[x]? = c[x]?)) c.length ⟨0, c, rfl, by omega, rfl, by simp [upd_self hb], rfl, fun x hx => by omega, fun x _ => rfl⟩ ?_
  rintro J hJ m _ _ ⟨k, q, rfl, hk, rfl, rfl, hql, hq1, hq2⟩
  simp [b60_0]
  refine Wc_intro (fun hc => ?_) (fun hc => ?_)
  · simp at hc
    have w5 : IntKind.i64.wrap ((k : Int) + 1) = k + 1 := wrap_id (by omega) (by omega)
    have hg : q[k]? = some c[k] := by rw [hq2 k (Nat.le_refl _)]; exact List.getElem?_eq_getElem hc
    simp [s60_0, hc, upd_at, hg]
    refine Wc_intro (fun hc2 => ?_) (fun hc2 => ?_)
    · simp at hc2
      have hm : c[k] = max c[i] c[j] := by omega
      have e3 : (min (c[i] : Int) c[j]) = (min c[i] c[j] : Nat) := by omega
      simp [s60_1, hc, upd_at, w5, e3]
      refine ⟨by omega, c.length - (k + 1), by omega, hJ _ _ _ ⟨k + 1, q.set k (min c[i] c[j]), rfl, by omega, by simp [e3], ?_, by simpa using hql, fun x hx => ?_, fun x hx => ?_⟩⟩
      · rw [upd_upd, ← nats_set]
      · rcases Nat.lt_or_ge x k with c1 | c1
        · rw [List.getElem?_set_ne (by omega)]; exact hq1 x c1
        · have : x = k := by omega
          subst this
          rw [List.getElem?_set_self (by omega), hJl x hc, if_pos hm]
      · rw [List.getElem?_set_ne (by omega)]; exact hq2 x (by omega)
    · simp at hc2
      have hm : ¬ c[k] = max c[i] c[j] := by omega
      simp [s60_1, w5]
      refine ⟨c.length - (k + 1), by omega, hJ _ _ _ ⟨k + 1, q, rfl, by omega, by simp, rfl, hql, fun x hx => ?_, fun x hx => hq2 x (by omega)⟩⟩
      rcases Nat.lt_or_ge x k with c1 | c1
      · exact hq1 x c1
      · have : x = k := by omega
        subst this
        rw [hg, hJl x hc, if_neg hm]
  · simp at hc
    have : k = c.length := by omega
    subst this
    have hqe : q = joinL c i j := by
      refine List.ext_getElem? fun x => ?_
      rcases Nat.lt_or_ge x c.length with c1 | c1
      · exact hq1 x c1
      · rw [List.getElem?_eq_none (by omega), List.getElem?_eq_none (by simp [joinL]; omega)]
    rw [← hqe] at hR
    exact hR _ _ _ (Sub.refl _) rfl

end Go.Abs

/- What congruent of the reference does: it tells whether two nodes have the same operation and operands of the same classes. -/
namespace Go.Abs
open Go.Proofs.Try (prog)
open Classical

/-- Two nodes are congruent under a list of names. -/
def Cong (c : List Nat) (x y : Nd) : Prop := x.op = y.op ∧ x.imm = y.imm ∧ x.kids.length = y.kids.length ∧
  ∀ t, t < x.kids.length → ∃ a b : Nat, x.kids[t]? = some (a : Int) ∧ y.kids[t]? = some (b : Int) ∧ a < c.length ∧ b < c.length ∧ c[a]? = c[b]?

theorem ac61 {h : Heap} {c : List Nat} {x y : Nd} (hk : x.kids.length ≤ 140737488355328) : AC prog 61 [x.v, y.v, .ps 1 (nats c)] h fun v h' => v = .bool (decide (Cong c x y)) ∧ h' = h := by
  refine AC_c' noq_ok mixed t61 fun R hR => ?_
  have fin : ∀ b, b = decide (Cong c x y) → R (.bool b) h := fun b hb => hR _ _ _ (Sub.refl _) ⟨by rw [hb], rfl⟩
  have no : ¬ Cong c x y → R (.bool false) h := fun hn => fin _ (by simp [hn])
  simp [c61, Nd.v]
  refine Wc_intro (fun hc => ?_) (fun hc => ?_)
  · exact no fun ⟨q1, q2, q3, _⟩ => by simp [q1, q2, q3] at hc
  simp at hc
  obtain ⟨⟨c1, c2⟩, c3⟩ := hc
  have hl : x.kids.length = y.kids.length := by omega
  simp [s61_0, l61_0]
  refine W_loop' (fun m tm h1 => ∃ i : Nat, m = x.kids.length - i ∧ i ≤ x.kids.length ∧ tm = mk [(2, .ps 1 (nats c)), (3, .pp [.int .i64 x.op, .int .i64 x.imm, .ps 1 (ints x.kids)]), (4, .pp [.int .i64 y.op, .int .i64 y.imm, .ps 1 (ints y.kids)]), (7, .int .i64 (i : Nat))] ∧ h = h1 ∧
    ∀ t, t < i → ∃ a b : Nat, x.kids[t]? = some (a : Int) ∧ y.kids[t]? = some (b : Int) ∧ a < c.length ∧ b < c.length ∧ c[a]? = c[b]?) x.kids.length
    ⟨0, rfl, by omega, rfl, rfl, fun t ht => by omega⟩ ?_
  rintro J hJ m _ _ ⟨i, rfl, hi, rfl, rfl, ht⟩
  simp [b61_0]
  refine Wc_intro (fun hc2 => ?_) (fun hc2 => ?_)
  · simp at hc2
    have hiy : i < y.kids.length := by omega
    have hx := List.getElem?_eq_getElem hc2
    have hy := List.getElem?_eq_getElem hiy
    have w5 : IntKind.i64.wrap ((i : Int) + 1) = i + 1 := wrap_id (by omega) (by omega)
    have bad : ¬ (∃ a b : Nat, x.kids[i] = (a : Int) ∧ y.kids[i] = (b : Int) ∧ a < c.length ∧ b < c.length ∧ c[a]? = c[b]?) → R (.bool false) h := by
      intro hn
      refine no fun hC => hn ?_
      obtain ⟨a, b, u1, u2, u3⟩ := hC.2.2.2 i hc2
      rw [hx] at u1; rw [hy] at u2
      injection u1 with u1; injection u2 with u2
      exact ⟨a, b, u1, u2, u3⟩
    simp [s61_1, hx, hy]
    by_cases e1 : x.kids[i] < 0
    · simp [e1]
      exact bad fun ⟨a, b, u1, _⟩ => by omega
    by_cases e2 : y.kids[i] < 0
    · simp [e2]
      exact bad fun ⟨a, b, _, u2, _⟩ => by omega
    obtain ⟨a, ha⟩ : ∃ a : Nat, x.kids[i] = a := ⟨x.kids[i].toNat, by omega⟩
    obtain ⟨b, hb⟩ : ∃ b : Nat, y.kids[i] = b := ⟨y.kids[i].toNat, by omega⟩
    simp [ha, hb]
    by_cases e3 : c.length ≤ a
    · simp [e3]
      exact bad fun ⟨a, b, u1, _, u3, _⟩ => by omega
    by_cases e4 : c.length ≤ b
    · simp [e4]
      exact bad fun ⟨a, b, _, u2, _, u4, _⟩ => by omega
    have ac : a < c.length := by omega
    have bc : b < c.length := by omega
    simp [e3, e4, ac, bc]
    refine Wc_intro (fun hc3 => ?_) (fun hc3 => ?_)
    · simp at hc3
      have hc3 : ¬ (c[a] : Int) = c[b] := by
        rcases hc3 with (q | q) | q
        · omega
        · omega
        · exact q
      refine bad fun ⟨a', b', u1, u2, _, _, u5⟩ => hc3 ?_
      have ea : a' = a := by omega
      have eb : b' = b := by omega
      subst ea; subst eb
      rw [List.getElem?_eq_getElem ac, List.getElem?_eq_getElem bc] at u5
      injection u5 with u5; rw [u5]
    · simp at hc3
      simp [s61_2, w5]
      refine ⟨x.kids.length - (i + 1), by omega, hJ _ _ _ ⟨i + 1, rfl, by omega, by simp, rfl, fun t ht' => ?_⟩⟩
      rcases Nat.lt_or_ge t i with c3 | c3
      · exact ht t c3
      · have : t = i := by omega
        subst this
        refine ⟨a, b, by rw [hx, ha], by rw [hy, hb], ac, bc, ?_⟩
        rw [List.getElem?_eq_getElem ac, List.getElem?_eq_getElem bc]
        congr 1; omega
  · simp at hc2
    have : i = x.kids.length := by omega
    subst this
    simp [s61_3]
    exact fin _ (by simp; exact ⟨c1, c2, hl, ht⟩)

end Go.Abs

/- What Classes of the reference returns: the smallest equivalent index of each node. -/
namespace Go.Abs
open Go.Proofs.Try (prog)
open Classical

/-- Names of classes: each class is named by its smallest member, and joins no more than the closure. -/
structure Nm (l : List Nd) (ps : List (Int × Int)) (c : List Nat) : Prop where
  len : c.length = l.length
  le : ∀ (i x : Nat), c[i]? = some x → x ≤ i
  self : ∀ (i x : Nat), c[i]? = some x → c[x]? = some x
  cl : ∀ (i x : Nat), c[i]? = some x → Cl l ps i x

theorem joinL_get {c : List Nat} {a b : Nat} {p q : Nat} (ha : c[a]? = some p) (hb : c[b]? = some q) (i : Nat) : (joinL c a b)[i]? = (c[i]?).map fun x => if x = max p q then min p q else x := by
  simp only [joinL, List.getElem?_map, List.getD_eq_getElem?_getD, ha, hb, Option.getD_some]

theorem Nm.join {l : List Nd} {ps : List (Int × Int)} {c : List Nat} (n : Nm l ps c) {a b p q : Nat} (ha : c[a]? = some p) (hb : c[b]? = some q) (hc : Cl l ps a b) : Nm l ps (joinL c a b) := by
  have key := joinL_get ha hb
  have hpq : Cl l ps p q := ((n.cl a p ha).symm.trans hc).trans (n.cl b q hb)
  have hle : ∀ (i x : Nat), c[i]? = some x → (if x = max p q then min p q else x) ≤ x := by
    intro i x hx
    split <;> omega
  refine ⟨by simp [joinL, n.len], fun i x hx => ?_, fun i x hx => ?_, fun i x hx => ?_⟩
  · rw [key i] at hx
    cases hi : c[i]? with
    | none => rw [hi] at hx; cases hx
    | some y =>
      rw [hi] at hx; simp at hx; subst hx
      exact Nat.le_trans (hle i y hi) (n.le i y hi)
  · rw [key i] at hx
    cases hi : c[i]? with
    | none => rw [hi] at hx; cases hx
    | some y =>
      rw [hi] at hx; simp at hx; subst hx
      by_cases e : y = max p q
      · rw [if_pos e]
        have : c[min p q]? = some (min p q) := by
          rcases Nat.le_total p q with c1 | c1
          · rw [Nat.min_eq_left c1]; exact n.self a p ha
          · rw [Nat.min_eq_right c1]; exact n.self b q hb
        rw [key, this]
        simp
        try (intro h; omega)
      · rw [if_neg e, key, n.self i y hi]
        simp [e]
  · rw [key i] at hx
    cases hi : c[i]? with
    | none => rw [hi] at hx; cases hx
    | some y =>
      rw [hi] at hx; simp at hx; subst hx
      split
      · rename_i e
        refine (n.cl i y hi).trans ?_
        rcases Nat.le_total p q with c1 | c1
        · rw [Nat.min_eq_left c1, e, Nat.max_eq_right c1]; exact hpq.symm
        · rw [Nat.min_eq_right c1, e, Nat.max_eq_left c1]; exact hpq
      · exact n.cl i y hi

theorem joinL_eq {c : List Nat} {a b i j : Nat} {p q : Nat} (ha : c[a]? = some p) (hb : c[b]? = some q) (h : c[i]? = c[j]?) : (joinL c a b)[i]? = (joinL c a b)[j]? := by
  rw [joinL_get ha hb, joinL_get ha hb, h]
theorem joinL_ab {c : List Nat} {a b : Nat} {p q : Nat} (ha : c[a]? = some p) (hb : c[b]? = some q) : (joinL c a b)[a]? = (joinL c a b)[b]? := by
  rw [joinL_get ha hb, joinL_get ha hb, ha, hb]
  simp only [Option.map_some, Option.some.injEq]
  split <;> split <;> omega

theorem map_sum_le (f : Nat → Nat) : ∀ (c : List Nat), (∀ x ∈ c, f x ≤ x) → (c.map f).sum ≤ c.sum
  | [], _ => Nat.le_refl _
  | x :: c, h => by
    have h1 := h x (by simp)
    have h2 := map_sum_le f c fun y hy => h y (by simp [hy])
    simp only [List.map_cons, List.sum_cons]
    omega
theorem map_sum_lt (f : Nat → Nat) : ∀ (c : List Nat), (∀ x ∈ c, f x ≤ x) → ∀ x ∈ c, f x < x → (c.map f).sum < c.sum
  | y :: c, h, x, hx, hlt => by
    simp only [List.map_cons, List.sum_cons]
    rcases List.mem_cons.1 hx with rfl | hx
    · have h2 := map_sum_le f c fun y hy => h y (by simp [hy])
      omega
    · have h1 := h y (by simp)
      have h2 := map_sum_lt f c (fun y hy => h y (by simp [hy])) x hx hlt
      omega
theorem joinL_sum {c : List Nat} {a b : Nat} {p q : Nat} (ha : c[a]? = some p) (hb : c[b]? = some q) (hne : p ≠ q) : (joinL c a b).sum < c.sum := by
  have e : joinL c a b = c.map fun x => if x = max p q then min p q else x := by
    simp only [joinL, List.getD_eq_getElem?_getD, ha, hb, Option.getD_some]
  rw [e]
  have hm : max p q ∈ c := by
    rcases Nat.le_total p q with c1 | c1
    · rw [Nat.max_eq_right c1]; exact List.mem_of_getElem? hb
    · rw [Nat.max_eq_left c1]; exact List.mem_of_getElem? ha
  refine map_sum_lt _ _ (fun x _ => ?_) (max p q) hm ?_
  · split <;> omega
  · simp only [if_true]; omega

theorem Cong.symm {c : List Nat} {x y : Nd} (h : Cong c x y) : Cong c y x := by
  obtain ⟨h1, h2, h3, h4⟩ := h
  refine ⟨h1.symm, h2.symm, h3.symm, fun t ht => ?_⟩
  obtain ⟨a, b, u1, u2, u3, u4, u5⟩ := h4 t (by omega)
  exact ⟨b, a, u2, u1, u4, u3, u5.symm⟩

theorem kidsIn_nat {n : Nat} {ks : List Int} (h : kidsIn n ks = true) {t : Nat} (ht : t < ks.length) : ∃ a : Nat, ks[t]? = some (a : Int) ∧ a < n := by
  obtain ⟨h1, h2⟩ := kidsIn_get h (List.getElem?_eq_getElem ht)
  exact ⟨ks[t].toNat, by rw [List.getElem?_eq_getElem ht]; congr 1; omega, by omega⟩

theorem kidsIn_of {n : Nat} {ks : List Int} (h : ∀ t, t < ks.length → ∃ a : Nat, ks[t]? = some (a : Int) ∧ a < n) : kidsIn n ks = true := by
  refine List.all_eq_true.2 fun k hk => ?_
  obtain ⟨t, ht, rfl⟩ := List.getElem_of_mem hk
  obtain ⟨a, h1, h2⟩ := h t ht
  rw [List.getElem?_eq_getElem ht] at h1
  injection h1 with h1
  simp
  omega

/-- Nothing more to join: the closure. -/
theorem Nm.done {l : List Nd} {ps : List (Int × Int)} {c : List Nat} (n : Nm l ps c) (hp : PairsC l ps fun i => c.getD i 0) (hc : ∀ (i j : Nat) (x y : Nd), i < j → l[i]? = some x → l[j]? = some y → Cong c x y → c[i]? = c[j]?) : IsCl l ps c := by
  have hg : ∀ i, i < l.length → c[i]? = some (c.getD i 0) := by
    intro i hi
    rw [List.getD_eq_getElem?_getD, List.getElem?_eq_getElem (by rw [n.len]; exact hi)]; rfl
  have key := isCl_of (l := l) (ps := ps) (r := fun i => c.getD i 0) (fun i hi => n.cl i _ (hg i hi)) (fun i hi => n.le i _ (hg i hi)) hp ?_
  · have e : (List.range l.length).map (fun i => c.getD i 0) = c := by
      refine List.ext_getElem? fun i => ?_
      rcases Nat.lt_or_ge i l.length with c1 | c1
      · rw [hg i c1]; simp [c1]
      · rw [List.getElem?_eq_none (by simpa using c1), List.getElem?_eq_none (by rw [n.len]; exact c1)]
    rw [e] at key
    exact key
  · intro i j x y hx hy e1 e2 e3 k1 k2 hr
    have hC : Cong c x y := by
      refine ⟨e1, e2, e3, fun t ht => ?_⟩
      obtain ⟨a, a1, a2⟩ := kidsIn_nat k1 ht
      obtain ⟨b, b1, b2⟩ := kidsIn_nat k2 (by omega : t < y.kids.length)
      refine ⟨a, b, a1, b1, by rw [n.len]; exact a2, by rw [n.len]; exact b2, ?_⟩
      rw [hg a a2, hg b b2]; exact congrArg some (hr t a b a1 b1)
    have hij : c[i]? = c[j]? := by
      rcases Nat.lt_trichotomy i j with q | q | q
      · exact hc i j x y q hx hy hC
      · rw [q]
      · exact (hc j i y x q hy hx hC.symm).symm
    simp only [List.getD_eq_getElem?_getD, hij]

end Go.Abs

/- The walk through Classes of the reference. -/
namespace Go.Abs
open Go.Proofs.Try (prog)
open Classical

theorem nats_append (a b : List Nat) : nats (a ++ b) = nats a ++ nats b := by simp [nats]
theorem nats_isCell (a : List Nat) : (nats a).all V.isCell = true := by simp [nats]
theorem ints_isCell (a : List Int) : (ints a).all V.isCell = true := by simp [ints]

/-- A block's content, of a slice that grew. -/
theorem Grow.put {e : TypeId} {esz n b : Nat} {h : Heap} {xs ys : List V} (hb : h b = none) (hl : ys.length = n * esz) : Grow e esz h (.sl esz b 0 n none) (upd (upd h b (.cells e esz xs)) b (.cells e esz ys)) ys n :=
  .inr ⟨b, hb, rfl, hl, by rw [upd_upd]⟩

theorem lend_ps {h : Heap} {b n : Nat} {e : TypeId} {xs : List V} {cap : Option Nat} (hb : h b = some (.cells e 1 xs)) (hn : n = xs.length) : fzV h (.sl 1 b 0 n cap) = .ps 1 xs := by
  subst hn
  simp [fzV, hb, elems]

/-- One element more, of one cell. -/
theorem Grow.app1 {C : FuncId → List V → Heap → (V → Heap → Prop) → Prop} {e : TypeId} {n bytes : Nat} {h h1 : Heap} {v x : V} {xs : List V} {K : V → Heap → Prop} (g : Grow e 1 h v h1 xs n) (hx : x.isCell = true) (hb : (n + 1) * bytes ≤ 140737488355328) (hb2 : n + 1 ≤ 140737488355328)
    (k : ∀ v' h', Grow e 1 h v' h' (xs ++ [x]) (n + 1) → K v' h') : wApp e 1 bytes v (.ps 1 [x]) h1 K :=
  g.app (C := C) (ys := [x]) (m := 1) (by show some ([x].flatMap V.cells, 1) = _; rw [List.flatMap_cons, isCell_cells hx]; rfl) (by rw [List.all_cons, hx]; rfl) rfl hb hb2 k

section
variable {l : List Nd} {ps : List (Int × Int)}

theorem nats_range_succ (i : Nat) : nats (List.range i) ++ [.int .i64 (i : Int)] = nats (List.range (i + 1)) := by
  rw [List.range_succ, nats_append]; rfl

/-- What is known between joins. -/
structure S23 (l : List Nd) (ps : List (Int × Int)) (h : Heap) (v : V) (h1 : Heap) (c : List Nat) : Prop where
  nm : Nm l ps c
  g : Grow 3 1 h v h1 (nats c) l.length

theorem S23.join {h h1 : Heap} {v : V} {c : List Nat} (s : S23 l ps h v h1 c) {a b p q : Nat} (ha : c[a]? = some p) (hb : c[b]? = some q) (hc : Cl l ps a b) (hl : l.length ≤ 140737488355328) {Q : V → Heap → Prop}
    (k : ∀ u h', S23 l ps h v h' (joinL c a b) → Q u h') : AC prog 60 [v, .int .i64 a, .int .i64 b] h1 Q := by
  have hal := (List.getElem?_eq_some_iff.1 ha).1
  have hbl := (List.getElem?_eq_some_iff.1 hb).1
  have hlen := s.nm.len
  obtain ⟨bb, hbb, rfl, hl2, rfl⟩ := s.g.sl_of (by omega)
  refine (ac60 (upd_eq _ _ _) hlen.symm hal hbl (by omega)).mono ?_
  rintro u h' rfl
  exact k _ _ ⟨s.nm.join ha hb hc, .put hbb (by simp [joinL, hlen])⟩

theorem S23.at {h h1 : Heap} {v : V} {c : List Nat} (s : S23 l ps h v h1 c) {i : Nat} (hi : i < l.length) : ∃ b, v = .sl 1 b 0 l.length none ∧ h1 b = some (.cells 3 1 (nats c)) ∧ ∃ p, c[i]? = some p := by
  obtain ⟨bb, hbb, rfl, hl2, rfl⟩ := s.g.sl_of (by omega)
  exact ⟨bb, rfl, upd_eq _ _ _, c[i]'(by rw [s.nm.len]; exact hi), List.getElem?_eq_getElem _⟩

theorem ac23 {h : Heap} (hks : ∀ x ∈ l, x.kids.length ≤ 140737488355328) (hn : l.length * 8 ≤ 140737488355328) (hp : ps.length ≤ 140737488355328) :
    AC prog 23 [.ps 3 (l.map Nd.v), .ps 2 (prsV ps)] h fun v h' => ∃ c, IsCl l ps c ∧ v = .ps 1 (nats c) ∧ h' = h := by
  refine AC_cv noq_ok mixed t23 fun R hR => ?_
  simp [c23, l23_0]
  refine W_loop' (fun m tm h1 => ∃ (i : Nat) (v : V), m = l.length - i ∧ i ≤ l.length ∧ tm = mk [(0, .ps 3 (l.map Nd.v)), (1, .ps 2 (prsV ps)), (5, v), (6, .int .i64 (i : Nat))] ∧ Grow 3 1 h v h1 (nats (List.range i)) i)
    l.length ⟨0, .nils, rfl, by omega, rfl, .nil _ _ _⟩ ?_
  rintro J hJ m _ h1 ⟨i, v, rfl, hi, rfl, g⟩
  simp [b23_0]
  refine Wc_intro (fun hc => ?_) (fun hc => ?_)
  · simp at hc
    have w5 : IntKind.i64.wrap ((i : Int) + 1) = i + 1 := wrap_id (by omega) (by omega)
    simp [s23_0, elems]
    refine g.app1 (C := AC prog) rfl (by omega) (by omega) fun v' h' g' => ?_
    rw [nats_range_succ] at g'
    simp [r23_0, s23_1, w5]
    exact ⟨l.length - (i + 1), by omega, hJ _ _ _ ⟨i + 1, v', rfl, by omega, by simp, g'⟩⟩
  simp at hc
  obtain rfl : i = l.length := by omega
  clear hJ J hc hi
  have s0 : S23 l ps h v h1 (List.range l.length) := by
    refine ⟨⟨by simp, fun i x hx => ?_, fun i x hx => ?_, fun i x hx => ?_⟩, g⟩ <;> simp [List.getElem?_eq_some_iff] at hx <;> obtain ⟨hx, rfl⟩ := hx
    · omega
    · simp [hx]
    · exact .refl hx
  clear g
  simp [s23_2, l23_1]
  -- the pairs
  refine W_loop' (fun m tm h1 => ∃ (k : Nat) (c : List Nat), m = ps.length - k ∧ k ≤ ps.length ∧ tm = mk [(0, .ps 3 (l.map Nd.v)), (1, .ps 2 (prsV ps)), (5, v), (7, .int .i64 (k : Nat))] ∧ S23 l ps h v h1 c ∧
      ∀ (t i j : Nat), t < k → ps[t]? = some ((i : Int), (j : Int)) → i < l.length → j < l.length → c[i]? = c[j]?)
    ps.length ⟨0, _, rfl, by omega, rfl, s0, fun t _ _ ht => by omega⟩ ?_
  clear s0 h1
  rintro J hJ m _ h1 ⟨k, c, rfl, hk, rfl, s, hpk⟩
  simp [b23_1, prsV_len]
  refine Wc_intro (fun hc => ?_) (fun hc => ?_)
  · simp at hc
    have w5 : IntKind.i64.wrap ((k : Int) + 1) = k + 1 := wrap_id (by omega) (by omega)
    have hpg := List.getElem?_eq_getElem hc
    have hlen := s.nm.len
    simp [s23_3, hpg]
    refine Wc_intro (fun hc2 => ?_) (fun hc2 => ?_)
    · simp at hc2
      obtain ⟨⟨⟨q1, q2⟩, q3⟩, q4⟩ := hc2
      obtain ⟨a, ha⟩ : ∃ a : Nat, ps[k].1 = a := ⟨ps[k].1.toNat, by omega⟩
      obtain ⟨b, hb⟩ : ∃ b : Nat, ps[k].2 = b := ⟨ps[k].2.toNat, by omega⟩
      have hal : a < l.length := by omega
      have hbl : b < l.length := by omega
      obtain ⟨_, _, _, p, hpa⟩ := s.at hal
      obtain ⟨_, _, _, q, hqb⟩ := s.at hbl
      have hcl : Cl l ps a b := .pair (by rw [← ha, ← hb]; exact List.getElem_mem hc) hal hbl
      simp [ha, hb]
      refine s.join hpa hqb hcl (by omega) fun u h' s' => ?_
      simp [s23_4, w5]
      refine ⟨ps.length - (k + 1), by omega, hJ _ _ _ ⟨k + 1, _, rfl, by omega, by simp, s', fun t i j ht htp hi hj => ?_⟩⟩
      rcases Nat.lt_or_ge t k with c1 | c1
      · exact joinL_eq hpa hqb (hpk t i j c1 htp hi hj)
      · have : t = k := by omega
        subst this
        rw [List.getElem?_eq_getElem hc] at htp
        injection htp with htp
        rw [htp] at ha hb
        have ea : i = a := by simp at ha; omega
        have eb : j = b := by simp at hb; omega
        subst ea; subst eb
        exact joinL_ab hpa hqb
    · simp at hc2
      simp [s23_4, w5]
      refine ⟨ps.length - (k + 1), by omega, hJ _ _ _ ⟨k + 1, _, rfl, by omega, by simp, s, fun t i j ht htp hi hj => ?_⟩⟩
      rcases Nat.lt_or_ge t k with c1 | c1
      · exact hpk t i j c1 htp hi hj
      · have : t = k := by omega
        subst this
        rw [List.getElem?_eq_getElem hc] at htp
        injection htp with htp
        rw [htp] at hc2
        simp at hc2
        omega
  simp at hc
  obtain rfl : k = ps.length := by omega
  clear hJ J hc hk
  have hP : ∀ i j : Nat, ((i : Int), (j : Int)) ∈ ps → i < l.length → j < l.length → c[i]? = c[j]? := by
    intro i j hm hi hj
    obtain ⟨t, ht⟩ := List.getElem?_of_mem hm
    exact hpk t i j (List.getElem?_eq_some_iff.1 ht).1 ht hi hj
  clear hpk
  simp [s23_5, l23_2]
  -- the passes
  refine W_loop' (fun m tm h1 => ∃ (c : List Nat) (more : Bool), m = 2 * c.sum + (if more then 1 else 0) ∧ tm = mk [(0, .ps 3 (l.map Nd.v)), (5, v), (10, .bool more)] ∧ S23 l ps h v h1 c ∧
      (∀ i j : Nat, ((i : Int), (j : Int)) ∈ ps → i < l.length → j < l.length → c[i]? = c[j]?) ∧ (more = false → ∀ (i j : Nat) (x y : Nd), i < j → l[i]? = some x → l[j]? = some y → Cong c x y → c[i]? = c[j]?))
    _ ⟨c, true, rfl, rfl, s, hP, fun h => by cases h⟩ ?_
  clear s hP c h1
  rintro J hJ m _ h1 ⟨c0, more, rfl, rfl, s, hP, hC⟩
  simp [b23_2]
  refine Wc_intro (fun hc => ?_) (fun hc => ?_)
  · subst hc
    clear hC
    simp [s23_6, l23_3]
    refine W_loop' (fun m tm h1 => ∃ (j : Nat) (c : List Nat) (more : Bool), m = l.length - j ∧ j ≤ l.length ∧ tm = mk [(0, .ps 3 (l.map Nd.v)), (5, v), (10, .bool more), (11, .int .i64 (j : Nat))] ∧ S23 l ps h v h1 c ∧
        (∀ i j : Nat, ((i : Int), (j : Int)) ∈ ps → i < l.length → j < l.length → c[i]? = c[j]?) ∧ c.sum ≤ c0.sum ∧ (more = true → c.sum < c0.sum) ∧
        (more = false → c = c0 ∧ ∀ (i' j' : Nat) (x y : Nd), i' < j' → j' < j → l[i']? = some x → l[j']? = some y → Cong c0 x y → c0[i']? = c0[j']?))
      l.length ⟨0, c0, false, rfl, by omega, rfl, s, hP, Nat.le_refl _, (fun h => by cases h), fun _ => ⟨rfl, fun _ j' _ _ _ hj => by omega⟩⟩ ?_
    clear s hP h1
    rintro J2 hJ2 m _ h1 ⟨j, c, more, rfl, hj, rfl, s, hP, hsum, hlt, hC⟩
    simp [b23_3]
    refine Wc_intro (fun hc => ?_) (fun hc => ?_)
    · simp at hc
      have w5 : IntKind.i64.wrap ((j : Int) + 1) = j + 1 := wrap_id (by omega) (by omega)
      simp [s23_7, l23_4]
      refine W_loop' (fun m tm h1 => ∃ (i : Nat) (c : List Nat) (more : Bool), m = j - i ∧ i ≤ j ∧ tm = mk [(0, .ps 3 (l.map Nd.v)), (5, v), (10, .bool more), (11, .int .i64 (j : Nat)), (12, .int .i64 (i : Nat))] ∧ S23 l ps h v h1 c ∧
          (∀ i j : Nat, ((i : Int), (j : Int)) ∈ ps → i < l.length → j < l.length → c[i]? = c[j]?) ∧ c.sum ≤ c0.sum ∧ (more = true → c.sum < c0.sum) ∧
          (more = false → c = c0 ∧ ∀ (i' j' : Nat) (x y : Nd), i' < j' → (j' < j ∨ (j' = j ∧ i' < i)) → l[i']? = some x → l[j']? = some y → Cong c0 x y → c0[i']? = c0[j']?))
        j ⟨0, c, more, rfl, by omega, rfl, s, hP, hsum, hlt, fun hm => ⟨(hC hm).1, fun i' j' x y h1 h2 => (hC hm).2 i' j' x y h1 (by omega)⟩⟩ ?_
      clear s hP h1 hsum hlt hC c more
      rintro J3 hJ3 m _ h1 ⟨i, c, more, rfl, hi, rfl, s, hP, hsum, hlt, hC⟩
      simp [b23_4]
      refine Wc_intro (fun hc2 => ?_) (fun hc2 => ?_)
      · simp at hc2
        have w6 : IntKind.i64.wrap ((i : Int) + 1) = i + 1 := wrap_id (by omega) (by omega)
        have hil : i < l.length := by omega
        obtain ⟨b, rfl, hb, p, hp⟩ := s.at hil
        obtain ⟨_, _, _, q, hq⟩ := s.at hc
        have hlen := s.nm.len
        have hx := List.getElem?_eq_getElem hil
        have hy := List.getElem?_eq_getElem hc
        -- nothing to join here
        have skip : (¬ c[i]? = c[j]? → ¬ Cong c l[i] l[j]) → ∃ m, m < j - i ∧ J3 m (mk [(0, .ps 3 (l.map Nd.v)), (5, .sl 1 b 0 l.length none), (10, .bool more), (11, .int .i64 (j : Nat)), (12, .int .i64 ((i : Int) + 1))]) h1 := by
          intro hn
          refine ⟨j - (i + 1), by omega, hJ3 _ _ _ ⟨i + 1, c, more, rfl, by omega, by simp, s, hP, hsum, hlt, fun hm => ?_⟩⟩
          obtain ⟨rfl, hC2⟩ := hC hm
          refine ⟨rfl, fun i' j' x y k1 k2 k3 k4 k5 => ?_⟩
          by_cases k6 : j' = j ∧ i' = i
          · obtain ⟨rfl, rfl⟩ := k6
            rw [hx] at k3; rw [hy] at k4
            injection k3 with k3; injection k4 with k4
            subst k3; subst k4
            by_cases k7 : c[i']? = c[j']?
            · exact k7
            · exact absurd k5 (hn k7)
          · exact hC2 i' j' x y k1 (by omega) k3 k4 k5
        simp [s23_8, hb, hp, hq, hil, hc]
        by_cases hpq : p = q
        · subst hpq
          simp [r23_1, s23_9, s23_11, w6]
          exact skip fun hne => absurd (hp.trans hq.symm) hne
        · have hpq' : ((p : Int) != (q : Int)) = true := by simp; omega
          simp [hpq', hx, hy, Nd.v]
          show AC prog 61 [l[i].v, l[j].v, .sl 1 b 0 l.length none] h1 _
          refine (AC.lend (v0 := .bool (decide (Cong c l[i] l[j]))) rfl ?_).mono ?_
          · have e1 : fzV h1 (.sl 1 b 0 l.length none) = .ps 1 (nats c) := lend_ps hb (by simp [hlen])
            have e2 : ∀ x : Nd, fzV h1 x.v = x.v := fun _ => rfl
            simp only [List.map_cons, List.map_nil, e1, e2]
            exact (ac61 (hks _ (List.getElem_mem hil))).mono fun _ _ h => h.1
          rintro u h2 ⟨rfl, rfl⟩
          simp [r23_1, s23_9]
          refine Wc_intro (fun hc3 => ?_) (fun hc3 => ?_)
          · simp at hc3
            obtain ⟨k1, k2, k3, k4⟩ := id hc3
            have hcl : Cl l ps i j := by
              refine .cong hx hy k1 k2 k3 (kidsIn_of fun t ht => ?_) (kidsIn_of fun t ht => ?_) fun t a b ha hb => ?_
              · obtain ⟨a, b, u1, u2, u3, u4, u5⟩ := k4 t ht
                exact ⟨a, u1, by omega⟩
              · obtain ⟨a, b, u1, u2, u3, u4, u5⟩ := k4 t (by omega)
                exact ⟨b, u2, by omega⟩
              · obtain ⟨a', b', u1, u2, u3, u4, u5⟩ := k4 t (List.getElem?_eq_some_iff.1 ha).1
                rw [ha] at u1; rw [hb] at u2
                have ea : a = a' := by simp at u1; omega
                have eb : b = b' := by simp at u2; omega
                subst ea; subst eb
                obtain ⟨_, _, _, x, hxa⟩ := s.at (i := a) (by omega)
                exact (s.nm.cl a x hxa).trans (s.nm.cl b x (by rw [← u5]; exact hxa)).symm
            simp [k23_0]
            refine s.join hp hq hcl (by omega) fun u h' s' => ?_
            have hlt' := joinL_sum hp hq hpq
            simp [s23_10, s23_11, w6]
            exact ⟨j - (i + 1), by omega, hJ3 _ _ _ ⟨i + 1, _, true, rfl, by omega, by simp, s', fun i j hm hi hj => joinL_eq hp hq (hP i j hm hi hj), by omega, fun _ => by omega, fun h => by cases h⟩⟩
          · simp at hc3
            simp [s23_11, w6]
            exact skip fun _ => hc3
      · simp at hc2
        obtain rfl : i = j := by omega
        simp [s23_12, w5]
        refine ⟨l.length - (i + 1), by omega, hJ2 _ _ _ ⟨i + 1, c, more, rfl, by omega, by simp, s, hP, hsum, hlt, fun hm => ⟨(hC hm).1, fun i' j' x y k1 k2 => (hC hm).2 i' j' x y k1 (by omega)⟩⟩⟩
    · simp at hc
      obtain rfl : j = l.length := by omega
      refine ⟨2 * c.sum + (if more then 1 else 0), ?_, hJ _ _ _ ⟨c, more, rfl, rfl, s, hP, fun hm => ?_⟩⟩
      · cases more with
        | true => have := hlt rfl; simp; omega
        | false => simp; omega
      · obtain ⟨rfl, hC2⟩ := hC hm
        intro i j x y k1 k2 k3 k4
        exact hC2 i j x y k1 (List.getElem?_eq_some_iff.1 k3).1 k2 k3 k4
  · subst hc
    simp [s23_13]
    refine hR _ _ _ _ s.g.view1 ⟨c0, s.nm.done (fun i j hm hi hj => ?_) (hC rfl), rfl, rfl⟩
    simp only [List.getD_eq_getElem?_getD, hP i j hm hi hj]
end
end Go.Abs
