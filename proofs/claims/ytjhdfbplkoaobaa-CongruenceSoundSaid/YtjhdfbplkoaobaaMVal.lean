/- The code of Value and Dependencies. -/
import Derived.Test.YtjhdfbplkoaobaaMCalcC
import Derived.Test.YtjhdfbplkoaobaaProg
import Derived.KernelRfl
import Derived.Test.YtjhdfbplkoaobaaMNodes
import Derived.Test.YtjhdfbplkoaobaaMMut
set_option linter.unusedVariables false
set_option linter.unusedSimpArgs false
namespace Go.Abs

/-- The rest of a region. -/
def r29_0 : CTree := (.asg 15 (.o1 (.bin .neq .num (.t 0) (.c (.int .i64 1))) (.t 14))
    .nil)

/-- A branch. -/
def k29_0 : ACode := (.seq (.cregion [6, 7] (.asg 6 (.c (.int .i64 0))
    (.asg 7 (.c (.bool false))
    .nil)))
  .ret)

/-- The rest. -/
def s29_0 : ACode := (.cond (.t 15) (.seq (.keep []) k29_0) .skip)

/-- The rest of a region. -/
def r29_1 : CTree := (.asg 8 (.t 18)
    .nil)

/-- The rest of a region. -/
def r29_2 : CTree := (.asg 9 (.t 21)
    .nil)

/-- The rest of a region. -/
def r29_3 : CTree := (.op none (.store 3 (.t 0) (.t 1)) [(.t 11), (.t 34)]
    .nil)

/-- A branch. -/
def k29_5 : ACode := (.seq (.cregion [0, 1, 2, 8, 9, 10, 11, 137] (.asg 137 (.o1 (.bin .neq .num (.t 0) (.c (.int .i64 0))) (.o1 (.load none (.t 0)) (.o2 (.idx 1 (.t 0) (.t 1)) (.t 9) (.o1 (.load none (.t 0)) (.o1 (.idx 1 (.t 0) (.c (.int .i64 0))) (.o1 (.load none (.t 0)) (.o1 (.fld 2 (.t 0)) (.t 11))))))))
    .nil))
  (.cond (.t 137) (.cregion [0, 1, 2, 8, 9, 10] (.op none (.store 1 (.t 0) (.t 1)) [(.o2 (.idx 1 (.t 0) (.t 1)) (.t 9) (.o1 (.load none (.t 0)) (.o2 (.idx 1 (.t 0) (.t 1)) (.t 8) (.t 10)))), (.o1 (.load none (.t 0)) (.o2 (.idx 1 (.t 0) (.t 1)) (.t 9) (.o1 (.load none (.t 0)) (.o1 (.idx 1 (.t 0) (.c (.int .i64 1))) (.o1 (.load none (.t 0)) (.o1 (.fld 2 (.t 0)) (.t 11)))))))]
    .nil)) (.cregion [0, 1, 2, 8, 9, 10] (.op none (.store 1 (.t 0) (.t 1)) [(.o2 (.idx 1 (.t 0) (.t 1)) (.t 9) (.o1 (.load none (.t 0)) (.o2 (.idx 1 (.t 0) (.t 1)) (.t 8) (.t 10)))), (.o1 (.load none (.t 0)) (.o2 (.idx 1 (.t 0) (.t 1)) (.t 9) (.o1 (.load none (.t 0)) (.o1 (.idx 1 (.t 0) (.c (.int .i64 2))) (.o1 (.load none (.t 0)) (.o1 (.fld 2 (.t 0)) (.t 11)))))))]
    .nil))))

/-- A branch. -/
def k29_6 : ACode := (.seq (.cregion [6, 7] (.asg 6 (.c (.int .i64 0))
    (.asg 7 (.c (.bool false))
    .nil)))
  .ret)

/-- A branch. -/
def k29_4 : ACode := (.seq (.cregion [0, 1, 2, 8, 9, 10, 11, 126] (.asg 126 (.o1 (.bin .eql .num (.t 0) (.c (.int .i64 22))) (.o1 (.load none (.t 0)) (.o1 (.fld 0 (.t 0)) (.t 11))))
    .nil))
  (.cond (.t 126) (.seq (.keep [0, 1, 2, 8, 9, 10, 11]) k29_5) (.seq (.keep []) k29_6)))

/-- A branch. -/
def k29_3 : ACode := (.seq (.cregion [0, 1, 2, 8, 9, 10, 11, 101] (.asg 101 (.or (.o1 (.bin .eql .num (.t 0) (.c (.int .i64 20))) (.o1 (.load none (.t 0)) (.o1 (.fld 0 (.t 0)) (.t 11)))) (.o1 (.bin .eql .num (.t 0) (.c (.int .i64 21))) (.o1 (.load none (.t 0)) (.o1 (.fld 0 (.t 0)) (.t 11)))))
    .nil))
  (.cond (.t 101) (.cregion [0, 1, 2, 8, 9, 10] (.op none (.store 1 (.t 0) (.t 1)) [(.o2 (.idx 1 (.t 0) (.t 1)) (.t 9) (.o1 (.load none (.t 0)) (.o2 (.idx 1 (.t 0) (.t 1)) (.t 8) (.t 10)))), (.o2 (.qcall 68 [(.t 0), (.t 1)]) (.o1 (.load none (.t 0)) (.o1 (.fld 0 (.t 0)) (.t 11))) (.o1 (.load none (.t 0)) (.o2 (.idx 1 (.t 0) (.t 1)) (.t 9) (.o1 (.load none (.t 0)) (.o1 (.idx 1 (.t 0) (.c (.int .i64 0))) (.o1 (.load none (.t 0)) (.o1 (.fld 2 (.t 0)) (.t 11))))))))]
    .nil)) (.seq (.keep [0, 1, 2, 8, 9, 10, 11]) k29_4)))

/-- A branch. -/
def k29_2 : ACode := (.seq (.cregion [0, 1, 2, 8, 9, 10, 11, 69] (.asg 69 (.and (.o1 (.bin .geq .num (.t 0) (.c (.int .i64 4))) (.o1 (.load none (.t 0)) (.o1 (.fld 0 (.t 0)) (.t 11)))) (.o1 (.bin .leq .num (.t 0) (.c (.int .i64 19))) (.o1 (.load none (.t 0)) (.o1 (.fld 0 (.t 0)) (.t 11)))))
    .nil))
  (.cond (.t 69) (.cregion [0, 1, 2, 8, 9, 10] (.op none (.store 1 (.t 0) (.t 1)) [(.o2 (.idx 1 (.t 0) (.t 1)) (.t 9) (.o1 (.load none (.t 0)) (.o2 (.idx 1 (.t 0) (.t 1)) (.t 8) (.t 10)))), (.o3 (.qcall 67 [(.t 0), (.t 1), (.t 2)]) (.o1 (.load none (.t 0)) (.o1 (.fld 0 (.t 0)) (.t 11))) (.o1 (.load none (.t 0)) (.o2 (.idx 1 (.t 0) (.t 1)) (.t 9) (.o1 (.load none (.t 0)) (.o1 (.idx 1 (.t 0) (.c (.int .i64 0))) (.o1 (.load none (.t 0)) (.o1 (.fld 2 (.t 0)) (.t 11))))))) (.o1 (.load none (.t 0)) (.o2 (.idx 1 (.t 0) (.t 1)) (.t 9) (.o1 (.load none (.t 0)) (.o1 (.idx 1 (.t 0) (.c (.int .i64 1))) (.o1 (.load none (.t 0)) (.o1 (.fld 2 (.t 0)) (.t 11))))))))]
    .nil)) (.seq (.keep [0, 1, 2, 8, 9, 10, 11]) k29_3)))

/-- A branch. -/
def k29_1 : ACode := (.seq (.cregion [0, 1, 2, 8, 9, 10, 11, 47] (.asg 47 (.and (.o1 (.bin .eql .num (.t 0) (.c (.int .i64 2))) (.o1 (.load none (.t 0)) (.o1 (.fld 0 (.t 0)) (.t 11)))) (.o2 (.bin .lss .num (.t 0) (.t 1)) (.o1 (.load none (.t 0)) (.o1 (.fld 1 (.t 0)) (.t 11))) (.o1 (.len (.t 0)) (.t 2))))
    .nil))
  (.cond (.t 47) (.cregion [0, 1, 2, 8, 9, 10] (.op none (.store 1 (.t 0) (.t 1)) [(.o2 (.idx 1 (.t 0) (.t 1)) (.t 9) (.o1 (.load none (.t 0)) (.o2 (.idx 1 (.t 0) (.t 1)) (.t 8) (.t 10)))), (.o1 (.load none (.t 0)) (.o2 (.idx 1 (.t 0) (.t 1)) (.t 2) (.o1 (.load none (.t 0)) (.o1 (.fld 1 (.t 0)) (.t 11)))))]
    .nil)) (.seq (.keep [0, 1, 2, 8, 9, 10, 11]) k29_2)))

/-- The rest. -/
def s29_5 : ACode := (.block 2 (.seq (.cregion [0, 1, 2, 8, 9, 10, 11, 35] (.asg 35 (.o1 (.bin .eql .num (.t 0) (.c (.int .i64 1))) (.o1 (.load none (.t 0)) (.o1 (.fld 0 (.t 0)) (.t 11))))
    .nil))
  (.cond (.t 35) (.cregion [0, 1, 2, 8, 9, 10] (.op none (.store 1 (.t 0) (.t 1)) [(.o2 (.idx 1 (.t 0) (.t 1)) (.t 9) (.o1 (.load none (.t 0)) (.o2 (.idx 1 (.t 0) (.t 1)) (.t 8) (.t 10)))), (.o1 (.load none (.t 0)) (.o1 (.fld 1 (.t 0)) (.t 11)))]
    .nil)) (.seq (.keep [0, 1, 2, 8, 9, 10, 11]) k29_1))))

/-- The rest. -/
def s29_6 : ACode := (.cregion [0, 1, 2, 8, 9, 10] (.asg 10 (.o1 (.bin .add .num (.t 0) (.c (.int .i64 1))) (.t 10))
    .nil))

/-- The rest. -/
def s29_4 : ACode := (.seq (.block 1 (.seq (.cregion [0, 1, 2, 8, 9, 10, 11] (.asg 34 (.o1 (.load (some 3) (.t 0)) (.o2 (.idx 3 (.t 0) (.t 1)) (.t 0) (.o1 (.load none (.t 0)) (.o2 (.idx 1 (.t 0) (.t 1)) (.t 8) (.t 10)))))
    (.op (some 11) (.alloc 24 [(.int .i64 0), (.int .i64 0), .nils]) []
    r29_3)))
  (.seq (.keep [0, 1, 2, 8, 9, 10, 11]) s29_5)))
  (.seq (.keep [0, 1, 2, 8, 9, 10]) s29_6))

/-- A loop's body. -/
def b29_0 : ACode := (.seq (.seq (.cregion [0, 1, 2, 8, 9, 10, 25] (.asg 25 (.o2 (.bin .lss .num (.t 0) (.t 1)) (.t 10) (.o1 (.len (.t 0)) (.t 8)))
    .nil))
  (.cond (.t 25) .skip (.exit 0)))
  (.seq (.keep [0, 1, 2, 8, 9, 10]) s29_4))

/-- A loop. -/
def l29_0 : ACode := .block 0 (.loop (.after b29_0 [0, 1, 2, 8, 9, 10]))

/-- The rest. -/
def s29_7 : ACode := (.seq (.cregion [6, 7] (.asg 6 (.o1 (.load none (.t 0)) (.o2 (.idx 1 (.t 0) (.t 1)) (.t 9) (.t 1)))
    (.asg 7 (.c (.bool true))
    .nil)))
  .ret)

/-- The rest. -/
def s29_3 : ACode := (.seq (.seq (.cregion [0, 1, 2, 8, 9, 10] (.asg 10 (.c (.int .i64 0))
    .nil))
  (.seq (.keep [0, 1, 2, 8, 9, 10]) l29_0))
  (.seq (.keep [1, 9]) s29_7))

/-- The rest. -/
def s29_2 : ACode := (.seq (.cregion [0, 1, 2, 8, 9] (.op (some 21) (.mkS 2 1 8 [(.int .i64 0)] (.t 0) (.t 0)) [(.o1 (.bin .add .num (.t 0) (.c (.int .i64 1))) (.t 1))]
    r29_2))
  (.seq (.keep [0, 1, 2, 8, 9]) s29_3))

/-- The rest. -/
def s29_1 : ACode := (.seq (.cregion [0, 1, 2, 8] (.op (some 18) (.call 53 [(.t 0), (.t 1)]) [(.t 0), (.t 1)]
    r29_1))
  (.seq (.keep [0, 1, 2, 8]) s29_2))

/-- The code. -/
def c29 : AFun := ⟨(.seq (.cregion [0, 1, 2] .nil)
  (.seq (.seq (.cregion [0, 1, 2, 15] (.op (some 14) (.call 55 [(.t 0), (.t 1)]) [(.t 0), (.t 1)]
    r29_0))
  (.seq (.keep [0, 1, 2, 15]) s29_0))
  (.seq (.keep [0, 1, 2]) s29_1))),
  [(.tmp 6), (.tmp 7)]⟩

theorem t29 : trFunC Go.Proofs.Try.prog (fun f => ([27, 28, 62, 64, 67, 68, 98, 125, 126, 158] : List Nat).contains f) [[0, 1, 2], [0, 1, 2, 15], [6, 7], [0, 1, 2, 8], [0, 1, 2, 8, 9], [0, 1, 2, 8, 9, 10], [0, 1, 2, 8, 9, 10, 25], [0, 1, 2, 8, 9, 10, 11], [0, 1, 2, 8, 9, 10, 11, 35], [0, 1, 2, 8, 9, 10], [0, 1, 2, 8, 9, 10, 11, 47], [0, 1, 2, 8, 9, 10], [0, 1, 2, 8, 9, 10, 11, 69], [0, 1, 2, 8, 9, 10], [0, 1, 2, 8, 9, 10, 11, 101], [0, 1, 2, 8, 9, 10], [0, 1, 2, 8, 9, 10, 11, 126], [0, 1, 2, 8, 9, 10, 11, 137], [0, 1, 2, 8, 9, 10], [0, 1, 2, 8, 9, 10], [6, 7], [0, 1, 2, 8, 9, 10], [6, 7]] 29 = some ⟨erase c29.code, c29.res⟩ := by kernel_rfl

/-- The rest of a region. -/
def r53_0 : CTree := (.asg 13 (.o1 (.bin .eql .num (.t 0) (.c (.int .i64 0))) (.t 12))
    .nil)

/-- The rest. -/
def s53_0 : ACode := (.cond (.t 13) (.seq (.cregion [4] (.asg 4 (.c .nils)
    .nil))
  .ret) .skip)

/-- The rest of a region. -/
def r53_1 : CTree := (.asg 5 (.t 16)
    .nil)

/-- The rest. -/
def s53_4 : ACode := (.seq (.block 3 (.cregion [0, 1, 5, 6, 7] (.op none (.store 1 (.t 0) (.c (.bool true))) [(.o2 (.idx 1 (.t 0) (.t 1)) (.t 5) (.o1 (.load none (.t 0)) (.o2 (.idx 1 (.t 0) (.t 1)) (.o1 (.load none (.t 0)) (.o1 (.fld 2 (.t 0)) (.o2 (.idx 3 (.t 0) (.t 1)) (.t 0) (.t 6)))) (.t 7))))]
    .nil)))
  (.cregion [0, 1, 5, 6, 7] (.asg 7 (.o1 (.bin .add .num (.t 0) (.c (.int .i64 1))) (.t 7))
    .nil)))

/-- A loop's body. -/
def b53_1 : ACode := (.seq (.seq (.cregion [0, 1, 5, 6, 7, 38] (.asg 38 (.and (.o2 (.bin .lss .num (.t 0) (.t 1)) (.t 7) (.o1 (.len (.t 0)) (.o1 (.load none (.t 0)) (.o1 (.fld 2 (.t 0)) (.o2 (.idx 3 (.t 0) (.t 1)) (.t 0) (.t 6)))))) (.o1 (.load none (.t 0)) (.o2 (.idx 1 (.t 0) (.t 1)) (.t 5) (.t 6))))
    .nil))
  (.cond (.t 38) .skip (.exit 2)))
  (.seq (.keep [0, 1, 5, 6, 7]) s53_4))

/-- A loop. -/
def l53_1 : ACode := .block 2 (.loop (.after b53_1 [0, 1, 5, 6, 7]))

/-- The rest. -/
def s53_5 : ACode := (.cregion [0, 1, 5, 6] (.asg 6 (.o1 (.bin .sub .num (.t 0) (.c (.int .i64 1))) (.t 6))
    .nil))

/-- The rest. -/
def s53_3 : ACode := (.seq (.block 1 (.seq (.cregion [0, 1, 5, 6, 7] (.asg 7 (.c (.int .i64 0))
    .nil))
  (.seq (.keep [0, 1, 5, 6, 7]) l53_1)))
  (.seq (.keep [0, 1, 5, 6]) s53_5))

/-- A loop's body. -/
def b53_0 : ACode := (.seq (.seq (.cregion [0, 1, 5, 6, 22] (.asg 22 (.o1 (.bin .geq .num (.t 0) (.c (.int .i64 0))) (.t 6))
    .nil))
  (.cond (.t 22) .skip (.exit 0)))
  (.seq (.keep [0, 1, 5, 6]) s53_3))

/-- A loop. -/
def l53_0 : ACode := .block 0 (.loop (.after b53_0 [0, 1, 5, 6]))

/-- The rest of a region. -/
def r53_2 : CTree := (.asg 8 (.t 63)
    .nil)

/-- A branch. -/
def k53_0 : ACode := (.cregion [1, 5, 8, 9] (.op (some 62) (.buildSp 3 1 1 [(.int .i64 0)] [(0, (.t 0))]) [(.t 9)]
    (.op (some 63) (.app 3 1 8 (.t 0) (.t 1)) [(.t 8), (.t 62)]
    r53_2)))

/-- The rest. -/
def s53_8 : ACode := (.cregion [1, 5, 8, 9] (.asg 9 (.o1 (.bin .add .num (.t 0) (.c (.int .i64 1))) (.t 9))
    .nil))

/-- The rest. -/
def s53_7 : ACode := (.seq (.block 5 (.seq (.cregion [1, 5, 8, 9, 59] (.asg 59 (.o1 (.load none (.t 0)) (.o2 (.idx 1 (.t 0) (.t 1)) (.t 5) (.t 9)))
    .nil))
  (.cond (.t 59) (.seq (.keep [1, 5, 8, 9]) k53_0) .skip)))
  (.seq (.keep [1, 5, 8, 9]) s53_8))

/-- A loop's body. -/
def b53_2 : ACode := (.seq (.seq (.cregion [1, 5, 8, 9, 53] (.asg 53 (.o2 (.bin .leq .num (.t 0) (.t 1)) (.t 9) (.t 1))
    .nil))
  (.cond (.t 53) .skip (.exit 4)))
  (.seq (.keep [1, 5, 8, 9]) s53_7))

/-- A loop. -/
def l53_2 : ACode := .block 4 (.loop (.after b53_2 [1, 5, 8, 9]))

/-- The rest. -/
def s53_9 : ACode := (.seq (.cregion [4] (.asg 4 (.t 8)
    .nil))
  .ret)

/-- The rest. -/
def s53_6 : ACode := (.seq (.cregion [1, 5, 8] (.asg 8 (.c .nils)
    .nil))
  (.seq (.seq (.cregion [1, 5, 8, 9] (.asg 9 (.c (.int .i64 0))
    .nil))
  (.seq (.keep [1, 5, 8, 9]) l53_2))
  (.seq (.keep [8]) s53_9)))

/-- The rest. -/
def s53_2 : ACode := (.seq (.cregion [0, 1, 5] (.op none (.store 1 (.t 0) (.c (.bool true))) [(.o2 (.idx 1 (.t 0) (.t 1)) (.t 5) (.t 1))]
    .nil))
  (.seq (.seq (.cregion [0, 1, 5, 6] (.asg 6 (.t 1)
    .nil))
  (.seq (.keep [0, 1, 5, 6]) l53_0))
  (.seq (.keep [1, 5]) s53_6)))

/-- The rest. -/
def s53_1 : ACode := (.seq (.cregion [0, 1, 5] (.op (some 16) (.mkS 4 1 1 [(.bool false)] (.t 0) (.t 0)) [(.o1 (.bin .add .num (.t 0) (.c (.int .i64 1))) (.t 1))]
    r53_1))
  (.seq (.keep [0, 1, 5]) s53_2))

/-- The code. -/
def c53 : AFun := ⟨(.seq (.cregion [0, 1] .nil)
  (.seq (.seq (.cregion [0, 1, 13] (.op (some 12) (.call 55 [(.t 0), (.t 1)]) [(.t 0), (.t 1)]
    r53_0))
  (.seq (.keep [0, 1, 13]) s53_0))
  (.seq (.keep [0, 1]) s53_1))),
  [(.tmp 4)]⟩

theorem t53 : trFunC Go.Proofs.Try.prog (fun f => ([27, 28, 62, 64, 67, 68, 98, 125, 126, 158, 1000062] : List Nat).contains f) [[0, 1], [0, 1, 13], [4], [0, 1, 5], [0, 1, 5], [0, 1, 5, 6], [0, 1, 5, 6, 22], [0, 1, 5, 6, 7], [0, 1, 5, 6, 7, 38], [0, 1, 5, 6, 7], [0, 1, 5, 6, 7], [0, 1, 5, 6], [1, 5, 8], [1, 5, 8, 9], [1, 5, 8, 9, 53], [1, 5, 8, 9, 59], [1, 5, 8, 9], [1, 5, 8, 9], [4]] 53 = some ⟨erase c53.code, c53.res⟩ := by kernel_rfl

end Go.Abs

/- Plain facts: the sorts of nodes one by one; the operands of well-sorted nodes. -/
namespace Go.Abs
open Classical

theorem sortsN_get (l : List Nd) {i : Nat} {n : Nd} (hn : l[i]? = some n) : ∀ {m : Nat}, i < m → (sortsN l m)[i]? = some (sortAt l (sortsN l i) i n)
  | m + 1, hm => by
    rcases Nat.lt_or_ge i m with c | c
    · simp only [sortsN]
      rw [List.getElem?_append_left (by simpa using c)]
      exact sortsN_get l hn c
    · obtain rfl : i = m := by omega
      simp only [sortsN]
      rw [List.getElem?_append_right (by simp)]
      simp [hn]

theorem sortsF_get {l : List Nd} {i : Nat} {n : Nd} (hn : l[i]? = some n) : (sortsF l)[i]? = some (sortAt l (sortsN l i) i n) :=
  sortsN_get l hn (List.getElem?_eq_some_iff.1 hn).1

theorem sortsN_take (l : List Nd) : ∀ (m i : Nat), i ≤ m → (sortsN l m).take i = sortsN l i
  | 0, i, h => by obtain rfl : i = 0 := by omega
                  rfl
  | m + 1, i, h => by
    rcases Nat.lt_or_ge m i with c | c
    · obtain rfl : i = m + 1 := by omega
      rw [List.take_of_length_le (by simp)]
    · simp only [sortsN]
      rw [List.take_append_of_le_length (by simpa using c)]
      exact sortsN_take l m i c

theorem sortAt_ne {l : List Nd} {out : List Int} {i : Nat} {n : Nd} (h : sortAt l out i n ≠ 0) : ∃ k, kidSorts out i n.kids = some k ∧ nodeSortF l n k ≠ 0 := by
  unfold sortAt at h
  cases hk : kidSorts out i n.kids with
  | none => rw [hk] at h; exact absurd rfl h
  | some k => rw [hk] at h; exact ⟨k, rfl, h⟩

theorem GoodN.sortNe {vals : Bool} {x : List Nd} (g : GoodN vals x) {i : Nat} {n : Nd} (hn : x[i]? = some n) : sortAt x (sortsN x i) i n ≠ 0 := (g.sorts i _ (sortsF_get hn)).1

theorem GoodN.kid {vals : Bool} {x : List Nd} (g : GoodN vals x) {i : Nat} {n : Nd} (hn : x[i]? = some n) : ∀ q ∈ n.kids, 0 ≤ q ∧ q < i := by
  obtain ⟨k, hk, _⟩ := sortAt_ne (g.sortNe hn)
  exact kidSorts_in hk

/-- All operands in range. -/
theorem kidsIn_all {n : Nat} {ks : List Int} (h : ∀ q ∈ ks, 0 ≤ q ∧ q < n) : kidsIn n ks = true := by
  refine kidsIn_of fun t ht => ?_
  have := h ks[t] (List.getElem_mem ht)
  exact ⟨ks[t].toNat, by rw [List.getElem?_eq_getElem ht, Int.toNat_of_nonneg this.1], by omega⟩
end Go.Abs

/- What Dependencies of the reference returns. -/
namespace Go.Abs
open Go.Proofs.Try (prog)
open Classical

/-- Is the node well-sorted? -/
def WS (l : List Nd) (j : Nat) : Prop := (sortsF l).getD j 0 ≠ 0

theorem ws_get {l : List Nd} {j : Nat} (h : WS l j) : ∃ n, l[j]? = some n ∧ sortAt l (sortsN l j) j n ≠ 0 := by
  unfold WS at h
  rcases Nat.lt_or_ge j l.length with c | c
  · have hn := List.getElem?_eq_getElem c
    refine ⟨_, hn, ?_⟩
    rw [List.getD_eq_getElem?_getD, sortsF_get hn] at h
    exact h
  · rw [List.getD_eq_getElem?_getD, List.getElem?_eq_none (by simp [sortsF]; exact c)] at h
    exact absurd rfl h
theorem ws_of {l : List Nd} {j : Nat} {n : Nd} (hn : l[j]? = some n) (h : sortAt l (sortsN l j) j n ≠ 0) : WS l j := by
  unfold WS
  rw [List.getD_eq_getElem?_getD, sortsF_get hn]
  exact h
theorem ws_lt {l : List Nd} {j : Nat} (h : WS l j) : j < l.length := by
  obtain ⟨n, hn, _⟩ := ws_get h
  exact (List.getElem?_eq_some_iff.1 hn).1

theorem kidSorts_ne {out : List Int} {i : Nat} : ∀ {ks k : List Int}, kidSorts out i ks = some k → ∀ q ∈ ks, out.getD q.toNat 0 ≠ 0
  | p :: ks, k, h, q, hq => by
    simp only [kidSorts] at h
    split at h
    · cases h
    · rename_i c
      simp only [Option.map_eq_some_iff] at h
      obtain ⟨r, h1, rfl⟩ := h
      rcases List.mem_cons.1 hq with rfl | hq
      · omega
      · exact kidSorts_ne h1 q hq

theorem ws_kid {l : List Nd} {j : Nat} (h : WS l j) {n : Nd} (hn : l[j]? = some n) : ∀ q ∈ n.kids, (0 ≤ q ∧ q < j) ∧ WS l q.toNat := by
  obtain ⟨n', hn', hs⟩ := ws_get h
  rw [hn] at hn'; injection hn' with hn'; subst hn'
  obtain ⟨k, hk, _⟩ := sortAt_ne hs
  intro q hq
  have h1 := kidSorts_in hk q hq
  have h2 := kidSorts_ne hk q hq
  refine ⟨h1, ?_⟩
  have hjl := (List.getElem?_eq_some_iff.1 hn).1
  have e : sortsN l j = (sortsF l).take j := (sortsN_take l l.length j (by omega)).symm
  rw [e, List.getD_eq_getElem?_getD, List.getElem?_take_of_lt (by omega)] at h2
  unfold WS
  rw [List.getD_eq_getElem?_getD]
  exact h2

theorem sortF_nat {l : List Nd} {i : Nat} (hi : i < l.length) : sortF l i = (sortsF l).getD i 0 := by
  unfold sortF
  rw [if_neg (by omega), Int.toNat_natCast]
  have e : sortsF (l.take (i + 1)) = sortsN l (i + 1) := by
    unfold sortsF
    have el : (l.take (i + 1)).length = i + 1 := by simp; omega
    rw [el, ← sortsN_append (l.take (i + 1)) (l.drop (i + 1)) (i + 1) (by omega), List.take_append_drop]
  rw [e, ← sortsN_take l l.length (i + 1) (by omega), List.getD_eq_getElem?_getD, List.getD_eq_getElem?_getD, List.getElem?_take_of_lt (by omega)]
  rfl
theorem sortF_ws {l : List Nd} {i : Int} (h : sortF l i ≠ 0) : ∃ t : Nat, i = t ∧ t < l.length ∧ WS l t := by
  by_cases c : i < 0 ∨ (l.length : Int) ≤ i
  · rw [sortF, if_pos c] at h; exact absurd rfl h
  · obtain ⟨t, rfl⟩ : ∃ t : Nat, i = t := ⟨i.toNat, by omega⟩
    have ht : t < l.length := by omega
    exact ⟨t, rfl, ht, by rw [sortF_nat ht] at h; exact h⟩

/-- What a node uses, directly or not. -/
inductive Dep (l : List Nd) (i : Nat) : Nat → Prop
  | refl : Dep l i i
  | kid {j q : Nat} {n : Nd} : Dep l i j → l[j]? = some n → (q : Int) ∈ n.kids → Dep l i q

theorem Dep.ws {l : List Nd} {i j : Nat} (h : Dep l i j) (hw : WS l i) : WS l j ∧ j ≤ i := by
  induction h with
  | refl => exact ⟨hw, Nat.le_refl _⟩
  | kid _ hn hq ih =>
    have := ws_kid ih.1 hn _ hq
    rw [Int.toNat_natCast] at this
    exact ⟨this.2, by have := this.1.2; omega⟩

noncomputable def depsF (l : List Nd) (i : Nat) : List Nat := (List.range (i + 1)).filter fun j => decide (Dep l i j)

def bls (b : List Bool) : List V := b.map .bool
@[simp] theorem bls_len (b : List Bool) : (bls b).length = b.length := by simp [bls]
@[simp] theorem bls_get (b : List Bool) (i : Nat) : (bls b)[i]? = (b[i]?).map .bool := by simp [bls]
@[simp] theorem bls_getE (b : List Bool) (i : Nat) (hi : i < (bls b).length) : (bls b)[i] = .bool (b[i]'(by simpa using hi)) := by simp [bls]
theorem bls_set (b : List Bool) (i : Nat) (x : Bool) : (bls b).set i (.bool x) = bls (b.set i x) := by simp [bls, List.map_set]
theorem bls_rep (n : Nat) : (List.replicate n [V.bool false]).flatten = bls (List.replicate n false) := by
  induction n with
  | zero => rfl
  | succ n ih => rw [List.replicate_succ, List.flatten_cons, ih, List.replicate_succ]; rfl

/-- A slice that grew over more than what is kept. -/
theorem Grow.frzB {e : TypeId} {esz n : Nat} {h h1 h2 : Heap} {v : V} {xs : List V} (g : Grow e esz h1 v h2 xs n) (hs : Sub h h1) (hc : xs.all V.isCell = true) : Frz h2 h v (.ps esz (elems esz n xs)) := by
  rcases g with ⟨rfl, rfl, rfl, rfl⟩ | ⟨b, hb, rfl, hl, rfl⟩
  · have : elems esz 0 ([] : List V) = [] := by simp [elems]
    rw [this]
    exact .nils esz
  · refine Frz.whole (upd_eq _ _ _) ?_ (frzL_refl _) (by omega) hc
    cases hx : h b with
    | none => rfl
    | some x => rw [hs b x hx] at hb; cases hb
where
  frzL_refl {h h' : Heap} : ∀ (xs : List V), FrzL h h' xs xs
  | [] => .nil
  | _ :: xs => .keep (frzL_refl xs)

section
variable {h : Heap} {l : List Nd}

theorem ac53 {i : Int} (hn : l.length * 8 ≤ 1000000000) (hll : ∀ x ∈ l, x.kids.length * 8 ≤ 140737488355328) : AC prog 53 [.ps 3 (l.map Nd.v), .int .i64 i] h fun v h' => v = .ps 1 (nats (if sortF l i = 0 then [] else depsF l i.toNat)) ∧ h' = h := by
  refine AC_cv qf1_ok mixed t53 fun R hR => ?_
  simp [c53]
  refine (ac55 (by omega) hll).mono ?_
  rintro v h' ⟨rfl, rfl⟩
  simp [r53_0, s53_0]
  refine Wc_intro (fun hc => ?_) (fun hc => ?_)
  · simp at hc
    refine hR _ _ _ _ (Grow.nil 3 1 h').view1 ⟨?_, rfl⟩
    rw [if_pos hc]; rfl
  simp at hc
  obtain ⟨t, rfl, ht, hw⟩ := sortF_ws hc
  rw [if_neg hc, Int.toNat_natCast] at hR
  have w1 : IntKind.i64.wrap ((t : Int) + 1) = (t : Int) + 1 := wrap_id (by omega) (by omega)
  have a1 : (0 : Int) ≤ (t : Int) + 1 := by omega
  have a2 : (t : Int) + 1 ≤ 140737488355328 := by omega
  have a3 : 1 * ((t : Int) + 1) ≤ 140737488355328 := by omega
  have a4 : ((t : Int) + 1).toNat = t + 1 := by omega
  simp [s53_1, w1, a1, a2, a4]
  intro b5 hb5
  have a5 : (t : Int) < (t : Int) + 1 := by omega
  obtain ⟨t1, ht1⟩ : ∃ t1, t1 = t + 1 := ⟨_, rfl⟩
  have a6 : ((t : Int) + 1) = (t1 : Int) := by omega
  have erep : List.replicate (t + 1) (V.bool false) = bls (List.replicate (t + 1) false) := by simp [bls]
  rw [erep]
  simp [r53_1, s53_2, a5, upd_eq, bls_set, l53_0]
  rw [upd_upd]
  -- the marks
  refine W_loop' (fun mm tm h1 => ∃ (m : Nat) (bs : List Bool), mm = m ∧ m ≤ t + 1 ∧ tm = mk [(0, .ps 3 (l.map Nd.v)), (1, .int .i64 (t : Nat)), (5, .sl 1 b5 0 (t + 1) none), (6, .int .i64 ((m : Int) - 1))] ∧ h1 = upd h' b5 (.cells 4 1 (bls bs)) ∧ bs.length = t + 1 ∧ bs[t]? = some true ∧
      (∀ s : Nat, bs[s]? = some true → Dep l t s) ∧ (∀ (s : Nat) (n : Nd) (q : Nat), m ≤ s → bs[s]? = some true → l[s]? = some n → (q : Int) ∈ n.kids → bs[q]? = some true))
    (t + 1) ⟨t + 1, (List.replicate (t + 1) false).set t true, rfl, Nat.le_refl _, by simp, rfl, by simp, by simp, fun s hs => ?_, fun s n q hs hst => ?_⟩ ?_
  · have : s = t := by
      by_cases e : s = t
      · exact e
      · rw [List.getElem?_set_ne (by omega), List.getElem?_replicate] at hs
        split at hs <;> simp at hs
    subst this; exact .refl
  · have := (List.getElem?_eq_some_iff.1 hst).1
    simp at this
    omega
  rintro J hJ mm _ _ ⟨_, bs, rfl, hm, rfl, rfl, hbl, hbt, hA, hC⟩
  simp [b53_0]
  refine Wc_intro (fun hc2 => ?_) (fun hc2 => ?_)
  · simp at hc2
    obtain ⟨j, hj⟩ : ∃ j, mm = j + 1 := ⟨mm - 1, by omega⟩
    subst hj
    have hjl : j < l.length := by omega
    have w2 : IntKind.i64.wrap ((j : Int) - 1) = (j : Int) - 1 := wrap_id (by omega) (by omega)
    obtain ⟨n, hn'⟩ : ∃ n, l[j]? = some n := ⟨_, List.getElem?_eq_getElem hjl⟩
    have hnl := hll n (List.mem_of_getElem? hn')
    obtain ⟨mark, hmark⟩ : ∃ b, bs[j]? = some b := ⟨_, List.getElem?_eq_getElem (by omega)⟩
    simp [s53_3, l53_1]
    refine W_loop' (fun mm tm h1 => ∃ (k : Nat) (cs : List Bool), mm = n.kids.length - k ∧ k ≤ n.kids.length ∧ tm = mk [(0, .ps 3 (l.map Nd.v)), (1, .int .i64 (t : Nat)), (5, .sl 1 b5 0 (t + 1) none), (6, .int .i64 (j : Nat)), (7, .int .i64 (k : Nat))] ∧ h1 = upd h' b5 (.cells 4 1 (bls cs)) ∧ cs.length = t + 1 ∧
        (∀ s : Nat, bs[s]? = some true → cs[s]? = some true) ∧ (∀ s : Nat, j ≤ s → cs[s]? = bs[s]?) ∧ (∀ s : Nat, cs[s]? = some true → Dep l t s) ∧ (k = 0 ∨ mark = true) ∧ ∀ (p q : Nat), p < k → n.kids[p]? = some (q : Int) → cs[q]? = some true)
      n.kids.length ⟨0, bs, rfl, by omega, rfl, rfl, hbl, fun s hs => hs, fun s _ => rfl, hA, .inl rfl, fun p q hp => by omega⟩ ?_
    rintro J2 hJ2 mm _ _ ⟨k, cs, rfl, hk, rfl, rfl, hcl, hsub, hsame, hA2, hmk, hK⟩
    have hcj : cs[j]? = some mark := by rw [hsame j (Nat.le_refl _)]; exact hmark
    have hjt : j < t + 1 := by omega
    have hjt' : (j : Int) < (t : Int) + 1 := by omega
    simp [b53_1, hn', Nd.v, hjt', upd_eq, hcj]
    refine Wc_intro (fun hc3 => ?_) (fun hc3 => ?_)
    · simp at hc3
      obtain ⟨hkl, hmt⟩ := hc3
      have hd := hA j (by rw [hmark, hmt])
      have hkq := ws_kid (hd.ws hw).1 hn' n.kids[k] (List.getElem_mem hkl)
      obtain ⟨q, hq⟩ : ∃ q : Nat, n.kids[k] = q := ⟨_, (Int.toNat_of_nonneg hkq.1.1).symm⟩
      have hqj : q < j := by omega
      have hqt : (q : Int) < (t : Int) + 1 := by omega
      have w3 : IntKind.i64.wrap ((k : Int) + 1) = (k : Int) + 1 := wrap_id (by omega) (by omega)
      have hqc : q + 1 ≤ cs.length := by omega
      simp [s53_4, hn', Nd.v, hkl, hq, hqt, upd_eq, bls_set, w3, hqc]
      rw [upd_upd]
      refine ⟨n.kids.length - (k + 1), by omega, hJ2 _ _ _ ⟨k + 1, cs.set q true, rfl, by omega, by simp, rfl, by simp [hcl], fun s hs => ?_, fun s hs => ?_, fun s hs => ?_, .inr hmt, fun p q' hp hpq => ?_⟩⟩
      · by_cases e : q = s
        · subst e; rw [List.getElem?_set_self (by omega)]
        · rw [List.getElem?_set_ne e]; exact hsub s hs
      · rw [List.getElem?_set_ne (by omega)]; exact hsame s hs
      · by_cases e : q = s
        · subst e; exact .kid hd hn' (by rw [← hq]; exact List.getElem_mem hkl)
        · rw [List.getElem?_set_ne e] at hs; exact hA2 s hs
      · by_cases e : q = q'
        · subst e; rw [List.getElem?_set_self (by omega)]
        · rw [List.getElem?_set_ne e]
          rcases Nat.lt_or_ge p k with c1 | c1
          · exact hK p q' c1 hpq
          · obtain rfl : p = k := by omega
            rw [List.getElem?_eq_getElem hkl, hq] at hpq
            exact absurd (by simp at hpq; omega) e
    · simp [s53_5, w2]
      refine ⟨j, by omega, hJ _ _ _ ⟨j, cs, rfl, by omega, rfl, rfl, hcl, by rw [hsame t (by omega)]; exact hbt, hA2, fun s n' q hs hst hn2 hq => ?_⟩⟩
      rcases Nat.lt_or_ge j s with c1 | c1
      · refine hsub q (hC s n' q c1 ?_ hn2 hq)
        rw [← hsame s (by omega)]; exact hst
      · obtain rfl : s = j := by omega
        rw [hn'] at hn2; injection hn2 with hn2; subst hn2
        rw [hcj] at hst
        injection hst with hst
        obtain ⟨p, hp⟩ := List.getElem?_of_mem hq
        have hpl := (List.getElem?_eq_some_iff.1 hp).1
        refine hK p q ?_ hp
        simp [hst] at hc3
        omega
  · simp at hc2
    obtain rfl : mm = 0 := by omega
    have hin : ∀ s : Nat, bs[s]? = some true ↔ Dep l t s := by
      intro s
      refine ⟨hA s, fun hd => ?_⟩
      induction hd with
      | refl => exact hbt
      | kid _ hn2 hq ih => exact hC _ _ _ (Nat.zero_le _) ih hn2 hq
    clear hJ J hA hC hm
    simp [s53_6, l53_2]
    refine W_loop' (fun mm tm h2 => ∃ (i : Nat) (v : V), mm = t + 1 - i ∧ i ≤ t + 1 ∧ tm = mk [(1, .int .i64 (t : Nat)), (5, .sl 1 b5 0 (t + 1) none), (8, v), (9, .int .i64 (i : Nat))] ∧ Grow 3 1 (upd h' b5 (.cells 4 1 (bls bs))) v h2 (nats ((List.range i).filter fun j => decide (Dep l t j))) ((List.range i).filter fun j => decide (Dep l t j)).length)
      (t + 1) ⟨0, .nils, rfl, by omega, rfl, .nil _ _ _⟩ ?_
    rintro J hJ mm _ h2 ⟨i, v, rfl, hi, rfl, g⟩
    simp [b53_2]
    refine Wc_intro (fun hc3 => ?_) (fun hc3 => ?_)
    · simp at hc3
      have hit : (i : Int) < (t : Int) + 1 := by omega
      have w3 : IntKind.i64.wrap ((i : Int) + 1) = (i : Int) + 1 := wrap_id (by omega) (by omega)
      have hb2 := g.sub _ _ (upd_eq _ _ _)
      obtain ⟨mark, hmark⟩ : ∃ b, bs[i]? = some b := ⟨_, List.getElem?_eq_getElem (by omega)⟩
      have hfl : ((List.range i).filter fun j => decide (Dep l t j)).length ≤ i := Nat.le_trans (List.length_filter_le _ _) (by simp)
      have hdm : decide (Dep l t i) = mark := by
        have := hin i
        rw [hmark] at this
        cases mark with
        | true => simpa using this.1 rfl
        | false => simp; intro hd; have := this.2 hd; simp at this
      simp [s53_7, hit, hb2, hmark]
      refine Wc_intro (fun hc4 => ?_) (fun hc4 => ?_)
      · subst hc4
        simp [k53_0, elems]
        refine g.app1 (C := AC prog) rfl (by omega) (by omega) fun v' h3 g' => ?_
        simp [r53_2, s53_8, w3]
        refine ⟨t + 1 - (i + 1), by omega, hJ _ _ _ ⟨i + 1, v', rfl, by omega, by simp, ?_⟩⟩
        rw [List.range_succ, List.filter_append, List.filter_cons, if_pos hdm, List.filter_nil, nats_append, List.length_append]
        exact g'
      · subst hc4
        simp [s53_8, w3]
        refine ⟨t + 1 - (i + 1), by omega, hJ _ _ _ ⟨i + 1, v, rfl, by omega, by simp, ?_⟩⟩
        rw [List.range_succ, List.filter_append, List.filter_cons, if_neg (by rw [hdm]; simp), List.filter_nil, List.append_nil]
        exact g
    · simp at hc3
      obtain rfl : i = t + 1 := by omega
      simp [s53_9]
      refine hR _ _ (.ps 1 (nats (depsF l t))) h' ?_ ⟨rfl, rfl⟩
      have := g.frzB (h := h') (sub_upd hb5 _) (nats_isCell _)
      have e : elems 1 ((List.range (t + 1)).filter fun j => decide (Dep l t j)).length (nats ((List.range (t + 1)).filter fun j => decide (Dep l t j))) = nats (depsF l t) := by
        simp [elems, depsF]
        rw [List.take_of_length_le (by simp)]
      rw [e] at this
      exact View.frz ((sub_upd hb5 _).trans g.sub) this
end
end Go.Abs

/- What Value of the reference returns. -/
namespace Go.Abs
open Go.Proofs.Try (prog)
open Classical

/-- The value of a node whose operands have values, or none where it has none. -/
def stepV (args : List Int) (out : List Int) (n : Nd) : Option Int :=
  if n.op = 1 then some n.imm
  else if n.op = 2 ∧ n.imm < args.length then some (args.getD n.imm.toNat 0)
  else if 4 ≤ n.op ∧ n.op ≤ 19 then some (binF n.op (out.getD (n.kids.getD 0 0).toNat 0) (out.getD (n.kids.getD 1 0).toNat 0))
  else if n.op = 20 ∨ n.op = 21 then some (unF n.op (out.getD (n.kids.getD 0 0).toNat 0))
  else if n.op = 22 then some (if out.getD (n.kids.getD 0 0).toNat 0 ≠ 0 then out.getD (n.kids.getD 1 0).toNat 0 else out.getD (n.kids.getD 2 0).toNat 0)
  else none
def valsN (l : List Nd) (args : List Int) : Nat → List Int
  | 0 => []
  | i + 1 => valsN l args i ++ [match l[i]? with
    | some n => (stepV args (valsN l args i) n).getD 0
    | none => 0]
/-- Has the node a value of its own? -/
def HasV (l : List Nd) (args : List Int) (j : Nat) : Prop := ∃ n, l[j]? = some n ∧ (stepV args (valsN l args j) n).isSome = true
noncomputable def valueF (l : List Nd) (args : List Int) (i : Int) : Int × Bool :=
  if sortF l i = 1 ∧ ∀ j, Dep l i.toNat j → HasV l args j then ((valsN l args l.length).getD i.toNat 0, true) else (0, false)

@[simp] theorem valsN_len (l : List Nd) (args : List Int) : ∀ i, (valsN l args i).length = i
  | 0 => rfl
  | i + 1 => by simp [valsN, valsN_len l args i]

theorem valsN_get (l : List Nd) (args : List Int) {i : Nat} {n : Nd} (hn : l[i]? = some n) : ∀ {m : Nat}, i < m → (valsN l args m)[i]? = some ((stepV args (valsN l args i) n).getD 0)
  | m + 1, hm => by
    rcases Nat.lt_or_ge i m with c | c
    · simp only [valsN]
      rw [List.getElem?_append_left (by simpa using c)]
      exact valsN_get l args hn c
    · obtain rfl : i = m := by omega
      simp only [valsN]
      rw [List.getElem?_append_right (by simp)]
      simp [hn]

/-- The values do not change when more are told. -/
theorem valsN_getD {l : List Nd} {args : List Int} {i m m' : Nat} (h : i < m) (h' : i < m') : (valsN l args m).getD i 0 = (valsN l args m').getD i 0 := by
  cases hn : l[i]? with
  | some n => rw [List.getD_eq_getElem?_getD, List.getD_eq_getElem?_getD, valsN_get l args hn h, valsN_get l args hn h']
  | none =>
    have key : ∀ m, i < m → (valsN l args m)[i]? = some 0 := by
      intro m
      induction m with
      | zero => intro h; omega
      | succ m ih =>
        intro hm
        rcases Nat.lt_or_ge i m with c | c
        · simp only [valsN]
          rw [List.getElem?_append_left (by simpa using c)]
          exact ih c
        · obtain rfl : i = m := by omega
          simp only [valsN]
          rw [List.getElem?_append_right (by simp)]
          simp [hn]
    rw [List.getD_eq_getElem?_getD, List.getD_eq_getElem?_getD, key m h, key m' h']

theorem stepV_congr {args out out' : List Int} {n : Nd} (h : ∀ q ∈ n.kids, out.getD q.toNat 0 = out'.getD q.toNat 0) (hl : ∀ (t : Nat), (n.op = 22 ∧ t < 3 ∨ (n.op = 20 ∨ n.op = 21) ∧ t < 1 ∨ (4 ≤ n.op ∧ n.op ≤ 19) ∧ t < 2) → t < n.kids.length) : stepV args out n = stepV args out' n := by
  have hk : ∀ t : Nat, t < n.kids.length → out.getD (n.kids.getD t 0).toNat 0 = out'.getD (n.kids.getD t 0).toNat 0 := by
    intro t ht
    have : n.kids.getD t 0 = n.kids[t] := by rw [List.getD_eq_getElem?_getD, List.getElem?_eq_getElem ht]; rfl
    rw [this]
    exact h _ (List.getElem_mem ht)
  unfold stepV
  split
  · rfl
  split
  · rfl
  split
  · rename_i c
    rw [hk 0 (hl 0 (by omega)), hk 1 (hl 1 (by omega))]
  split
  · rename_i c
    rw [hk 0 (hl 0 (by omega))]
  split
  · rename_i c
    rw [hk 0 (hl 0 (by omega)), hk 1 (hl 1 (by omega)), hk 2 (hl 2 (by omega))]
  · rfl

/-- What a well-sorted node is made of. -/
theorem ws_shape {l : List Nd} {j : Nat} (h : WS l j) {n : Nd} (hn : l[j]? = some n) : (arity n.op).2 = true ∧ (0 ≤ (arity n.op).1 → (n.kids.length : Int) = (arity n.op).1) ∧ validImm n.op n.imm = true := by
  obtain ⟨n', hn', hs⟩ := ws_get h
  rw [hn] at hn'; injection hn' with hn'; subst hn'
  obtain ⟨k, hk, hns⟩ := sortAt_ne hs
  unfold nodeSortF at hns
  by_cases hb : (arity n.op).2 = false ∨ (0 ≤ (arity n.op).1 ∧ (n.kids.length : Int) ≠ (arity n.op).1) ∨ validImm n.op n.imm = false
  · rw [if_pos hb] at hns; exact absurd rfl hns
  · simp only [not_or, not_and, Bool.not_eq_false] at hb
    exact ⟨hb.1, fun h => by have := hb.2.1 h; omega, hb.2.2⟩

theorem ws_kids {l : List Nd} {j : Nat} (h : WS l j) {n : Nd} (hn : l[j]? = some n) : (n.op = 22 → n.kids.length = 3) ∧ (n.op = 20 ∨ n.op = 21 → n.kids.length = 1) ∧ (4 ≤ n.op ∧ n.op ≤ 19 → n.kids.length = 2) ∧ (n.op = 2 → 0 ≤ n.imm ∧ n.imm ≤ 5) := by
  obtain ⟨h1, h2, h3⟩ := ws_shape h hn
  refine ⟨fun e => ?_, fun e => ?_, fun e => ?_, fun e => ?_⟩
  · simp only [e, arity] at h2; simp at h2; omega
  · rcases e with e | e <;> simp only [e, arity] at h2 <;> simp at h2 <;> omega
  · have ha : arity n.op = (2, true) := by
      unfold arity
      repeat' split
      all_goals first | rfl | (exfalso; omega)
    rw [ha] at h2; simp at h2; omega
  · simp [e, validImm, maxImm] at h3; omega

theorem deps_idx {l : List Nd} {i : Nat} {s s' : Nat} {j q : Nat} (h1 : (depsF l i)[s]? = some j) (h2 : (depsF l i)[s']? = some q) (h : q < j) : s' < s := by
  have hp : (depsF l i).Pairwise (· < ·) := List.Pairwise.filter _ List.pairwise_lt_range
  obtain ⟨k1, e1⟩ := List.getElem?_eq_some_iff.1 h1
  obtain ⟨k2, e2⟩ := List.getElem?_eq_some_iff.1 h2
  rcases Nat.lt_trichotomy s' s with c | c | c
  · exact c
  · subst c; omega
  · have := List.pairwise_iff_getElem.1 hp s s' k1 k2 c
    omega

section
variable {h : Heap} {l : List Nd} {args : List Int} {t : Nat}

/-- What is known while the values are filled in. -/
structure S29 (l : List Nd) (args : List Int) (t : Nat) (h : Heap) (b9 : Nat) (s : Nat) (out : List Int) (h2 : Heap) : Prop where
  sub : Sub h h2
  n9 : h b9 = none
  b : h2 b9 = some (.cells 2 1 (ints out))
  len : out.length = t + 1
  done : ∀ (s' q : Nat), s' < s → (depsF l t)[s']? = some q → HasV l args q ∧ out[q]? = some ((valsN l args l.length).getD q 0)

theorem S29.step {h h2 : Heap} {b9 s j : Nat} {out : List Int} {x : Int} (k : S29 l args t h b9 s out h2) (hj : (depsF l t)[s]? = some j) (hx : ∃ n, l[j]? = some n ∧ stepV args (valsN l args j) n = some x) (h3 : Heap) (hs : Sub h h3) (hb : h3 b9 = some (.cells 2 1 (ints (out.set j x)))) : S29 l args t h b9 (s + 1) (out.set j x) h3 := by
  obtain ⟨n, hn, he⟩ := hx
  have hjl := (List.getElem?_eq_some_iff.1 hn).1
  refine ⟨hs, k.n9, hb, by simpa using k.len, fun s' q hs' hq => ?_⟩
  by_cases e : q = j
  · subst e
    refine ⟨⟨n, hn, by rw [he]; rfl⟩, ?_⟩
    have hjt : q < t + 1 := by
      have := List.mem_of_getElem? hj
      simp [depsF] at this; omega
    rw [List.getElem?_set_self (by rw [k.len]; exact hjt), List.getD_eq_getElem?_getD, valsN_get l args hn hjl, he]
    rfl
  · rcases Nat.lt_or_ge s' s with c | c
    · rw [List.getElem?_set_ne (by omega)]
      exact k.done s' q c hq
    · obtain rfl : s' = s := by omega
      rw [hj] at hq; injection hq with hq; exact absurd hq.symm e

noncomputable abbrev M29 (l : List Nd) (args : List Int) (t b9 s : Nat) : List (Nat × V) := [(0, .ps 3 (l.map Nd.v)), (1, .int .i64 (t : Nat)), (2, .ps 1 (ints args)), (8, .ps 1 (nats (depsF l t))), (9, .sl 1 b9 0 (t + 1) none), (10, .int .i64 (s : Nat))]

/-- One node. -/
theorem body29 {Q : AExit → (Nat → V) → Heap → Prop} {h h2 : Heap} {b9 b11 s j : Nat} {n : Nd} {out : List Int} (k : S29 l args t h b9 s out h2) (hw : WS l t) (hj : (depsF l t)[s]? = some j) (hn : l[j]? = some n) (hb : h2 b11 = none) (hal : args.length ≤ 140737488355328)
    (next : ∀ out' h3, S29 l args t h b9 (s + 1) out' h3 → Q .normal (mk (M29 l args t b9 s)) h3)
    (stop : ¬ HasV l args j → ∀ tm h3, tm 6 = .int .i64 0 → tm 7 = .bool false → Sub h h3 → Q .ret tm h3) :
    W qf1 (AC prog) s29_5 Q (mk [(0, .ps 3 (l.map Nd.v)), (1, .int .i64 (t : Nat)), (2, .ps 1 (ints args)), (8, .ps 1 (nats (depsF l t))), (9, .sl 1 b9 0 (t + 1) none), (10, .int .i64 (s : Nat)), (11, .ptr b11 0)]) (upd h2 b11 (.cells 24 3 n.v.cells)) := by
  have hd : Dep l t j := by
    have := List.mem_of_getElem? hj
    simp [depsF] at this; exact this.2
  have hwj := (hd.ws hw).1
  have hjt := (hd.ws hw).2
  obtain ⟨k22, k1, k2, kp⟩ := ws_kids hwj hn
  have hkid := ws_kid hwj hn
  have n9 : b9 ≠ b11 := by rintro rfl; rw [k.b] at hb; cases hb
  -- the operands' values
  have hv : ∀ (u : Nat) (hu : u < n.kids.length), ∃ q : Nat, n.kids[u] = q ∧ q < j ∧ out[q]? = some ((valsN l args j).getD q 0) := by
    intro u hu
    have h1 := hkid n.kids[u] (List.getElem_mem hu)
    obtain ⟨q, hq⟩ : ∃ q : Nat, n.kids[u] = q := ⟨_, (Int.toNat_of_nonneg h1.1.1).symm⟩
    have hqj : q < j := by omega
    have hdq : Dep l t q := .kid hd hn (by rw [← hq]; exact List.getElem_mem hu)
    obtain ⟨s', hs'⟩ := List.getElem?_of_mem (show q ∈ depsF l t by simp [depsF]; exact ⟨by have := (hdq.ws hw).2; omega, hdq⟩)
    have := (k.done s' q (deps_idx hj hs' hqj) hs').2
    refine ⟨q, hq, hqj, ?_⟩
    rw [this, valsN_getD (m := l.length) (m' := j) (by have := (List.getElem?_eq_some_iff.1 hn).1; omega) hqj]
  have hjo : j < out.length := by rw [k.len]; omega
  have hjt' : (j : Int) < (t : Int) + 1 := by omega
  have hsd : s < (depsF l t).length := (List.getElem?_eq_some_iff.1 hj).1
  have hjj : (depsF l t)[s] = j := by
    rw [List.getElem?_eq_getElem hsd] at hj; injection hj
  have h9 : upd h2 b11 (.cells 24 3 n.v.cells) b9 = some (.cells 2 1 (ints out)) := by rw [upd_ne _ _ _ _ n9]; exact k.b
  have hs3 : Sub h (upd h2 b11 (.cells 24 3 n.v.cells)) := k.sub.trans (sub_upd hb _)
  have h11 : upd h2 b11 (.cells 24 3 n.v.cells) b11 = some (.cells 24 3 n.v.cells) := upd_eq _ _ _
  generalize upd h2 b11 (.cells 24 3 n.v.cells) = H3 at h9 hs3 h11 ⊢
  simp only [Nd.v, cells_agg] at h11
  have store : ∀ x, stepV args (valsN l args j) n = some x → Q .normal (mk (M29 l args t b9 s)) (upd H3 b9 (.cells 2 1 (ints (out.set j x)))) := by
    intro x hx
    exact next _ _ (k.step hj ⟨n, hn, hx⟩ _ (sub_upd_out hs3 k.n9) (upd_eq _ _ _))
  have hjo1 : j + 1 ≤ out.length := hjo
  have gd : ∀ (u q : Nat) (hu : u < n.kids.length), n.kids[u] = q → (n.kids.getD u 0).toNat = q := by
    intro u q hu hq
    rw [List.getD_eq_getElem?_getD, List.getElem?_eq_getElem hu, Option.getD_some, hq, Int.toNat_natCast]
  simp [s29_5]
  by_cases e1 : n.op = 1
  · simp [e1, hj, hjt', h9, h11, ints_set, hjo1]
    exact store _ (by simp [stepV, e1])
  have d1 : (n.op == 1) = false := by simpa using e1
  simp [h11, d1, k29_1]
  by_cases e2 : n.op = 2 ∧ n.imm < args.length
  · obtain ⟨e2, e3⟩ := e2
    obtain ⟨p, hp⟩ : ∃ p : Nat, n.imm = p := ⟨_, (Int.toNat_of_nonneg (kp e2).1).symm⟩
    have hpl : p < args.length := by omega
    simp [e2, e3, hp, hpl, hj, hjt', h9, h11, ints_set, hjo1]
    exact store _ (by simp [stepV, e2, e3, hp, hpl, List.getD_eq_getElem?_getD])
  have d2 : (n.op == 2 && decide (n.imm < args.length)) = false := by
    rw [Bool.eq_false_iff]; simpa using e2
  simp [h11, d2, k29_2]
  by_cases e3 : 4 ≤ n.op ∧ n.op ≤ 19
  · have hl2 := k2 e3
    have u0 : 0 < n.kids.length := by omega
    have u1 : 1 < n.kids.length := by omega
    obtain ⟨q0, hq0, hqj0, ho0⟩ := hv 0 u0
    obtain ⟨q1, hq1, hqj1, ho1⟩ := hv 1 u1
    have g0 := gd 0 q0 u0 hq0
    have g1 := gd 1 q1 u1 hq1
    have a0 : (q0 : Int) < (t : Int) + 1 := by omega
    have a1 : (q1 : Int) < (t : Int) + 1 := by omega
    simp [e3, u0, u1, hq0, hq1, a0, a1, ho0, ho1, hj, hjt', h9, h11, ints_set, hjo1]
    refine store _ ?_
    have f1 : ¬ (n.op = 2 ∧ n.imm < args.length) := e2
    simp only [stepV, if_neg e1, if_neg f1, if_pos e3]
    rw [g0, g1]
    simp only [List.getD_eq_getElem?_getD]
  have d3 : (decide (4 ≤ n.op) && decide (n.op ≤ 19)) = false := by
    rw [Bool.eq_false_iff]; simpa using e3
  simp [h11, d3, k29_3]
  by_cases e4 : n.op = 20 ∨ n.op = 21
  · have hl2 := k1 e4
    have u0 : 0 < n.kids.length := by omega
    obtain ⟨q0, hq0, hqj0, ho0⟩ := hv 0 u0
    have g0 := gd 0 q0 u0 hq0
    have a0 : (q0 : Int) < (t : Int) + 1 := by omega
    have d4 : (n.op == 20 || n.op == 21) = true := by simpa using e4
    simp [d4, u0, hq0, a0, ho0, hj, hjt', h9, h11, ints_set, hjo1]
    refine store _ ?_
    simp only [stepV, if_neg e1, if_neg e2, if_neg e3, if_pos e4]
    rw [g0]
    simp only [List.getD_eq_getElem?_getD]
  have d4 : (n.op == 20 || n.op == 21) = false := by
    rw [Bool.eq_false_iff]; simpa using e4
  simp [h11, d4, k29_4]
  by_cases e5 : n.op = 22
  · have hl3 := k22 e5
    have u0 : 0 < n.kids.length := by omega
    have u1 : 1 < n.kids.length := by omega
    have u2 : 2 < n.kids.length := by omega
    obtain ⟨q0, hq0, hqj0, ho0⟩ := hv 0 u0
    obtain ⟨q1, hq1, hqj1, ho1⟩ := hv 1 u1
    obtain ⟨q2, hq2, hqj2, ho2⟩ := hv 2 u2
    have g0 := gd 0 q0 u0 hq0
    have g1 := gd 1 q1 u1 hq1
    have g2 := gd 2 q2 u2 hq2
    have a0 : (q0 : Int) < (t : Int) + 1 := by omega
    have a1 : (q1 : Int) < (t : Int) + 1 := by omega
    have a2 : (q2 : Int) < (t : Int) + 1 := by omega
    have hst : stepV args (valsN l args j) n = some (if (valsN l args j).getD q0 0 ≠ 0 then (valsN l args j).getD q1 0 else (valsN l args j).getD q2 0) := by
      simp only [stepV, if_neg e1, if_neg e2, if_neg e3, if_neg e4, if_pos e5, g0, g1, g2]
    have hst' := store _ hst
    simp [e5, k29_5, u0, hq0, a0, ho0, h9, h11]
    refine Wc_intro (fun hc => ?_) (fun hc => ?_)
    · simp at hc
      simp [u1, hq1, a1, ho1, hj, hjt', h9, h11, ints_set, hjo1]
      rw [if_pos (by rw [List.getD_eq_getElem?_getD]; exact hc)] at hst'
      simpa [List.getD_eq_getElem?_getD] using hst'
    · simp at hc
      simp [u2, hq2, a2, ho2, hj, hjt', h9, h11, ints_set, hjo1]
      rw [if_neg (by rw [List.getD_eq_getElem?_getD]; simpa using hc)] at hst'
      simpa [List.getD_eq_getElem?_getD] using hst'
  · have d5 : (n.op == 22) = false := by simpa using e5
    simp [d5, k29_6]
    refine stop (fun ⟨n', hn', hs⟩ => ?_) _ _ (by simp) (by simp) hs3
    rw [hn] at hn'; injection hn' with hn'; subst hn'
    simp only [stepV, if_neg e1, if_neg e2, if_neg e3, if_neg e4, if_neg e5] at hs
    cases hs

theorem ac29 {i : Int} (hn : l.length * 8 ≤ 1000000000) (hll : ∀ x ∈ l, x.kids.length * 8 ≤ 140737488355328) (hal : args.length ≤ 140737488355328) : AC prog 29 [.ps 3 (l.map Nd.v), .int .i64 i, .ps 1 (ints args)] h fun v h' => v = .tuple [.int .i64 (valueF l args i).1, .bool (valueF l args i).2] ∧ h' = h := by
  refine AC_c' qf1_ok mixed t29 fun R hR => ?_
  have fin : ∀ (a : Int) (b : Bool) (h2 : Heap), Sub h h2 → valueF l args i = (a, b) → R (.tuple [.int .i64 a, .bool b]) h2 := fun a b h2 hs he => hR _ _ _ hs ⟨by rw [he], rfl⟩
  simp [c29]
  refine (ac55 (by omega) hll).mono ?_
  rintro v h' ⟨rfl, rfl⟩
  simp [r29_0, s29_0]
  refine Wc_intro (fun hc => ?_) (fun hc => ?_)
  · simp at hc
    simp [k29_0]
    exact fin _ _ _ (Sub.refl _) (by rw [valueF, if_neg (fun h => hc h.1)])
  simp at hc
  obtain ⟨t, rfl, ht, hw⟩ := sortF_ws (l := l) (i := i) (by rw [hc]; simp)
  simp [s29_1]
  refine (ac53 hn hll).mono ?_
  rintro v h' ⟨rfl, rfl⟩
  have w1 : IntKind.i64.wrap ((t : Int) + 1) = (t : Int) + 1 := wrap_id (by omega) (by omega)
  have a1 : (0 : Int) ≤ (t : Int) + 1 := by omega
  have a2 : (t : Int) + 1 ≤ 140737488355328 := by omega
  have a3 : 8 * ((t : Int) + 1) ≤ 140737488355328 := by omega
  have a4 : ((t : Int) + 1).toNat = t + 1 := by omega
  have hne : ¬ sortF l (t : Int) = 0 := by rw [hc]; simp
  simp [r29_1, s29_2, w1, a1, a2, a3, a4, hne]
  intro b9 hb9
  simp [r29_2, s29_3, l29_0]
  have erep : List.replicate (t + 1) (V.int .i64 0) = ints (List.replicate (t + 1) 0) := by simp [ints]
  rw [erep]
  refine W_loop' (fun mm tm h2 => ∃ (s : Nat) (out : List Int), mm = (depsF l t).length - s ∧ s ≤ (depsF l t).length ∧ tm = mk (M29 l args t b9 s) ∧ S29 l args t h' b9 s out h2) (depsF l t).length
    ⟨0, _, rfl, by omega, rfl, ⟨sub_upd hb9 _, hb9, upd_eq _ _ _, by simp, fun s' q hs => by omega⟩⟩ ?_
  rintro J hJ mm _ h2 ⟨s, out, rfl, hs, rfl, k⟩
  simp [b29_0]
  refine Wc_intro (fun hc2 => ?_) (fun hc2 => ?_)
  · simp at hc2
    obtain ⟨j, hj⟩ : ∃ j, (depsF l t)[s]? = some j := ⟨_, List.getElem?_eq_getElem hc2⟩
    have hdj : Dep l t j := by
      have := List.mem_of_getElem? hj
      simp [depsF] at this; exact this.2
    obtain ⟨n, hn', _⟩ := ws_get (hdj.ws hw).1
    have hdl : (depsF l t).length ≤ t + 1 := Nat.le_trans (List.length_filter_le _ _) (by simp)
    have w3 : IntKind.i64.wrap ((s : Int) + 1) = (s : Int) + 1 := wrap_id (by omega) (by omega)
    simp [s29_4, hj, hn', Nd.v]
    intro b11 hb11
    simp [r29_3, upd_eq]
    rw [upd_upd]
    refine body29 k hw hj hn' hb11 hal (fun out' h3 k' => ?_) (fun hno tm h3 h6 h7 hs3 => ?_)
    · simp [s29_6, w3]
      exact ⟨(depsF l t).length - (s + 1), by omega, hJ _ _ _ ⟨s + 1, out', rfl, by omega, by simp [M29], k'⟩⟩
    · simp [h6, h7]
      refine fin _ _ _ hs3 ?_
      rw [valueF, if_neg]
      rintro ⟨_, hall⟩
      rw [Int.toNat_natCast] at hall
      exact hno (hall j hdj)
  · simp at hc2
    obtain rfl : s = (depsF l t).length := by omega
    have hall : ∀ j, Dep l t j → HasV l args j ∧ out[j]? = some ((valsN l args l.length).getD j 0) := by
      intro j hd
      obtain ⟨s', hs'⟩ := List.getElem?_of_mem (show j ∈ depsF l t by simp [depsF]; exact ⟨by have := (hd.ws hw).2; omega, hd⟩)
      exact k.done s' j (List.getElem?_eq_some_iff.1 hs').1 hs'
    have htt : (t : Int) < (t : Int) + 1 := by omega
    simp [s29_7, htt, k.b, (hall t .refl).2]
    refine fin _ _ _ k.sub ?_
    rw [valueF, if_pos ⟨hc, fun j hj => (hall j (by rwa [Int.toNat_natCast] at hj)).1⟩, Int.toNat_natCast]
    try simp
end
end Go.Abs
