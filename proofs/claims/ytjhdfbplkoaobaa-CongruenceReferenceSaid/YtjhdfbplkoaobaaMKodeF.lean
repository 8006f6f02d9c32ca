/- The code of the congruence laws, of Value and Dependencies. -/
import Derived.Test.YtjhdfbplkoaobaaMCalcC
import Derived.Test.YtjhdfbplkoaobaaProg
import Derived.KernelRfl
set_option linter.unusedVariables false
set_option linter.unusedSimpArgs false
namespace Go.Abs

/-- The rest of a region. -/
def r4_2 : CTree := (.asg 29 (.o1 (.un .not (.t 0)) (.t 28))
    .nil)

/-- The rest of a region. -/
def r4_1 : CTree := (.op (some 28) (.call 21 [(.t 0), (.t 1)]) [(.t 24), (.t 27)]
    r4_2)

/-- The rest of a region. -/
def r4_0 : CTree := (.op (some 27) (.call 23 [(.t 0), (.t 1)]) [(.t 13), (.t 1)]
    r4_1)

/-- The rest. -/
def s4_0 : ACode := (.cond (.t 29) (.seq (.cregion [12] (.asg 12 (.c (.bool false))
    .nil))
  .ret) .skip)

/-- The rest of a region. -/
def r4_6 : CTree := (.asg 39 (.o1 (.len (.t 0)) (.t 38))
    (.asg 40 (.c (.int .i64 0))
    .nil))

/-- The rest of a region. -/
def r4_5 : CTree := (.op (some 38) (.buildS 25 1 3 [.nils] [(0, (.t 0)), (1, (.t 1)), (2, (.t 2))]) [(.t 13), (.t 32), (.t 37)]
    r4_6)

/-- The rest of a region. -/
def r4_4 : CTree := (.op (some 37) (.call 25 [(.t 0), (.t 1), (.t 2)]) [(.t 34), (.t 4), (.t 5)]
    r4_5)

/-- The rest of a region. -/
def r4_3 : CTree := (.op (some 34) (.call 24 [(.t 0), (.c (.bool false))]) [(.t 2)]
    r4_4)

/-- The rest of a region. -/
def r4_7 : CTree := (.asg 16 (.t 47)
    .nil)

/-- The rest of a region. -/
def r4_10 : CTree := (.asg 55 (.o1 (.un .not (.t 0)) (.t 54))
    .nil)

/-- The rest of a region. -/
def r4_9 : CTree := (.op (some 54) (.call 21 [(.t 0), (.t 1)]) [(.t 50), (.t 53)]
    r4_10)

/-- The rest of a region. -/
def r4_8 : CTree := (.op (some 53) (.call 23 [(.t 0), (.t 1)]) [(.t 15), (.t 16)]
    r4_9)

/-- The rest. -/
def s4_5 : ACode := (.cond (.t 55) (.seq (.cregion [12] (.asg 12 (.c (.bool false))
    .nil))
  .ret) .skip)

/-- The rest. -/
def s4_4 : ACode := (.seq (.cregion [3, 38, 39, 40, 55] (.op (some 50) (.call 22 [(.t 0), (.t 1)]) [(.t 15), (.t 16)]
    r4_8))
  (.seq (.keep [3, 38, 39, 40, 55]) s4_5))

/-- The rest. -/
def s4_6 : ACode := (.cregion [3, 38, 39, 40] (.asg 40 (.o1 (.bin .add .num (.t 0) (.c (.int .i64 1))) (.t 40))
    .nil))

/-- The rest. -/
def s4_3 : ACode := (.seq (.block 1 (.seq (.cregion [3, 15, 38, 39, 40] (.asg 15 (.o1 (.load none (.t 0)) (.o2 (.idx 1 (.t 0) (.t 1)) (.t 38) (.t 40)))
    .nil))
  (.seq (.cregion [3, 15, 16, 38, 39, 40] (.op (some 47) (.call 26 [(.t 0), (.t 1)]) [(.t 3), (.o1 (.len (.t 0)) (.t 15))]
    r4_7))
  (.seq (.keep [3, 15, 16, 38, 39, 40]) s4_4))))
  (.seq (.keep [3, 38, 39, 40]) s4_6))

/-- A loop's body. -/
def b4_0 : ACode := (.seq (.cregion [3, 38, 39, 40, 41] (.asg 41 (.o2 (.bin .lss .num (.t 0) (.t 1)) (.t 40) (.t 39))
    .nil))
  (.seq (.cond (.t 41) .skip (.exit 0))
  (.seq (.keep [3, 38, 39, 40]) s4_3)))

/-- A loop. -/
def l4_0 : ACode := .block 0 (.loop (.after b4_0 [3, 38, 39, 40]))

/-- The rest. -/
def s4_2 : ACode := (.seq (.keep [3, 38, 39, 40]) l4_0)

/-- The rest of a region. -/
def r4_11 : CTree := (.asg 12 (.t 57)
    .nil)

/-- The rest. -/
def s4_7 : ACode := (.seq (.cregion [12] (.op (some 57) (.call 3 []) []
    r4_11))
  .ret)

/-- The rest. -/
def s4_1 : ACode := (.seq (.seq (.cregion [3, 38, 39, 40] (.op (some 32) (.call 24 [(.t 0), (.c (.bool false))]) [(.t 2)]
    r4_3))
  (.seq (.keep [3, 38, 39, 40]) s4_2))
  (.seq (.keep []) s4_7))

/-- The code. -/
def c4 : AFun := ⟨(.seq (.cregion [0, 1, 2, 3, 4, 5] .nil)
  (.seq (.cregion [1, 2, 3, 4, 5, 13] (.asg 13 (.o2 (.slS 3 (.t 0) none (some (.t 1)) none) (.t 0) (.o1 (.mn (.t 0) (.c (.int .i64 20))) (.o1 (.len (.t 0)) (.t 0))))
    .nil))
  (.seq (.seq (.cregion [2, 3, 4, 5, 13, 29] (.op (some 24) (.call 22 [(.t 0), (.t 1)]) [(.t 13), (.t 1)]
    r4_0))
  (.seq (.keep [2, 3, 4, 5, 13, 29]) s4_0))
  (.seq (.keep [2, 3, 4, 5, 13]) s4_1)))),
  [(.tmp 12)]⟩

theorem t4 : trFunC Go.Proofs.Try.prog (fun f => ([27, 28, 62, 64, 67, 68, 98, 125, 126, 158] : List Nat).contains f) [[0, 1, 2, 3, 4, 5], [1, 2, 3, 4, 5, 13], [2, 3, 4, 5, 13, 29], [12], [3, 38, 39, 40], [3, 38, 39, 40, 41], [3, 15, 38, 39, 40], [3, 15, 16, 38, 39, 40], [3, 38, 39, 40, 55], [12], [3, 38, 39, 40], [12]] 4 = some ⟨erase c4.code, c4.res⟩ := by kernel_rfl

/-- The rest of a region. -/
def r7_0 : CTree := (.asg 7 (.t 16)
    .nil)

/-- The rest of a region. -/
def r7_2 : CTree := (.asg 8 (.t 20)
    .nil)

/-- The rest of a region. -/
def r7_1 : CTree := (.op (some 20) (.call 22 [(.t 0), (.t 1)]) [(.t 7), (.t 19)]
    r7_2)

/-- The rest of a region. -/
def r7_4 : CTree := (.chk (.o1 (.ext 1 (.t 0)) (.t 46))
    (.asg 11 (.o1 (.ext 0 (.t 0)) (.t 46))
    (.asg 12 (.o1 (.ext 1 (.t 0)) (.t 46))
    .nil)))

/-- The rest of a region. -/
def r7_3 : CTree := (.op (some 46) (.call 29 [(.t 0), (.t 1), (.t 2)]) [(.t 7), (.t 10), (.t 45)]
    r7_4)

/-- The rest of a region. -/
def r7_6 : CTree := (.chk (.o1 (.ext 1 (.t 0)) (.t 58))
    (.asg 13 (.o1 (.ext 0 (.t 0)) (.t 58))
    (.asg 14 (.o1 (.ext 1 (.t 0)) (.t 58))
    .nil)))

/-- The rest of a region. -/
def r7_5 : CTree := (.op (some 58) (.call 29 [(.t 0), (.t 1), (.t 2)]) [(.t 7), (.t 54), (.t 57)]
    r7_6)

/-- The rest. -/
def s7_5 : ACode := (.seq (.cregion [7, 8, 9, 36, 37, 68] (.asg 68 (.or (.o2 (.bin .neq .bool (.t 0) (.t 1)) (.t 12) (.t 14)) (.o2 (.bin .neq .num (.t 0) (.t 1)) (.t 11) (.t 13)))
    .nil))
  (.cond (.t 68) (.seq (.cregion [6] (.asg 6 (.c (.bool false))
    .nil))
  .ret) .skip))

/-- The rest. -/
def s7_4 : ACode := (.seq (.cregion [7, 8, 9, 11, 12, 13, 14, 36, 37] (.asg 54 (.o1 (.load none (.t 0)) (.o2 (.idx 1 (.t 0) (.t 1)) (.t 8) (.t 10)))
    (.op (some 57) (.buildS 2 1 2 [(.int .i64 0)] [(0, (.t 0)), (1, (.t 1))]) [(.t 9), (.t 9)]
    r7_5)))
  (.seq (.keep [7, 8, 9, 11, 12, 13, 14, 36, 37]) s7_5))

/-- The rest. -/
def s7_6 : ACode := (.cregion [7, 8, 9, 36, 37] (.asg 37 (.o1 (.bin .add .num (.t 0) (.c (.int .i64 1))) (.t 37))
    .nil))

/-- The rest. -/
def s7_3 : ACode := (.seq (.block 1 (.seq (.cregion [7, 8, 9, 10, 36, 37] (.asg 10 (.t 37)
    .nil))
  (.seq (.cregion [7, 8, 9, 10, 11, 12, 36, 37] (.op (some 45) (.buildS 2 1 2 [(.int .i64 0)] [(0, (.t 0)), (1, (.t 1))]) [(.t 9), (.t 9)]
    r7_3))
  (.seq (.keep [7, 8, 9, 10, 11, 12, 36, 37]) s7_4))))
  (.seq (.keep [7, 8, 9, 36, 37]) s7_6))

/-- A loop's body. -/
def b7_0 : ACode := (.seq (.cregion [7, 8, 9, 36, 37, 38] (.asg 38 (.o2 (.bin .lss .num (.t 0) (.t 1)) (.t 37) (.t 36))
    .nil))
  (.seq (.cond (.t 38) .skip (.exit 0))
  (.seq (.keep [7, 8, 9, 36, 37]) s7_3)))

/-- A loop. -/
def l7_0 : ACode := .block 0 (.loop (.after b7_0 [7, 8, 9, 36, 37]))

/-- The rest of a region. -/
def r7_7 : CTree := (.asg 6 (.t 70)
    .nil)

/-- The rest. -/
def s7_7 : ACode := (.seq (.cregion [6] (.op (some 70) (.call 3 []) []
    r7_7))
  .ret)

/-- The rest. -/
def s7_2 : ACode := (.seq (.cregion [7, 8, 9] (.asg 9 (.o2 (.qcall 28 [(.t 0), (.t 1)]) (.t 1) (.t 2))
    .nil))
  (.seq (.seq (.cregion [7, 8, 9, 36, 37] (.asg 36 (.o1 (.len (.t 0)) (.t 7))
    (.asg 37 (.c (.int .i64 0))
    .nil)))
  (.seq (.keep [7, 8, 9, 36, 37]) l7_0))
  (.seq (.keep []) s7_7)))

/-- The rest. -/
def s7_1 : ACode := (.seq (.seq (.cregion [1, 2, 7, 8, 31] (.asg 31 (.or (.o2 (.bin .neq .num (.t 0) (.t 1)) (.o1 (.len (.t 0)) (.t 8)) (.o1 (.len (.t 0)) (.t 7))) (.o1 (.bin .neq .num (.t 0) (.c (.int .i64 0))) (.o1 (.load none (.t 0)) (.o1 (.idx 1 (.t 0) (.c (.int .i64 1))) (.t 8)))))
    .nil))
  (.cond (.t 31) (.seq (.cregion [6] (.asg 6 (.c (.bool false))
    .nil))
  .ret) .skip))
  (.seq (.keep [1, 2, 7, 8]) s7_2))

/-- The rest. -/
def s7_0 : ACode := (.seq (.cregion [1, 2, 7, 8] (.op (some 19) (.buildS 28 2 1 [(.int .i64 0), (.int .i64 0)] [(0, (.t 0))]) [(.o0 (.build [(.int .i64 0), (.int .i64 0)] [(0, (1, (.c (.int .i64 0)))), (1, (1, (.c (.int .i64 1))))]))]
    r7_1))
  (.seq (.keep [1, 2, 7, 8]) s7_1))

/-- The code. -/
def c7 : AFun := ⟨(.seq (.cregion [0, 1, 2] .nil)
  (.seq (.cregion [1, 2, 7] (.op (some 16) (.call 24 [(.t 0), (.c (.bool true))]) [(.t 0)]
    r7_0))
  (.seq (.keep [1, 2, 7]) s7_0))),
  [(.tmp 6)]⟩

theorem t7 : trFunC Go.Proofs.Try.prog (fun f => ([27, 28, 62, 64, 67, 68, 98, 125, 126, 158] : List Nat).contains f) [[0, 1, 2], [1, 2, 7], [1, 2, 7, 8], [1, 2, 7, 8, 31], [6], [7, 8, 9], [7, 8, 9, 36, 37], [7, 8, 9, 36, 37, 38], [7, 8, 9, 10, 36, 37], [7, 8, 9, 10, 11, 12, 36, 37], [7, 8, 9, 11, 12, 13, 14, 36, 37], [7, 8, 9, 36, 37, 68], [6], [7, 8, 9, 36, 37], [6]] 7 = some ⟨erase c7.code, c7.res⟩ := by kernel_rfl

/-- The rest of a region. -/
def r53_0 : CTree := (.asg 13 (.o1 (.bin .eql .num (.t 0) (.c (.int .i64 0))) (.t 12))
    .nil)

/-- The rest. -/
def s53_0 : ACode := (.cond (.t 13) (.seq (.cregion [4] (.asg 4 (.c .nils)
    .nil))
  .ret) .skip)

/-- The rest of a region. -/
def r53_1 : CTree := (.asg 5 (.t 16)
    .nil)

/-- The rest. -/
def s53_4 : ACode := (.seq (.block 3 (.cregion [0, 1, 5, 6, 7] (.op none (.store 1 (.t 0) (.c (.bool true))) [(.o2 (.idx 1 (.t 0) (.t 1)) (.t 5) (.o1 (.load none (.t 0)) (.o2 (.idx 1 (.t 0) (.t 1)) (.o1 (.load none (.t 0)) (.o1 (.fld 2 (.t 0)) (.o2 (.idx 3 (.t 0) (.t 1)) (.t 0) (.t 6)))) (.t 7))))]
    .nil)))
  (.cregion [0, 1, 5, 6, 7] (.asg 7 (.o1 (.bin .add .num (.t 0) (.c (.int .i64 1))) (.t 7))
    .nil)))

/-- A loop's body. -/
def b53_1 : ACode := (.seq (.seq (.cregion [0, 1, 5, 6, 7, 38] (.asg 38 (.and (.o2 (.bin .lss .num (.t 0) (.t 1)) (.t 7) (.o1 (.len (.t 0)) (.o1 (.load none (.t 0)) (.o1 (.fld 2 (.t 0)) (.o2 (.idx 3 (.t 0) (.t 1)) (.t 0) (.t 6)))))) (.o1 (.load none (.t 0)) (.o2 (.idx 1 (.t 0) (.t 1)) (.t 5) (.t 6))))
    .nil))
  (.cond (.t 38) .skip (.exit 2)))
  (.seq (.keep [0, 1, 5, 6, 7]) s53_4))

/-- A loop. -/
def l53_1 : ACode := .block 2 (.loop (.after b53_1 [0, 1, 5, 6, 7]))

/-- The rest. -/
def s53_5 : ACode := (.cregion [0, 1, 5, 6] (.asg 6 (.o1 (.bin .sub .num (.t 0) (.c (.int .i64 1))) (.t 6))
    .nil))

/-- The rest. -/
def s53_3 : ACode := (.seq (.block 1 (.seq (.cregion [0, 1, 5, 6, 7] (.asg 7 (.c (.int .i64 0))
    .nil))
  (.seq (.keep [0, 1, 5, 6, 7]) l53_1)))
  (.seq (.keep [0, 1, 5, 6]) s53_5))

/-- A loop's body. -/
def b53_0 : ACode := (.seq (.seq (.cregion [0, 1, 5, 6, 22] (.asg 22 (.o1 (.bin .geq .num (.t 0) (.c (.int .i64 0))) (.t 6))
    .nil))
  (.cond (.t 22) .skip (.exit 0)))
  (.seq (.keep [0, 1, 5, 6]) s53_3))

/-- A loop. -/
def l53_0 : ACode := .block 0 (.loop (.after b53_0 [0, 1, 5, 6]))

/-- The rest of a region. -/
def r53_2 : CTree := (.asg 8 (.t 63)
    .nil)

/-- A branch. -/
def k53_0 : ACode := (.cregion [1, 5, 8, 9] (.op (some 62) (.buildSp 3 1 1 [(.int .i64 0)] [(0, (.t 0))]) [(.t 9)]
    (.op (some 63) (.app 3 1 8 (.t 0) (.t 1)) [(.t 8), (.t 62)]
    r53_2)))

/-- The rest. -/
def s53_8 : ACode := (.cregion [1, 5, 8, 9] (.asg 9 (.o1 (.bin .add .num (.t 0) (.c (.int .i64 1))) (.t 9))
    .nil))

/-- The rest. -/
def s53_7 : ACode := (.seq (.block 5 (.seq (.cregion [1, 5, 8, 9, 59] (.asg 59 (.o1 (.load none (.t 0)) (.o2 (.idx 1 (.t 0) (.t 1)) (.t 5) (.t 9)))
    .nil))
  (.cond (.t 59) (.seq (.keep [1, 5, 8, 9]) k53_0) .skip)))
  (.seq (.keep [1, 5, 8, 9]) s53_8))

/-- A loop's body. -/
def b53_2 : ACode := (.seq (.seq (.cregion [1, 5, 8, 9, 53] (.asg 53 (.o2 (.bin .leq .num (.t 0) (.t 1)) (.t 9) (.t 1))
    .nil))
  (.cond (.t 53) .skip (.exit 4)))
  (.seq (.keep [1, 5, 8, 9]) s53_7))

/-- A loop. -/
def l53_2 : ACode := .block 4 (.loop (.after b53_2 [1, 5, 8, 9]))

/-- The rest. -/
def s53_9 : ACode := (.seq (.cregion [4] (.asg 4 (.t 8)
    .nil))
  .ret)

/-- The rest. -/
def s53_6 : ACode := (.seq (.cregion [1, 5, 8] (.asg 8 (.c .nils)
    .nil))
  (.seq (.seq (.cregion [1, 5, 8, 9] (.asg 9 (.c (.int .i64 0))
    .nil))
  (.seq (.keep [1, 5, 8, 9]) l53_2))
  (.seq (.keep [8]) s53_9)))

/-- The rest. -/
def s53_2 : ACode := (.seq (.cregion [0, 1, 5] (.op none (.store 1 (.t 0) (.c (.bool true))) [(.o2 (.idx 1 (.t 0) (.t 1)) (.t 5) (.t 1))]
    .nil))
  (.seq (.seq (.cregion [0, 1, 5, 6] (.asg 6 (.t 1)
    .nil))
  (.seq (.keep [0, 1, 5, 6]) l53_0))
  (.seq (.keep [1, 5]) s53_6)))

/-- The rest. -/
def s53_1 : ACode := (.seq (.cregion [0, 1, 5] (.op (some 16) (.mkS 4 1 1 [(.bool false)] (.t 0) (.t 0)) [(.o1 (.bin .add .num (.t 0) (.c (.int .i64 1))) (.t 1))]
    r53_1))
  (.seq (.keep [0, 1, 5]) s53_2))

/-- The code. -/
def c53 : AFun := ⟨(.seq (.cregion [0, 1] .nil)
  (.seq (.seq (.cregion [0, 1, 13] (.op (some 12) (.call 55 [(.t 0), (.t 1)]) [(.t 0), (.t 1)]
    r53_0))
  (.seq (.keep [0, 1, 13]) s53_0))
  (.seq (.keep [0, 1]) s53_1))),
  [(.tmp 4)]⟩

theorem t53 : trFunC Go.Proofs.Try.prog (fun f => ([27, 28, 62, 64, 67, 68, 98, 125, 126, 158, 1000062] : List Nat).contains f) [[0, 1], [0, 1, 13], [4], [0, 1, 5], [0, 1, 5], [0, 1, 5, 6], [0, 1, 5, 6, 22], [0, 1, 5, 6, 7], [0, 1, 5, 6, 7, 38], [0, 1, 5, 6, 7], [0, 1, 5, 6, 7], [0, 1, 5, 6], [1, 5, 8], [1, 5, 8, 9], [1, 5, 8, 9, 53], [1, 5, 8, 9, 59], [1, 5, 8, 9], [1, 5, 8, 9], [4]] 53 = some ⟨erase c53.code, c53.res⟩ := by kernel_rfl

end Go.Abs
