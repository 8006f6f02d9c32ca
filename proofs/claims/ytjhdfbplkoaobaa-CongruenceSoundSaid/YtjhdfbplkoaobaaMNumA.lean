/- The code of functions of numbers: Word, Arity, Sort, OperandSort, sortIf, maxImm, ValidImm, Div, boolWord, Unary, Binary. -/
import Derived.Test.YtjhdfbplkoaobaaMCalcC
import Derived.Test.YtjhdfbplkoaobaaProg
import Derived.KernelRfl
import Derived.Test.YtjhdfbplkoaobaaMCongB
set_option linter.unusedVariables false
set_option linter.unusedSimpArgs false
namespace Go.Abs

/-- The rest of a region. -/
def r28_0 : CTree := (.asg 6 (.t 9)
    .nil)

/-- The rest of a region. -/
def r28_1 : CTree := (.asg 4 (.o1 (.bin .sub .num (.t 0) (.c (.int .i64 6))) (.t 22))
    .nil)

/-- A branch. -/
def k28_1 : ACode := (.seq (.cregion [4] (.op (some 22) (.call 27 [(.t 0), (.c (.int .i64 17))]) [(.o1 (.bin .quo .num (.t 0) (.c (.int .i64 24))) (.t 0))]
    r28_1))
  .ret)

/-- A branch. -/
def k28_0 : ACode := (.seq (.cregion [0, 1, 17] (.asg 17 (.o1 (.bin .lss .num (.t 0) (.c (.int .i64 22))) (.t 6))
    .nil))
  (.cond (.t 17) (.seq (.keep [0]) k28_1) .skip))

/-- The rest. -/
def s28_1 : ACode := (.seq (.cregion [4] (.asg 4 (.t 1)
    .nil))
  .ret)

/-- The rest. -/
def s28_0 : ACode := (.seq (.block 0 (.seq (.cregion [0, 1, 5, 6, 10] (.asg 10 (.o1 (.bin .lss .num (.t 0) (.c (.int .i64 10))) (.t 6))
    .nil))
  (.cond (.t 10) (.seq (.cregion [4] (.asg 4 (.o1 (.load none (.t 0)) (.o2 (.idx 1 (.t 0) (.t 1)) (.t 5) (.t 6)))
    .nil))
  .ret) (.seq (.keep [0, 1, 6]) k28_0))))
  (.seq (.keep [1]) s28_1))

/-- The code. -/
def c28 : AFun := ⟨(.seq (.cregion [0, 1] .nil)
  (.seq (.cregion [0, 1, 5] (.op (some 7) (.buildSp 2 1 10 [(.int .i64 0)] [(0, (.c (.int .i64 0))), (1, (.c (.int .i64 1))), (2, (.c (.int .i64 (-1)))), (3, (.c (.int .i64 2))), (4, (.c (.int .i64 (-9223372036854775808)))), (5, (.c (.int .i64 9223372036854775807))), (6, (.c (.int .i64 4294967296))), (7, (.c (.int .i64 (-2147483648)))), (8, (.c (.int .i64 63))), (9, (.c (.int .i64 64)))]) []
    (.asg 5 (.t 7)
    .nil)))
  (.seq (.cregion [0, 1, 5, 6] (.op (some 9) (.call 27 [(.t 0), (.c (.int .i64 24))]) [(.t 0)]
    r28_0))
  (.seq (.keep [0, 1, 5, 6]) s28_0)))),
  [(.tmp 4)]⟩

theorem t28 : trFunC Go.Proofs.Try.prog (fun f => ([1000007] : List Nat).contains f) [[0, 1], [0, 1, 5], [0, 1, 5, 6], [0, 1, 5, 6, 10], [4], [0, 1, 17], [4], [4]] 28 = some ⟨erase c28.code, c28.res⟩ := by kernel_rfl

/-- A branch. -/
def k62_0 : ACode := (.seq (.cregion [2, 3] (.asg 2 (.c (.int .i64 0))
    (.asg 3 (.c (.bool true))
    .nil)))
  .ret)

/-- A branch. -/
def k62_2 : ACode := (.seq (.cregion [2, 3] (.asg 2 (.c (.int .i64 1))
    (.asg 3 (.c (.bool true))
    .nil)))
  .ret)

/-- A branch. -/
def k62_4 : ACode := (.seq (.cregion [2, 3] (.asg 2 (.c (.int .i64 2))
    (.asg 3 (.c (.bool true))
    .nil)))
  .ret)

/-- A branch. -/
def k62_6 : ACode := (.seq (.cregion [2, 3] (.asg 2 (.c (.int .i64 3))
    (.asg 3 (.c (.bool true))
    .nil)))
  .ret)

/-- A branch. -/
def k62_8 : ACode := (.seq (.cregion [2, 3] (.asg 2 (.c (.int .i64 (-1)))
    (.asg 3 (.c (.bool true))
    .nil)))
  .ret)

/-- A branch. -/
def k62_7 : ACode := (.seq (.cregion [60] (.asg 60 (.or (.o1 (.bin .eql .num (.t 0) (.c (.int .i64 30))) (.t 0)) (.o1 (.bin .eql .num (.t 0) (.c (.int .i64 31))) (.t 0)))
    .nil))
  (.cond (.t 60) (.seq (.keep []) k62_8) .skip))

/-- A branch. -/
def k62_5 : ACode := (.seq (.cregion [0, 53] (.asg 53 (.or (.o1 (.bin .eql .num (.t 0) (.c (.int .i64 22))) (.t 0)) (.o1 (.bin .eql .num (.t 0) (.c (.int .i64 28))) (.t 0)))
    .nil))
  (.cond (.t 53) (.seq (.keep []) k62_6) (.seq (.keep [0]) k62_7)))

/-- A branch. -/
def k62_3 : ACode := (.seq (.cregion [0, 34] (.asg 34 (.or (.or (.or (.and (.o1 (.bin .geq .num (.t 0) (.c (.int .i64 4))) (.t 0)) (.o1 (.bin .leq .num (.t 0) (.c (.int .i64 19))) (.t 0))) (.o1 (.bin .eql .num (.t 0) (.c (.int .i64 23))) (.t 0))) (.o1 (.bin .eql .num (.t 0) (.c (.int .i64 27))) (.t 0))) (.o1 (.bin .eql .num (.t 0) (.c (.int .i64 29))) (.t 0)))
    .nil))
  (.cond (.t 34) (.seq (.keep []) k62_4) (.seq (.keep [0]) k62_5)))

/-- A branch. -/
def k62_1 : ACode := (.seq (.cregion [0, 19] (.asg 19 (.or (.or (.or (.o1 (.bin .eql .num (.t 0) (.c (.int .i64 20))) (.t 0)) (.o1 (.bin .eql .num (.t 0) (.c (.int .i64 21))) (.t 0))) (.o1 (.bin .eql .num (.t 0) (.c (.int .i64 24))) (.t 0))) (.o1 (.bin .eql .num (.t 0) (.c (.int .i64 25))) (.t 0)))
    .nil))
  (.cond (.t 19) (.seq (.keep []) k62_2) (.seq (.keep [0]) k62_3)))

/-- The rest. -/
def s62_0 : ACode := (.seq (.cregion [2, 3] (.asg 2 (.c (.int .i64 0))
    (.asg 3 (.c (.bool false))
    .nil)))
  .ret)

/-- The code. -/
def c62 : AFun := ⟨(.seq (.cregion [0] .nil)
  (.seq (.block 0 (.seq (.cregion [0, 4] (.asg 4 (.or (.or (.or (.o1 (.bin .eql .num (.t 0) (.c (.int .i64 1))) (.t 0)) (.o1 (.bin .eql .num (.t 0) (.c (.int .i64 2))) (.t 0))) (.o1 (.bin .eql .num (.t 0) (.c (.int .i64 3))) (.t 0))) (.o1 (.bin .eql .num (.t 0) (.c (.int .i64 26))) (.t 0)))
    .nil))
  (.cond (.t 4) (.seq (.keep []) k62_0) (.seq (.keep [0]) k62_1))))
  (.seq (.keep []) s62_0))),
  [(.tmp 2), (.tmp 3)]⟩

theorem t62 : trFunC Go.Proofs.Try.prog (fun f => ([] : List Nat).contains f) [[0], [0, 4], [2, 3], [0, 19], [2, 3], [0, 34], [2, 3], [0, 53], [2, 3], [60], [2, 3], [2, 3]] 62 = some ⟨erase c62.code, c62.res⟩ := by kernel_rfl

/-- The rest. -/
def s98_0 : ACode := (.seq (.cregion [2] (.asg 2 (.c (.int .i64 1))
    .nil))
  .ret)

/-- The code. -/
def c98 : AFun := ⟨(.seq (.cregion [0] .nil)
  (.seq (.seq (.cregion [12] (.asg 12 (.or (.or (.o1 (.bin .eql .num (.t 0) (.c (.int .i64 27))) (.t 0)) (.o1 (.bin .eql .num (.t 0) (.c (.int .i64 28))) (.t 0))) (.o1 (.bin .eql .num (.t 0) (.c (.int .i64 29))) (.t 0)))
    .nil))
  (.cond (.t 12) (.seq (.cregion [2] (.asg 2 (.c (.int .i64 2))
    .nil))
  .ret) .skip))
  (.seq (.keep []) s98_0))),
  [(.tmp 2)]⟩

theorem t98 : trFunC Go.Proofs.Try.prog (fun f => ([] : List Nat).contains f) [[0], [12], [2], [2]] 98 = some ⟨erase c98.code, c98.res⟩ := by kernel_rfl

/-- The rest of a region. -/
def r64_0 : CTree := (.chk (.gd (.gd (.o1 (.bin .eql .num (.t 0) (.c (.int .i64 0))) (.t 1)) true (.or (.gd (.o1 (.bin .eql .num (.t 0) (.c (.int .i64 0))) (.t 1)) true (.o1 (.bin .eql .num (.t 0) (.c (.int .i64 2))) (.t 9))) (.o1 (.bin .eql .num (.t 0) (.c (.int .i64 23))) (.t 0)))) false (.o1 (.bin .eql .num (.t 0) (.c (.int .i64 24))) (.t 0)))
    (.chk (.gd (.gd (.o1 (.bin .eql .num (.t 0) (.c (.int .i64 0))) (.t 1)) true (.o1 (.bin .eql .num (.t 0) (.c (.int .i64 2))) (.t 9))) false (.o1 (.bin .eql .num (.t 0) (.c (.int .i64 23))) (.t 0)))
    (.asg 19 (.and (.o1 (.bin .eql .num (.t 0) (.c (.int .i64 0))) (.t 1)) (.or (.gd (.o1 (.bin .eql .num (.t 0) (.c (.int .i64 0))) (.t 1)) true (.or (.gd (.o1 (.bin .eql .num (.t 0) (.c (.int .i64 0))) (.t 1)) true (.o1 (.bin .eql .num (.t 0) (.c (.int .i64 2))) (.t 9))) (.o1 (.bin .eql .num (.t 0) (.c (.int .i64 23))) (.t 0)))) (.o1 (.bin .eql .num (.t 0) (.c (.int .i64 24))) (.t 0))))
    .nil)))

/-- The rest. -/
def s64_0 : ACode := (.cond (.t 19) (.seq (.cregion [4] (.asg 4 (.c (.int .i64 2))
    .nil))
  .ret) .skip)

/-- The rest. -/
def s64_1 : ACode := (.seq (.cregion [4] (.asg 4 (.c (.int .i64 1))
    .nil))
  .ret)

/-- The code. -/
def c64 : AFun := ⟨(.seq (.cregion [0, 1] .nil)
  (.seq (.seq (.cregion [19] (.opg (.o1 (.bin .eql .num (.t 0) (.c (.int .i64 0))) (.t 1)) true (some 9) (.call 98 [(.t 0)]) [(.t 0)]
    r64_0))
  (.seq (.keep [19]) s64_0))
  (.seq (.keep []) s64_1))),
  [(.tmp 4)]⟩

theorem t64 : trFunC Go.Proofs.Try.prog (fun f => ([] : List Nat).contains f) [[0, 1], [19], [4], [4]] 64 = some ⟨erase c64.code, c64.res⟩ := by kernel_rfl

/-- The rest. -/
def s126_0 : ACode := (.seq (.cregion [4] (.asg 4 (.c (.int .i64 0))
    .nil))
  .ret)

/-- The code. -/
def c126 : AFun := ⟨(.seq (.cregion [0, 1] .nil)
  (.seq (.seq (.cregion [1, 5] (.asg 5 (.t 0)
    .nil))
  (.cond (.t 5) (.seq (.cregion [4] (.asg 4 (.t 1)
    .nil))
  .ret) .skip))
  (.seq (.keep []) s126_0))),
  [(.tmp 4)]⟩

theorem t126 : trFunC Go.Proofs.Try.prog (fun f => ([] : List Nat).contains f) [[0, 1], [1, 5], [4], [4]] 126 = some ⟨erase c126.code, c126.res⟩ := by kernel_rfl

/-- A branch. -/
def k158_5 : ACode := (.seq (.cregion [17] (.asg 17 (.o1 (.bin .eql .num (.t 0) (.c (.int .i64 25))) (.t 3))
    .nil))
  (.cond (.t 17) (.seq (.cregion [2] (.asg 2 (.c (.int .i64 15))
    .nil))
  .ret) .skip))

/-- A branch. -/
def k158_4 : ACode := (.seq (.cregion [3, 15] (.asg 15 (.o1 (.bin .eql .num (.t 0) (.c (.int .i64 31))) (.t 3))
    .nil))
  (.cond (.t 15) (.seq (.cregion [2] (.asg 2 (.c (.int .i64 15))
    .nil))
  .ret) (.seq (.keep [3]) k158_5)))

/-- A branch. -/
def k158_3 : ACode := (.seq (.cregion [3, 13] (.asg 13 (.o1 (.bin .eql .num (.t 0) (.c (.int .i64 30))) (.t 3))
    .nil))
  (.cond (.t 13) (.seq (.cregion [2] (.asg 2 (.c (.int .i64 7))
    .nil))
  .ret) (.seq (.keep [3]) k158_4)))

/-- A branch. -/
def k158_2 : ACode := (.seq (.cregion [3, 11] (.asg 11 (.o1 (.bin .eql .num (.t 0) (.c (.int .i64 27))) (.t 3))
    .nil))
  (.cond (.t 11) (.seq (.cregion [2] (.asg 2 (.c (.int .i64 1000016))
    .nil))
  .ret) (.seq (.keep [3]) k158_3)))

/-- The rest. -/
def s158_0 : ACode := (.cond (.t 8) (.seq (.cregion [2] (.asg 2 (.c (.int .i64 3))
    .nil))
  .ret) (.seq (.keep [3]) k158_2))

/-- A branch. -/
def k158_1 : ACode := (.seq (.seq (.cregion [3, 8] (.asg 8 (.o1 (.bin .eql .num (.t 0) (.c (.int .i64 23))) (.t 3))
    .nil))
  (.cond (.t 8) .skip (.cregion [3, 8] (.asg 8 (.o1 (.bin .eql .num (.t 0) (.c (.int .i64 28))) (.t 3))
    .nil))))
  (.seq (.keep [3, 8]) s158_0))

/-- A branch. -/
def k158_0 : ACode := (.seq (.cregion [3, 6] (.asg 6 (.o1 (.bin .eql .num (.t 0) (.c (.int .i64 3))) (.t 3))
    .nil))
  (.cond (.t 6) (.seq (.cregion [2] (.asg 2 (.c (.int .i64 255))
    .nil))
  .ret) (.seq (.keep [3]) k158_1)))

/-- The rest. -/
def s158_1 : ACode := (.seq (.cregion [2] (.asg 2 (.c (.int .i64 (-1)))
    .nil))
  .ret)

/-- The code. -/
def c158 : AFun := ⟨(.seq (.cregion [0] .nil)
  (.seq (.seq (.cregion [3] (.asg 3 (.t 0)
    .nil))
  (.block 0 (.seq (.cregion [3, 4] (.asg 4 (.o1 (.bin .eql .num (.t 0) (.c (.int .i64 2))) (.t 3))
    .nil))
  (.cond (.t 4) (.seq (.cregion [2] (.asg 2 (.c (.int .i64 5))
    .nil))
  .ret) (.seq (.keep [3]) k158_0)))))
  (.seq (.keep []) s158_1))),
  [(.tmp 2)]⟩

theorem t158 : trFunC Go.Proofs.Try.prog (fun f => ([] : List Nat).contains f) [[0], [3], [3, 4], [2], [3, 6], [2], [3, 8], [3, 8], [2], [3, 11], [2], [3, 13], [2], [3, 15], [2], [17], [2], [2]] 158 = some ⟨erase c158.code, c158.res⟩ := by kernel_rfl

/-- The rest of a region. -/
def r125_0 : CTree := (.asg 5 (.t 9)
    .nil)

/-- The rest. -/
def s125_2 : ACode := (.seq (.cregion [4] (.chk (.gd (.gd (.and (.o1 (.bin .geq .num (.t 0) (.c (.int .i64 0))) (.t 1)) (.o2 (.bin .leq .num (.t 0) (.t 1)) (.t 1) (.t 5))) true (.o1 (.bin .neq .num (.t 0) (.c (.int .i64 27))) (.t 0))) false (.o1 (.bin .gtr .num (.t 0) (.c (.int .i64 0))) (.t 1)))
    (.asg 4 (.and (.and (.o1 (.bin .geq .num (.t 0) (.c (.int .i64 0))) (.t 1)) (.o2 (.bin .leq .num (.t 0) (.t 1)) (.t 1) (.t 5))) (.or (.gd (.and (.o1 (.bin .geq .num (.t 0) (.c (.int .i64 0))) (.t 1)) (.o2 (.bin .leq .num (.t 0) (.t 1)) (.t 1) (.t 5))) true (.o1 (.bin .neq .num (.t 0) (.c (.int .i64 27))) (.t 0))) (.o1 (.bin .gtr .num (.t 0) (.c (.int .i64 0))) (.t 1))))
    .nil)))
  .ret)

/-- The rest. -/
def s125_1 : ACode := (.seq (.seq (.cregion [0, 1, 5, 11] (.asg 11 (.o1 (.bin .lss .num (.t 0) (.c (.int .i64 0))) (.t 5))
    .nil))
  (.cond (.t 11) (.seq (.cregion [4] (.asg 4 (.o1 (.bin .eql .num (.t 0) (.c (.int .i64 0))) (.t 1))
    .nil))
  .ret) .skip))
  (.seq (.keep [0, 1, 5]) s125_2))

/-- The rest. -/
def s125_0 : ACode := (.seq (.cregion [0, 1, 5] (.op (some 9) (.call 158 [(.t 0)]) [(.t 0)]
    r125_0))
  (.seq (.keep [0, 1, 5]) s125_1))

/-- The code. -/
def c125 : AFun := ⟨(.seq (.cregion [0, 1] .nil)
  (.seq (.seq (.cregion [0, 1, 7] (.asg 7 (.o1 (.bin .eql .num (.t 0) (.c (.int .i64 1))) (.t 0))
    .nil))
  (.cond (.t 7) (.seq (.cregion [4] (.asg 4 (.c (.bool true))
    .nil))
  .ret) .skip))
  (.seq (.keep [0, 1]) s125_0))),
  [(.tmp 4)]⟩

theorem t125 : trFunC Go.Proofs.Try.prog (fun f => ([] : List Nat).contains f) [[0, 1], [0, 1, 7], [4], [0, 1, 5], [0, 1, 5, 11], [4], [4]] 125 = some ⟨erase c125.code, c125.res⟩ := by kernel_rfl

/-- A branch. -/
def k99_0 : ACode := (.seq (.cregion [0, 1, 8] (.asg 8 (.o1 (.bin .eql .num (.t 0) (.c (.int .i64 (-1)))) (.t 1))
    .nil))
  (.cond (.t 8) (.seq (.cregion [4] (.asg 4 (.o1 (.un .neg (.t 0)) (.t 0))
    .nil))
  .ret) .skip))

/-- The rest. -/
def s99_0 : ACode := (.seq (.cregion [4] (.asg 4 (.o2 (.bin .quo .num (.t 0) (.t 1)) (.t 0) (.t 1))
    .nil))
  .ret)

/-- The code. -/
def c99 : AFun := ⟨(.seq (.cregion [0, 1] .nil)
  (.seq (.block 0 (.seq (.cregion [0, 1, 5] (.asg 5 (.o1 (.bin .eql .num (.t 0) (.c (.int .i64 0))) (.t 1))
    .nil))
  (.cond (.t 5) (.seq (.cregion [4] (.asg 4 (.c (.int .i64 0))
    .nil))
  .ret) (.seq (.keep [0, 1]) k99_0))))
  (.seq (.keep [0, 1]) s99_0))),
  [(.tmp 4)]⟩

theorem t99 : trFunC Go.Proofs.Try.prog (fun f => ([] : List Nat).contains f) [[0, 1], [0, 1, 5], [4], [0, 1, 8], [4], [4]] 99 = some ⟨erase c99.code, c99.res⟩ := by kernel_rfl

/-- The rest. -/
def s100_0 : ACode := (.seq (.cregion [2] (.asg 2 (.c (.int .i64 0))
    .nil))
  .ret)

/-- The code. -/
def c100 : AFun := ⟨(.seq (.cregion [0] .nil)
  (.seq (.seq (.cregion [3] (.asg 3 (.t 0)
    .nil))
  (.cond (.t 3) (.seq (.cregion [2] (.asg 2 (.c (.int .i64 1))
    .nil))
  .ret) .skip))
  (.seq (.keep []) s100_0))),
  [(.tmp 2)]⟩

theorem t100 : trFunC Go.Proofs.Try.prog (fun f => ([] : List Nat).contains f) [[0], [3], [2], [2]] 100 = some ⟨erase c100.code, c100.res⟩ := by kernel_rfl

/-- A branch. -/
def k68_0 : ACode := (.seq (.cregion [1, 10] (.asg 10 (.o1 (.bin .eql .num (.t 0) (.c (.int .i64 21))) (.t 5))
    .nil))
  (.cond (.t 10) (.seq (.cregion [4] (.asg 4 (.o1 (.un .xor (.t 0)) (.t 1))
    .nil))
  .ret) .skip))

/-- The rest. -/
def s68_0 : ACode := (.seq (.cregion [4] (.asg 4 (.c (.int .i64 0))
    .nil))
  .ret)

/-- The code. -/
def c68 : AFun := ⟨(.seq (.cregion [0, 1] .nil)
  (.seq (.seq (.cregion [1, 5] (.asg 5 (.t 0)
    .nil))
  (.block 0 (.seq (.cregion [1, 5, 6] (.asg 6 (.o1 (.bin .eql .num (.t 0) (.c (.int .i64 20))) (.t 5))
    .nil))
  (.cond (.t 6) (.seq (.cregion [4] (.asg 4 (.o1 (.un .neg (.t 0)) (.t 1))
    .nil))
  .ret) (.seq (.keep [1, 5]) k68_0)))))
  (.seq (.keep []) s68_0))),
  [(.tmp 4)]⟩

theorem t68 : trFunC Go.Proofs.Try.prog (fun f => ([] : List Nat).contains f) [[0, 1], [1, 5], [1, 5, 6], [4], [1, 10], [4], [4]] 68 = some ⟨erase c68.code, c68.res⟩ := by kernel_rfl

/-- The rest of a region. -/
def r67_0 : CTree := (.asg 6 (.t 31)
    .nil)

/-- A branch. -/
def k67_3 : ACode := (.seq (.cregion [6] (.op (some 31) (.call 99 [(.t 0), (.t 1)]) [(.t 1), (.t 2)]
    r67_0))
  .ret)

/-- The rest of a region. -/
def r67_1 : CTree := (.asg 6 (.o2 (.bin .sub .num (.t 0) (.t 1)) (.t 1) (.o2 (.bin .mul .num (.t 0) (.t 1)) (.t 39) (.t 2)))
    .nil)

/-- The rest. -/
def s67_0 : ACode := (.seq (.cregion [6] (.op (some 39) (.call 99 [(.t 0), (.t 1)]) [(.t 1), (.t 2)]
    r67_1))
  .ret)

/-- A branch. -/
def k67_5 : ACode := (.seq (.seq (.cregion [1, 2, 35] (.asg 35 (.o1 (.bin .eql .num (.t 0) (.c (.int .i64 0))) (.t 2))
    .nil))
  (.cond (.t 35) (.seq (.cregion [6] (.asg 6 (.c (.int .i64 0))
    .nil))
  .ret) .skip))
  (.seq (.keep [1, 2]) s67_0))

/-- A branch. -/
def k67_8 : ACode := (.seq (.cregion [0, 1, 2, 7, 53] (.asg 53 (.o1 (.bin .eql .num (.t 0) (.c (.int .i64 11))) (.t 11))
    .nil))
  (.cond (.t 53) (.seq (.cregion [6] (.asg 6 (.o2 (.bin .xor .num (.t 0) (.t 1)) (.t 1) (.t 2))
    .nil))
  .ret) .skip))

/-- A branch. -/
def k67_7 : ACode := (.seq (.cregion [0, 1, 2, 7, 11, 48] (.asg 48 (.o1 (.bin .eql .num (.t 0) (.c (.int .i64 10))) (.t 11))
    .nil))
  (.cond (.t 48) (.seq (.cregion [6] (.asg 6 (.o2 (.bin .or .num (.t 0) (.t 1)) (.t 1) (.t 2))
    .nil))
  .ret) (.seq (.keep [0, 1, 2, 7, 11]) k67_8)))

/-- A branch. -/
def k67_6 : ACode := (.seq (.cregion [0, 1, 2, 7, 11, 43] (.asg 43 (.o1 (.bin .eql .num (.t 0) (.c (.int .i64 9))) (.t 11))
    .nil))
  (.cond (.t 43) (.seq (.cregion [6] (.asg 6 (.o2 (.bin .and .num (.t 0) (.t 1)) (.t 1) (.t 2))
    .nil))
  .ret) (.seq (.keep [0, 1, 2, 7, 11]) k67_7)))

/-- A branch. -/
def k67_4 : ACode := (.seq (.cregion [0, 1, 2, 7, 11, 32] (.asg 32 (.o1 (.bin .eql .num (.t 0) (.c (.int .i64 8))) (.t 11))
    .nil))
  (.cond (.t 32) (.seq (.keep [1, 2]) k67_5) (.seq (.keep [0, 1, 2, 7, 11]) k67_6)))

/-- A branch. -/
def k67_2 : ACode := (.seq (.cregion [0, 1, 2, 7, 11, 27] (.asg 27 (.o1 (.bin .eql .num (.t 0) (.c (.int .i64 7))) (.t 11))
    .nil))
  (.cond (.t 27) (.seq (.keep [1, 2]) k67_3) (.seq (.keep [0, 1, 2, 7, 11]) k67_4)))

/-- A branch. -/
def k67_1 : ACode := (.seq (.cregion [0, 1, 2, 7, 11, 22] (.asg 22 (.o1 (.bin .eql .num (.t 0) (.c (.int .i64 6))) (.t 11))
    .nil))
  (.cond (.t 22) (.seq (.cregion [6] (.asg 6 (.o2 (.bin .mul .num (.t 0) (.t 1)) (.t 1) (.t 2))
    .nil))
  .ret) (.seq (.keep [0, 1, 2, 7, 11]) k67_2)))

/-- A branch. -/
def k67_0 : ACode := (.seq (.cregion [0, 1, 2, 7, 11, 17] (.asg 17 (.o1 (.bin .eql .num (.t 0) (.c (.int .i64 5))) (.t 11))
    .nil))
  (.cond (.t 17) (.seq (.cregion [6] (.asg 6 (.o2 (.bin .sub .num (.t 0) (.t 1)) (.t 1) (.t 2))
    .nil))
  .ret) (.seq (.keep [0, 1, 2, 7, 11]) k67_1)))

/-- The rest of a region. -/
def r67_2 : CTree := (.asg 6 (.t 81)
    .nil)

/-- A branch. -/
def k67_12 : ACode := (.seq (.cregion [6] (.op (some 81) (.call 100 [(.t 0)]) [(.o2 (.bin .eql .num (.t 0) (.t 1)) (.t 1) (.t 2))]
    r67_2))
  .ret)

/-- The rest of a region. -/
def r67_3 : CTree := (.asg 6 (.t 87)
    .nil)

/-- A branch. -/
def k67_14 : ACode := (.seq (.cregion [6] (.op (some 87) (.call 100 [(.t 0)]) [(.o2 (.bin .neq .num (.t 0) (.t 1)) (.t 1) (.t 2))]
    r67_3))
  .ret)

/-- The rest of a region. -/
def r67_4 : CTree := (.asg 6 (.t 93)
    .nil)

/-- A branch. -/
def k67_16 : ACode := (.seq (.cregion [6] (.op (some 93) (.call 100 [(.t 0)]) [(.o2 (.bin .lss .num (.t 0) (.t 1)) (.t 1) (.t 2))]
    r67_4))
  .ret)

/-- The rest of a region. -/
def r67_5 : CTree := (.asg 6 (.t 99)
    .nil)

/-- A branch. -/
def k67_18 : ACode := (.seq (.cregion [6] (.op (some 99) (.call 100 [(.t 0)]) [(.o2 (.bin .leq .num (.t 0) (.t 1)) (.t 1) (.t 2))]
    r67_5))
  .ret)

/-- The rest of a region. -/
def r67_6 : CTree := (.asg 6 (.t 107)
    .nil)

/-- A branch. -/
def k67_20 : ACode := (.seq (.cregion [6] (.op (some 107) (.call 100 [(.t 0)]) [(.o2 (.bin .lss .num (.t 0) (.t 1)) (.o1 (.cint .u64 (.t 0)) (.t 1)) (.o1 (.cint .u64 (.t 0)) (.t 2)))]
    r67_6))
  .ret)

/-- A branch. -/
def k67_19 : ACode := (.seq (.cregion [1, 2, 100] (.asg 100 (.o1 (.bin .eql .num (.t 0) (.c (.int .i64 19))) (.t 58))
    .nil))
  (.cond (.t 100) (.seq (.keep [1, 2]) k67_20) .skip))

/-- A branch. -/
def k67_17 : ACode := (.seq (.cregion [1, 2, 58, 94] (.asg 94 (.o1 (.bin .eql .num (.t 0) (.c (.int .i64 18))) (.t 58))
    .nil))
  (.cond (.t 94) (.seq (.keep [1, 2]) k67_18) (.seq (.keep [1, 2, 58]) k67_19)))

/-- A branch. -/
def k67_15 : ACode := (.seq (.cregion [1, 2, 58, 88] (.asg 88 (.o1 (.bin .eql .num (.t 0) (.c (.int .i64 17))) (.t 58))
    .nil))
  (.cond (.t 88) (.seq (.keep [1, 2]) k67_16) (.seq (.keep [1, 2, 58]) k67_17)))

/-- A branch. -/
def k67_13 : ACode := (.seq (.cregion [1, 2, 58, 82] (.asg 82 (.o1 (.bin .eql .num (.t 0) (.c (.int .i64 16))) (.t 58))
    .nil))
  (.cond (.t 82) (.seq (.keep [1, 2]) k67_14) (.seq (.keep [1, 2, 58]) k67_15)))

/-- A branch. -/
def k67_11 : ACode := (.seq (.cregion [1, 2, 58, 76] (.asg 76 (.o1 (.bin .eql .num (.t 0) (.c (.int .i64 15))) (.t 58))
    .nil))
  (.cond (.t 76) (.seq (.keep [1, 2]) k67_12) (.seq (.keep [1, 2, 58]) k67_13)))

/-- A branch. -/
def k67_10 : ACode := (.seq (.cregion [1, 2, 7, 58, 71] (.asg 71 (.o1 (.bin .eql .num (.t 0) (.c (.int .i64 14))) (.t 58))
    .nil))
  (.cond (.t 71) (.seq (.cregion [6] (.asg 6 (.o2 (.bin .shr .num (.t 0) (.t 1)) (.t 1) (.t 7))
    .nil))
  .ret) (.seq (.keep [1, 2, 58]) k67_11)))

/-- A branch. -/
def k67_9 : ACode := (.seq (.cregion [1, 2, 7, 58, 64] (.asg 64 (.o1 (.bin .eql .num (.t 0) (.c (.int .i64 13))) (.t 58))
    .nil))
  (.cond (.t 64) (.seq (.cregion [6] (.asg 6 (.o1 (.cint .i64 (.t 0)) (.o2 (.bin .shr .num (.t 0) (.t 1)) (.o1 (.cint .u64 (.t 0)) (.t 1)) (.t 7)))
    .nil))
  .ret) (.seq (.keep [1, 2, 7, 58]) k67_10)))

/-- The rest. -/
def s67_2 : ACode := (.seq (.cregion [6] (.asg 6 (.c (.int .i64 0))
    .nil))
  .ret)

/-- The rest. -/
def s67_1 : ACode := (.seq (.seq (.cregion [1, 2, 7, 58] (.asg 58 (.t 0)
    .nil))
  (.block 1 (.seq (.cregion [1, 2, 7, 58, 59] (.asg 59 (.o1 (.bin .eql .num (.t 0) (.c (.int .i64 12))) (.t 58))
    .nil))
  (.cond (.t 59) (.seq (.cregion [6] (.asg 6 (.o2 (.bin .shl .num (.t 0) (.t 1)) (.t 1) (.t 7))
    .nil))
  .ret) (.seq (.keep [1, 2, 7, 58]) k67_9)))))
  (.seq (.keep []) s67_2))

/-- The code. -/
def c67 : AFun := ⟨(.seq (.cregion [0, 1, 2] .nil)
  (.seq (.cregion [0, 1, 2, 7] (.asg 7 (.o1 (.cint .u64 (.t 0)) (.o1 (.bin .and .num (.t 0) (.c (.int .i64 63))) (.t 2)))
    .nil))
  (.seq (.seq (.cregion [0, 1, 2, 7, 11] (.asg 11 (.t 0)
    .nil))
  (.block 0 (.seq (.cregion [0, 1, 2, 7, 11, 12] (.asg 12 (.o1 (.bin .eql .num (.t 0) (.c (.int .i64 4))) (.t 11))
    .nil))
  (.cond (.t 12) (.seq (.cregion [6] (.asg 6 (.o2 (.bin .add .num (.t 0) (.t 1)) (.t 1) (.t 2))
    .nil))
  .ret) (.seq (.keep [0, 1, 2, 7, 11]) k67_0)))))
  (.seq (.keep [0, 1, 2, 7]) s67_1)))),
  [(.tmp 6)]⟩

theorem t67 : trFunC Go.Proofs.Try.prog (fun f => ([] : List Nat).contains f) [[0, 1, 2], [0, 1, 2, 7], [0, 1, 2, 7, 11], [0, 1, 2, 7, 11, 12], [6], [0, 1, 2, 7, 11, 17], [6], [0, 1, 2, 7, 11, 22], [6], [0, 1, 2, 7, 11, 27], [6], [0, 1, 2, 7, 11, 32], [1, 2, 35], [6], [6], [0, 1, 2, 7, 11, 43], [6], [0, 1, 2, 7, 11, 48], [6], [0, 1, 2, 7, 53], [6], [1, 2, 7, 58], [1, 2, 7, 58, 59], [6], [1, 2, 7, 58, 64], [6], [1, 2, 7, 58, 71], [6], [1, 2, 58, 76], [6], [1, 2, 58, 82], [6], [1, 2, 58, 88], [6], [1, 2, 58, 94], [6], [1, 2, 100], [6], [6]] 67 = some ⟨erase c67.code, c67.res⟩ := by kernel_rfl

end Go.Abs

/- What functions of numbers return: Word, Arity, Sort, OperandSort, sortIf, maxImm, ValidImm, Div, boolWord, Unary, Binary. -/
namespace Go.Abs
open Go.Proofs.Try (prog)

def arity (op : Int) : Int × Bool :=
  if op = 1 ∨ op = 2 ∨ op = 3 ∨ op = 26 then (0, true)
  else if op = 20 ∨ op = 21 ∨ op = 24 ∨ op = 25 then (1, true)
  else if (4 ≤ op ∧ op ≤ 19) ∨ op = 23 ∨ op = 27 ∨ op = 29 then (2, true)
  else if op = 22 ∨ op = 28 then (3, true)
  else if op = 30 ∨ op = 31 then (-1, true)
  else (0, false)
def sortOp (op : Int) : Int := if op = 27 ∨ op = 28 ∨ op = 29 then 2 else 1
def opSort (op k : Int) : Int := if k = 0 ∧ (op = 27 ∨ op = 28 ∨ op = 29 ∨ op = 23 ∨ op = 24) then 2 else 1
def maxImm (op : Int) : Int :=
  if op = 2 then 5 else if op = 3 then 255 else if op = 23 then 3 else if op = 28 then 3 else if op = 27 then 1000016 else if op = 30 then 7 else if op = 31 then 15 else if op = 25 then 15 else -1
def validImm (op n : Int) : Bool := op = 1 ∨ (if maxImm op < 0 then n = 0 else 0 ≤ n ∧ n ≤ maxImm op ∧ (op ≠ 27 ∨ 0 < n))
def edges : List Int := [0, 1, -1, 2, -9223372036854775808, 9223372036854775807, 4294967296, -2147483648, 63, 64]
def wordF (n raw : Int) : Int := if n % 24 < 10 then edges.getD (n % 24).toNat 0 else if n % 24 < 22 then IntKind.i64.wrap (n.tdiv 24) % 17 - 6 else raw

section
variable {h : Heap}

theorem ac62 {op : Int} : AC prog 62 [.int .i64 op] h fun v h' => v = .tuple [.int .i64 (arity op).1, .bool (arity op).2] ∧ h' = h := by
  refine AC_c' noq_ok mixed t62 fun R hR => ?_
  have fin : ∀ (a : Int) (b : Bool), (a, b) = arity op → R (.tuple [.int .i64 a, .bool b]) h := fun a b hb => hR _ _ _ (Sub.refl _) ⟨by rw [← hb], rfl⟩
  simp [c62, k62_0, k62_1, k62_2, k62_3, k62_4, k62_5, k62_6, k62_7, k62_8, s62_0, Wc_ite]
  repeat' split
  all_goals (refine fin _ _ ?_; unfold arity; repeat' split)
  all_goals first | rfl | (exfalso; omega)

theorem ac98 {op : Int} : AC prog 98 [.int .i64 op] h fun v h' => v = .int .i64 (sortOp op) ∧ h' = h := by
  refine AC_c' noq_ok mixed t98 fun R hR => ?_
  have fin : ∀ (a : Int), a = sortOp op → R (.int .i64 a) h := fun a hb => hR _ _ _ (Sub.refl _) ⟨by rw [hb], rfl⟩
  simp [c98, s98_0, Wc_ite]
  repeat' split
  all_goals (refine fin _ ?_; unfold sortOp; repeat' split)
  all_goals first | rfl | (exfalso; omega)

theorem ac64 {op k : Int} : AC prog 64 [.int .i64 op, .int .i64 k] h fun v h' => v = .int .i64 (opSort op k) ∧ h' = h := by
  refine AC_c' noq_ok mixed t64 fun R hR => ?_
  have fin : ∀ (a : Int), a = opSort op k → R (.int .i64 a) h := fun a hb => hR _ _ _ (Sub.refl _) ⟨by rw [hb], rfl⟩
  by_cases hk : k = 0
  · subst hk
    simp [c64]
    refine (ac98).mono ?_
    rintro v h' ⟨rfl, rfl⟩
    simp [r64_0, s64_0, s64_1, Wc_ite]
    repeat' split
    all_goals (refine fin _ ?_; unfold opSort; rename_i h1; simp only [sortOp] at h1; split at h1; repeat' split)
    all_goals first | rfl | (exfalso; omega)
  · have d : (k == 0) = false := by simp [hk]
    simp [c64, d, r64_0, s64_0, s64_1]
    exact fin 1 (by simp [opSort, hk])

theorem ac126 {b : Bool} {n : Int} : AC prog 126 [.bool b, .int .i64 n] h fun v h' => v = .int .i64 (if b then n else 0) ∧ h' = h := by
  refine AC_c' noq_ok mixed t126 fun R hR => ?_
  simp [c126, s126_0, Wc_ite]
  split <;> exact hR _ _ _ (Sub.refl _) ⟨by simp_all, rfl⟩

theorem ac158 {op : Int} : AC prog 158 [.int .i64 op] h fun v h' => v = .int .i64 (maxImm op) ∧ h' = h := by
  refine AC_c' noq_ok mixed t158 fun R hR => ?_
  have fin : ∀ (a : Int), a = maxImm op → R (.int .i64 a) h := fun a hb => hR _ _ _ (Sub.refl _) ⟨by rw [hb], rfl⟩
  simp [c158, k158_0, k158_1, k158_2, k158_3, k158_4, k158_5, s158_0, s158_1, Wc_ite]
  repeat' split
  all_goals (refine fin _ ?_; unfold maxImm; repeat' split)
  all_goals first | rfl | (exfalso; omega)

theorem ac125 {op n : Int} : AC prog 125 [.int .i64 op, .int .i64 n] h fun v h' => v = .bool (validImm op n) ∧ h' = h := by
  refine AC_c' noq_ok mixed t125 fun R hR => ?_
  have fin : ∀ (a : Bool), a = validImm op n → R (.bool a) h := fun a hb => hR _ _ _ (Sub.refl _) ⟨by rw [hb], rfl⟩
  simp [c125, Wc_ite]
  split
  · exact fin _ (by simp_all [validImm])
  simp [s125_0]
  refine ac158.mono ?_
  rintro v h' ⟨rfl, rfl⟩
  simp [r125_0, s125_1, Wc_ite]
  split
  · rename_i h1 h2
    refine fin _ ?_
    simp only [validImm, h1, h2, if_true, false_or]
    rfl
  · rename_i h1 h2
    simp [s125_2]
    refine fin _ ?_
    rw [Bool.eq_iff_iff]
    simp [validImm, h1, h2, and_assoc]

theorem ac28 {n raw : Int} : AC prog 28 [.int .i64 n, .int .i64 raw] h fun v h' => v = .int .i64 (wordF n raw) ∧ h' = h := by
  refine AC_c' noq_ok mixed t28 fun R hR => ?_
  have fin : ∀ (a : Int), a = wordF n raw → R (.int .i64 a) h := fun a hb => hR _ _ _ (Sub.refl _) ⟨by rw [hb], rfl⟩
  have g1 := Int.emod_nonneg n (show (24 : Int) ≠ 0 by omega)
  have g2 := Int.emod_lt_of_pos n (show (0 : Int) < 24 by omega)
  simp [c28, elems]
  refine (ac27 (by omega) (by omega)).mono ?_
  rintro v h' ⟨rfl, rfl⟩
  simp [r28_0, s28_0, Wc_ite]
  split
  · rename_i hk
    obtain ⟨k, hk2⟩ : ∃ k : Nat, n % 24 = k := ⟨(n % 24).toNat, by omega⟩
    have hk10 : k < 10 := by omega
    simp only [wordF, hk, if_true] at fin
    rw [hk2] at fin ⊢
    have q : k = 0 ∨ k = 1 ∨ k = 2 ∨ k = 3 ∨ k = 4 ∨ k = 5 ∨ k = 6 ∨ k = 7 ∨ k = 8 ∨ k = 9 := by omega
    rcases q with rfl | rfl | rfl | rfl | rfl | rfl | rfl | rfl | rfl | rfl <;> simp <;> exact fin _ rfl
  · rename_i hk
    simp [k28_0, Wc_ite]
    split
    · rename_i hk2
      simp [k28_1]
      refine (ac27 (by omega) (by omega)).mono ?_
      rintro v h' ⟨rfl, rfl⟩
      have g3 := Int.emod_nonneg (IntKind.i64.wrap (n.tdiv 24)) (show (17 : Int) ≠ 0 by omega)
      have g4 := Int.emod_lt_of_pos (IntKind.i64.wrap (n.tdiv 24)) (show (0 : Int) < 17 by omega)
      have w : IntKind.i64.wrap (IntKind.i64.wrap (n.tdiv 24) % 17 - 6) = IntKind.i64.wrap (n.tdiv 24) % 17 - 6 := wrap_id (by omega) (by omega)
      simp [r28_1, w]
      exact fin _ (by simp [wordF, hk, hk2])
    · rename_i hk2
      simp [s28_1]
      exact fin _ (by simp [wordF, hk, hk2])

theorem ac100 {b : Bool} : AC prog 100 [.bool b] h fun v h' => v = .int .i64 (if b then 1 else 0) ∧ h' = h := by
  refine AC_c' noq_ok mixed t100 fun R hR => ?_
  simp [c100, s100_0, Wc_ite]
  split <;> exact hR _ _ _ (Sub.refl _) ⟨by simp_all, rfl⟩

def divF (a b : Int) : Int := if b = 0 then 0 else if b = -1 then IntKind.i64.wrap (0 - a) else IntKind.i64.wrap (a.tdiv b)

theorem ac99 {a b : Int} : AC prog 99 [.int .i64 a, .int .i64 b] h fun v h' => v = .int .i64 (divF a b) ∧ h' = h := by
  refine AC_c' noq_ok mixed t99 fun R hR => ?_
  have fin : ∀ x : Int, x = divF a b → R (.int .i64 x) h := fun x hb => hR _ _ _ (Sub.refl _) ⟨by rw [hb], rfl⟩
  simp [c99, k99_0, s99_0, Wc_ite]
  repeat' split
  all_goals first
    | (refine fin _ ?_; simp_all [divF]; done)
    | trace_state

def unF (op a : Int) : Int := if op = 20 then IntKind.i64.wrap (0 - a) else if op = 21 then iNot .i64 a else 0

theorem ac68 {op a : Int} : AC prog 68 [.int .i64 op, .int .i64 a] h fun v h' => v = .int .i64 (unF op a) ∧ h' = h := by
  refine AC_c' noq_ok mixed t68 fun R hR => ?_
  have fin : ∀ x : Int, x = unF op a → R (.int .i64 x) h := fun x hb => hR _ _ _ (Sub.refl _) ⟨by rw [hb], rfl⟩
  simp [c68, k68_0, s68_0, Wc_ite]
  repeat' split
  all_goals first
    | (refine fin _ ?_; simp_all [unF, IntKind.bits, IntKind.signed]; done)
    | trace_state

/-- By how much Binary shifts. -/
def shF (b : Int) : Int := IntKind.u64.wrap (iAnd .i64 b 63)
theorem shF_nonneg (b : Int) : 0 ≤ shF b := by
  unfold shF
  generalize iAnd _ _ _ = x
  simp only [IntKind.wrap, IntKind.signed, IntKind.bits]
  simp
  omega

def binF (op a b : Int) : Int :=
  if op = 4 then IntKind.i64.wrap (a + b) else if op = 5 then IntKind.i64.wrap (a - b) else if op = 6 then IntKind.i64.wrap (a * b)
  else if op = 7 then divF a b
  else if op = 8 then (if b = 0 then 0 else IntKind.i64.wrap (a - IntKind.i64.wrap (divF a b * b)))
  else if op = 9 then iAnd .i64 a b
  else if op = 10 then iOr .i64 a b
  else if op = 11 then iXor .i64 a b
  else if op = 12 then IntKind.i64.wrap (a * 2 ^ (min (shF b).toNat IntKind.i64.bits))
  else if op = 13 then IntKind.i64.wrap ((IntKind.u64.wrap a).fdiv (2 ^ (min (shF b).toNat IntKind.u64.bits)))
  else if op = 14 then a.fdiv (2 ^ (min (shF b).toNat IntKind.i64.bits))
  else if op = 15 then (if a = b then 1 else 0) else if op = 16 then (if a = b then 0 else 1)
  else if op = 17 then (if a < b then 1 else 0) else if op = 18 then (if a ≤ b then 1 else 0)
  else if op = 19 then (if IntKind.u64.wrap a < IntKind.u64.wrap b then 1 else 0)
  else 0

theorem ac67_0 {op a b : Int} (q : op = 4 ∨ op = 5 ∨ op = 6 ∨ op = 7) : AC prog 67 [.int .i64 op, .int .i64 a, .int .i64 b] h fun v h' => v = .int .i64 (binF op a b) ∧ h' = h := by
  refine AC_c' noq_ok mixed t67 fun R hR => ?_
  have fin : ∀ x : Int, x = binF op a b → R (.int .i64 x) h := fun x hb => hR _ _ _ (Sub.refl _) ⟨by rw [hb], rfl⟩
  have hS := shF_nonneg b
  have hS' : ¬ shF b < 0 := by omega
  have hSd : IntKind.u64.wrap (iAnd .i64 b 63) = shF b := rfl
  rcases q with rfl | rfl | rfl | rfl
  · simp [c67, hSd, hS', s67_1, s67_2, k67_0, k67_1, k67_2, k67_3, k67_4, k67_5, k67_6, k67_7, k67_8, k67_9, k67_10, k67_11, k67_12, k67_13, k67_14, k67_15, k67_16, k67_17, k67_18, k67_19, k67_20]
    exact fin _ (by simp [binF])
  · simp [c67, hSd, hS', s67_1, s67_2, k67_0, k67_1, k67_2, k67_3, k67_4, k67_5, k67_6, k67_7, k67_8, k67_9, k67_10, k67_11, k67_12, k67_13, k67_14, k67_15, k67_16, k67_17, k67_18, k67_19, k67_20]
    exact fin _ (by simp [binF])
  · simp [c67, hSd, hS', s67_1, s67_2, k67_0, k67_1, k67_2, k67_3, k67_4, k67_5, k67_6, k67_7, k67_8, k67_9, k67_10, k67_11, k67_12, k67_13, k67_14, k67_15, k67_16, k67_17, k67_18, k67_19, k67_20]
    exact fin _ (by simp [binF])
  · simp [c67, hSd, hS', s67_1, s67_2, k67_0, k67_1, k67_2, k67_3, k67_4, k67_5, k67_6, k67_7, k67_8, k67_9, k67_10, k67_11, k67_12, k67_13, k67_14, k67_15, k67_16, k67_17, k67_18, k67_19, k67_20]
    refine ac99.mono ?_
    rintro v h' ⟨rfl, rfl⟩
    simp [r67_0]
    exact fin _ (by simp [binF])

theorem ac67_1 {op a b : Int} (q : op = 8 ∨ op = 9 ∨ op = 10 ∨ op = 11) : AC prog 67 [.int .i64 op, .int .i64 a, .int .i64 b] h fun v h' => v = .int .i64 (binF op a b) ∧ h' = h := by
  refine AC_c' noq_ok mixed t67 fun R hR => ?_
  have fin : ∀ x : Int, x = binF op a b → R (.int .i64 x) h := fun x hb => hR _ _ _ (Sub.refl _) ⟨by rw [hb], rfl⟩
  have hS := shF_nonneg b
  have hS' : ¬ shF b < 0 := by omega
  have hSd : IntKind.u64.wrap (iAnd .i64 b 63) = shF b := rfl
  rcases q with rfl | rfl | rfl | rfl
  · by_cases hb : b = 0
    · subst hb
      simp [c67, hSd, hS', s67_1, s67_2, k67_0, k67_1, k67_2, k67_3, k67_4, k67_5, k67_6, k67_7, k67_8, k67_9, k67_10, k67_11, k67_12, k67_13, k67_14, k67_15, k67_16, k67_17, k67_18, k67_19, k67_20]
      exact fin _ (by simp [binF])
    · have d : (b == 0) = false := by simp [hb]
      simp [c67, hSd, hS', s67_1, s67_2, k67_0, k67_1, k67_2, k67_3, k67_4, k67_5, k67_6, k67_7, k67_8, k67_9, k67_10, k67_11, k67_12, k67_13, k67_14, k67_15, k67_16, k67_17, k67_18, k67_19, k67_20, d, s67_0]
      refine ac99.mono ?_
      rintro v h' ⟨rfl, rfl⟩
      simp [r67_1]
      exact fin _ (by simp [binF, hb])
  · simp [c67, hSd, hS', s67_1, s67_2, k67_0, k67_1, k67_2, k67_3, k67_4, k67_5, k67_6, k67_7, k67_8, k67_9, k67_10, k67_11, k67_12, k67_13, k67_14, k67_15, k67_16, k67_17, k67_18, k67_19, k67_20]
    exact fin _ (by simp [binF])
  · simp [c67, hSd, hS', s67_1, s67_2, k67_0, k67_1, k67_2, k67_3, k67_4, k67_5, k67_6, k67_7, k67_8, k67_9, k67_10, k67_11, k67_12, k67_13, k67_14, k67_15, k67_16, k67_17, k67_18, k67_19, k67_20]
    exact fin _ (by simp [binF])
  · simp [c67, hSd, hS', s67_1, s67_2, k67_0, k67_1, k67_2, k67_3, k67_4, k67_5, k67_6, k67_7, k67_8, k67_9, k67_10, k67_11, k67_12, k67_13, k67_14, k67_15, k67_16, k67_17, k67_18, k67_19, k67_20]
    exact fin _ (by simp [binF])

theorem ac67_2 {op a b : Int} (q : op = 12 ∨ op = 13 ∨ op = 14) : AC prog 67 [.int .i64 op, .int .i64 a, .int .i64 b] h fun v h' => v = .int .i64 (binF op a b) ∧ h' = h := by
  refine AC_c' noq_ok mixed t67 fun R hR => ?_
  have fin : ∀ x : Int, x = binF op a b → R (.int .i64 x) h := fun x hb => hR _ _ _ (Sub.refl _) ⟨by rw [hb], rfl⟩
  have hS := shF_nonneg b
  have hS' : ¬ shF b < 0 := by omega
  have hSd : IntKind.u64.wrap (iAnd .i64 b 63) = shF b := rfl
  rcases q with rfl | rfl | rfl
  · simp [c67, hSd, hS', s67_1, s67_2, k67_0, k67_1, k67_2, k67_3, k67_4, k67_5, k67_6, k67_7, k67_8, k67_9, k67_10, k67_11, k67_12, k67_13, k67_14, k67_15, k67_16, k67_17, k67_18, k67_19, k67_20]
    exact fin _ (by simp [binF])
  · simp [c67, hSd, hS', s67_1, s67_2, k67_0, k67_1, k67_2, k67_3, k67_4, k67_5, k67_6, k67_7, k67_8, k67_9, k67_10, k67_11, k67_12, k67_13, k67_14, k67_15, k67_16, k67_17, k67_18, k67_19, k67_20]
    exact fin _ (by simp [binF])
  · simp [c67, hSd, hS', s67_1, s67_2, k67_0, k67_1, k67_2, k67_3, k67_4, k67_5, k67_6, k67_7, k67_8, k67_9, k67_10, k67_11, k67_12, k67_13, k67_14, k67_15, k67_16, k67_17, k67_18, k67_19, k67_20]
    exact fin _ (by simp [binF])

theorem ac67_3 {op a b : Int} (q : op = 15 ∨ op = 16 ∨ op = 17) : AC prog 67 [.int .i64 op, .int .i64 a, .int .i64 b] h fun v h' => v = .int .i64 (binF op a b) ∧ h' = h := by
  refine AC_c' noq_ok mixed t67 fun R hR => ?_
  have fin : ∀ x : Int, x = binF op a b → R (.int .i64 x) h := fun x hb => hR _ _ _ (Sub.refl _) ⟨by rw [hb], rfl⟩
  have hS := shF_nonneg b
  have hS' : ¬ shF b < 0 := by omega
  have hSd : IntKind.u64.wrap (iAnd .i64 b 63) = shF b := rfl
  rcases q with rfl | rfl | rfl
  · simp [c67, hSd, hS', s67_1, s67_2, k67_0, k67_1, k67_2, k67_3, k67_4, k67_5, k67_6, k67_7, k67_8, k67_9, k67_10, k67_11, k67_12, k67_13, k67_14, k67_15, k67_16, k67_17, k67_18, k67_19, k67_20]
    refine ac100.mono ?_
    rintro v h' ⟨rfl, rfl⟩
    simp [r67_2]
    exact fin _ (by simp [binF])
  · simp [c67, hSd, hS', s67_1, s67_2, k67_0, k67_1, k67_2, k67_3, k67_4, k67_5, k67_6, k67_7, k67_8, k67_9, k67_10, k67_11, k67_12, k67_13, k67_14, k67_15, k67_16, k67_17, k67_18, k67_19, k67_20]
    refine ac100.mono ?_
    rintro v h' ⟨rfl, rfl⟩
    simp [r67_3]
    exact fin _ (by simp [binF])
  · simp [c67, hSd, hS', s67_1, s67_2, k67_0, k67_1, k67_2, k67_3, k67_4, k67_5, k67_6, k67_7, k67_8, k67_9, k67_10, k67_11, k67_12, k67_13, k67_14, k67_15, k67_16, k67_17, k67_18, k67_19, k67_20]
    refine ac100.mono ?_
    rintro v h' ⟨rfl, rfl⟩
    simp [r67_4]
    exact fin _ (by simp [binF])

theorem ac67_4 {op a b : Int} (q : op = 18 ∨ op = 19) : AC prog 67 [.int .i64 op, .int .i64 a, .int .i64 b] h fun v h' => v = .int .i64 (binF op a b) ∧ h' = h := by
  refine AC_c' noq_ok mixed t67 fun R hR => ?_
  have fin : ∀ x : Int, x = binF op a b → R (.int .i64 x) h := fun x hb => hR _ _ _ (Sub.refl _) ⟨by rw [hb], rfl⟩
  have hS := shF_nonneg b
  have hS' : ¬ shF b < 0 := by omega
  have hSd : IntKind.u64.wrap (iAnd .i64 b 63) = shF b := rfl
  rcases q with rfl | rfl
  · simp [c67, hSd, hS', s67_1, s67_2, k67_0, k67_1, k67_2, k67_3, k67_4, k67_5, k67_6, k67_7, k67_8, k67_9, k67_10, k67_11, k67_12, k67_13, k67_14, k67_15, k67_16, k67_17, k67_18, k67_19, k67_20]
    refine ac100.mono ?_
    rintro v h' ⟨rfl, rfl⟩
    simp [r67_5]
    exact fin _ (by simp [binF])
  · simp [c67, hSd, hS', s67_1, s67_2, k67_0, k67_1, k67_2, k67_3, k67_4, k67_5, k67_6, k67_7, k67_8, k67_9, k67_10, k67_11, k67_12, k67_13, k67_14, k67_15, k67_16, k67_17, k67_18, k67_19, k67_20]
    refine ac100.mono ?_
    rintro v h' ⟨rfl, rfl⟩
    simp [r67_6]
    exact fin _ (by simp [binF])

theorem ac67_5 {op a b : Int} (q : op < 4 ∨ 19 < op) : AC prog 67 [.int .i64 op, .int .i64 a, .int .i64 b] h fun v h' => v = .int .i64 (binF op a b) ∧ h' = h := by
  refine AC_c' noq_ok mixed t67 fun R hR => ?_
  have fin : ∀ x : Int, x = binF op a b → R (.int .i64 x) h := fun x hb => hR _ _ _ (Sub.refl _) ⟨by rw [hb], rfl⟩
  have hS := shF_nonneg b
  have hS' : ¬ shF b < 0 := by omega
  have hSd : IntKind.u64.wrap (iAnd .i64 b 63) = shF b := rfl
  have n4 : ¬ op = 4 := by omega
  have d4 : (op == 4) = false := by simp [n4]
  have n5 : ¬ op = 5 := by omega
  have d5 : (op == 5) = false := by simp [n5]
  have n6 : ¬ op = 6 := by omega
  have d6 : (op == 6) = false := by simp [n6]
  have n7 : ¬ op = 7 := by omega
  have d7 : (op == 7) = false := by simp [n7]
  have n8 : ¬ op = 8 := by omega
  have d8 : (op == 8) = false := by simp [n8]
  have n9 : ¬ op = 9 := by omega
  have d9 : (op == 9) = false := by simp [n9]
  have n10 : ¬ op = 10 := by omega
  have d10 : (op == 10) = false := by simp [n10]
  have n11 : ¬ op = 11 := by omega
  have d11 : (op == 11) = false := by simp [n11]
  have n12 : ¬ op = 12 := by omega
  have d12 : (op == 12) = false := by simp [n12]
  have n13 : ¬ op = 13 := by omega
  have d13 : (op == 13) = false := by simp [n13]
  have n14 : ¬ op = 14 := by omega
  have d14 : (op == 14) = false := by simp [n14]
  have n15 : ¬ op = 15 := by omega
  have d15 : (op == 15) = false := by simp [n15]
  have n16 : ¬ op = 16 := by omega
  have d16 : (op == 16) = false := by simp [n16]
  have n17 : ¬ op = 17 := by omega
  have d17 : (op == 17) = false := by simp [n17]
  have n18 : ¬ op = 18 := by omega
  have d18 : (op == 18) = false := by simp [n18]
  have n19 : ¬ op = 19 := by omega
  have d19 : (op == 19) = false := by simp [n19]
  simp [c67, hSd, hS', s67_1, s67_2, k67_0, k67_1, k67_2, k67_3, k67_4, k67_5, k67_6, k67_7, k67_8, k67_9, k67_10, k67_11, k67_12, k67_13, k67_14, k67_15, k67_16, k67_17, k67_18, k67_19, k67_20, d4, d5, d6, d7, d8, d9, d10, d11, d12, d13, d14, d15, d16, d17, d18, d19]
  exact fin _ (by simp [binF, n4, n5, n6, n7, n8, n9, n10, n11, n12, n13, n14, n15, n16, n17, n18, n19])

theorem ac67 {op a b : Int} : AC prog 67 [.int .i64 op, .int .i64 a, .int .i64 b] h fun v h' => v = .int .i64 (binF op a b) ∧ h' = h := by
  have q : (op = 4 ∨ op = 5 ∨ op = 6 ∨ op = 7) ∨ (op = 8 ∨ op = 9 ∨ op = 10 ∨ op = 11) ∨ (op = 12 ∨ op = 13 ∨ op = 14) ∨ (op = 15 ∨ op = 16 ∨ op = 17) ∨ (op = 18 ∨ op = 19) ∨ (op < 4 ∨ 19 < op) := by omega
  rcases q with q | q | q | q | q | q
  · exact ac67_0 q
  · exact ac67_1 q
  · exact ac67_2 q
  · exact ac67_3 q
  · exact ac67_4 q
  · exact ac67_5 q

end
end Go.Abs
