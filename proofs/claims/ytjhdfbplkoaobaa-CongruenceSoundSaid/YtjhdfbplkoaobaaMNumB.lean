/- The code of the seeds' nodes: SameNode, allValues, nodeSort, Sorts, Sort, Next, of, contains, Nodes, Mutate, pairs. -/
import Derived.Test.YtjhdfbplkoaobaaMCalcC
import Derived.Test.YtjhdfbplkoaobaaProg
import Derived.KernelRfl
import Derived.Test.YtjhdfbplkoaobaaMNumA
import Derived.Test.YtjhdfbplkoaobaaMCongB
set_option linter.unusedVariables false
set_option linter.unusedSimpArgs false
namespace Go.Abs

/-- The rest. -/
def s54_2 : ACode := (.cregion [2, 3, 5] (.asg 5 (.o1 (.bin .add .num (.t 0) (.c (.int .i64 1))) (.t 5))
    .nil))

/-- The rest. -/
def s54_1 : ACode := (.seq (.block 1 (.seq (.cregion [2, 3, 5, 44] (.asg 44 (.o2 (.bin .neq .num (.t 0) (.t 1)) (.o1 (.load none (.t 0)) (.o2 (.idx 1 (.t 0) (.t 1)) (.o1 (.load none (.t 0)) (.o1 (.fld 2 (.t 0)) (.t 2))) (.t 5))) (.o1 (.load none (.t 0)) (.o2 (.idx 1 (.t 0) (.t 1)) (.o1 (.load none (.t 0)) (.o1 (.fld 2 (.t 0)) (.t 3))) (.t 5))))
    .nil))
  (.cond (.t 44) (.seq (.cregion [4] (.asg 4 (.c (.bool false))
    .nil))
  .ret) .skip)))
  (.seq (.keep [2, 3, 5]) s54_2))

/-- A loop's body. -/
def b54_0 : ACode := (.seq (.seq (.cregion [2, 3, 5, 31] (.asg 31 (.o2 (.bin .lss .num (.t 0) (.t 1)) (.t 5) (.o1 (.len (.t 0)) (.o1 (.load none (.t 0)) (.o1 (.fld 2 (.t 0)) (.t 2)))))
    .nil))
  (.cond (.t 31) .skip (.exit 0)))
  (.seq (.keep [2, 3, 5]) s54_1))

/-- A loop. -/
def l54_0 : ACode := .block 0 (.loop (.after b54_0 [2, 3, 5]))

/-- The rest. -/
def s54_3 : ACode := (.seq (.cregion [4] (.asg 4 (.c (.bool true))
    .nil))
  .ret)

/-- The rest. -/
def s54_0 : ACode := (.seq (.seq (.cregion [2, 3, 5] (.asg 5 (.c (.int .i64 0))
    .nil))
  (.seq (.keep [2, 3, 5]) l54_0))
  (.seq (.keep []) s54_3))

/-- The code. -/
def c54 : AFun := ⟨(.seq (.cregion [2, 3] (.op (some 2) (.boxp 24 3 (.t 0)) [(.t 0)]
    (.op (some 3) (.boxp 24 3 (.t 0)) [(.t 1)]
    .nil)))
  (.seq (.seq (.cregion [2, 3, 26] (.asg 26 (.or (.or (.o2 (.bin .neq .num (.t 0) (.t 1)) (.o1 (.load none (.t 0)) (.o1 (.fld 0 (.t 0)) (.t 2))) (.o1 (.load none (.t 0)) (.o1 (.fld 0 (.t 0)) (.t 3)))) (.o2 (.bin .neq .num (.t 0) (.t 1)) (.o1 (.load none (.t 0)) (.o1 (.fld 1 (.t 0)) (.t 2))) (.o1 (.load none (.t 0)) (.o1 (.fld 1 (.t 0)) (.t 3))))) (.o2 (.bin .neq .num (.t 0) (.t 1)) (.o1 (.len (.t 0)) (.o1 (.load none (.t 0)) (.o1 (.fld 2 (.t 0)) (.t 2)))) (.o1 (.len (.t 0)) (.o1 (.load none (.t 0)) (.o1 (.fld 2 (.t 0)) (.t 3))))))
    .nil))
  (.cond (.t 26) (.seq (.cregion [4] (.asg 4 (.c (.bool false))
    .nil))
  .ret) .skip))
  (.seq (.keep [2, 3]) s54_0))),
  [(.tmp 4)]⟩

theorem t54 : trFunC Go.Proofs.Try.prog (fun f => ([27, 28, 62, 64, 67, 68, 98, 125, 126, 158, 1000002, 1000003] : List Nat).contains f) [[2, 3], [2, 3, 26], [4], [2, 3, 5], [2, 3, 5, 31], [2, 3, 5, 44], [4], [2, 3, 5], [4]] 54 = some ⟨erase c54.code, c54.res⟩ := by kernel_rfl

/-- The rest. -/
def s127_1 : ACode := (.cregion [0, 3] (.asg 3 (.o1 (.bin .add .num (.t 0) (.c (.int .i64 1))) (.t 3))
    .nil))

/-- The rest. -/
def s127_0 : ACode := (.seq (.block 1 (.seq (.cregion [0, 3, 14] (.asg 14 (.o1 (.bin .neq .num (.t 0) (.c (.int .i64 1))) (.o1 (.load none (.t 0)) (.o2 (.idx 1 (.t 0) (.t 1)) (.t 0) (.t 3))))
    .nil))
  (.cond (.t 14) (.seq (.cregion [2] (.asg 2 (.c (.bool false))
    .nil))
  .ret) .skip)))
  (.seq (.keep [0, 3]) s127_1))

/-- A loop's body. -/
def b127_0 : ACode := (.seq (.seq (.cregion [0, 3, 7] (.asg 7 (.o2 (.bin .lss .num (.t 0) (.t 1)) (.t 3) (.o1 (.len (.t 0)) (.t 0)))
    .nil))
  (.cond (.t 7) .skip (.exit 0)))
  (.seq (.keep [0, 3]) s127_0))

/-- A loop. -/
def l127_0 : ACode := .block 0 (.loop (.after b127_0 [0, 3]))

/-- The rest. -/
def s127_2 : ACode := (.seq (.cregion [2] (.asg 2 (.c (.bool true))
    .nil))
  .ret)

/-- The code. -/
def c127 : AFun := ⟨(.seq (.cregion [0] .nil)
  (.seq (.seq (.cregion [0, 3] (.asg 3 (.c (.int .i64 0))
    .nil))
  (.seq (.keep [0, 3]) l127_0))
  (.seq (.keep []) s127_2))),
  [(.tmp 2)]⟩

theorem t127 : trFunC Go.Proofs.Try.prog (fun f => ([27, 28, 62, 64, 67, 68, 98, 125, 126, 158] : List Nat).contains f) [[0], [0, 3], [0, 3, 7], [0, 3, 14], [2], [0, 3], [2]] 127 = some ⟨erase c127.code, c127.res⟩ := by kernel_rfl

/-- The rest. -/
def s104_1 : ACode := (.seq (.cregion [6] (.asg 6 (.c (.int .i64 1))
    .nil))
  .ret)

/-- A branch. -/
def k104_0 : ACode := (.seq (.seq (.cregion [44] (.asg 44 (.o1 (.bin .eql .num (.t 0) (.c (.int .i64 0))) (.o1 (.bin .rem .num (.t 0) (.c (.int .i64 16))) (.o1 (.load none (.t 0)) (.o1 (.fld 1 (.t 0)) (.t 4)))))
    .nil))
  (.cond (.t 44) (.seq (.cregion [6] (.asg 6 (.c (.int .i64 2))
    .nil))
  .ret) .skip))
  (.seq (.keep []) s104_1))

/-- The rest. -/
def s104_2 : ACode := (.seq (.cregion [6] (.asg 6 (.o1 (.load none (.t 0)) (.o1 (.idx 1 (.t 0) (.c (.int .i64 1))) (.t 2)))
    .nil))
  .ret)

/-- A branch. -/
def k104_3 : ACode := (.seq (.seq (.cregion [2, 67] (.asg 67 (.or (.or (.o1 (.bin .neq .num (.t 0) (.c (.int .i64 1))) (.o1 (.load none (.t 0)) (.o1 (.idx 1 (.t 0) (.c (.int .i64 0))) (.t 2)))) (.o2 (.bin .neq .num (.t 0) (.t 1)) (.o1 (.load none (.t 0)) (.o1 (.idx 1 (.t 0) (.c (.int .i64 1))) (.t 2))) (.o1 (.load none (.t 0)) (.o1 (.idx 1 (.t 0) (.c (.int .i64 2))) (.t 2))))) (.o1 (.bin .eql .num (.t 0) (.c (.int .i64 3))) (.o1 (.load none (.t 0)) (.o1 (.idx 1 (.t 0) (.c (.int .i64 1))) (.t 2)))))
    .nil))
  (.cond (.t 67) (.seq (.cregion [6] (.asg 6 (.c (.int .i64 0))
    .nil))
  .ret) .skip))
  (.seq (.keep [2]) s104_2))

/-- The rest. -/
def s104_3 : ACode := (.seq (.cregion [6] (.asg 6 (.o1 (.bin .add .num (.t 0) (.c (.int .i64 1))) (.o1 (.qcall 126 [(.t 0), (.c (.int .i64 1))]) (.o1 (.bin .eql .num (.t 0) (.c (.int .i64 0))) (.o1 (.load none (.t 0)) (.o1 (.fld 1 (.t 0)) (.t 4))))))
    .nil))
  .ret)

/-- A branch. -/
def k104_7 : ACode := (.seq (.seq (.cregion [4, 111] (.asg 111 (.or (.o1 (.bin .neq .num (.t 0) (.c (.int .i64 3))) (.o1 (.load none (.t 0)) (.o1 (.idx 1 (.t 0) (.c (.int .i64 0))) (.t 2)))) (.o2 (.bin .geq .num (.t 0) (.t 1)) (.o1 (.load none (.t 0)) (.o1 (.fld 1 (.t 0)) (.t 4))) (.o1 (.bin .quo .num (.t 0) (.c (.int .i64 2))) (.o1 (.len (.t 0)) (.o1 (.load none (.t 0)) (.o1 (.fld 2 (.t 0)) (.o2 (.idx 3 (.t 0) (.t 1)) (.t 0) (.o1 (.load none (.t 0)) (.o1 (.idx 1 (.t 0) (.c (.int .i64 0))) (.o1 (.load none (.t 0)) (.o1 (.fld 2 (.t 0)) (.t 4))))))))))))
    .nil))
  (.cond (.t 111) (.seq (.cregion [6] (.asg 6 (.c (.int .i64 0))
    .nil))
  .ret) .skip))
  (.seq (.keep [4]) s104_3))

/-- The rest of a region. -/
def r104_0 : CTree := (.asg 6 (.o1 (.qcall 126 [(.t 0), (.c (.int .i64 2))]) (.o2 (.pick (.t 0) (.t 1) (.c (.bool false))) (.t 166) (.t 169)))
    .nil)

/-- A branch. -/
def k104_11 : ACode := (.seq (.cregion [6] (.asg 166 (.and (.and (.o1 (.bin .geq .num (.t 0) (.c (.int .i64 1))) (.o1 (.len (.t 0)) (.t 2))) (.o1 (.bin .leq .num (.t 0) (.c (.int .i64 7))) (.o1 (.len (.t 0)) (.t 2)))) (.o1 (.bin .eql .num (.t 0) (.c (.int .i64 2))) (.o1 (.load none (.t 0)) (.o1 (.idx 1 (.t 0) (.c (.int .i64 0))) (.t 2)))))
    (.opg (.t 166) true (some 169) (.call 127 [(.t 0)]) [(.o1 (.slS 1 (.t 0) (some (.c (.int .i64 1))) none none) (.t 2))]
    r104_0)))
  .ret)

/-- The rest of a region. -/
def r104_2 : CTree := (.asg 6 (.o1 (.qcall 126 [(.t 0), (.c (.int .i64 3))]) (.o2 (.pick (.t 0) (.t 1) (.c (.bool false))) (.t 210) (.t 215)))
    .nil)

/-- The rest of a region. -/
def r104_1 : CTree := (.asg 210 (.and (.o2 (.pick (.t 0) (.t 1) (.c (.bool false))) (.t 195) (.t 200)) (.o1 (.bin .eql .num (.t 0) (.c (.int .i64 2))) (.o1 (.load none (.t 0)) (.o2 (.idx 1 (.t 0) (.t 1)) (.t 2) (.o1 (.bin .add .num (.t 0) (.c (.int .i64 1))) (.t 9))))))
    (.opg (.t 210) true (some 215) (.call 127 [(.t 0)]) [(.o2 (.slS 1 (.t 0) (some (.t 1)) none none) (.t 2) (.o1 (.bin .add .num (.t 0) (.c (.int .i64 2))) (.t 9)))]
    r104_2))

/-- A branch. -/
def k104_13 : ACode := (.seq (.cregion [2, 9] (.asg 9 (.o1 (.bin .quo .num (.t 0) (.c (.int .i64 2))) (.o1 (.len (.t 0)) (.t 2)))
    .nil))
  (.seq (.cregion [6] (.asg 195 (.and (.and (.and (.o1 (.bin .eql .num (.t 0) (.c (.int .i64 1))) (.o1 (.bin .rem .num (.t 0) (.c (.int .i64 2))) (.o1 (.len (.t 0)) (.t 2)))) (.o1 (.bin .geq .num (.t 0) (.c (.int .i64 1))) (.t 9))) (.o1 (.bin .leq .num (.t 0) (.c (.int .i64 16))) (.t 9))) (.o1 (.bin .eql .num (.t 0) (.c (.int .i64 2))) (.o1 (.load none (.t 0)) (.o1 (.idx 1 (.t 0) (.c (.int .i64 0))) (.t 2)))))
    (.opg (.t 195) true (some 200) (.call 127 [(.t 0)]) [(.o2 (.slS 1 (.t 0) (some (.c (.int .i64 1))) (some (.t 1)) none) (.t 2) (.o1 (.bin .add .num (.t 0) (.c (.int .i64 1))) (.t 9)))]
    r104_1)))
  .ret))

/-- A branch. -/
def k104_12 : ACode := (.seq (.cregion [2, 172] (.asg 172 (.o1 (.bin .eql .num (.t 0) (.c (.int .i64 31))) (.t 38))
    .nil))
  (.cond (.t 172) (.seq (.keep [2]) k104_13) .skip))

/-- A branch. -/
def k104_10 : ACode := (.seq (.cregion [2, 38, 150] (.asg 150 (.o1 (.bin .eql .num (.t 0) (.c (.int .i64 30))) (.t 38))
    .nil))
  (.cond (.t 150) (.seq (.keep [2]) k104_11) (.seq (.keep [2, 38]) k104_12)))

/-- A branch. -/
def k104_9 : ACode := (.seq (.cregion [2, 38, 131] (.asg 131 (.o1 (.bin .eql .num (.t 0) (.c (.int .i64 28))) (.t 38))
    .nil))
  (.cond (.t 131) (.seq (.cregion [6] (.asg 6 (.o1 (.qcall 126 [(.t 0), (.c (.int .i64 2))]) (.and (.and (.o1 (.bin .eql .num (.t 0) (.c (.int .i64 2))) (.o1 (.load none (.t 0)) (.o1 (.idx 1 (.t 0) (.c (.int .i64 0))) (.t 2)))) (.o1 (.bin .eql .num (.t 0) (.c (.int .i64 1))) (.o1 (.load none (.t 0)) (.o1 (.idx 1 (.t 0) (.c (.int .i64 1))) (.t 2))))) (.o1 (.bin .eql .num (.t 0) (.c (.int .i64 1))) (.o1 (.load none (.t 0)) (.o1 (.idx 1 (.t 0) (.c (.int .i64 2))) (.t 2))))))
    .nil))
  .ret) (.seq (.keep [2, 38]) k104_10)))

/-- The rest. -/
def s104_4 : ACode := (.cond (.t 117) (.seq (.cregion [6] (.asg 6 (.o1 (.qcall 126 [(.t 0), (.c (.int .i64 2))]) (.and (.o1 (.bin .eql .num (.t 0) (.c (.int .i64 2))) (.o1 (.load none (.t 0)) (.o1 (.idx 1 (.t 0) (.c (.int .i64 0))) (.t 2)))) (.o1 (.bin .eql .num (.t 0) (.c (.int .i64 1))) (.o1 (.load none (.t 0)) (.o1 (.idx 1 (.t 0) (.c (.int .i64 1))) (.t 2))))))
    .nil))
  .ret) (.seq (.keep [2, 38]) k104_9))

/-- A branching and the rest. -/
def j104_0 : ACode := .seq (.after (.seq (.cregion [2, 38, 117] (.asg 117 (.o1 (.bin .eql .num (.t 0) (.c (.int .i64 27))) (.t 38))
    .nil))
  (.cond (.t 117) .skip (.cregion [2, 38, 117] (.asg 117 (.o1 (.bin .eql .num (.t 0) (.c (.int .i64 29))) (.t 38))
    .nil)))) [2, 38, 117])
  s104_4

/-- A branch. -/
def k104_8 : ACode := j104_0

/-- A branch. -/
def k104_6 : ACode := (.seq (.cregion [0, 2, 4, 38, 91] (.asg 91 (.o1 (.bin .eql .num (.t 0) (.c (.int .i64 25))) (.t 38))
    .nil))
  (.cond (.t 91) (.seq (.keep [0, 2, 4]) k104_7) (.seq (.keep [2, 38]) k104_8)))

/-- A branch. -/
def k104_5 : ACode := (.seq (.cregion [0, 2, 4, 38, 84] (.asg 84 (.o1 (.bin .eql .num (.t 0) (.c (.int .i64 24))) (.t 38))
    .nil))
  (.cond (.t 84) (.seq (.cregion [6] (.asg 6 (.o1 (.qcall 126 [(.t 0), (.c (.int .i64 1))]) (.o1 (.bin .eql .num (.t 0) (.c (.int .i64 2))) (.o1 (.load none (.t 0)) (.o1 (.idx 1 (.t 0) (.c (.int .i64 0))) (.t 2)))))
    .nil))
  .ret) (.seq (.keep [0, 2, 4, 38]) k104_6)))

/-- A branch. -/
def k104_4 : ACode := (.seq (.cregion [0, 2, 4, 38, 71] (.asg 71 (.o1 (.bin .eql .num (.t 0) (.c (.int .i64 23))) (.t 38))
    .nil))
  (.cond (.t 71) (.seq (.cregion [6] (.asg 6 (.o1 (.qcall 126 [(.t 0), (.c (.int .i64 1))]) (.and (.o1 (.bin .eql .num (.t 0) (.c (.int .i64 2))) (.o1 (.load none (.t 0)) (.o1 (.idx 1 (.t 0) (.c (.int .i64 0))) (.t 2)))) (.o1 (.bin .eql .num (.t 0) (.c (.int .i64 1))) (.o1 (.load none (.t 0)) (.o1 (.idx 1 (.t 0) (.c (.int .i64 1))) (.t 2))))))
    .nil))
  .ret) (.seq (.keep [0, 2, 4, 38]) k104_5)))

/-- A branch. -/
def k104_2 : ACode := (.seq (.cregion [0, 2, 4, 38, 47] (.asg 47 (.o1 (.bin .eql .num (.t 0) (.c (.int .i64 22))) (.t 38))
    .nil))
  (.cond (.t 47) (.seq (.keep [2]) k104_3) (.seq (.keep [0, 2, 4, 38]) k104_4)))

/-- A branch. -/
def k104_1 : ACode := (.seq (.cregion [0, 2, 4, 38, 45] (.asg 45 (.o1 (.bin .eql .num (.t 0) (.c (.int .i64 26))) (.t 38))
    .nil))
  (.cond (.t 45) (.seq (.cregion [6] (.asg 6 (.c (.int .i64 2))
    .nil))
  .ret) (.seq (.keep [0, 2, 4, 38]) k104_2)))

/-- The rest of a region. -/
def r104_3 : CTree := (.asg 6 (.o1 (.qcall 126 [(.t 0), (.c (.int .i64 1))]) (.t 219))
    .nil)

/-- The rest. -/
def s104_5 : ACode := (.seq (.cregion [6] (.op (some 219) (.call 127 [(.t 0)]) [(.t 2)]
    r104_3))
  .ret)

/-- The rest. -/
def s104_0 : ACode := (.seq (.seq (.cregion [0, 2, 4, 38] (.asg 38 (.o1 (.load none (.t 0)) (.o1 (.fld 0 (.t 0)) (.t 4)))
    .nil))
  (.block 0 (.seq (.cregion [0, 2, 4, 38, 39] (.asg 39 (.o1 (.bin .eql .num (.t 0) (.c (.int .i64 3))) (.t 38))
    .nil))
  (.cond (.t 39) (.seq (.keep [4]) k104_0) (.seq (.keep [0, 2, 4, 38]) k104_1)))))
  (.seq (.keep [2]) s104_5))

/-- The code. -/
def c104 : AFun := ⟨(.seq (.cregion [0, 2, 4] (.op (some 4) (.boxp 24 3 (.t 0)) [(.t 1)]
    .nil))
  (.seq (.cregion [0, 2, 4, 7, 8] (.chk (.o1 (.ext 1 (.t 0)) (.o1 (.qcall 62 [(.t 0)]) (.o1 (.load none (.t 0)) (.o1 (.fld 0 (.t 0)) (.t 4)))))
    (.asg 7 (.o1 (.ext 0 (.t 0)) (.o1 (.qcall 62 [(.t 0)]) (.o1 (.load none (.t 0)) (.o1 (.fld 0 (.t 0)) (.t 4)))))
    (.asg 8 (.o1 (.ext 1 (.t 0)) (.o1 (.qcall 62 [(.t 0)]) (.o1 (.load none (.t 0)) (.o1 (.fld 0 (.t 0)) (.t 4)))))
    .nil))))
  (.seq (.seq (.cregion [0, 2, 4, 36] (.chk (.gd (.gd (.o1 (.un .not (.t 0)) (.t 8)) false (.o1 (.bin .geq .num (.t 0) (.c (.int .i64 0))) (.t 7))) true (.o2 (.bin .neq .num (.t 0) (.t 1)) (.o1 (.len (.t 0)) (.o1 (.load none (.t 0)) (.o1 (.fld 2 (.t 0)) (.t 4)))) (.t 7)))
    (.asg 36 (.or (.or (.o1 (.un .not (.t 0)) (.t 8)) (.and (.gd (.o1 (.un .not (.t 0)) (.t 8)) false (.o1 (.bin .geq .num (.t 0) (.c (.int .i64 0))) (.t 7))) (.o2 (.bin .neq .num (.t 0) (.t 1)) (.o1 (.len (.t 0)) (.o1 (.load none (.t 0)) (.o1 (.fld 2 (.t 0)) (.t 4)))) (.t 7)))) (.o1 (.un .not (.t 0)) (.o2 (.qcall 125 [(.t 0), (.t 1)]) (.o1 (.load none (.t 0)) (.o1 (.fld 0 (.t 0)) (.t 4))) (.o1 (.load none (.t 0)) (.o1 (.fld 1 (.t 0)) (.t 4))))))
    .nil)))
  (.cond (.t 36) (.seq (.cregion [6] (.asg 6 (.c (.int .i64 0))
    .nil))
  .ret) .skip))
  (.seq (.keep [0, 2, 4]) s104_0)))),
  [(.tmp 6)]⟩

theorem t104 : trFunC Go.Proofs.Try.prog (fun f => ([27, 28, 62, 64, 67, 68, 98, 125, 126, 158, 1000004] : List Nat).contains f) [[0, 2, 4], [0, 2, 4, 7, 8], [0, 2, 4, 36], [6], [0, 2, 4, 38], [0, 2, 4, 38, 39], [44], [6], [6], [0, 2, 4, 38, 45], [6], [0, 2, 4, 38, 47], [2, 67], [6], [6], [0, 2, 4, 38, 71], [6], [0, 2, 4, 38, 84], [6], [0, 2, 4, 38, 91], [4, 111], [6], [6], [2, 38, 117], [2, 38, 117], [6], [2, 38, 131], [6], [2, 38, 150], [6], [2, 172], [2, 9], [6], [6]] 104 = some ⟨erase c104.code, c104.res⟩ := by kernel_rfl

/-- The rest of a region. -/
def r80_0 : CTree := (.asg 5 (.t 53)
    .nil)

/-- The rest. -/
def s80_2 : ACode := (.cregion [0, 3, 4, 5, 6, 7] (.op (some 52) (.buildSp 3 1 1 [(.int .i64 0)] [(0, (.t 0))]) [(.o1 (.load none (.t 0)) (.o2 (.idx 1 (.t 0) (.t 1)) (.t 3) (.t 8)))]
    (.op (some 53) (.app 3 1 8 (.t 0) (.t 1)) [(.t 5), (.t 52)]
    r80_0)))

/-- The rest. -/
def s80_3 : ACode := (.cregion [0, 3, 4, 5, 6, 7] (.asg 7 (.o1 (.bin .add .num (.t 0) (.c (.int .i64 1))) (.t 7))
    .nil))

/-- The rest. -/
def s80_1 : ACode := (.seq (.block 3 (.seq (.cregion [0, 3, 4, 5, 6, 7, 8] (.asg 8 (.o1 (.load none (.t 0)) (.o2 (.idx 1 (.t 0) (.t 1)) (.o1 (.load none (.t 0)) (.o1 (.fld 2 (.t 0)) (.o2 (.idx 3 (.t 0) (.t 1)) (.t 0) (.t 4)))) (.t 7)))
    .nil))
  (.seq (.seq (.cregion [0, 3, 4, 5, 6, 7, 8, 46] (.asg 46 (.or (.or (.o1 (.bin .lss .num (.t 0) (.c (.int .i64 0))) (.t 8)) (.o2 (.bin .geq .num (.t 0) (.t 1)) (.t 8) (.t 4))) (.o1 (.bin .eql .num (.t 0) (.c (.int .i64 0))) (.o1 (.load none (.t 0)) (.o2 (.idx 1 (.t 0) (.t 1)) (.t 3) (.t 8)))))
    .nil))
  (.cond (.t 46) (.seq (.cregion [0, 3, 4, 5, 6] (.asg 6 (.c (.bool false))
    .nil))
  (.exit 2)) .skip))
  (.seq (.keep [0, 3, 4, 5, 6, 7, 8]) s80_2))))
  (.seq (.keep [0, 3, 4, 5, 6, 7]) s80_3))

/-- A loop's body. -/
def b80_1 : ACode := (.seq (.seq (.cregion [0, 3, 4, 5, 6, 7, 22] (.asg 22 (.o2 (.bin .lss .num (.t 0) (.t 1)) (.t 7) (.o1 (.len (.t 0)) (.o1 (.load none (.t 0)) (.o1 (.fld 2 (.t 0)) (.o2 (.idx 3 (.t 0) (.t 1)) (.t 0) (.t 4))))))
    .nil))
  (.cond (.t 22) .skip (.exit 2)))
  (.seq (.keep [0, 3, 4, 5, 6, 7]) s80_1))

/-- A loop. -/
def l80_1 : ACode := .block 2 (.loop (.after b80_1 [0, 3, 4, 5, 6, 7]))

/-- The rest. -/
def s80_5 : ACode := (.cregion [0, 3, 4, 5, 54] (.asg 54 (.t 6)
    .nil))

/-- The rest of a region. -/
def r80_2 : CTree := (.asg 3 (.t 64)
    .nil)

/-- The rest of a region. -/
def r80_1 : CTree := (.op (some 63) (.buildSp 3 1 1 [(.int .i64 0)] [(0, (.t 0))]) [(.t 62)]
    (.op (some 64) (.app 3 1 8 (.t 0) (.t 1)) [(.t 3), (.t 63)]
    r80_2))

/-- A branch. -/
def k80_0 : ACode := (.cregion [0, 3, 4] (.op (some 62) (.call 104 [(.t 0), (.t 1), (.t 2)]) [(.t 0), (.o1 (.load (some 3) (.t 0)) (.o2 (.idx 3 (.t 0) (.t 1)) (.t 0) (.t 4))), (.t 5)]
    r80_1))

/-- The rest of a region. -/
def r80_3 : CTree := (.asg 3 (.t 67)
    .nil)

/-- A branch. -/
def k80_1 : ACode := (.cregion [0, 3, 4] (.op (some 66) (.buildSp 3 1 1 [(.int .i64 0)] [(0, (.c (.int .i64 0)))]) []
    (.op (some 67) (.app 3 1 8 (.t 0) (.t 1)) [(.t 3), (.t 66)]
    r80_3)))

/-- The rest. -/
def s80_6 : ACode := (.cond (.t 54) (.seq (.keep [0, 3, 4, 5]) k80_0) (.seq (.keep [0, 3, 4]) k80_1))

/-- The rest. -/
def s80_4 : ACode := (.seq (.seq .ghost
  (.seq (.keep [0, 3, 4, 5, 6]) s80_5))
  (.seq (.keep [0, 3, 4, 5, 54]) s80_6))

/-- The rest. -/
def s80_7 : ACode := (.cregion [0, 3, 4] (.asg 4 (.o1 (.bin .add .num (.t 0) (.c (.int .i64 1))) (.t 4))
    .nil))

/-- The rest. -/
def s80_0 : ACode := (.seq (.block 1 (.seq (.cregion [0, 3, 4, 5] (.asg 5 (.c .nils)
    .nil))
  (.seq (.cregion [0, 3, 4, 5, 6] (.asg 6 (.c (.bool true))
    .nil))
  (.seq (.seq (.cregion [0, 3, 4, 5, 6, 7] (.asg 7 (.c (.int .i64 0))
    .nil))
  (.seq (.keep [0, 3, 4, 5, 6, 7]) l80_1))
  (.seq (.keep [0, 3, 4, 5, 6]) s80_4)))))
  (.seq (.keep [0, 3, 4]) s80_7))

/-- A loop's body. -/
def b80_0 : ACode := (.seq (.seq (.cregion [0, 3, 4, 12] (.asg 12 (.o2 (.bin .lss .num (.t 0) (.t 1)) (.t 4) (.o1 (.len (.t 0)) (.t 0)))
    .nil))
  (.cond (.t 12) .skip (.exit 0)))
  (.seq (.keep [0, 3, 4]) s80_0))

/-- A loop. -/
def l80_0 : ACode := .block 0 (.loop (.after b80_0 [0, 3, 4]))

/-- The rest. -/
def s80_8 : ACode := (.seq (.cregion [2] (.asg 2 (.t 3)
    .nil))
  .ret)

/-- The code. -/
def c80 : AFun := ⟨(.seq (.cregion [0] .nil)
  (.seq (.cregion [0, 3] (.asg 3 (.c .nils)
    .nil))
  (.seq (.seq (.cregion [0, 3, 4] (.asg 4 (.c (.int .i64 0))
    .nil))
  (.seq (.keep [0, 3, 4]) l80_0))
  (.seq (.keep [3]) s80_8)))),
  [(.tmp 2)]⟩

theorem t80 : trFunC Go.Proofs.Try.prog (fun f => ([27, 28, 62, 64, 67, 68, 98, 125, 126, 158, 1000052, 1000063, 1000066] : List Nat).contains f) [[0], [0, 3], [0, 3, 4], [0, 3, 4, 12], [0, 3, 4, 5], [0, 3, 4, 5, 6], [0, 3, 4, 5, 6, 7], [0, 3, 4, 5, 6, 7, 22], [0, 3, 4, 5, 6, 7, 8], [0, 3, 4, 5, 6, 7, 8, 46], [0, 3, 4, 5, 6], [0, 3, 4, 5, 6, 7], [0, 3, 4, 5, 6, 7], [0, 3, 4, 5, 54], [0, 3, 4], [0, 3, 4], [0, 3, 4], [2]] 80 = some ⟨erase c80.code, c80.res⟩ := by kernel_rfl

/-- The rest of a region. -/
def r55_0 : CTree := (.asg 4 (.o1 (.load none (.t 0)) (.o2 (.idx 1 (.t 0) (.t 1)) (.t 17) (.t 1)))
    .nil)

/-- The rest. -/
def s55_0 : ACode := (.seq (.cregion [4] (.op (some 17) (.call 80 [(.t 0)]) [(.o2 (.slS 3 (.t 0) none (some (.t 1)) none) (.t 0) (.o1 (.bin .add .num (.t 0) (.c (.int .i64 1))) (.t 1)))]
    r55_0))
  .ret)

/-- The code. -/
def c55 : AFun := ⟨(.seq (.cregion [0, 1] .nil)
  (.seq (.seq (.cregion [0, 1, 12] (.asg 12 (.or (.o1 (.bin .lss .num (.t 0) (.c (.int .i64 0))) (.t 1)) (.o2 (.bin .geq .num (.t 0) (.t 1)) (.t 1) (.o1 (.len (.t 0)) (.t 0))))
    .nil))
  (.cond (.t 12) (.seq (.cregion [4] (.asg 4 (.c (.int .i64 0))
    .nil))
  .ret) .skip))
  (.seq (.keep [0, 1]) s55_0))),
  [(.tmp 4)]⟩

theorem t55 : trFunC Go.Proofs.Try.prog (fun f => ([27, 28, 62, 64, 67, 68, 98, 125, 126, 158] : List Nat).contains f) [[0, 1], [0, 1, 12], [4], [4]] 55 = some ⟨erase c55.code, c55.res⟩ := by kernel_rfl

/-- The rest. -/
def s65_0 : ACode := (.seq (.cregion [0, 3] (.asg 3 (.o1 (.load none (.t 0)) (.o1 (.idx 1 (.t 0) (.c (.int .i64 0))) (.o1 (.load none (.t 0)) (.o1 (.fld 0 (.t 0)) (.o1 (.nchk (.t 0)) (.t 0))))))
    .nil))
  (.seq (.cregion [3] (.op none (.store 1 (.t 0) (.t 1)) [(.o1 (.fld 0 (.t 0)) (.o1 (.nchk (.t 0)) (.t 0))), (.o1 (.slS 1 (.t 0) (some (.c (.int .i64 1))) none none) (.o1 (.load none (.t 0)) (.o1 (.fld 0 (.t 0)) (.o1 (.nchk (.t 0)) (.t 0)))))]
    .nil))
  (.seq (.cregion [2] (.asg 2 (.t 3)
    .nil))
  .ret)))

/-- The code. -/
def c65 : AFun := ⟨(.seq (.cregion [0] .nil)
  (.seq (.seq (.cregion [0, 9] (.asg 9 (.o1 (.bin .eql .num (.t 0) (.c (.int .i64 0))) (.o1 (.len (.t 0)) (.o1 (.load none (.t 0)) (.o1 (.fld 0 (.t 0)) (.o1 (.nchk (.t 0)) (.t 0))))))
    .nil))
  (.cond (.t 9) (.seq (.cregion [2] (.asg 2 (.c (.int .i64 0))
    .nil))
  .ret) .skip))
  (.seq (.keep [0]) s65_0))),
  [(.tmp 2)]⟩

theorem t65 : trFunC Go.Proofs.Try.prog (fun f => ([27, 28, 62, 64, 67, 68, 98, 125, 126, 158] : List Nat).contains f) [[0], [0, 9], [2], [0, 3], [3], [2]] 65 = some ⟨erase c65.code, c65.res⟩ := by kernel_rfl

/-- The rest of a region. -/
def r63_0 : CTree := (.asg 7 (.t 11)
    .nil)

/-- The rest of a region. -/
def r63_1 : CTree := (.asg 8 (.t 27)
    .nil)

/-- A branch. -/
def k63_0 : ACode := (.cregion [0, 1, 2, 7, 8, 9] (.op (some 26) (.buildSp 3 1 1 [(.int .i64 0)] [(0, (.t 0))]) [(.t 9)]
    (.op (some 27) (.app 3 1 8 (.t 0) (.t 1)) [(.t 8), (.t 26)]
    r63_1)))

/-- The rest. -/
def s63_2 : ACode := (.cregion [0, 1, 2, 7, 8, 9] (.asg 9 (.o1 (.bin .add .num (.t 0) (.c (.int .i64 1))) (.t 9))
    .nil))

/-- The rest. -/
def s63_1 : ACode := (.seq (.block 1 (.seq (.cregion [0, 1, 2, 7, 8, 9, 23] (.asg 23 (.o2 (.bin .eql .num (.t 0) (.t 1)) (.o1 (.load none (.t 0)) (.o2 (.idx 1 (.t 0) (.t 1)) (.t 7) (.t 9))) (.t 1))
    .nil))
  (.cond (.t 23) (.seq (.keep [0, 1, 2, 7, 8, 9]) k63_0) .skip)))
  (.seq (.keep [0, 1, 2, 7, 8, 9]) s63_2))

/-- A loop's body. -/
def b63_0 : ACode := (.seq (.seq (.cregion [0, 1, 2, 7, 8, 9, 15] (.asg 15 (.o2 (.bin .lss .num (.t 0) (.t 1)) (.t 9) (.o1 (.len (.t 0)) (.t 0)))
    .nil))
  (.cond (.t 15) .skip (.exit 0)))
  (.seq (.keep [0, 1, 2, 7, 8, 9]) s63_1))

/-- A loop. -/
def l63_0 : ACode := .block 0 (.loop (.after b63_0 [0, 1, 2, 7, 8, 9]))

/-- The rest. -/
def s63_3 : ACode := (.seq (.cregion [6] (.asg 6 (.o1 (.load none (.t 0)) (.o2 (.idx 1 (.t 0) (.t 1)) (.t 8) (.o2 (.bin .sub .num (.t 0) (.t 1)) (.o1 (.bin .sub .num (.t 0) (.c (.int .i64 1))) (.o1 (.len (.t 0)) (.t 8))) (.o2 (.qcall 27 [(.t 0), (.t 1)]) (.t 2) (.o1 (.len (.t 0)) (.t 8))))))
    .nil))
  .ret)

/-- The rest. -/
def s63_0 : ACode := (.seq (.cregion [0, 1, 2, 7, 8] (.asg 8 (.c .nils)
    .nil))
  (.seq (.seq (.cregion [0, 1, 2, 7, 8, 9] (.asg 9 (.c (.int .i64 0))
    .nil))
  (.seq (.keep [0, 1, 2, 7, 8, 9]) l63_0))
  (.seq (.keep [2, 8]) s63_3)))

/-- The code. -/
def c63 : AFun := ⟨(.seq (.cregion [0, 1, 2] .nil)
  (.seq (.cregion [0, 1, 2, 7] (.op (some 11) (.call 80 [(.t 0)]) [(.t 0)]
    r63_0))
  (.seq (.keep [0, 1, 2, 7]) s63_0))),
  [(.tmp 6)]⟩

theorem t63 : trFunC Go.Proofs.Try.prog (fun f => ([27, 28, 62, 64, 67, 68, 98, 125, 126, 158, 1000026] : List Nat).contains f) [[0, 1, 2], [0, 1, 2, 7], [0, 1, 2, 7, 8], [0, 1, 2, 7, 8, 9], [0, 1, 2, 7, 8, 9, 15], [0, 1, 2, 7, 8, 9, 23], [0, 1, 2, 7, 8, 9], [0, 1, 2, 7, 8, 9], [6]] 63 = some ⟨erase c63.code, c63.res⟩ := by kernel_rfl

/-- The rest. -/
def s66_1 : ACode := (.cond (.t 17) (.seq (.cregion [4] (.asg 4 (.c (.bool true))
    .nil))
  .ret) .skip)

/-- The rest. -/
def s66_2 : ACode := (.cregion [0, 3, 5] (.asg 5 (.o1 (.bin .add .num (.t 0) (.c (.int .i64 1))) (.t 5))
    .nil))

/-- The rest. -/
def s66_0 : ACode := (.seq (.block 1 (.seq (.cregion [0, 3, 5, 17] (.op (some 17) (.call 54 [(.t 0), (.t 1)]) [(.o1 (.load (some 3) (.t 0)) (.o2 (.idx 3 (.t 0) (.t 1)) (.t 0) (.t 5))), (.o1 (.load (some 3) (.t 0)) (.t 3))]
    .nil))
  (.seq (.keep [0, 3, 5, 17]) s66_1)))
  (.seq (.keep [0, 3, 5]) s66_2))

/-- A loop's body. -/
def b66_0 : ACode := (.seq (.seq (.cregion [0, 3, 5, 9] (.asg 9 (.o2 (.bin .lss .num (.t 0) (.t 1)) (.t 5) (.o1 (.len (.t 0)) (.t 0)))
    .nil))
  (.cond (.t 9) .skip (.exit 0)))
  (.seq (.keep [0, 3, 5]) s66_0))

/-- A loop. -/
def l66_0 : ACode := .block 0 (.loop (.after b66_0 [0, 3, 5]))

/-- The rest. -/
def s66_3 : ACode := (.seq (.cregion [4] (.asg 4 (.c (.bool false))
    .nil))
  .ret)

/-- The code. -/
def c66 : AFun := ⟨(.seq (.cregion [0, 3] (.op (some 3) (.boxp 24 3 (.t 0)) [(.t 1)]
    .nil))
  (.seq (.seq (.cregion [0, 3, 5] (.asg 5 (.c (.int .i64 0))
    .nil))
  (.seq (.keep [0, 3, 5]) l66_0))
  (.seq (.keep []) s66_3))),
  [(.tmp 4)]⟩

theorem t66 : trFunC Go.Proofs.Try.prog (fun f => ([27, 28, 62, 64, 67, 68, 98, 125, 126, 158, 1000003] : List Nat).contains f) [[0, 3], [0, 3, 5], [0, 3, 5, 9], [0, 3, 5, 17], [4], [0, 3, 5], [4]] 66 = some ⟨erase c66.code, c66.res⟩ := by kernel_rfl

/-- The rest of a region. -/
def r24_0 : CTree := (.asg 5 (.t 15)
    .nil)

/-- The rest. -/
def s24_1 : ACode := (.cregion [0, 1, 5, 6] (.asg 6 (.c (.int .i64 0))
    .nil))

/-- The rest of a region. -/
def r24_1 : CTree := (.asg 7 (.t 43)
    .nil)

/-- The rest of a region. -/
def r24_2 : CTree := (.op none (.store 3 (.t 0) (.t 1)) [(.t 8), (.t 50)]
    .nil)

/-- A branch. -/
def k24_0 : ACode := (.cregion [0, 1, 5, 6, 7, 8] (.op (some 61) (.buildSp 3 1 5 [(.int .i64 0)] [(0, (.c (.int .i64 23))), (1, (.c (.int .i64 27))), (2, (.c (.int .i64 28))), (3, (.c (.int .i64 29))), (4, (.c (.int .i64 24)))]) []
    (.op none (.store 1 (.t 0) (.t 1)) [(.o1 (.fld 0 (.t 0)) (.t 8)), (.o1 (.load none (.t 0)) (.o2 (.idx 1 (.t 0) (.t 1)) (.t 61) (.o1 (.qcall 27 [(.t 0), (.c (.int .i64 5))]) (.o1 (.bin .quo .num (.t 0) (.c (.int .i64 9))) (.o1 (.load none (.t 0)) (.o2 (.idx 1 (.t 0) (.t 1)) (.t 0) (.t 6)))))))]
    .nil)))

/-- The rest of a region. -/
def r24_5 : CTree := (.op none (.store 1 (.t 0) (.t 1)) [(.o1 (.fld 2 (.t 0)) (.t 8)), (.t 110)]
    .nil)

/-- The rest of a region. -/
def r24_4 : CTree := (.op (some 109) (.buildSp 3 1 1 [(.int .i64 0)] [(0, (.t 0))]) [(.t 108)]
    (.op (some 110) (.app 3 1 8 (.t 0) (.t 1)) [(.t 100), (.t 109)]
    r24_5))

/-- The rest of a region. -/
def r24_3 : CTree := (.op (some 108) (.call 63 [(.t 0), (.t 1), (.t 2)]) [(.t 5), (.t 105), (.t 107)]
    r24_4)

/-- The rest of a region. -/
def r24_8 : CTree := (.op none (.store 1 (.t 0) (.t 1)) [(.o1 (.fld 2 (.t 0)) (.t 8)), (.t 110)]
    .nil)

/-- The rest of a region. -/
def r24_7 : CTree := (.op (some 109) (.buildSp 3 1 1 [(.int .i64 0)] [(0, (.t 0))]) [(.t 108)]
    (.op (some 110) (.app 3 1 8 (.t 0) (.t 1)) [(.t 100), (.t 109)]
    r24_8))

/-- The rest of a region. -/
def r24_10 : CTree := (.op none (.store 1 (.t 0) (.t 1)) [(.o1 (.fld 2 (.t 0)) (.t 8)), (.t 110)]
    .nil)

/-- The rest of a region. -/
def r24_9 : CTree := (.asg 100 (.o1 (.load none (.t 0)) (.o1 (.fld 2 (.t 0)) (.t 8)))
    (.op (some 109) (.buildSp 3 1 1 [(.int .i64 0)] [(0, (.t 0))]) [(.t 108)]
    (.op (some 110) (.app 3 1 8 (.t 0) (.t 1)) [(.t 100), (.t 109)]
    r24_10)))

/-- The rest of a region. -/
def r24_6 : CTree := (.both (.asg 100 (.o1 (.load none (.t 0)) (.o1 (.fld 2 (.t 0)) (.t 8)))
    (.op (some 108) (.call 63 [(.t 0), (.t 1), (.t 2)]) [(.t 5), (.t 105), (.t 107)]
    r24_7)) (.op (some 108) (.call 63 [(.t 0), (.t 1), (.t 2)]) [(.t 5), (.t 105), (.t 107)]
    r24_9))

/-- The rest. -/
def s24_9 : ACode := (.cregion [0, 1, 5, 6, 7, 8, 9, 11] (.asg 11 (.o1 (.bin .add .num (.t 0) (.c (.int .i64 1))) (.t 11))
    .nil))

/-- The rest. -/
def s24_8 : ACode := (.seq (.block 3 (.cregion [0, 1, 5, 6, 7, 8, 9, 11] (.both (.asg 100 (.o1 (.load none (.t 0)) (.o1 (.fld 2 (.t 0)) (.t 8)))
    (.asg 105 (.o2 (.qcall 64 [(.t 0), (.t 1)]) (.o1 (.load none (.t 0)) (.o1 (.fld 0 (.t 0)) (.t 8))) (.t 11))
    (.op (some 107) (.call 65 [(.t 0)]) [(.t 7)]
    r24_3))) (.asg 105 (.o2 (.qcall 64 [(.t 0), (.t 1)]) (.o1 (.load none (.t 0)) (.o1 (.fld 0 (.t 0)) (.t 8))) (.t 11))
    (.chk (.o1 (.fld 2 (.t 0)) (.t 8))
    (.op (some 107) (.call 65 [(.t 0)]) [(.t 7)]
    r24_6))))))
  (.seq (.keep [0, 1, 5, 6, 7, 8, 9, 11]) s24_9))

/-- A loop's body. -/
def b24_1 : ACode := (.seq (.seq (.cregion [0, 1, 5, 6, 7, 8, 9, 11, 96] (.asg 96 (.o2 (.bin .lss .num (.t 0) (.t 1)) (.t 11) (.t 9))
    .nil))
  (.cond (.t 96) .skip (.exit 2)))
  (.seq (.keep [0, 1, 5, 6, 7, 8, 9, 11]) s24_8))

/-- A loop. -/
def l24_1 : ACode := .block 2 (.loop (.after b24_1 [0, 1, 5, 6, 7, 8, 9, 11]))

/-- The rest of a region. -/
def r24_11 : CTree := (.asg 141 (.o1 (.un .not (.t 0)) (.t 140))
    .nil)

/-- The rest. -/
def s24_13 : ACode := (.cregion [0, 1, 5, 6, 8, 141] (.op (some 140) (.call 66 [(.t 0), (.t 1)]) [(.t 5), (.o1 (.load (some 3) (.t 0)) (.t 8))]
    r24_11))

/-- The rest of a region. -/
def r24_12 : CTree := (.asg 5 (.t 145)
    .nil)

/-- A branch. -/
def k24_1 : ACode := (.cregion [0, 1, 5, 6] (.op (some 144) (.buildSp 24 3 1 [(.int .i64 0), (.int .i64 0), .nils] [(0, (.t 0))]) [(.o1 (.load (some 3) (.t 0)) (.t 8))]
    (.op (some 145) (.app 24 3 40 (.t 0) (.t 1)) [(.t 5), (.t 144)]
    r24_12)))

/-- The rest. -/
def s24_14 : ACode := (.cond (.t 141) (.seq (.keep [0, 1, 5, 6, 8]) k24_1) .skip)

/-- The rest. -/
def s24_12 : ACode := (.seq (.seq .ghost
  (.seq (.keep [0, 1, 5, 6, 8]) s24_13))
  (.seq (.keep [0, 1, 5, 6, 8, 141]) s24_14))

/-- A branching and the rest. -/
def j24_3 : ACode := .seq (.after (.seq (.cregion [0, 1, 5, 6, 8, 130] (.asg 130 (.or (.o1 (.bin .eql .num (.t 0) (.c (.int .i64 23))) (.o1 (.load none (.t 0)) (.o1 (.fld 0 (.t 0)) (.t 8)))) (.o1 (.bin .eql .num (.t 0) (.c (.int .i64 28))) (.o1 (.load none (.t 0)) (.o1 (.fld 0 (.t 0)) (.t 8)))))
    .nil))
  (.cond (.t 130) (.cregion [0, 1, 5, 6, 8] (.op none (.store 1 (.t 0) (.t 1)) [(.o1 (.fld 1 (.t 0)) (.t 8)), (.o1 (.qcall 27 [(.t 0), (.c (.int .i64 2))]) (.o1 (.bin .quo .num (.t 0) (.c (.int .i64 5))) (.o1 (.load none (.t 0)) (.o2 (.idx 1 (.t 0) (.t 1)) (.t 0) (.t 6)))))]
    .nil)) .skip)) [0, 1, 5, 6, 8])
  s24_12

/-- The rest. -/
def s24_11 : ACode := j24_3

/-- A branching and the rest. -/
def j24_2 : ACode := .seq (.after (.seq (.cregion [0, 1, 5, 6, 8, 114] (.asg 114 (.o1 (.bin .eql .num (.t 0) (.c (.int .i64 27))) (.o1 (.load none (.t 0)) (.o1 (.fld 0 (.t 0)) (.t 8))))
    .nil))
  (.cond (.t 114) (.cregion [0, 1, 5, 6, 8] (.op none (.store 1 (.t 0) (.t 1)) [(.o1 (.fld 1 (.t 0)) (.t 8)), (.o1 (.bin .add .num (.c (.int .i64 1)) (.t 0)) (.o1 (.qcall 27 [(.t 0), (.c (.int .i64 2))]) (.o1 (.bin .quo .num (.t 0) (.c (.int .i64 5))) (.o1 (.load none (.t 0)) (.o2 (.idx 1 (.t 0) (.t 1)) (.t 0) (.t 6))))))]
    .nil)) .skip)) [0, 1, 5, 6, 8])
  s24_11

/-- The rest. -/
def s24_10 : ACode := j24_2

/-- The rest. -/
def s24_7 : ACode := (.seq (.cregion [0, 1, 5, 6, 7, 8, 9] (.chk (.o1 (.ext 1 (.t 0)) (.o1 (.qcall 62 [(.t 0)]) (.o1 (.load none (.t 0)) (.o1 (.fld 0 (.t 0)) (.t 8)))))
    (.asg 9 (.o1 (.ext 0 (.t 0)) (.o1 (.qcall 62 [(.t 0)]) (.o1 (.load none (.t 0)) (.o1 (.fld 0 (.t 0)) (.t 8)))))
    (.chk (.o1 (.ext 1 (.t 0)) (.o1 (.qcall 62 [(.t 0)]) (.o1 (.load none (.t 0)) (.o1 (.fld 0 (.t 0)) (.t 8)))))
    .nil))))
  (.seq (.seq (.cregion [0, 1, 5, 6, 7, 8, 9, 11] (.asg 11 (.c (.int .i64 0))
    .nil))
  (.seq (.keep [0, 1, 5, 6, 7, 8, 9, 11]) l24_1))
  (.seq (.keep [0, 1, 5, 6, 8]) s24_10)))

/-- A branching and the rest. -/
def j24_1 : ACode := .seq (.after (.seq (.cregion [0, 1, 5, 6, 7, 8, 76] (.asg 76 (.o1 (.bin .eql .num (.t 0) (.c (.int .i64 0))) (.o1 (.qcall 27 [(.t 0), (.c (.int .i64 11))]) (.o1 (.load none (.t 0)) (.o2 (.idx 1 (.t 0) (.t 1)) (.t 0) (.t 6)))))
    .nil))
  (.cond (.t 76) (.cregion [0, 1, 5, 6, 7, 8] (.op none (.store 3 (.t 0) (.t 1)) [(.t 8), (.o1 (.build [(.int .i64 0), (.int .i64 0), .nils] [(0, (1, (.c (.int .i64 1)))), (1, (1, (.t 0)))]) (.o2 (.qcall 28 [(.t 0), (.t 1)]) (.o1 (.bin .quo .num (.t 0) (.c (.int .i64 11))) (.o1 (.load none (.t 0)) (.o2 (.idx 1 (.t 0) (.t 1)) (.t 0) (.t 6)))) (.o1 (.load none (.t 0)) (.o2 (.idx 1 (.t 0) (.t 1)) (.t 0) (.t 6)))))]
    .nil)) .skip)) [0, 1, 5, 6, 7, 8])
  s24_7

/-- The rest. -/
def s24_6 : ACode := j24_1

/-- A branching and the rest. -/
def j24_0 : ACode := .seq (.after (.seq (.cregion [0, 1, 5, 6, 7, 8, 60] (.asg 60 (.and (.o1 (.un .not (.t 0)) (.t 1)) (.o1 (.bin .gtr .num (.t 0) (.c (.int .i64 5))) (.o1 (.qcall 27 [(.t 0), (.c (.int .i64 9))]) (.o1 (.load none (.t 0)) (.o2 (.idx 1 (.t 0) (.t 1)) (.t 0) (.t 6))))))
    .nil))
  (.cond (.t 60) (.seq (.keep [0, 1, 5, 6, 7, 8]) k24_0) .skip)) [0, 1, 5, 6, 7, 8])
  s24_6

/-- The rest. -/
def s24_5 : ACode := j24_0

/-- The rest. -/
def s24_4 : ACode := (.seq (.cregion [0, 1, 5, 6, 7, 8] (.asg 50 (.o1 (.build [(.int .i64 0), (.int .i64 0), .nils] [(0, (1, (.t 0)))]) (.o1 (.bin .add .num (.c (.int .i64 4)) (.t 0)) (.o1 (.qcall 27 [(.t 0), (.c (.int .i64 19))]) (.o1 (.load none (.t 0)) (.o2 (.idx 1 (.t 0) (.t 1)) (.t 0) (.t 6))))))
    (.op (some 8) (.alloc 24 [(.int .i64 0), (.int .i64 0), .nils]) []
    r24_2)))
  (.seq (.keep [0, 1, 5, 6, 7, 8]) s24_5))

/-- The rest. -/
def s24_15 : ACode := (.cregion [0, 1, 5, 6] (.asg 6 (.o1 (.bin .add .num (.t 0) (.c (.int .i64 1))) (.t 6))
    .nil))

/-- The rest. -/
def s24_3 : ACode := (.seq (.block 1 (.seq (.cregion [0, 1, 5, 6, 7] (.op (some 41) (.buildSp 3 1 3 [(.int .i64 0)] [(0, (.t 0)), (1, (.t 1)), (2, (.t 2))]) [(.o1 (.bin .quo .num (.t 0) (.c (.int .i64 7))) (.o1 (.load none (.t 0)) (.o2 (.idx 1 (.t 0) (.t 1)) (.t 0) (.t 6)))), (.o1 (.bin .quo .num (.t 0) (.c (.int .i64 101))) (.o1 (.load none (.t 0)) (.o2 (.idx 1 (.t 0) (.t 1)) (.t 0) (.t 6)))), (.o1 (.bin .quo .num (.t 0) (.c (.int .i64 1009))) (.o1 (.load none (.t 0)) (.o2 (.idx 1 (.t 0) (.t 1)) (.t 0) (.t 6))))]
    (.op (some 43) (.box 106 2 (.t 0)) [(.o1 (.build [.nils, (.int .i64 0)] [(0, (1, (.t 0)))]) (.t 41))]
    r24_1)))
  (.seq (.keep [0, 1, 5, 6, 7]) s24_4)))
  (.seq (.keep [0, 1, 5, 6]) s24_15))

/-- A loop's body. -/
def b24_0 : ACode := (.seq (.seq (.cregion [0, 1, 5, 6, 23] (.asg 23 (.and (.o2 (.bin .lss .num (.t 0) (.t 1)) (.t 6) (.o1 (.len (.t 0)) (.t 0))) (.o1 (.bin .lss .num (.t 0) (.c (.int .i64 14))) (.t 6)))
    .nil))
  (.cond (.t 23) .skip (.exit 0)))
  (.seq (.keep [0, 1, 5, 6]) s24_3))

/-- A loop. -/
def l24_0 : ACode := .block 0 (.loop (.after b24_0 [0, 1, 5, 6]))

/-- The rest. -/
def s24_2 : ACode := (.seq (.keep [0, 1, 5, 6]) l24_0)

/-- The rest. -/
def s24_16 : ACode := (.seq (.cregion [4] (.asg 4 (.t 5)
    .nil))
  .ret)

/-- The rest. -/
def s24_0 : ACode := (.seq (.seq (.seq .ghost
  (.seq (.keep [0, 1, 5]) s24_1))
  (.seq (.keep [0, 1, 5, 6]) s24_2))
  (.seq (.keep [5]) s24_16))

/-- The code. -/
def c24 : AFun := ⟨(.seq (.cregion [0, 1] .nil)
  (.seq (.cregion [0, 1, 5] (.op (some 15) (.buildS 24 3 3 [(.int .i64 0), (.int .i64 0), .nils] [(0, (.t 0)), (1, (.t 1)), (2, (.t 2))]) [(.o0 (.build [(.int .i64 0), (.int .i64 0), .nils] [(0, (1, (.c (.int .i64 2))))])), (.o0 (.build [(.int .i64 0), (.int .i64 0), .nils] [(0, (1, (.c (.int .i64 2)))), (1, (1, (.c (.int .i64 1))))])), (.o0 (.build [(.int .i64 0), (.int .i64 0), .nils] [(0, (1, (.c (.int .i64 26))))]))]
    r24_0))
  (.seq (.keep [0, 1, 5]) s24_0))),
  [(.tmp 4)]⟩

theorem t24 : trFunC Go.Proofs.Try.prog (fun f => ([27, 28, 62, 64, 67, 68, 98, 125, 126, 158, 1000041, 1000061, 1000109, 1000144] : List Nat).contains f) [[0, 1], [0, 1, 5], [0, 1, 5, 6], [0, 1, 5, 6, 23], [0, 1, 5, 6, 7], [0, 1, 5, 6, 7, 8], [0, 1, 5, 6, 7, 8, 60], [0, 1, 5, 6, 7, 8], [0, 1, 5, 6, 7, 8, 76], [0, 1, 5, 6, 7, 8], [0, 1, 5, 6, 7, 8, 9], [0, 1, 5, 6, 7, 8, 9, 11], [0, 1, 5, 6, 7, 8, 9, 11, 96], [0, 1, 5, 6, 7, 8, 9, 11], [0, 1, 5, 6, 7, 8, 9, 11], [0, 1, 5, 6, 8, 114], [0, 1, 5, 6, 8], [0, 1, 5, 6, 8, 130], [0, 1, 5, 6, 8], [0, 1, 5, 6, 8, 141], [0, 1, 5, 6], [0, 1, 5, 6], [4]] 24 = some ⟨erase c24.code, c24.res⟩ := by kernel_rfl

/-- The rest of a region. -/
def r25_1 : CTree := (.asg 7 (.t 12)
    .nil)

/-- The rest of a region. -/
def r25_0 : CTree := (.op (some 12) (.app 24 3 40 (.t 0) (.t 1)) [(.t 10), (.t 0)]
    r25_1)

/-- The rest of a region. -/
def r25_2 : CTree := (.op none (.store 3 (.t 0) (.t 1)) [(.t 9), (.t 24)]
    .nil)

/-- The rest of a region. -/
def r25_4 : CTree := (.op none (.store 1 (.t 0) (.t 1)) [(.o1 (.fld 2 (.t 0)) (.t 9)), (.t 28)]
    .nil)

/-- The rest of a region. -/
def r25_3 : CTree := (.op (some 28) (.app 3 1 8 (.t 0) (.t 1)) [(.t 25), (.o1 (.load none (.t 0)) (.o1 (.fld 2 (.t 0)) (.t 9)))]
    r25_4)

/-- The rest of a region. -/
def r25_5 : CTree := (.op none (.store 1 (.t 0) (.t 1)) [(.o1 (.fld 2 (.t 0)) (.t 9)), (.t 58)]
    .nil)

/-- A branch. -/
def k25_2 : ACode := (.cregion [7, 8, 9] (.asg 49 (.o1 (.load none (.t 0)) (.o1 (.fld 2 (.t 0)) (.t 9)))
    (.op (some 57) (.buildSp 3 1 1 [(.int .i64 0)] [(0, (.t 0))]) [(.o1 (.bin .sub .num (.t 0) (.c (.int .i64 1))) (.o2 (.qcall 27 [(.t 0), (.t 1)]) (.o1 (.bin .quo .num (.t 0) (.c (.int .i64 10))) (.t 1)) (.o1 (.bin .add .num (.t 0) (.c (.int .i64 2))) (.o1 (.len (.t 0)) (.t 7)))))]
    (.op (some 58) (.app 3 1 8 (.t 0) (.t 1)) [(.t 49), (.t 57)]
    r25_5))))

/-- A branch. -/
def k25_4 : ACode := (.seq (.cregion [1, 2, 7, 8, 9, 65] (.asg 65 (.o1 (.bin .gtr .num (.t 0) (.c (.int .i64 0))) (.o1 (.len (.t 0)) (.o1 (.load none (.t 0)) (.o1 (.fld 2 (.t 0)) (.t 9)))))
    .nil))
  (.cond (.t 65) (.cregion [7, 8, 9] (.op none (.store 1 (.t 0) (.t 1)) [(.o2 (.idx 1 (.t 0) (.t 1)) (.o1 (.load none (.t 0)) (.o1 (.fld 2 (.t 0)) (.t 9))) (.o2 (.qcall 27 [(.t 0), (.t 1)]) (.o1 (.bin .quo .num (.t 0) (.c (.int .i64 10))) (.t 1)) (.o1 (.len (.t 0)) (.o1 (.load none (.t 0)) (.o1 (.fld 2 (.t 0)) (.t 9)))))), (.o1 (.bin .sub .num (.t 0) (.c (.int .i64 1))) (.o2 (.qcall 27 [(.t 0), (.t 1)]) (.o1 (.bin .quo .num (.t 0) (.c (.int .i64 3))) (.t 2)) (.o1 (.bin .add .num (.t 0) (.c (.int .i64 2))) (.o1 (.len (.t 0)) (.t 7)))))]
    .nil)) .skip))

/-- A branch. -/
def k25_6 : ACode := (.seq (.cregion [7, 8, 9, 87] (.asg 87 (.o1 (.bin .gtr .num (.t 0) (.c (.int .i64 0))) (.o1 (.len (.t 0)) (.o1 (.load none (.t 0)) (.o1 (.fld 2 (.t 0)) (.t 9)))))
    .nil))
  (.cond (.t 87) (.cregion [7, 8, 9] (.op none (.store 1 (.t 0) (.t 1)) [(.o1 (.fld 2 (.t 0)) (.t 9)), (.o1 (.slS 1 (.t 0) (some (.c (.int .i64 1))) none none) (.o1 (.load none (.t 0)) (.o1 (.fld 2 (.t 0)) (.t 9))))]
    .nil)) .skip))

/-- The rest of a region. -/
def r25_6 : CTree := (.asg 7 (.t 97)
    .nil)

/-- A branch. -/
def k25_8 : ACode := (.cregion [7, 8, 9] (.op (some 96) (.buildSp 24 3 1 [(.int .i64 0), (.int .i64 0), .nils] [(0, (.t 0))]) [(.o1 (.load (some 3) (.t 0)) (.t 9))]
    (.op (some 97) (.app 24 3 40 (.t 0) (.t 1)) [(.t 7), (.t 96)]
    r25_6)))

/-- A branch. -/
def k25_10 : ACode := (.seq (.cregion [1, 7, 8, 9] (.op none (.store 1 (.t 0) (.c (.int .i64 3))) [(.o1 (.fld 0 (.t 0)) (.t 9))]
    .nil))
  (.seq (.cregion [7, 8, 9] (.op none (.store 1 (.t 0) (.t 1)) [(.o1 (.fld 1 (.t 0)) (.t 9)), (.o1 (.qcall 27 [(.t 0), (.c (.int .i64 40))]) (.o1 (.bin .quo .num (.t 0) (.c (.int .i64 10))) (.t 1)))]
    .nil))
  (.cregion [7, 8, 9] (.op none (.store 1 (.t 0) (.c .nils)) [(.o1 (.fld 2 (.t 0)) (.t 9))]
    .nil))))

/-- A branch. -/
def k25_9 : ACode := (.seq (.cregion [1, 7, 8, 9, 98] (.asg 98 (.o1 (.bin .eql .num (.t 0) (.c (.int .i64 6))) (.t 31))
    .nil))
  (.cond (.t 98) (.seq (.keep [1, 7, 8, 9]) k25_10) .skip))

/-- A branch. -/
def k25_7 : ACode := (.seq (.cregion [1, 7, 8, 9, 31, 92] (.asg 92 (.o1 (.bin .eql .num (.t 0) (.c (.int .i64 5))) (.t 31))
    .nil))
  (.cond (.t 92) (.seq (.keep [7, 8, 9]) k25_8) (.seq (.keep [1, 7, 8, 9, 31]) k25_9)))

/-- A branch. -/
def k25_5 : ACode := (.seq (.cregion [1, 7, 8, 9, 31, 82] (.asg 82 (.o1 (.bin .eql .num (.t 0) (.c (.int .i64 4))) (.t 31))
    .nil))
  (.cond (.t 82) (.seq (.keep [7, 8, 9]) k25_6) (.seq (.keep [1, 7, 8, 9, 31]) k25_7)))

/-- A branch. -/
def k25_3 : ACode := (.seq (.cregion [1, 2, 7, 8, 9, 31, 60] (.asg 60 (.o1 (.bin .eql .num (.t 0) (.c (.int .i64 3))) (.t 31))
    .nil))
  (.cond (.t 60) (.seq (.keep [1, 2, 7, 8, 9]) k25_4) (.seq (.keep [1, 7, 8, 9, 31]) k25_5)))

/-- A branch. -/
def k25_1 : ACode := (.seq (.cregion [1, 2, 7, 8, 9, 31, 46] (.asg 46 (.o1 (.bin .eql .num (.t 0) (.c (.int .i64 2))) (.t 31))
    .nil))
  (.cond (.t 46) (.seq (.keep [1, 7, 8, 9]) k25_2) (.seq (.keep [1, 2, 7, 8, 9, 31]) k25_3)))

/-- A branch. -/
def k25_0 : ACode := (.seq (.cregion [1, 2, 7, 8, 9, 31, 39] (.asg 39 (.o1 (.bin .eql .num (.t 0) (.c (.int .i64 1))) (.t 31))
    .nil))
  (.cond (.t 39) (.cregion [7, 8, 9] (.op none (.store 1 (.t 0) (.t 1)) [(.o1 (.fld 1 (.t 0)) (.t 9)), (.o1 (.bin .sub .num (.t 0) (.c (.int .i64 3))) (.o1 (.qcall 27 [(.t 0), (.c (.int .i64 300))]) (.o1 (.bin .quo .num (.t 0) (.c (.int .i64 10))) (.t 1))))]
    .nil)) (.seq (.keep [1, 2, 7, 8, 9, 31]) k25_1)))

/-- The rest. -/
def s25_4 : ACode := (.seq (.cregion [7] (.op none (.store 3 (.t 0) (.t 1)) [(.o2 (.idx 3 (.t 0) (.t 1)) (.t 7) (.t 8)), (.o1 (.load (some 3) (.t 0)) (.t 9))]
    .nil))
  (.seq (.cregion [6] (.asg 6 (.t 7)
    .nil))
  .ret))

/-- The rest. -/
def s25_3 : ACode := (.seq (.seq (.cregion [1, 2, 7, 8, 9, 31] (.asg 31 (.o1 (.qcall 27 [(.t 0), (.c (.int .i64 10))]) (.t 1))
    .nil))
  (.block 0 (.seq (.cregion [1, 2, 7, 8, 9, 31, 32] (.asg 32 (.o1 (.bin .eql .num (.t 0) (.c (.int .i64 0))) (.t 31))
    .nil))
  (.cond (.t 32) (.cregion [7, 8, 9] (.op none (.store 1 (.t 0) (.t 1)) [(.o1 (.fld 0 (.t 0)) (.t 9)), (.o1 (.bin .sub .num (.t 0) (.c (.int .i64 1))) (.o1 (.qcall 27 [(.t 0), (.c (.int .i64 36))]) (.o1 (.bin .quo .num (.t 0) (.c (.int .i64 10))) (.t 1))))]
    .nil)) (.seq (.keep [1, 2, 7, 8, 9, 31]) k25_0)))))
  (.seq (.keep [7, 8, 9]) s25_4))

/-- The rest. -/
def s25_2 : ACode := (.seq (.cregion [1, 2, 7, 8, 9] (.op (some 25) (.buildS 3 1 0 [(.int .i64 0)] []) []
    r25_3))
  (.seq (.keep [1, 2, 7, 8, 9]) s25_3))

/-- The rest. -/
def s25_1 : ACode := (.seq (.cregion [1, 2, 7, 8] (.asg 8 (.o2 (.qcall 27 [(.t 0), (.t 1)]) (.t 2) (.o1 (.len (.t 0)) (.t 7)))
    .nil))
  (.seq (.cregion [1, 2, 7, 8, 9] (.asg 24 (.o1 (.load (some 3) (.t 0)) (.o2 (.idx 3 (.t 0) (.t 1)) (.t 7) (.t 8)))
    (.op (some 9) (.alloc 24 [(.int .i64 0), (.int .i64 0), .nils]) []
    r25_2)))
  (.seq (.keep [1, 2, 7, 8, 9]) s25_2)))

/-- The rest. -/
def s25_0 : ACode := (.seq (.seq (.cregion [1, 2, 7, 15] (.asg 15 (.o1 (.bin .eql .num (.t 0) (.c (.int .i64 0))) (.o1 (.len (.t 0)) (.t 7)))
    .nil))
  (.cond (.t 15) (.seq (.cregion [6] (.asg 6 (.t 7)
    .nil))
  .ret) .skip))
  (.seq (.keep [1, 2, 7]) s25_1))

/-- The code. -/
def c25 : AFun := ⟨(.seq (.cregion [0, 1, 2] .nil)
  (.seq (.cregion [1, 2, 7] (.op (some 10) (.buildS 24 3 0 [(.int .i64 0), (.int .i64 0), .nils] []) []
    r25_0))
  (.seq (.keep [1, 2, 7]) s25_0))),
  [(.tmp 6)]⟩

theorem t25 : trFunC Go.Proofs.Try.prog (fun f => ([27, 28, 62, 64, 67, 68, 98, 125, 126, 158, 1000057, 1000096] : List Nat).contains f) [[0, 1, 2], [1, 2, 7], [1, 2, 7, 15], [6], [1, 2, 7, 8], [1, 2, 7, 8, 9], [1, 2, 7, 8, 9], [1, 2, 7, 8, 9, 31], [1, 2, 7, 8, 9, 31, 32], [7, 8, 9], [1, 2, 7, 8, 9, 31, 39], [7, 8, 9], [1, 2, 7, 8, 9, 31, 46], [7, 8, 9], [1, 2, 7, 8, 9, 31, 60], [1, 2, 7, 8, 9, 65], [7, 8, 9], [1, 7, 8, 9, 31, 82], [7, 8, 9, 87], [7, 8, 9], [1, 7, 8, 9, 31, 92], [7, 8, 9], [1, 7, 8, 9, 98], [1, 7, 8, 9], [7, 8, 9], [7, 8, 9], [7], [6]] 25 = some ⟨erase c25.code, c25.res⟩ := by kernel_rfl

/-- The rest of a region. -/
def r26_0 : CTree := (.asg 5 (.t 38)
    .nil)

/-- The rest. -/
def s26_1 : ACode := (.cregion [0, 1, 5, 6] (.asg 6 (.o1 (.bin .add .num (.t 0) (.c (.int .i64 2))) (.t 6))
    .nil))

/-- The rest. -/
def s26_0 : ACode := (.seq (.block 1 (.cregion [0, 1, 5, 6] (.op (some 37) (.buildSp 28 2 1 [(.int .i64 0), (.int .i64 0)] [(0, (.t 0))]) [(.o2 (.build [(.int .i64 0), (.int .i64 0)] [(0, (1, (.t 0))), (1, (1, (.t 1)))]) (.o1 (.bin .sub .num (.t 0) (.c (.int .i64 1))) (.o2 (.qcall 27 [(.t 0), (.t 1)]) (.o1 (.load none (.t 0)) (.o2 (.idx 1 (.t 0) (.t 1)) (.t 0) (.t 6))) (.o1 (.bin .add .num (.t 0) (.c (.int .i64 2))) (.t 1)))) (.o1 (.bin .sub .num (.t 0) (.c (.int .i64 1))) (.o2 (.qcall 27 [(.t 0), (.t 1)]) (.o1 (.load none (.t 0)) (.o2 (.idx 1 (.t 0) (.t 1)) (.t 0) (.o1 (.bin .add .num (.t 0) (.c (.int .i64 1))) (.t 6)))) (.o1 (.bin .add .num (.t 0) (.c (.int .i64 2))) (.t 1)))))]
    (.op (some 38) (.app 28 2 16 (.t 0) (.t 1)) [(.t 5), (.t 37)]
    r26_0))))
  (.seq (.keep [0, 1, 5, 6]) s26_1))

/-- A loop's body. -/
def b26_0 : ACode := (.seq (.seq (.cregion [0, 1, 5, 6, 15] (.asg 15 (.and (.o2 (.bin .lss .num (.t 0) (.t 1)) (.o1 (.bin .add .num (.t 0) (.c (.int .i64 1))) (.t 6)) (.o1 (.len (.t 0)) (.t 0))) (.o1 (.bin .lss .num (.t 0) (.c (.int .i64 12))) (.t 6)))
    .nil))
  (.cond (.t 15) .skip (.exit 0)))
  (.seq (.keep [0, 1, 5, 6]) s26_0))

/-- A loop. -/
def l26_0 : ACode := .block 0 (.loop (.after b26_0 [0, 1, 5, 6]))

/-- The rest. -/
def s26_2 : ACode := (.seq (.cregion [4] (.asg 4 (.t 5)
    .nil))
  .ret)

/-- The code. -/
def c26 : AFun := ⟨(.seq (.cregion [0, 1] .nil)
  (.seq (.cregion [0, 1, 5] (.asg 5 (.c .nils)
    .nil))
  (.seq (.seq (.cregion [0, 1, 5, 6] (.asg 6 (.c (.int .i64 0))
    .nil))
  (.seq (.keep [0, 1, 5, 6]) l26_0))
  (.seq (.keep [5]) s26_2)))),
  [(.tmp 4)]⟩

theorem t26 : trFunC Go.Proofs.Try.prog (fun f => ([27, 28, 62, 64, 67, 68, 98, 125, 126, 158, 1000037] : List Nat).contains f) [[0, 1], [0, 1, 5], [0, 1, 5, 6], [0, 1, 5, 6, 15], [0, 1, 5, 6], [0, 1, 5, 6], [4]] 26 = some ⟨erase c26.code, c26.res⟩ := by kernel_rfl

end Go.Abs

/- Calls of functions of numbers, as values; what SameNode and allValues return. -/
namespace Go.Abs
open Go.Proofs.Try (prog)

/-- The functions of numbers. -/
def qf1 (f : FuncId) (args : List V) (_ : Heap) : Option V :=
  match f, args with
  | 27, [.int .i64 a, .int .i64 m] => if 0 < m ∧ m ≤ 4611686018427387904 then some (.int .i64 (a % m)) else none
  | 28, [.int .i64 n, .int .i64 r] => some (.int .i64 (wordF n r))
  | 62, [.int .i64 op] => some (.tuple [.int .i64 (arity op).1, .bool (arity op).2])
  | 64, [.int .i64 op, .int .i64 k] => some (.int .i64 (opSort op k))
  | 67, [.int .i64 op, .int .i64 a, .int .i64 b] => some (.int .i64 (binF op a b))
  | 68, [.int .i64 op, .int .i64 a] => some (.int .i64 (unF op a))
  | 98, [.int .i64 op] => some (.int .i64 (sortOp op))
  | 125, [.int .i64 op, .int .i64 n] => some (.bool (validImm op n))
  | 126, [.bool b, .int .i64 n] => some (.int .i64 (if b then n else 0))
  | 158, [.int .i64 op] => some (.int .i64 (maxImm op))
  | _, _ => none

theorem qf1_ok : QOk prog qf1 where
  sound := by
    intro f args h v hv
    unfold qf1 at hv
    split at hv
    · split at hv
      · rename_i c; injection hv with hv; subst hv; exact ac27 c.1 c.2
      · cases hv
    all_goals first
      | (cases hv; done)
      | (injection hv with hv; subst hv; first | exact ac28 | exact ac62 | exact ac64 | exact ac67 | exact ac68 | exact ac98 | exact ac125 | exact ac126 | exact ac158)
  mono := by intro f args h h' v _ hv; exact hv

section
variable {h : Heap}
@[simp] theorem qf1_27 (a m : Int) : qf1 27 [.int .i64 a, .int .i64 m] h = if 0 < m ∧ m ≤ 4611686018427387904 then some (.int .i64 (a % m)) else none := Eq.trans rfl rfl
@[simp] theorem qf1_28 (n r : Int) : qf1 28 [.int .i64 n, .int .i64 r] h = some (.int .i64 (wordF n r)) := Eq.trans rfl rfl
@[simp] theorem qf1_62 (op : Int) : qf1 62 [.int .i64 op] h = some (.tuple [.int .i64 (arity op).1, .bool (arity op).2]) := Eq.trans rfl rfl
@[simp] theorem qf1_64 (op k : Int) : qf1 64 [.int .i64 op, .int .i64 k] h = some (.int .i64 (opSort op k)) := Eq.trans rfl rfl
@[simp] theorem qf1_67 (op a b : Int) : qf1 67 [.int .i64 op, .int .i64 a, .int .i64 b] h = some (.int .i64 (binF op a b)) := Eq.trans rfl rfl
@[simp] theorem qf1_68 (op a : Int) : qf1 68 [.int .i64 op, .int .i64 a] h = some (.int .i64 (unF op a)) := Eq.trans rfl rfl
@[simp] theorem qf1_98 (op : Int) : qf1 98 [.int .i64 op] h = some (.int .i64 (sortOp op)) := Eq.trans rfl rfl
@[simp] theorem qf1_125 (op n : Int) : qf1 125 [.int .i64 op, .int .i64 n] h = some (.bool (validImm op n)) := Eq.trans rfl rfl
@[simp] theorem qf1_126 (b : Bool) (n : Int) : qf1 126 [.bool b, .int .i64 n] h = some (.int .i64 (if b then n else 0)) := Eq.trans rfl rfl
@[simp] theorem qf1_158 (op : Int) : qf1 158 [.int .i64 op] h = some (.int .i64 (maxImm op)) := Eq.trans rfl rfl

theorem Nd.v_cells (x : Nd) : x.v.cells = [.int .i64 x.op, .int .i64 x.imm, .ps 1 (ints x.kids)] := rfl

/-- SameNode. -/
theorem ac54 {x y : Nd} (hk : x.kids.length ≤ 140737488355328) : AC prog 54 [x.v, y.v] h fun v h' => v = .bool (decide (x.op = y.op ∧ x.imm = y.imm ∧ x.kids = y.kids)) ∧ h' = h := by
  refine AC_c' qf1_ok mixed t54 fun R hR => ?_
  have fin : ∀ b, b = decide (x.op = y.op ∧ x.imm = y.imm ∧ x.kids = y.kids) → R (.bool b) h := fun b hb => hR _ _ _ (Sub.refl _) ⟨by rw [hb], rfl⟩
  have no : ¬ (x.op = y.op ∧ x.imm = y.imm ∧ x.kids = y.kids) → R (.bool false) h := fun hn => fin _ (by simp only [hn, decide_false])
  simp [c54, Nd.v]
  refine Wc_intro (fun hc => ?_) (fun hc => ?_)
  · exact no fun ⟨q1, q2, q3⟩ => by simp [q1, q2, q3] at hc
  simp at hc
  obtain ⟨⟨c1, c2⟩, c3⟩ := hc
  have hl : x.kids.length = y.kids.length := by omega
  simp [s54_0, l54_0]
  refine W_loop' (fun m tm h1 => ∃ i : Nat, m = x.kids.length - i ∧ i ≤ x.kids.length ∧ tm = mk [(2, .pp [.int .i64 x.op, .int .i64 x.imm, .ps 1 (ints x.kids)]), (3, .pp [.int .i64 y.op, .int .i64 y.imm, .ps 1 (ints y.kids)]), (5, .int .i64 (i : Nat))] ∧ h = h1 ∧
    ∀ t, t < i → x.kids[t]? = y.kids[t]?) x.kids.length ⟨0, rfl, by omega, rfl, rfl, fun t ht => by omega⟩ ?_
  rintro J hJ m _ _ ⟨i, rfl, hi, rfl, rfl, ht⟩
  simp [b54_0]
  refine Wc_intro (fun hc2 => ?_) (fun hc2 => ?_)
  · simp at hc2
    have hiy : i < y.kids.length := by omega
    have hx := List.getElem?_eq_getElem hc2
    have hy := List.getElem?_eq_getElem hiy
    have w5 : IntKind.i64.wrap ((i : Int) + 1) = i + 1 := wrap_id (by omega) (by omega)
    simp [s54_1, hx, hy]
    refine Wc_intro (fun hc3 => ?_) (fun hc3 => ?_)
    · simp at hc3
      refine no fun ⟨_, _, q3⟩ => hc3 ?_
      simp only [q3]
    · simp at hc3
      simp [s54_2, w5]
      refine ⟨x.kids.length - (i + 1), by omega, hJ _ _ _ ⟨i + 1, rfl, by omega, by simp, rfl, fun t ht' => ?_⟩⟩
      rcases Nat.lt_or_ge t i with c3 | c3
      · exact ht t c3
      · have : t = i := by omega
        subst this
        rw [hx, hy, hc3]
  · simp at hc2
    have : i = x.kids.length := by omega
    subst this
    simp [s54_3]
    have hk : x.kids = y.kids := by
      refine List.ext_getElem? fun t => ?_
      rcases Nat.lt_or_ge t x.kids.length with c | c
      · exact ht t c
      · rw [List.getElem?_eq_none c, List.getElem?_eq_none (by omega)]
    exact fin _ (by simp [c1, c2, hk])

/-- allValues. -/
theorem ac127 {k : List Int} (hk : k.length ≤ 140737488355328) : AC prog 127 [.ps 1 (ints k)] h fun v h' => v = .bool (k.all (· == 1)) ∧ h' = h := by
  refine AC_c' qf1_ok mixed t127 fun R hR => ?_
  have fin : ∀ b, b = k.all (· == 1) → R (.bool b) h := fun b hb => hR _ _ _ (Sub.refl _) ⟨by rw [hb], rfl⟩
  simp [c127, l127_0]
  refine W_loop' (fun m tm h1 => ∃ i : Nat, m = k.length - i ∧ i ≤ k.length ∧ tm = mk [(0, .ps 1 (ints k)), (3, .int .i64 (i : Nat))] ∧ h = h1 ∧ (k.take i).all (· == 1) = true) k.length ⟨0, rfl, by omega, rfl, rfl, rfl⟩ ?_
  rintro J hJ m _ _ ⟨i, rfl, hi, rfl, rfl, ht⟩
  simp [b127_0]
  refine Wc_intro (fun hc2 => ?_) (fun hc2 => ?_)
  · simp at hc2
    have hx := List.getElem?_eq_getElem hc2
    have w5 : IntKind.i64.wrap ((i : Int) + 1) = i + 1 := wrap_id (by omega) (by omega)
    simp [s127_0, hx]
    refine Wc_intro (fun hc3 => ?_) (fun hc3 => ?_)
    · simp at hc3
      refine fin _ (Bool.eq_false_iff.2 fun hh => hc3 ?_).symm
      have := List.all_eq_true.1 hh k[i] (List.getElem_mem hc2)
      simpa using this
    · simp at hc3
      simp [s127_1, w5]
      refine ⟨k.length - (i + 1), by omega, hJ _ _ _ ⟨i + 1, rfl, by omega, by simp, rfl, ?_⟩⟩
      rw [List.take_add_one, hx, List.all_append, ht]
      simp [hc3]
  · simp at hc2
    have : i = k.length := by omega
    subst this
    simp [s127_2]
    refine fin _ ?_
    rw [List.take_length] at ht
    exact ht.symm

end
end Go.Abs

/- The sorts of nodes: what nodeSort, Sorts and Sort of the reference return. -/
namespace Go.Abs
open Go.Proofs.Try (prog)

def all1 (k : List Int) : Bool := k.all (· == 1)
def k0 (k : List Int) : Int := k.getD 0 0
def k1 (k : List Int) : Int := k.getD 1 0
def k2 (k : List Int) : Int := k.getD 2 0

/-- The sort of a node whose operands have the sorts `k`. -/
def nodeSortF (l : List Nd) (n : Nd) (k : List Int) : Int :=
  if (arity n.op).2 = false ∨ (0 ≤ (arity n.op).1 ∧ (n.kids.length : Int) ≠ (arity n.op).1) ∨ validImm n.op n.imm = false then 0
  else if n.op = 3 then (if n.imm.tmod 16 = 0 then 2 else 1)
  else if n.op = 26 then 2
  else if n.op = 22 then (if k0 k ≠ 1 ∨ k1 k ≠ k2 k ∨ k1 k = 3 then 0 else k1 k)
  else if n.op = 23 then (if k0 k = 2 ∧ k1 k = 1 then 1 else 0)
  else if n.op = 24 then (if k0 k = 2 then 1 else 0)
  else if n.op = 25 then (if k0 k ≠ 3 ∨ (((l.getD (n.kids.getD 0 0).toNat ⟨0, 0, []⟩).kids.length / 2 : Nat) : Int) ≤ n.imm then 0 else if n.imm = 0 then 2 else 1)
  else if n.op = 27 ∨ n.op = 29 then (if k0 k = 2 ∧ k1 k = 1 then 2 else 0)
  else if n.op = 28 then (if k0 k = 2 ∧ k1 k = 1 ∧ k2 k = 1 then 2 else 0)
  else if n.op = 30 then (if 1 ≤ k.length ∧ k.length ≤ 7 ∧ k0 k = 2 ∧ all1 (k.drop 1) = true then 2 else 0)
  else if n.op = 31 then (if k.length % 2 = 1 ∧ 1 ≤ k.length / 2 ∧ k.length / 2 ≤ 16 ∧ k0 k = 2 ∧ all1 ((k.take (k.length / 2 + 1)).drop 1) = true ∧ k.getD (k.length / 2 + 1) 0 = 2 ∧ all1 (k.drop (k.length / 2 + 2)) = true then 3 else 0)
  else if all1 k = true then 1 else 0

theorem arity_cases (op : Int) (h : (arity op).2 = true) : 1 ≤ op ∧ op ≤ 31 := by
  unfold arity at h
  repeat' split at h
  all_goals first | omega | cases h

@[simp] theorem ints_take (l : List Int) (n : Nat) : (ints l).take n = ints (l.take n) := by simp [ints, List.map_take]
@[simp] theorem ints_drop (l : List Int) (n : Nat) : (ints l).drop n = ints (l.drop n) := by simp [ints, List.map_drop]
@[simp] theorem ints_head (l : List Int) : (ints l).head? = l.head?.map fun n => .int .i64 n := by cases l <;> rfl
@[simp] theorem ints_tail (l : List Int) : (ints l).tail = ints l.tail := by simp [ints, List.map_tail]

/-- How nodeSort ends. -/
abbrev Q104 (R : V → Heap → Prop) : AExit → (Nat → V) → Heap → Prop := fun e tm h' => match e with
  | .exit _ => False
  | _ => R (tm 6) h'
abbrev M104 (l : List Nd) (n : Nd) (k : List Int) : Nat → V := mk [(0, .ps 3 (l.map Nd.v)), (2, .ps 1 (ints k)), (4, .pp [.int .i64 n.op, .int .i64 n.imm, .ps 1 (ints n.kids)])]

section
variable {h : Heap} {l : List Nd} {n : Nd} {k : List Int} {R : V → Heap → Prop}

theorem len3 {k : List Int} (hk : k.length = 3) : ∃ a b c, k = [a, b, c] := by
  match k, hk with
  | [a, b, c], _ => exact ⟨a, b, c, rfl⟩
theorem len2 {k : List Int} (hk : k.length = 2) : ∃ a b, k = [a, b] := by
  match k, hk with
  | [a, b], _ => exact ⟨a, b, rfl⟩
theorem len1 {k : List Int} (hk : k.length = 1) : ∃ a, k = [a] := by
  match k, hk with
  | [a], _ => exact ⟨a, rfl⟩

theorem ns_3 (e : n.op = 3) (fin : ∀ a, a = (if n.imm.tmod 16 = 0 then 2 else 1) → R (.int .i64 a) h) : W qf1 (AC prog) s104_0 (Q104 R) (M104 l n k) h := by
  simp [s104_0, k104_0, k104_1, k104_2, k104_3, k104_4, k104_5, k104_6, k104_7, k104_8, j104_0, k104_9, k104_10, k104_11, k104_12, k104_13, s104_1, s104_2, s104_3, s104_4, e, Wc_ite]
  split <;> exact fin _ (by simp_all)
theorem ns_26 (e : n.op = 26) (fin : R (.int .i64 2) h) : W qf1 (AC prog) s104_0 (Q104 R) (M104 l n k) h := by
  simp [s104_0, k104_0, k104_1, k104_2, k104_3, k104_4, k104_5, k104_6, k104_7, k104_8, j104_0, k104_9, k104_10, k104_11, k104_12, k104_13, s104_1, s104_2, s104_3, s104_4, e]
  exact fin
theorem ns_22 (e : n.op = 22) (hk : k.length = 3) (fin : ∀ a, a = (if k0 k ≠ 1 ∨ k1 k ≠ k2 k ∨ k1 k = 3 then 0 else k1 k) → R (.int .i64 a) h) : W qf1 (AC prog) s104_0 (Q104 R) (M104 l n k) h := by
  obtain ⟨a, b, c, rfl⟩ := len3 hk
  simp [s104_0, k104_0, k104_1, k104_2, k104_3, k104_4, k104_5, k104_6, k104_7, k104_8, j104_0, k104_9, k104_10, k104_11, k104_12, k104_13, s104_1, s104_2, s104_3, s104_4, e, Wc_ite, ints]
  split <;> refine fin _ ?_ <;> simp only [k0, k1, k2, List.getD_cons_zero, List.getD_cons_succ] <;> split <;> first | rfl | (exfalso; omega)
theorem ns_23 (e : n.op = 23) (hk : k.length = 2) (fin : ∀ a, a = (if k0 k = 2 ∧ k1 k = 1 then 1 else 0) → R (.int .i64 a) h) : W qf1 (AC prog) s104_0 (Q104 R) (M104 l n k) h := by
  obtain ⟨a, b, rfl⟩ := len2 hk
  simp [s104_0, k104_0, k104_1, k104_2, k104_3, k104_4, k104_5, k104_6, k104_7, k104_8, j104_0, k104_9, k104_10, k104_11, k104_12, k104_13, s104_1, s104_2, s104_3, s104_4, e, Wc_ite, ints]
  exact fin _ (by simp [k0, k1])
theorem ns_24 (e : n.op = 24) (hk : k.length = 1) (fin : ∀ a, a = (if k0 k = 2 then 1 else 0) → R (.int .i64 a) h) : W qf1 (AC prog) s104_0 (Q104 R) (M104 l n k) h := by
  obtain ⟨a, rfl⟩ := len1 hk
  simp [s104_0, k104_0, k104_1, k104_2, k104_3, k104_4, k104_5, k104_6, k104_7, k104_8, j104_0, k104_9, k104_10, k104_11, k104_12, k104_13, s104_1, s104_2, s104_3, s104_4, e, Wc_ite, ints]
  exact fin _ (by simp [k0])
theorem ns_25 (e : n.op = 25) (hk : k.length = 1) (hkk : n.kids.length = 1) (hin : ∀ q : Int, n.kids[0]? = some q → 0 ≤ q ∧ q < l.length) (hll : ∀ x ∈ l, x.kids.length ≤ 140737488355328)
    (fin : ∀ a, a = (if k0 k ≠ 3 ∨ (((l.getD (n.kids.getD 0 0).toNat ⟨0, 0, []⟩).kids.length / 2 : Nat) : Int) ≤ n.imm then 0 else if n.imm = 0 then 2 else 1) → R (.int .i64 a) h) : W qf1 (AC prog) s104_0 (Q104 R) (M104 l n k) h := by
  obtain ⟨a, rfl⟩ := len1 hk
  obtain ⟨q, hq⟩ := len1 hkk
  have hq2 := hin q (by rw [hq]; rfl)
  obtain ⟨t, rfl⟩ : ∃ t : Nat, q = t := ⟨q.toNat, by omega⟩
  have ht : t < l.length := by omega
  have hx := List.getElem?_eq_getElem ht
  have hxl := hll _ (List.getElem_mem ht)
  have w : IntKind.i64.wrap ((l[t].kids.length : Int) / 2) = (l[t].kids.length : Int) / 2 := wrap_id (by omega) (by omega)
  simp [s104_0, k104_0, k104_1, k104_2, k104_3, k104_4, k104_5, k104_6, k104_7, k104_8, j104_0, k104_9, k104_10, k104_11, k104_12, k104_13, s104_1, s104_2, s104_3, s104_4, e, Wc_ite, ints, hq, hx, Nd.v, w]
  have eg : l.getD (n.kids.getD 0 0).toNat ⟨0, 0, []⟩ = l[t] := by simp [hq, List.getD_eq_getElem?_getD, hx]
  rw [eg] at fin
  have w2 : IntKind.i64.wrap ((1 : Int) + 1) = 2 := rfl
  have w1 : IntKind.i64.wrap ((0 : Int) + 1) = 1 := rfl
  split
  · refine fin _ ?_
    rename_i c
    rw [if_pos]
    simp only [k0, List.getD_cons_zero]
    omega
  · rename_i c
    have c' : ¬ (k0 [a] ≠ 3 ∨ ((l[t].kids.length / 2 : Nat) : Int) ≤ n.imm) := by
      simp only [k0, List.getD_cons_zero]
      omega
    refine fin _ ?_
    rw [if_neg c']
    by_cases c2 : n.imm = 0
    · rw [if_pos c2, if_pos c2, w2]
    · rw [if_neg c2, if_neg c2, w1]
theorem ns_27 (e : n.op = 27 ∨ n.op = 29) (hk : k.length = 2) (fin : ∀ a, a = (if k0 k = 2 ∧ k1 k = 1 then 2 else 0) → R (.int .i64 a) h) : W qf1 (AC prog) s104_0 (Q104 R) (M104 l n k) h := by
  obtain ⟨a, b, rfl⟩ := len2 hk
  rcases e with e | e <;> simp [s104_0, k104_0, k104_1, k104_2, k104_3, k104_4, k104_5, k104_6, k104_7, k104_8, j104_0, k104_9, k104_10, k104_11, k104_12, k104_13, s104_1, s104_2, s104_3, s104_4, e, Wc_ite, ints] <;> exact fin _ (by simp [k0, k1])
theorem ns_28 (e : n.op = 28) (hk : k.length = 3) (fin : ∀ a, a = (if k0 k = 2 ∧ k1 k = 1 ∧ k2 k = 1 then 2 else 0) → R (.int .i64 a) h) : W qf1 (AC prog) s104_0 (Q104 R) (M104 l n k) h := by
  obtain ⟨a, b, c, rfl⟩ := len3 hk
  simp [s104_0, k104_0, k104_1, k104_2, k104_3, k104_4, k104_5, k104_6, k104_7, k104_8, j104_0, k104_9, k104_10, k104_11, k104_12, k104_13, s104_1, s104_2, s104_3, s104_4, e, Wc_ite, ints]
  exact fin _ (by simp [k0, k1, k2, and_assoc])
theorem ns_30 (e : n.op = 30) (hk : k.length ≤ 140737488355328) (fin : ∀ a, a = (if 1 ≤ k.length ∧ k.length ≤ 7 ∧ k0 k = 2 ∧ all1 (k.drop 1) = true then 2 else 0) → R (.int .i64 a) h) : W qf1 (AC prog) s104_0 (Q104 R) (M104 l n k) h := by
  cases k with
  | nil =>
    simp [s104_0, k104_0, k104_1, k104_2, k104_3, k104_4, k104_5, k104_6, k104_7, k104_8, j104_0, k104_9, k104_10, k104_11, k104_12, k104_13, s104_1, s104_2, s104_3, s104_4, e, ints, r104_0]
    exact fin _ rfl
  | cons a k =>
    simp at hk
    by_cases c : k.length ≤ 6 ∧ a = 2
    · obtain ⟨c1, rfl⟩ := c
      have d2 : ((k.length : Int) + 1 ≤ 7) := by omega
      have d1 : ((1 : Int) ≤ (k.length : Int) + 1) := by omega
      have d3 : (0 : Int) ≤ (k.length : Int) := by omega
      have g0 : (ints (2 :: k))[0]? = some (.int .i64 2) := rfl
      simp [s104_0, k104_0, k104_1, k104_2, k104_3, k104_4, k104_5, k104_6, k104_7, k104_8, j104_0, k104_9, k104_10, k104_11, k104_12, k104_13, s104_1, s104_2, s104_3, s104_4, e, d1, d2, d3, g0]
      refine (ac127 (by omega)).mono ?_
      rintro v h' ⟨rfl, rfl⟩
      simp [r104_0]
      exact fin _ (by simp [k0, all1, c1])
    · have d : (decide ((1 : Int) ≤ (k.length : Int) + 1) && decide ((k.length : Int) + 1 ≤ 7) && a == 2) = false := by
        rw [Bool.eq_false_iff]
        intro hh
        simp at hh
        omega
      have g0 : (ints (a :: k))[0]? = some (.int .i64 a) := rfl
      simp [s104_0, k104_0, k104_1, k104_2, k104_3, k104_4, k104_5, k104_6, k104_7, k104_8, j104_0, k104_9, k104_10, k104_11, k104_12, k104_13, s104_1, s104_2, s104_3, s104_4, e, g0, d]
      simp [r104_0]
      refine fin _ ?_
      rw [if_neg]
      simp [k0]
      omega
theorem ns_31 (e : n.op = 31) (hk : k.length ≤ 140737488355328)
    (fin : ∀ a, a = (if k.length % 2 = 1 ∧ 1 ≤ k.length / 2 ∧ k.length / 2 ≤ 16 ∧ k0 k = 2 ∧ all1 ((k.take (k.length / 2 + 1)).drop 1) = true ∧ k.getD (k.length / 2 + 1) 0 = 2 ∧ all1 (k.drop (k.length / 2 + 2)) = true then 3 else 0) → R (.int .i64 a) h) : W qf1 (AC prog) s104_0 (Q104 R) (M104 l n k) h := by
  cases k with
  | nil =>
    simp [s104_0, k104_0, k104_1, k104_2, k104_3, k104_4, k104_5, k104_6, k104_7, k104_8, j104_0, k104_9, k104_10, k104_11, k104_12, k104_13, s104_1, s104_2, s104_3, s104_4, e, ints, r104_1, r104_2]
    exact fin _ rfl
  | cons a k =>
    simp at hk
    obtain ⟨M, hM⟩ : ∃ M, M = (k.length + 1) / 2 := ⟨_, rfl⟩
    have hm : IntKind.i64.wrap (((k.length : Int) + 1).tdiv 2) = (M : Int) := by
      rw [Int.tdiv_eq_ediv_of_nonneg (by omega), wrap_id (by omega) (by omega)]
      omega
    have hr : ((k.length : Int) + 1).tmod 2 = (((k.length + 1) % 2 : Nat) : Int) := by
      rw [Int.tmod_eq_emod_of_nonneg (by omega)]
      omega
    have w1 : IntKind.i64.wrap ((M : Int) + 1) = (M : Int) + 1 := wrap_id (by omega) (by omega)
    have w2 : IntKind.i64.wrap ((M : Int) + 2) = (M : Int) + 2 := wrap_id (by omega) (by omega)
    have g0 : (ints (a :: k))[0]? = some (.int .i64 a) := rfl
    have hlen : (a :: k).length = k.length + 1 := rfl
    rw [hlen, ← hM] at fin
    by_cases c : (k.length + 1) % 2 = 1 ∧ 1 ≤ M ∧ M ≤ 16 ∧ a = 2
    · obtain ⟨c1, c2, c3, rfl⟩ := c
      have d1 : (1 : Int) ≤ (M : Int) + 1 := by omega
      have d2 : (M : Int) + 1 ≤ (k.length : Int) + 1 := by omega
      have d3 : (M : Int) ≤ 16 := by omega
      have d4 : (1 : Int) ≤ (M : Int) := by omega
      simp [s104_0, k104_0, k104_1, k104_2, k104_3, k104_4, k104_5, k104_6, k104_7, k104_8, j104_0, k104_9, k104_10, k104_11, k104_12, k104_13, s104_1, s104_2, s104_3, s104_4, e, hm, hr, w1, g0, c1, d1, d2, d3, d4]
      have hMk : M < k.length := by omega
      have gM : (ints (2 :: k))[M + 1]? = some (.int .i64 k[M]) := by
        show (ints k)[M]? = _
        rw [ints_get, List.getElem?_eq_getElem hMk]; rfl
      have gD : (2 :: k : List Int).getD (M + 1) 0 = k[M] := by
        simp [List.getD_eq_getElem?_getD, hMk]
      have e1 : all1 (((2 :: k : List Int).take (M + 1)).drop 1) = (k.take M).all (· == 1) := rfl
      have e2 : all1 ((2 :: k : List Int).drop (M + 2)) = (k.drop (M + 1)).all (· == 1) := rfl
      have n1 : ((M : Int) + 1).toNat = M + 1 := by omega
      have n2 : ((M : Int) + 2).toNat = M + 2 := by omega
      have d5 : (0 : Int) ≤ (M : Int) + 1 := by omega
      have d6 : (0 : Int) ≤ (M : Int) + 2 := by omega
      have d7 : (M : Int) + 2 ≤ (k.length : Int) + 1 := by omega
      refine (ac127 (by simp; omega)).mono ?_
      rintro v h' ⟨rfl, rfl⟩
      by_cases b1 : (k.take M).all (· == 1) = true
      · by_cases b2 : k[M] = 2
        · simp only [b1]
          simp [r104_1, w1, w2, n1, n2, d5, d6, d7, gM, b2]
          refine (ac127 (by simp; omega)).mono ?_
          rintro v h' ⟨rfl, rfl⟩
          simp [r104_2]
          refine fin _ ?_
          rw [e1, e2, b1, gD, b2]
          simp [k0, c1, c2, c3]
        · have b2' : (k[M] == 2) = false := by simp [b2]
          simp only [b1]
          simp [r104_1, w1, n1, d5, gM, b2', r104_2]
          refine fin _ ?_
          rw [if_neg]
          rw [gD]
          exact fun hh => b2 hh.2.2.2.2.2.1
      · have b1' : (k.take M).all (· == 1) = false := by simpa using b1
        simp only [b1']
        simp [r104_1, w1, n1, d5, gM, r104_2]
        refine fin _ ?_
        rw [if_neg]
        rw [e1]
        exact fun hh => b1 hh.2.2.2.2.1
    · have d : (((k.length : Int) + 1) % 2 == 1 && decide ((1 : Int) ≤ (M : Int)) && decide ((M : Int) ≤ 16) && a == 2) = false := by
        rw [Bool.eq_false_iff]
        intro hh
        simp at hh
        omega
      have w1 : IntKind.i64.wrap ((M : Int) + 1) = (M : Int) + 1 := wrap_id (by omega) (by omega)
      have hMk : M < k.length + 1 := by omega
      simp [s104_0, k104_0, k104_1, k104_2, k104_3, k104_4, k104_5, k104_6, k104_7, k104_8, j104_0, k104_9, k104_10, k104_11, k104_12, k104_13, s104_1, s104_2, s104_3, s104_4, e, hm, hr, g0, d]
      simp [r104_1, w1, r104_2]
      refine fin _ ?_
      rw [if_neg]
      exact fun hh => c ⟨hh.1, hh.2.1, hh.2.2.1, by simpa [k0] using hh.2.2.2.1⟩
theorem ns_else (h1 : ¬ n.op = 3) (h2 : ¬ n.op = 26) (h3 : ¬ n.op = 22) (h4 : ¬ n.op = 23) (h5 : ¬ n.op = 24) (h6 : ¬ n.op = 25) (h7 : ¬ (n.op = 27 ∨ n.op = 29)) (h8 : ¬ n.op = 28) (h9 : ¬ n.op = 30) (h10 : ¬ n.op = 31) (hk : k.length ≤ 140737488355328)
    (fin : ∀ a, a = (if all1 k = true then 1 else 0) → R (.int .i64 a) h) : W qf1 (AC prog) s104_0 (Q104 R) (M104 l n k) h := by
  simp only [not_or] at h7
  have b1 : (n.op == 3) = false := by simp [h1]
  have b2 : (n.op == 26) = false := by simp [h2]
  have b3 : (n.op == 22) = false := by simp [h3]
  have b4 : (n.op == 23) = false := by simp [h4]
  have b5 : (n.op == 24) = false := by simp [h5]
  have b6 : (n.op == 25) = false := by simp [h6]
  have b7 : (n.op == 27) = false := by simp [h7.1]
  have b11 : (n.op == 29) = false := by simp [h7.2]
  have b8 : (n.op == 28) = false := by simp [h8]
  have b9 : (n.op == 30) = false := by simp [h9]
  have b10 : (n.op == 31) = false := by simp [h10]
  simp [s104_0, k104_0, k104_1, k104_2, k104_3, k104_4, k104_5, k104_6, k104_7, k104_8, j104_0, k104_9, k104_10, k104_11, k104_12, k104_13, s104_1, s104_2, s104_3, s104_4, b1, b2, b3, b4, b5, b6, b7, b8, b9, b10, b11, s104_5]
  refine (ac127 hk).mono ?_
  rintro v h' ⟨rfl, rfl⟩
  simp [r104_3]
  exact fin _ (by simp [all1])

theorem ac104 (hk : k.length = n.kids.length) (hl : n.kids.length ≤ 140737488355328) (hin : ∀ q : Int, n.kids[0]? = some q → 0 ≤ q ∧ q < l.length) (hll : ∀ x ∈ l, x.kids.length ≤ 140737488355328) :
    AC prog 104 [.ps 3 (l.map Nd.v), n.v, .ps 1 (ints k)] h fun v h' => v = .int .i64 (nodeSortF l n k) ∧ h' = h := by
  refine AC_c' qf1_ok mixed t104 fun R hR => ?_
  have fin : ∀ a, a = nodeSortF l n k → R (.int .i64 a) h := fun a hb => hR _ _ _ (Sub.refl _) ⟨by rw [hb], rfl⟩
  simp [c104, Nd.v]
  refine Wc_intro (fun hc => ?_) (fun hc => ?_)
  · refine fin _ ?_
    unfold nodeSortF
    rw [if_pos]
    simp only [Bool.or_eq_true, Bool.and_eq_true, Bool.not_eq_true', decide_eq_true_eq, bne_iff_ne, ne_eq] at hc
    rcases hc with (hc | hc) | hc
    · exact .inl hc
    · exact .inr (.inl hc)
    · exact .inr (.inr hc)
  have hb : ¬ ((arity n.op).2 = false ∨ (0 ≤ (arity n.op).1 ∧ (n.kids.length : Int) ≠ (arity n.op).1) ∨ validImm n.op n.imm = false) := by
    intro hb
    rw [Bool.eq_false_iff] at hc
    refine hc ?_
    simp only [Bool.or_eq_true, Bool.and_eq_true, Bool.not_eq_true', decide_eq_true_eq, bne_iff_ne, ne_eq]
    rcases hb with hb | hb | hb
    · exact .inl (.inl hb)
    · exact .inl (.inr hb)
    · exact .inr hb
  unfold nodeSortF at fin
  simp only [if_neg hb] at fin
  have har : 0 ≤ (arity n.op).1 → (k.length : Int) = (arity n.op).1 := by
    intro h0
    rw [hk]
    by_cases c : (n.kids.length : Int) = (arity n.op).1
    · exact c
    · exact absurd (.inr (.inl ⟨h0, c⟩)) hb
  have a3 : (arity n.op).1 = 3 → k.length = 3 := fun h => by have := har (by omega); omega
  have a2 : (arity n.op).1 = 2 → k.length = 2 := fun h => by have := har (by omega); omega
  have a1 : (arity n.op).1 = 1 → k.length = 1 := fun h => by have := har (by omega); omega
  show W qf1 (AC prog) s104_0 (Q104 R) (M104 l n k) h
  by_cases q1 : n.op = 3
  · exact ns_3 q1 fun a ha => fin a (by rw [if_pos q1]; exact ha)
  simp only [if_neg q1] at fin
  by_cases q2 : n.op = 26
  · exact ns_26 q2 (fin 2 (by rw [if_pos q2]))
  simp only [if_neg q2] at fin
  by_cases q3 : n.op = 22
  · exact ns_22 q3 (a3 (by simp [arity, q3])) fun a ha => fin a (by rw [if_pos q3]; exact ha)
  simp only [if_neg q3] at fin
  by_cases q4 : n.op = 23
  · exact ns_23 q4 (a2 (by simp [arity, q4])) fun a ha => fin a (by rw [if_pos q4]; exact ha)
  simp only [if_neg q4] at fin
  by_cases q5 : n.op = 24
  · exact ns_24 q5 (a1 (by simp [arity, q5])) fun a ha => fin a (by rw [if_pos q5]; exact ha)
  simp only [if_neg q5] at fin
  by_cases q6 : n.op = 25
  · exact ns_25 q6 (a1 (by simp [arity, q6])) (hk ▸ a1 (by simp [arity, q6])) hin hll fun a ha => fin a (by rw [if_pos q6]; exact ha)
  simp only [if_neg q6] at fin
  by_cases q7 : n.op = 27 ∨ n.op = 29
  · exact ns_27 q7 (a2 (by rcases q7 with q7 | q7 <;> simp [arity, q7])) fun a ha => fin a (by rw [if_pos q7]; exact ha)
  simp only [if_neg q7] at fin
  by_cases q8 : n.op = 28
  · exact ns_28 q8 (a3 (by simp [arity, q8])) fun a ha => fin a (by rw [if_pos q8]; exact ha)
  simp only [if_neg q8] at fin
  by_cases q9 : n.op = 30
  · exact ns_30 q9 (by omega) fun a ha => fin a (by rw [if_pos q9]; exact ha)
  simp only [if_neg q9] at fin
  by_cases q10 : n.op = 31
  · exact ns_31 q10 (by omega) fun a ha => fin a (by rw [if_pos q10]; exact ha)
  simp only [if_neg q10] at fin
  exact ns_else q1 q2 q3 q4 q5 q6 q7 q8 q9 q10 (by omega) fin
end
end Go.Abs

/- What Sorts and Sort of the reference return. -/
namespace Go.Abs
open Go.Proofs.Try (prog)

/-- The sorts of operands, or none where one is out of range or malformed. -/
def kidSorts (out : List Int) (i : Nat) : List Int → Option (List Int)
  | [] => some []
  | q :: r => if q < 0 ∨ (i : Int) ≤ q ∨ out.getD q.toNat 0 = 0 then none else (kidSorts out i r).map (out.getD q.toNat 0 :: ·)
def sortAt (l : List Nd) (out : List Int) (i : Nat) (n : Nd) : Int :=
  match kidSorts out i n.kids with
  | some k => nodeSortF l n k
  | none => 0
def sortsN (l : List Nd) : Nat → List Int
  | 0 => []
  | i + 1 => sortsN l i ++ [match l[i]? with
    | some n => sortAt l (sortsN l i) i n
    | none => 0]
/-- The sorts of all nodes. -/
def sortsF (l : List Nd) : List Int := sortsN l l.length

@[simp] theorem sortsN_len (l : List Nd) : ∀ i, (sortsN l i).length = i
  | 0 => rfl
  | i + 1 => by simp [sortsN, sortsN_len l i]

theorem kidSorts_append (out : List Int) (i : Nat) (q : Int) : ∀ (ks k : List Int), kidSorts out i ks = some k → ¬ (q < 0 ∨ (i : Int) ≤ q ∨ out.getD q.toNat 0 = 0) → kidSorts out i (ks ++ [q]) = some (k ++ [out.getD q.toNat 0])
  | [], k, h, hq => by
    injection h with h; subst h
    simp only [List.nil_append, kidSorts, if_neg hq]
    rfl
  | p :: ks, k, h, hq => by
    simp only [kidSorts] at h
    split at h
    · cases h
    · rename_i c
      simp only [Option.map_eq_some_iff] at h
      obtain ⟨r, h1, rfl⟩ := h
      simp only [List.cons_append, kidSorts, if_neg c, kidSorts_append out i q ks r h1 hq]
      rfl
theorem kidSorts_bad (out : List Int) (i : Nat) (q : Int) : ∀ (ks r : List Int), (q < 0 ∨ (i : Int) ≤ q ∨ out.getD q.toNat 0 = 0) → kidSorts out i (ks ++ q :: r) = none
  | [], r, hq => by simp only [List.nil_append, kidSorts, if_pos hq]
  | p :: ks, r, hq => by
    simp only [List.cons_append, kidSorts, kidSorts_bad out i q ks r hq]
    split <;> rfl
theorem kidSorts_len {out : List Int} {i : Nat} : ∀ {ks k : List Int}, kidSorts out i ks = some k → k.length = ks.length
  | [], k, h => by injection h with h; subst h; rfl
  | p :: ks, k, h => by
    simp only [kidSorts] at h
    split at h
    · cases h
    · simp only [Option.map_eq_some_iff] at h
      obtain ⟨r, h1, rfl⟩ := h
      simp [kidSorts_len h1]
theorem kidSorts_in {out : List Int} {i : Nat} : ∀ {ks k : List Int}, kidSorts out i ks = some k → ∀ q ∈ ks, 0 ≤ q ∧ q < i
  | p :: ks, k, h, q, hq => by
    simp only [kidSorts] at h
    split at h
    · cases h
    · rename_i c
      simp only [Option.map_eq_some_iff] at h
      obtain ⟨r, h1, rfl⟩ := h
      rcases List.mem_cons.1 hq with rfl | hq
      · omega
      · exact kidSorts_in h1 q hq

section
variable {h : Heap} {l : List Nd}

theorem ac80 (hn : l.length * 8 ≤ 140737488355328) (hll : ∀ x ∈ l, x.kids.length * 8 ≤ 140737488355328) : AC prog 80 [.ps 3 (l.map Nd.v)] h fun v h' => v = .ps 1 (ints (sortsF l)) ∧ h' = h := by
  refine AC_cv qf1_ok mixed t80 fun R hR => ?_
  simp [c80, l80_0]
  refine W_loop' (fun m tm h1 => ∃ (i : Nat) (v : V), m = l.length - i ∧ i ≤ l.length ∧ tm = mk [(0, .ps 3 (l.map Nd.v)), (3, v), (4, .int .i64 (i : Nat))] ∧ Grow 3 1 h v h1 (ints (sortsN l i)) i)
    l.length ⟨0, .nils, rfl, by omega, rfl, .nil _ _ _⟩ ?_
  rintro J hJ m _ h1 ⟨i, v, rfl, hi, rfl, g⟩
  simp [b80_0]
  refine Wc_intro (fun hc => ?_) (fun hc => ?_)
  · simp at hc
    have w5 : IntKind.i64.wrap ((i : Int) + 1) = i + 1 := wrap_id (by omega) (by omega)
    have hx := List.getElem?_eq_getElem hc
    have hxl := hll _ (List.getElem_mem hc)
    have hsN : sortsN l (i + 1) = sortsN l i ++ [sortAt l (sortsN l i) i l[i]] := by simp only [sortsN, hx]
    simp [s80_0, l80_1]
    refine W_loop' (fun m tm h2 => ∃ (j : Nat) (u : V) (k : List Int), m = l[i].kids.length - j ∧ j ≤ l[i].kids.length ∧ tm = mk [(0, .ps 3 (l.map Nd.v)), (3, v), (4, .int .i64 (i : Nat)), (5, u), (6, .bool true), (7, .int .i64 (j : Nat))] ∧ Grow 3 1 h1 u h2 (ints k) j ∧
        kidSorts (sortsN l i) i (l[i].kids.take j) = some k) l[i].kids.length ⟨0, .nils, [], rfl, by omega, rfl, .nil _ _ _, rfl⟩ ?_
    rintro J2 hJ2 m _ h2 ⟨j, u, k, rfl, hj, rfl, g2, hks⟩
    simp [b80_1, hx, Nd.v]
    have happ : ∀ x : Int, x = sortAt l (sortsN l i) i l[i] → ∀ v' h', Grow 3 1 h v' h' (ints (sortsN l i) ++ [.int .i64 x]) (i + 1) → J (l.length - (i + 1)) (mk [(0, .ps 3 (l.map Nd.v)), (3, v'), (4, .int .i64 ((i : Int) + 1))]) h' := by
      intro x hxx v' h' g'
      refine hJ _ _ _ ⟨i + 1, v', rfl, by omega, by simp, ?_⟩
      have e : ints (sortsN l (i + 1)) = ints (sortsN l i) ++ [.int .i64 x] := by rw [hsN, hxx]; simp [ints]
      rw [e]; exact g'
    refine Wc_intro (fun hc2 => ?_) (fun hc2 => ?_)
    · simp at hc2
      have w6 : IntKind.i64.wrap ((j : Int) + 1) = j + 1 := wrap_id (by omega) (by omega)
      have hq := List.getElem?_eq_getElem hc2
      have hsp : l[i].kids = l[i].kids.take j ++ l[i].kids[j] :: l[i].kids.drop (j + 1) := by
        rw [← List.drop_eq_getElem_cons hc2, List.take_append_drop]
      have bad : (l[i].kids[j] < 0 ∨ (i : Int) ≤ l[i].kids[j] ∨ (sortsN l i).getD l[i].kids[j].toNat 0 = 0) → sortAt l (sortsN l i) i l[i] = 0 := by
        intro hb
        unfold sortAt
        rw [hsp, kidSorts_bad _ _ _ _ _ hb]
      -- the operand is refused
      have out : (l[i].kids[j] < 0 ∨ (i : Int) ≤ l[i].kids[j] ∨ (sortsN l i).getD l[i].kids[j].toNat 0 = 0) → ∀ (C : FuncId → List V → Heap → (V → Heap → Prop) → Prop) (K : V → Heap → Prop), (∀ v' h', J (l.length - (i + 1)) (mk [(0, .ps 3 (l.map Nd.v)), (3, v'), (4, .int .i64 ((i : Int) + 1))]) h' → K v' h') → wApp 3 1 8 v (.ps 1 [.int .i64 0]) h1 K := by
        intro hb C K hK
        refine g.app1 (C := C) rfl (by omega) (by omega) fun v' h' g' => hK _ _ (happ 0 (bad hb).symm v' h' g')
      simp [s80_1, hx, hq, Nd.v]
      by_cases e1 : l[i].kids[j] < 0
      · simp [e1, s80_4]
        refine W_ghost _ h1 (g2.shift (t := 5) (by simp) (ints_isCell _)) ?_
        simp [s80_5, s80_6, k80_1, elems]
        refine out (.inl e1) (AC prog) _ fun v' h' hj' => ?_
        simp [r80_3, s80_7, w5]
        exact ⟨_, by omega, hj'⟩
      by_cases e2 : (i : Int) ≤ l[i].kids[j]
      · simp [e2, s80_4]
        refine W_ghost _ h1 (g2.shift (t := 5) (by simp) (ints_isCell _)) ?_
        simp [s80_5, s80_6, k80_1, elems]
        refine out (.inr (.inl e2)) (AC prog) _ fun v' h' hj' => ?_
        simp [r80_3, s80_7, w5]
        exact ⟨_, by omega, hj'⟩
      obtain ⟨q, hqq⟩ : ∃ q : Nat, l[i].kids[j] = q := ⟨l[i].kids[j].toNat, by omega⟩
      have hqi : q < i := by omega
      obtain ⟨b, hb, rfl, hl2, rfl⟩ := g.sl_of (by omega)
      have hb2 : h2 b = some (.cells 3 1 (ints (sortsN l i))) := g2.sub b _ (upd_eq _ _ _)
      obtain ⟨s, hs⟩ : ∃ s, (sortsN l i)[q]? = some s := ⟨_, List.getElem?_eq_getElem (by simpa using hqi)⟩
      have hs2 : ∀ hq' : q < (sortsN l i).length, (sortsN l i)[q] = s := fun hq' => by rw [List.getElem?_eq_getElem hq'] at hs; injection hs
      have hgs : (sortsN l i).getD q 0 = s := by rw [List.getD_eq_getElem?_getD, hs]; rfl
      have e0 : ¬ (q : Int) < 0 := by omega
      have e4 : ¬ i ≤ q := by omega
      simp only [hqq] at bad out ⊢
      simp only [Int.toNat_natCast, hgs] at bad out
      by_cases e3 : s = 0
      · subst e3
        simp [hqi, hb2, hs2, e0, e4, s80_4]
        refine W_ghost _ (upd h b (.cells 3 1 (ints (sortsN l i)))) (g2.shift (t := 5) (by simp) (ints_isCell _)) ?_
        simp [s80_5, s80_6, k80_1, elems]
        refine out (.inr (.inr rfl)) (AC prog) _ fun v' h' hj' => ?_
        simp [r80_3, s80_7, w5]
        exact ⟨_, by omega, hj'⟩
      · have e3' : (s == 0) = false := by simpa using e3
        simp [hqi, hb2, hs2, e3', e0, e4, s80_2, elems]
        refine g2.app1 (C := AC prog) rfl (by omega) (by omega) fun v' h' g' => ?_
        simp [r80_0, s80_3, w6]
        refine ⟨l[i].kids.length - (j + 1), by omega, hJ2 _ _ _ ⟨j + 1, v', k ++ [s], rfl, by omega, by simp, ?_, ?_⟩⟩
        · have e5 : ints (k ++ [s]) = ints k ++ [.int .i64 s] := by simp [ints]
          rw [e5]; exact g'
        · rw [List.take_add_one, hq]
          have := kidSorts_append (sortsN l i) i q _ k hks (by simp only [Int.toNat_natCast, hgs]; omega)
          simp only [Int.toNat_natCast, hgs] at this
          simpa [hqq] using this
    · simp at hc2
      obtain rfl : j = l[i].kids.length := by omega
      rw [List.take_length] at hks
      simp [s80_4]
      refine W_ghost _ h1 (g2.shift (t := 5) (by simp) (ints_isCell _)) ?_
      simp [s80_5, s80_6, k80_0, hx, Nd.v]
      show AC prog 104 [.ps 3 (l.map Nd.v), l[i].v, .ps 1 (ints k)] h1 _
      refine (ac104 (kidSorts_len hks) (by omega) (fun q hq => ?_) (fun x hx => by have := hll x hx; omega)).mono ?_
      · have := kidSorts_in hks q (List.mem_of_getElem? hq)
        omega
      rintro u2 h3 ⟨rfl, rfl⟩
      simp [r80_1, elems]
      refine g.app1 (C := AC prog) rfl (by omega) (by omega) fun v' h' g' => ?_
      simp [r80_2, s80_7, w5]
      exact ⟨_, by omega, happ _ (by unfold sortAt; rw [hks]) v' h' g'⟩
  · simp at hc
    obtain rfl : i = l.length := by omega
    simp [s80_8]
    exact hR _ _ _ _ g.view1 ⟨rfl, rfl⟩

/-- Sort. -/
def sortF (l : List Nd) (i : Int) : Int := if i < 0 ∨ (l.length : Int) ≤ i then 0 else (sortsF (l.take (i.toNat + 1))).getD i.toNat 0

theorem ac55 {i : Int} (hn : l.length * 8 ≤ 140737488355328) (hll : ∀ x ∈ l, x.kids.length * 8 ≤ 140737488355328) : AC prog 55 [.ps 3 (l.map Nd.v), .int .i64 i] h fun v h' => v = .int .i64 (sortF l i) ∧ h' = h := by
  refine AC_c' qf1_ok mixed t55 fun R hR => ?_
  have fin : ∀ a, a = sortF l i → R (.int .i64 a) h := fun a hb => hR _ _ _ (Sub.refl _) ⟨by rw [hb], rfl⟩
  simp [c55]
  refine Wc_intro (fun hc => ?_) (fun hc => ?_)
  · simp at hc
    exact fin _ (by rw [sortF, if_pos hc])
  · simp at hc
    obtain ⟨t, rfl⟩ : ∃ t : Nat, i = t := ⟨i.toNat, by omega⟩
    have ht : t < l.length := by omega
    have w5 : IntKind.i64.wrap ((t : Int) + 1) = t + 1 := wrap_id (by omega) (by omega)
    have d1 : (0 : Int) ≤ (t : Int) + 1 := by omega
    have d2 : (t : Int) + 1 ≤ l.length := by omega
    have n1 : ((t : Int) + 1).toNat = t + 1 := by omega
    simp [s55_0, w5, d1, d2, n1]
    rw [← List.map_take]
    refine (ac80 (by simp; omega) (fun x hx => hll x (List.mem_of_mem_take hx))).mono ?_
    rintro v h' ⟨rfl, rfl⟩
    have hl2 : t < (sortsF (l.take (t + 1))).length := by simp [sortsF]; omega
    simp [r55_0, List.getElem?_eq_getElem hl2]
    refine fin _ ?_
    rw [sortF, if_neg (by omega), List.getD_eq_getElem?_getD]
    simp [List.getElem?_eq_getElem hl2]
end
end Go.Abs

/- What Next, of and contains, the seeds' readers, do. -/
namespace Go.Abs
open Go.Proofs.Try (prog)
open Classical

/-- The nodes of a sort. -/
def ofSort (l : List Nd) (s : Int) : List Nat := (List.range l.length).filter fun i => (sortsF l).getD i 0 == s
def ofF (l : List Nd) (s n : Int) : Nat := (ofSort l s).getD ((ofSort l s).length - 1 - (n % ((ofSort l s).length : Int)).toNat) 0

theorem ofSort_mem {l : List Nd} {s : Int} {t : Nat} (h : t ∈ ofSort l s) : t < l.length ∧ (sortsF l)[t]? = some s := by
  simp only [ofSort, List.mem_filter, List.mem_range, beq_iff_eq] at h
  refine ⟨h.1, ?_⟩
  have : t < (sortsF l).length := by simp [sortsF]; exact h.1
  rw [List.getElem?_eq_getElem this]
  have h2 := h.2
  rw [List.getD_eq_getElem?_getD, List.getElem?_eq_getElem this] at h2
  simpa using h2

theorem ofF_spec {l : List Nd} {s n : Int} (h : ∃ t : Nat, (sortsF l)[t]? = some s) : ofF l s n < l.length ∧ (sortsF l)[ofF l s n]? = some s := by
  obtain ⟨t, ht⟩ := h
  have hl : t < l.length := by have := (List.getElem?_eq_some_iff.1 ht).1; simpa [sortsF] using this
  have hm : t ∈ ofSort l s := by
    simp only [ofSort, List.mem_filter, List.mem_range, beq_iff_eq]
    exact ⟨hl, by rw [List.getD_eq_getElem?_getD, ht]; rfl⟩
  have hpos : 0 < (ofSort l s).length := List.length_pos_of_mem hm
  have hlt : (ofSort l s).length - 1 - (n % ((ofSort l s).length : Int)).toNat < (ofSort l s).length := by omega
  refine ofSort_mem ?_
  unfold ofF
  rw [List.getD_eq_getElem?_getD, List.getElem?_eq_getElem hlt]
  exact List.getElem_mem hlt

section
variable {h : Heap} {l : List Nd}

theorem ac65 {b : Nat} {r : List Int} {k : Int} (hb : h b = some (.cells 106 2 [.ps 1 (ints r), .int .i64 k])) : AC prog 65 [.ptr b 0] h fun v h' => v = .int .i64 (r.headD 0) ∧ h' = upd h b (.cells 106 2 [.ps 1 (ints r.tail), .int .i64 k]) := by
  refine AC_c' qf1_ok mixed t65 fun R hR => ?_
  cases r with
  | nil =>
    simp [c65, hb]
    refine hR _ _ _ (Sub.refl _) ⟨rfl, ?_⟩
    rw [List.tail_nil, upd_self hb]
  | cons a r =>
    have d : ((r.length : Int) + 1 == 0) = false := by simp; omega
    have d1 : (1 : Int) ≤ (r.length : Int) + 1 := by omega
    have g0 : (ints (a :: r))[0]? = some (.int .i64 a) := rfl
    simp [c65, hb, d, s65_0, d1, g0]
    exact hR _ _ _ (Sub.refl _) ⟨rfl, by simp⟩

theorem ac63 {s n : Int} (hn : l.length * 8 ≤ 140737488355328) (hll : ∀ x ∈ l, x.kids.length * 8 ≤ 140737488355328) (hex : ∃ t : Nat, (sortsF l)[t]? = some s) :
    AC prog 63 [.ps 3 (l.map Nd.v), .int .i64 s, .int .i64 n] h fun v h' => v = .int .i64 (ofF l s n) ∧ h' = h := by
  refine AC_c' qf1_ok mixed t63 fun R hR => ?_
  have hpos : 0 < (ofSort l s).length := by
    obtain ⟨t, ht⟩ := hex
    have hl : t < l.length := by have := (List.getElem?_eq_some_iff.1 ht).1; simpa [sortsF] using this
    refine List.length_pos_of_mem (a := t) ?_
    simp only [ofSort, List.mem_filter, List.mem_range, beq_iff_eq]
    exact ⟨hl, by rw [List.getD_eq_getElem?_getD, ht]; rfl⟩
  simp [c63]
  refine (ac80 hn hll).mono ?_
  rintro v h1 ⟨rfl, rfl⟩
  simp [r63_0, s63_0, l63_0]
  refine W_loop' (fun m tm h2 => ∃ (i : Nat) (v : V) (a : List Nat), m = l.length - i ∧ i ≤ l.length ∧ tm = mk [(0, .ps 3 (l.map Nd.v)), (1, .int .i64 s), (2, .int .i64 n), (7, .ps 1 (ints (sortsF l))), (8, v), (9, .int .i64 (i : Nat))] ∧ Grow 3 1 h1 v h2 (nats a) a.length ∧
      a = (List.range i).filter (fun i => (sortsF l).getD i 0 == s)) l.length ⟨0, .nils, [], rfl, by omega, rfl, .nil _ _ _, rfl⟩ ?_
  rintro J hJ m _ h2 ⟨i, v, a, rfl, hi, rfl, g, ha⟩
  simp [b63_0]
  refine Wc_intro (fun hc => ?_) (fun hc => ?_)
  · simp at hc
    have w5 : IntKind.i64.wrap ((i : Int) + 1) = i + 1 := wrap_id (by omega) (by omega)
    have hsl : i < (sortsF l).length := by simp [sortsF]; exact hc
    have hal : a.length ≤ i := by rw [ha]; exact Nat.le_trans (List.length_filter_le _ _) (by simp)
    have hgd : (sortsF l).getD i 0 = (sortsF l)[i] := by rw [List.getD_eq_getElem?_getD, List.getElem?_eq_getElem hsl]; rfl
    simp [s63_1, hsl]
    refine Wc_intro (fun hc2 => ?_) (fun hc2 => ?_)
    · simp at hc2
      simp [k63_0, elems]
      refine g.app1 (C := AC prog) rfl (by omega) (by omega) fun v' h' g' => ?_
      simp [r63_1, s63_2, w5]
      refine ⟨l.length - (i + 1), by omega, hJ _ _ _ ⟨i + 1, v', a ++ [i], rfl, by omega, by simp, ?_, ?_⟩⟩
      · have e : nats (a ++ [i]) = nats a ++ [.int .i64 (i : Int)] := by simp [nats]
        rw [e, List.length_append]; exact g'
      · rw [List.range_succ, List.filter_append, ← ha]
        simp [List.filter_cons, List.getElem?_eq_getElem hsl, hc2]
    · simp at hc2
      simp [s63_2, w5]
      refine ⟨l.length - (i + 1), by omega, hJ _ _ _ ⟨i + 1, v, a, rfl, by omega, by simp, g, ?_⟩⟩
      rw [List.range_succ, List.filter_append, ← ha]
      simp [List.filter_cons, List.getElem?_eq_getElem hsl, hc2]
  · simp at hc
    obtain rfl : i = l.length := by omega
    have hao : a = ofSort l s := ha
    subst hao
    obtain ⟨b, hb, rfl, hl2, rfl⟩ := g.sl_of (by omega)
    have hlen : (ofSort l s).length ≤ l.length := Nat.le_trans (List.length_filter_le _ _) (by simp)
    have g1 := Int.emod_nonneg n (show ((ofSort l s).length : Int) ≠ 0 by omega)
    have g2 := Int.emod_lt_of_pos n (show (0 : Int) < (ofSort l s).length by omega)
    have d1 : (0 : Int) < (ofSort l s).length := by omega
    have d2 : ((ofSort l s).length : Int) ≤ 4611686018427387904 := by omega
    have w1 : IntKind.i64.wrap (((ofSort l s).length : Int) - 1) = ((ofSort l s).length : Int) - 1 := wrap_id (by omega) (by omega)
    obtain ⟨p, hp⟩ : ∃ p : Nat, n % ((ofSort l s).length : Int) = p := ⟨_, (Int.toNat_of_nonneg g1).symm⟩
    obtain ⟨M, hM⟩ : ∃ M : Nat, M = (ofSort l s).length - 1 - p := ⟨_, rfl⟩
    have w2 : IntKind.i64.wrap (((ofSort l s).length : Int) - 1 - p) = (M : Int) := by
      rw [wrap_id (by omega) (by omega)]; omega
    have hlt : M < (ofSort l s).length := by omega
    have hof : ofF l s n = (ofSort l s)[M] := by
      unfold ofF
      rw [hp, Int.toNat_natCast, ← hM, List.getD_eq_getElem?_getD, List.getElem?_eq_getElem hlt]; rfl
    simp only [s63_3]
    simp [hpos, d2, w1, hp, w2, hlt, upd_at]
    refine hR _ _ _ (sub_upd hb _) ⟨by rw [hof], rfl⟩

theorem ac66 {n : Nd} (hn : l.length ≤ 140737488355328) (hll : ∀ x ∈ l, x.kids.length ≤ 140737488355328) : AC prog 66 [.ps 3 (l.map Nd.v), n.v] h fun v h' => v = .bool (decide (n ∈ l)) ∧ h' = h := by
  refine AC_c' qf1_ok mixed t66 fun R hR => ?_
  have fin : ∀ b, b = decide (n ∈ l) → R (.bool b) h := fun b hb => hR _ _ _ (Sub.refl _) ⟨by rw [hb], rfl⟩
  simp [c66, Nd.v, l66_0]
  refine W_loop' (fun m tm h2 => ∃ (i : Nat), m = l.length - i ∧ i ≤ l.length ∧ tm = mk [(0, .ps 3 (l.map Nd.v)), (3, .pp [.int .i64 n.op, .int .i64 n.imm, .ps 1 (ints n.kids)]), (5, .int .i64 (i : Nat))] ∧ h = h2 ∧ ∀ (j : Nat) (x : Nd), j < i → l[j]? = some x → x ≠ n)
    l.length ⟨0, rfl, by omega, rfl, rfl, fun j x hj => by omega⟩ ?_
  rintro J hJ m _ _ ⟨i, rfl, hi, rfl, rfl, hne⟩
  simp [b66_0]
  refine Wc_intro (fun hc => ?_) (fun hc => ?_)
  · simp at hc
    have w5 : IntKind.i64.wrap ((i : Int) + 1) = i + 1 := wrap_id (by omega) (by omega)
    have hx := List.getElem?_eq_getElem hc
    simp [s66_0, hx, Nd.v]
    show AC prog 54 [l[i].v, n.v] h _
    refine (ac54 (hll _ (List.getElem_mem hc))).mono ?_
    rintro v h' ⟨rfl, rfl⟩
    have heq : (l[i].op = n.op ∧ l[i].imm = n.imm ∧ l[i].kids = n.kids) ↔ l[i] = n := by
      cases h1 : l[i]; cases n; simp
    simp only [heq]
    simp [s66_1]
    refine Wc_intro (fun hc2 => ?_) (fun hc2 => ?_)
    · simp at hc2
      exact fin _ (by simp; rw [← hc2]; exact List.getElem_mem hc)
    · simp at hc2
      simp [s66_2, w5]
      refine ⟨l.length - (i + 1), by omega, hJ _ _ _ ⟨i + 1, rfl, by omega, by simp, rfl, fun j x hj hjx => ?_⟩⟩
      by_cases c : j = i
      · subst c; rw [hx] at hjx; injection hjx with hjx; subst hjx; exact hc2
      · exact hne j x (by omega) hjx
  · simp at hc
    obtain rfl : i = l.length := by omega
    simp [s66_3]
    refine fin _ ?_
    simp
    intro hm
    obtain ⟨j, hj⟩ := List.getElem?_of_mem hm
    exact hne j n (List.getElem?_eq_some_iff.1 hj).1 hj rfl
end
end Go.Abs
