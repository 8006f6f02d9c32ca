/- The code of package congruence, as the abstract calculus sees it. -/
import Derived.Test.YtjhdfbplkoaobaaAbsEval
import Derived.Test.YtjhdfbplkoaobaaAbsTr
import Derived.Test.YtjhdfbplkoaobaaProg
import Derived.KernelRfl
set_option linter.unusedVariables false
set_option linter.unusedSimpArgs false
namespace Go.Abs

/-- The rest. -/
def s59_0 : ACode := (.block 1 (.seq (.region (.op ⟨(some 11), (.mov (.t 0)), none⟩
    (.op ⟨(some 12), (.mov (.t 1)), none⟩
    (.op ⟨(some 13), (.mov (.t 0)), none⟩
    (.op ⟨(some 14), (.mov (.t 0)), none⟩
    (.op ⟨(some 15), (.mov (.t 1)), none⟩
    (.op ⟨(some 16), (.idx 1 (.t 14) (.t 15)), none⟩
    (.op ⟨(some 17), (.load none (.t 16)), none⟩
    (.op ⟨(some 18), (.idx 1 (.t 13) (.t 17)), none⟩
    (.op ⟨(some 19), (.load none (.t 18)), none⟩
    (.op ⟨(some 20), (.idx 1 (.t 11) (.t 12)), none⟩
    (.op ⟨none, (.store 1 (.t 20) (.t 19)), none⟩ .nil))))))))))))
  (.region (.op ⟨(some 21), (.mov (.t 0)), none⟩
    (.op ⟨(some 22), (.mov (.t 1)), none⟩
    (.op ⟨(some 23), (.idx 1 (.t 21) (.t 22)), none⟩
    (.op ⟨(some 24), (.load none (.t 23)), none⟩
    (.op ⟨(some 1), (.mov (.t 24)), none⟩ .nil))))))))

/-- A loop's body. -/
def b59_0 : ACode := (.seq (.seq (.region (.op ⟨(some 5), (.mov (.t 0)), none⟩
    (.op ⟨(some 6), (.mov (.t 1)), none⟩
    (.op ⟨(some 7), (.idx 1 (.t 5) (.t 6)), none⟩
    (.op ⟨(some 8), (.load none (.t 7)), none⟩
    (.op ⟨(some 9), (.mov (.t 1)), none⟩
    (.op ⟨(some 10), (.bin .neq .num (.t 8) (.t 9)), none⟩ .nil)))))))
  (.cond (.t 10) .skip (.exit 0)))
  s59_0)

/-- A loop. -/
def l59_0 : ACode := .block 0 (.loop b59_0)

/-- The rest. -/
def s59_1 : ACode := (.seq (.region (.op ⟨(some 25), (.mov (.t 1)), none⟩
    (.op ⟨(some 4), (.mov (.t 25)), none⟩ .nil)))
  .ret)

/-- The code. -/
def c59 : AFun := ⟨(.seq (.region (.op ⟨(some 4), (.mov (.c (.int .i64 0))), none⟩ .nil))
  (.seq l59_0
  s59_1)),
  [(.tmp 4)]⟩

theorem t59 : trFun Go.Proofs.Try.prog (fun _ => false) 59 = some ⟨erase c59.code, c59.res⟩ := by kernel_rfl

/-- The rest of a region. -/
def r57_1 : RTree := (.op ⟨(some 1), (.mov (.t 9)), none⟩
    (.op ⟨(some 2), (.mov (.t 12)), none⟩ .nil))

/-- The rest of a region. -/
def r57_0 : RTree := (.op ⟨(some 10), (.mov (.t 0)), none⟩
    (.op ⟨(some 11), (.mov (.t 2)), none⟩
    (.op ⟨(some 12), (.call 59 [(.t 10), (.t 11)]), none⟩
    r57_1)))

/-- The rest. -/
def s57_1 : ACode := (.seq (.region (.op ⟨(some 16), (.mov (.t 0)), none⟩
    (.op ⟨(some 17), (.mov (.t 1)), none⟩
    (.op ⟨(some 18), (.mov (.t 2)), none⟩
    (.op ⟨(some 19), (.mx (.t 17) (.t 18)), none⟩
    (.op ⟨(some 20), (.mov (.t 1)), none⟩
    (.op ⟨(some 21), (.mov (.t 2)), none⟩
    (.op ⟨(some 22), (.mn (.t 20) (.t 21)), none⟩
    (.op ⟨(some 23), (.idx 1 (.t 16) (.t 19)), none⟩
    (.op ⟨none, (.store 1 (.t 23) (.t 22)), none⟩ .nil))))))))))
  (.seq (.region (.op ⟨(some 6), (.mov (.c (.bool true))), none⟩ .nil))
  .ret))

/-- The rest. -/
def s57_0 : ACode := (.seq (.seq (.region (.op ⟨(some 13), (.mov (.t 1)), none⟩
    (.op ⟨(some 14), (.mov (.t 2)), none⟩
    (.op ⟨(some 15), (.bin .eql .num (.t 13) (.t 14)), none⟩ .nil))))
  (.cond (.t 15) (.seq (.region (.op ⟨(some 6), (.mov (.c (.bool false))), none⟩ .nil))
  .ret) .skip))
  s57_1)

/-- The code. -/
def c57 : AFun := ⟨(.seq (.region (.op ⟨(some 6), (.mov (.c (.bool false))), none⟩ .nil))
  (.seq (.region (.op ⟨(some 7), (.mov (.t 0)), none⟩
    (.op ⟨(some 8), (.mov (.t 1)), none⟩
    (.op ⟨(some 9), (.call 59 [(.t 7), (.t 8)]), none⟩
    r57_0))))
  s57_0)),
  [(.tmp 6)]⟩

theorem t57 : trFun Go.Proofs.Try.prog (fun _ => false) 57 = some ⟨erase c57.code, c57.res⟩ := by kernel_rfl

/-- The rest of a region. -/
def r97_1 : RTree := (.op ⟨(some 0), (.mov (.t 18)), none⟩ .nil)

/-- The rest of a region. -/
def r97_0 : RTree := (.op ⟨(some 18), (.app 5 1 1 (.t 10) (.t 17)), none⟩
    r97_1)

/-- The rest. -/
def s97_1 : ACode := (.region (.op ⟨(some 8), (.mov (.t 5)), none⟩
    (.op ⟨(some 9), (.bin .add .num (.t 8) (.c (.int .i64 1))), none⟩
    (.op ⟨(some 5), (.mov (.t 9)), none⟩ .nil))))

/-- The rest. -/
def s97_0 : ACode := (.seq (.block 1 (.region (.op ⟨(some 10), (.mov (.t 0)), none⟩
    (.op ⟨(some 11), (.mov (.t 1)), none⟩
    (.op ⟨(some 12), (.mov (.t 5)), none⟩
    (.op ⟨(some 13), (.bin .mul .num (.c (.int .i64 8)) (.t 12)), none⟩
    (.op ⟨(some 14), (.cint .u64 (.t 13)), none⟩
    (.op ⟨(some 15), (.bin .shr .num (.t 11) (.t 14)), none⟩
    (.op ⟨(some 16), (.cint .u8 (.t 15)), none⟩
    (.op ⟨(some 17), (.buildS 5 1 1 [(.int .u8 0)] [(0, (.t 16))]), none⟩
    r97_0))))))))))
  s97_1)

/-- A loop's body. -/
def b97_0 : ACode := (.seq (.seq (.region (.op ⟨(some 6), (.mov (.t 5)), none⟩
    (.op ⟨(some 7), (.bin .lss .num (.t 6) (.c (.int .i64 8))), none⟩ .nil)))
  (.cond (.t 7) .skip (.exit 0)))
  s97_0)

/-- A loop. -/
def l97_0 : ACode := .block 0 (.loop b97_0)

/-- The rest. -/
def s97_2 : ACode := (.seq (.region (.op ⟨(some 19), (.mov (.t 0)), none⟩
    (.op ⟨(some 4), (.mov (.t 19)), none⟩ .nil)))
  .ret)

/-- The code. -/
def c97 : AFun := ⟨(.seq (.region (.op ⟨(some 4), (.mov (.c .nils)), none⟩ .nil))
  (.seq (.seq (.region (.op ⟨(some 5), (.mov (.c (.int .i64 0))), none⟩ .nil))
  l97_0)
  s97_2)),
  [(.tmp 4)]⟩

theorem t97 : trFun Go.Proofs.Try.prog (fun _ => false) 97 = some ⟨erase c97.code, c97.res⟩ := by kernel_rfl

/-- The rest of a region. -/
def r58_0 : RTree := (.op ⟨(some 4), (.mov (.c (.str ⟨#[]⟩))), none⟩
    (.op ⟨(some 5), (.mov (.c (.bool false))), none⟩ .nil))

/-- The rest of a region. -/
def r58_1 : RTree := (.op ⟨(some 6), (.mov (.t 12)), none⟩ .nil)

/-- The rest of a region. -/
def r58_2 : RTree := (.op ⟨(some 6), (.mov (.t 17)), none⟩ .nil)

/-- The rest of a region. -/
def r58_3 : RTree := (.op ⟨(some 28), (.mov (.t 8)), (some (27, false))⟩
    (.op ⟨(some 29), (.mov (.t 0)), (some (27, false))⟩
    (.op ⟨(some 30), (.len (.t 29)), (some (27, false))⟩
    (.op ⟨(some 31), (.bin .geq .num (.t 28) (.t 30)), (some (27, false))⟩
    (.op ⟨(some 32), (.pick (.t 27) (.c (.bool true)) (.t 31)), none⟩ .nil)))))

/-- The rest of a region. -/
def r58_5 : RTree := (.op ⟨(some 6), (.mov (.t 38)), none⟩ .nil)

/-- The rest of a region. -/
def r58_4 : RTree := (.op ⟨(some 37), (.cint .u64 (.t 36)), none⟩
    (.op ⟨(some 38), (.call 97 [(.t 33), (.t 37)]), none⟩
    r58_5))

/-- The rest. -/
def s58_4 : ACode := (.region (.op ⟨(some 33), (.mov (.t 6)), none⟩
    (.op ⟨(some 34), (.mov (.t 0)), none⟩
    (.op ⟨(some 35), (.mov (.t 8)), none⟩
    (.op ⟨(some 36), (.call 59 [(.t 34), (.t 35)]), none⟩
    r58_4)))))

/-- The rest. -/
def s58_5 : ACode := (.region (.op ⟨(some 39), (.bin .add .num (.t 21) (.c (.int .i64 1))), none⟩
    (.op ⟨(some 21), (.mov (.t 39)), none⟩ .nil)))

/-- The rest. -/
def s58_3 : ACode := (.seq (.block 1 (.seq (.region (.op ⟨(some 23), (.idx 1 (.t 19) (.t 21)), none⟩
    (.op ⟨(some 24), (.load none (.t 23)), none⟩
    (.op ⟨(some 8), (.mov (.t 24)), none⟩ .nil))))
  (.seq (.seq (.region (.op ⟨(some 25), (.mov (.t 8)), none⟩
    (.op ⟨(some 26), (.bin .lss .num (.t 25) (.c (.int .i64 0))), none⟩
    (.op ⟨(some 27), (.mov (.t 26)), none⟩
    r58_3))))
  (.cond (.t 32) (.seq (.region (.op ⟨(some 4), (.mov (.c (.str ⟨#[]⟩))), none⟩
    (.op ⟨(some 5), (.mov (.c (.bool false))), none⟩ .nil)))
  .ret) .skip))
  s58_4)))
  s58_5)

/-- A loop's body. -/
def b58_0 : ACode := (.seq (.region (.op ⟨(some 22), (.bin .lss .num (.t 21) (.t 20)), none⟩ .nil))
  (.seq (.cond (.t 22) .skip (.exit 0))
  s58_3))

/-- A loop. -/
def l58_0 : ACode := .block 0 (.loop b58_0)

/-- The rest. -/
def s58_6 : ACode := (.seq (.region (.op ⟨(some 40), (.mov (.t 6)), none⟩
    (.op ⟨(some 41), (.cstr (.t 40)), none⟩
    (.op ⟨(some 4), (.mov (.t 41)), none⟩
    (.op ⟨(some 5), (.mov (.c (.bool true))), none⟩ .nil)))))
  .ret)

/-- The rest. -/
def s58_2 : ACode := (.seq (.seq (.region (.op ⟨(some 18), (.fld 2 (.t 3)), none⟩
    (.op ⟨(some 19), (.load none (.t 18)), none⟩
    (.op ⟨(some 20), (.len (.t 19)), none⟩
    (.op ⟨(some 21), (.mov (.c (.int .i64 0))), none⟩ .nil)))))
  l58_0)
  s58_6)

/-- The rest. -/
def s58_1 : ACode := (.seq (.region (.op ⟨(some 13), (.mov (.t 6)), none⟩
    (.op ⟨(some 14), (.fld 1 (.t 3)), none⟩
    (.op ⟨(some 15), (.load none (.t 14)), none⟩
    (.op ⟨(some 16), (.cint .u64 (.t 15)), none⟩
    (.op ⟨(some 17), (.call 97 [(.t 13), (.t 16)]), none⟩
    r58_2))))))
  s58_2)

/-- The rest. -/
def s58_0 : ACode := (.seq (.region (.op ⟨(some 9), (.fld 0 (.t 3)), none⟩
    (.op ⟨(some 10), (.load none (.t 9)), none⟩
    (.op ⟨(some 11), (.cint .u64 (.t 10)), none⟩
    (.op ⟨(some 12), (.call 97 [(.c .nils), (.t 11)]), none⟩
    r58_1)))))
  s58_1)

/-- The code. -/
def c58 : AFun := ⟨(.seq (.region (.op ⟨(some 3), (.box 24 3 (.t 1)), none⟩
    r58_0))
  s58_0),
  [(.tmp 4), (.tmp 5)]⟩

theorem t58 : trFun Go.Proofs.Try.prog (fun _ => false) 58 = some ⟨erase c58.code, c58.res⟩ := by kernel_rfl

/-- The rest of a region. -/
def r22_0 : RTree := (.op ⟨(some 5), (.mov (.t 21)), none⟩ .nil)

/-- The rest. -/
def s22_1 : ACode := (.seq (.block 1 (.seq (.region (.op ⟨(some 26), (.mov (.t 24)), none⟩
    (.op ⟨(some 6), (.mov (.t 26)), none⟩ .nil)))
  (.region (.op ⟨(some 27), (.mov (.t 5)), none⟩
    (.op ⟨(some 28), (.mov (.t 6)), none⟩
    (.op ⟨(some 29), (.mov (.t 6)), none⟩
    (.op ⟨(some 30), (.idx 1 (.t 27) (.t 28)), none⟩
    (.op ⟨none, (.store 1 (.t 30) (.t 29)), none⟩ .nil))))))))
  (.region (.op ⟨(some 31), (.bin .add .num (.t 24) (.c (.int .i64 1))), none⟩
    (.op ⟨(some 24), (.mov (.t 31)), none⟩ .nil))))

/-- A loop's body. -/
def b22_0 : ACode := (.seq (.region (.op ⟨(some 25), (.bin .lss .num (.t 24) (.t 23)), none⟩ .nil))
  (.seq (.cond (.t 25) .skip (.exit 0))
  s22_1))

/-- A loop. -/
def l22_0 : ACode := .block 0 (.loop b22_0)

/-- The rest of a region. -/
def r22_1 : RTree := (.op ⟨none, (.store 2 (.t 8) (.t 37)), none⟩ .nil)

/-- The rest of a region. -/
def r22_2 : RTree := (.op ⟨(some 45), (.idxA 2 1 (.t 8) (.c (.int .i64 0))), (some (44, true))⟩
    (.op ⟨(some 46), (.load none (.t 45)), (some (44, true))⟩
    (.op ⟨(some 47), (.idxA 2 1 (.t 8) (.c (.int .i64 1))), (some (44, true))⟩
    (.op ⟨(some 48), (.load none (.t 47)), (some (44, true))⟩
    (.op ⟨(some 49), (.mx (.t 46) (.t 48)), (some (44, true))⟩
    (.op ⟨(some 50), (.mov (.t 0)), (some (44, true))⟩
    (.op ⟨(some 51), (.len (.t 50)), (some (44, true))⟩
    (.op ⟨(some 52), (.bin .lss .num (.t 49) (.t 51)), (some (44, true))⟩
    (.op ⟨(some 53), (.pick (.t 44) (.t 52) (.c (.bool false))), none⟩ .nil)))))))))

/-- A branch. -/
def k22_0 : ACode := (.region (.op ⟨(some 54), (.mov (.t 5)), none⟩
    (.op ⟨(some 55), (.idxA 2 1 (.t 8) (.c (.int .i64 0))), none⟩
    (.op ⟨(some 56), (.load none (.t 55)), none⟩
    (.op ⟨(some 57), (.idxA 2 1 (.t 8) (.c (.int .i64 1))), none⟩
    (.op ⟨(some 58), (.load none (.t 57)), none⟩
    (.op ⟨(some 59), (.call 57 [(.t 54), (.t 56), (.t 58)]), none⟩ .nil)))))))

/-- The rest. -/
def s22_4 : ACode := (.seq (.region (.op ⟨(some 38), (.idxA 2 1 (.t 8) (.c (.int .i64 0))), none⟩
    (.op ⟨(some 39), (.load none (.t 38)), none⟩
    (.op ⟨(some 40), (.idxA 2 1 (.t 8) (.c (.int .i64 1))), none⟩
    (.op ⟨(some 41), (.load none (.t 40)), none⟩
    (.op ⟨(some 42), (.mn (.t 39) (.t 41)), none⟩
    (.op ⟨(some 43), (.bin .geq .num (.t 42) (.c (.int .i64 0))), none⟩
    (.op ⟨(some 44), (.mov (.t 43)), none⟩
    r22_2))))))))
  (.cond (.t 53) k22_0 .skip))

/-- The rest. -/
def s22_5 : ACode := (.region (.op ⟨(some 60), (.bin .add .num (.t 34) (.c (.int .i64 1))), none⟩
    (.op ⟨(some 34), (.mov (.t 60)), none⟩ .nil)))

/-- The rest. -/
def s22_3 : ACode := (.seq (.block 3 (.seq (.region (.op ⟨(some 36), (.idx 2 (.t 32) (.t 34)), none⟩
    (.op ⟨(some 37), (.load (some 2) (.t 36)), none⟩
    (.op ⟨(some 8), (.alloc 28 [(.int .i64 0), (.int .i64 0)]), none⟩
    r22_1))))
  s22_4))
  s22_5)

/-- A loop's body. -/
def b22_1 : ACode := (.seq (.region (.op ⟨(some 35), (.bin .lss .num (.t 34) (.t 33)), none⟩ .nil))
  (.seq (.cond (.t 35) .skip (.exit 2))
  s22_3))

/-- A loop. -/
def l22_1 : ACode := .block 2 (.loop b22_1)

/-- The rest of a region. -/
def r22_3 : RTree := (.op ⟨(some 10), (.mov (.t 62)), none⟩ .nil)

/-- The rest of a region. -/
def r22_4 : RTree := (.op ⟨(some 11), (.mov (.t 67)), none⟩
    (.op ⟨none, (.store 3 (.t 12) (.t 69)), none⟩ .nil))

/-- The rest of a region. -/
def r22_5 : RTree := (.op ⟨(some 70), (.mov (.t 73)), none⟩
    (.op ⟨(some 74), (.ext 0 (.t 70)), none⟩
    (.op ⟨(some 75), (.ext 1 (.t 70)), none⟩
    (.op ⟨(some 13), (.mov (.t 74)), none⟩
    (.op ⟨(some 14), (.mov (.t 75)), none⟩ .nil)))))

/-- A branch. -/
def k22_1 : ACode := (.region (.op ⟨(some 86), (.mov (.t 10)), none⟩
    (.op ⟨(some 87), (.mov (.t 13)), none⟩
    (.op ⟨(some 88), (.mov (.t 11)), none⟩
    (.op ⟨none, (.mupd .str (.t 86) (.t 87) (.t 88)), none⟩ .nil)))))

/-- The rest. -/
def s22_13 : ACode := (.cond (.t 92) (.region (.op ⟨(some 9), (.mov (.c (.bool true))), none⟩ .nil)) .skip)

/-- A branch. -/
def k22_2 : ACode := (.seq (.region (.op ⟨(some 89), (.mov (.t 5)), none⟩
    (.op ⟨(some 90), (.mov (.t 11)), none⟩
    (.op ⟨(some 91), (.mov (.t 15)), none⟩
    (.op ⟨(some 92), (.call 57 [(.t 89), (.t 90), (.t 91)]), none⟩ .nil)))))
  s22_13)

/-- The rest. -/
def s22_12 : ACode := (.seq (.region (.op ⟨(some 79), (.mov (.t 10)), none⟩
    (.op ⟨(some 80), (.mov (.t 13)), none⟩
    (.op ⟨(some 81), (.look .str (.int .i64 0) true (.t 79) (.t 80)), none⟩
    (.op ⟨(some 78), (.mov (.t 81)), none⟩
    (.op ⟨(some 82), (.ext 0 (.t 78)), none⟩
    (.op ⟨(some 83), (.ext 1 (.t 78)), none⟩
    (.op ⟨(some 15), (.mov (.t 82)), none⟩
    (.op ⟨(some 16), (.mov (.t 83)), none⟩ .nil)))))))))
  (.seq (.region (.op ⟨(some 84), (.mov (.t 16)), none⟩
    (.op ⟨(some 85), (.un .not (.t 84)), none⟩ .nil)))
  (.cond (.t 85) k22_1 k22_2)))

/-- The rest. -/
def s22_11 : ACode := (.seq (.seq (.region (.op ⟨(some 76), (.mov (.t 14)), none⟩
    (.op ⟨(some 77), (.un .not (.t 76)), none⟩ .nil)))
  (.cond (.t 77) (.exit 7) .skip))
  s22_12)

/-- The rest. -/
def s22_10 : ACode := (.seq (.region (.op ⟨(some 71), (.mov (.t 5)), none⟩
    (.op ⟨(some 72), (.load (some 3) (.t 12)), none⟩
    (.op ⟨(some 73), (.call 58 [(.t 71), (.t 72)]), none⟩
    r22_5))))
  s22_11)

/-- The rest. -/
def s22_14 : ACode := (.region (.op ⟨(some 93), (.bin .add .num (.t 65) (.c (.int .i64 1))), none⟩
    (.op ⟨(some 65), (.mov (.t 93)), none⟩ .nil)))

/-- The rest. -/
def s22_9 : ACode := (.seq (.block 7 (.seq (.region (.op ⟨(some 67), (.mov (.t 65)), none⟩
    (.op ⟨(some 68), (.idx 3 (.t 63) (.t 65)), none⟩
    (.op ⟨(some 69), (.load (some 3) (.t 68)), none⟩
    (.op ⟨(some 12), (.alloc 24 [(.int .i64 0), (.int .i64 0), .nils]), none⟩
    r22_4)))))
  s22_10))
  s22_14)

/-- A loop's body. -/
def b22_3 : ACode := (.seq (.region (.op ⟨(some 66), (.bin .lss .num (.t 65) (.t 64)), none⟩ .nil))
  (.seq (.cond (.t 66) .skip (.exit 6))
  s22_9))

/-- A loop. -/
def l22_3 : ACode := .block 6 (.loop b22_3)

/-- The rest. -/
def s22_8 : ACode := (.seq (.region (.op ⟨(some 63), (.mov (.t 0)), none⟩
    (.op ⟨(some 64), (.len (.t 63)), none⟩
    (.op ⟨(some 65), (.mov (.c (.int .i64 0))), none⟩ .nil))))
  l22_3)

/-- The rest. -/
def s22_7 : ACode := (.block 5 (.seq (.region (.op ⟨(some 9), (.mov (.c (.bool false))), none⟩ .nil))
  (.seq (.region (.op ⟨(some 62), .mkM, none⟩
    r22_3))
  s22_8)))

/-- A loop's body. -/
def b22_2 : ACode := (.seq (.seq (.region (.op ⟨(some 61), (.mov (.t 9)), none⟩ .nil))
  (.cond (.t 61) .skip (.exit 4)))
  s22_7)

/-- A loop. -/
def l22_2 : ACode := .block 4 (.loop b22_2)

/-- The rest of a region. -/
def r22_6 : RTree := (.op ⟨(some 17), (.mov (.t 96)), none⟩ .nil)

/-- The rest of a region. -/
def r22_7 : RTree := (.op ⟨(some 107), (.idx 1 (.t 102) (.t 103)), none⟩
    (.op ⟨none, (.store 1 (.t 107) (.t 106)), none⟩ .nil))

/-- The rest. -/
def s22_18 : ACode := (.region (.op ⟨(some 108), (.bin .add .num (.t 99) (.c (.int .i64 1))), none⟩
    (.op ⟨(some 99), (.mov (.t 108)), none⟩ .nil)))

/-- The rest. -/
def s22_17 : ACode := (.seq (.block 9 (.seq (.region (.op ⟨(some 101), (.mov (.t 99)), none⟩
    (.op ⟨(some 18), (.mov (.t 101)), none⟩ .nil)))
  (.region (.op ⟨(some 102), (.mov (.t 17)), none⟩
    (.op ⟨(some 103), (.mov (.t 18)), none⟩
    (.op ⟨(some 104), (.mov (.t 5)), none⟩
    (.op ⟨(some 105), (.mov (.t 18)), none⟩
    (.op ⟨(some 106), (.call 59 [(.t 104), (.t 105)]), none⟩
    r22_7))))))))
  s22_18)

/-- A loop's body. -/
def b22_4 : ACode := (.seq (.region (.op ⟨(some 100), (.bin .lss .num (.t 99) (.t 98)), none⟩ .nil))
  (.seq (.cond (.t 100) .skip (.exit 8))
  s22_17))

/-- A loop. -/
def l22_4 : ACode := .block 8 (.loop b22_4)

/-- The rest. -/
def s22_19 : ACode := (.seq (.region (.op ⟨(some 109), (.mov (.t 17)), none⟩
    (.op ⟨(some 4), (.mov (.t 109)), none⟩ .nil)))
  .ret)

/-- The rest. -/
def s22_16 : ACode := (.seq (.seq (.region (.op ⟨(some 97), (.mov (.t 17)), none⟩
    (.op ⟨(some 98), (.len (.t 97)), none⟩
    (.op ⟨(some 99), (.mov (.c (.int .i64 0))), none⟩ .nil))))
  l22_4)
  s22_19)

/-- The rest. -/
def s22_15 : ACode := (.seq (.region (.op ⟨(some 94), (.mov (.t 0)), none⟩
    (.op ⟨(some 95), (.len (.t 94)), none⟩
    (.op ⟨(some 96), (.mkS 3 1 8 [(.int .i64 0)] (.t 95) (.t 95)), none⟩
    r22_6))))
  s22_16)

/-- The rest. -/
def s22_6 : ACode := (.seq (.seq (.region (.op ⟨(some 9), (.mov (.c (.bool true))), none⟩ .nil))
  l22_2)
  s22_15)

/-- The rest. -/
def s22_2 : ACode := (.seq (.seq (.region (.op ⟨(some 32), (.mov (.t 1)), none⟩
    (.op ⟨(some 33), (.len (.t 32)), none⟩
    (.op ⟨(some 34), (.mov (.c (.int .i64 0))), none⟩ .nil))))
  l22_1)
  s22_6)

/-- The rest. -/
def s22_0 : ACode := (.seq (.seq (.region (.op ⟨(some 22), (.mov (.t 5)), none⟩
    (.op ⟨(some 23), (.len (.t 22)), none⟩
    (.op ⟨(some 24), (.mov (.c (.int .i64 0))), none⟩ .nil))))
  l22_0)
  s22_2)

/-- The code. -/
def c22 : AFun := ⟨(.seq (.region (.op ⟨(some 4), (.mov (.c .nils)), none⟩ .nil))
  (.seq (.region (.op ⟨(some 19), (.mov (.t 0)), none⟩
    (.op ⟨(some 20), (.len (.t 19)), none⟩
    (.op ⟨(some 21), (.mkS 3 1 8 [(.int .i64 0)] (.t 20) (.t 20)), none⟩
    r22_0))))
  s22_0)),
  [(.tmp 4)]⟩

theorem t22 : trFun Go.Proofs.Try.prog (fun _ => false) 22 = some ⟨erase c22.code, c22.res⟩ := by kernel_rfl

end Go.Abs
