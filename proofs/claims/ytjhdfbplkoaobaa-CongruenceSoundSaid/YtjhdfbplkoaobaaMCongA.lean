/- The code of package congruence, as the abstract calculus sees it. -/
import Derived.Test.YtjhdfbplkoaobaaMCalcC
import Derived.Test.YtjhdfbplkoaobaaMCalcA
import Derived.Test.YtjhdfbplkoaobaaProg
import Derived.KernelRfl
import Derived.Test.YtjhdfbplkoaobaaRows
set_option linter.unusedVariables false
set_option linter.unusedSimpArgs false
namespace Go.Abs

/-- The rest. -/
def s59_0 : ACode := (.block 1 (.seq (.region (.op ⟨(some 11), (.mov (.t 0)), none⟩
    (.op ⟨(some 12), (.mov (.t 1)), none⟩
    (.op ⟨(some 13), (.mov (.t 0)), none⟩
    (.op ⟨(some 14), (.mov (.t 0)), none⟩
    (.op ⟨(some 15), (.mov (.t 1)), none⟩
    (.op ⟨(some 16), (.idx 1 (.t 14) (.t 15)), none⟩
    (.op ⟨(some 17), (.load none (.t 16)), none⟩
    (.op ⟨(some 18), (.idx 1 (.t 13) (.t 17)), none⟩
    (.op ⟨(some 19), (.load none (.t 18)), none⟩
    (.op ⟨(some 20), (.idx 1 (.t 11) (.t 12)), none⟩
    (.op ⟨none, (.store 1 (.t 20) (.t 19)), none⟩ .nil))))))))))))
  (.region (.op ⟨(some 21), (.mov (.t 0)), none⟩
    (.op ⟨(some 22), (.mov (.t 1)), none⟩
    (.op ⟨(some 23), (.idx 1 (.t 21) (.t 22)), none⟩
    (.op ⟨(some 24), (.load none (.t 23)), none⟩
    (.op ⟨(some 1), (.mov (.t 24)), none⟩ .nil))))))))

/-- A loop's body. -/
def b59_0 : ACode := (.seq (.seq (.region (.op ⟨(some 5), (.mov (.t 0)), none⟩
    (.op ⟨(some 6), (.mov (.t 1)), none⟩
    (.op ⟨(some 7), (.idx 1 (.t 5) (.t 6)), none⟩
    (.op ⟨(some 8), (.load none (.t 7)), none⟩
    (.op ⟨(some 9), (.mov (.t 1)), none⟩
    (.op ⟨(some 10), (.bin .neq .num (.t 8) (.t 9)), none⟩ .nil)))))))
  (.cond (.t 10) .skip (.exit 0)))
  s59_0)

/-- A loop. -/
def l59_0 : ACode := .block 0 (.loop b59_0)

/-- The rest. -/
def s59_1 : ACode := (.seq (.region (.op ⟨(some 25), (.mov (.t 1)), none⟩
    (.op ⟨(some 4), (.mov (.t 25)), none⟩ .nil)))
  .ret)

/-- The code. -/
def c59 : AFun := ⟨(.seq (.region (.op ⟨(some 4), (.mov (.c (.int .i64 0))), none⟩ .nil))
  (.seq l59_0
  s59_1)),
  [(.tmp 4)]⟩

theorem t59 : trFun Go.Proofs.Try.prog (fun _ => false) 59 = some ⟨erase c59.code, c59.res⟩ := by kernel_rfl

/-- The rest of a region. -/
def r57_1 : RTree := (.op ⟨(some 1), (.mov (.t 9)), none⟩
    (.op ⟨(some 2), (.mov (.t 12)), none⟩ .nil))

/-- The rest of a region. -/
def r57_0 : RTree := (.op ⟨(some 10), (.mov (.t 0)), none⟩
    (.op ⟨(some 11), (.mov (.t 2)), none⟩
    (.op ⟨(some 12), (.call 59 [(.t 10), (.t 11)]), none⟩
    r57_1)))

/-- The rest. -/
def s57_1 : ACode := (.seq (.region (.op ⟨(some 16), (.mov (.t 0)), none⟩
    (.op ⟨(some 17), (.mov (.t 1)), none⟩
    (.op ⟨(some 18), (.mov (.t 2)), none⟩
    (.op ⟨(some 19), (.mx (.t 17) (.t 18)), none⟩
    (.op ⟨(some 20), (.mov (.t 1)), none⟩
    (.op ⟨(some 21), (.mov (.t 2)), none⟩
    (.op ⟨(some 22), (.mn (.t 20) (.t 21)), none⟩
    (.op ⟨(some 23), (.idx 1 (.t 16) (.t 19)), none⟩
    (.op ⟨none, (.store 1 (.t 23) (.t 22)), none⟩ .nil))))))))))
  (.seq (.region (.op ⟨(some 6), (.mov (.c (.bool true))), none⟩ .nil))
  .ret))

/-- The rest. -/
def s57_0 : ACode := (.seq (.seq (.region (.op ⟨(some 13), (.mov (.t 1)), none⟩
    (.op ⟨(some 14), (.mov (.t 2)), none⟩
    (.op ⟨(some 15), (.bin .eql .num (.t 13) (.t 14)), none⟩ .nil))))
  (.cond (.t 15) (.seq (.region (.op ⟨(some 6), (.mov (.c (.bool false))), none⟩ .nil))
  .ret) .skip))
  s57_1)

/-- The code. -/
def c57 : AFun := ⟨(.seq (.region (.op ⟨(some 6), (.mov (.c (.bool false))), none⟩ .nil))
  (.seq (.region (.op ⟨(some 7), (.mov (.t 0)), none⟩
    (.op ⟨(some 8), (.mov (.t 1)), none⟩
    (.op ⟨(some 9), (.call 59 [(.t 7), (.t 8)]), none⟩
    r57_0))))
  s57_0)),
  [(.tmp 6)]⟩

theorem t57 : trFun Go.Proofs.Try.prog (fun _ => false) 57 = some ⟨erase c57.code, c57.res⟩ := by kernel_rfl

/-- The rest of a region. -/
def r97_1 : RTree := (.op ⟨(some 0), (.mov (.t 18)), none⟩ .nil)

/-- The rest of a region. -/
def r97_0 : RTree := (.op ⟨(some 18), (.app 5 1 1 (.t 10) (.t 17)), none⟩
    r97_1)

/-- The rest. -/
def s97_1 : ACode := (.region (.op ⟨(some 8), (.mov (.t 5)), none⟩
    (.op ⟨(some 9), (.bin .add .num (.t 8) (.c (.int .i64 1))), none⟩
    (.op ⟨(some 5), (.mov (.t 9)), none⟩ .nil))))

/-- The rest. -/
def s97_0 : ACode := (.seq (.block 1 (.region (.op ⟨(some 10), (.mov (.t 0)), none⟩
    (.op ⟨(some 11), (.mov (.t 1)), none⟩
    (.op ⟨(some 12), (.mov (.t 5)), none⟩
    (.op ⟨(some 13), (.bin .mul .num (.c (.int .i64 8)) (.t 12)), none⟩
    (.op ⟨(some 14), (.cint .u64 (.t 13)), none⟩
    (.op ⟨(some 15), (.bin .shr .num (.t 11) (.t 14)), none⟩
    (.op ⟨(some 16), (.cint .u8 (.t 15)), none⟩
    (.op ⟨(some 17), (.buildS 5 1 1 [(.int .u8 0)] [(0, (.t 16))]), none⟩
    r97_0))))))))))
  s97_1)

/-- A loop's body. -/
def b97_0 : ACode := (.seq (.seq (.region (.op ⟨(some 6), (.mov (.t 5)), none⟩
    (.op ⟨(some 7), (.bin .lss .num (.t 6) (.c (.int .i64 8))), none⟩ .nil)))
  (.cond (.t 7) .skip (.exit 0)))
  s97_0)

/-- A loop. -/
def l97_0 : ACode := .block 0 (.loop b97_0)

/-- The rest. -/
def s97_2 : ACode := (.seq (.region (.op ⟨(some 19), (.mov (.t 0)), none⟩
    (.op ⟨(some 4), (.mov (.t 19)), none⟩ .nil)))
  .ret)

/-- The code. -/
def c97 : AFun := ⟨(.seq (.region (.op ⟨(some 4), (.mov (.c .nils)), none⟩ .nil))
  (.seq (.seq (.region (.op ⟨(some 5), (.mov (.c (.int .i64 0))), none⟩ .nil))
  l97_0)
  s97_2)),
  [(.tmp 4)]⟩

theorem t97 : trFun Go.Proofs.Try.prog (fun _ => false) 97 = some ⟨erase c97.code, c97.res⟩ := by kernel_rfl

/-- The rest of a region. -/
def r58_0 : RTree := (.op ⟨(some 4), (.mov (.c (.str ⟨#[]⟩))), none⟩
    (.op ⟨(some 5), (.mov (.c (.bool false))), none⟩ .nil))

/-- The rest of a region. -/
def r58_1 : RTree := (.op ⟨(some 6), (.mov (.t 12)), none⟩ .nil)

/-- The rest of a region. -/
def r58_2 : RTree := (.op ⟨(some 6), (.mov (.t 17)), none⟩ .nil)

/-- The rest of a region. -/
def r58_3 : RTree := (.op ⟨(some 28), (.mov (.t 8)), (some (27, false))⟩
    (.op ⟨(some 29), (.mov (.t 0)), (some (27, false))⟩
    (.op ⟨(some 30), (.len (.t 29)), (some (27, false))⟩
    (.op ⟨(some 31), (.bin .geq .num (.t 28) (.t 30)), (some (27, false))⟩
    (.op ⟨(some 32), (.pick (.t 27) (.c (.bool true)) (.t 31)), none⟩ .nil)))))

/-- The rest of a region. -/
def r58_5 : RTree := (.op ⟨(some 6), (.mov (.t 38)), none⟩ .nil)

/-- The rest of a region. -/
def r58_4 : RTree := (.op ⟨(some 37), (.cint .u64 (.t 36)), none⟩
    (.op ⟨(some 38), (.call 97 [(.t 33), (.t 37)]), none⟩
    r58_5))

/-- The rest. -/
def s58_4 : ACode := (.region (.op ⟨(some 33), (.mov (.t 6)), none⟩
    (.op ⟨(some 34), (.mov (.t 0)), none⟩
    (.op ⟨(some 35), (.mov (.t 8)), none⟩
    (.op ⟨(some 36), (.call 59 [(.t 34), (.t 35)]), none⟩
    r58_4)))))

/-- The rest. -/
def s58_5 : ACode := (.region (.op ⟨(some 39), (.bin .add .num (.t 21) (.c (.int .i64 1))), none⟩
    (.op ⟨(some 21), (.mov (.t 39)), none⟩ .nil)))

/-- The rest. -/
def s58_3 : ACode := (.seq (.block 1 (.seq (.region (.op ⟨(some 23), (.idx 1 (.t 19) (.t 21)), none⟩
    (.op ⟨(some 24), (.load none (.t 23)), none⟩
    (.op ⟨(some 8), (.mov (.t 24)), none⟩ .nil))))
  (.seq (.seq (.region (.op ⟨(some 25), (.mov (.t 8)), none⟩
    (.op ⟨(some 26), (.bin .lss .num (.t 25) (.c (.int .i64 0))), none⟩
    (.op ⟨(some 27), (.mov (.t 26)), none⟩
    r58_3))))
  (.cond (.t 32) (.seq (.region (.op ⟨(some 4), (.mov (.c (.str ⟨#[]⟩))), none⟩
    (.op ⟨(some 5), (.mov (.c (.bool false))), none⟩ .nil)))
  .ret) .skip))
  s58_4)))
  s58_5)

/-- A loop's body. -/
def b58_0 : ACode := (.seq (.region (.op ⟨(some 22), (.bin .lss .num (.t 21) (.t 20)), none⟩ .nil))
  (.seq (.cond (.t 22) .skip (.exit 0))
  s58_3))

/-- A loop. -/
def l58_0 : ACode := .block 0 (.loop b58_0)

/-- The rest. -/
def s58_6 : ACode := (.seq (.region (.op ⟨(some 40), (.mov (.t 6)), none⟩
    (.op ⟨(some 41), (.cstr (.t 40)), none⟩
    (.op ⟨(some 4), (.mov (.t 41)), none⟩
    (.op ⟨(some 5), (.mov (.c (.bool true))), none⟩ .nil)))))
  .ret)

/-- The rest. -/
def s58_2 : ACode := (.seq (.seq (.region (.op ⟨(some 18), (.fld 2 (.t 3)), none⟩
    (.op ⟨(some 19), (.load none (.t 18)), none⟩
    (.op ⟨(some 20), (.len (.t 19)), none⟩
    (.op ⟨(some 21), (.mov (.c (.int .i64 0))), none⟩ .nil)))))
  l58_0)
  s58_6)

/-- The rest. -/
def s58_1 : ACode := (.seq (.region (.op ⟨(some 13), (.mov (.t 6)), none⟩
    (.op ⟨(some 14), (.fld 1 (.t 3)), none⟩
    (.op ⟨(some 15), (.load none (.t 14)), none⟩
    (.op ⟨(some 16), (.cint .u64 (.t 15)), none⟩
    (.op ⟨(some 17), (.call 97 [(.t 13), (.t 16)]), none⟩
    r58_2))))))
  s58_2)

/-- The rest. -/
def s58_0 : ACode := (.seq (.region (.op ⟨(some 9), (.fld 0 (.t 3)), none⟩
    (.op ⟨(some 10), (.load none (.t 9)), none⟩
    (.op ⟨(some 11), (.cint .u64 (.t 10)), none⟩
    (.op ⟨(some 12), (.call 97 [(.c .nils), (.t 11)]), none⟩
    r58_1)))))
  s58_1)

/-- The code. -/
def c58 : AFun := ⟨(.seq (.region (.op ⟨(some 3), (.box 24 3 (.t 1)), none⟩
    r58_0))
  s58_0),
  [(.tmp 4), (.tmp 5)]⟩

theorem t58 : trFun Go.Proofs.Try.prog (fun _ => false) 58 = some ⟨erase c58.code, c58.res⟩ := by kernel_rfl

/-- The rest of a region. -/
def r22_0 : RTree := (.op ⟨(some 5), (.mov (.t 21)), none⟩ .nil)

/-- The rest. -/
def s22_1 : ACode := (.seq (.block 1 (.seq (.region (.op ⟨(some 26), (.mov (.t 24)), none⟩
    (.op ⟨(some 6), (.mov (.t 26)), none⟩ .nil)))
  (.region (.op ⟨(some 27), (.mov (.t 5)), none⟩
    (.op ⟨(some 28), (.mov (.t 6)), none⟩
    (.op ⟨(some 29), (.mov (.t 6)), none⟩
    (.op ⟨(some 30), (.idx 1 (.t 27) (.t 28)), none⟩
    (.op ⟨none, (.store 1 (.t 30) (.t 29)), none⟩ .nil))))))))
  (.region (.op ⟨(some 31), (.bin .add .num (.t 24) (.c (.int .i64 1))), none⟩
    (.op ⟨(some 24), (.mov (.t 31)), none⟩ .nil))))

/-- A loop's body. -/
def b22_0 : ACode := (.seq (.region (.op ⟨(some 25), (.bin .lss .num (.t 24) (.t 23)), none⟩ .nil))
  (.seq (.cond (.t 25) .skip (.exit 0))
  s22_1))

/-- A loop. -/
def l22_0 : ACode := .block 0 (.loop b22_0)

/-- The rest of a region. -/
def r22_1 : RTree := (.op ⟨none, (.store 2 (.t 8) (.t 37)), none⟩ .nil)

/-- The rest of a region. -/
def r22_2 : RTree := (.op ⟨(some 45), (.idxA 2 1 (.t 8) (.c (.int .i64 0))), (some (44, true))⟩
    (.op ⟨(some 46), (.load none (.t 45)), (some (44, true))⟩
    (.op ⟨(some 47), (.idxA 2 1 (.t 8) (.c (.int .i64 1))), (some (44, true))⟩
    (.op ⟨(some 48), (.load none (.t 47)), (some (44, true))⟩
    (.op ⟨(some 49), (.mx (.t 46) (.t 48)), (some (44, true))⟩
    (.op ⟨(some 50), (.mov (.t 0)), (some (44, true))⟩
    (.op ⟨(some 51), (.len (.t 50)), (some (44, true))⟩
    (.op ⟨(some 52), (.bin .lss .num (.t 49) (.t 51)), (some (44, true))⟩
    (.op ⟨(some 53), (.pick (.t 44) (.t 52) (.c (.bool false))), none⟩ .nil)))))))))

/-- A branch. -/
def k22_0 : ACode := (.region (.op ⟨(some 54), (.mov (.t 5)), none⟩
    (.op ⟨(some 55), (.idxA 2 1 (.t 8) (.c (.int .i64 0))), none⟩
    (.op ⟨(some 56), (.load none (.t 55)), none⟩
    (.op ⟨(some 57), (.idxA 2 1 (.t 8) (.c (.int .i64 1))), none⟩
    (.op ⟨(some 58), (.load none (.t 57)), none⟩
    (.op ⟨(some 59), (.call 57 [(.t 54), (.t 56), (.t 58)]), none⟩ .nil)))))))

/-- The rest. -/
def s22_4 : ACode := (.seq (.region (.op ⟨(some 38), (.idxA 2 1 (.t 8) (.c (.int .i64 0))), none⟩
    (.op ⟨(some 39), (.load none (.t 38)), none⟩
    (.op ⟨(some 40), (.idxA 2 1 (.t 8) (.c (.int .i64 1))), none⟩
    (.op ⟨(some 41), (.load none (.t 40)), none⟩
    (.op ⟨(some 42), (.mn (.t 39) (.t 41)), none⟩
    (.op ⟨(some 43), (.bin .geq .num (.t 42) (.c (.int .i64 0))), none⟩
    (.op ⟨(some 44), (.mov (.t 43)), none⟩
    r22_2))))))))
  (.cond (.t 53) k22_0 .skip))

/-- The rest. -/
def s22_5 : ACode := (.region (.op ⟨(some 60), (.bin .add .num (.t 34) (.c (.int .i64 1))), none⟩
    (.op ⟨(some 34), (.mov (.t 60)), none⟩ .nil)))

/-- The rest. -/
def s22_3 : ACode := (.seq (.block 3 (.seq (.region (.op ⟨(some 36), (.idx 2 (.t 32) (.t 34)), none⟩
    (.op ⟨(some 37), (.load (some 2) (.t 36)), none⟩
    (.op ⟨(some 8), (.alloc 28 [(.int .i64 0), (.int .i64 0)]), none⟩
    r22_1))))
  s22_4))
  s22_5)

/-- A loop's body. -/
def b22_1 : ACode := (.seq (.region (.op ⟨(some 35), (.bin .lss .num (.t 34) (.t 33)), none⟩ .nil))
  (.seq (.cond (.t 35) .skip (.exit 2))
  s22_3))

/-- A loop. -/
def l22_1 : ACode := .block 2 (.loop b22_1)

/-- The rest of a region. -/
def r22_3 : RTree := (.op ⟨(some 10), (.mov (.t 62)), none⟩ .nil)

/-- The rest of a region. -/
def r22_4 : RTree := (.op ⟨(some 11), (.mov (.t 67)), none⟩
    (.op ⟨none, (.store 3 (.t 12) (.t 69)), none⟩ .nil))

/-- The rest of a region. -/
def r22_5 : RTree := (.op ⟨(some 70), (.mov (.t 73)), none⟩
    (.op ⟨(some 74), (.ext 0 (.t 70)), none⟩
    (.op ⟨(some 75), (.ext 1 (.t 70)), none⟩
    (.op ⟨(some 13), (.mov (.t 74)), none⟩
    (.op ⟨(some 14), (.mov (.t 75)), none⟩ .nil)))))

/-- A branch. -/
def k22_1 : ACode := (.region (.op ⟨(some 86), (.mov (.t 10)), none⟩
    (.op ⟨(some 87), (.mov (.t 13)), none⟩
    (.op ⟨(some 88), (.mov (.t 11)), none⟩
    (.op ⟨none, (.mupd .str (.t 86) (.t 87) (.t 88)), none⟩ .nil)))))

/-- The rest. -/
def s22_13 : ACode := (.cond (.t 92) (.region (.op ⟨(some 9), (.mov (.c (.bool true))), none⟩ .nil)) .skip)

/-- A branch. -/
def k22_2 : ACode := (.seq (.region (.op ⟨(some 89), (.mov (.t 5)), none⟩
    (.op ⟨(some 90), (.mov (.t 11)), none⟩
    (.op ⟨(some 91), (.mov (.t 15)), none⟩
    (.op ⟨(some 92), (.call 57 [(.t 89), (.t 90), (.t 91)]), none⟩ .nil)))))
  s22_13)

/-- The rest. -/
def s22_12 : ACode := (.seq (.region (.op ⟨(some 79), (.mov (.t 10)), none⟩
    (.op ⟨(some 80), (.mov (.t 13)), none⟩
    (.op ⟨(some 81), (.look .str (.int .i64 0) true (.t 79) (.t 80)), none⟩
    (.op ⟨(some 78), (.mov (.t 81)), none⟩
    (.op ⟨(some 82), (.ext 0 (.t 78)), none⟩
    (.op ⟨(some 83), (.ext 1 (.t 78)), none⟩
    (.op ⟨(some 15), (.mov (.t 82)), none⟩
    (.op ⟨(some 16), (.mov (.t 83)), none⟩ .nil)))))))))
  (.seq (.region (.op ⟨(some 84), (.mov (.t 16)), none⟩
    (.op ⟨(some 85), (.un .not (.t 84)), none⟩ .nil)))
  (.cond (.t 85) k22_1 k22_2)))

/-- The rest. -/
def s22_11 : ACode := (.seq (.seq (.region (.op ⟨(some 76), (.mov (.t 14)), none⟩
    (.op ⟨(some 77), (.un .not (.t 76)), none⟩ .nil)))
  (.cond (.t 77) (.exit 7) .skip))
  s22_12)

/-- The rest. -/
def s22_10 : ACode := (.seq (.region (.op ⟨(some 71), (.mov (.t 5)), none⟩
    (.op ⟨(some 72), (.load (some 3) (.t 12)), none⟩
    (.op ⟨(some 73), (.call 58 [(.t 71), (.t 72)]), none⟩
    r22_5))))
  s22_11)

/-- The rest. -/
def s22_14 : ACode := (.region (.op ⟨(some 93), (.bin .add .num (.t 65) (.c (.int .i64 1))), none⟩
    (.op ⟨(some 65), (.mov (.t 93)), none⟩ .nil)))

/-- The rest. -/
def s22_9 : ACode := (.seq (.block 7 (.seq (.region (.op ⟨(some 67), (.mov (.t 65)), none⟩
    (.op ⟨(some 68), (.idx 3 (.t 63) (.t 65)), none⟩
    (.op ⟨(some 69), (.load (some 3) (.t 68)), none⟩
    (.op ⟨(some 12), (.alloc 24 [(.int .i64 0), (.int .i64 0), .nils]), none⟩
    r22_4)))))
  s22_10))
  s22_14)

/-- A loop's body. -/
def b22_3 : ACode := (.seq (.region (.op ⟨(some 66), (.bin .lss .num (.t 65) (.t 64)), none⟩ .nil))
  (.seq (.cond (.t 66) .skip (.exit 6))
  s22_9))

/-- A loop. -/
def l22_3 : ACode := .block 6 (.loop b22_3)

/-- The rest. -/
def s22_8 : ACode := (.seq (.region (.op ⟨(some 63), (.mov (.t 0)), none⟩
    (.op ⟨(some 64), (.len (.t 63)), none⟩
    (.op ⟨(some 65), (.mov (.c (.int .i64 0))), none⟩ .nil))))
  l22_3)

/-- The rest. -/
def s22_7 : ACode := (.block 5 (.seq (.region (.op ⟨(some 9), (.mov (.c (.bool false))), none⟩ .nil))
  (.seq (.region (.op ⟨(some 62), .mkM, none⟩
    r22_3))
  s22_8)))

/-- A loop's body. -/
def b22_2 : ACode := (.seq (.seq (.region (.op ⟨(some 61), (.mov (.t 9)), none⟩ .nil))
  (.cond (.t 61) .skip (.exit 4)))
  s22_7)

/-- A loop. -/
def l22_2 : ACode := .block 4 (.loop b22_2)

/-- The rest of a region. -/
def r22_6 : RTree := (.op ⟨(some 17), (.mov (.t 96)), none⟩ .nil)

/-- The rest of a region. -/
def r22_7 : RTree := (.op ⟨(some 107), (.idx 1 (.t 102) (.t 103)), none⟩
    (.op ⟨none, (.store 1 (.t 107) (.t 106)), none⟩ .nil))

/-- The rest. -/
def s22_18 : ACode := (.region (.op ⟨(some 108), (.bin .add .num (.t 99) (.c (.int .i64 1))), none⟩
    (.op ⟨(some 99), (.mov (.t 108)), none⟩ .nil)))

/-- The rest. -/
def s22_17 : ACode := (.seq (.block 9 (.seq (.region (.op ⟨(some 101), (.mov (.t 99)), none⟩
    (.op ⟨(some 18), (.mov (.t 101)), none⟩ .nil)))
  (.region (.op ⟨(some 102), (.mov (.t 17)), none⟩
    (.op ⟨(some 103), (.mov (.t 18)), none⟩
    (.op ⟨(some 104), (.mov (.t 5)), none⟩
    (.op ⟨(some 105), (.mov (.t 18)), none⟩
    (.op ⟨(some 106), (.call 59 [(.t 104), (.t 105)]), none⟩
    r22_7))))))))
  s22_18)

/-- A loop's body. -/
def b22_4 : ACode := (.seq (.region (.op ⟨(some 100), (.bin .lss .num (.t 99) (.t 98)), none⟩ .nil))
  (.seq (.cond (.t 100) .skip (.exit 8))
  s22_17))

/-- A loop. -/
def l22_4 : ACode := .block 8 (.loop b22_4)

/-- The rest. -/
def s22_19 : ACode := (.seq (.region (.op ⟨(some 109), (.mov (.t 17)), none⟩
    (.op ⟨(some 4), (.mov (.t 109)), none⟩ .nil)))
  .ret)

/-- The rest. -/
def s22_16 : ACode := (.seq (.seq (.region (.op ⟨(some 97), (.mov (.t 17)), none⟩
    (.op ⟨(some 98), (.len (.t 97)), none⟩
    (.op ⟨(some 99), (.mov (.c (.int .i64 0))), none⟩ .nil))))
  l22_4)
  s22_19)

/-- The rest. -/
def s22_15 : ACode := (.seq (.region (.op ⟨(some 94), (.mov (.t 0)), none⟩
    (.op ⟨(some 95), (.len (.t 94)), none⟩
    (.op ⟨(some 96), (.mkS 3 1 8 [(.int .i64 0)] (.t 95) (.t 95)), none⟩
    r22_6))))
  s22_16)

/-- The rest. -/
def s22_6 : ACode := (.seq (.seq (.region (.op ⟨(some 9), (.mov (.c (.bool true))), none⟩ .nil))
  l22_2)
  s22_15)

/-- The rest. -/
def s22_2 : ACode := (.seq (.seq (.region (.op ⟨(some 32), (.mov (.t 1)), none⟩
    (.op ⟨(some 33), (.len (.t 32)), none⟩
    (.op ⟨(some 34), (.mov (.c (.int .i64 0))), none⟩ .nil))))
  l22_1)
  s22_6)

/-- The rest. -/
def s22_0 : ACode := (.seq (.seq (.region (.op ⟨(some 22), (.mov (.t 5)), none⟩
    (.op ⟨(some 23), (.len (.t 22)), none⟩
    (.op ⟨(some 24), (.mov (.c (.int .i64 0))), none⟩ .nil))))
  l22_0)
  s22_2)

/-- The code. -/
def c22 : AFun := ⟨(.seq (.region (.op ⟨(some 4), (.mov (.c .nils)), none⟩ .nil))
  (.seq (.region (.op ⟨(some 19), (.mov (.t 0)), none⟩
    (.op ⟨(some 20), (.len (.t 19)), none⟩
    (.op ⟨(some 21), (.mkS 3 1 8 [(.int .i64 0)] (.t 20) (.t 20)), none⟩
    r22_0))))
  s22_0)),
  [(.tmp 4)]⟩

theorem t22 : trFun Go.Proofs.Try.prog (fun _ => false) 22 = some ⟨erase c22.code, c22.res⟩ := by kernel_rfl

end Go.Abs

/- Forests in which every parent is at most its child: the root of an element, and what shortening a path and joining two roots do to it. -/
namespace Go.Abs

theorem upd_upd (h : Heap) (b : Nat) (x y : Blk) : upd (upd h b x) b y = upd h b y := by
  funext c; simp only [upd]; split <;> rfl
theorem upd_self {h : Heap} {b : Nat} {x : Blk} (hb : h b = some x) : upd h b x = h := by
  funext c; simp only [upd]; split
  · rename_i e; subst e; exact hb.symm
  · rfl
theorem upd_comm {h : Heap} {b c : Nat} {x y : Blk} (hne : b ≠ c) : upd (upd h b x) c y = upd (upd h c y) b x := by
  funext k; simp only [upd]; split
  · rename_i e; subst e; rw [if_neg (Ne.symm hne)]
  · rfl

def Forest (p : List Nat) : Prop := ∀ i (h : i < p.length), p[i] ≤ i

def root (p : List Nat) (i : Nat) : Nat :=
  if h : p.getD i 0 < i then root p (p.getD i 0) else i
termination_by i

theorem getD_lt {p : List Nat} {i : Nat} (h : i < p.length) : p.getD i 0 = p[i] := by simp [List.getD_eq_getElem?_getD, h]

theorem root_le (p : List Nat) : ∀ i, root p i ≤ i := by
  intro i
  induction i using Nat.strongRecOn with
  | _ i ih =>
    unfold root
    split
    · rename_i h; exact Nat.le_trans (ih _ h) (Nat.le_of_lt h)
    · exact Nat.le_refl _

theorem root_self {p : List Nat} {i : Nat} (h : i < p.length) (e : p[i] = i) : root p i = i := by
  unfold root; rw [getD_lt h, e]; simp
theorem root_step {p : List Nat} (hf : Forest p) {i : Nat} (h : i < p.length) : root p p[i] = root p i := by
  rcases Nat.lt_or_ge p[i] i with c | c
  · conv => rhs; unfold root
    rw [getD_lt h, dif_pos c]
  · rw [Nat.le_antisymm (hf i h) c]
theorem root_lt {p : List Nat} {i : Nat} (h : i < p.length) : root p i < p.length := Nat.lt_of_le_of_lt (root_le p i) h
theorem root_root {p : List Nat} (hf : Forest p) : ∀ {i : Nat} (h : i < p.length), p[root p i]'(root_lt h) = root p i := by
  intro i
  induction i using Nat.strongRecOn with
  | _ i ih =>
    intro h
    rcases Nat.lt_or_ge p[i] i with c | c
    · have := ih _ c (Nat.lt_trans c h)
      simp only [root_step hf h] at this
      exact this
    · have e := Nat.le_antisymm (hf i h) c
      simp only [root_self h e, e]
theorem root_idem {p : List Nat} (hf : Forest p) {i : Nat} (h : i < p.length) : root p (root p i) = root p i := root_self _ (root_root hf h)
theorem root_self_iff {p : List Nat} (hf : Forest p) {i : Nat} (h : i < p.length) : root p i = i ↔ p[i] = i := by
  constructor
  · intro e
    have := root_root hf h
    simp only [e] at this
    exact this
  · exact root_self h

/-- The same sets. -/
structure SameF (p p' : List Nat) : Prop where
  forest : Forest p'
  len : p'.length = p.length
  same : ∀ j, j < p.length → root p' j = root p j

theorem SameF.refl {p : List Nat} (hf : Forest p) : SameF p p := ⟨hf, rfl, fun _ _ => rfl⟩
theorem SameF.trans {p q r : List Nat} (a : SameF p q) (b : SameF q r) : SameF p r := ⟨b.forest, b.len.trans a.len, fun j hj => (b.same j (by rw [a.len]; exact hj)).trans (a.same j hj)⟩

/-- Another parent of the same set. -/
theorem SameF.set {p : List Nat} (hf : Forest p) {i k : Nat} (hi : i < p.length) (hk : k < i) (hr : root p k = root p i) : SameF p (p.set i k) := by
  have hF : Forest (p.set i k) := by
    intro j hj
    rw [List.getElem_set]
    split
    · omega
    · exact hf j (by simpa using hj)
  refine ⟨hF, by simp, ?_⟩
  intro j
  induction j using Nat.strongRecOn with
  | _ j ih =>
    intro hj
    have hj' : j < (p.set i k).length := by simpa using hj
    by_cases e : j = i
    · subst e
      rw [← root_step hF hj', List.getElem_set_self, ih k hk (Nat.lt_trans hk hj), hr]
    · have e2 : (p.set i k)[j] = p[j] := by rw [List.getElem_set, if_neg (Ne.symm e)]
      rcases Nat.lt_or_ge p[j] j with c | c
      · rw [← root_step hF hj', ← root_step hf hj, e2]
        exact ih _ c (Nat.lt_trans c hj)
      · have e3 := Nat.le_antisymm (hf j hj) c
        rw [root_self hj' (e2.trans e3), root_self hj e3]

/-- Two roots joined. -/
theorem join_root {p : List Nat} (hf : Forest p) {a b : Nat} (ha : b < p.length) (hab : a < b) (ra : root p a = a) (rb : root p b = b) :
    Forest (p.set b a) ∧ ∀ j, j < p.length → root (p.set b a) j = if root p j = b then a else root p j := by
  have hF : Forest (p.set b a) := by
    intro j hj
    rw [List.getElem_set]
    split
    · omega
    · exact hf j (by simpa using hj)
  refine ⟨hF, ?_⟩
  intro j
  induction j using Nat.strongRecOn with
  | _ j ih =>
    intro hj
    have hj' : j < (p.set b a).length := by simpa using hj
    by_cases e : j = b
    · subst e
      rw [← root_step hF hj', List.getElem_set_self, ih a hab (by omega), ra, rb, if_neg (by omega), if_pos rfl]
    · have e2 : (p.set b a)[j] = p[j] := by rw [List.getElem_set, if_neg (Ne.symm e)]
      rcases Nat.lt_or_ge p[j] j with c | c
      · rw [← root_step hF hj', e2, ih _ c (Nat.lt_trans c hj), root_step hf hj]
      · have e3 := Nat.le_antisymm (hf j hj) c
        rw [root_self hj' (e2.trans e3), root_self hj e3, if_neg e]

end Go.Abs

/- What the functions of package congruence do: find and union. -/
namespace Go.Abs
open Go.Proofs.Try (prog)

theorem mixed : prog.follows .mixedOrders = true := by kernel_rfl

/-- No call is a value. -/
def noq : FuncId → List V → Heap → Option V := fun _ _ _ => none
theorem noq_ok : QOk prog noq where
  sound := by intro f args h v hv; cases hv
  mono := by intro f args h h' v _ hv; cases hv

/-- find returns the root and keeps the sets. -/
theorem ac59 {h : Heap} {b n : Nat} {cap : Option Nat} {e : TypeId} {p : List Nat} {i : Nat} (hb : h b = some (.cells e 1 (nats p))) (hn : n = p.length) (hF : Forest p) (hi : i < p.length) :
    AC prog 59 [.sl 1 b 0 n cap, .int .i64 i] h fun v h' => v = .int .i64 (root p i : Nat) ∧ ∃ p', SameF p p' ∧ h' = upd h b (.cells e 1 (nats p')) := by
  subst hn
  refine AC_of noq_ok mixed t59 ?_
  simp [c59, l59_0]
  refine W_loop (fun m tm h1 => ∃ (q : List Nat), tm 0 = .sl 1 b 0 p.length cap ∧ tm 1 = .int .i64 (m : Nat) ∧ SameF p q ∧ m < p.length ∧ root p m = root p i ∧ h1 = upd h b (.cells e 1 (nats q))) i ⟨p, rfl, rfl, .refl hF, hi, rfl, (upd_self hb).symm⟩ ?_
  rintro m tm h1 ⟨q, h0, h1', hS, hj, hr, rfl⟩
  have hjq : m < q.length := by rw [hS.len]; exact hj
  have hkq : q[m] < q.length := Nat.lt_of_le_of_lt (hS.forest m hjq) hjq
  have hkp : q[m] < p.length := by rw [← hS.len]; exact hkq
  simp [b59_0, h0, h1', hjq, hj, upd_at]
  refine Wc_intro (fun hc => ?_) (fun hc => ?_)
  · simp at hc
    have hlt : q[m] < m := Nat.lt_of_le_of_ne (hS.forest m hjq) (fun e => hc (by omega))
    have hll : q[q[m]] < m := Nat.lt_of_le_of_lt (hS.forest _ hkq) hlt
    simp [s59_0, h0, h1', hjq, hj, upd_at, hkq, hkp]
    refine ⟨hjq, q[q[m]], hll, rfl, q.set m q[q[m]], ?_, ?_, ?_, ?_⟩
    · refine hS.trans (SameF.set hS.forest hjq hll ?_)
      rw [root_step hS.forest hkq, root_step hS.forest hjq]
    · omega
    · rw [← hr, ← hS.same m hj, ← root_step hS.forest hjq, ← root_step hS.forest hkq, hS.same _ (by omega)]
    · rw [upd_upd, nats_set]
  · simp at hc
    have hself : root p m = m := by rw [← hS.same m hj]; exact root_self hjq (by omega)
    simp [s59_1, h1']
    exact keepAll ⟨by rw [← hr, hself], q, hS, rfl⟩

/-- What union leaves: the joined sets. -/
structure JoinF (p : List Nat) (i j : Nat) (p' : List Nat) : Prop where
  forest : Forest p'
  len : p'.length = p.length
  join : ∀ k, k < p.length → root p' k = if root p k = root p i ∨ root p k = root p j then min (root p i) (root p j) else root p k

theorem ac57 {h : Heap} {b n : Nat} {cap : Option Nat} {e : TypeId} {p : List Nat} {i j : Nat} (hb : h b = some (.cells e 1 (nats p))) (hn : n = p.length) (hF : Forest p) (hi : i < p.length) (hj : j < p.length) :
    AC prog 57 [.sl 1 b 0 n cap, .int .i64 i, .int .i64 j] h fun v h' => v = .bool (root p i != root p j) ∧ ∃ p', JoinF p i j p' ∧ h' = upd h b (.cells e 1 (nats p')) := by
  subst hn
  refine AC_of noq_ok mixed t57 ?_
  simp [c57]
  refine (ac59 hb rfl hF hi).mono ?_
  rintro v h1 ⟨rfl, p1, hS1, rfl⟩
  simp [r57_0]
  refine (ac59 (p := p1) (i := j) (upd_eq _ _ _) hS1.len.symm hS1.forest (by rw [hS1.len]; exact hj)).mono ?_
  rintro v h1 ⟨rfl, p2, hS2, rfl⟩
  rw [upd_upd]
  have hj1 : root p1 j = root p j := hS1.same j hj
  rw [hj1]
  have hS := hS1.trans hS2
  simp [r57_1, s57_0]
  refine Wc_intro (fun hc => ?_) (fun hc => ?_)
  · simp at hc
    have hc' : root p i = root p j := by omega
    refine keepAll ⟨hc', p2, ⟨hS.forest, hS.len, fun k hk => ?_⟩, rfl⟩
    rw [hS.same k hk, hc']
    split <;> omega
  · simp at hc
    have hc' : root p i ≠ root p j := by omega
    have hri := root_lt hi (p := p)
    have hrj := root_lt hj (p := p)
    have ri2 : root p2 (root p i) = root p i := by rw [hS.same _ hri, root_idem hF hi]
    have rj2 : root p2 (root p j) = root p j := by rw [hS.same _ hrj, root_idem hF hj]
    have hl2 := hS.len
    rcases Nat.lt_or_ge (root p i) (root p j) with c | c
    · have e1 : min (root p i : Int) (root p j) = root p i := by omega
      have e2 : max (root p i : Int) (root p j) = root p j := by omega
      obtain ⟨g1, g2⟩ := join_root hS.forest (a := root p i) (b := root p j) (by omega) c ri2 rj2
      simp [s57_1, e1, e2, hrj, upd_at]
      refine ⟨by omega, keepAll ⟨hc', p2.set (root p j) (root p i), ⟨g1, by simpa using hl2, fun k hk => ?_⟩, ?_⟩⟩
      · rw [g2 k (by omega), hS.same k hk]
        split
        · rename_i e5; rw [if_pos (.inr e5)]; omega
        · rename_i e5
          split
          · rename_i e6; omega
          · rfl
      · rw [upd_upd, nats_set]
    · have e1 : min (root p i : Int) (root p j) = root p j := by omega
      have e2 : max (root p i : Int) (root p j) = root p i := by omega
      obtain ⟨g1, g2⟩ := join_root hS.forest (a := root p j) (b := root p i) (by omega) (by omega) rj2 ri2
      simp [s57_1, e1, e2, hri, upd_at]
      refine ⟨by omega, keepAll ⟨hc', p2.set (root p i) (root p j), ⟨g1, by simpa using hl2, fun k hk => ?_⟩, ?_⟩⟩
      · rw [g2 k (by omega), hS.same k hk]
        split
        · rename_i e5; rw [if_pos (.inl e5)]; omega
        · rename_i e5
          split
          · rename_i e6; omega
          · rfl
      · rw [upd_upd, nats_set]

end Go.Abs

/- What appendUint64 and key of package congruence do. -/
namespace Go.Abs
open Go.Proofs.Try (prog)

theorem wrap_u64 {x : Int} (h1 : 0 ≤ x) (h2 : x < 18446744073709551616) : IntKind.u64.wrap x = x := by
  simp only [IntKind.wrap, IntKind.signed, IntKind.bits]
  simp
  omega

/-- The i-th byte of a number. -/
def byte8 (n : Int) (i : Nat) : Int := IntKind.u8.wrap (n.fdiv (2 ^ (8 * i)))
def bytes8 (n : Int) (k : Nat) : List V := (List.range k).map fun i => .int .u8 (byte8 n i)

/-- The heap without a slice's block. -/
def eraS (h : Heap) : V → Heap
  | .sl _ b _ _ _ => era h b
  | _ => h

/-- A slice that grows: nil, or a block of its own. -/
def Buf (e : TypeId) (esz : Nat) (h : Heap) (s : V) (xs : List V) (n : Nat) : Prop :=
  (s = .nils ∧ xs = [] ∧ n = 0) ∨ ∃ b, s = .sl esz b 0 n none ∧ h b = some (.cells e esz xs) ∧ xs.length = n * esz

/-- A step of a slice that grows. -/
theorem wApp_buf {e : TypeId} {esz bytes : Nat} {s x : V} {h : Heap} {xs ys : List V} {n m : Nat} {K : V → Heap → Prop} (hb : Buf e esz h s xs n) (hx : cellsOf h esz x = some (ys, m)) (hc : ys.all V.isCell = true) (hy : ys.length = m * esz) (hm : 0 < m)
    (h1 : (n + m) * bytes ≤ 140737488355328) (h2 : n + m ≤ 140737488355328)
    (hK : ∀ b' h', (∀ c, eraS h s c ≠ none → c ≠ b') → Sub (eraS h s) (era h' b') → h' b' = some (.cells e esz (xs ++ ys)) → (xs ++ ys).length = (n + m) * esz → h' = upd (eraS h s) b' (.cells e esz (xs ++ ys)) → K (.sl esz b' 0 (n + m) none) h') : wApp e esz bytes s x h K := by
  rcases hb with ⟨rfl, rfl, rfl⟩ | ⟨b, rfl, hb, hl⟩
  · rw [wApp_nils hx]
    refine ⟨hc, ?_⟩
    rw [if_neg (by omega)]
    refine ⟨by simpa using h1, by simpa using h2, fun b' hb' => ?_⟩
    have := hK b' (upd h b' (.cells e esz ys)) (fun c hc e => hc (by subst e; exact hb')) (fun c x hx => ?_) (by simp [upd_eq]) (by simpa using hy) rfl
    · simpa using this
    · have : c ≠ b' := by rintro rfl; simp [eraS, hb'] at hx
      rw [era_ne _ _ _ this, upd_ne _ _ _ _ this]; exact hx
  · rw [wApp_tip hx hb]
    refine ⟨hc, ⟨h1, h2⟩, hl, fun b' hb' => ?_⟩
    have sub : ∀ c, eraS h (.sl esz b 0 n none) c ≠ none → c ≠ b' := by
      intro c hc e
      subst e
      refine hc ?_
      show era h b c = none
      unfold era
      split
      · rfl
      · exact hb'
    refine hK b' _ sub (fun c x hx => ?_) (by simp [upd_eq]) (by simp [hl, hy, Nat.add_mul]) rfl
    have : c ≠ b' := sub c (by rw [hx]; simp)
    rw [era_ne _ _ _ this, upd_ne _ _ _ _ this]; exact hx

/-- A fresh block leaves it. -/
theorem Buf.new {e : TypeId} {esz : Nat} {h : Heap} {s : V} {xs : List V} {n : Nat} (hb : Buf e esz h s xs n) {b' : Nat} (hb' : h b' = none) (x : Blk) : Buf e esz (upd h b' x) s xs n ∧ Sub (eraS h s) (eraS (upd h b' x) s) := by
  rcases hb with ⟨rfl, rfl, rfl⟩ | ⟨b, rfl, hb, hl⟩
  · exact ⟨.inl ⟨rfl, rfl, rfl⟩, sub_upd hb' x⟩
  · have hne : b ≠ b' := by rintro rfl; rw [hb] at hb'; cases hb'
    refine ⟨.inr ⟨b, rfl, by rw [upd_ne _ _ _ _ hne]; exact hb, hl⟩, fun c y hc => ?_⟩
    simp only [eraS] at hc ⊢
    unfold era at hc ⊢
    split at hc
    · cases hc
    · rename_i h1
      rw [if_neg h1]
      exact sub_upd hb' x _ _ hc

theorem Sub.trans {h h' h'' : Heap} (a : Sub h h') (b : Sub h' h'') : Sub h h'' := fun c x hx => b c x (a c x hx)

theorem bytes8_succ (u : Int) (i : Nat) : bytes8 u (i + 1) = bytes8 u i ++ [.int .u8 (byte8 u i)] := by
  simp [bytes8, List.range_succ]
@[simp] theorem bytes8_len (u : Int) (i : Nat) : (bytes8 u i).length = i := by simp [bytes8]

theorem ac97 {h : Heap} {s : V} {xs : List V} {n : Nat} {u : Int} (hs : Buf 5 1 h s xs n) (hu : 0 ≤ u ∧ u < 18446744073709551616) (hn : n + 8 ≤ 140737488355328) :
    AC prog 97 [s, .int .u64 u] h fun v h' => ∃ b', (∀ c, eraS h s c ≠ none → c ≠ b') ∧ v = .sl 1 b' 0 (n + 8) none ∧ h' = upd (eraS h s) b' (.cells 5 1 (xs ++ bytes8 u 8)) ∧ (xs ++ bytes8 u 8).length = n + 8 := by
  refine AC_of noq_ok mixed t97 ?_
  simp [c97, l97_0]
  refine W_loop (fun m tm h1 => ∃ (i : Nat), m = 8 - i ∧ i ≤ 8 ∧ tm 1 = .int .u64 u ∧ tm 5 = .int .i64 (i : Nat) ∧ Buf 5 1 h1 (tm 0) (xs ++ bytes8 u i) (n + i) ∧ Sub (eraS h s) (eraS h1 (tm 0)) ) 8 ⟨0, rfl, by omega, rfl, rfl, by simpa [bytes8] using hs, Sub.refl _⟩ ?_
  rintro m tm h1 ⟨i, rfl, hi, h1', h5, hB, hS⟩
  simp [b97_0, h1', h5]
  refine Wc_intro (fun hc => ?_) (fun hc => ?_)
  · simp at hc
    have w1 : IntKind.i64.wrap (8 * (i : Int)) = 8 * i := wrap_id (by omega) (by omega)
    have w2 : IntKind.u64.wrap (8 * (i : Int)) = 8 * i := wrap_u64 (by omega) (by omega)
    have w3 : ¬ (8 * (i : Int) < 0) := by omega
    have w4 : min (8 * (i : Int)).toNat IntKind.u64.bits = 8 * i := by simp only [IntKind.bits]; omega
    simp [s97_0, h1', h5, w1, w2, w3, w4]
    intro b1 hb1
    obtain ⟨n1, n2⟩ := hB.new hb1 (.cells 5 1 [.int .u8 (byte8 u i)])
    simp [r97_0]
    refine wApp_buf (m := 1) (ys := [.int .u8 (byte8 u i)]) n1 (by simp [cellsOf, upd_at, byte8]) rfl rfl (by omega) (by omega) (by omega) ?_
    intro b2 h2 k1 k2 k3 k4 k5
    have w5 : IntKind.i64.wrap ((i : Int) + 1) = i + 1 := wrap_id (by omega) (by omega)
    simp [r97_1, s97_1, h1', h5, w5]
    refine ⟨8 - (i + 1), by omega, i + 1, rfl, by omega, rfl, .inr ⟨b2, ?_, ?_, ?_⟩, (hS.trans n2).trans k2⟩
    · rfl
    · rw [k3, bytes8_succ, List.append_assoc]
    · simp at k4; simp; omega
  · have h8 : i = 8 := by simp at hc; omega
    subst h8
    simp [s97_2]
    rcases hB with ⟨_, e, _⟩ | ⟨b2, g1, g2, g3⟩
    · simp [bytes8] at e
    · rw [g1] at hS ⊢
      have hne : ∀ c, eraS h s c ≠ none → c ≠ b2 := by
        rintro c hc rfl
        cases hx : eraS h s c with
        | none => exact hc hx
        | some x => have := hS c x hx; rw [eraS, era_eq] at this; cases this
      refine ⟨_, ?_, b2, fun c hc => hne c hc, rfl, rfl, by simpa using g3⟩
      intro c x hx
      by_cases e : c = b2
      · subst e; rw [upd_eq] at hx; rw [← hx]; exact g2
      · rw [upd_ne _ _ _ _ e] at hx
        have := hS c x hx
        rwa [eraS, era_ne _ _ _ e] at this

/-! ### Nodes, keys -/

/-- A node. -/
structure Nd where
  op : Int
  imm : Int
  kids : List Int

def Nd.v (n : Nd) : V := .agg [.int .i64 n.op, .int .i64 n.imm, .ps 1 (ints n.kids)]

/-- The numbers that a key tells. -/
def keyNums (p : List Nat) (n : Nd) : List Int := IntKind.u64.wrap n.op :: IntKind.u64.wrap n.imm :: n.kids.map fun k => (root p k.toNat : Int)
def keyCells (l : List Int) : List V := l.flatMap fun u => bytes8 u 8
def keyStr (l : List Int) : ByteArray := ⟨(l.flatMap fun u => (List.range 8).map fun i => UInt8.ofNat (byte8 u i).toNat).toArray⟩

theorem keyCells_len (l : List Int) : (keyCells l).length = 8 * l.length := by
  induction l with
  | nil => rfl
  | cons a l ih => simp [keyCells] at ih ⊢; omega
theorem keyCells_snoc (l : List Int) (u : Int) : keyCells (l ++ [u]) = keyCells l ++ bytes8 u 8 := by simp [keyCells]

theorem bytesOfV_app : ∀ (a b : List V) (x y : List UInt8), bytesOfV a = some x → bytesOfV b = some y → bytesOfV (a ++ b) = some (x ++ y)
  | [], b, x, y, ha, hb => by simp [bytesOfV] at ha; subst ha; simpa using hb
  | v :: a, b, x, y, ha, hb => by
    unfold bytesOfV at ha
    split at ha
    · rename_i h; cases h
    · rename_i n rest h
      injection h with h1 h2; subst h1; subst h2
      cases hr : bytesOfV a with
      | none => rw [hr] at ha; cases ha
      | some z =>
        rw [hr] at ha
        simp at ha
        subst ha
        simp [bytesOfV, bytesOfV_app a b z y hr hb]
    · cases ha
theorem bytesOfV_bytes8 (u : Int) (l : List Nat) : bytesOfV (l.map fun i => V.int .u8 (byte8 u i)) = some (l.map fun i => UInt8.ofNat (byte8 u i).toNat) := by
  induction l with
  | nil => rfl
  | cons a l ih => simp [bytesOfV, ih]
theorem bytesOfV_key (l : List Int) : bytesOfV (keyCells l) = some (l.flatMap fun u => (List.range 8).map fun i => UInt8.ofNat (byte8 u i).toNat) := by
  induction l with
  | nil => rfl
  | cons a l ih =>
    simp only [keyCells, List.flatMap_cons] at ih ⊢
    exact bytesOfV_app _ _ _ _ (bytesOfV_bytes8 a _) ih

theorem wrap_u64_range (x : Int) : 0 ≤ IntKind.u64.wrap x ∧ IntKind.u64.wrap x < 18446744073709551616 := by
  simp only [IntKind.wrap, IntKind.signed, IntKind.bits]
  simp
  omega

/-- Are the operands among the first n? -/
def kidsIn (n : Nat) (l : List Int) : Bool := l.all fun k => decide (0 ≤ k ∧ k < n)

theorem keyCells_cons (a : Int) (l : List Int) : keyCells (a :: l) = bytes8 a 8 ++ keyCells l := by simp [keyCells]
theorem keyCells_nil : keyCells [] = [] := rfl

theorem ac58 {h : Heap} {b n : Nat} {cap : Option Nat} {e : TypeId} {p : List Nat} {nd : Nd} (hb : h b = some (.cells e 1 (nats p))) (hn : n = p.length) (hF : Forest p) (hp : p.length ≤ 140737488355328) (hk : nd.kids.length * 8 ≤ 140737488351232) :
    AC prog 58 [.sl 1 b 0 n cap, nd.v] h fun v h' => v = (if kidsIn p.length nd.kids then .tuple [.str (keyStr (keyNums p nd)), .bool true] else .tuple [.str ⟨#[]⟩, .bool false]) ∧ ∃ p', SameF p p' ∧ h' = upd h b (.cells e 1 (nats p')) := by
  subst hn
  refine AC_of' noq_ok mixed t58 fun R hR => ?_
  simp [c58, Nd.v]
  intro b1 hb1
  have n1 : b ≠ b1 := by rintro rfl; rw [hb] at hb1; cases hb1
  simp [r58_0, s58_0, upd_at]
  refine (ac97 (s := .nils) (xs := []) (n := 0) (.inl ⟨rfl, rfl, rfl⟩) (wrap_u64_range _) (by omega)).mono ?_
  rintro v h1 ⟨b2, g1, rfl, rfl, _⟩
  have n2 : b ≠ b2 := g1 b (by simp [eraS, upd_at, n1, hb])
  have n3 : b1 ≠ b2 := g1 b1 (by simp [eraS, upd_at])
  simp [r58_1, s58_1, eraS, upd_at, n3]
  refine (ac97 (xs := keyCells [IntKind.u64.wrap nd.op]) (n := 8) (.inr ⟨b2, rfl, by simp [upd_at, keyCells_cons, keyCells_nil], by simp [keyCells_len]⟩) (wrap_u64_range _) (by omega)).mono ?_
  rintro v h1 ⟨b3, g2, rfl, rfl, _⟩
  have n4 : b ≠ b3 := g2 b (by simp [eraS, upd_at, era_at, n1, n2, hb])
  have n5 : b1 ≠ b3 := g2 b1 (by simp [eraS, upd_at, era_at, n3])
  simp [r58_2, s58_2, l58_0, eraS, upd_at, era_at, n3, n5]
  refine W_loop' (fun m tm h1 => ∃ (i : Nat) (q : List Nat) (b' : Nat), m = nd.kids.length - i ∧ i ≤ nd.kids.length ∧ tm 0 = .sl 1 b 0 p.length cap ∧ tm 6 = .sl 1 b' 0 (8 * (i + 2)) none ∧ tm 19 = .ps 1 (ints nd.kids) ∧ tm 20 = .int .i64 (nd.kids.length : Nat) ∧ tm 21 = .int .i64 (i : Nat) ∧
    SameF p q ∧ h1 b = some (.cells e 1 (nats q)) ∧ h1 b' = some (.cells 5 1 (keyCells (IntKind.u64.wrap nd.op :: IntKind.u64.wrap nd.imm :: (nd.kids.take i).map fun k => (root p k.toNat : Int)))) ∧ b ≠ b' ∧ (∀ c x, h c = some x → c ≠ b → h1 c = some x ∧ c ≠ b') ∧ kidsIn p.length (nd.kids.take i) = true)
    nd.kids.length ⟨0, p, b3, rfl, by omega, by simp, by simp, by simp, by simp, by simp, .refl hF, by simp [upd_at, era_at, n1, n2, n4, hb], by simp [upd_at, keyCells_cons, keyCells_nil], n4, ?_, rfl⟩ ?_
  · intro c x hc hne
    have m1 : c ≠ b1 := by rintro rfl; rw [hc] at hb1; cases hb1
    have m2 : c ≠ b2 := g1 c (by simp [eraS, upd_at, m1, hc])
    have m3 : c ≠ b3 := g2 c (by simp [eraS, upd_at, era_at, m1, m2, hc])
    simp [upd_at, era_at, m1, m2, m3, hc]
  rintro J hJ m tm h1 ⟨i, q, b', rfl, hi, h0, h6, h19, h20, h21, hS, hq, hb', hne, hfr, hin⟩
  simp [b58_0, h20, h21]
  have frame : Sub (upd h b (.cells e 1 (nats q))) h1 := by
    intro c x hc
    by_cases e1 : c = b
    · subst e1; rw [upd_eq] at hc; rw [← hc]; exact hq
    · rw [upd_ne _ _ _ _ e1] at hc; exact (hfr c x hc e1).1
  refine Wc_intro (fun hc => ?_) (fun hc => ?_)
  · simp at hc
    have hget : nd.kids[i]? = some nd.kids[i] := List.getElem?_eq_getElem hc
    have out : ¬ (0 ≤ nd.kids[i] ∧ nd.kids[i] < p.length) → kidsIn p.length nd.kids = false := by
      intro hn
      rw [Bool.eq_false_iff]
      intro ht
      have := List.all_eq_true.1 ht nd.kids[i] (List.getElem_mem _)
      simp at this
      exact hn this
    by_cases c1 : nd.kids[i] < 0
    · simp [s58_3, r58_3, h0, h6, h19, h20, h21, hget, c1]
      exact hR _ _ _ frame ⟨by rw [out (by omega)]; rfl, q, hS, rfl⟩
    · by_cases c2 : (p.length : Int) ≤ nd.kids[i]
      · simp [s58_3, r58_3, h0, h6, h19, h20, h21, hget, c1, c2]
        exact hR _ _ _ frame ⟨by rw [out (by omega)]; rfl, q, hS, rfl⟩
      · obtain ⟨k, hk'⟩ : ∃ k : Nat, nd.kids[i] = k := ⟨nd.kids[i].toNat, by omega⟩
        have hkp : k < p.length := by omega
        have c3 : ¬ p.length ≤ k := by omega
        rw [hk'] at hget
        simp [s58_3, r58_3, h0, h6, h19, h20, h21, hget, c3, s58_4]
        refine (ac59 (p := q) (i := k) hq hS.len.symm hS.forest (by rw [hS.len]; exact hkp)).mono ?_
        rintro v h2 ⟨rfl, q2, hS2, rfl⟩
        have hrk : root q k = root p k := hS.same k hkp
        have hrp : root p k < p.length := root_lt hkp
        rw [hrk]
        have w1 : IntKind.u64.wrap (root p k : Int) = root p k := wrap_u64 (by omega) (by omega)
        simp [r58_4, w1]
        refine (ac97 (xs := keyCells (IntKind.u64.wrap nd.op :: IntKind.u64.wrap nd.imm :: (nd.kids.take i).map fun k => (root p k.toNat : Int))) (n := 8 * (i + 2)) (.inr ⟨b', rfl, by rw [upd_ne _ _ _ _ (Ne.symm hne)]; exact hb', by simp [keyCells_len]; omega⟩) (by omega) (by omega)).mono ?_
        rintro v h3 ⟨b4, k1, rfl, rfl, _⟩
        have m1 : b ≠ b4 := k1 b (by simp [eraS, upd_at, era_at, hne])
        have w5 : IntKind.i64.wrap ((i : Int) + 1) = i + 1 := wrap_id (by omega) (by omega)
        simp [r58_5, s58_5, h0, h19, h20, h21, w5, eraS]
        refine ⟨nd.kids.length - (i + 1), by omega, hJ _ _ _ ⟨i + 1, q2, b4, rfl, by omega, by simp [h0], ?_, by simp [h19], by simp [h20], by simp, hS.trans hS2, ?_, ?_, m1, ?_, ?_⟩⟩
        · simp; omega
        · simp [upd_at, era_at, m1, hne]
        · rw [upd_eq, List.take_add_one, hget]
          simp only [Option.toList, List.map_append, List.map_cons, List.map_nil, Int.toNat_natCast, List.map_take]
          rw [← keyCells_snoc, List.cons_append, List.cons_append]
        · intro c x hc hcb
          obtain ⟨f1, f2⟩ := hfr c x hc hcb
          have m2 : c ≠ b4 := k1 c (by simp [eraS, upd_at, era_at, hcb, f1, f2])
          simp [upd_at, era_at, hcb, f1, f2, m2]
        · rw [List.take_add_one, hget, kidsIn, List.all_append, ← kidsIn, hin]
          simp [hkp]
  · have hi' : i = nd.kids.length := by simp at hc; omega
    subst hi'
    simp at hin
    have ht : List.take (8 * (nd.kids.length + 2)) (keyCells (IntKind.u64.wrap nd.op :: IntKind.u64.wrap nd.imm :: List.map (fun k => (root p k.toNat : Int)) nd.kids)) = keyCells (keyNums p nd) := by
      rw [List.take_of_length_le (by simp [keyCells_len]), keyNums]
    simp [s58_6, h6, aCstr, cellsOf, hb', keyCells_len, ht, bytesOfV_key]
    exact hR _ _ _ frame ⟨by rw [hin]; rfl, q, hS, rfl⟩

end Go.Abs

/- The congruence closure of a list of nodes and pairs, and the one list that tells its classes. -/
namespace Go.Abs

theorem byte8_nat {u : Int} (h : 0 ≤ u) (i : Nat) : byte8 u i = (u / 2 ^ (8 * i)) % 256 := by
  unfold byte8
  rw [Int.fdiv_eq_ediv_of_nonneg _ (by exact Int.pow_nonneg (by omega))]
  simp only [IntKind.wrap, IntKind.signed, IntKind.bits]
  simp

theorem byte8_inj {u v : Int} (hu : 0 ≤ u) (hv : 0 ≤ v) (hu' : u < 18446744073709551616) (hv' : v < 18446744073709551616) (h : ∀ i, i < 8 → byte8 u i = byte8 v i) : u = v := by
  have h0 := h 0 (by omega)
  have h1 := h 1 (by omega)
  have h2 := h 2 (by omega)
  have h3 := h 3 (by omega)
  have h4 := h 4 (by omega)
  have h5 := h 5 (by omega)
  have h6 := h 6 (by omega)
  have h7 := h 7 (by omega)
  simp only [byte8_nat hu, byte8_nat hv] at h0 h1 h2 h3 h4 h5 h6 h7
  simp at h0 h1 h2 h3 h4 h5 h6 h7
  omega

theorem chunk_inj {u v : Int} (hu : 0 ≤ u) (hv : 0 ≤ v) (hu' : u < 18446744073709551616) (hv' : v < 18446744073709551616)
    (h : ((List.range 8).map fun i => UInt8.ofNat (byte8 u i).toNat) = (List.range 8).map fun i => UInt8.ofNat (byte8 v i).toNat) : u = v := by
  refine byte8_inj hu hv hu' hv' fun i hi => ?_
  have h2 := congrArg (fun l => l[i]?) h
  simp [hi] at h2
  have h3 := congrArg UInt8.toNat h2
  rw [UInt8.toNat_ofNat', UInt8.toNat_ofNat'] at h3
  have a1 : 0 ≤ byte8 u i ∧ byte8 u i < 256 := by rw [byte8_nat hu]; omega
  have a2 : 0 ≤ byte8 v i ∧ byte8 v i < 256 := by rw [byte8_nat hv]; omega
  omega

theorem keyStr_inj : ∀ {l l' : List Int}, (∀ u ∈ l, 0 ≤ u ∧ u < 18446744073709551616) → (∀ u ∈ l', 0 ≤ u ∧ u < 18446744073709551616) → keyStr l = keyStr l' → l = l' := by
  have main : ∀ {l l' : List Int}, (∀ u ∈ l, 0 ≤ u ∧ u < 18446744073709551616) → (∀ u ∈ l', 0 ≤ u ∧ u < 18446744073709551616) →
      (l.flatMap fun u => (List.range 8).map fun i => UInt8.ofNat (byte8 u i).toNat) = (l'.flatMap fun u => (List.range 8).map fun i => UInt8.ofNat (byte8 u i).toNat) → l = l' := by
    intro l
    induction l with
    | nil =>
      intro l' _ _ h
      cases l' with
      | nil => rfl
      | cons b l' =>
        have := congrArg List.length h
        simp at this
        omega
    | cons a l ih =>
      intro l' h1 h2 h
      cases l' with
      | nil =>
        have := congrArg List.length h
        simp at this
      | cons b l' =>
        rw [List.flatMap_cons, List.flatMap_cons] at h
        obtain ⟨e1, e2⟩ := List.append_inj h (by simp)
        have a1 := h1 a (by simp)
        have a2 := h2 b (by simp)
        rw [chunk_inj a1.1 a2.1 a1.2 a2.2 e1, ih (fun u hu => h1 u (by simp [hu])) (fun u hu => h2 u (by simp [hu])) e2]
  intro l l' h1 h2 h
  refine main h1 h2 ?_
  have := congrArg (fun b : ByteArray => b.data.toList) h
  simpa [keyStr] using this

def Nd.wf (n : Nd) : Prop := (-9223372036854775808 ≤ n.op ∧ n.op ≤ 9223372036854775807) ∧ (-9223372036854775808 ≤ n.imm ∧ n.imm ≤ 9223372036854775807)

theorem wrap_u64_inj {a b : Int} (ha : -9223372036854775808 ≤ a ∧ a ≤ 9223372036854775807) (hb : -9223372036854775808 ≤ b ∧ b ≤ 9223372036854775807) (h : IntKind.u64.wrap a = IntKind.u64.wrap b) : a = b := by
  simp only [IntKind.wrap, IntKind.signed, IntKind.bits] at h
  simp at h
  omega

/-- Congruence closure. -/
inductive Cl (l : List Nd) (ps : List (Int × Int)) : Nat → Nat → Prop
  | refl {i : Nat} : i < l.length → Cl l ps i i
  | symm {i j : Nat} : Cl l ps i j → Cl l ps j i
  | trans {i j k : Nat} : Cl l ps i j → Cl l ps j k → Cl l ps i k
  | pair {i j : Nat} : ((i : Int), (j : Int)) ∈ ps → i < l.length → j < l.length → Cl l ps i j
  | cong {i j : Nat} {x y : Nd} : l[i]? = some x → l[j]? = some y → x.op = y.op → x.imm = y.imm → x.kids.length = y.kids.length → kidsIn l.length x.kids = true → kidsIn l.length y.kids = true →
      (∀ (t a b : Nat), x.kids[t]? = some (a : Int) → y.kids[t]? = some (b : Int) → Cl l ps a b) → Cl l ps i j

theorem Cl.lt {l : List Nd} {ps : List (Int × Int)} {i j : Nat} (h : Cl l ps i j) : i < l.length ∧ j < l.length := by
  induction h with
  | refl h => exact ⟨h, h⟩
  | symm _ ih => exact ⟨ih.2, ih.1⟩
  | trans _ _ a b => exact ⟨a.1, b.2⟩
  | pair _ a b => exact ⟨a, b⟩
  | cong h1 h2 => exact ⟨(List.getElem?_eq_some_iff.1 h1).1, (List.getElem?_eq_some_iff.1 h2).1⟩

/-- The list of the classes' smallest members. -/
structure IsCl (l : List Nd) (ps : List (Int × Int)) (c : List Nat) : Prop where
  len : c.length = l.length
  cl : ∀ i (h : i < c.length), Cl l ps i c[i]
  least : ∀ i (h : i < c.length) j, Cl l ps i j → c[i] ≤ j

theorem IsCl.unique {l : List Nd} {ps : List (Int × Int)} {c c' : List Nat} (a : IsCl l ps c) (b : IsCl l ps c') : c = c' := by
  refine List.ext_getElem (a.len.trans b.len.symm) fun i h1 h2 => ?_
  exact Nat.le_antisymm (a.least i h1 _ (b.cl i h2)) (b.least i h2 _ (a.cl i h1))

theorem IsCl.eq_iff {l : List Nd} {ps : List (Int × Int)} {c : List Nat} (a : IsCl l ps c) {i j : Nat} (hi : i < c.length) (hj : j < c.length) : c[i] = c[j] ↔ Cl l ps i j := by
  constructor
  · intro e
    exact (a.cl i hi).trans (by rw [e]; exact (a.cl j hj).symm)
  · intro h
    exact Nat.le_antisymm (a.least i hi _ (h.trans (a.cl j hj))) (a.least j hj _ (h.symm.trans (a.cl i hi)))

/-- A forest that joins no more than the closure. -/
def SoundF (l : List Nd) (ps : List (Int × Int)) (p : List Nat) : Prop := ∀ i, i < l.length → Cl l ps i (root p i)

/-- A list of names closed under pairs. -/
def PairsC (l : List Nd) (ps : List (Int × Int)) (r : Nat → Nat) : Prop := ∀ i j : Nat, ((i : Int), (j : Int)) ∈ ps → i < l.length → j < l.length → r i = r j
/-- Closed under congruence. -/
def CongC (l : List Nd) (r : Nat → Nat) : Prop := ∀ (i j : Nat) (x y : Nd), l[i]? = some x → l[j]? = some y → x.op = y.op → x.imm = y.imm → x.kids.length = y.kids.length → kidsIn l.length x.kids = true → kidsIn l.length y.kids = true →
  (∀ (t a b : Nat), x.kids[t]? = some (a : Int) → y.kids[t]? = some (b : Int) → r a = r b) → r i = r j

theorem closed_cl {l : List Nd} {ps : List (Int × Int)} {r : Nat → Nat} (h1 : PairsC l ps r) (h2 : CongC l r) {i j : Nat} (h : Cl l ps i j) : r i = r j := by
  induction h with
  | refl => rfl
  | symm _ ih => exact ih.symm
  | trans _ _ a b => exact a.trans b
  | pair a b c => exact h1 _ _ a b c
  | cong a b c d e f g _ ih => exact h2 _ _ _ _ a b c d e f g ih

theorem isCl_of {l : List Nd} {ps : List (Int × Int)} {r : Nat → Nat} (hs : ∀ i, i < l.length → Cl l ps i (r i)) (hle : ∀ i, i < l.length → r i ≤ i) (h1 : PairsC l ps r) (h2 : CongC l r) : IsCl l ps ((List.range l.length).map r) := by
  refine ⟨by simp, fun i h => ?_, fun i h j hj => ?_⟩
  · simp at h ⊢
    exact hs i h
  · simp at h ⊢
    rw [closed_cl h1 h2 hj]
    exact hle j hj.lt.2

end Go.Abs

/- What the loops of congruence.Classes do. -/
namespace Go.Abs
open Go.Proofs.Try (prog)

theorem fill_set (n i : Nat) (h : i < n) : (List.range i ++ List.replicate (n - i) 0).set i i = List.range (i + 1) ++ List.replicate (n - (i + 1)) 0 := by
  have e : n - i = (n - (i + 1)) + 1 := by omega
  rw [e, List.replicate_succ, List.set_append]
  simp [List.range_succ]

/-- The first loop: every element is its own. -/
theorem loop22_0 {Q : AExit → (Nat → V) → Heap → Prop} {tm : Nat → V} {h : Heap} {L PS : V} {b n : Nat} (h0 : tm 0 = L) (h1 : tm 1 = PS) (h5 : tm 5 = .sl 1 b 0 n none) (h22 : tm 22 = .sl 1 b 0 n none) (h23 : tm 23 = .int .i64 (n : Nat)) (h24 : tm 24 = .int .i64 0)
    (hb : h b = some (.cells 3 1 (nats (List.replicate n 0)))) (hn : n ≤ 140737488355328)
    (post : ∀ tm' h', tm' 0 = L → tm' 1 = PS → tm' 5 = .sl 1 b 0 n none → h' = upd h b (.cells 3 1 (nats (List.range n))) → Q .normal tm' h') : W noq (AC prog) l22_0 Q tm h := by
  simp only [l22_0, W_block]
  refine W_loop' (fun m tm h1 => ∃ i, m = n - i ∧ i ≤ n ∧ tm 0 = L ∧ tm 1 = PS ∧ tm 5 = .sl 1 b 0 n none ∧ tm 22 = .sl 1 b 0 n none ∧ tm 23 = .int .i64 (n : Nat) ∧ tm 24 = .int .i64 (i : Nat) ∧ h1 = upd h b (.cells 3 1 (nats (List.range i ++ List.replicate (n - i) 0))))
    n ⟨0, rfl, by omega, h0, h1, h5, h22, h23, h24, by simp [upd_self hb]⟩ ?_
  clear h0 h1 h5 h22 h23 h24
  rintro J hJ m tm h2 ⟨i, rfl, hi, h0, h1, h5, h22, h23, h24, rfl⟩
  simp [b22_0, h23, h24]
  refine Wc_intro (fun hc => ?_) (fun hc => ?_)
  · simp at hc
    have w5 : IntKind.i64.wrap ((i : Int) + 1) = i + 1 := wrap_id (by omega) (by omega)
    simp [s22_1, h0, h1, h5, h22, h23, h24, hc, upd_at, w5]
    refine ⟨by omega, n - (i + 1), by omega, hJ _ _ _ ⟨i + 1, rfl, by omega, by simp [h0], by simp [h1], by simp [h5], by simp [h22], by simp [h23], by simp, ?_⟩⟩
    rw [upd_upd, nats_set, fill_set _ _ hc]
  · simp at hc
    have : i = n := by omega
    subst this
    exact post _ _ (by simp [h0]) (by simp [h1]) (by simp [h5]) (by simp)

def prsV (ps : List (Int × Int)) : List V := ps.map fun q => .agg [.int .i64 q.1, .int .i64 q.2]
@[simp] theorem prsV_len (ps : List (Int × Int)) : (prsV ps).length = ps.length := by simp [prsV]
@[simp] theorem prsV_get (ps : List (Int × Int)) (i : Nat) : (prsV ps)[i]? = (ps[i]?).map fun q => .agg [.int .i64 q.1, .int .i64 q.2] := by simp [prsV]

/-- A heap that holds a forest in a block of its own, and all that was there. -/
structure H22 (h h1 : Heap) (b : Nat) (p : List Nat) : Prop where
  at_b : h1 b = some (.cells 3 1 (nats p))
  keep : ∀ c x, h c = some x → h1 c = some x ∧ c ≠ b

theorem H22.new {h h1 : Heap} {b : Nat} {p : List Nat} (H : H22 h h1 b p) {b' : Nat} (hb' : h1 b' = none) (x : Blk) : H22 h (upd h1 b' x) b p ∧ b ≠ b' := by
  have n1 : b ≠ b' := by rintro rfl; rw [H.at_b] at hb'; cases hb'
  refine ⟨⟨by rw [upd_ne _ _ _ _ n1]; exact H.at_b, fun c y hc => ?_⟩, n1⟩
  obtain ⟨g1, g2⟩ := H.keep c y hc
  have : c ≠ b' := by rintro rfl; rw [hb'] at g1; cases g1
  exact ⟨by rw [upd_ne _ _ _ _ this]; exact g1, g2⟩
theorem H22.over {h h1 : Heap} {b : Nat} {p : List Nat} (H : H22 h h1 b p) (q : List Nat) : H22 h (upd h1 b (.cells 3 1 (nats q))) b q := by
  refine ⟨upd_eq _ _ _, fun c y hc => ?_⟩
  obtain ⟨g1, g2⟩ := H.keep c y hc
  exact ⟨by rw [upd_ne _ _ _ _ g2]; exact g1, g2⟩
/-- A block that was not there before is written. -/
theorem H22.else {h h1 : Heap} {b : Nat} {p : List Nat} (H : H22 h h1 b p) {b' : Nat} (hb' : h b' = none) (hne : b ≠ b') (x : Blk) : H22 h (upd h1 b' x) b p := by
  refine ⟨by rw [upd_ne _ _ _ _ hne]; exact H.at_b, fun c y hc => ?_⟩
  obtain ⟨g1, g2⟩ := H.keep c y hc
  have : c ≠ b' := by rintro rfl; rw [hb'] at hc; cases hc
  exact ⟨by rw [upd_ne _ _ _ _ this]; exact g1, g2⟩

section
variable {l : List Nd} {ps : List (Int × Int)}

/-- What a union does to a sound forest. -/
theorem sound_join {p p' : List Nat} {i j : Nat} (hs : SoundF l ps p) (hp : p.length = l.length) (hi : i < p.length) (hj : j < p.length) (hc : Cl l ps i j) (hJ : JoinF p i j p') : SoundF l ps p' := by
  intro k hk
  rw [hJ.join k (by omega)]
  split
  · rename_i e
    have hri : Cl l ps i (root p i) := hs i (by omega)
    have hrj : Cl l ps j (root p j) := hs j (by omega)
    have hrk : Cl l ps k (root p k) := hs k hk
    have hij : Cl l ps (root p i) (root p j) := hri.symm.trans (hc.trans hrj)
    rcases Nat.le_total (root p i) (root p j) with c | c
    · rw [Nat.min_eq_left c]
      rcases e with e | e
      · rw [e] at hrk; exact hrk
      · rw [e] at hrk; exact hrk.trans hij.symm
    · rw [Nat.min_eq_right c]
      rcases e with e | e
      · rw [e] at hrk; exact hrk.trans hij
      · rw [e] at hrk; exact hrk
  · exact hs k hk

theorem join_coarse {p p' : List Nat} {i j : Nat} (hJ : JoinF p i j p') {a c : Nat} (ha : a < p.length) (hc : c < p.length) (h : root p a = root p c) : root p' a = root p' c := by
  rw [hJ.join a ha, hJ.join c hc, h]

theorem join_eq {p p' : List Nat} {i j : Nat} (hJ : JoinF p i j p') (hi : i < p.length) (hj : j < p.length) : root p' i = root p' j := by
  rw [hJ.join i hi, hJ.join j hj]; simp

/-- The sum of the roots. -/
def rsum (p : List Nat) (n : Nat) : Nat := ((List.range n).map (root p)).sum

theorem sum_lt {f g : Nat → Nat} : ∀ {n : Nat}, (∀ k, k < n → f k ≤ g k) → (∃ k, k < n ∧ f k < g k) → ((List.range n).map f).sum < ((List.range n).map g).sum
  | 0, _, ⟨k, hk, _⟩ => by omega
  | n + 1, h1, ⟨k, hk, hlt⟩ => by
    rw [List.range_succ]
    simp only [List.map_append, List.sum_append, List.map_cons, List.map_nil, List.sum_cons, List.sum_nil]
    have hle : ((List.range n).map f).sum ≤ ((List.range n).map g).sum := by
      clear hk hlt
      induction n with
      | zero => simp
      | succ n ih =>
        rw [List.range_succ]
        simp only [List.map_append, List.sum_append, List.map_cons, List.map_nil, List.sum_cons, List.sum_nil]
        have := ih (fun k hk => h1 k (by omega))
        have := h1 n (by omega)
        omega
    rcases Nat.lt_or_ge k n with c | c
    · have := sum_lt (fun k hk => h1 k (by omega)) ⟨k, c, hlt⟩
      have := h1 n (by omega)
      omega
    · have : k = n := by omega
      subst this
      omega

theorem rsum_same {p p' : List Nat} (hS : SameF p p') : rsum p' p.length = rsum p p.length := by
  unfold rsum
  congr 1
  exact List.map_congr_left fun k hk => hS.same k (by simpa using hk)

theorem rsum_join {p p' : List Nat} {i j : Nat} (hJ : JoinF p i j p') (hi : i < p.length) (hj : j < p.length) (hne : root p i ≠ root p j) : rsum p' p.length < rsum p p.length := by
  refine sum_lt (fun k hk => ?_) ?_
  · rw [hJ.join k hk]; split <;> omega
  · rcases Nat.lt_or_ge (root p i) (root p j) with c | c
    · exact ⟨j, hj, by rw [hJ.join j hj]; simp; omega⟩
    · exact ⟨i, hi, by rw [hJ.join i hi]; simp; omega⟩

/-- The second loop: the pairs. -/
theorem loop22_1 {Q : AExit → (Nat → V) → Heap → Prop} {tm : Nat → V} {h h1 : Heap} {b : Nat} {p : List Nat} (h0 : tm 0 = .ps 3 (l.map Nd.v)) (h5 : tm 5 = .sl 1 b 0 l.length none) (h32 : tm 32 = .ps 2 (prsV ps)) (h33 : tm 33 = .int .i64 (ps.length : Nat)) (h34 : tm 34 = .int .i64 0)
    (H : H22 h h1 b p) (hb : h b = none) (hF : Forest p) (hp : p.length = l.length) (hs : SoundF l ps p) (hn : l.length ≤ 140737488355328) (hpn : ps.length ≤ 140737488355328)
    (post : ∀ tm' h' p', tm' 0 = .ps 3 (l.map Nd.v) → tm' 5 = .sl 1 b 0 l.length none → H22 h h' b p' → Forest p' → p'.length = l.length → SoundF l ps p' → PairsC l ps (root p') → Q .normal tm' h') : W noq (AC prog) l22_1 Q tm h1 := by
  simp only [l22_1, W_block]
  refine W_loop' (fun m tm h1 => ∃ i p, m = ps.length - i ∧ i ≤ ps.length ∧ tm 0 = .ps 3 (l.map Nd.v) ∧ tm 5 = .sl 1 b 0 l.length none ∧ tm 32 = .ps 2 (prsV ps) ∧ tm 33 = .int .i64 (ps.length : Nat) ∧ tm 34 = .int .i64 (i : Nat) ∧ H22 h h1 b p ∧ Forest p ∧ p.length = l.length ∧ SoundF l ps p ∧ PairsC l (ps.take i) (root p))
    ps.length ⟨0, p, rfl, by omega, h0, h5, h32, h33, h34, H, hF, hp, hs, fun _ _ hm => by simp at hm⟩ ?_
  clear h0 h5 h32 h33 h34 H hF hp hs p
  rintro J hJ m tm h2 ⟨i, p, rfl, hi, h0, h5, h32, h33, h34, H, hF, hp, hs, hP⟩
  simp [b22_1, h33, h34]
  refine Wc_intro (fun hc => ?_) (fun hc => ?_)
  · simp at hc
    obtain ⟨q, hq⟩ : ∃ q, ps[i]? = some q := ⟨_, List.getElem?_eq_getElem hc⟩
    have w5 : IntKind.i64.wrap ((i : Int) + 1) = i + 1 := wrap_id (by omega) (by omega)
    simp [s22_3, h32, h34, hq]
    intro b1 hb1
    have hb0 : h b1 = none := by
      cases hx : h b1 with
      | none => rfl
      | some x => rw [(H.keep _ _ hx).1] at hb1; cases hb1
    have n1 : b ≠ b1 := (H.new hb1 (.map [])).2
    simp [r22_1, upd_at, upd_upd]
    have Hn := (H.new hb1 (.cells 28 2 [.int .i64 q.1, .int .i64 q.2])).1
    by_cases ok : 0 ≤ q.1 ∧ 0 ≤ q.2 ∧ q.1 < l.length ∧ q.2 < l.length
    · obtain ⟨a, ha⟩ : ∃ a : Nat, q.1 = a := ⟨q.1.toNat, by omega⟩
      obtain ⟨c, hc'⟩ : ∃ c : Nat, q.2 = c := ⟨q.2.toNat, by omega⟩
      have ea : a < l.length := by omega
      have ec : c < l.length := by omega
      have e1 : (0 : Int) ≤ min (a : Int) c := by omega
      have e2 : max (a : Int) c < l.length := by omega
      rw [ha, hc'] at Hn
      simp [s22_4, h0, ha, hc', upd_at, e1]
      simp [r22_2, h0, upd_at, e2, k22_0, h5]
      have hcl : Cl l ps a c := .pair (by
        have : q ∈ ps := List.mem_of_getElem? hq
        rw [← ha, ← hc']; exact this) ea ec
      refine (ac57 (p := p) (i := a) (j := c) Hn.at_b hp.symm hF (by omega) (by omega)).mono ?_
      rintro v h3 ⟨rfl, p2, hJ2, rfl⟩
      have hl2 := hJ2.len
      simp [s22_5, h0, h5, h32, h33, h34, w5]
      refine ⟨ps.length - (i + 1), by omega, hJ _ _ _ ⟨i + 1, p2, rfl, by omega, by simp [h0], by simp [h5], by simp [h32], by simp [h33], by simp, Hn.over p2, hJ2.forest, by omega, sound_join hs hp (by omega) (by omega) hcl hJ2, ?_⟩⟩
      intro u v hm hu hv
      rw [List.take_add_one, hq] at hm
      simp at hm
      rcases hm with hm | hm
      · exact join_coarse hJ2 (by omega) (by omega) (hP u v hm hu hv)
      · have h1 : (u : Int) = a := by rw [← ha, ← hm]
        have h2 : (v : Int) = c := by rw [← hc', ← hm]
        have h1' : u = a := by omega
        have h2' : v = c := by omega
        subst h1'; subst h2'
        exact join_eq hJ2 (by omega) (by omega)
    · have fin : ∃ m, m < ps.length - i ∧ ∀ tm' h', tm' 0 = V.ps 3 (l.map Nd.v) → tm' 5 = V.sl 1 b 0 l.length none → tm' 32 = V.ps 2 (prsV ps) → tm' 33 = V.int .i64 (ps.length : Nat) → tm' 34 = V.int .i64 ((i + 1 : Nat) : Int) → H22 h h' b p → J m tm' h' := by
        refine ⟨ps.length - (i + 1), by omega, fun tm' h' g0 g5 g32 g33 g34 gH => hJ _ _ _ ⟨i + 1, p, rfl, by omega, g0, g5, g32, g33, g34, gH, hF, hp, hs, ?_⟩⟩
        intro u v hm hu hv
        rw [List.take_add_one, hq] at hm
        simp at hm
        rcases hm with hm | hm
        · exact hP u v hm hu hv
        · have h1 : q.1 = u := by rw [← hm]
          have h2 : q.2 = v := by rw [← hm]
          omega
      obtain ⟨m, hm, fin⟩ := fin
      by_cases e1 : (0 : Int) ≤ min q.1 q.2
      · have e2 : ¬ max q.1 q.2 < (l.length : Int) := by omega
        simp [s22_4, upd_at, e1]
        simp [r22_2, h0, upd_at, e2, s22_5, h34, w5]
        exact ⟨m, hm, fin _ _ (by simp [h0]) (by simp [h5]) (by simp [h32]) (by simp [h33]) (by simp) Hn⟩
      · simp [s22_4, upd_at, e1]
        simp [r22_2, s22_5, h34, w5]
        exact ⟨m, hm, fin _ _ (by simp [h0]) (by simp [h5]) (by simp [h32]) (by simp [h33]) (by simp) Hn⟩
  · simp at hc
    have : i = ps.length := by omega
    subst this
    refine post _ _ p (by simp [h0]) (by simp [h5]) H hF hp hs ?_
    simpa using hP

end
end Go.Abs

/- The loop of congruence.Classes that merges congruent nodes. -/
namespace Go.Abs
open Go.Proofs.Try (prog)

/-- Entries of the map: what a key tells, and the node that it was put for. -/
abbrev Ent := List Int × Nat
def entV (es : List Ent) : List (V × V) := es.map fun e => (.str (keyStr e.1), .int .i64 (e.2 : Int))
def Rng (q : List Int) : Prop := ∀ u ∈ q, 0 ≤ u ∧ u < 18446744073709551616

theorem keyEq_ent {q q' : List Int} (h : Rng q) (h' : Rng q') : keyEq (.str (keyStr q)) (.str (keyStr q')) = some (decide (q' = q)) := by
  show some (keyStr q == keyStr q') = _
  congr 1
  rw [Bool.eq_iff_iff, ba_beq]
  simp only [decide_eq_true_eq]
  constructor
  · intro e; exact (keyStr_inj h h' e).symm
  · intro e; rw [e]

theorem findK_ent {q : List Int} (hq : Rng q) : ∀ (es : List Ent) (k : Nat), (∀ e ∈ es, Rng e.1) → findK (.str (keyStr q)) (entV es) k = some ((es.findIdx? fun e => decide (e.1 = q)).map (· + k))
  | [], k, _ => rfl
  | e :: es, k, h => by
    have ih := findK_ent hq es (k + 1) fun e he => h e (by simp [he])
    have h1 := keyEq_ent hq (h e (by simp))
    simp only [entV, List.map_cons, findK, h1] at ih ⊢
    rw [List.findIdx?_cons]
    by_cases c : e.1 = q
    · simp [c]
    · simp only [c, decide_false]
      rw [ih]
      cases es.findIdx? (fun e => decide (e.1 = q)) with
      | none => rfl
      | some i => simp; omega

theorem look_ent {h : Heap} {m : Nat} {es : List Ent} {q : List Int} {z : V} (hm : h m = some (.map (entV es))) (hq : Rng q) (hes : ∀ e ∈ es, Rng e.1) :
    (∃ j, (q, j) ∈ es ∧ aLook h .str z true (.mp m) (.str (keyStr q)) = some (.tuple [.int .i64 (j : Nat), .bool true])) ∨
    ((∀ j, (q, j) ∉ es) ∧ aLook h .str z true (.mp m) (.str (keyStr q)) = some (.tuple [z, .bool false]) ∧ ∀ j : Nat, putK .str (entV es) (.str (keyStr q)) (.int .i64 j) = some (entV (es ++ [(q, j)]))) := by
  have hf := findK_ent hq es 0 hes
  cases hi : es.findIdx? (fun e => decide (e.1 = q)) with
  | some i =>
    left
    rw [hi] at hf
    rw [List.findIdx?_eq_some_iff_getElem] at hi
    obtain ⟨h1, h2, _⟩ := hi
    simp at h2
    refine ⟨es[i].2, ?_, ?_⟩
    · rw [← h2]; exact List.getElem_mem h1
    · simp only [aLook, hm, hf, V.isKey, Option.map_some, Nat.add_zero, if_true]
      simp [entV, h1]
  | none =>
    right
    rw [hi] at hf
    rw [List.findIdx?_eq_none_iff] at hi
    refine ⟨fun j hj => by simpa using hi _ hj, ?_, fun j => ?_⟩
    · simp [aLook, hm, hf, V.isKey]
    · unfold putK
      rw [hf]
      simp [V.isKey, entV]

theorem wMupd_mp {kt : KT} {h : Heap} {b : Nat} {es es' : List (V × V)} {k v : V} {K : V → Heap → Prop} (hb : h b = some (.map es)) (hp : putK kt es k v = some es') (hK : K .undef (upd h b (.map es'))) : wMupd kt (.mp b) k v h K := by
  simp only [wMupd, hb, hp]; exact hK

section
variable {l : List Nd} {ps : List (Int × Int)}

/-- What a key tells of a node, up to the closure. -/
def KeyOf (l : List Nd) (ps : List (Int × Int)) (j : Nat) (q : List Int) : Prop :=
  ∃ x, l[j]? = some x ∧ kidsIn l.length x.kids = true ∧ ∃ ws : List Nat, q = IntKind.u64.wrap x.op :: IntKind.u64.wrap x.imm :: ws.map (fun (w : Nat) => (w : Int)) ∧ ws.length = x.kids.length ∧ ∀ (t a w : Nat), x.kids[t]? = some (a : Int) → ws[t]? = some w → Cl l ps a w

theorem kidsIn_get {n : Nat} {ks : List Int} (h : kidsIn n ks = true) {t : Nat} {k : Int} (hk : ks[t]? = some k) : 0 ≤ k ∧ k < n := by
  have := List.all_eq_true.1 h k (List.mem_of_getElem? hk)
  simpa using this

theorem keyOf_nums {p : List Nat} {j : Nat} {x : Nd} (hx : l[j]? = some x) (hk : kidsIn l.length x.kids = true) (hs : SoundF l ps p) : KeyOf l ps j (keyNums p x) := by
  refine ⟨x, hx, hk, x.kids.map fun k => root p k.toNat, by simp [keyNums, Function.comp_def], by simp, ?_⟩
  intro t a w ha hw
  rw [List.getElem?_map, ha] at hw
  simp at hw
  subst hw
  have := kidsIn_get hk ha
  exact hs a (by omega)

theorem keyOf_cl {i j : Nat} {q : List Int} (hwf : ∀ x ∈ l, x.wf) (hi : KeyOf l ps i q) (hj : KeyOf l ps j q) : Cl l ps i j := by
  obtain ⟨x, hx, kx, ws, e1, l1, c1⟩ := hi
  obtain ⟨y, hy, ky, ws', e2, l2, c2⟩ := hj
  rw [e1] at e2
  injection e2 with e3 e4
  injection e4 with e4 e5
  have hxw := hwf x (List.mem_of_getElem? hx)
  have hyw := hwf y (List.mem_of_getElem? hy)
  have hws : ws = ws' := by
    refine List.ext_getElem? fun t => ?_
    have := congrArg (fun l => l[t]?) e5
    simp only [List.getElem?_map] at this
    cases h1 : ws[t]? with
    | none => cases h2 : ws'[t]? with
      | none => rfl
      | some b => simp [h1, h2] at this
    | some a => cases h2 : ws'[t]? with
      | none => simp [h1, h2] at this
      | some b =>
        simp only [h1, h2, Option.map_some, Option.some.injEq] at this
        congr 1; omega
  subst hws
  refine .cong hx hy (wrap_u64_inj hxw.1 hyw.1 e3) (wrap_u64_inj hxw.2 hyw.2 e4) (by omega) kx ky ?_
  intro t a b ha hb
  have ht : t < ws.length := by rw [l1]; exact (List.getElem?_eq_some_iff.1 ha).1
  have hw := List.getElem?_eq_getElem ht
  exact (c1 t a _ ha hw).trans (c2 t b _ hb hw).symm

theorem rng_nums {p : List Nat} {x : Nd} (hp : p.length ≤ 140737488355328) (hk : kidsIn p.length x.kids = true) : Rng (keyNums p x) := by
  intro u hu
  simp only [keyNums, List.mem_cons, List.mem_map] at hu
  rcases hu with rfl | rfl | ⟨k, hk', rfl⟩
  · exact wrap_u64_range _
  · exact wrap_u64_range _
  · have := List.all_eq_true.1 hk k hk'
    simp at this
    have := root_le p k.toNat
    omega

theorem keyOf_rng {j : Nat} {q : List Int} (hl : l.length ≤ 140737488355328) (h : KeyOf l ps j q) : Rng q := by
  obtain ⟨x, hx, kx, ws, rfl, l1, c1⟩ := h
  intro u hu
  simp only [List.mem_cons, List.mem_map] at hu
  rcases hu with rfl | rfl | ⟨w, hw, rfl⟩
  · exact wrap_u64_range _
  · exact wrap_u64_range _
  · obtain ⟨t, ht⟩ := List.getElem?_of_mem hw
    have h1 : t < x.kids.length := by rw [← l1]; exact (List.getElem?_eq_some_iff.1 ht).1
    have h2 := List.getElem?_eq_getElem h1
    obtain ⟨k1, k2⟩ := kidsIn_get kx h2
    have h3 : x.kids[t]? = some ((x.kids[t].toNat : Nat) : Int) := by rw [h2]; congr 1; omega
    have := (c1 t _ _ h3 ht).lt
    omega

theorem keyNums_same {p p' : List Nat} {x : Nd} (hk : kidsIn p.length x.kids = true) (hS : SameF p p') : keyNums p' x = keyNums p x := by
  unfold keyNums
  congr 2
  refine List.map_congr_left fun k hk' => ?_
  have := List.all_eq_true.1 hk k hk'
  simp at this
  rw [hS.same k.toNat (by omega)]

/-- The state of a pass over the nodes. -/
structure Pass (l : List Nd) (ps : List (Int × Int)) (p0 p : List Nat) (es : List Ent) (on : Bool) (i : Nat) : Prop where
  forest : Forest p
  len : p.length = l.length
  sound : SoundF l ps p
  pairs : PairsC l ps (root p)
  keys : ∀ e ∈ es, KeyOf l ps e.2 e.1
  uniq : ∀ q a b, (q, a) ∈ es → (q, b) ∈ es → a = b
  le : rsum p l.length ≤ rsum p0 l.length
  less : on = true → rsum p l.length < rsum p0 l.length
  same : on = false → SameF p0 p ∧ ∀ j x, j < i → l[j]? = some x → kidsIn l.length x.kids = true → ∃ j', (keyNums p0 x, j') ∈ es ∧ root p0 j' = root p0 j

theorem Pass.sameF {p0 p p1 : List Nat} {es : List Ent} {on : Bool} {i : Nat} (I : Pass l ps p0 p es on i) (hS : SameF p p1) : Pass l ps p0 p1 es on i := by
  have hr := rsum_same hS
  rw [I.len] at hr
  refine ⟨hS.forest, hS.len.trans I.len, fun j hj => ?_, fun u v hm hu hv => ?_, I.keys, I.uniq, ?_, fun ho => ?_, fun ho => ?_⟩
  · rw [hS.same j (by rw [I.len]; exact hj)]; exact I.sound j hj
  · rw [hS.same u (by rw [I.len]; exact hu), hS.same v (by rw [I.len]; exact hv)]; exact I.pairs u v hm hu hv
  · rw [hr]; exact I.le
  · rw [hr]; exact I.less ho
  · obtain ⟨g1, g2⟩ := I.same ho
    exact ⟨g1.trans hS, g2⟩

/-- A node more. -/
theorem Pass.next {p0 p : List Nat} {es : List Ent} {on : Bool} {i : Nat} {x : Nd} (I : Pass l ps p0 p es on i) (hx : l[i]? = some x) (h : on = false → kidsIn l.length x.kids = true → ∃ j', (keyNums p0 x, j') ∈ es ∧ root p0 j' = root p0 i) : Pass l ps p0 p es on (i + 1) := by
  refine { I with same := fun ho => ⟨(I.same ho).1, fun j y hj hy hky => ?_⟩ }
  rcases Nat.lt_or_ge j i with c | c
  · exact (I.same ho).2 j y c hy hky
  · have : j = i := by omega
    subst this
    rw [hx] at hy; injection hy with hy; subst hy
    exact h ho hky

theorem Pass.closed {p0 p : List Nat} {es : List Ent} (h : Pass l ps p0 p es false l.length) (hp0 : p0.length = l.length) : CongC l (root p) := by
  obtain ⟨hS, hk⟩ := h.same rfl
  intro i j x y hx hy e1 e2 e3 kx ky hr
  have hi := (List.getElem?_eq_some_iff.1 hx).1
  have hj := (List.getElem?_eq_some_iff.1 hy).1
  obtain ⟨a, ha, ra⟩ := hk i x hi hx kx
  obtain ⟨b, hb, rb⟩ := hk j y hj hy ky
  have hq : keyNums p0 x = keyNums p0 y := by
    unfold keyNums
    rw [e1, e2]
    congr 2
    refine List.ext_getElem? fun t => ?_
    simp only [List.getElem?_map]
    rcases Nat.lt_or_ge t x.kids.length with c | c
    · have h1 := List.getElem?_eq_getElem c
      have h2 := List.getElem?_eq_getElem (show t < y.kids.length by omega)
      obtain ⟨k1, k2⟩ := kidsIn_get kx h1
      obtain ⟨k3, k4⟩ := kidsIn_get ky h2
      rw [h1, h2]
      simp only [Option.map_some, Option.some.injEq, Int.natCast_inj]
      have := hr t x.kids[t].toNat y.kids[t].toNat (by rw [h1]; congr 1; omega) (by rw [h2]; congr 1; omega)
      rwa [hS.same _ (by omega), hS.same _ (by omega)] at this
    · rw [List.getElem?_eq_none c, List.getElem?_eq_none (by omega)]
  rw [← hq] at hb
  have := h.uniq _ _ _ ha hb
  subst this
  rw [hS.same _ (by omega), hS.same _ (by omega), ← ra, ← rb]

/-- One pass over the nodes. -/
theorem loop22_3 {Q : AExit → (Nat → V) → Heap → Prop} {tm : Nat → V} {h h1 : Heap} {b mb : Nat} {p0 : List Nat} (h0 : tm 0 = .ps 3 (l.map Nd.v)) (h5 : tm 5 = .sl 1 b 0 l.length none) (h9 : tm 9 = .bool false) (h10 : tm 10 = .mp mb)
    (h63 : tm 63 = .ps 3 (l.map Nd.v)) (h64 : tm 64 = .int .i64 (l.length : Nat)) (h65 : tm 65 = .int .i64 0)
    (H : H22 h h1 b p0) (hmb : h1 mb = some (.map [])) (hm0 : h mb = none) (hwf : ∀ x ∈ l, x.wf) (hks : ∀ x ∈ l, x.kids.length * 8 ≤ 140737488351232) (hn : l.length ≤ 140737488355328) (hF : Forest p0) (hp : p0.length = l.length) (hs : SoundF l ps p0) (hP : PairsC l ps (root p0))
    (post : ∀ tm' h' p es on, tm' 0 = .ps 3 (l.map Nd.v) → tm' 5 = .sl 1 b 0 l.length none → tm' 9 = .bool on → H22 h h' b p → Pass l ps p0 p es on l.length → Q .normal tm' h') : W noq (AC prog) l22_3 Q tm h1 := by
  have hbm : b ≠ mb := by
    rintro rfl
    have := H.at_b
    rw [hmb] at this
    cases this
  simp only [l22_3, W_block]
  refine W_loop' (fun m tm h1 => ∃ i p es on, m = l.length - i ∧ i ≤ l.length ∧ tm 0 = .ps 3 (l.map Nd.v) ∧ tm 5 = .sl 1 b 0 l.length none ∧ tm 9 = .bool on ∧ tm 10 = .mp mb ∧ tm 63 = .ps 3 (l.map Nd.v) ∧ tm 64 = .int .i64 (l.length : Nat) ∧ tm 65 = .int .i64 (i : Nat) ∧
      H22 h h1 b p ∧ h1 mb = some (.map (entV es)) ∧ Pass l ps p0 p es on i)
    l.length ⟨0, p0, [], false, rfl, by omega, h0, h5, h9, h10, h63, h64, h65, H, hmb, ⟨hF, hp, hs, hP, by simp, by simp, Nat.le_refl _, by simp, fun _ => ⟨.refl hF, fun j x hj => by omega⟩⟩⟩ ?_
  clear h0 h5 h9 h10 h63 h64 h65 H hmb
  rintro J hJ m tm h2 ⟨i, p, es, on, rfl, hi, h0, h5, h9, h10, h63, h64, h65, H, hmb, I⟩
  simp [b22_3, h64, h65]
  refine Wc_intro (fun hc => ?_) (fun hc => ?_)
  · simp at hc
    obtain ⟨x, hx⟩ : ∃ x, l[i]? = some x := ⟨_, List.getElem?_eq_getElem hc⟩
    have hxl : x ∈ l := List.mem_of_getElem? hx
    have w5 : IntKind.i64.wrap ((i : Int) + 1) = i + 1 := wrap_id (by omega) (by omega)
    simp [s22_9, h63, h65, hx, Nd.v]
    intro b1 hb1
    obtain ⟨H1, n1⟩ := H.new hb1 (.cells 24 3 [.int .i64 x.op, .int .i64 x.imm, .ps 1 (ints x.kids)])
    have n2 : mb ≠ b1 := by rintro rfl; rw [hmb] at hb1; cases hb1
    simp [r22_4, upd_at, upd_upd]
    simp [s22_10, h5, upd_at]
    refine (ac58 (nd := x) (p := p) H1.at_b I.len.symm I.forest (by rw [I.len]; exact hn) (hks x hxl)).mono ?_
    rintro v h3 ⟨rfl, p1, hS, rfl⟩
    have H2 := H1.over p1
    have hmb2 : (upd (upd h2 b1 (.cells 24 3 [.int .i64 x.op, .int .i64 x.imm, .ps 1 (ints x.kids)])) b (.cells 3 1 (nats p1))) mb = some (.map (entV es)) := by
      simp [upd_at, n2, Ne.symm hbm, hmb]
    generalize upd (upd h2 b1 (.cells 24 3 [.int .i64 x.op, .int .i64 x.imm, .ps 1 (ints x.kids)])) b (.cells 3 1 (nats p1)) = h4 at H2 hmb2
    have I2 := I.sameF hS
    have hl1 : p1.length = l.length := hS.len.trans I.len
    cases hk : kidsIn p.length x.kids with
    | false =>
      simp [r22_5, s22_11, s22_14, h65, w5]
      refine ⟨l.length - (i + 1), by omega, hJ _ _ _ ⟨i + 1, p1, es, on, rfl, by omega, by simp [h0], by simp [h5], by simp [h9], by simp [h10], by simp [h63], by simp [h64], by simp, H2, hmb2, ?_⟩⟩
      refine I2.next hx fun _ hky => ?_
      rw [I.len] at hk
      rw [hk] at hky; cases hky
    | true =>
      have hkl : kidsIn l.length x.kids = true := by rw [← I.len]; exact hk
      have hq : Rng (keyNums p x) := rng_nums (by rw [I.len]; exact hn) hk
      have hKey : KeyOf l ps i (keyNums p x) := keyOf_nums hx hkl I.sound
      simp [r22_5, s22_11, s22_12, h10]
      have hnum : ∀ (_ : on = false), keyNums p0 x = keyNums p x := fun ho => (keyNums_same (by rw [hp]; exact hkl) (I.same ho).1).symm
      rcases look_ent (z := .int .i64 0) hmb2 hq (fun e he => keyOf_rng hn (I.keys e he)) with ⟨j, hj, hlook⟩ | ⟨hno, hlook, hput⟩
      · have hjK := I.keys _ hj
        have hcl : Cl l ps i j := keyOf_cl hwf hKey hjK
        have hjl : j < l.length := hcl.lt.2
        simp [hlook, k22_2, h5]
        refine (ac57 (p := p1) (i := i) (j := j) H2.at_b hl1.symm hS.forest (by omega) (by omega)).mono ?_
        rintro v h5' ⟨rfl, p2, hJ2, rfl⟩
        have H3 := H2.over p2
        have hmb3 : (upd h4 b (.cells 3 1 (nats p2))) mb = some (.map (entV es)) := by
          rw [upd_ne _ _ _ _ (Ne.symm hbm)]; exact hmb2
        have hl2 : p2.length = l.length := hJ2.len.trans hl1
        by_cases hne : root p1 i = root p1 j
        · have hS2 : SameF p1 p2 := ⟨hJ2.forest, hJ2.len, fun k hk => by rw [hJ2.join k hk, hne]; split <;> omega⟩
          have e1 : (root p1 i != root p1 j) = false := by simp [hne]
          simp [s22_13, e1, s22_14, h65, w5]
          refine ⟨l.length - (i + 1), by omega, hJ _ _ _ ⟨i + 1, p2, es, on, rfl, by omega, by simp [h0], by simp [h5], by simp [h9], by simp [h10], by simp [h63], by simp [h64], by simp, H3, hmb3, ?_⟩⟩
          refine (I2.sameF hS2).next hx fun ho _ => ⟨j, by rw [hnum ho]; exact hj, ?_⟩
          have hS0 := (I2.same ho).1
          rw [← hS0.same j (by omega), ← hS0.same i (by omega)]
          exact hne.symm
        · have e1 : (root p1 i != root p1 j) = true := by simp [hne]
          simp [s22_13, e1, s22_14, h65, w5]
          refine ⟨l.length - (i + 1), by omega, hJ _ _ _ ⟨i + 1, p2, es, true, rfl, by omega, by simp [h0], by simp [h5], by simp, by simp [h10], by simp [h63], by simp [h64], by simp, H3, hmb3, ?_⟩⟩
          have hlt := rsum_join hJ2 (by omega) (by omega) hne
          rw [hl1] at hlt
          have hle := I2.le
          exact ⟨hJ2.forest, hl2, sound_join I2.sound hl1 (by omega) (by omega) hcl hJ2, fun u v hm hu hv => join_coarse hJ2 (by omega) (by omega) (I2.pairs u v hm hu hv), I2.keys, I2.uniq, by omega, fun _ => by omega, fun ho => by cases ho⟩
      · simp [hlook, k22_1, h10]
        refine wMupd_mp hmb2 (hput i) ?_
        simp [s22_14, h65, w5]
        refine ⟨l.length - (i + 1), by omega, hJ _ _ _ ⟨i + 1, p1, es ++ [(keyNums p x, i)], on, rfl, by omega, by simp [h0], by simp [h5], by simp [h9], by simp [h10], by simp [h63], by simp [h64], by simp, H2.else hm0 hbm _, upd_eq _ _ _, ?_⟩⟩
        have I3 : Pass l ps p0 p1 (es ++ [(keyNums p x, i)]) on i := by
          refine { I2 with keys := fun e he => ?_, uniq := fun q a c ha hc' => ?_, same := fun ho => ⟨(I2.same ho).1, fun j y hj hy hky => ?_⟩ }
          · rcases List.mem_append.1 he with he | he
            · exact I2.keys e he
            · simp at he; subst he; exact hKey
          · rcases List.mem_append.1 ha with u1 | u1 <;> rcases List.mem_append.1 hc' with u2 | u2
            · exact I2.uniq q a c u1 u2
            · simp at u2; rw [u2.1] at u1; exact absurd u1 (hno a)
            · simp at u1; rw [u1.1] at u2; exact absurd u2 (hno c)
            · simp at u1 u2; rw [u1.2, u2.2]
          · obtain ⟨j', g1, g2⟩ := (I2.same ho).2 j y hj hy hky
            exact ⟨j', List.mem_append_left _ g1, g2⟩
        exact I3.next hx fun ho _ => ⟨i, by rw [hnum ho]; simp, rfl⟩
  · simp at hc
    have : i = l.length := by omega
    subst this
    exact post _ _ p es on (by simp [h0]) (by simp [h5]) (by simp [h9]) H I

end
end Go.Abs

/- What congruence.Classes returns: the smallest equivalent index of each node. -/
namespace Go.Abs
open Go.Proofs.Try (prog)
section
variable {l : List Nd} {ps : List (Int × Int)}

/-- The passes. -/
theorem loop22_2 {Q : AExit → (Nat → V) → Heap → Prop} {tm : Nat → V} {h h1 : Heap} {b : Nat} {p : List Nat} (h0 : tm 0 = .ps 3 (l.map Nd.v)) (h5 : tm 5 = .sl 1 b 0 l.length none) (h9 : tm 9 = .bool true)
    (H : H22 h h1 b p) (hwf : ∀ x ∈ l, x.wf) (hks : ∀ x ∈ l, x.kids.length * 8 ≤ 140737488351232) (hn : l.length ≤ 140737488355328) (hF : Forest p) (hp : p.length = l.length) (hs : SoundF l ps p) (hP : PairsC l ps (root p))
    (post : ∀ tm' h' p, tm' 0 = .ps 3 (l.map Nd.v) → tm' 5 = .sl 1 b 0 l.length none → H22 h h' b p → Forest p → p.length = l.length → SoundF l ps p → PairsC l ps (root p) → CongC l (root p) → Q .normal tm' h') : W noq (AC prog) l22_2 Q tm h1 := by
  simp only [l22_2, W_block]
  refine W_loop' (fun m tm h1 => ∃ p on, m = 2 * rsum p l.length + (if on then 1 else 0) ∧ tm 0 = .ps 3 (l.map Nd.v) ∧ tm 5 = .sl 1 b 0 l.length none ∧ tm 9 = .bool on ∧ H22 h h1 b p ∧ Forest p ∧ p.length = l.length ∧ SoundF l ps p ∧ PairsC l ps (root p) ∧ (on = false → CongC l (root p)))
    _ ⟨p, true, rfl, h0, h5, h9, H, hF, hp, hs, hP, fun h => by cases h⟩ ?_
  clear h0 h5 h9 H hF hp hs hP p
  rintro J hJ m tm h2 ⟨p, on, rfl, h0, h5, h9, H, hF, hp, hs, hP, hC⟩
  simp [b22_2, h9]
  refine Wc_intro (fun hc => ?_) (fun hc => ?_)
  · subst hc
    simp [s22_7]
    intro mb hmb
    obtain ⟨H1, n1⟩ := H.new hmb (.map [])
    have hm0 : h mb = none := by
      cases hx : h mb with
      | none => rfl
      | some x => rw [(H.keep _ _ hx).1] at hmb; cases hmb
    simp [r22_3, s22_8, h0]
    refine loop22_3 (h := h) (b := b) (mb := mb) (p0 := p) (by simp [h0]) (by simp [h5]) (by simp) (by simp) (by simp) (by simp) (by simp) H1 (upd_eq _ _ _) hm0 hwf hks hn hF hp hs hP ?_
    intro tm' h' p' es on' g0 g5 g9 H' I
    simp
    refine ⟨2 * rsum p' l.length + (if on' then 1 else 0), ?_, hJ _ _ _ ⟨p', on', rfl, g0, g5, g9, H', I.forest, I.len, I.sound, I.pairs, fun ho => ?_⟩⟩
    · cases on' with
      | true => have := I.less rfl; simp; omega
      | false => have := I.le; simp; omega
    · subst ho; exact I.closed hp
  · subst hc
    exact post _ _ p (by simp [h0]) (by simp [h5]) H hF hp hs hP (hC rfl)

/-- The last loop: the roots. -/
theorem loop22_4 {Q : AExit → (Nat → V) → Heap → Prop} {tm : Nat → V} {h h1 : Heap} {b ob : Nat} {p : List Nat} (h5 : tm 5 = .sl 1 b 0 l.length none) (h17 : tm 17 = .sl 1 ob 0 l.length none) (h97 : tm 97 = .sl 1 ob 0 l.length none) (h98 : tm 98 = .int .i64 (l.length : Nat)) (h99 : tm 99 = .int .i64 0)
    (H : H22 h h1 b p) (hob : h1 ob = some (.cells 3 1 (nats (List.replicate l.length 0)))) (ho0 : h ob = none) (hbo : b ≠ ob) (hn : l.length ≤ 140737488355328) (hF : Forest p) (hp : p.length = l.length)
    (post : ∀ tm' h', tm' 17 = .sl 1 ob 0 l.length none → (∀ c x, h c = some x → h' c = some x) → h' ob = some (.cells 3 1 (nats ((List.range l.length).map (root p)))) → Q .normal tm' h') : W noq (AC prog) l22_4 Q tm h1 := by
  simp only [l22_4, W_block]
  refine W_loop' (fun m tm h1 => ∃ i q, m = l.length - i ∧ i ≤ l.length ∧ tm 5 = .sl 1 b 0 l.length none ∧ tm 17 = .sl 1 ob 0 l.length none ∧ tm 97 = .sl 1 ob 0 l.length none ∧ tm 98 = .int .i64 (l.length : Nat) ∧ tm 99 = .int .i64 (i : Nat) ∧
      H22 h h1 b q ∧ h1 ob = some (.cells 3 1 (nats ((List.range i).map (root p) ++ List.replicate (l.length - i) 0))) ∧ SameF p q)
    l.length ⟨0, p, rfl, by omega, h5, h17, h97, h98, h99, H, by simpa using hob, .refl hF⟩ ?_
  clear h5 h17 h97 h98 h99 H hob
  rintro J hJ m tm h2 ⟨i, q, rfl, hi, h5, h17, h97, h98, h99, H, hob, hS⟩
  simp [b22_4, h98, h99]
  refine Wc_intro (fun hc => ?_) (fun hc => ?_)
  · simp at hc
    have w5 : IntKind.i64.wrap ((i : Int) + 1) = i + 1 := wrap_id (by omega) (by omega)
    have hlq : q.length = l.length := hS.len.trans hp
    simp [s22_17, h99, h17, h5]
    refine (ac59 (p := q) (i := i) H.at_b hlq.symm hS.forest (by omega)).mono ?_
    rintro v h3 ⟨rfl, q2, hS2, rfl⟩
    have hob2 : (upd h2 b (.cells 3 1 (nats q2))) ob = some (.cells 3 1 (nats ((List.range i).map (root p) ++ List.replicate (l.length - i) 0))) := by
      rw [upd_ne _ _ _ _ (Ne.symm hbo)]; exact hob
    have H2 := H.over q2
    generalize upd h2 b (.cells 3 1 (nats q2)) = h4 at H2 hob2
    have hr : root q i = root p i := hS.same i (by omega)
    simp [r22_7, hc, hob2, s22_18, h99, w5, hr]
    refine ⟨by omega, l.length - (i + 1), by omega, hJ _ _ _ ⟨i + 1, q2, rfl, by omega, by simp [h5], by simp [h17], by simp [h97], by simp [h98], by simp, H2.else ho0 hbo _, ?_, hS.trans hS2⟩⟩
    rw [upd_eq, nats_set]
    congr 3
    have e : l.length - i = (l.length - (i + 1)) + 1 := by omega
    rw [e, List.replicate_succ, List.set_append]
    simp [List.range_succ]
  · simp at hc
    have : i = l.length := by omega
    subst this
    exact post _ _ (by simp [h17]) (fun c x hx => (H.keep c x hx).1) (by simpa using hob)

/-- Classes. -/
theorem ac22 {h : Heap} (hwf : ∀ x ∈ l, x.wf) (hks : ∀ x ∈ l, x.kids.length * 8 ≤ 140737488351232) (hn : l.length * 8 ≤ 140737488355328) (hpn : ps.length ≤ 140737488355328) :
    AC prog 22 [.ps 3 (l.map Nd.v), .ps 2 (prsV ps)] h fun v h' => ∃ c, IsCl l ps c ∧ v = .ps 1 (nats c) ∧ h' = h := by
  refine AC.view (Q := fun v h' => ∃ c b, IsCl l ps c ∧ v = .sl 1 b 0 c.length none ∧ h b = none ∧ h' = upd h b (.cells 3 1 (nats c))) ?_ ?_
  rotate_left
  · rintro v h1 ⟨c, b, hc, rfl, hb, rfl⟩
    refine ⟨_, _, View.ps (upd_eq _ _ _) (by simp), c, hc, ?_, ?_⟩
    · simp [elems]
      rw [List.take_of_length_le (by simp)]
    · funext k
      simp only [era, upd]
      split
      · rename_i e; subst e; exact hb.symm
      · rfl
  refine AC_of' noq_ok mixed t22 fun R hR => ?_
  simp [c22]
  refine ⟨⟨by omega, by omega⟩, ?_⟩
  intro b hb
  simp [r22_0, s22_0]
  refine loop22_0 (n := l.length) (b := b) (L := .ps 3 (l.map Nd.v)) (PS := .ps 2 (prsV ps)) (by simp) (by simp) (by simp) (by simp) (by simp) (by simp) (by simp [upd_eq, nats]) (by omega) ?_
  intro tm1 h1 g0 g1 g5 e1
  rw [upd_upd] at e1
  subst e1
  have hF : Forest (List.range l.length) := fun i hi => by simp
  have hroot : ∀ i, i < l.length → root (List.range l.length) i = i := fun i hi => root_self (by simpa using hi) (by simp)
  have H : H22 h (upd h b (.cells 3 1 (nats (List.range l.length)))) b (List.range l.length) := by
    refine ⟨upd_eq _ _ _, fun c x hc => ?_⟩
    have : c ≠ b := by rintro rfl; rw [hb] at hc; cases hc
    exact ⟨by rw [upd_ne _ _ _ _ this]; exact hc, this⟩
  simp [s22_2, g1]
  refine loop22_1 (l := l) (ps := ps) (h := h) (b := b) (p := List.range l.length) (by simp [g0]) (by simp [g5]) (by simp) (by simp) (by simp) H hb hF (by simp) (fun i hi => by rw [hroot i hi]; exact .refl hi) (by omega) hpn ?_
  intro tm2 h2 p2 g0 g5 H2 hF2 hl2 hs2 hP2
  simp [s22_6]
  refine loop22_2 (l := l) (ps := ps) (h := h) (b := b) (p := p2) (by simp [g0]) (by simp [g5]) (by simp) H2 hwf hks (by omega) hF2 hl2 hs2 hP2 ?_
  intro tm3 h3 p3 g0 g5 H3 hF3 hl3 hs3 hP3 hC3
  simp [s22_15, g0]
  refine ⟨⟨by omega, by omega⟩, ?_⟩
  intro ob hob
  obtain ⟨H4, n4⟩ := H3.new hob (.cells 3 1 (nats (List.replicate l.length 0)))
  have ho0 : h ob = none := by
    cases hx : h ob with
    | none => rfl
    | some x => rw [(H3.keep _ _ hx).1] at hob; cases hob
  simp [r22_6, s22_16]
  refine loop22_4 (l := l) (h := h) (b := b) (ob := ob) (p := p3) (by simp [g5]) (by simp) (by simp) (by simp) (by simp) (by simpa [nats] using H4) (by simp [upd_eq, nats]) ho0 n4 (by omega) hF3 hl3 ?_
  intro tm4 h4 g17 hk hob4
  simp [s22_19, g17]
  refine hR _ (upd h ob (.cells 3 1 (nats ((List.range l.length).map (root p3))))) _ ?_ ⟨(List.range l.length).map (root p3), ob, isCl_of hs3 (fun i _ => root_le p3 i) hP3 hC3, by simp, ho0, rfl⟩
  intro c x hc
  by_cases e : c = ob
  · subst e; rw [upd_eq] at hc; rw [← hc]; exact hob4
  · rw [upd_ne _ _ _ _ e] at hc; exact hk c x hc

end
end Go.Abs

/- The code of the congruence laws' helpers, as the abstract calculus sees it. -/
namespace Go.Abs

/-- The rest. -/
def s21_2 : ACode := (.region (.op ⟨(some 15), (.mov (.t 5)), none⟩
    (.op ⟨(some 16), (.bin .add .num (.t 15) (.c (.int .i64 1))), none⟩
    (.op ⟨(some 5), (.mov (.t 16)), none⟩ .nil))))

/-- The rest. -/
def s21_1 : ACode := (.seq (.block 1 (.seq (.region (.op ⟨(some 17), (.mov (.t 0)), none⟩
    (.op ⟨(some 18), (.mov (.t 5)), none⟩
    (.op ⟨(some 19), (.idx 1 (.t 17) (.t 18)), none⟩
    (.op ⟨(some 20), (.load none (.t 19)), none⟩
    (.op ⟨(some 21), (.mov (.t 1)), none⟩
    (.op ⟨(some 22), (.mov (.t 5)), none⟩
    (.op ⟨(some 23), (.idx 1 (.t 21) (.t 22)), none⟩
    (.op ⟨(some 24), (.load none (.t 23)), none⟩
    (.op ⟨(some 25), (.bin .neq .num (.t 20) (.t 24)), none⟩ .nil))))))))))
  (.cond (.t 25) (.seq (.region (.op ⟨(some 4), (.mov (.c (.bool false))), none⟩ .nil))
  .ret) .skip)))
  s21_2)

/-- A loop's body. -/
def b21_0 : ACode := (.seq (.seq (.region (.op ⟨(some 11), (.mov (.t 5)), none⟩
    (.op ⟨(some 12), (.mov (.t 0)), none⟩
    (.op ⟨(some 13), (.len (.t 12)), none⟩
    (.op ⟨(some 14), (.bin .lss .num (.t 11) (.t 13)), none⟩ .nil)))))
  (.cond (.t 14) .skip (.exit 0)))
  s21_1)

/-- A loop. -/
def l21_0 : ACode := .block 0 (.loop b21_0)

/-- The rest. -/
def s21_3 : ACode := (.seq (.region (.op ⟨(some 4), (.mov (.c (.bool true))), none⟩ .nil))
  .ret)

/-- The rest. -/
def s21_0 : ACode := (.seq (.seq (.region (.op ⟨(some 5), (.mov (.c (.int .i64 0))), none⟩ .nil))
  l21_0)
  s21_3)

/-- The code. -/
def c21 : AFun := ⟨(.seq (.region (.op ⟨(some 4), (.mov (.c (.bool false))), none⟩ .nil))
  (.seq (.seq (.region (.op ⟨(some 6), (.mov (.t 0)), none⟩
    (.op ⟨(some 7), (.len (.t 6)), none⟩
    (.op ⟨(some 8), (.mov (.t 1)), none⟩
    (.op ⟨(some 9), (.len (.t 8)), none⟩
    (.op ⟨(some 10), (.bin .neq .num (.t 7) (.t 9)), none⟩ .nil))))))
  (.cond (.t 10) (.seq (.region (.op ⟨(some 4), (.mov (.c (.bool false))), none⟩ .nil))
  .ret) .skip))
  s21_0)),
  [(.tmp 4)]⟩

theorem t21 : trFun Go.Proofs.Try.prog (fun _ => false) 21 = some ⟨erase c21.code, c21.res⟩ := by kernel_rfl

/-- The rest of a region. -/
def r3_2 : RTree := (.op ⟨(some 1), (.mov (.t 8)), none⟩ .nil)

/-- The rest of a region. -/
def r3_1 : RTree := (.op ⟨(some 7), (.build [(.int .i64 0), (.int .i64 0), .nils] [(0, (1, (.c (.int .i64 20)))), (2, (1, (.t 6)))]), none⟩
    (.op ⟨(some 8), (.buildS 24 3 4 [(.int .i64 0), (.int .i64 0), .nils] [(0, (.t 2)), (1, (.t 3)), (2, (.t 5)), (3, (.t 7))]), none⟩
    r3_2))

/-- The rest of a region. -/
def r3_0 : RTree := (.op ⟨(some 5), (.build [(.int .i64 0), (.int .i64 0), .nils] [(0, (1, (.c (.int .i64 20)))), (2, (1, (.t 4)))]), none⟩
    (.op ⟨(some 6), (.buildS 3 1 1 [(.int .i64 0)] [(0, (.c (.int .i64 1)))]), none⟩
    r3_1))

/-- The rest of a region. -/
def r3_10 : RTree := (.op ⟨(some 20), (.pick (.t 15) (.t 19) (.c (.bool false))), none⟩
    (.op ⟨(some 0), (.mov (.t 20)), none⟩ .nil))

/-- The rest of a region. -/
def r3_9 : RTree := (.op ⟨(some 19), (.call 21 [(.t 17), (.t 18)]), (some (15, true))⟩
    r3_10)

/-- The rest of a region. -/
def r3_8 : RTree := (.op ⟨(some 18), (.buildS 3 1 4 [(.int .i64 0)] [(0, (.c (.int .i64 0))), (1, (.c (.int .i64 1))), (2, (.c (.int .i64 2))), (3, (.c (.int .i64 3)))]), (some (15, true))⟩
    r3_9)

/-- The rest of a region. -/
def r3_7 : RTree := (.op ⟨(some 16), (.mov (.t 1)), (some (15, true))⟩
    (.op ⟨(some 17), (.call 22 [(.t 16), (.c .nils)]), (some (15, true))⟩
    r3_8))

/-- The rest of a region. -/
def r3_6 : RTree := (.op ⟨(some 15), (.mov (.t 14)), none⟩
    r3_7)

/-- The rest of a region. -/
def r3_5 : RTree := (.op ⟨(some 14), (.call 21 [(.t 12), (.t 13)]), none⟩
    r3_6)

/-- The rest of a region. -/
def r3_4 : RTree := (.op ⟨(some 13), (.buildS 3 1 4 [(.int .i64 0)] [(0, (.c (.int .i64 0))), (1, (.c (.int .i64 0))), (2, (.c (.int .i64 2))), (3, (.c (.int .i64 2)))]), none⟩
    r3_5)

/-- The rest of a region. -/
def r3_3 : RTree := (.op ⟨(some 12), (.call 22 [(.t 9), (.t 11)]), none⟩
    r3_4)

/-- The rest. -/
def s3_1 : ACode := (.seq (.region (.op ⟨(some 9), (.mov (.t 1)), none⟩
    (.op ⟨(some 10), (.build [(.int .i64 0), (.int .i64 0)] [(0, (1, (.c (.int .i64 0)))), (1, (1, (.c (.int .i64 1))))]), none⟩
    (.op ⟨(some 11), (.buildS 28 2 1 [(.int .i64 0), (.int .i64 0)] [(0, (.t 10))]), none⟩
    r3_3))))
  .ret)

/-- The rest. -/
def s3_0 : ACode := (.seq .ghost
  s3_1)

/-- The code. -/
def c3 : AFun := ⟨(.seq (.region (.op ⟨(some 0), (.mov (.c (.bool false))), none⟩ .nil))
  (.seq (.region (.op ⟨(some 2), (.build [(.int .i64 0), (.int .i64 0), .nils] [(0, (1, (.c (.int .i64 2))))]), none⟩
    (.op ⟨(some 3), (.build [(.int .i64 0), (.int .i64 0), .nils] [(0, (1, (.c (.int .i64 2)))), (1, (1, (.c (.int .i64 1))))]), none⟩
    (.op ⟨(some 4), (.buildS 3 1 1 [(.int .i64 0)] [(0, (.c (.int .i64 0)))]), none⟩
    r3_0))))
  s3_0)),
  [(.tmp 0)]⟩

theorem t3 : trFun Go.Proofs.Try.prog (fun _ => false) 3 = some ⟨erase c3.code, c3.res⟩ := by kernel_rfl

end Go.Abs

/- What SameInts does; what the examples of chapter 11 come to. -/
namespace Go.Abs
open Go.Proofs.Try (prog)

theorem nats_ints (l : List Nat) : nats l = ints (l.map fun (n : Nat) => (n : Int)) := by simp [nats, ints]

/-- SameInts. -/
theorem ac21 {h : Heap} {x y : List Int} (hx : x.length ≤ 140737488355328) : AC prog 21 [.ps 1 (ints x), .ps 1 (ints y)] h fun v h' => v = .bool (decide (x = y)) ∧ h' = h := by
  refine AC_of' noq_ok mixed t21 fun R hR => ?_
  have fin : ∀ b, (b = decide (x = y)) → R (.bool b) h := fun b hb => hR _ _ _ (Sub.refl _) ⟨by rw [hb], rfl⟩
  simp [c21]
  refine Wc_intro (fun hc => ?_) (fun hc => ?_)
  · simp at hc
    refine fin _ ?_
    have : x ≠ y := by rintro rfl; exact hc rfl
    simp [this]
  · simp at hc
    have hl : x.length = y.length := by omega
    simp [s21_0, l21_0]
    refine W_loop' (fun m tm h1 => ∃ i : Nat, m = x.length - i ∧ i ≤ x.length ∧ tm 0 = .ps 1 (ints x) ∧ tm 1 = .ps 1 (ints y) ∧ tm 5 = .int .i64 (i : Nat) ∧ h1 = h ∧ ∀ j, j < i → x[j]? = y[j]?) x.length ⟨0, rfl, by omega, by simp, by simp, by simp, rfl, fun j hj => by omega⟩ ?_
    rintro J hJ m tm h1 ⟨i, rfl, hi, h0, h1', h5, rfl, he⟩
    simp [b21_0, h0, h5]
    refine Wc_intro (fun hc2 => ?_) (fun hc2 => ?_)
    · simp at hc2
      have hiy : i < y.length := by omega
      have w5 : IntKind.i64.wrap ((i : Int) + 1) = i + 1 := wrap_id (by omega) (by omega)
      simp [s21_1, h0, h1', h5, hc2, hiy]
      refine Wc_intro (fun hc3 => ?_) (fun hc3 => ?_)
      · simp at hc3
        refine fin _ ?_
        have : x ≠ y := by rintro rfl; exact hc3 rfl
        simp [this]
      · simp at hc3
        simp [s21_2, h5, w5]
        refine ⟨x.length - (i + 1), by omega, hJ _ _ _ ⟨i + 1, rfl, by omega, by simp [h0], by simp [h1'], by simp, rfl, fun j hj => ?_⟩⟩
        rcases Nat.lt_or_ge j i with c | c
        · exact he j c
        · have : j = i := by omega
          subst this
          rw [List.getElem?_eq_getElem hc2, List.getElem?_eq_getElem hiy, hc3]
    · simp at hc2
      have : i = x.length := by omega
      subst this
      simp [s21_3]
      refine fin _ ?_
      have : x = y := by
        refine List.ext_getElem? fun j => ?_
        rcases Nat.lt_or_ge j x.length with c | c
        · exact he j c
        · rw [List.getElem?_eq_none c, List.getElem?_eq_none (by omega)]
      simp [this]

/-! ### The example -/
def exL : List Nd := [⟨2, 0, []⟩, ⟨2, 1, []⟩, ⟨20, 0, [0]⟩, ⟨20, 0, [1]⟩]

theorem ex_one : IsCl exL [(0, 1)] [0, 0, 2, 2] := by
  have key := isCl_of (l := exL) (ps := [(0, 1)]) (r := fun i => [0, 0, 2, 2].getD i 0) ?_ ?_ ?_ ?_
  · exact key
  · intro i hi
    have h01 : Cl exL [(0, 1)] 0 1 := .pair (by simp) (by decide) (by decide)
    have h23 : Cl exL [(0, 1)] 2 3 := by
      refine .cong (x := ⟨20, 0, [0]⟩) (y := ⟨20, 0, [1]⟩) rfl rfl rfl rfl rfl (by decide) (by decide) ?_
      intro t a b ha hb
      match t with
      | 0 =>
        simp at ha hb
        have ea : a = 0 := by omega
        have eb : b = 1 := by omega
        subst ea; subst eb; exact h01
      | t + 1 => simp at ha
    match i with
    | 0 => exact .refl hi
    | 1 => exact h01.symm
    | 2 => exact .refl hi
    | 3 => exact h23.symm
    | i + 4 => simp [exL] at hi; omega
  · intro i hi
    match i with
    | 0 => decide
    | 1 => decide
    | 2 => decide
    | 3 => decide
    | i + 4 => simp [exL] at hi; omega
  · intro i j hm hi hj
    simp at hm
    have ei : i = 0 := by omega
    have ej : j = 1 := by omega
    subst ei; subst ej; rfl
  · intro i j x y hx hy e1 e2 e3 kx ky hr
    have hi := (List.getElem?_eq_some_iff.1 hx).1
    have hj := (List.getElem?_eq_some_iff.1 hy).1
    simp [exL] at hi hj
    have qi : i = 0 ∨ i = 1 ∨ i = 2 ∨ i = 3 := by omega
    have qj : j = 0 ∨ j = 1 ∨ j = 2 ∨ j = 3 := by omega
    rcases qi with rfl | rfl | rfl | rfl <;> rcases qj with rfl | rfl | rfl | rfl <;> simp [exL] at hx hy <;> subst hx <;> subst hy <;> first | rfl | (simp at e1 e2 e3)

theorem ex_none : IsCl exL [] [0, 1, 2, 3] := by
  have key := isCl_of (l := exL) (ps := []) (r := fun i => i) ?_ ?_ ?_ ?_
  · exact key
  · intro i hi; exact .refl hi
  · intro i hi; exact Nat.le_refl _
  · intro i j hm hi hj; simp at hm
  · intro i j x y hx hy e1 e2 e3 kx ky hr
    have hi := (List.getElem?_eq_some_iff.1 hx).1
    have hj := (List.getElem?_eq_some_iff.1 hy).1
    simp [exL] at hi hj
    have qi : i = 0 ∨ i = 1 ∨ i = 2 ∨ i = 3 := by omega
    have qj : j = 0 ∨ j = 1 ∨ j = 2 ∨ j = 3 := by omega
    rcases qi with rfl | rfl | rfl | rfl <;> rcases qj with rfl | rfl | rfl | rfl <;> simp [exL] at hx hy <;> subst hx <;> subst hy <;> first | rfl | (simp at e1 e2 e3; done) | exact absurd (show (0 : Nat) = 1 from hr 0 0 1 rfl rfl) (by decide) | exact absurd (show (1 : Nat) = 0 from hr 0 1 0 rfl rfl) (by decide)

theorem exL_wf : ∀ x ∈ exL, x.wf := by
  intro x hx
  simp [exL] at hx
  rcases hx with rfl | rfl | rfl | rfl <;> simp [Nd.wf]
theorem exL_kids : ∀ x ∈ exL, x.kids.length * 8 ≤ 140737488351232 := by
  intro x hx
  simp [exL] at hx
  rcases hx with rfl | rfl | rfl | rfl <;> simp

/-- CongruenceExamples returns true. -/
theorem ac3 {h : Heap} : AC prog 3 [] h fun v h' => v = .bool true ∧ h' = h := by
  refine AC_of' noq_ok mixed t3 fun R hR => ?_
  simp [c3]
  intro b4 hb4
  simp [r3_0]
  intro b6 hb6
  simp [r3_1]
  intro b8 hb8
  simp [r3_2, s3_0]
  have n46 : b4 ≠ b6 := by rintro rfl; simp [upd_at] at hb6
  have n48 : b4 ≠ b8 := by rintro rfl; simp [upd_at, n46] at hb8
  have n68 : b6 ≠ b8 := by rintro rfl; simp [upd_at] at hb8
  have h6 : h b6 = none := by simpa [upd_at, Ne.symm n46] using hb6
  have h8 : h b8 = none := by simpa [upd_at, Ne.symm n48, Ne.symm n68] using hb8
  refine W_ghost _ h (Shift.frz1 1 (.ps 3 (exL.map Nd.v)) (((sub_upd hb4 _).trans (sub_upd hb6 _)).trans (sub_upd hb8 _)) ?_) ?_
  · simp
    have e : exL.map Nd.v = elems 3 4 (exL.flatMap fun n => n.v.cells) := rfl
    rw [e]
    refine Frz.whole (n := 4) (esz := 3) (ys := exL.flatMap fun n => n.v.cells) (upd_eq _ _ _) h8 ?_ rfl rfl
    refine .keep (.keep (.nils (.keep (.keep (.nils (.keep (.keep (.cons ?_ (.keep (.keep (.cons ?_ .nil)))))))))))
    · exact Frz.sl1 (e := 3) (by simp [upd_at, n46, n48, ints]) hb4 rfl (by simp [ints])
    · exact Frz.sl1 (e := 3) (by simp [upd_at, n68, ints]) h6 rfl (by simp [ints])
  simp [s3_1]
  intro b11 hb11
  simp [r3_3]
  refine AC.give (args' := [.ps 3 (exL.map Nd.v), .ps 2 (prsV [(0, 1)])]) (h' := h) (sub_upd hb11 _) rfl (FrzL.get (.keep (.cons ?_ .nil))) ?_
  · exact Frz.whole (n := 1) (esz := 2) (ys := [.int .i64 0, .int .i64 1]) (upd_eq _ _ _) hb11 (.keep (.keep .nil)) rfl rfl
  refine (ac22 exL_wf exL_kids (by simp [exL]) (by simp)).mono ?_
  rintro v h1 ⟨c, hc, rfl, rfl⟩
  obtain rfl := hc.unique ex_one
  simp [r3_4]
  intro b13 hb13
  simp [r3_5]
  refine AC.give (args' := [.ps 1 (ints [0, 0, 2, 2]), .ps 1 (ints [0, 0, 2, 2])]) (h' := h1) (sub_upd hb13 _) rfl (FrzL.get (.cons ?_ (.cons ?_ .nil))) ?_
  · exact .refl _
  · exact Frz.sl1 (upd_eq _ _ _) hb13 rfl (by simp [ints])
  refine (ac21 (by simp)).mono ?_
  rintro v h2 ⟨rfl, rfl⟩
  simp [r3_6, r3_7]
  refine AC.give (args' := [.ps 3 (exL.map Nd.v), .ps 2 (prsV [])]) (h' := h2) (Sub.refl _) rfl (FrzL.get (.keep (.nils .nil))) ?_
  refine (ac22 exL_wf exL_kids (by simp [exL]) (by simp)).mono ?_
  rintro v h3 ⟨c, hc, rfl, rfl⟩
  obtain rfl := hc.unique ex_none
  simp [r3_8]
  intro b18 hb18
  simp [r3_9]
  refine AC.give (args' := [.ps 1 (ints [0, 1, 2, 3]), .ps 1 (ints [0, 1, 2, 3])]) (h' := h3) (sub_upd hb18 _) rfl (FrzL.get (.cons ?_ (.cons ?_ .nil))) ?_
  · exact .refl _
  · exact Frz.sl1 (upd_eq _ _ _) hb18 rfl (by simp [ints])
  refine (ac21 (by simp)).mono ?_
  rintro v h4 ⟨rfl, rfl⟩
  simp [r3_10]
  exact hR _ _ _ (Sub.refl _) ⟨rfl, rfl⟩

end Go.Abs

/- More about the congruence closure: more pairs, other pairs of the same closure, the result as pairs. -/
namespace Go.Abs

theorem Cl.of_pairs {l : List Nd} {ps qs : List (Int × Int)} (h : ∀ i j : Nat, ((i : Int), (j : Int)) ∈ ps → i < l.length → j < l.length → Cl l qs i j) {i j : Nat} (hc : Cl l ps i j) : Cl l qs i j := by
  induction hc with
  | refl h => exact .refl h
  | symm _ ih => exact ih.symm
  | trans _ _ a b => exact a.trans b
  | pair a b c => exact h _ _ a b c
  | cong a b c d e f g _ ih => exact .cong a b c d e f g ih

theorem Cl.mono {l : List Nd} {ps qs : List (Int × Int)} (h : ∀ p ∈ ps, p ∈ qs) {i j : Nat} (hc : Cl l ps i j) : Cl l qs i j :=
  hc.of_pairs fun _ _ hm hi hj => .pair (h _ hm) hi hj

theorem IsCl.congr {l : List Nd} {ps qs : List (Int × Int)} {c : List Nat} (h : IsCl l ps c) (he : ∀ i j, Cl l ps i j ↔ Cl l qs i j) : IsCl l qs c :=
  ⟨h.len, fun i hi => (he _ _).1 (h.cl i hi), fun i hi j hj => h.least i hi j ((he _ _).2 hj)⟩

theorem IsCl.le {l : List Nd} {ps : List (Int × Int)} {c : List Nat} (h : IsCl l ps c) {i : Nat} (hi : i < c.length) : c[i] ≤ i := h.least i hi i (.refl (by rw [← h.len]; exact hi))

theorem IsCl.idem {l : List Nd} {ps : List (Int × Int)} {c : List Nat} (h : IsCl l ps c) {i : Nat} (hi : i < c.length) : c[c[i]]'(Nat.lt_of_le_of_lt (h.le hi) hi) = c[i] := by
  have h1 := Nat.lt_of_le_of_lt (h.le hi) hi
  exact (h.eq_iff h1 hi).2 (h.cl i hi).symm

/-- The result as pairs. -/
def ownPairs (c : List Nat) : List (Int × Int) := (List.range c.length).map fun i => ((c.getD i 0 : Int), (i : Int))

theorem IsCl.own {l : List Nd} {ps : List (Int × Int)} {c : List Nat} (h : IsCl l ps c) : IsCl l (ownPairs c) c := by
  have hg : ∀ i (hi : i < c.length), c.getD i 0 = c[i] := fun i hi => by rw [List.getD_eq_getElem?_getD, List.getElem?_eq_getElem hi]; rfl
  refine h.congr fun i j => ⟨fun hc => ?_, fun hc => hc.of_pairs fun a b hm ha hb => ?_⟩
  · obtain ⟨h1, h2⟩ := hc.lt
    rw [← h.len] at h1 h2
    have own : ∀ i (hi : i < c.length), Cl l (ownPairs c) c[i] i := fun i hi => by
      refine .pair ?_ (by rw [← h.len]; exact Nat.lt_of_le_of_lt (h.le hi) hi) (by rw [← h.len]; exact hi)
      simp only [ownPairs, List.mem_map, List.mem_range]
      exact ⟨i, hi, by rw [hg i hi]⟩
    have e := (h.eq_iff h1 h2).2 hc
    exact (own i h1).symm.trans (by rw [e]; exact own j h2)
  · simp only [ownPairs, List.mem_map, List.mem_range] at hm
    obtain ⟨t, ht, e⟩ := hm
    injection e with e1 e2
    have : t = b := by omega
    subst this
    rw [hg t ht] at e1
    have : c[t] = a := by omega
    subst this
    exact (h.cl t ht).symm

/-- Reversed pairs, and reflexive ones between them. -/
theorem IsCl.back {l : List Nd} {ps qs : List (Int × Int)} {c : List Nat} (h : IsCl l ps c) (h1 : ∀ p ∈ ps, (p.2, p.1) ∈ qs) (h2 : ∀ q ∈ qs, q.1 = q.2 ∨ (q.2, q.1) ∈ ps) : IsCl l qs c := by
  refine h.congr fun i j => ⟨fun hc => hc.of_pairs fun a b hm ha hb => ?_, fun hc => hc.of_pairs fun a b hm ha hb => ?_⟩
  · exact (Cl.pair (h1 _ hm) hb ha).symm
  · rcases h2 _ hm with e | e
    · have : a = b := by simp at e; omega
      subst this; exact .refl ha
    · exact (Cl.pair e hb ha).symm
end Go.Abs

/- What the laws' arguments read as: lists of numbers, nodes, pairs. -/
namespace Go.Abs
open Go.ChangeShapes Go.WideShapes Go.Proofs

section
variable {H : Type} {enc : TypeId × Value → H} {P : Program} {W : World}

theorem rd0 {t : TypeId} {α : Type} {g : α → V} {ok : α → Prop} : RdF enc P W 0 t g ok := by
  intro cs d ps h _
  simp [DataW.trod] at h

def in64 (n : Int) : Prop := -9223372036854775808 ≤ n ∧ n ≤ 9223372036854775807
theorem okI_in64 {n : Int} (h : okI .i64 n) : in64 n := by
  simp only [okI, Lit.wf, Bool.and_eq_true, decide_eq_true_eq] at h
  exact ⟨h.1, h.2⟩

def okInts (l : List Int) : Prop := (∀ a ∈ l, in64 a) ∧ l.length * 8 ≤ 140737488351232
theorem okInts.len {l : List Int} (h : okInts l) : l.length ≤ 140737488355328 := by have := h.2; omega

theorem cells3 : Try.prog.cellsOf 3 = 1 := by kernel_rfl
theorem cells2 : Try.prog.cellsOf 2 = 1 := by kernel_rfl
theorem cells22 : Try.prog.cellsOf 22 = 1 := by kernel_rfl
theorem cells24 : Try.prog.cellsOf 24 = 3 := by kernel_rfl
theorem cells28 : Try.prog.cellsOf 28 = 2 := by kernel_rfl
theorem bytes3 : Try.prog.bytesOf 3 = 8 := by kernel_rfl
theorem bytes2 : Try.prog.bytesOf 2 = 8 := by kernel_rfl
theorem bytes24 : Try.prog.bytesOf 24 = 40 := by kernel_rfl
theorem bytes28 : Try.prog.bytesOf 28 = 16 := by kernel_rfl

theorem rdInts : ∀ fuel, RdF enc Try.prog W fuel 22 (fun l : List Int => .ps 1 (ints l)) okInts
  | 0 => rd0
  | n + 1 => (rd_slice Try.underlying22 cells3 bytes3 (by omega) (fun _ _ => rfl) (rd_int (t := 3) Try.underlying3)).map id (fun _ => rfl) fun _ h => ⟨fun a ha => okI_in64 (h.1 a ha), h.2⟩
theorem rdI64s : ∀ fuel, RdF enc Try.prog W fuel 41 (fun l : List Int => .ps 1 (ints l)) okInts
  | 0 => rd0
  | n + 1 => (rd_slice Try.underlying41 cells2 bytes2 (by omega) (fun _ _ => rfl) (rd_int (t := 2) Try.underlying2)).map id (fun _ => rfl) fun _ h => ⟨fun a ha => okI_in64 (h.1 a ha), h.2⟩

def okNd (x : Nd) : Prop := x.wf ∧ x.kids.length * 8 ≤ 140737488351232 ∧ ∀ a ∈ x.kids, in64 a
theorem rdNode : ∀ fuel, RdF enc Try.prog W fuel 24 Nd.v okNd
  | 0 => rd0
  | n + 1 => (rd_struct Try.underlying24 cells24 (rdfs_cons rfl cells3 (rd_int Try.underlying3) (rdfs_cons rfl cells2 (rd_int Try.underlying2) (rdfs_cons rfl cells22 (rdInts n) (rdfs_nil (by decide)))))).map
      (fun p => ⟨p.1, p.2.1, p.2.2.1⟩) (fun _ => rfl) fun _ h => ⟨⟨okI_in64 h.1, okI_in64 h.2.1⟩, h.2.2.1.2, h.2.2.1.1⟩

def okNds (l : List Nd) : Prop := (∀ x ∈ l, okNd x) ∧ l.length * 40 ≤ 140737488351232
theorem rdNodes : ∀ fuel, RdF enc Try.prog W fuel 25 (fun l : List Nd => .ps 3 (l.map Nd.v)) okNds
  | 0 => rd0
  | n + 1 => rd_slice Try.underlying25 cells24 bytes24 (by omega) (fun _ _ => rfl) (rdNode n)

def okPr (p : Int × Int) : Prop := in64 p.1 ∧ in64 p.2
theorem rdPair : ∀ fuel, RdF enc Try.prog W fuel 28 (fun p : Int × Int => .agg [.int .i64 p.1, .int .i64 p.2]) okPr
  | 0 => rd0
  | n + 1 => (rd_array2 Try.underlying28 cells3 cells28 (rd_int Try.underlying3)).map id (fun _ => rfl) fun _ h => ⟨okI_in64 h.1, okI_in64 h.2⟩

def okPrs (l : List (Int × Int)) : Prop := (∀ x ∈ l, okPr x) ∧ l.length * 16 ≤ 140737488351232
theorem rdPairs : ∀ fuel, RdF enc Try.prog W fuel 29 (fun l : List (Int × Int) => .ps 2 (prsV l)) okPrs
  | 0 => rd0
  | n + 1 => rd_slice Try.underlying29 cells28 bytes28 (by omega) (fun _ _ => rfl) (rdPair n)
end
end Go.Abs
