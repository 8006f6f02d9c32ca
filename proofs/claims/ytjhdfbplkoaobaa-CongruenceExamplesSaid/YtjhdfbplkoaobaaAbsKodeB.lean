/- The code of the congruence laws' helpers, as the abstract calculus sees it. -/
import Derived.Test.YtjhdfbplkoaobaaAbsEval
import Derived.Test.YtjhdfbplkoaobaaAbsTr
import Derived.Test.YtjhdfbplkoaobaaProg
import Derived.KernelRfl
set_option linter.unusedVariables false
set_option linter.unusedSimpArgs false
namespace Go.Abs

/-- The rest. -/
def s21_2 : ACode := (.region (.op ⟨(some 15), (.mov (.t 5)), none⟩
    (.op ⟨(some 16), (.bin .add .num (.t 15) (.c (.int .i64 1))), none⟩
    (.op ⟨(some 5), (.mov (.t 16)), none⟩ .nil))))

/-- The rest. -/
def s21_1 : ACode := (.seq (.block 1 (.seq (.region (.op ⟨(some 17), (.mov (.t 0)), none⟩
    (.op ⟨(some 18), (.mov (.t 5)), none⟩
    (.op ⟨(some 19), (.idx 1 (.t 17) (.t 18)), none⟩
    (.op ⟨(some 20), (.load none (.t 19)), none⟩
    (.op ⟨(some 21), (.mov (.t 1)), none⟩
    (.op ⟨(some 22), (.mov (.t 5)), none⟩
    (.op ⟨(some 23), (.idx 1 (.t 21) (.t 22)), none⟩
    (.op ⟨(some 24), (.load none (.t 23)), none⟩
    (.op ⟨(some 25), (.bin .neq .num (.t 20) (.t 24)), none⟩ .nil))))))))))
  (.cond (.t 25) (.seq (.region (.op ⟨(some 4), (.mov (.c (.bool false))), none⟩ .nil))
  .ret) .skip)))
  s21_2)

/-- A loop's body. -/
def b21_0 : ACode := (.seq (.seq (.region (.op ⟨(some 11), (.mov (.t 5)), none⟩
    (.op ⟨(some 12), (.mov (.t 0)), none⟩
    (.op ⟨(some 13), (.len (.t 12)), none⟩
    (.op ⟨(some 14), (.bin .lss .num (.t 11) (.t 13)), none⟩ .nil)))))
  (.cond (.t 14) .skip (.exit 0)))
  s21_1)

/-- A loop. -/
def l21_0 : ACode := .block 0 (.loop b21_0)

/-- The rest. -/
def s21_3 : ACode := (.seq (.region (.op ⟨(some 4), (.mov (.c (.bool true))), none⟩ .nil))
  .ret)

/-- The rest. -/
def s21_0 : ACode := (.seq (.seq (.region (.op ⟨(some 5), (.mov (.c (.int .i64 0))), none⟩ .nil))
  l21_0)
  s21_3)

/-- The code. -/
def c21 : AFun := ⟨(.seq (.region (.op ⟨(some 4), (.mov (.c (.bool false))), none⟩ .nil))
  (.seq (.seq (.region (.op ⟨(some 6), (.mov (.t 0)), none⟩
    (.op ⟨(some 7), (.len (.t 6)), none⟩
    (.op ⟨(some 8), (.mov (.t 1)), none⟩
    (.op ⟨(some 9), (.len (.t 8)), none⟩
    (.op ⟨(some 10), (.bin .neq .num (.t 7) (.t 9)), none⟩ .nil))))))
  (.cond (.t 10) (.seq (.region (.op ⟨(some 4), (.mov (.c (.bool false))), none⟩ .nil))
  .ret) .skip))
  s21_0)),
  [(.tmp 4)]⟩

theorem t21 : trFun Go.Proofs.Try.prog (fun _ => false) 21 = some ⟨erase c21.code, c21.res⟩ := by kernel_rfl

/-- The rest of a region. -/
def r3_2 : RTree := (.op ⟨(some 1), (.mov (.t 8)), none⟩ .nil)

/-- The rest of a region. -/
def r3_1 : RTree := (.op ⟨(some 7), (.build [(.int .i64 0), (.int .i64 0), .nils] [(0, (1, (.c (.int .i64 20)))), (2, (1, (.t 6)))]), none⟩
    (.op ⟨(some 8), (.buildS 24 3 4 [(.int .i64 0), (.int .i64 0), .nils] [(0, (.t 2)), (1, (.t 3)), (2, (.t 5)), (3, (.t 7))]), none⟩
    r3_2))

/-- The rest of a region. -/
def r3_0 : RTree := (.op ⟨(some 5), (.build [(.int .i64 0), (.int .i64 0), .nils] [(0, (1, (.c (.int .i64 20)))), (2, (1, (.t 4)))]), none⟩
    (.op ⟨(some 6), (.buildS 3 1 1 [(.int .i64 0)] [(0, (.c (.int .i64 1)))]), none⟩
    r3_1))

/-- The rest of a region. -/
def r3_10 : RTree := (.op ⟨(some 20), (.pick (.t 15) (.t 19) (.c (.bool false))), none⟩
    (.op ⟨(some 0), (.mov (.t 20)), none⟩ .nil))

/-- The rest of a region. -/
def r3_9 : RTree := (.op ⟨(some 19), (.call 21 [(.t 17), (.t 18)]), (some (15, true))⟩
    r3_10)

/-- The rest of a region. -/
def r3_8 : RTree := (.op ⟨(some 18), (.buildS 3 1 4 [(.int .i64 0)] [(0, (.c (.int .i64 0))), (1, (.c (.int .i64 1))), (2, (.c (.int .i64 2))), (3, (.c (.int .i64 3)))]), (some (15, true))⟩
    r3_9)

/-- The rest of a region. -/
def r3_7 : RTree := (.op ⟨(some 16), (.mov (.t 1)), (some (15, true))⟩
    (.op ⟨(some 17), (.call 22 [(.t 16), (.c .nils)]), (some (15, true))⟩
    r3_8))

/-- The rest of a region. -/
def r3_6 : RTree := (.op ⟨(some 15), (.mov (.t 14)), none⟩
    r3_7)

/-- The rest of a region. -/
def r3_5 : RTree := (.op ⟨(some 14), (.call 21 [(.t 12), (.t 13)]), none⟩
    r3_6)

/-- The rest of a region. -/
def r3_4 : RTree := (.op ⟨(some 13), (.buildS 3 1 4 [(.int .i64 0)] [(0, (.c (.int .i64 0))), (1, (.c (.int .i64 0))), (2, (.c (.int .i64 2))), (3, (.c (.int .i64 2)))]), none⟩
    r3_5)

/-- The rest of a region. -/
def r3_3 : RTree := (.op ⟨(some 12), (.call 22 [(.t 9), (.t 11)]), none⟩
    r3_4)

/-- The rest. -/
def s3_1 : ACode := (.seq (.region (.op ⟨(some 9), (.mov (.t 1)), none⟩
    (.op ⟨(some 10), (.build [(.int .i64 0), (.int .i64 0)] [(0, (1, (.c (.int .i64 0)))), (1, (1, (.c (.int .i64 1))))]), none⟩
    (.op ⟨(some 11), (.buildS 28 2 1 [(.int .i64 0), (.int .i64 0)] [(0, (.t 10))]), none⟩
    r3_3))))
  .ret)

/-- The rest. -/
def s3_0 : ACode := (.seq .ghost
  s3_1)

/-- The code. -/
def c3 : AFun := ⟨(.seq (.region (.op ⟨(some 0), (.mov (.c (.bool false))), none⟩ .nil))
  (.seq (.region (.op ⟨(some 2), (.build [(.int .i64 0), (.int .i64 0), .nils] [(0, (1, (.c (.int .i64 2))))]), none⟩
    (.op ⟨(some 3), (.build [(.int .i64 0), (.int .i64 0), .nils] [(0, (1, (.c (.int .i64 2)))), (1, (1, (.c (.int .i64 1))))]), none⟩
    (.op ⟨(some 4), (.buildS 3 1 1 [(.int .i64 0)] [(0, (.c (.int .i64 0)))]), none⟩
    r3_0))))
  s3_0)),
  [(.tmp 0)]⟩

theorem t3 : trFun Go.Proofs.Try.prog (fun _ => false) 3 = some ⟨erase c3.code, c3.res⟩ := by kernel_rfl

end Go.Abs
