/- From a contract of the abstract calculus to the call that a law's row speaks of. -/
import Derived.Test.YtjhdfbplkoaobaaAbsGive
set_option linter.unusedVariables false
set_option linter.unusedSimpArgs false
namespace Go.Abs
open Go.RowKit

theorem St.start (W : World) : St (fun _ => none) noHeap W where
  fresh := ⟨0, fun _ _ => rfl⟩
  lt := by intro b c K h; cases h
  cap := by intro b c K h; cases h
  inj := by intro b b' c K K' hb _ _ _; exact absurd rfl hb
  blk := by intro b x h; cases h

/-- Nobody owns anything. -/
theorem own_none (k : Nat) : ¬ Own (fun _ => none) noHeap k := by
  rintro ⟨b, K, h, _⟩; exact h rfl

theorem law_calls {P : Program} {f : FuncId} {args : List V} {cargs : Array Value} {W : World} (ha : AC P f args noHeap fun v _ => v = .bool true) (hl : LRel (fun _ => none) (Own (fun _ => none) noHeap) W args cargs) :
    Calls P f cargs W fun e w' => e = .returned (.bool true) ∧ Below W.heap.size W w' := by
  refine (ha _ W cargs (St.start W) hl).mono ?_
  rintro e w' ⟨v, cv, h', ρ', rfl, rfl, s1, s2, s3⟩
  cases s2
  exact ⟨rfl, s3.os, s3.tape, s3.output, s3.size, fun k hk => s3.keep k hk (own_none k)⟩

end Go.Abs
