/-
  No cell of these rows narrows 'for every input' (looked for: loops, veiled, ifaces, maps, wideKeys, modest, calm, conditions, laid).
  DERIVED. THE GIVEN ROWS OF THIS SEAT. 18 by the template 'for every input the law returns true; each argument reads behind the call as it read before'; 0 by the template 'total and deterministic' (their statements: YtjhdfbplkoaobaaTotals.lean).
  GIVEN WITH THE SEED: the statements are not yours to turn. If you find one false, say at which input.
  Laid BY PROGRAM, IN A SANDBOX (cutbox-rows.mjs): the forced cells as the released guide's own fill.sh prints them over the translation 4b357471d6a89aed… (all of the seat's roots in one cut). By AI agents, Wed Nov 11 2026. No macro, syntax, notation, axiom, sorry.
-/
import Derived.Test.YtjhdfbplkoaobaaChecked
import GoSem.Claim
import GoSem.ClaimJoined
import GoSem.ClaimMapViews
import Derived.JoinedTies
import Derived.KernelRfl
namespace Go.Proofs.Ytjhdfbplkoaobaa
/- THE CELL 'sum', in the pinned program and in every row, IS THE sha256 OF THE DUMP (.gsa) THAT YtjhdfbplkoaobaaProg.lean LOADS. Nothing in Lean hashes anything: it is a label: what it is worth is what the hold of that sum in a sandbox is worth. -/
noncomputable def Try.pinned : Pinned := { name := "ytjhdfbplkoaobaa", sum := "4b357471d6a89aedce8ba6588587b28a61e7b25baeeaf435613fb5839e9d3d4e", checked := Try.checked }
namespace Rows
def none {H : Type} : Left H := { results := [], args := [] }

/-- 'fullinglaw11.CongruenceExamples': WHATEVER THE INPUT: true; the input reads as it did. -/
def congruenceExamplesSpec : ChangeSpec := { name := "congruenceExamples", fn := fun _ => fun
  | [] => { results := [.lit (.bool true)], args := [] }
  | _ => none }
def congruenceExamplesRow : OpenClaim := { program := "ytjhdfbplkoaobaa", sum := "4b357471d6a89aedce8ba6588587b28a61e7b25baeeaf435613fb5839e9d3d4e", func := "fulling/fullinglaw11.CongruenceExamples", spec := "congruenceExamples", plainKeys := false, apart := false }
def CongruenceExamplesSaid : Prop := congruenceExamplesRow.holds Try.pinned (OpenSpec.ofChange congruenceExamplesSpec)

/-- ITS FALSE NEIGHBOUR: 'it returns false'. Refute it at one input. -/
def congruenceExamplesWrong : ChangeSpec := { name := "congruenceExamples", fn := fun _ => fun
  | [] => { results := [.lit (.bool false)], args := [] }
  | _ => none }
def CongruenceExamplesWrongFalsely : Prop := congruenceExamplesRow.holds Try.pinned (OpenSpec.ofChange congruenceExamplesWrong)

/-- 'fullinglaw11.CongruenceReference': WHATEVER THE INPUT: true; the input reads as it did. -/
def congruenceReferenceSpec : ChangeSpec := { name := "congruenceReference", fn := fun _ => fun
  | [d1, d2, d3, d4, d5, d6] => { results := [.lit (.bool true)], args := [d1, d2, d3, d4, d5, d6] }
  | _ => none }
def congruenceReferenceRow : OpenClaim := { program := "ytjhdfbplkoaobaa", sum := "4b357471d6a89aedce8ba6588587b28a61e7b25baeeaf435613fb5839e9d3d4e", func := "fulling/fullinglaw11.CongruenceReference", spec := "congruenceReference", plainKeys := false, apart := false }
def CongruenceReferenceSaid : Prop := congruenceReferenceRow.holds Try.pinned (OpenSpec.ofChange congruenceReferenceSpec)

/-- ITS FALSE NEIGHBOUR: 'it returns false'. Refute it at one input. -/
def congruenceReferenceWrong : ChangeSpec := { name := "congruenceReference", fn := fun _ => fun
  | [d1, d2, d3, d4, d5, d6] => { results := [.lit (.bool false)], args := [d1, d2, d3, d4, d5, d6] }
  | _ => none }
def CongruenceReferenceWrongFalsely : Prop := congruenceReferenceRow.holds Try.pinned (OpenSpec.ofChange congruenceReferenceWrong)

/-- 'fullinglaw11.CongruenceClosure': WHATEVER THE INPUT: true; the input reads as it did. -/
def congruenceClosureSpec : ChangeSpec := { name := "congruenceClosure", fn := fun _ => fun
  | [d1, d2] => { results := [.lit (.bool true)], args := [d1, d2] }
  | _ => none }
def congruenceClosureRow : OpenClaim := { program := "ytjhdfbplkoaobaa", sum := "4b357471d6a89aedce8ba6588587b28a61e7b25baeeaf435613fb5839e9d3d4e", func := "fulling/fullinglaw11.CongruenceClosure", spec := "congruenceClosure", plainKeys := false, apart := false }
def CongruenceClosureSaid : Prop := congruenceClosureRow.holds Try.pinned (OpenSpec.ofChange congruenceClosureSpec)

/-- ITS FALSE NEIGHBOUR: 'it returns false'. Refute it at one input. -/
def congruenceClosureWrong : ChangeSpec := { name := "congruenceClosure", fn := fun _ => fun
  | [d1, d2] => { results := [.lit (.bool false)], args := [d1, d2] }
  | _ => none }
def CongruenceClosureWrongFalsely : Prop := congruenceClosureRow.holds Try.pinned (OpenSpec.ofChange congruenceClosureWrong)

/-- 'fullinglaw11.CongruenceMonotonic': WHATEVER THE INPUT: true; the input reads as it did. -/
def congruenceMonotonicSpec : ChangeSpec := { name := "congruenceMonotonic", fn := fun _ => fun
  | [d1, d2, d3] => { results := [.lit (.bool true)], args := [d1, d2, d3] }
  | _ => none }
def congruenceMonotonicRow : OpenClaim := { program := "ytjhdfbplkoaobaa", sum := "4b357471d6a89aedce8ba6588587b28a61e7b25baeeaf435613fb5839e9d3d4e", func := "fulling/fullinglaw11.CongruenceMonotonic", spec := "congruenceMonotonic", plainKeys := false, apart := false }
def CongruenceMonotonicSaid : Prop := congruenceMonotonicRow.holds Try.pinned (OpenSpec.ofChange congruenceMonotonicSpec)

/-- ITS FALSE NEIGHBOUR: 'it returns false'. Refute it at one input. -/
def congruenceMonotonicWrong : ChangeSpec := { name := "congruenceMonotonic", fn := fun _ => fun
  | [d1, d2, d3] => { results := [.lit (.bool false)], args := [d1, d2, d3] }
  | _ => none }
def CongruenceMonotonicWrongFalsely : Prop := congruenceMonotonicRow.holds Try.pinned (OpenSpec.ofChange congruenceMonotonicWrong)

/-- 'fullinglaw11.CongruenceSound': WHATEVER THE INPUT: true; the input reads as it did. -/
def congruenceSoundSpec : ChangeSpec := { name := "congruenceSound", fn := fun _ => fun
  | [d1, d2, d3] => { results := [.lit (.bool true)], args := [d1, d2, d3] }
  | _ => none }
def congruenceSoundRow : OpenClaim := { program := "ytjhdfbplkoaobaa", sum := "4b357471d6a89aedce8ba6588587b28a61e7b25baeeaf435613fb5839e9d3d4e", func := "fulling/fullinglaw11.CongruenceSound", spec := "congruenceSound", plainKeys := false, apart := false }
def CongruenceSoundSaid : Prop := congruenceSoundRow.holds Try.pinned (OpenSpec.ofChange congruenceSoundSpec)

/-- ITS FALSE NEIGHBOUR: 'it returns false'. Refute it at one input. -/
def congruenceSoundWrong : ChangeSpec := { name := "congruenceSound", fn := fun _ => fun
  | [d1, d2, d3] => { results := [.lit (.bool false)], args := [d1, d2, d3] }
  | _ => none }
def CongruenceSoundWrongFalsely : Prop := congruenceSoundRow.holds Try.pinned (OpenSpec.ofChange congruenceSoundWrong)

/-- 'fullinglaw12.EgraphExamples': WHATEVER THE INPUT: true; the input reads as it did. -/
def egraphExamplesSpec : ChangeSpec := { name := "egraphExamples", fn := fun _ => fun
  | [] => { results := [.lit (.bool true)], args := [] }
  | _ => none }
def egraphExamplesRow : OpenClaim := { program := "ytjhdfbplkoaobaa", sum := "4b357471d6a89aedce8ba6588587b28a61e7b25baeeaf435613fb5839e9d3d4e", func := "fulling/fullinglaw12.EgraphExamples", spec := "egraphExamples", plainKeys := false, apart := false }
def EgraphExamplesSaid : Prop := egraphExamplesRow.holds Try.pinned (OpenSpec.ofChange egraphExamplesSpec)

/-- ITS FALSE NEIGHBOUR: 'it returns false'. Refute it at one input. -/
def egraphExamplesWrong : ChangeSpec := { name := "egraphExamples", fn := fun _ => fun
  | [] => { results := [.lit (.bool false)], args := [] }
  | _ => none }
def EgraphExamplesWrongFalsely : Prop := egraphExamplesRow.holds Try.pinned (OpenSpec.ofChange egraphExamplesWrong)

/-- 'fullinglaw12.EgraphOrder': WHATEVER THE INPUT: true; the input reads as it did. -/
def egraphOrderSpec : ChangeSpec := { name := "egraphOrder", fn := fun _ => fun
  | [d1, d2] => { results := [.lit (.bool true)], args := [d1, d2] }
  | _ => none }
def egraphOrderRow : OpenClaim := { program := "ytjhdfbplkoaobaa", sum := "4b357471d6a89aedce8ba6588587b28a61e7b25baeeaf435613fb5839e9d3d4e", func := "fulling/fullinglaw12.EgraphOrder", spec := "egraphOrder", plainKeys := false, apart := false }
def EgraphOrderSaid : Prop := egraphOrderRow.holds Try.pinned (OpenSpec.ofChange egraphOrderSpec)

/-- ITS FALSE NEIGHBOUR: 'it returns false'. Refute it at one input. -/
def egraphOrderWrong : ChangeSpec := { name := "egraphOrder", fn := fun _ => fun
  | [d1, d2] => { results := [.lit (.bool false)], args := [d1, d2] }
  | _ => none }
def EgraphOrderWrongFalsely : Prop := egraphOrderRow.holds Try.pinned (OpenSpec.ofChange egraphOrderWrong)

/-- 'fullinglaw12.EgraphDistinct': WHATEVER THE INPUT: true; the input reads as it did. -/
def egraphDistinctSpec : ChangeSpec := { name := "egraphDistinct", fn := fun _ => fun
  | [d1, d2] => { results := [.lit (.bool true)], args := [d1, d2] }
  | _ => none }
def egraphDistinctRow : OpenClaim := { program := "ytjhdfbplkoaobaa", sum := "4b357471d6a89aedce8ba6588587b28a61e7b25baeeaf435613fb5839e9d3d4e", func := "fulling/fullinglaw12.EgraphDistinct", spec := "egraphDistinct", plainKeys := false, apart := false }
def EgraphDistinctSaid : Prop := egraphDistinctRow.holds Try.pinned (OpenSpec.ofChange egraphDistinctSpec)

/-- ITS FALSE NEIGHBOUR: 'it returns false'. Refute it at one input. -/
def egraphDistinctWrong : ChangeSpec := { name := "egraphDistinct", fn := fun _ => fun
  | [d1, d2] => { results := [.lit (.bool false)], args := [d1, d2] }
  | _ => none }
def EgraphDistinctWrongFalsely : Prop := egraphDistinctRow.holds Try.pinned (OpenSpec.ofChange egraphDistinctWrong)

/-- 'fullinglaw12.EgraphNoChange': WHATEVER THE INPUT: true; the input reads as it did. -/
def egraphNoChangeSpec : ChangeSpec := { name := "egraphNoChange", fn := fun _ => fun
  | [d1, d2, d3, d4] => { results := [.lit (.bool true)], args := [d1, d2, d3, d4] }
  | _ => none }
def egraphNoChangeRow : OpenClaim := { program := "ytjhdfbplkoaobaa", sum := "4b357471d6a89aedce8ba6588587b28a61e7b25baeeaf435613fb5839e9d3d4e", func := "fulling/fullinglaw12.EgraphNoChange", spec := "egraphNoChange", plainKeys := false, apart := false }
def EgraphNoChangeSaid : Prop := egraphNoChangeRow.holds Try.pinned (OpenSpec.ofChange egraphNoChangeSpec)

/-- ITS FALSE NEIGHBOUR: 'it returns false'. Refute it at one input. -/
def egraphNoChangeWrong : ChangeSpec := { name := "egraphNoChange", fn := fun _ => fun
  | [d1, d2, d3, d4] => { results := [.lit (.bool false)], args := [d1, d2, d3, d4] }
  | _ => none }
def EgraphNoChangeWrongFalsely : Prop := egraphNoChangeRow.holds Try.pinned (OpenSpec.ofChange egraphNoChangeWrong)

/-- 'fullinglaw12.EgraphReference': WHATEVER THE INPUT: true; the input reads as it did. -/
def egraphReferenceSpec : ChangeSpec := { name := "egraphReference", fn := fun _ => fun
  | [d1, d2, d3, d4] => { results := [.lit (.bool true)], args := [d1, d2, d3, d4] }
  | _ => none }
def egraphReferenceRow : OpenClaim := { program := "ytjhdfbplkoaobaa", sum := "4b357471d6a89aedce8ba6588587b28a61e7b25baeeaf435613fb5839e9d3d4e", func := "fulling/fullinglaw12.EgraphReference", spec := "egraphReference", plainKeys := false, apart := false }
def EgraphReferenceSaid : Prop := egraphReferenceRow.holds Try.pinned (OpenSpec.ofChange egraphReferenceSpec)

/-- ITS FALSE NEIGHBOUR: 'it returns false'. Refute it at one input. -/
def egraphReferenceWrong : ChangeSpec := { name := "egraphReference", fn := fun _ => fun
  | [d1, d2, d3, d4] => { results := [.lit (.bool false)], args := [d1, d2, d3, d4] }
  | _ => none }
def EgraphReferenceWrongFalsely : Prop := egraphReferenceRow.holds Try.pinned (OpenSpec.ofChange egraphReferenceWrong)

/-- 'fullinglaw12.EgraphRebuildCloses': WHATEVER THE INPUT: true; the input reads as it did. -/
def egraphRebuildClosesSpec : ChangeSpec := { name := "egraphRebuildCloses", fn := fun _ => fun
  | [d1, d2] => { results := [.lit (.bool true)], args := [d1, d2] }
  | _ => none }
def egraphRebuildClosesRow : OpenClaim := { program := "ytjhdfbplkoaobaa", sum := "4b357471d6a89aedce8ba6588587b28a61e7b25baeeaf435613fb5839e9d3d4e", func := "fulling/fullinglaw12.EgraphRebuildCloses", spec := "egraphRebuildCloses", plainKeys := false, apart := false }
def EgraphRebuildClosesSaid : Prop := egraphRebuildClosesRow.holds Try.pinned (OpenSpec.ofChange egraphRebuildClosesSpec)

/-- ITS FALSE NEIGHBOUR: 'it returns false'. Refute it at one input. -/
def egraphRebuildClosesWrong : ChangeSpec := { name := "egraphRebuildCloses", fn := fun _ => fun
  | [d1, d2] => { results := [.lit (.bool false)], args := [d1, d2] }
  | _ => none }
def EgraphRebuildClosesWrongFalsely : Prop := egraphRebuildClosesRow.holds Try.pinned (OpenSpec.ofChange egraphRebuildClosesWrong)

/-- 'fullinglaw12.EgraphAddCongruent': WHATEVER THE INPUT: true; the input reads as it did. -/
def egraphAddCongruentSpec : ChangeSpec := { name := "egraphAddCongruent", fn := fun _ => fun
  | [d1, d2] => { results := [.lit (.bool true)], args := [d1, d2] }
  | _ => none }
def egraphAddCongruentRow : OpenClaim := { program := "ytjhdfbplkoaobaa", sum := "4b357471d6a89aedce8ba6588587b28a61e7b25baeeaf435613fb5839e9d3d4e", func := "fulling/fullinglaw12.EgraphAddCongruent", spec := "egraphAddCongruent", plainKeys := false, apart := false }
def EgraphAddCongruentSaid : Prop := egraphAddCongruentRow.holds Try.pinned (OpenSpec.ofChange egraphAddCongruentSpec)

/-- ITS FALSE NEIGHBOUR: 'it returns false'. Refute it at one input. -/
def egraphAddCongruentWrong : ChangeSpec := { name := "egraphAddCongruent", fn := fun _ => fun
  | [d1, d2] => { results := [.lit (.bool false)], args := [d1, d2] }
  | _ => none }
def EgraphAddCongruentWrongFalsely : Prop := egraphAddCongruentRow.holds Try.pinned (OpenSpec.ofChange egraphAddCongruentWrong)

/-- 'fullinglaw10.TermExamples': WHATEVER THE INPUT: true; the input reads as it did. -/
def termExamplesSpec : ChangeSpec := { name := "termExamples", fn := fun _ => fun
  | [] => { results := [.lit (.bool true)], args := [] }
  | _ => none }
def termExamplesRow : OpenClaim := { program := "ytjhdfbplkoaobaa", sum := "4b357471d6a89aedce8ba6588587b28a61e7b25baeeaf435613fb5839e9d3d4e", func := "fulling/fullinglaw10.TermExamples", spec := "termExamples", recurses := true, plainKeys := false, apart := false }
def TermExamplesSaid : Prop := termExamplesRow.holds Try.pinned (OpenSpec.ofChange termExamplesSpec)

/-- ITS FALSE NEIGHBOUR: 'it returns false'. Refute it at one input. -/
def termExamplesWrong : ChangeSpec := { name := "termExamples", fn := fun _ => fun
  | [] => { results := [.lit (.bool false)], args := [] }
  | _ => none }
def TermExamplesWrongFalsely : Prop := termExamplesRow.holds Try.pinned (OpenSpec.ofChange termExamplesWrong)

/-- 'fullinglaw10.TermRoundTrip': WHATEVER THE INPUT: true; the input reads as it did. -/
def termRoundTripSpec : ChangeSpec := { name := "termRoundTrip", fn := fun _ => fun
  | [d1, d2] => { results := [.lit (.bool true)], args := [d1, d2] }
  | _ => none }
def termRoundTripRow : OpenClaim := { program := "ytjhdfbplkoaobaa", sum := "4b357471d6a89aedce8ba6588587b28a61e7b25baeeaf435613fb5839e9d3d4e", func := "fulling/fullinglaw10.TermRoundTrip", spec := "termRoundTrip", recurses := true, plainKeys := false, apart := false }
def TermRoundTripSaid : Prop := termRoundTripRow.holds Try.pinned (OpenSpec.ofChange termRoundTripSpec)

/-- ITS FALSE NEIGHBOUR: 'it returns false'. Refute it at one input. -/
def termRoundTripWrong : ChangeSpec := { name := "termRoundTrip", fn := fun _ => fun
  | [d1, d2] => { results := [.lit (.bool false)], args := [d1, d2] }
  | _ => none }
def TermRoundTripWrongFalsely : Prop := termRoundTripRow.holds Try.pinned (OpenSpec.ofChange termRoundTripWrong)

/-- 'fullinglaw10.TermNames': WHATEVER THE INPUT: true; the input reads as it did. -/
def termNamesSpec : ChangeSpec := { name := "termNames", fn := fun _ => fun
  | [d1, d2] => { results := [.lit (.bool true)], args := [d1, d2] }
  | _ => none }
def termNamesRow : OpenClaim := { program := "ytjhdfbplkoaobaa", sum := "4b357471d6a89aedce8ba6588587b28a61e7b25baeeaf435613fb5839e9d3d4e", func := "fulling/fullinglaw10.TermNames", spec := "termNames", recurses := true, plainKeys := false, apart := false }
def TermNamesSaid : Prop := termNamesRow.holds Try.pinned (OpenSpec.ofChange termNamesSpec)

/-- ITS FALSE NEIGHBOUR: 'it returns false'. Refute it at one input. -/
def termNamesWrong : ChangeSpec := { name := "termNames", fn := fun _ => fun
  | [d1, d2] => { results := [.lit (.bool false)], args := [d1, d2] }
  | _ => none }
def TermNamesWrongFalsely : Prop := termNamesRow.holds Try.pinned (OpenSpec.ofChange termNamesWrong)

/-- 'fullinglaw10.TermDistinctNodes': WHATEVER THE INPUT: true; the input reads as it did. -/
def termDistinctNodesSpec : ChangeSpec := { name := "termDistinctNodes", fn := fun _ => fun
  | [d] => { results := [.lit (.bool true)], args := [d] }
  | _ => none }
def termDistinctNodesRow : OpenClaim := { program := "ytjhdfbplkoaobaa", sum := "4b357471d6a89aedce8ba6588587b28a61e7b25baeeaf435613fb5839e9d3d4e", func := "fulling/fullinglaw10.TermDistinctNodes", spec := "termDistinctNodes", recurses := true, plainKeys := false, apart := false }
def TermDistinctNodesSaid : Prop := termDistinctNodesRow.holds Try.pinned (OpenSpec.ofChange termDistinctNodesSpec)

/-- ITS FALSE NEIGHBOUR: 'it returns false'. Refute it at one input. -/
def termDistinctNodesWrong : ChangeSpec := { name := "termDistinctNodes", fn := fun _ => fun
  | [d] => { results := [.lit (.bool false)], args := [d] }
  | _ => none }
def TermDistinctNodesWrongFalsely : Prop := termDistinctNodesRow.holds Try.pinned (OpenSpec.ofChange termDistinctNodesWrong)

/-- 'fullinglaw10.TermLoops': WHATEVER THE INPUT: true; the input reads as it did. -/
def termLoopsSpec : ChangeSpec := { name := "termLoops", fn := fun _ => fun
  | [d1, d2, d3] => { results := [.lit (.bool true)], args := [d1, d2, d3] }
  | _ => none }
def termLoopsRow : OpenClaim := { program := "ytjhdfbplkoaobaa", sum := "4b357471d6a89aedce8ba6588587b28a61e7b25baeeaf435613fb5839e9d3d4e", func := "fulling/fullinglaw10.TermLoops", spec := "termLoops", recurses := true, plainKeys := false, apart := false }
def TermLoopsSaid : Prop := termLoopsRow.holds Try.pinned (OpenSpec.ofChange termLoopsSpec)

/-- ITS FALSE NEIGHBOUR: 'it returns false'. Refute it at one input. -/
def termLoopsWrong : ChangeSpec := { name := "termLoops", fn := fun _ => fun
  | [d1, d2, d3] => { results := [.lit (.bool false)], args := [d1, d2, d3] }
  | _ => none }
def TermLoopsWrongFalsely : Prop := termLoopsRow.holds Try.pinned (OpenSpec.ofChange termLoopsWrong)

/-- 'fullinglaw16.MatchExamples': WHATEVER THE INPUT: true; the input reads as it did. -/
def matchExamplesSpec : ChangeSpec := { name := "matchExamples", fn := fun _ => fun
  | [] => { results := [.lit (.bool true)], args := [] }
  | _ => none }
def matchExamplesRow : OpenClaim := { program := "ytjhdfbplkoaobaa", sum := "4b357471d6a89aedce8ba6588587b28a61e7b25baeeaf435613fb5839e9d3d4e", func := "fulling/fullinglaw16.MatchExamples", spec := "matchExamples", inPlace := ["internal/reflectlite.ValueOf", "internal/reflectlite.Swapper", "(internal/reflectlite.Value).Len"], unfollowed := true, recurses := true, plainKeys := false, apart := false }
def MatchExamplesSaid : Prop := matchExamplesRow.holds Try.pinned (OpenSpec.ofChange matchExamplesSpec)

/-- ITS FALSE NEIGHBOUR: 'it returns false'. Refute it at one input. -/
def matchExamplesWrong : ChangeSpec := { name := "matchExamples", fn := fun _ => fun
  | [] => { results := [.lit (.bool false)], args := [] }
  | _ => none }
def MatchExamplesWrongFalsely : Prop := matchExamplesRow.holds Try.pinned (OpenSpec.ofChange matchExamplesWrong)

/- THE SECOND FORM. 'bulk': how many values and letters a reading holds, each counted each time it is reached (what is shared counts as often as it is met; a slice's spare places count too). A statement '..UptoSaid' is the law's where the arguments, and the package variables that the reading takes, are together of bulk at most 1048576: NARROWER than '..Said'. Prove '..Said' where nothing that the law and all that it calls make is longer than what came in: it says more and counts as full. Else prove '..UptoSaid'. A law counts once. -/
mutual
def uptoBulk {H : Type} : DataW H → Nat
  | .lit (.string bytes) => bytes.length + 1
  | .lit _ => 1
  | .nil => 1
  | .ptr d => uptoBulk d + 1
  | .slice elems spare => uptoBulkAll elems + uptoBulkAll spare + 1
  | .agg parts => uptoBulkAll parts + 1
  | .iface _ d => uptoBulk d + 1
  | .map entries => uptoBulkEntries entries + 1
  | .held _ => 1
def uptoBulkAll {H : Type} : List (DataW H) → Nat
  | [] => 0
  | d :: r => uptoBulk d + uptoBulkAll r
def uptoBulkEntries {H : Type} : List (Lit × DataW H) → Nat
  | [] => 0
  | x :: r => uptoBulkEntry x + uptoBulkEntries r
def uptoBulkEntry {H : Type} : Lit × DataW H → Nat
  | (.string bytes, d) => bytes.length + uptoBulk d + 1
  | (_, d) => uptoBulk d + 1
 end
def uptoSmall : (H : Type) → List (DataW H) → Bool := fun _ ds => decide (uptoBulkAll ds ≤ 1048576)
def OpenSpec.upto (s : _root_.Go.ChangeSpec) : _root_.Go.OpenSpec := { _root_.Go.OpenSpec.ofChange s with cond := some uptoSmall }

/-- 'fullinglaw11.CongruenceExamples', WHERE WHAT IT READS IS OF BULK AT MOST 1048576: true; the input reads as it did. -/
def congruenceExamplesUptoRow : OpenClaim := { program := "ytjhdfbplkoaobaa", sum := "4b357471d6a89aedce8ba6588587b28a61e7b25baeeaf435613fb5839e9d3d4e", func := "fulling/fullinglaw11.CongruenceExamples", spec := "congruenceExamples", plainKeys := false, apart := false, narrowed := true }
def CongruenceExamplesUptoSaid : Prop := congruenceExamplesUptoRow.holds Try.pinned (OpenSpec.upto congruenceExamplesSpec)

/-- 'fullinglaw11.CongruenceReference', WHERE WHAT IT READS IS OF BULK AT MOST 1048576: true; the input reads as it did. -/
def congruenceReferenceUptoRow : OpenClaim := { program := "ytjhdfbplkoaobaa", sum := "4b357471d6a89aedce8ba6588587b28a61e7b25baeeaf435613fb5839e9d3d4e", func := "fulling/fullinglaw11.CongruenceReference", spec := "congruenceReference", plainKeys := false, apart := false, narrowed := true }
def CongruenceReferenceUptoSaid : Prop := congruenceReferenceUptoRow.holds Try.pinned (OpenSpec.upto congruenceReferenceSpec)

/-- 'fullinglaw11.CongruenceClosure', WHERE WHAT IT READS IS OF BULK AT MOST 1048576: true; the input reads as it did. -/
def congruenceClosureUptoRow : OpenClaim := { program := "ytjhdfbplkoaobaa", sum := "4b357471d6a89aedce8ba6588587b28a61e7b25baeeaf435613fb5839e9d3d4e", func := "fulling/fullinglaw11.CongruenceClosure", spec := "congruenceClosure", plainKeys := false, apart := false, narrowed := true }
def CongruenceClosureUptoSaid : Prop := congruenceClosureUptoRow.holds Try.pinned (OpenSpec.upto congruenceClosureSpec)

/-- 'fullinglaw11.CongruenceMonotonic', WHERE WHAT IT READS IS OF BULK AT MOST 1048576: true; the input reads as it did. -/
def congruenceMonotonicUptoRow : OpenClaim := { program := "ytjhdfbplkoaobaa", sum := "4b357471d6a89aedce8ba6588587b28a61e7b25baeeaf435613fb5839e9d3d4e", func := "fulling/fullinglaw11.CongruenceMonotonic", spec := "congruenceMonotonic", plainKeys := false, apart := false, narrowed := true }
def CongruenceMonotonicUptoSaid : Prop := congruenceMonotonicUptoRow.holds Try.pinned (OpenSpec.upto congruenceMonotonicSpec)

/-- 'fullinglaw11.CongruenceSound', WHERE WHAT IT READS IS OF BULK AT MOST 1048576: true; the input reads as it did. -/
def congruenceSoundUptoRow : OpenClaim := { program := "ytjhdfbplkoaobaa", sum := "4b357471d6a89aedce8ba6588587b28a61e7b25baeeaf435613fb5839e9d3d4e", func := "fulling/fullinglaw11.CongruenceSound", spec := "congruenceSound", plainKeys := false, apart := false, narrowed := true }
def CongruenceSoundUptoSaid : Prop := congruenceSoundUptoRow.holds Try.pinned (OpenSpec.upto congruenceSoundSpec)

/-- 'fullinglaw12.EgraphExamples', WHERE WHAT IT READS IS OF BULK AT MOST 1048576: true; the input reads as it did. -/
def egraphExamplesUptoRow : OpenClaim := { program := "ytjhdfbplkoaobaa", sum := "4b357471d6a89aedce8ba6588587b28a61e7b25baeeaf435613fb5839e9d3d4e", func := "fulling/fullinglaw12.EgraphExamples", spec := "egraphExamples", plainKeys := false, apart := false, narrowed := true }
def EgraphExamplesUptoSaid : Prop := egraphExamplesUptoRow.holds Try.pinned (OpenSpec.upto egraphExamplesSpec)

/-- 'fullinglaw12.EgraphOrder', WHERE WHAT IT READS IS OF BULK AT MOST 1048576: true; the input reads as it did. -/
def egraphOrderUptoRow : OpenClaim := { program := "ytjhdfbplkoaobaa", sum := "4b357471d6a89aedce8ba6588587b28a61e7b25baeeaf435613fb5839e9d3d4e", func := "fulling/fullinglaw12.EgraphOrder", spec := "egraphOrder", plainKeys := false, apart := false, narrowed := true }
def EgraphOrderUptoSaid : Prop := egraphOrderUptoRow.holds Try.pinned (OpenSpec.upto egraphOrderSpec)

/-- 'fullinglaw12.EgraphDistinct', WHERE WHAT IT READS IS OF BULK AT MOST 1048576: true; the input reads as it did. -/
def egraphDistinctUptoRow : OpenClaim := { program := "ytjhdfbplkoaobaa", sum := "4b357471d6a89aedce8ba6588587b28a61e7b25baeeaf435613fb5839e9d3d4e", func := "fulling/fullinglaw12.EgraphDistinct", spec := "egraphDistinct", plainKeys := false, apart := false, narrowed := true }
def EgraphDistinctUptoSaid : Prop := egraphDistinctUptoRow.holds Try.pinned (OpenSpec.upto egraphDistinctSpec)

/-- 'fullinglaw12.EgraphNoChange', WHERE WHAT IT READS IS OF BULK AT MOST 1048576: true; the input reads as it did. -/
def egraphNoChangeUptoRow : OpenClaim := { program := "ytjhdfbplkoaobaa", sum := "4b357471d6a89aedce8ba6588587b28a61e7b25baeeaf435613fb5839e9d3d4e", func := "fulling/fullinglaw12.EgraphNoChange", spec := "egraphNoChange", plainKeys := false, apart := false, narrowed := true }
def EgraphNoChangeUptoSaid : Prop := egraphNoChangeUptoRow.holds Try.pinned (OpenSpec.upto egraphNoChangeSpec)

/-- 'fullinglaw12.EgraphReference', WHERE WHAT IT READS IS OF BULK AT MOST 1048576: true; the input reads as it did. -/
def egraphReferenceUptoRow : OpenClaim := { program := "ytjhdfbplkoaobaa", sum := "4b357471d6a89aedce8ba6588587b28a61e7b25baeeaf435613fb5839e9d3d4e", func := "fulling/fullinglaw12.EgraphReference", spec := "egraphReference", plainKeys := false, apart := false, narrowed := true }
def EgraphReferenceUptoSaid : Prop := egraphReferenceUptoRow.holds Try.pinned (OpenSpec.upto egraphReferenceSpec)

/-- 'fullinglaw12.EgraphRebuildCloses', WHERE WHAT IT READS IS OF BULK AT MOST 1048576: true; the input reads as it did. -/
def egraphRebuildClosesUptoRow : OpenClaim := { program := "ytjhdfbplkoaobaa", sum := "4b357471d6a89aedce8ba6588587b28a61e7b25baeeaf435613fb5839e9d3d4e", func := "fulling/fullinglaw12.EgraphRebuildCloses", spec := "egraphRebuildCloses", plainKeys := false, apart := false, narrowed := true }
def EgraphRebuildClosesUptoSaid : Prop := egraphRebuildClosesUptoRow.holds Try.pinned (OpenSpec.upto egraphRebuildClosesSpec)

/-- 'fullinglaw12.EgraphAddCongruent', WHERE WHAT IT READS IS OF BULK AT MOST 1048576: true; the input reads as it did. -/
def egraphAddCongruentUptoRow : OpenClaim := { program := "ytjhdfbplkoaobaa", sum := "4b357471d6a89aedce8ba6588587b28a61e7b25baeeaf435613fb5839e9d3d4e", func := "fulling/fullinglaw12.EgraphAddCongruent", spec := "egraphAddCongruent", plainKeys := false, apart := false, narrowed := true }
def EgraphAddCongruentUptoSaid : Prop := egraphAddCongruentUptoRow.holds Try.pinned (OpenSpec.upto egraphAddCongruentSpec)

/-- 'fullinglaw10.TermExamples', WHERE WHAT IT READS IS OF BULK AT MOST 1048576: true; the input reads as it did. -/
def termExamplesUptoRow : OpenClaim := { program := "ytjhdfbplkoaobaa", sum := "4b357471d6a89aedce8ba6588587b28a61e7b25baeeaf435613fb5839e9d3d4e", func := "fulling/fullinglaw10.TermExamples", spec := "termExamples", recurses := true, plainKeys := false, apart := false, narrowed := true }
def TermExamplesUptoSaid : Prop := termExamplesUptoRow.holds Try.pinned (OpenSpec.upto termExamplesSpec)

/-- 'fullinglaw10.TermRoundTrip', WHERE WHAT IT READS IS OF BULK AT MOST 1048576: true; the input reads as it did. -/
def termRoundTripUptoRow : OpenClaim := { program := "ytjhdfbplkoaobaa", sum := "4b357471d6a89aedce8ba6588587b28a61e7b25baeeaf435613fb5839e9d3d4e", func := "fulling/fullinglaw10.TermRoundTrip", spec := "termRoundTrip", recurses := true, plainKeys := false, apart := false, narrowed := true }
def TermRoundTripUptoSaid : Prop := termRoundTripUptoRow.holds Try.pinned (OpenSpec.upto termRoundTripSpec)

/-- 'fullinglaw10.TermNames', WHERE WHAT IT READS IS OF BULK AT MOST 1048576: true; the input reads as it did. -/
def termNamesUptoRow : OpenClaim := { program := "ytjhdfbplkoaobaa", sum := "4b357471d6a89aedce8ba6588587b28a61e7b25baeeaf435613fb5839e9d3d4e", func := "fulling/fullinglaw10.TermNames", spec := "termNames", recurses := true, plainKeys := false, apart := false, narrowed := true }
def TermNamesUptoSaid : Prop := termNamesUptoRow.holds Try.pinned (OpenSpec.upto termNamesSpec)

/-- 'fullinglaw10.TermDistinctNodes', WHERE WHAT IT READS IS OF BULK AT MOST 1048576: true; the input reads as it did. -/
def termDistinctNodesUptoRow : OpenClaim := { program := "ytjhdfbplkoaobaa", sum := "4b357471d6a89aedce8ba6588587b28a61e7b25baeeaf435613fb5839e9d3d4e", func := "fulling/fullinglaw10.TermDistinctNodes", spec := "termDistinctNodes", recurses := true, plainKeys := false, apart := false, narrowed := true }
def TermDistinctNodesUptoSaid : Prop := termDistinctNodesUptoRow.holds Try.pinned (OpenSpec.upto termDistinctNodesSpec)

/-- 'fullinglaw10.TermLoops', WHERE WHAT IT READS IS OF BULK AT MOST 1048576: true; the input reads as it did. -/
def termLoopsUptoRow : OpenClaim := { program := "ytjhdfbplkoaobaa", sum := "4b357471d6a89aedce8ba6588587b28a61e7b25baeeaf435613fb5839e9d3d4e", func := "fulling/fullinglaw10.TermLoops", spec := "termLoops", recurses := true, plainKeys := false, apart := false, narrowed := true }
def TermLoopsUptoSaid : Prop := termLoopsUptoRow.holds Try.pinned (OpenSpec.upto termLoopsSpec)

/-- 'fullinglaw16.MatchExamples', WHERE WHAT IT READS IS OF BULK AT MOST 1048576: true; the input reads as it did. -/
def matchExamplesUptoRow : OpenClaim := { program := "ytjhdfbplkoaobaa", sum := "4b357471d6a89aedce8ba6588587b28a61e7b25baeeaf435613fb5839e9d3d4e", func := "fulling/fullinglaw16.MatchExamples", spec := "matchExamples", inPlace := ["internal/reflectlite.ValueOf", "internal/reflectlite.Swapper", "(internal/reflectlite.Value).Len"], unfollowed := true, recurses := true, plainKeys := false, apart := false, narrowed := true }
def MatchExamplesUptoSaid : Prop := matchExamplesUptoRow.holds Try.pinned (OpenSpec.upto matchExamplesSpec)

end Rows
end Go.Proofs.Ytjhdfbplkoaobaa
