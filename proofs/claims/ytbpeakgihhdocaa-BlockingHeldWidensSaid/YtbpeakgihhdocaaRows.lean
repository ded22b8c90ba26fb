/-
  No cell of these rows narrows 'for every input' (looked for: loops, veiled, ifaces, maps, wideKeys, modest, calm, conditions, laid).
  DERIVED. THE GIVEN ROWS OF THIS SEAT. 7 by the template 'for every input the law returns true; each argument reads behind the call as it read before'; 0 by the template 'total and deterministic' (their statements: YtbpeakgihhdocaaTotals.lean).
  GIVEN WITH THE SEED: the statements are not yours to turn. If you find one false, say at which input.
  Laid BY PROGRAM, IN A SANDBOX (cutbox-rows.mjs): the forced cells as the released guide's own fill.sh prints them over the translation c82aaf9fb6e6bbf5… (all of the seat's roots in one cut). By AI agents, Wed Nov 11 2026. No macro, syntax, notation, axiom, sorry.
-/
import Derived.Test.YtbpeakgihhdocaaChecked
import GoSem.Claim
import GoSem.ClaimJoined
import GoSem.ClaimMapViews
import Derived.JoinedTies
import Derived.KernelRfl
namespace Go.Proofs.Ytbpeakgihhdocaa
/- THE CELL 'sum', in the pinned program and in every row, IS THE sha256 OF THE DUMP (.gsa) THAT YtbpeakgihhdocaaProg.lean LOADS. Nothing in Lean hashes anything: it is a label: what it is worth is what the hold of that sum in a sandbox is worth. -/
noncomputable def Try.pinned : Pinned := { name := "ytbpeakgihhdocaa", sum := "c82aaf9fb6e6bbf5d76a231d78fd038990b6adfb7154714da4e41f00ea7587f4", checked := Try.checked }
namespace Rows
def none {H : Type} : Left H := { results := [], args := [] }

/-- 'railplanlaw8.BlockingTimesAscend': WHATEVER THE INPUT: true; the input reads as it did. -/
def blockingTimesAscendSpec : ChangeSpec := { name := "blockingTimesAscend", fn := fun _ => fun
  | [d1, d2, d3] => { results := [.lit (.bool true)], args := [d1, d2, d3] }
  | _ => none }
def blockingTimesAscendRow : OpenClaim := { program := "ytbpeakgihhdocaa", sum := "c82aaf9fb6e6bbf5d76a231d78fd038990b6adfb7154714da4e41f00ea7587f4", func := "railplan/railplanlaw8.BlockingTimesAscend", spec := "blockingTimesAscend", apart := false }
def BlockingTimesAscendSaid : Prop := blockingTimesAscendRow.holds Try.pinned (OpenSpec.ofChange blockingTimesAscendSpec)

/-- ITS FALSE NEIGHBOUR: 'it returns false'. Refute it at one input. -/
def blockingTimesAscendWrong : ChangeSpec := { name := "blockingTimesAscend", fn := fun _ => fun
  | [d1, d2, d3] => { results := [.lit (.bool false)], args := [d1, d2, d3] }
  | _ => none }
def BlockingTimesAscendWrongFalsely : Prop := blockingTimesAscendRow.holds Try.pinned (OpenSpec.ofChange blockingTimesAscendWrong)

/-- 'railplanlaw8.BlockingExamples': WHATEVER THE INPUT: true; the input reads as it did. -/
def blockingExamplesSpec : ChangeSpec := { name := "blockingExamples", fn := fun _ => fun
  | [] => { results := [.lit (.bool true)], args := [] }
  | _ => none }
def blockingExamplesRow : OpenClaim := { program := "ytbpeakgihhdocaa", sum := "c82aaf9fb6e6bbf5d76a231d78fd038990b6adfb7154714da4e41f00ea7587f4", func := "railplan/railplanlaw8.BlockingExamples", spec := "blockingExamples", apart := false }
def BlockingExamplesSaid : Prop := blockingExamplesRow.holds Try.pinned (OpenSpec.ofChange blockingExamplesSpec)

/-- ITS FALSE NEIGHBOUR: 'it returns false'. Refute it at one input. -/
def blockingExamplesWrong : ChangeSpec := { name := "blockingExamples", fn := fun _ => fun
  | [] => { results := [.lit (.bool false)], args := [] }
  | _ => none }
def BlockingExamplesWrongFalsely : Prop := blockingExamplesRow.holds Try.pinned (OpenSpec.ofChange blockingExamplesWrong)

/-- 'railplanlaw8.BlockingListsResources': WHATEVER THE INPUT: true; the input reads as it did. -/
def blockingListsResourcesSpec : ChangeSpec := { name := "blockingListsResources", fn := fun _ => fun
  | [d1, d2, d3] => { results := [.lit (.bool true)], args := [d1, d2, d3] }
  | _ => none }
def blockingListsResourcesRow : OpenClaim := { program := "ytbpeakgihhdocaa", sum := "c82aaf9fb6e6bbf5d76a231d78fd038990b6adfb7154714da4e41f00ea7587f4", func := "railplan/railplanlaw8.BlockingListsResources", spec := "blockingListsResources", apart := false }
def BlockingListsResourcesSaid : Prop := blockingListsResourcesRow.holds Try.pinned (OpenSpec.ofChange blockingListsResourcesSpec)

/-- ITS FALSE NEIGHBOUR: 'it returns false'. Refute it at one input. -/
def blockingListsResourcesWrong : ChangeSpec := { name := "blockingListsResources", fn := fun _ => fun
  | [d1, d2, d3] => { results := [.lit (.bool false)], args := [d1, d2, d3] }
  | _ => none }
def BlockingListsResourcesWrongFalsely : Prop := blockingListsResourcesRow.holds Try.pinned (OpenSpec.ofChange blockingListsResourcesWrong)

/-- 'railplanlaw8.BlockingPartsFit': WHATEVER THE INPUT: true; the input reads as it did. -/
def blockingPartsFitSpec : ChangeSpec := { name := "blockingPartsFit", fn := fun _ => fun
  | [d1, d2, d3, d4, d5] => { results := [.lit (.bool true)], args := [d1, d2, d3, d4, d5] }
  | _ => none }
def blockingPartsFitRow : OpenClaim := { program := "ytbpeakgihhdocaa", sum := "c82aaf9fb6e6bbf5d76a231d78fd038990b6adfb7154714da4e41f00ea7587f4", func := "railplan/railplanlaw8.BlockingPartsFit", spec := "blockingPartsFit", apart := false }
def BlockingPartsFitSaid : Prop := blockingPartsFitRow.holds Try.pinned (OpenSpec.ofChange blockingPartsFitSpec)

/-- ITS FALSE NEIGHBOUR: 'it returns false'. Refute it at one input. -/
def blockingPartsFitWrong : ChangeSpec := { name := "blockingPartsFit", fn := fun _ => fun
  | [d1, d2, d3, d4, d5] => { results := [.lit (.bool false)], args := [d1, d2, d3, d4, d5] }
  | _ => none }
def BlockingPartsFitWrongFalsely : Prop := blockingPartsFitRow.holds Try.pinned (OpenSpec.ofChange blockingPartsFitWrong)

/-- 'railplanlaw8.BlockingOverlap': WHATEVER THE INPUT: true; the input reads as it did. -/
def blockingOverlapSpec : ChangeSpec := { name := "blockingOverlap", fn := fun _ => fun
  | [d1, d2, d3] => { results := [.lit (.bool true)], args := [d1, d2, d3] }
  | _ => none }
def blockingOverlapRow : OpenClaim := { program := "ytbpeakgihhdocaa", sum := "c82aaf9fb6e6bbf5d76a231d78fd038990b6adfb7154714da4e41f00ea7587f4", func := "railplan/railplanlaw8.BlockingOverlap", spec := "blockingOverlap", apart := false }
def BlockingOverlapSaid : Prop := blockingOverlapRow.holds Try.pinned (OpenSpec.ofChange blockingOverlapSpec)

/-- ITS FALSE NEIGHBOUR: 'it returns false'. Refute it at one input. -/
def blockingOverlapWrong : ChangeSpec := { name := "blockingOverlap", fn := fun _ => fun
  | [d1, d2, d3] => { results := [.lit (.bool false)], args := [d1, d2, d3] }
  | _ => none }
def BlockingOverlapWrongFalsely : Prop := blockingOverlapRow.holds Try.pinned (OpenSpec.ofChange blockingOverlapWrong)

/-- 'railplanlaw8.BlockingRaw': WHATEVER THE INPUT: true; the input reads as it did. -/
def blockingRawSpec : ChangeSpec := { name := "blockingRaw", fn := fun _ => fun
  | [d1, d2, d3, d4, d5] => { results := [.lit (.bool true)], args := [d1, d2, d3, d4, d5] }
  | _ => none }
def blockingRawRow : OpenClaim := { program := "ytbpeakgihhdocaa", sum := "c82aaf9fb6e6bbf5d76a231d78fd038990b6adfb7154714da4e41f00ea7587f4", func := "railplan/railplanlaw8.BlockingRaw", spec := "blockingRaw", apart := false }
def BlockingRawSaid : Prop := blockingRawRow.holds Try.pinned (OpenSpec.ofChange blockingRawSpec)

/-- ITS FALSE NEIGHBOUR: 'it returns false'. Refute it at one input. -/
def blockingRawWrong : ChangeSpec := { name := "blockingRaw", fn := fun _ => fun
  | [d1, d2, d3, d4, d5] => { results := [.lit (.bool false)], args := [d1, d2, d3, d4, d5] }
  | _ => none }
def BlockingRawWrongFalsely : Prop := blockingRawRow.holds Try.pinned (OpenSpec.ofChange blockingRawWrong)

/-- 'railplanlaw8.BlockingHeldWidens': WHATEVER THE INPUT: true; the input reads as it did. -/
def blockingHeldWidensSpec : ChangeSpec := { name := "blockingHeldWidens", fn := fun _ => fun
  | [d1, d2, d3, d4, d5] => { results := [.lit (.bool true)], args := [d1, d2, d3, d4, d5] }
  | _ => none }
def blockingHeldWidensRow : OpenClaim := { program := "ytbpeakgihhdocaa", sum := "c82aaf9fb6e6bbf5d76a231d78fd038990b6adfb7154714da4e41f00ea7587f4", func := "railplan/railplanlaw8.BlockingHeldWidens", spec := "blockingHeldWidens", apart := false }
def BlockingHeldWidensSaid : Prop := blockingHeldWidensRow.holds Try.pinned (OpenSpec.ofChange blockingHeldWidensSpec)

/-- ITS FALSE NEIGHBOUR: 'it returns false'. Refute it at one input. -/
def blockingHeldWidensWrong : ChangeSpec := { name := "blockingHeldWidens", fn := fun _ => fun
  | [d1, d2, d3, d4, d5] => { results := [.lit (.bool false)], args := [d1, d2, d3, d4, d5] }
  | _ => none }
def BlockingHeldWidensWrongFalsely : Prop := blockingHeldWidensRow.holds Try.pinned (OpenSpec.ofChange blockingHeldWidensWrong)

/- THE SECOND FORM. 'bulk': how many values and letters a reading holds, each counted each time it is reached (what is shared counts as often as it is met; a slice's spare places count too). A statement '..UptoSaid' is the law's where the arguments, and the package variables that the reading takes, are together of bulk at most 1048576: NARROWER than '..Said'. Prove '..Said' where nothing that the law and all that it calls make is longer than what came in: it says more and counts as full. Else prove '..UptoSaid'. A law counts once. -/
mutual
def uptoBulk {H : Type} : DataW H → Nat
  | .lit (.string bytes) => bytes.length + 1
  | .lit _ => 1
  | .nil => 1
  | .ptr d => uptoBulk d + 1
  | .slice elems spare => uptoBulkAll elems + uptoBulkAll spare + 1
  | .agg parts => uptoBulkAll parts + 1
  | .iface _ d => uptoBulk d + 1
  | .map entries => uptoBulkEntries entries + 1
  | .held _ => 1
def uptoBulkAll {H : Type} : List (DataW H) → Nat
  | [] => 0
  | d :: r => uptoBulk d + uptoBulkAll r
def uptoBulkEntries {H : Type} : List (Lit × DataW H) → Nat
  | [] => 0
  | x :: r => uptoBulkEntry x + uptoBulkEntries r
def uptoBulkEntry {H : Type} : Lit × DataW H → Nat
  | (.string bytes, d) => bytes.length + uptoBulk d + 1
  | (_, d) => uptoBulk d + 1
 end
def uptoSmall : (H : Type) → List (DataW H) → Bool := fun _ ds => decide (uptoBulkAll ds ≤ 1048576)
def OpenSpec.upto (s : _root_.Go.ChangeSpec) : _root_.Go.OpenSpec := { _root_.Go.OpenSpec.ofChange s with cond := some uptoSmall }

/-- 'railplanlaw8.BlockingTimesAscend', WHERE WHAT IT READS IS OF BULK AT MOST 1048576: true; the input reads as it did. -/
def blockingTimesAscendUptoRow : OpenClaim := { program := "ytbpeakgihhdocaa", sum := "c82aaf9fb6e6bbf5d76a231d78fd038990b6adfb7154714da4e41f00ea7587f4", func := "railplan/railplanlaw8.BlockingTimesAscend", spec := "blockingTimesAscend", apart := false, narrowed := true }
def BlockingTimesAscendUptoSaid : Prop := blockingTimesAscendUptoRow.holds Try.pinned (OpenSpec.upto blockingTimesAscendSpec)

/-- 'railplanlaw8.BlockingExamples', WHERE WHAT IT READS IS OF BULK AT MOST 1048576: true; the input reads as it did. -/
def blockingExamplesUptoRow : OpenClaim := { program := "ytbpeakgihhdocaa", sum := "c82aaf9fb6e6bbf5d76a231d78fd038990b6adfb7154714da4e41f00ea7587f4", func := "railplan/railplanlaw8.BlockingExamples", spec := "blockingExamples", apart := false, narrowed := true }
def BlockingExamplesUptoSaid : Prop := blockingExamplesUptoRow.holds Try.pinned (OpenSpec.upto blockingExamplesSpec)

/-- 'railplanlaw8.BlockingListsResources', WHERE WHAT IT READS IS OF BULK AT MOST 1048576: true; the input reads as it did. -/
def blockingListsResourcesUptoRow : OpenClaim := { program := "ytbpeakgihhdocaa", sum := "c82aaf9fb6e6bbf5d76a231d78fd038990b6adfb7154714da4e41f00ea7587f4", func := "railplan/railplanlaw8.BlockingListsResources", spec := "blockingListsResources", apart := false, narrowed := true }
def BlockingListsResourcesUptoSaid : Prop := blockingListsResourcesUptoRow.holds Try.pinned (OpenSpec.upto blockingListsResourcesSpec)

/-- 'railplanlaw8.BlockingPartsFit', WHERE WHAT IT READS IS OF BULK AT MOST 1048576: true; the input reads as it did. -/
def blockingPartsFitUptoRow : OpenClaim := { program := "ytbpeakgihhdocaa", sum := "c82aaf9fb6e6bbf5d76a231d78fd038990b6adfb7154714da4e41f00ea7587f4", func := "railplan/railplanlaw8.BlockingPartsFit", spec := "blockingPartsFit", apart := false, narrowed := true }
def BlockingPartsFitUptoSaid : Prop := blockingPartsFitUptoRow.holds Try.pinned (OpenSpec.upto blockingPartsFitSpec)

/-- 'railplanlaw8.BlockingOverlap', WHERE WHAT IT READS IS OF BULK AT MOST 1048576: true; the input reads as it did. -/
def blockingOverlapUptoRow : OpenClaim := { program := "ytbpeakgihhdocaa", sum := "c82aaf9fb6e6bbf5d76a231d78fd038990b6adfb7154714da4e41f00ea7587f4", func := "railplan/railplanlaw8.BlockingOverlap", spec := "blockingOverlap", apart := false, narrowed := true }
def BlockingOverlapUptoSaid : Prop := blockingOverlapUptoRow.holds Try.pinned (OpenSpec.upto blockingOverlapSpec)

/-- 'railplanlaw8.BlockingRaw', WHERE WHAT IT READS IS OF BULK AT MOST 1048576: true; the input reads as it did. -/
def blockingRawUptoRow : OpenClaim := { program := "ytbpeakgihhdocaa", sum := "c82aaf9fb6e6bbf5d76a231d78fd038990b6adfb7154714da4e41f00ea7587f4", func := "railplan/railplanlaw8.BlockingRaw", spec := "blockingRaw", apart := false, narrowed := true }
def BlockingRawUptoSaid : Prop := blockingRawUptoRow.holds Try.pinned (OpenSpec.upto blockingRawSpec)

/-- 'railplanlaw8.BlockingHeldWidens', WHERE WHAT IT READS IS OF BULK AT MOST 1048576: true; the input reads as it did. -/
def blockingHeldWidensUptoRow : OpenClaim := { program := "ytbpeakgihhdocaa", sum := "c82aaf9fb6e6bbf5d76a231d78fd038990b6adfb7154714da4e41f00ea7587f4", func := "railplan/railplanlaw8.BlockingHeldWidens", spec := "blockingHeldWidens", apart := false, narrowed := true }
def BlockingHeldWidensUptoSaid : Prop := blockingHeldWidensUptoRow.holds Try.pinned (OpenSpec.upto blockingHeldWidensSpec)

end Rows
end Go.Proofs.Ytbpeakgihhdocaa
