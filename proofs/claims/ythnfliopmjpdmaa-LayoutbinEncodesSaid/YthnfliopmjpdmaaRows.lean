/-
  No cell of these rows narrows 'for every input' (looked for: loops, veiled, ifaces, maps, wideKeys, modest, calm, conditions, laid).
  DERIVED. THE GIVEN ROWS OF THIS SEAT. 7 by the template 'for every input the law returns true; each argument reads behind the call as it read before'; 0 by the template 'total and deterministic' (their statements: YthnfliopmjpdmaaTotals.lean).
  GIVEN WITH THE SEED: the statements are not yours to turn. If you find one false, say at which input.
  Laid BY PROGRAM, IN A SANDBOX (cutbox-rows.mjs): the forced cells as the released guide's own fill.sh prints them over the translation 8206bdca59304d16… (all of the seat's roots in one cut). By AI agents, Wed Nov 11 2026. No macro, syntax, notation, axiom, sorry.
-/
import Derived.Test.YthnfliopmjpdmaaChecked
import GoSem.Claim
import GoSem.ClaimJoined
import GoSem.ClaimMapViews
import Derived.JoinedTies
import Derived.KernelRfl
namespace Go.Proofs.Ythnfliopmjpdmaa
/- THE CELL 'sum', in the pinned program and in every row, IS THE sha256 OF THE DUMP (.gsa) THAT YthnfliopmjpdmaaProg.lean LOADS. Nothing in Lean hashes anything: it is a label: what it is worth is what the hold of that sum in a sandbox is worth. -/
noncomputable def Try.pinned : Pinned := { name := "ythnfliopmjpdmaa", sum := "8206bdca59304d168012626490966e078bd1d5218b2e75e245026f32e01f3060", checked := Try.checked }
namespace Rows
def none {H : Type} : Left H := { results := [], args := [] }

/-- 'railplanlaw5.LayoutbinExamples': WHATEVER THE INPUT: true; the input reads as it did. -/
def layoutbinExamplesSpec : ChangeSpec := { name := "layoutbinExamples", fn := fun _ => fun
  | [] => { results := [.lit (.bool true)], args := [] }
  | _ => none }
def layoutbinExamplesRow : OpenClaim := { program := "ythnfliopmjpdmaa", sum := "8206bdca59304d168012626490966e078bd1d5218b2e75e245026f32e01f3060", func := "railplan/railplanlaw5.LayoutbinExamples", spec := "layoutbinExamples", apart := false }
def LayoutbinExamplesSaid : Prop := layoutbinExamplesRow.holds Try.pinned (OpenSpec.ofChange layoutbinExamplesSpec)

/-- ITS FALSE NEIGHBOUR: 'it returns false'. Refute it at one input. -/
def layoutbinExamplesWrong : ChangeSpec := { name := "layoutbinExamples", fn := fun _ => fun
  | [] => { results := [.lit (.bool false)], args := [] }
  | _ => none }
def LayoutbinExamplesWrongFalsely : Prop := layoutbinExamplesRow.holds Try.pinned (OpenSpec.ofChange layoutbinExamplesWrong)

/-- 'railplanlaw5.LayoutbinEncodes': WHATEVER THE INPUT: true; the input reads as it did. -/
def layoutbinEncodesSpec : ChangeSpec := { name := "layoutbinEncodes", fn := fun _ => fun
  | [d1, d2, d3, d4, d5] => { results := [.lit (.bool true)], args := [d1, d2, d3, d4, d5] }
  | _ => none }
def layoutbinEncodesRow : OpenClaim := { program := "ythnfliopmjpdmaa", sum := "8206bdca59304d168012626490966e078bd1d5218b2e75e245026f32e01f3060", func := "railplan/railplanlaw5.LayoutbinEncodes", spec := "layoutbinEncodes", apart := false }
def LayoutbinEncodesSaid : Prop := layoutbinEncodesRow.holds Try.pinned (OpenSpec.ofChange layoutbinEncodesSpec)

/-- ITS FALSE NEIGHBOUR: 'it returns false'. Refute it at one input. -/
def layoutbinEncodesWrong : ChangeSpec := { name := "layoutbinEncodes", fn := fun _ => fun
  | [d1, d2, d3, d4, d5] => { results := [.lit (.bool false)], args := [d1, d2, d3, d4, d5] }
  | _ => none }
def LayoutbinEncodesWrongFalsely : Prop := layoutbinEncodesRow.holds Try.pinned (OpenSpec.ofChange layoutbinEncodesWrong)

/-- 'railplanlaw5.LayoutbinDecodes': WHATEVER THE INPUT: true; the input reads as it did. -/
def layoutbinDecodesSpec : ChangeSpec := { name := "layoutbinDecodes", fn := fun _ => fun
  | [d] => { results := [.lit (.bool true)], args := [d] }
  | _ => none }
def layoutbinDecodesRow : OpenClaim := { program := "ythnfliopmjpdmaa", sum := "8206bdca59304d168012626490966e078bd1d5218b2e75e245026f32e01f3060", func := "railplan/railplanlaw5.LayoutbinDecodes", spec := "layoutbinDecodes", apart := false }
def LayoutbinDecodesSaid : Prop := layoutbinDecodesRow.holds Try.pinned (OpenSpec.ofChange layoutbinDecodesSpec)

/-- ITS FALSE NEIGHBOUR: 'it returns false'. Refute it at one input. -/
def layoutbinDecodesWrong : ChangeSpec := { name := "layoutbinDecodes", fn := fun _ => fun
  | [d] => { results := [.lit (.bool false)], args := [d] }
  | _ => none }
def LayoutbinDecodesWrongFalsely : Prop := layoutbinDecodesRow.holds Try.pinned (OpenSpec.ofChange layoutbinDecodesWrong)

/-- 'railplanlaw5.LayoutbinMutations': WHATEVER THE INPUT: true; the input reads as it did. -/
def layoutbinMutationsSpec : ChangeSpec := { name := "layoutbinMutations", fn := fun _ => fun
  | [d1, d2, d3, d4] => { results := [.lit (.bool true)], args := [d1, d2, d3, d4] }
  | _ => none }
def layoutbinMutationsRow : OpenClaim := { program := "ythnfliopmjpdmaa", sum := "8206bdca59304d168012626490966e078bd1d5218b2e75e245026f32e01f3060", func := "railplan/railplanlaw5.LayoutbinMutations", spec := "layoutbinMutations", apart := false }
def LayoutbinMutationsSaid : Prop := layoutbinMutationsRow.holds Try.pinned (OpenSpec.ofChange layoutbinMutationsSpec)

/-- ITS FALSE NEIGHBOUR: 'it returns false'. Refute it at one input. -/
def layoutbinMutationsWrong : ChangeSpec := { name := "layoutbinMutations", fn := fun _ => fun
  | [d1, d2, d3, d4] => { results := [.lit (.bool false)], args := [d1, d2, d3, d4] }
  | _ => none }
def LayoutbinMutationsWrongFalsely : Prop := layoutbinMutationsRow.holds Try.pinned (OpenSpec.ofChange layoutbinMutationsWrong)

/-- 'railplanlaw5.LayoutbinDetectsChanges': WHATEVER THE INPUT: true; the input reads as it did. -/
def layoutbinDetectsChangesSpec : ChangeSpec := { name := "layoutbinDetectsChanges", fn := fun _ => fun
  | [d1, d2, d3] => { results := [.lit (.bool true)], args := [d1, d2, d3] }
  | _ => none }
def layoutbinDetectsChangesRow : OpenClaim := { program := "ythnfliopmjpdmaa", sum := "8206bdca59304d168012626490966e078bd1d5218b2e75e245026f32e01f3060", func := "railplan/railplanlaw5.LayoutbinDetectsChanges", spec := "layoutbinDetectsChanges", apart := false }
def LayoutbinDetectsChangesSaid : Prop := layoutbinDetectsChangesRow.holds Try.pinned (OpenSpec.ofChange layoutbinDetectsChangesSpec)

/-- ITS FALSE NEIGHBOUR: 'it returns false'. Refute it at one input. -/
def layoutbinDetectsChangesWrong : ChangeSpec := { name := "layoutbinDetectsChanges", fn := fun _ => fun
  | [d1, d2, d3] => { results := [.lit (.bool false)], args := [d1, d2, d3] }
  | _ => none }
def LayoutbinDetectsChangesWrongFalsely : Prop := layoutbinDetectsChangesRow.holds Try.pinned (OpenSpec.ofChange layoutbinDetectsChangesWrong)

/-- 'railplanlaw5.LayoutbinPrefixes': WHATEVER THE INPUT: true; the input reads as it did. -/
def layoutbinPrefixesSpec : ChangeSpec := { name := "layoutbinPrefixes", fn := fun _ => fun
  | [d1, d2] => { results := [.lit (.bool true)], args := [d1, d2] }
  | _ => none }
def layoutbinPrefixesRow : OpenClaim := { program := "ythnfliopmjpdmaa", sum := "8206bdca59304d168012626490966e078bd1d5218b2e75e245026f32e01f3060", func := "railplan/railplanlaw5.LayoutbinPrefixes", spec := "layoutbinPrefixes", apart := false }
def LayoutbinPrefixesSaid : Prop := layoutbinPrefixesRow.holds Try.pinned (OpenSpec.ofChange layoutbinPrefixesSpec)

/-- ITS FALSE NEIGHBOUR: 'it returns false'. Refute it at one input. -/
def layoutbinPrefixesWrong : ChangeSpec := { name := "layoutbinPrefixes", fn := fun _ => fun
  | [d1, d2] => { results := [.lit (.bool false)], args := [d1, d2] }
  | _ => none }
def LayoutbinPrefixesWrongFalsely : Prop := layoutbinPrefixesRow.holds Try.pinned (OpenSpec.ofChange layoutbinPrefixesWrong)

/-- 'railplanlaw5.LayoutbinRoundTrip': WHATEVER THE INPUT: true; the input reads as it did. -/
def layoutbinRoundTripSpec : ChangeSpec := { name := "layoutbinRoundTrip", fn := fun _ => fun
  | [d] => { results := [.lit (.bool true)], args := [d] }
  | _ => none }
def layoutbinRoundTripRow : OpenClaim := { program := "ythnfliopmjpdmaa", sum := "8206bdca59304d168012626490966e078bd1d5218b2e75e245026f32e01f3060", func := "railplan/railplanlaw5.LayoutbinRoundTrip", spec := "layoutbinRoundTrip", apart := false }
def LayoutbinRoundTripSaid : Prop := layoutbinRoundTripRow.holds Try.pinned (OpenSpec.ofChange layoutbinRoundTripSpec)

/-- ITS FALSE NEIGHBOUR: 'it returns false'. Refute it at one input. -/
def layoutbinRoundTripWrong : ChangeSpec := { name := "layoutbinRoundTrip", fn := fun _ => fun
  | [d] => { results := [.lit (.bool false)], args := [d] }
  | _ => none }
def LayoutbinRoundTripWrongFalsely : Prop := layoutbinRoundTripRow.holds Try.pinned (OpenSpec.ofChange layoutbinRoundTripWrong)

/- THE SECOND FORM. 'bulk': how many values and letters a reading holds, each counted each time it is reached (what is shared counts as often as it is met; a slice's spare places count too). A statement '..UptoSaid' is the law's where the arguments, and the package variables that the reading takes, are together of bulk at most 1048576: NARROWER than '..Said'. Prove '..Said' where nothing that the law and all that it calls make is longer than what came in: it says more and counts as full. Else prove '..UptoSaid'. A law counts once. -/
mutual
def uptoBulk {H : Type} : DataW H → Nat
  | .lit (.string bytes) => bytes.length + 1
  | .lit _ => 1
  | .nil => 1
  | .ptr d => uptoBulk d + 1
  | .slice elems spare => uptoBulkAll elems + uptoBulkAll spare + 1
  | .agg parts => uptoBulkAll parts + 1
  | .iface _ d => uptoBulk d + 1
  | .map entries => uptoBulkEntries entries + 1
  | .held _ => 1
def uptoBulkAll {H : Type} : List (DataW H) → Nat
  | [] => 0
  | d :: r => uptoBulk d + uptoBulkAll r
def uptoBulkEntries {H : Type} : List (Lit × DataW H) → Nat
  | [] => 0
  | x :: r => uptoBulkEntry x + uptoBulkEntries r
def uptoBulkEntry {H : Type} : Lit × DataW H → Nat
  | (.string bytes, d) => bytes.length + uptoBulk d + 1
  | (_, d) => uptoBulk d + 1
 end
def uptoSmall : (H : Type) → List (DataW H) → Bool := fun _ ds => decide (uptoBulkAll ds ≤ 1048576)
def OpenSpec.upto (s : _root_.Go.ChangeSpec) : _root_.Go.OpenSpec := { _root_.Go.OpenSpec.ofChange s with cond := some uptoSmall }

/-- 'railplanlaw5.LayoutbinExamples', WHERE WHAT IT READS IS OF BULK AT MOST 1048576: true; the input reads as it did. -/
def layoutbinExamplesUptoRow : OpenClaim := { program := "ythnfliopmjpdmaa", sum := "8206bdca59304d168012626490966e078bd1d5218b2e75e245026f32e01f3060", func := "railplan/railplanlaw5.LayoutbinExamples", spec := "layoutbinExamples", apart := false, narrowed := true }
def LayoutbinExamplesUptoSaid : Prop := layoutbinExamplesUptoRow.holds Try.pinned (OpenSpec.upto layoutbinExamplesSpec)

/-- 'railplanlaw5.LayoutbinEncodes', WHERE WHAT IT READS IS OF BULK AT MOST 1048576: true; the input reads as it did. -/
def layoutbinEncodesUptoRow : OpenClaim := { program := "ythnfliopmjpdmaa", sum := "8206bdca59304d168012626490966e078bd1d5218b2e75e245026f32e01f3060", func := "railplan/railplanlaw5.LayoutbinEncodes", spec := "layoutbinEncodes", apart := false, narrowed := true }
def LayoutbinEncodesUptoSaid : Prop := layoutbinEncodesUptoRow.holds Try.pinned (OpenSpec.upto layoutbinEncodesSpec)

/-- 'railplanlaw5.LayoutbinDecodes', WHERE WHAT IT READS IS OF BULK AT MOST 1048576: true; the input reads as it did. -/
def layoutbinDecodesUptoRow : OpenClaim := { program := "ythnfliopmjpdmaa", sum := "8206bdca59304d168012626490966e078bd1d5218b2e75e245026f32e01f3060", func := "railplan/railplanlaw5.LayoutbinDecodes", spec := "layoutbinDecodes", apart := false, narrowed := true }
def LayoutbinDecodesUptoSaid : Prop := layoutbinDecodesUptoRow.holds Try.pinned (OpenSpec.upto layoutbinDecodesSpec)

/-- 'railplanlaw5.LayoutbinMutations', WHERE WHAT IT READS IS OF BULK AT MOST 1048576: true; the input reads as it did. -/
def layoutbinMutationsUptoRow : OpenClaim := { program := "ythnfliopmjpdmaa", sum := "8206bdca59304d168012626490966e078bd1d5218b2e75e245026f32e01f3060", func := "railplan/railplanlaw5.LayoutbinMutations", spec := "layoutbinMutations", apart := false, narrowed := true }
def LayoutbinMutationsUptoSaid : Prop := layoutbinMutationsUptoRow.holds Try.pinned (OpenSpec.upto layoutbinMutationsSpec)

/-- 'railplanlaw5.LayoutbinDetectsChanges', WHERE WHAT IT READS IS OF BULK AT MOST 1048576: true; the input reads as it did. -/
def layoutbinDetectsChangesUptoRow : OpenClaim := { program := "ythnfliopmjpdmaa", sum := "8206bdca59304d168012626490966e078bd1d5218b2e75e245026f32e01f3060", func := "railplan/railplanlaw5.LayoutbinDetectsChanges", spec := "layoutbinDetectsChanges", apart := false, narrowed := true }
def LayoutbinDetectsChangesUptoSaid : Prop := layoutbinDetectsChangesUptoRow.holds Try.pinned (OpenSpec.upto layoutbinDetectsChangesSpec)

/-- 'railplanlaw5.LayoutbinPrefixes', WHERE WHAT IT READS IS OF BULK AT MOST 1048576: true; the input reads as it did. -/
def layoutbinPrefixesUptoRow : OpenClaim := { program := "ythnfliopmjpdmaa", sum := "8206bdca59304d168012626490966e078bd1d5218b2e75e245026f32e01f3060", func := "railplan/railplanlaw5.LayoutbinPrefixes", spec := "layoutbinPrefixes", apart := false, narrowed := true }
def LayoutbinPrefixesUptoSaid : Prop := layoutbinPrefixesUptoRow.holds Try.pinned (OpenSpec.upto layoutbinPrefixesSpec)

/-- 'railplanlaw5.LayoutbinRoundTrip', WHERE WHAT IT READS IS OF BULK AT MOST 1048576: true; the input reads as it did. -/
def layoutbinRoundTripUptoRow : OpenClaim := { program := "ythnfliopmjpdmaa", sum := "8206bdca59304d168012626490966e078bd1d5218b2e75e245026f32e01f3060", func := "railplan/railplanlaw5.LayoutbinRoundTrip", spec := "layoutbinRoundTrip", apart := false, narrowed := true }
def LayoutbinRoundTripUptoSaid : Prop := layoutbinRoundTripUptoRow.holds Try.pinned (OpenSpec.upto layoutbinRoundTripSpec)

end Rows
end Go.Proofs.Ythnfliopmjpdmaa
