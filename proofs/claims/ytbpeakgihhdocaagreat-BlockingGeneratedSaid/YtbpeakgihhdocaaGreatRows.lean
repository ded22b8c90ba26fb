/-
  No cell of these rows narrows 'for every input' (looked for: loops, veiled, ifaces, maps, wideKeys, modest, calm, conditions, laid).
  DERIVED. THE GIVEN ROWS OF THIS SEAT. 2 by the template 'for every input the law returns true; each argument reads behind the call as it read before'; 0 by the template 'total and deterministic' (their statements: YtbpeakgihhdocaaGreatTotals.lean).
  GIVEN WITH THE SEED: the statements are not yours to turn. If you find one false, say at which input.
  Laid BY PROGRAM, IN A SANDBOX (cutbox-rows.mjs): the forced cells as the released guide's own fill.sh prints them over the translation c86259b2bfe9a775… (all of the seat's roots in one cut). By AI agents, Wed Nov 11 2026. No macro, syntax, notation, axiom, sorry.
-/
import Derived.Test.YtbpeakgihhdocaaGreatChecked
import GoSem.Claim
import GoSem.ClaimJoined
import GoSem.ClaimMapViews
import Derived.JoinedTies
import Derived.KernelRfl
namespace Go.Proofs.YtbpeakgihhdocaaGreat
/- THE CELL 'sum', in the pinned program and in every row, IS THE sha256 OF THE DUMP (.gsa) THAT YtbpeakgihhdocaaGreatProg.lean LOADS. Nothing in Lean hashes anything: it is a label: what it is worth is what the hold of that sum in a sandbox is worth. -/
noncomputable def Tryz.pinned : Pinned := { name := "ytbpeakgihhdocaagreat", sum := "c86259b2bfe9a775c68be3c9d9dac9403b667e7427135baf74b908a0d2fb4fc0", checked := Tryz.checked }
namespace Rows
def none {H : Type} : Left H := { results := [], args := [] }

/-- 'railplanlaw8.BlockingTrainIsInside': WHATEVER THE INPUT: true; the input reads as it did. -/
def blockingTrainIsInsideSpec : ChangeSpec := { name := "blockingTrainIsInside", fn := fun _ => fun
  | [d1, d2, d3, d4] => { results := [.lit (.bool true)], args := [d1, d2, d3, d4] }
  | _ => none }
def blockingTrainIsInsideRow : OpenClaim := { program := "ytbpeakgihhdocaagreat", sum := "c86259b2bfe9a775c68be3c9d9dac9403b667e7427135baf74b908a0d2fb4fc0", func := "railplan/railplanlaw8.BlockingTrainIsInside", spec := "blockingTrainIsInside", apart := false }
def BlockingTrainIsInsideSaid : Prop := blockingTrainIsInsideRow.holds Tryz.pinned (OpenSpec.ofChange blockingTrainIsInsideSpec)

/-- ITS FALSE NEIGHBOUR: 'it returns false'. Refute it at one input. -/
def blockingTrainIsInsideWrong : ChangeSpec := { name := "blockingTrainIsInside", fn := fun _ => fun
  | [d1, d2, d3, d4] => { results := [.lit (.bool false)], args := [d1, d2, d3, d4] }
  | _ => none }
def BlockingTrainIsInsideWrongFalsely : Prop := blockingTrainIsInsideRow.holds Tryz.pinned (OpenSpec.ofChange blockingTrainIsInsideWrong)

/-- 'railplanlaw8.BlockingGenerated': WHATEVER THE INPUT: true; the input reads as it did. -/
def blockingGeneratedSpec : ChangeSpec := { name := "blockingGenerated", fn := fun _ => fun
  | [d1, d2, d3, d4, d5] => { results := [.lit (.bool true)], args := [d1, d2, d3, d4, d5] }
  | _ => none }
def blockingGeneratedRow : OpenClaim := { program := "ytbpeakgihhdocaagreat", sum := "c86259b2bfe9a775c68be3c9d9dac9403b667e7427135baf74b908a0d2fb4fc0", func := "railplan/railplanlaw8.BlockingGenerated", spec := "blockingGenerated", apart := false }
def BlockingGeneratedSaid : Prop := blockingGeneratedRow.holds Tryz.pinned (OpenSpec.ofChange blockingGeneratedSpec)

/-- ITS FALSE NEIGHBOUR: 'it returns false'. Refute it at one input. -/
def blockingGeneratedWrong : ChangeSpec := { name := "blockingGenerated", fn := fun _ => fun
  | [d1, d2, d3, d4, d5] => { results := [.lit (.bool false)], args := [d1, d2, d3, d4, d5] }
  | _ => none }
def BlockingGeneratedWrongFalsely : Prop := blockingGeneratedRow.holds Tryz.pinned (OpenSpec.ofChange blockingGeneratedWrong)

/- THE SECOND FORM. 'bulk': how many values and letters a reading holds, each counted each time it is reached (what is shared counts as often as it is met; a slice's spare places count too). A statement '..UptoSaid' is the law's where the arguments, and the package variables that the reading takes, are together of bulk at most 1048576: NARROWER than '..Said'. Prove '..Said' where nothing that the law and all that it calls make is longer than what came in: it says more and counts as full. Else prove '..UptoSaid'. A law counts once. -/
mutual
def uptoBulk {H : Type} : DataW H → Nat
  | .lit (.string bytes) => bytes.length + 1
  | .lit _ => 1
  | .nil => 1
  | .ptr d => uptoBulk d + 1
  | .slice elems spare => uptoBulkAll elems + uptoBulkAll spare + 1
  | .agg parts => uptoBulkAll parts + 1
  | .iface _ d => uptoBulk d + 1
  | .map entries => uptoBulkEntries entries + 1
  | .held _ => 1
def uptoBulkAll {H : Type} : List (DataW H) → Nat
  | [] => 0
  | d :: r => uptoBulk d + uptoBulkAll r
def uptoBulkEntries {H : Type} : List (Lit × DataW H) → Nat
  | [] => 0
  | x :: r => uptoBulkEntry x + uptoBulkEntries r
def uptoBulkEntry {H : Type} : Lit × DataW H → Nat
  | (.string bytes, d) => bytes.length + uptoBulk d + 1
  | (_, d) => uptoBulk d + 1
 end
def uptoSmall : (H : Type) → List (DataW H) → Bool := fun _ ds => decide (uptoBulkAll ds ≤ 1048576)
def OpenSpec.upto (s : _root_.Go.ChangeSpec) : _root_.Go.OpenSpec := { _root_.Go.OpenSpec.ofChange s with cond := some uptoSmall }

/-- 'railplanlaw8.BlockingTrainIsInside', WHERE WHAT IT READS IS OF BULK AT MOST 1048576: true; the input reads as it did. -/
def blockingTrainIsInsideUptoRow : OpenClaim := { program := "ytbpeakgihhdocaagreat", sum := "c86259b2bfe9a775c68be3c9d9dac9403b667e7427135baf74b908a0d2fb4fc0", func := "railplan/railplanlaw8.BlockingTrainIsInside", spec := "blockingTrainIsInside", apart := false, narrowed := true }
def BlockingTrainIsInsideUptoSaid : Prop := blockingTrainIsInsideUptoRow.holds Tryz.pinned (OpenSpec.upto blockingTrainIsInsideSpec)

/-- 'railplanlaw8.BlockingGenerated', WHERE WHAT IT READS IS OF BULK AT MOST 1048576: true; the input reads as it did. -/
def blockingGeneratedUptoRow : OpenClaim := { program := "ytbpeakgihhdocaagreat", sum := "c86259b2bfe9a775c68be3c9d9dac9403b667e7427135baf74b908a0d2fb4fc0", func := "railplan/railplanlaw8.BlockingGenerated", spec := "blockingGenerated", apart := false, narrowed := true }
def BlockingGeneratedUptoSaid : Prop := blockingGeneratedUptoRow.holds Tryz.pinned (OpenSpec.upto blockingGeneratedSpec)

end Rows
end Go.Proofs.YtbpeakgihhdocaaGreat
