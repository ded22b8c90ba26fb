/-
  No cell of these rows narrows 'for every input' (looked for: loops, veiled, ifaces, maps, wideKeys, modest, calm, conditions, laid).
  DERIVED. THE GIVEN ROWS OF THIS SEAT. 8 by the template 'for every input the law returns true; each argument reads behind the call as it read before'; 0 by the template 'total and deterministic' (their statements: YtjkeeocnekggfaaGreatTotals.lean).
  GIVEN WITH THE SEED: the statements are not yours to turn. If you find one false, say at which input.
  Laid BY PROGRAM, IN A SANDBOX (cutbox-rows.mjs): the forced cells as the released guide's own fill.sh prints them over the translation b812b21e1de93870… (all of the seat's roots in one cut). By AI agents, Wed Nov 11 2026. No macro, syntax, notation, axiom, sorry.
-/
import Derived.Test.YtjkeeocnekggfaaGreatChecked
import GoSem.Claim
import GoSem.ClaimJoined
import GoSem.ClaimMapViews
import Derived.JoinedTies
import Derived.KernelRfl
namespace Go.Proofs.YtjkeeocnekggfaaGreat
/- THE CELL 'sum', in the pinned program and in every row, IS THE sha256 OF THE DUMP (.gsa) THAT YtjkeeocnekggfaaGreatProg.lean LOADS. Nothing in Lean hashes anything: it is a label: what it is worth is what the hold of that sum in a sandbox is worth. -/
noncomputable def Tryz.pinned : Pinned := { name := "ytjkeeocnekggfaagreat", sum := "b812b21e1de938709181473d341fcd037758cedf12920467590ae0923de61acd", checked := Tryz.checked }
namespace Rows
def none {H : Type} : Left H := { results := [], args := [] }

/-- 'railplanlaw40.BoardPredict': WHATEVER THE INPUT: true; the input reads as it did. -/
def boardPredictSpec : ChangeSpec := { name := "boardPredict", fn := fun _ => fun
  | [d1, d2, d3, d4, d5] => { results := [.lit (.bool true)], args := [d1, d2, d3, d4, d5] }
  | _ => none }
def boardPredictRow : OpenClaim := { program := "ytjkeeocnekggfaagreat", sum := "b812b21e1de938709181473d341fcd037758cedf12920467590ae0923de61acd", func := "railplan/railplanlaw40.BoardPredict", spec := "boardPredict", recurses := true, plainKeys := false, apart := false }
def BoardPredictSaid : Prop := boardPredictRow.holds Tryz.pinned (OpenSpec.ofChange boardPredictSpec)

/-- ITS FALSE NEIGHBOUR: 'it returns false'. Refute it at one input. -/
def boardPredictWrong : ChangeSpec := { name := "boardPredict", fn := fun _ => fun
  | [d1, d2, d3, d4, d5] => { results := [.lit (.bool false)], args := [d1, d2, d3, d4, d5] }
  | _ => none }
def BoardPredictWrongFalsely : Prop := boardPredictRow.holds Tryz.pinned (OpenSpec.ofChange boardPredictWrong)

/-- 'railplanlaw40.BoardCautious': WHATEVER THE INPUT: true; the input reads as it did. -/
def boardCautiousSpec : ChangeSpec := { name := "boardCautious", fn := fun _ => fun
  | [d1, d2, d3] => { results := [.lit (.bool true)], args := [d1, d2, d3] }
  | _ => none }
def boardCautiousRow : OpenClaim := { program := "ytjkeeocnekggfaagreat", sum := "b812b21e1de938709181473d341fcd037758cedf12920467590ae0923de61acd", func := "railplan/railplanlaw40.BoardCautious", spec := "boardCautious", recurses := true, plainKeys := false, apart := false }
def BoardCautiousSaid : Prop := boardCautiousRow.holds Tryz.pinned (OpenSpec.ofChange boardCautiousSpec)

/-- ITS FALSE NEIGHBOUR: 'it returns false'. Refute it at one input. -/
def boardCautiousWrong : ChangeSpec := { name := "boardCautious", fn := fun _ => fun
  | [d1, d2, d3] => { results := [.lit (.bool false)], args := [d1, d2, d3] }
  | _ => none }
def BoardCautiousWrongFalsely : Prop := boardCautiousRow.holds Tryz.pinned (OpenSpec.ofChange boardCautiousWrong)

/-- 'railplanlaw40.BoardScheduled': WHATEVER THE INPUT: true; the input reads as it did. -/
def boardScheduledSpec : ChangeSpec := { name := "boardScheduled", fn := fun _ => fun
  | [d1, d2] => { results := [.lit (.bool true)], args := [d1, d2] }
  | _ => none }
def boardScheduledRow : OpenClaim := { program := "ytjkeeocnekggfaagreat", sum := "b812b21e1de938709181473d341fcd037758cedf12920467590ae0923de61acd", func := "railplan/railplanlaw40.BoardScheduled", spec := "boardScheduled", recurses := true, plainKeys := false, apart := false }
def BoardScheduledSaid : Prop := boardScheduledRow.holds Tryz.pinned (OpenSpec.ofChange boardScheduledSpec)

/-- ITS FALSE NEIGHBOUR: 'it returns false'. Refute it at one input. -/
def boardScheduledWrong : ChangeSpec := { name := "boardScheduled", fn := fun _ => fun
  | [d1, d2] => { results := [.lit (.bool false)], args := [d1, d2] }
  | _ => none }
def BoardScheduledWrongFalsely : Prop := boardScheduledRow.holds Tryz.pinned (OpenSpec.ofChange boardScheduledWrong)

/-- 'railplanlaw40.BoardReached': WHATEVER THE INPUT: true; the input reads as it did. -/
def boardReachedSpec : ChangeSpec := { name := "boardReached", fn := fun _ => fun
  | [d1, d2, d3, d4, d5, d6, d7, d8] => { results := [.lit (.bool true)], args := [d1, d2, d3, d4, d5, d6, d7, d8] }
  | _ => none }
def boardReachedRow : OpenClaim := { program := "ytjkeeocnekggfaagreat", sum := "b812b21e1de938709181473d341fcd037758cedf12920467590ae0923de61acd", func := "railplan/railplanlaw40.BoardReached", spec := "boardReached", recurses := true, plainKeys := false, apart := false }
def BoardReachedSaid : Prop := boardReachedRow.holds Tryz.pinned (OpenSpec.ofChange boardReachedSpec)

/-- ITS FALSE NEIGHBOUR: 'it returns false'. Refute it at one input. -/
def boardReachedWrong : ChangeSpec := { name := "boardReached", fn := fun _ => fun
  | [d1, d2, d3, d4, d5, d6, d7, d8] => { results := [.lit (.bool false)], args := [d1, d2, d3, d4, d5, d6, d7, d8] }
  | _ => none }
def BoardReachedWrongFalsely : Prop := boardReachedRow.holds Tryz.pinned (OpenSpec.ofChange boardReachedWrong)

/-- 'railplanlaw40.BoardExample': WHATEVER THE INPUT: true; the input reads as it did. -/
def boardExampleSpec : ChangeSpec := { name := "boardExample", fn := fun _ => fun
  | [] => { results := [.lit (.bool true)], args := [] }
  | _ => none }
def boardExampleRow : OpenClaim := { program := "ytjkeeocnekggfaagreat", sum := "b812b21e1de938709181473d341fcd037758cedf12920467590ae0923de61acd", func := "railplan/railplanlaw40.BoardExample", spec := "boardExample", inPlace := ["slices.overlaps[railplan/api.Row]"], unfollowed := true, recurses := true, plainKeys := false, apart := false }
def BoardExampleSaid : Prop := boardExampleRow.holds Tryz.pinned (OpenSpec.ofChange boardExampleSpec)

/-- ITS FALSE NEIGHBOUR: 'it returns false'. Refute it at one input. -/
def boardExampleWrong : ChangeSpec := { name := "boardExample", fn := fun _ => fun
  | [] => { results := [.lit (.bool false)], args := [] }
  | _ => none }
def BoardExampleWrongFalsely : Prop := boardExampleRow.holds Tryz.pinned (OpenSpec.ofChange boardExampleWrong)

/-- 'railplanlaw40.BoardRows': WHATEVER THE INPUT: true; the input reads as it did. -/
def boardRowsSpec : ChangeSpec := { name := "boardRows", fn := fun _ => fun
  | [d1, d2, d3, d4, d5, d6, d7] => { results := [.lit (.bool true)], args := [d1, d2, d3, d4, d5, d6, d7] }
  | _ => none }
def boardRowsRow : OpenClaim := { program := "ytjkeeocnekggfaagreat", sum := "b812b21e1de938709181473d341fcd037758cedf12920467590ae0923de61acd", func := "railplan/railplanlaw40.BoardRows", spec := "boardRows", inPlace := ["slices.overlaps[railplan/api.Row]"], unfollowed := true, recurses := true, plainKeys := false, apart := false }
def BoardRowsSaid : Prop := boardRowsRow.holds Tryz.pinned (OpenSpec.ofChange boardRowsSpec)

/-- ITS FALSE NEIGHBOUR: 'it returns false'. Refute it at one input. -/
def boardRowsWrong : ChangeSpec := { name := "boardRows", fn := fun _ => fun
  | [d1, d2, d3, d4, d5, d6, d7] => { results := [.lit (.bool false)], args := [d1, d2, d3, d4, d5, d6, d7] }
  | _ => none }
def BoardRowsWrongFalsely : Prop := boardRowsRow.holds Tryz.pinned (OpenSpec.ofChange boardRowsWrong)

/-- 'railplanlaw40.BoardFinal': WHATEVER THE INPUT: true; the input reads as it did. -/
def boardFinalSpec : ChangeSpec := { name := "boardFinal", fn := fun _ => fun
  | [d1, d2, d3] => { results := [.lit (.bool true)], args := [d1, d2, d3] }
  | _ => none }
def boardFinalRow : OpenClaim := { program := "ytjkeeocnekggfaagreat", sum := "b812b21e1de938709181473d341fcd037758cedf12920467590ae0923de61acd", func := "railplan/railplanlaw40.BoardFinal", spec := "boardFinal", inPlace := ["slices.overlaps[railplan/api.Row]"], unfollowed := true, recurses := true, plainKeys := false, apart := false }
def BoardFinalSaid : Prop := boardFinalRow.holds Tryz.pinned (OpenSpec.ofChange boardFinalSpec)

/-- ITS FALSE NEIGHBOUR: 'it returns false'. Refute it at one input. -/
def boardFinalWrong : ChangeSpec := { name := "boardFinal", fn := fun _ => fun
  | [d1, d2, d3] => { results := [.lit (.bool false)], args := [d1, d2, d3] }
  | _ => none }
def BoardFinalWrongFalsely : Prop := boardFinalRow.holds Tryz.pinned (OpenSpec.ofChange boardFinalWrong)

/-- 'railplanlaw40.BoardErrors': WHATEVER THE INPUT: true; the input reads as it did. -/
def boardErrorsSpec : ChangeSpec := { name := "boardErrors", fn := fun _ => fun
  | [d1, d2, d3, d4, d5, d6, d7, d8, d9] => { results := [.lit (.bool true)], args := [d1, d2, d3, d4, d5, d6, d7, d8, d9] }
  | _ => none }
def boardErrorsRow : OpenClaim := { program := "ytjkeeocnekggfaagreat", sum := "b812b21e1de938709181473d341fcd037758cedf12920467590ae0923de61acd", func := "railplan/railplanlaw40.BoardErrors", spec := "boardErrors", inPlace := ["slices.overlaps[railplan/api.Row]"], unfollowed := true, recurses := true, plainKeys := false, apart := false }
def BoardErrorsSaid : Prop := boardErrorsRow.holds Tryz.pinned (OpenSpec.ofChange boardErrorsSpec)

/-- ITS FALSE NEIGHBOUR: 'it returns false'. Refute it at one input. -/
def boardErrorsWrong : ChangeSpec := { name := "boardErrors", fn := fun _ => fun
  | [d1, d2, d3, d4, d5, d6, d7, d8, d9] => { results := [.lit (.bool false)], args := [d1, d2, d3, d4, d5, d6, d7, d8, d9] }
  | _ => none }
def BoardErrorsWrongFalsely : Prop := boardErrorsRow.holds Tryz.pinned (OpenSpec.ofChange boardErrorsWrong)

/- THE SECOND FORM. 'bulk': how many values and letters a reading holds, each counted each time it is reached (what is shared counts as often as it is met; a slice's spare places count too). A statement '..UptoSaid' is the law's where the arguments, and the package variables that the reading takes, are together of bulk at most 1048576: NARROWER than '..Said'. Prove '..Said' where nothing that the law and all that it calls make is longer than what came in: it says more and counts as full. Else prove '..UptoSaid'. A law counts once. -/
mutual
def uptoBulk {H : Type} : DataW H → Nat
  | .lit (.string bytes) => bytes.length + 1
  | .lit _ => 1
  | .nil => 1
  | .ptr d => uptoBulk d + 1
  | .slice elems spare => uptoBulkAll elems + uptoBulkAll spare + 1
  | .agg parts => uptoBulkAll parts + 1
  | .iface _ d => uptoBulk d + 1
  | .map entries => uptoBulkEntries entries + 1
  | .held _ => 1
def uptoBulkAll {H : Type} : List (DataW H) → Nat
  | [] => 0
  | d :: r => uptoBulk d + uptoBulkAll r
def uptoBulkEntries {H : Type} : List (Lit × DataW H) → Nat
  | [] => 0
  | x :: r => uptoBulkEntry x + uptoBulkEntries r
def uptoBulkEntry {H : Type} : Lit × DataW H → Nat
  | (.string bytes, d) => bytes.length + uptoBulk d + 1
  | (_, d) => uptoBulk d + 1
 end
def uptoSmall : (H : Type) → List (DataW H) → Bool := fun _ ds => decide (uptoBulkAll ds ≤ 1048576)
def OpenSpec.upto (s : _root_.Go.ChangeSpec) : _root_.Go.OpenSpec := { _root_.Go.OpenSpec.ofChange s with cond := some uptoSmall }

/-- 'railplanlaw40.BoardPredict', WHERE WHAT IT READS IS OF BULK AT MOST 1048576: true; the input reads as it did. -/
def boardPredictUptoRow : OpenClaim := { program := "ytjkeeocnekggfaagreat", sum := "b812b21e1de938709181473d341fcd037758cedf12920467590ae0923de61acd", func := "railplan/railplanlaw40.BoardPredict", spec := "boardPredict", recurses := true, plainKeys := false, apart := false, narrowed := true }
def BoardPredictUptoSaid : Prop := boardPredictUptoRow.holds Tryz.pinned (OpenSpec.upto boardPredictSpec)

/-- 'railplanlaw40.BoardCautious', WHERE WHAT IT READS IS OF BULK AT MOST 1048576: true; the input reads as it did. -/
def boardCautiousUptoRow : OpenClaim := { program := "ytjkeeocnekggfaagreat", sum := "b812b21e1de938709181473d341fcd037758cedf12920467590ae0923de61acd", func := "railplan/railplanlaw40.BoardCautious", spec := "boardCautious", recurses := true, plainKeys := false, apart := false, narrowed := true }
def BoardCautiousUptoSaid : Prop := boardCautiousUptoRow.holds Tryz.pinned (OpenSpec.upto boardCautiousSpec)

/-- 'railplanlaw40.BoardScheduled', WHERE WHAT IT READS IS OF BULK AT MOST 1048576: true; the input reads as it did. -/
def boardScheduledUptoRow : OpenClaim := { program := "ytjkeeocnekggfaagreat", sum := "b812b21e1de938709181473d341fcd037758cedf12920467590ae0923de61acd", func := "railplan/railplanlaw40.BoardScheduled", spec := "boardScheduled", recurses := true, plainKeys := false, apart := false, narrowed := true }
def BoardScheduledUptoSaid : Prop := boardScheduledUptoRow.holds Tryz.pinned (OpenSpec.upto boardScheduledSpec)

/-- 'railplanlaw40.BoardReached', WHERE WHAT IT READS IS OF BULK AT MOST 1048576: true; the input reads as it did. -/
def boardReachedUptoRow : OpenClaim := { program := "ytjkeeocnekggfaagreat", sum := "b812b21e1de938709181473d341fcd037758cedf12920467590ae0923de61acd", func := "railplan/railplanlaw40.BoardReached", spec := "boardReached", recurses := true, plainKeys := false, apart := false, narrowed := true }
def BoardReachedUptoSaid : Prop := boardReachedUptoRow.holds Tryz.pinned (OpenSpec.upto boardReachedSpec)

/-- 'railplanlaw40.BoardExample', WHERE WHAT IT READS IS OF BULK AT MOST 1048576: true; the input reads as it did. -/
def boardExampleUptoRow : OpenClaim := { program := "ytjkeeocnekggfaagreat", sum := "b812b21e1de938709181473d341fcd037758cedf12920467590ae0923de61acd", func := "railplan/railplanlaw40.BoardExample", spec := "boardExample", inPlace := ["slices.overlaps[railplan/api.Row]"], unfollowed := true, recurses := true, plainKeys := false, apart := false, narrowed := true }
def BoardExampleUptoSaid : Prop := boardExampleUptoRow.holds Tryz.pinned (OpenSpec.upto boardExampleSpec)

/-- 'railplanlaw40.BoardRows', WHERE WHAT IT READS IS OF BULK AT MOST 1048576: true; the input reads as it did. -/
def boardRowsUptoRow : OpenClaim := { program := "ytjkeeocnekggfaagreat", sum := "b812b21e1de938709181473d341fcd037758cedf12920467590ae0923de61acd", func := "railplan/railplanlaw40.BoardRows", spec := "boardRows", inPlace := ["slices.overlaps[railplan/api.Row]"], unfollowed := true, recurses := true, plainKeys := false, apart := false, narrowed := true }
def BoardRowsUptoSaid : Prop := boardRowsUptoRow.holds Tryz.pinned (OpenSpec.upto boardRowsSpec)

/-- 'railplanlaw40.BoardFinal', WHERE WHAT IT READS IS OF BULK AT MOST 1048576: true; the input reads as it did. -/
def boardFinalUptoRow : OpenClaim := { program := "ytjkeeocnekggfaagreat", sum := "b812b21e1de938709181473d341fcd037758cedf12920467590ae0923de61acd", func := "railplan/railplanlaw40.BoardFinal", spec := "boardFinal", inPlace := ["slices.overlaps[railplan/api.Row]"], unfollowed := true, recurses := true, plainKeys := false, apart := false, narrowed := true }
def BoardFinalUptoSaid : Prop := boardFinalUptoRow.holds Tryz.pinned (OpenSpec.upto boardFinalSpec)

/-- 'railplanlaw40.BoardErrors', WHERE WHAT IT READS IS OF BULK AT MOST 1048576: true; the input reads as it did. -/
def boardErrorsUptoRow : OpenClaim := { program := "ytjkeeocnekggfaagreat", sum := "b812b21e1de938709181473d341fcd037758cedf12920467590ae0923de61acd", func := "railplan/railplanlaw40.BoardErrors", spec := "boardErrors", inPlace := ["slices.overlaps[railplan/api.Row]"], unfollowed := true, recurses := true, plainKeys := false, apart := false, narrowed := true }
def BoardErrorsUptoSaid : Prop := boardErrorsUptoRow.holds Tryz.pinned (OpenSpec.upto boardErrorsSpec)

end Rows
end Go.Proofs.YtjkeeocnekggfaaGreat
