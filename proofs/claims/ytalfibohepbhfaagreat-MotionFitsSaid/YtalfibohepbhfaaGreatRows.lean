/-
  No cell of these rows narrows 'for every input' (looked for: loops, veiled, ifaces, maps, wideKeys, modest, calm, conditions, laid).
  DERIVED. THE GIVEN ROWS OF THIS SEAT. 6 by the template 'for every input the law returns true; each argument reads behind the call as it read before'; 0 by the template 'total and deterministic' (their statements: YtalfibohepbhfaaGreatTotals.lean).
  GIVEN WITH THE SEED: the statements are not yours to turn. If you find one false, say at which input.
  Laid BY PROGRAM, IN A SANDBOX (cutbox-rows.mjs): the forced cells as the released guide's own fill.sh prints them over the translation 79a819919edc5bc3… (all of the seat's roots in one cut). By AI agents, Wed Nov 11 2026. No macro, syntax, notation, axiom, sorry.
-/
import Derived.Test.YtalfibohepbhfaaGreatChecked
import GoSem.Claim
import GoSem.ClaimJoined
import GoSem.ClaimMapViews
import Derived.JoinedTies
import Derived.KernelRfl
namespace Go.Proofs.YtalfibohepbhfaaGreat
/- THE CELL 'sum', in the pinned program and in every row, IS THE sha256 OF THE DUMP (.gsa) THAT YtalfibohepbhfaaGreatProg.lean LOADS. Nothing in Lean hashes anything: it is a label: what it is worth is what the hold of that sum in a sandbox is worth. -/
noncomputable def Tryz.pinned : Pinned := { name := "ytalfibohepbhfaagreat", sum := "79a819919edc5bc3fc0b82442a860c8880a5421ad70f989d307a107cabf3287a", checked := Tryz.checked }
namespace Rows
def none {H : Type} : Left H := { results := [], args := [] }

/-- 'railplanlaw30.MotionMake': WHATEVER THE INPUT: true; the input reads as it did. -/
def motionMakeSpec : ChangeSpec := { name := "motionMake", fn := fun _ => fun
  | [d1, d2, d3] => { results := [.lit (.bool true)], args := [d1, d2, d3] }
  | _ => none }
def motionMakeRow : OpenClaim := { program := "ytalfibohepbhfaagreat", sum := "79a819919edc5bc3fc0b82442a860c8880a5421ad70f989d307a107cabf3287a", func := "railplan/railplanlaw30.MotionMake", spec := "motionMake", apart := false }
def MotionMakeSaid : Prop := motionMakeRow.holds Tryz.pinned (OpenSpec.ofChange motionMakeSpec)

/-- ITS FALSE NEIGHBOUR: 'it returns false'. Refute it at one input. -/
def motionMakeWrong : ChangeSpec := { name := "motionMake", fn := fun _ => fun
  | [d1, d2, d3] => { results := [.lit (.bool false)], args := [d1, d2, d3] }
  | _ => none }
def MotionMakeWrongFalsely : Prop := motionMakeRow.holds Tryz.pinned (OpenSpec.ofChange motionMakeWrong)

/-- 'railplanlaw30.MotionStairs': WHATEVER THE INPUT: true; the input reads as it did. -/
def motionStairsSpec : ChangeSpec := { name := "motionStairs", fn := fun _ => fun
  | [d] => { results := [.lit (.bool true)], args := [d] }
  | _ => none }
def motionStairsRow : OpenClaim := { program := "ytalfibohepbhfaagreat", sum := "79a819919edc5bc3fc0b82442a860c8880a5421ad70f989d307a107cabf3287a", func := "railplan/railplanlaw30.MotionStairs", spec := "motionStairs", apart := false }
def MotionStairsSaid : Prop := motionStairsRow.holds Tryz.pinned (OpenSpec.ofChange motionStairsSpec)

/-- ITS FALSE NEIGHBOUR: 'it returns false'. Refute it at one input. -/
def motionStairsWrong : ChangeSpec := { name := "motionStairs", fn := fun _ => fun
  | [d] => { results := [.lit (.bool false)], args := [d] }
  | _ => none }
def MotionStairsWrongFalsely : Prop := motionStairsRow.holds Tryz.pinned (OpenSpec.ofChange motionStairsWrong)

/-- 'railplanlaw30.MotionWalk': WHATEVER THE INPUT: true; the input reads as it did. -/
def motionWalkSpec : ChangeSpec := { name := "motionWalk", fn := fun _ => fun
  | [d1, d2, d3, d4] => { results := [.lit (.bool true)], args := [d1, d2, d3, d4] }
  | _ => none }
def motionWalkRow : OpenClaim := { program := "ytalfibohepbhfaagreat", sum := "79a819919edc5bc3fc0b82442a860c8880a5421ad70f989d307a107cabf3287a", func := "railplan/railplanlaw30.MotionWalk", spec := "motionWalk", apart := false }
def MotionWalkSaid : Prop := motionWalkRow.holds Tryz.pinned (OpenSpec.ofChange motionWalkSpec)

/-- ITS FALSE NEIGHBOUR: 'it returns false'. Refute it at one input. -/
def motionWalkWrong : ChangeSpec := { name := "motionWalk", fn := fun _ => fun
  | [d1, d2, d3, d4] => { results := [.lit (.bool false)], args := [d1, d2, d3, d4] }
  | _ => none }
def MotionWalkWrongFalsely : Prop := motionWalkRow.holds Tryz.pinned (OpenSpec.ofChange motionWalkWrong)

/-- 'railplanlaw30.MotionLegs': WHATEVER THE INPUT: true; the input reads as it did. -/
def motionLegsSpec : ChangeSpec := { name := "motionLegs", fn := fun _ => fun
  | [d1, d2, d3] => { results := [.lit (.bool true)], args := [d1, d2, d3] }
  | _ => none }
def motionLegsRow : OpenClaim := { program := "ytalfibohepbhfaagreat", sum := "79a819919edc5bc3fc0b82442a860c8880a5421ad70f989d307a107cabf3287a", func := "railplan/railplanlaw30.MotionLegs", spec := "motionLegs", apart := false }
def MotionLegsSaid : Prop := motionLegsRow.holds Tryz.pinned (OpenSpec.ofChange motionLegsSpec)

/-- ITS FALSE NEIGHBOUR: 'it returns false'. Refute it at one input. -/
def motionLegsWrong : ChangeSpec := { name := "motionLegs", fn := fun _ => fun
  | [d1, d2, d3] => { results := [.lit (.bool false)], args := [d1, d2, d3] }
  | _ => none }
def MotionLegsWrongFalsely : Prop := motionLegsRow.holds Tryz.pinned (OpenSpec.ofChange motionLegsWrong)

/-- 'railplanlaw30.MotionFree': WHATEVER THE INPUT: true; the input reads as it did. -/
def motionFreeSpec : ChangeSpec := { name := "motionFree", fn := fun _ => fun
  | [d1, d2, d3] => { results := [.lit (.bool true)], args := [d1, d2, d3] }
  | _ => none }
def motionFreeRow : OpenClaim := { program := "ytalfibohepbhfaagreat", sum := "79a819919edc5bc3fc0b82442a860c8880a5421ad70f989d307a107cabf3287a", func := "railplan/railplanlaw30.MotionFree", spec := "motionFree", apart := false }
def MotionFreeSaid : Prop := motionFreeRow.holds Tryz.pinned (OpenSpec.ofChange motionFreeSpec)

/-- ITS FALSE NEIGHBOUR: 'it returns false'. Refute it at one input. -/
def motionFreeWrong : ChangeSpec := { name := "motionFree", fn := fun _ => fun
  | [d1, d2, d3] => { results := [.lit (.bool false)], args := [d1, d2, d3] }
  | _ => none }
def MotionFreeWrongFalsely : Prop := motionFreeRow.holds Tryz.pinned (OpenSpec.ofChange motionFreeWrong)

/-- 'railplanlaw30.MotionFits': WHATEVER THE INPUT: true; the input reads as it did. -/
def motionFitsSpec : ChangeSpec := { name := "motionFits", fn := fun _ => fun
  | [d1, d2, d3, d4, d5, d6, d7] => { results := [.lit (.bool true)], args := [d1, d2, d3, d4, d5, d6, d7] }
  | _ => none }
def motionFitsRow : OpenClaim := { program := "ytalfibohepbhfaagreat", sum := "79a819919edc5bc3fc0b82442a860c8880a5421ad70f989d307a107cabf3287a", func := "railplan/railplanlaw30.MotionFits", spec := "motionFits", apart := false }
def MotionFitsSaid : Prop := motionFitsRow.holds Tryz.pinned (OpenSpec.ofChange motionFitsSpec)

/-- ITS FALSE NEIGHBOUR: 'it returns false'. Refute it at one input. -/
def motionFitsWrong : ChangeSpec := { name := "motionFits", fn := fun _ => fun
  | [d1, d2, d3, d4, d5, d6, d7] => { results := [.lit (.bool false)], args := [d1, d2, d3, d4, d5, d6, d7] }
  | _ => none }
def MotionFitsWrongFalsely : Prop := motionFitsRow.holds Tryz.pinned (OpenSpec.ofChange motionFitsWrong)

/- THE SECOND FORM. 'bulk': how many values and letters a reading holds, each counted each time it is reached (what is shared counts as often as it is met; a slice's spare places count too). A statement '..UptoSaid' is the law's where the arguments, and the package variables that the reading takes, are together of bulk at most 1048576: NARROWER than '..Said'. Prove '..Said' where nothing that the law and all that it calls make is longer than what came in: it says more and counts as full. Else prove '..UptoSaid'. A law counts once. -/
mutual
def uptoBulk {H : Type} : DataW H → Nat
  | .lit (.string bytes) => bytes.length + 1
  | .lit _ => 1
  | .nil => 1
  | .ptr d => uptoBulk d + 1
  | .slice elems spare => uptoBulkAll elems + uptoBulkAll spare + 1
  | .agg parts => uptoBulkAll parts + 1
  | .iface _ d => uptoBulk d + 1
  | .map entries => uptoBulkEntries entries + 1
  | .held _ => 1
def uptoBulkAll {H : Type} : List (DataW H) → Nat
  | [] => 0
  | d :: r => uptoBulk d + uptoBulkAll r
def uptoBulkEntries {H : Type} : List (Lit × DataW H) → Nat
  | [] => 0
  | x :: r => uptoBulkEntry x + uptoBulkEntries r
def uptoBulkEntry {H : Type} : Lit × DataW H → Nat
  | (.string bytes, d) => bytes.length + uptoBulk d + 1
  | (_, d) => uptoBulk d + 1
 end
def uptoSmall : (H : Type) → List (DataW H) → Bool := fun _ ds => decide (uptoBulkAll ds ≤ 1048576)
def OpenSpec.upto (s : _root_.Go.ChangeSpec) : _root_.Go.OpenSpec := { _root_.Go.OpenSpec.ofChange s with cond := some uptoSmall }

/-- 'railplanlaw30.MotionMake', WHERE WHAT IT READS IS OF BULK AT MOST 1048576: true; the input reads as it did. -/
def motionMakeUptoRow : OpenClaim := { program := "ytalfibohepbhfaagreat", sum := "79a819919edc5bc3fc0b82442a860c8880a5421ad70f989d307a107cabf3287a", func := "railplan/railplanlaw30.MotionMake", spec := "motionMake", apart := false, narrowed := true }
def MotionMakeUptoSaid : Prop := motionMakeUptoRow.holds Tryz.pinned (OpenSpec.upto motionMakeSpec)

/-- 'railplanlaw30.MotionStairs', WHERE WHAT IT READS IS OF BULK AT MOST 1048576: true; the input reads as it did. -/
def motionStairsUptoRow : OpenClaim := { program := "ytalfibohepbhfaagreat", sum := "79a819919edc5bc3fc0b82442a860c8880a5421ad70f989d307a107cabf3287a", func := "railplan/railplanlaw30.MotionStairs", spec := "motionStairs", apart := false, narrowed := true }
def MotionStairsUptoSaid : Prop := motionStairsUptoRow.holds Tryz.pinned (OpenSpec.upto motionStairsSpec)

/-- 'railplanlaw30.MotionWalk', WHERE WHAT IT READS IS OF BULK AT MOST 1048576: true; the input reads as it did. -/
def motionWalkUptoRow : OpenClaim := { program := "ytalfibohepbhfaagreat", sum := "79a819919edc5bc3fc0b82442a860c8880a5421ad70f989d307a107cabf3287a", func := "railplan/railplanlaw30.MotionWalk", spec := "motionWalk", apart := false, narrowed := true }
def MotionWalkUptoSaid : Prop := motionWalkUptoRow.holds Tryz.pinned (OpenSpec.upto motionWalkSpec)

/-- 'railplanlaw30.MotionLegs', WHERE WHAT IT READS IS OF BULK AT MOST 1048576: true; the input reads as it did. -/
def motionLegsUptoRow : OpenClaim := { program := "ytalfibohepbhfaagreat", sum := "79a819919edc5bc3fc0b82442a860c8880a5421ad70f989d307a107cabf3287a", func := "railplan/railplanlaw30.MotionLegs", spec := "motionLegs", apart := false, narrowed := true }
def MotionLegsUptoSaid : Prop := motionLegsUptoRow.holds Tryz.pinned (OpenSpec.upto motionLegsSpec)

/-- 'railplanlaw30.MotionFree', WHERE WHAT IT READS IS OF BULK AT MOST 1048576: true; the input reads as it did. -/
def motionFreeUptoRow : OpenClaim := { program := "ytalfibohepbhfaagreat", sum := "79a819919edc5bc3fc0b82442a860c8880a5421ad70f989d307a107cabf3287a", func := "railplan/railplanlaw30.MotionFree", spec := "motionFree", apart := false, narrowed := true }
def MotionFreeUptoSaid : Prop := motionFreeUptoRow.holds Tryz.pinned (OpenSpec.upto motionFreeSpec)

/-- 'railplanlaw30.MotionFits', WHERE WHAT IT READS IS OF BULK AT MOST 1048576: true; the input reads as it did. -/
def motionFitsUptoRow : OpenClaim := { program := "ytalfibohepbhfaagreat", sum := "79a819919edc5bc3fc0b82442a860c8880a5421ad70f989d307a107cabf3287a", func := "railplan/railplanlaw30.MotionFits", spec := "motionFits", apart := false, narrowed := true }
def MotionFitsUptoSaid : Prop := motionFitsUptoRow.holds Tryz.pinned (OpenSpec.upto motionFitsSpec)

end Rows
end Go.Proofs.YtalfibohepbhfaaGreat
