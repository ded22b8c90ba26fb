/-
  No cell of these rows narrows 'for every input' (looked for: loops, veiled, ifaces, maps, wideKeys, modest, calm, conditions, laid).
  DERIVED. THE GIVEN ROWS OF THIS SEAT. 3 by the template 'for every input the law returns true; each argument reads behind the call as it read before'; 0 by the template 'total and deterministic' (their statements: YtalfibohepbhfaaTotals.lean).
  GIVEN WITH THE SEED: the statements are not yours to turn. If you find one false, say at which input.
  Laid BY PROGRAM, IN A SANDBOX (cutbox-rows.mjs): the forced cells as the released guide's own fill.sh prints them over the translation 78b44aa3c20750d7… (all of the seat's roots in one cut). By AI agents, Wed Nov 11 2026. No macro, syntax, notation, axiom, sorry.
-/
import Derived.Test.YtalfibohepbhfaaChecked
import GoSem.Claim
import GoSem.ClaimJoined
import GoSem.ClaimMapViews
import Derived.JoinedTies
import Derived.KernelRfl
namespace Go.Proofs.Ytalfibohepbhfaa
/- THE CELL 'sum', in the pinned program and in every row, IS THE sha256 OF THE DUMP (.gsa) THAT YtalfibohepbhfaaProg.lean LOADS. Nothing in Lean hashes anything: it is a label: what it is worth is what the hold of that sum in a sandbox is worth. -/
noncomputable def Try.pinned : Pinned := { name := "ytalfibohepbhfaa", sum := "78b44aa3c20750d76ea238420ad388a40d3af35ef0995c956ac338f4765f0327", checked := Try.checked }
namespace Rows
def none {H : Type} : Left H := { results := [], args := [] }

/-- 'railplanlaw30.MotionErrors': WHATEVER THE INPUT: true; the input reads as it did. -/
def motionErrorsSpec : ChangeSpec := { name := "motionErrors", fn := fun _ => fun
  | [d1, d2, d3, d4, d5, d6, d7, d8] => { results := [.lit (.bool true)], args := [d1, d2, d3, d4, d5, d6, d7, d8] }
  | _ => none }
def motionErrorsRow : OpenClaim := { program := "ytalfibohepbhfaa", sum := "78b44aa3c20750d76ea238420ad388a40d3af35ef0995c956ac338f4765f0327", func := "railplan/railplanlaw30.MotionErrors", spec := "motionErrors", apart := false }
def MotionErrorsSaid : Prop := motionErrorsRow.holds Try.pinned (OpenSpec.ofChange motionErrorsSpec)

/-- ITS FALSE NEIGHBOUR: 'it returns false'. Refute it at one input. -/
def motionErrorsWrong : ChangeSpec := { name := "motionErrors", fn := fun _ => fun
  | [d1, d2, d3, d4, d5, d6, d7, d8] => { results := [.lit (.bool false)], args := [d1, d2, d3, d4, d5, d6, d7, d8] }
  | _ => none }
def MotionErrorsWrongFalsely : Prop := motionErrorsRow.holds Try.pinned (OpenSpec.ofChange motionErrorsWrong)

/-- 'railplanlaw30.MotionNearer': WHATEVER THE INPUT: true; the input reads as it did. -/
def motionNearerSpec : ChangeSpec := { name := "motionNearer", fn := fun _ => fun
  | [d] => { results := [.lit (.bool true)], args := [d] }
  | _ => none }
def motionNearerRow : OpenClaim := { program := "ytalfibohepbhfaa", sum := "78b44aa3c20750d76ea238420ad388a40d3af35ef0995c956ac338f4765f0327", func := "railplan/railplanlaw30.MotionNearer", spec := "motionNearer", apart := false }
def MotionNearerSaid : Prop := motionNearerRow.holds Try.pinned (OpenSpec.ofChange motionNearerSpec)

/-- ITS FALSE NEIGHBOUR: 'it returns false'. Refute it at one input. -/
def motionNearerWrong : ChangeSpec := { name := "motionNearer", fn := fun _ => fun
  | [d] => { results := [.lit (.bool false)], args := [d] }
  | _ => none }
def MotionNearerWrongFalsely : Prop := motionNearerRow.holds Try.pinned (OpenSpec.ofChange motionNearerWrong)

/-- 'railplanlaw30.MotionStops': WHATEVER THE INPUT: true; the input reads as it did. -/
def motionStopsSpec : ChangeSpec := { name := "motionStops", fn := fun _ => fun
  | [d] => { results := [.lit (.bool true)], args := [d] }
  | _ => none }
def motionStopsRow : OpenClaim := { program := "ytalfibohepbhfaa", sum := "78b44aa3c20750d76ea238420ad388a40d3af35ef0995c956ac338f4765f0327", func := "railplan/railplanlaw30.MotionStops", spec := "motionStops", apart := false }
def MotionStopsSaid : Prop := motionStopsRow.holds Try.pinned (OpenSpec.ofChange motionStopsSpec)

/-- ITS FALSE NEIGHBOUR: 'it returns false'. Refute it at one input. -/
def motionStopsWrong : ChangeSpec := { name := "motionStops", fn := fun _ => fun
  | [d] => { results := [.lit (.bool false)], args := [d] }
  | _ => none }
def MotionStopsWrongFalsely : Prop := motionStopsRow.holds Try.pinned (OpenSpec.ofChange motionStopsWrong)

/- THE SECOND FORM. 'bulk': how many values and letters a reading holds, each counted each time it is reached (what is shared counts as often as it is met; a slice's spare places count too). A statement '..UptoSaid' is the law's where the arguments, and the package variables that the reading takes, are together of bulk at most 1048576: NARROWER than '..Said'. Prove '..Said' where nothing that the law and all that it calls make is longer than what came in: it says more and counts as full. Else prove '..UptoSaid'. A law counts once. -/
mutual
def uptoBulk {H : Type} : DataW H → Nat
  | .lit (.string bytes) => bytes.length + 1
  | .lit _ => 1
  | .nil => 1
  | .ptr d => uptoBulk d + 1
  | .slice elems spare => uptoBulkAll elems + uptoBulkAll spare + 1
  | .agg parts => uptoBulkAll parts + 1
  | .iface _ d => uptoBulk d + 1
  | .map entries => uptoBulkEntries entries + 1
  | .held _ => 1
def uptoBulkAll {H : Type} : List (DataW H) → Nat
  | [] => 0
  | d :: r => uptoBulk d + uptoBulkAll r
def uptoBulkEntries {H : Type} : List (Lit × DataW H) → Nat
  | [] => 0
  | x :: r => uptoBulkEntry x + uptoBulkEntries r
def uptoBulkEntry {H : Type} : Lit × DataW H → Nat
  | (.string bytes, d) => bytes.length + uptoBulk d + 1
  | (_, d) => uptoBulk d + 1
 end
def uptoSmall : (H : Type) → List (DataW H) → Bool := fun _ ds => decide (uptoBulkAll ds ≤ 1048576)
def OpenSpec.upto (s : _root_.Go.ChangeSpec) : _root_.Go.OpenSpec := { _root_.Go.OpenSpec.ofChange s with cond := some uptoSmall }

/-- 'railplanlaw30.MotionErrors', WHERE WHAT IT READS IS OF BULK AT MOST 1048576: true; the input reads as it did. -/
def motionErrorsUptoRow : OpenClaim := { program := "ytalfibohepbhfaa", sum := "78b44aa3c20750d76ea238420ad388a40d3af35ef0995c956ac338f4765f0327", func := "railplan/railplanlaw30.MotionErrors", spec := "motionErrors", apart := false, narrowed := true }
def MotionErrorsUptoSaid : Prop := motionErrorsUptoRow.holds Try.pinned (OpenSpec.upto motionErrorsSpec)

/-- 'railplanlaw30.MotionNearer', WHERE WHAT IT READS IS OF BULK AT MOST 1048576: true; the input reads as it did. -/
def motionNearerUptoRow : OpenClaim := { program := "ytalfibohepbhfaa", sum := "78b44aa3c20750d76ea238420ad388a40d3af35ef0995c956ac338f4765f0327", func := "railplan/railplanlaw30.MotionNearer", spec := "motionNearer", apart := false, narrowed := true }
def MotionNearerUptoSaid : Prop := motionNearerUptoRow.holds Try.pinned (OpenSpec.upto motionNearerSpec)

/-- 'railplanlaw30.MotionStops', WHERE WHAT IT READS IS OF BULK AT MOST 1048576: true; the input reads as it did. -/
def motionStopsUptoRow : OpenClaim := { program := "ytalfibohepbhfaa", sum := "78b44aa3c20750d76ea238420ad388a40d3af35ef0995c956ac338f4765f0327", func := "railplan/railplanlaw30.MotionStops", spec := "motionStops", apart := false, narrowed := true }
def MotionStopsUptoSaid : Prop := motionStopsUptoRow.holds Try.pinned (OpenSpec.upto motionStopsSpec)

end Rows
end Go.Proofs.Ytalfibohepbhfaa
