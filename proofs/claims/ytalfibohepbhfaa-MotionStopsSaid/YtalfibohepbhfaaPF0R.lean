/- What the claims use of their texts: Wn1. -/
import Derived.Test.YtalfibohepbhfaaPFF
set_option linter.unusedVariables false
set_option linter.unusedSimpArgs false
set_option maxRecDepth 4000
set_option maxHeartbeats 4000000
namespace Go.Proofs.Ytalfibohepbhfaa
open Go.RowKit
theorem W.MotionStops (a0 : Option Addr) (len0 cap0 : Nat) (z0 : List Int) (w : World) (w0 : Av.IsRowI w a0 len0 cap0 z0) (s0 : ∀ x, a0 = some x → x.spot = none) :
  Calls Try.prog 5 #[.slice a0 len0 cap0] w fun e w' => e = .returned (.bool true) ∧ Below w.heap.size w w' := by
 obtain ⟨h0, b0⟩ := Av.rowI_rep w0 s0
 refine Av.law_calls (Av.stops_ok _ b0) w _ rfl (fun i hi hi' l => ?_) (fun x hx => by
  simp at hx
  subst hx
  rfl)
 match i, hi with
 | 0, _ => exact h0 l
end Go.Proofs.Ytalfibohepbhfaa
