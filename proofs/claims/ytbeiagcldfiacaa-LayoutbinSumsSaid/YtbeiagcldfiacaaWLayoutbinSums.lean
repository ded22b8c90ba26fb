/- LayoutbinSums returns true, whatever its argument: Sum returns the CRC-32 for every string. -/
import Derived.Test.YtbeiagcldfiacaaCrc
import Derived.RowKit3
namespace Go.Proofs.Ytbeiagcldfiacaa
open Go.RowKit
set_option linter.unusedVariables false

theorem W.LayoutbinSums (a0 : ByteArray) (w0 : a0.size ≤ maxLen) (w : World) :
    Calls Try.prog 7 #[.string a0] w fun e w' => e = .returned (.bool true) ∧ Grown w w' := by
  have H0 := Lib.hid w0
  unfold maxLen at w0
  go_enter Try.func7, Try.ntmps7
  (go_wp2_with fail; refine (awake_any _).mono ?_; rintro e w' ⟨rfl, rfl⟩)
  (go_wp2_with fail; refine (sum_any a0 _ (by unfold maxLen at H0; exact H0.out)).mono ?_; rintro e w' ⟨rfl, rfl⟩)
  (go_wp2_with fail; refine (refCrc_any a0 _ (by unfold maxLen at H0; exact H0.out)).mono ?_; rintro e w' ⟨rfl, rfl⟩)
  go_wp2
  go_ret
  exact ⟨rfl, Grown.refl _⟩
end Go.Proofs.Ytbeiagcldfiacaa
