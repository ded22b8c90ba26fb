/- ArithExamples returns true: the examples of chapter 1 hold. -/
import Derived.Test.YtbeiagcldfiacaaArith2
import Derived.RowKit3
namespace Go.Proofs.Ytbeiagcldfiacaa
open Go.RowKit
set_option linter.unusedVariables false

theorem isqrt_99 : Pl.isqrt 99 = 9 := (Pl.isqrt_unique 99 9 (by omega) (by omega)).symm

theorem W.ArithExamples (w : World) :
    Calls Try.prog 13 #[] w fun e w' => e = .returned (.bool true) ∧ Grown w w' := by
  have h1 : Hid ((-7 : Int) / 2 = -4) := Lib.hid (by omega)
  have h2 : Hid (Pl.cdiv (-7) 2 = -3) := Lib.hid (by unfold Pl.cdiv; omega)
  have h3 : Hid ((-7 : Int) % 5 = 3) := Lib.hid (by omega)
  have h4 : Hid (addB 9223372036854775807 1 = false) := Lib.hid (by decide)
  have h5 : Hid (Nat.gcd 12 18 = 6) := Lib.hid (by decide)
  go_enter Try.func13, Try.ntmps13
  (go_wp2_with fail; refine (floorDiv_any (-7) 2 _ (by omega) (by omega) (by omega) (by omega)).mono ?_; rintro e w' ⟨rfl, rfl⟩)
  rw [h1.out]
  (go_wp2_with fail; refine (ceilDiv_any (-7) 2 _ (by omega) (by omega) (by omega) (by omega)).mono ?_; rintro e w' ⟨rfl, rfl⟩)
  rw [h2.out]
  (go_wp2_with fail; refine (gcd_any 12 18 _ (by omega) (by omega)).mono ?_; rintro e w' ⟨rfl, n1, rfl⟩)
  rw [h5.out]
  (go_wp2_with fail; refine (add_no 9223372036854775807 1 _ (by omega) (by omega) (by omega) (by omega) h4.out).mono ?_; rintro e w' ⟨rfl, rfl⟩)
  (go_wp2_with fail; refine (mod_any (-7) 5 _ (by omega) (by omega) (by omega) (by omega)).mono ?_; rintro e w' ⟨rfl, rfl⟩)
  rw [h3.out]
  (go_wp2_with fail; refine (sqrt_any 99 _ (by omega)).mono ?_; rintro e w' ⟨rfl, rfl⟩)
  rw [isqrt_99]
  go_wp2
  go_ret
  exact ⟨rfl, (Grown.refl w : _)⟩
end Go.Proofs.Ytbeiagcldfiacaa
