/- AddIsExact returns true, whatever its arguments: Add returns the sum, or ErrOverflow exactly if the sum is not representable. -/
import Derived.Test.YtbeiagcldfiacaaArith2
import Derived.RowKit3
import Derived.OpenShut
namespace Go.Proofs.Ytbeiagcldfiacaa
open Go.RowKit
set_option linter.unusedVariables false

theorem walkAddIsExact (a b : Int) (w : World) (ha : -9223372036854775808 ≤ a) (ha' : a ≤ 9223372036854775807) (hb : -9223372036854775808 ≤ b) (hb' : b ≤ 9223372036854775807) :
    Calls Try.prog 3 #[.int .i64 a, .int .i64 b] w fun e w' => e = .returned (.bool true) ∧ w = w' := by
  have h34 : addB 3 4 = true := by decide
  have H34 := Lib.hid h34
  clear h34
  by_cases h : addB a b = true
  · have H := Lib.hid h
    clear h
    go_enter Try.func3, Try.ntmps3
    go_wp2_with fail
    refine (add_yes a b _ ha ha' hb hb' H.out).mono ?_
    rintro e w' ⟨rfl, rfl⟩
    go_wp2_with fail
    refine (refAdd_yes a b _ ha ha' hb hb' H.out).mono ?_
    rintro e w' ⟨rfl, rfl⟩
    go_wp2_with fail
    refine (add_yes 3 4 _ (by omega) (by omega) (by omega) (by omega) H34.out).mono ?_
    rintro e w' ⟨rfl, rfl⟩
    go_wp2
    go_ret
    exact ⟨rfl, rfl⟩
  · have H := Lib.hid (Bool.eq_false_iff.2 h)
    clear h
    go_enter Try.func3, Try.ntmps3
    go_wp2_with fail
    refine (add_no a b _ ha ha' hb hb' H.out).mono ?_
    rintro e w' ⟨rfl, rfl⟩
    go_wp2_with fail
    refine (refAdd_no a b _ ha ha' hb hb' H.out).mono ?_
    rintro e w' ⟨rfl, rfl⟩
    go_wp2_with fail
    refine (add_yes 3 4 _ (by omega) (by omega) (by omega) (by omega) H34.out).mono ?_
    rintro e w' ⟨rfl, rfl⟩
    go_wp2
    go_ret
    exact ⟨rfl, rfl⟩

theorem W.AddIsExact (a0 : Int) (a1 : Int) (w0 : (Lit.int .i64 a0).wf = true) (w1 : (Lit.int .i64 a1).wf = true) (w : World) :
    Calls Try.prog 3 #[.int .i64 a0, .int .i64 a1] w fun e w' => e = .returned (.bool true) ∧ Grown w w' :=
  (walkAddIsExact a0 a1 w (bounds_i64 w0).1 (bounds_i64 w0).2 (bounds_i64 w1).1 (bounds_i64 w1).2).mono fun e w' ⟨he, hw⟩ => ⟨he, by subst hw; exact Grown.refl _⟩
end Go.Proofs.Ytbeiagcldfiacaa
