/- DivisionWithRemainder returns true, whatever its arguments: FloorDiv and Mod satisfy a = b * FloorDiv + Mod. -/
import Derived.Test.YtbeiagcldfiacaaArith2
import Derived.RowKit3
import Derived.OpenShut
namespace Go.Proofs.Ytbeiagcldfiacaa
open Go.RowKit
set_option linter.unusedVariables false

theorem walkRemainder_no1 (a b : Int) (w : World) (hb : b < 1) :
    Calls Try.prog 11 #[.int .i64 a, .int .i64 b] w fun e w' => e = .returned (.bool true) ∧ w = w' := by
  go_enter Try.func11, Try.ntmps11
  (go_wp2_with fail; refine (mod_any 7 4 _ (by omega) (by omega) (by omega) (by omega)).mono ?_; rintro e w' ⟨rfl, rfl⟩)
  go_wp2
  go_ret
  exact ⟨rfl, rfl⟩

theorem walkRemainder_no2 (a b : Int) (w : World) (hb : 1 ≤ b) (ha : a < -4611686018427387904) :
    Calls Try.prog 11 #[.int .i64 a, .int .i64 b] w fun e w' => e = .returned (.bool true) ∧ w = w' := by
  go_enter Try.func11, Try.ntmps11
  (go_wp2_with fail; refine (mod_any 7 4 _ (by omega) (by omega) (by omega) (by omega)).mono ?_; rintro e w' ⟨rfl, rfl⟩)
  go_wp2
  go_ret
  exact ⟨rfl, rfl⟩

theorem walkRemainder_yes (a b : Int) (w : World) (ha : -4611686018427387904 ≤ a) (ha' : a ≤ 9223372036854775807) (hb : 1 ≤ b) (hb' : b ≤ 9223372036854775807) :
    Calls Try.prog 11 #[.int .i64 a, .int .i64 b] w fun e w' => e = .returned (.bool true) ∧ w = w' := by
  obtain ⟨f, Hf⟩ : ∃ f, Hid (a / b = f) := ⟨_, Lib.hid rfl⟩
  obtain ⟨m, Hm⟩ : ∃ m, Hid (a % b = m) := ⟨_, Lib.hid rfl⟩
  have m1 : 0 ≤ m := by rw [← Hm.out]; exact Int.emod_nonneg a (by omega)
  have m2 : m < b := by rw [← Hm.out]; exact Int.emod_lt_of_pos a (by omega)
  have he : f * b + m = a := by rw [← Hf.out, ← Hm.out]; exact Int.ediv_mul_add_emod a b
  by_cases hfit : -9223372036854775808 ≤ f * b
  · have hfit2 : f * b ≤ 9223372036854775807 := by omega
    have hq : (f * b + m == a) = true := beq_iff_eq.2 he
    have hs1 : f * b + m ≤ 9223372036854775807 := by omega
    have hs2 : -9223372036854775808 ≤ f * b + m := by omega
    clear he
    go_enter Try.func11, Try.ntmps11
    (go_wp2_with fail; refine (floorDiv_any a b _ (by omega) ha' hb hb').mono ?_; rintro e w' ⟨rfl, rfl⟩)
    rw [Hf.out]
    (go_wp2_with fail; refine (mod_any a b _ (by omega) ha' hb hb').mono ?_; rintro e w' ⟨rfl, rfl⟩)
    rw [Hm.out]
    (go_wp2_with fail; refine (mod_any 7 4 _ (by omega) (by omega) (by omega) (by omega)).mono ?_; rintro e w' ⟨rfl, rfl⟩)
    go_wp2
    go_ret
    exact ⟨rfl, rfl⟩
  · exfalso
    rcases Int.lt_or_le f 0 with h | h
    · by_cases h1 : f = -1
      · subst h1; omega
      · have := Int.mul_le_mul_of_nonneg_right (show f ≤ -2 by omega) (show 0 ≤ b by omega)
        omega
    · have := Int.mul_nonneg h (show 0 ≤ b by omega)
      omega

theorem W.DivisionWithRemainder (a0 : Int) (a1 : Int) (w0 : (Lit.int .i64 a0).wf = true) (w1 : (Lit.int .i64 a1).wf = true) (w : World) :
    Calls Try.prog 11 #[.int .i64 a0, .int .i64 a1] w fun e w' => e = .returned (.bool true) ∧ Grown w w' := by
  have hb := bounds_i64 w0
  have hu := bounds_i64 w1
  by_cases h : a1 < 1
  · exact (walkRemainder_no1 a0 a1 w h).mono fun e w' ⟨he, hw⟩ => ⟨he, by subst hw; exact Grown.refl _⟩
  · by_cases h2 : a0 < -4611686018427387904
    · exact (walkRemainder_no2 a0 a1 w (by omega) h2).mono fun e w' ⟨he, hw⟩ => ⟨he, by subst hw; exact Grown.refl _⟩
    · exact (walkRemainder_yes a0 a1 w (by omega) hb.2 (by omega) hu.2).mono fun e w' ⟨he, hw⟩ => ⟨he, by subst hw; exact Grown.refl _⟩
end Go.Proofs.Ytbeiagcldfiacaa
