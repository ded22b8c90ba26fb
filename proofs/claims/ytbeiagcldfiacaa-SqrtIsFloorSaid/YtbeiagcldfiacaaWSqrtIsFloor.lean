/- SqrtIsFloor returns true, whatever its arguments: the square of Sqrt is at most the number, and the square of the next integer is greater. -/
import Derived.Test.YtbeiagcldfiacaaArith2
import Derived.Test.YtbeiagcldfiacaaShr
import Derived.RowKit3
import Derived.OpenShut
namespace Go.Proofs.Ytbeiagcldfiacaa
open Go.RowKit
set_option linter.unusedVariables false

theorem isqrt_50 : Pl.isqrt 50 = 7 := (Pl.isqrt_unique 50 7 (by omega) (by omega)).symm

theorem walkSqrt_neg (n s m : Int) (w : World) (hs : 0 ≤ s) (hs' : s ≤ 255) (hn : -9223372036854775808 ≤ n) (hn' : n ≤ 9223372036854775807) (Hm : Hid (n / 2 ^ (s % 63).toNat = m)) (h1 : -9223372036854775808 ≤ m) (h2 : m < 0) :
    Calls Try.prog 6 #[.int .i64 n, .int .u8 s] w fun e w' => e = .returned (.bool true) ∧ w = w' := by
  go_enter Try.func6, Try.ntmps6
  go_wp2_with fail
  rw [Hm.out]
  refine (sqrt_neg m _ h2 h1).mono ?_
  rintro e w' ⟨rfl, rfl⟩
  (go_wp2_with fail; refine (sqrt_any 50 _ (by omega)).mono ?_; rintro e w' ⟨rfl, rfl⟩)
  rw [isqrt_50]
  go_wp2
  go_ret
  exact ⟨rfl, rfl⟩

set_option maxRecDepth 100000 in
theorem walkSqrt_pos (n s : Int) (m : Nat) (w : World) (hs : 0 ≤ s) (hs' : s ≤ 255) (hn : -9223372036854775808 ≤ n) (hn' : n ≤ 9223372036854775807) (Hm : Hid (n / 2 ^ (s % 63).toNat = (m : Int))) (h2 : (m : Int) ≤ 9223372036854775807) :
    Calls Try.prog 6 #[.int .i64 n, .int .u8 s] w fun e w' => e = .returned (.bool true) ∧ w = w' := by
  obtain ⟨r, Hr⟩ : ∃ r : Int, Hid ((Pl.isqrt m : Int) = r) := ⟨_, Lib.hid rfl⟩
  obtain ⟨q1, q2⟩ := Pl.isqrt_spec m
  have q3 : r ≤ 3037000499 := by have := Pl.isqrt_lt m (by omega); have := Hr.out; omega
  have q0 : 0 ≤ r := by rw [← Hr.out]; omega
  have q4 : r * r ≤ m := by rw [← Hr.out]; exact_mod_cast q1
  have q5 : (m : Int) < (r + 1) * (r + 1) := by rw [← Hr.out]; exact_mod_cast q2
  have q6 : 0 ≤ r * r := Int.mul_nonneg (by omega) (by omega)
  clear q1 q2
  by_cases hr : r = 3037000499
  · have q7 : (r == 3037000499) = true := beq_iff_eq.2 (by omega)
    clear q5 hr
    go_enter Try.func6, Try.ntmps6
    go_wp2_with fail
    rw [Hm.out]
    refine (sqrt_any m _ h2).mono ?_
    rintro e w' ⟨rfl, rfl⟩
    rw [Hr.out]
    (go_wp2_with fail; refine (sqrt_any 50 _ (by omega)).mono ?_; rintro e w' ⟨rfl, rfl⟩)
    rw [isqrt_50]
    go_wp2
    go_ret
    exact ⟨rfl, rfl⟩
  · have q7 : (r == 3037000499) = false := beq_eq_false_iff_ne.2 (by omega)
    have q8 : (r + 1) * (r + 1) ≤ 9223372036854775807 := by
      have : (r + 1) * (r + 1) ≤ 3037000499 * 3037000499 := Int.mul_le_mul (by omega) (by omega) (by omega) (by omega)
      omega
    have q9 : 0 ≤ (r + 1) * (r + 1) := Int.mul_nonneg (by omega) (by omega)
    clear hr
    go_enter Try.func6, Try.ntmps6
    go_wp2_with fail
    rw [Hm.out]
    refine (sqrt_any m _ h2).mono ?_
    rintro e w' ⟨rfl, rfl⟩
    rw [Hr.out]
    (go_wp2_with fail; refine (sqrt_any 50 _ (by omega)).mono ?_; rintro e w' ⟨rfl, rfl⟩)
    rw [isqrt_50]
    go_wp2
    go_ret
    exact ⟨rfl, rfl⟩

theorem W.SqrtIsFloor (a0 : Int) (a1 : Int) (w0 : (Lit.int .i64 a0).wf = true) (w1 : (Lit.int .u8 a1).wf = true) (w : World) :
    Calls Try.prog 6 #[.int .i64 a0, .int .u8 a1] w fun e w' => e = .returned (.bool true) ∧ Grown w w' := by
  have hb := bounds_i64 w0
  have hu := bounds_u8 w1
  obtain ⟨m, Hm⟩ : ∃ m, Hid (a0 / 2 ^ (a1 % 63).toNat = m) := ⟨_, Lib.hid rfl⟩
  have hm := shr_bounds a0 (a1 % 63).toNat hb.1 hb.2
  rw [Hm.out] at hm
  by_cases h : m < 0
  · exact (walkSqrt_neg a0 a1 m w hu.1 hu.2 hb.1 hb.2 Hm hm.1 h).mono fun e w' ⟨he, hw⟩ => ⟨he, by subst hw; exact Grown.refl _⟩
  · obtain ⟨k, rfl⟩ := Int.eq_ofNat_of_zero_le (show 0 ≤ m by omega)
    exact (walkSqrt_pos a0 a1 k w hu.1 hu.2 hb.1 hb.2 Hm hm.2).mono fun e w' ⟨he, hw⟩ => ⟨he, by subst hw; exact Grown.refl _⟩
end Go.Proofs.Ytbeiagcldfiacaa
