/- GcdDivides returns true, whatever its arguments: Gcd divides both numbers and does not change if a multiple of one is added to the other; negative numbers are rejected. -/
import Derived.Test.YtbeiagcldfiacaaArith2
import Derived.RowKit3
import Derived.OpenShut
namespace Go.Proofs.Ytbeiagcldfiacaa
open Go.RowKit
set_option linter.unusedVariables false

theorem walkGcdDivides_no (a b k : Int) (w : World) (h : a < 0 ∨ b < 0) :
    Calls Try.prog 4 #[.int .i64 a, .int .i64 b, .int .u8 k] w fun e w' => e = .returned (.bool true) ∧ ∃ n, w' = w.drewN n := by
  have H := Lib.hid h
  by_cases ha : a < 0
  · clear h
    go_enter Try.func4, Try.ntmps4
    go_wp2_with fail
    refine (gcd_no a b _ H.out).mono ?_
    rintro e w' ⟨rfl, rfl⟩
    go_wp2
    go_ret
    exact ⟨rfl, 0, rfl⟩
  · have hb : b < 0 := by omega
    clear h
    go_enter Try.func4, Try.ntmps4
    go_wp2_with fail
    refine (gcd_no a b _ H.out).mono ?_
    rintro e w' ⟨rfl, rfl⟩
    go_wp2
    go_ret
    exact ⟨rfl, 0, rfl⟩

theorem walkGcdDivides_yes (a b k : Nat) (w : World) (ha : (a : Int) ≤ 9223372036854775807) (hb : (b : Int) ≤ 9223372036854775807) (hk : (k : Int) ≤ 255) :
    Calls Try.prog 4 #[.int .i64 a, .int .i64 b, .int .u8 k] w fun e w' => e = .returned (.bool true) ∧ ∃ n, w' = w.drewN n := by
  obtain ⟨g, Hg⟩ : ∃ g, Hid (Nat.gcd a b = g) := ⟨_, Lib.hid rfl⟩
  have m1 : (a : Int) % g = 0 := by
    rw [← Hg.out]; exact Int.emod_eq_zero_of_dvd (Int.ofNat_dvd.2 (Nat.gcd_dvd_left a b))
  have m2 : (b : Int) % g = 0 := by
    rw [← Hg.out]; exact Int.emod_eq_zero_of_dvd (Int.ofNat_dvd.2 (Nat.gcd_dvd_right a b))
  have hg : (g : Int) ≤ 9223372036854775807 := by
    rcases Nat.eq_zero_or_pos a with h | h
    · subst h; rw [← Hg.out, Nat.gcd_zero_left]; exact hb
    · have := Nat.gcd_le_left b h; rw [Hg.out] at this; omega
  by_cases h0 : g = 0
  · have z : a = 0 ∧ b = 0 := Nat.gcd_eq_zero_iff.1 (Hg.out.trans h0)
    obtain ⟨rfl, rfl⟩ := z
    subst h0
    have Hz : Hid (Nat.gcd (0 + k * 0) 0 = 0) := Lib.hid (by simp)
    clear m1 m2 hg
    go_enter Try.func4, Try.ntmps4
    go_wp2_with fail
    refine (gcd_any 0 0 _ (by omega) (by omega)).mono ?_
    rintro e w' ⟨rfl, n1, rfl⟩
    go_wp2_with fail
    refine (refGcd_any 0 0 _ (by omega) (by omega)).mono ?_
    rintro e w' ⟨rfl, n2, rfl⟩
    go_wp2_with fail
    refine (gcd_any 0 0 _ (by omega) (by omega)).mono ?_
    rintro e w' ⟨rfl, n3, rfl⟩
    go_wp2
    go_ret
    exact ⟨rfl, _, rfl⟩
  · have g1 : 0 < (g : Int) := by omega
    have g2 : ((g : Int) == 0) = false := beq_eq_false_iff_ne.2 (by omega)
    have Hz : Hid (Nat.gcd (a + k * b) b = g) := Lib.hid (by rw [Nat.gcd_add_mul_right_left, Hg.out])
    clear h0
    by_cases h1 : 1099511627776 < a
    · go_enter Try.func4, Try.ntmps4
      go_wp2_with fail
      refine (gcd_any a b _ ha hb).mono ?_
      rintro e w' ⟨rfl, n1, rfl⟩
      rw [Hg.out]
      go_wp2_with fail
      refine (refGcd_any a b _ ha hb).mono ?_
      rintro e w' ⟨rfl, n2, rfl⟩
      rw [Hg.out]
      go_wp2
      go_ret
      exact ⟨rfl, _, rfl⟩
    · by_cases h2 : 1099511627776 < b
      · go_enter Try.func4, Try.ntmps4
        go_wp2_with fail
        refine (gcd_any a b _ ha hb).mono ?_
        rintro e w' ⟨rfl, n1, rfl⟩
        rw [Hg.out]
        go_wp2_with fail
        refine (refGcd_any a b _ ha hb).mono ?_
        rintro e w' ⟨rfl, n2, rfl⟩
        rw [Hg.out]
        go_wp2
        go_ret
        exact ⟨rfl, _, rfl⟩
      · have hkb : (k : Int) * b ≤ 255 * 1099511627776 := Int.mul_le_mul hk (by omega) (by omega) (by omega)
        have hkb0 : 0 ≤ (k : Int) * b := Int.mul_nonneg (by omega) (by omega)
        go_enter Try.func4, Try.ntmps4
        go_wp2_with fail
        refine (gcd_any a b _ ha hb).mono ?_
        rintro e w' ⟨rfl, n1, rfl⟩
        rw [Hg.out]
        go_wp2_with fail
        refine (refGcd_any a b _ ha hb).mono ?_
        rintro e w' ⟨rfl, n2, rfl⟩
        rw [Hg.out]
        go_wp2_with fail
        rw [show (a : Int) + (k : Int) * (b : Int) = ((a + k * b : Nat) : Int) by simp]
        refine (gcd_any (a + k * b) b _ (by simp; omega) hb).mono ?_
        rintro e w' ⟨rfl, n3, rfl⟩
        rw [Hz.out]
        go_wp2
        go_ret
        exact ⟨rfl, _, rfl⟩

theorem grown_drewN (w : World) (n : Nat) : Grown w (w.drewN n) := (Grown.refl w : _)

theorem W.GcdDivides (a0 : Int) (a1 : Int) (a2 : Int) (w0 : (Lit.int .i64 a0).wf = true) (w1 : (Lit.int .i64 a1).wf = true) (w2 : (Lit.int .u8 a2).wf = true) (w : World) :
    Calls Try.prog 4 #[.int .i64 a0, .int .i64 a1, .int .u8 a2] w fun e w' => e = .returned (.bool true) ∧ Grown w w' := by
  by_cases h : a0 < 0 ∨ a1 < 0
  · exact (walkGcdDivides_no a0 a1 a2 w h).mono fun e w' ⟨he, n, hw⟩ => ⟨he, by subst hw; exact grown_drewN _ _⟩
  · obtain ⟨a, rfl⟩ := Int.eq_ofNat_of_zero_le (show 0 ≤ a0 by omega)
    obtain ⟨b, rfl⟩ := Int.eq_ofNat_of_zero_le (show 0 ≤ a1 by omega)
    obtain ⟨k, rfl⟩ := Int.eq_ofNat_of_zero_le (bounds_u8 w2).1
    exact (walkGcdDivides_yes a b k w (bounds_i64 w0).2 (bounds_i64 w1).2 (bounds_u8 w2).2).mono fun e w' ⟨he, n, hw⟩ => ⟨he, by subst hw; exact grown_drewN _ _⟩
end Go.Proofs.Ytbeiagcldfiacaa
