/- DivisionsBracket returns true, whatever its arguments: FloorDiv and CeilDiv are the two integers next to the quotient, and equal exactly if it is an integer; a divisor below 1 is rejected. -/
import Derived.Test.YtbeiagcldfiacaaArith2
import Derived.RowKit3
import Derived.OpenShut
namespace Go.Proofs.Ytbeiagcldfiacaa
open Go.RowKit
set_option linter.unusedVariables false

theorem walkBracket_no (a b : Int) (w : World) (hb : b < 1) :
    Calls Try.prog 10 #[.int .i64 a, .int .i64 b] w fun e w' => e = .returned (.bool true) ∧ w = w' := by
  go_enter Try.func10, Try.ntmps10
  (go_wp2_with fail; refine (floorDiv_zero a b _ hb).mono ?_; rintro e w' ⟨rfl, rfl⟩)
  (go_wp2_with fail; refine (ceilDiv_zero a b _ hb).mono ?_; rintro e w' ⟨rfl, rfl⟩)
  go_wp2
  go_ret
  exact ⟨rfl, rfl⟩

theorem bracket_plain (a b : Int) (hb : 1 ≤ b) : (Pl.cdiv a b = a / b ↔ a.tmod b = 0) ∧ Pl.cdiv a b - a / b ≤ 1 ∧ 0 ≤ Pl.cdiv a b - a / b := by
  by_cases h : 0 ≤ a
  · rw [Int.tmod_eq_emod_of_nonneg h]
    have h1 := Int.emod_nonneg a (show b ≠ 0 by omega)
    by_cases hr : 0 < a % b
    · rw [Pl.cdiv_pos a b h hb hr]; omega
    · rw [Pl.cdiv_zero a b hb (by omega)]; omega
  · obtain ⟨h1, h2, h3, h4⟩ := Pl.tdiv_of_neg a b (by omega) hb
    obtain ⟨g1, g2, g3, g4⟩ := Pl.tmod_of_neg a b (by omega) hb
    rw [Pl.cdiv_neg a b (by omega) hb]
    by_cases ht : a.tmod b < 0
    · have := h3 ht; omega
    · have := h4 ht; omega

theorem walkBracket_yes (a b : Int) (w : World) (ha : -9223372036854775808 ≤ a) (ha' : a ≤ 9223372036854775807) (hb : 1 ≤ b) (hb' : b ≤ 9223372036854775807) :
    Calls Try.prog 10 #[.int .i64 a, .int .i64 b] w fun e w' => e = .returned (.bool true) ∧ w = w' := by
  obtain ⟨h1, h2, h3⟩ := bracket_plain a b hb
  obtain ⟨f, Hf⟩ : ∃ f, Hid (a / b = f) := ⟨_, Lib.hid rfl⟩
  obtain ⟨c, Hc⟩ : ∃ c, Hid (Pl.cdiv a b = c) := ⟨_, Lib.hid rfl⟩
  rw [Hf.out, Hc.out] at h1 h2 h3
  have h4 : (c == f) = (a.tmod b == 0) := by rw [Bool.eq_iff_iff]; simp [h1]
  clear h1
  go_enter Try.func10, Try.ntmps10
  (go_wp2_with fail; refine (floorDiv_any a b _ ha ha' hb hb').mono ?_; rintro e w' ⟨rfl, rfl⟩)
  rw [Hf.out]
  (go_wp2_with fail; refine (ceilDiv_any a b _ ha ha' hb hb').mono ?_; rintro e w' ⟨rfl, rfl⟩)
  rw [Hc.out]
  (go_wp2_with fail; refine (refFloor_any a b _ ha ha' hb hb').mono ?_; rintro e w' ⟨rfl, rfl⟩)
  rw [Hf.out]
  (go_wp2_with fail; refine (refCeil_any a b _ ha ha' hb hb').mono ?_; rintro e w' ⟨rfl, rfl⟩)
  rw [Hc.out]
  go_wp2
  go_ret
  exact ⟨rfl, rfl⟩

theorem W.DivisionsBracket (a0 : Int) (a1 : Int) (w0 : (Lit.int .i64 a0).wf = true) (w1 : (Lit.int .i64 a1).wf = true) (w : World) :
    Calls Try.prog 10 #[.int .i64 a0, .int .i64 a1] w fun e w' => e = .returned (.bool true) ∧ Grown w w' := by
  have hb := bounds_i64 w0
  have hu := bounds_i64 w1
  by_cases h : a1 < 1
  · exact (walkBracket_no a0 a1 w h).mono fun e w' ⟨he, hw⟩ => ⟨he, by subst hw; exact Grown.refl _⟩
  · exact (walkBracket_yes a0 a1 w hb.1 hb.2 (by omega) hu.2).mono fun e w' ⟨he, hw⟩ => ⟨he, by subst hw; exact Grown.refl _⟩
end Go.Proofs.Ytbeiagcldfiacaa
