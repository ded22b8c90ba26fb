/- ModIsResidue returns true, whatever its arguments: Mod returns the residue, and adding multiples of the modulus does not change it. -/
import Derived.Test.YtbeiagcldfiacaaArith2
import Derived.RowKit3
import Derived.OpenShut
namespace Go.Proofs.Ytbeiagcldfiacaa
open Go.RowKit
set_option linter.unusedVariables false

theorem walkModIsResidue_no (a b k : Int) (w : World) (hb : b < 1) :
    Calls Try.prog 5 #[.int .i64 a, .int .i64 b, .int .i64 k] w fun e w' => e = .returned (.bool true) ∧ w = w' := by
  go_enter Try.func5, Try.ntmps5
  go_wp2_with fail
  refine (mod_zero a b _ hb).mono ?_
  rintro e w' ⟨rfl, rfl⟩
  go_wp2_with fail
  refine (mod_any 7 4 _ (by omega) (by omega) (by omega) (by omega)).mono ?_
  rintro e w' ⟨rfl, rfl⟩
  go_wp2
  go_ret
  exact ⟨rfl, rfl⟩

theorem walkModIsResidue_yes (a b k : Int) (w : World) (ha : -9223372036854775808 ≤ a) (ha' : a ≤ 9223372036854775807) (hb : 1 ≤ b) (hb' : b ≤ 9223372036854775807) (hk : -9223372036854775808 ≤ k) (hk' : k ≤ 9223372036854775807) :
    Calls Try.prog 5 #[.int .i64 a, .int .i64 b, .int .i64 k] w fun e w' => e = .returned (.bool true) ∧ w = w' := by
  obtain ⟨m, Hm⟩ : ∃ m, Hid (a % b = m) := ⟨_, Lib.hid rfl⟩
  have m1 : 0 ≤ m := by rw [← Hm.out]; exact Int.emod_nonneg a (by omega)
  have m2 : m < b := by rw [← Hm.out]; exact Int.emod_lt_of_pos a (by omega)
  obtain ⟨j, Hj⟩ : ∃ j, Hid (k.tmod 1000 = j) := ⟨_, Lib.hid rfl⟩
  have j1 : -1000 < j := by rw [← Hj.out]; have := Int.lt_tmod_of_pos k (show (0 : Int) < 1000 by omega); omega
  have j2 : j < 1000 := by rw [← Hj.out]; exact Int.tmod_lt_of_pos k (by omega)
  have Hz : Hid ((a + j * b) % b = m) := Lib.hid (by rw [Int.add_mul_emod_self_right, Hm.out])
  by_cases h1 : a > 1125899906842624 ∨ a < -1125899906842624 ∨ b > 1125899906842624
  · by_cases h2 : a > 1125899906842624
    · clear h1
      go_enter Try.func5, Try.ntmps5
      go_wp2_with fail
      refine (mod_any a b _ ha ha' hb hb').mono ?_
      rintro e w' ⟨rfl, rfl⟩
      rw [Hm.out]
      go_wp2_with fail
      refine (refMod_any a b _ ha ha' hb hb').mono ?_
      rintro e w' ⟨rfl, rfl⟩
      rw [Hm.out]
      go_wp2_with fail
      refine (mod_any 7 4 _ (by omega) (by omega) (by omega) (by omega)).mono ?_
      rintro e w' ⟨rfl, rfl⟩
      go_wp2
      go_ret
      exact ⟨rfl, rfl⟩
    · by_cases h3 : a < -1125899906842624
      · clear h1
        go_enter Try.func5, Try.ntmps5
        go_wp2_with fail
        refine (mod_any a b _ ha ha' hb hb').mono ?_
        rintro e w' ⟨rfl, rfl⟩
        rw [Hm.out]
        go_wp2_with fail
        refine (refMod_any a b _ ha ha' hb hb').mono ?_
        rintro e w' ⟨rfl, rfl⟩
        rw [Hm.out]
        go_wp2_with fail
        refine (mod_any 7 4 _ (by omega) (by omega) (by omega) (by omega)).mono ?_
        rintro e w' ⟨rfl, rfl⟩
        go_wp2
        go_ret
        exact ⟨rfl, rfl⟩
      · have h4 : b > 1125899906842624 := by omega
        clear h1
        go_enter Try.func5, Try.ntmps5
        go_wp2_with fail
        refine (mod_any a b _ ha ha' hb hb').mono ?_
        rintro e w' ⟨rfl, rfl⟩
        rw [Hm.out]
        go_wp2_with fail
        refine (refMod_any a b _ ha ha' hb hb').mono ?_
        rintro e w' ⟨rfl, rfl⟩
        rw [Hm.out]
        go_wp2_with fail
        refine (mod_any 7 4 _ (by omega) (by omega) (by omega) (by omega)).mono ?_
        rintro e w' ⟨rfl, rfl⟩
        go_wp2
        go_ret
        exact ⟨rfl, rfl⟩
  · have h2 : a ≤ 1125899906842624 := by omega
    have h3 : -1125899906842624 ≤ a := by omega
    have h4 : b ≤ 1125899906842624 := by omega
    clear h1
    have hjb : -1125899906842624000 ≤ j * b ∧ j * b ≤ 1125899906842624000 := by
      constructor
      · have := Int.mul_le_mul_of_nonneg_right (show -1000 ≤ j by omega) (show 0 ≤ b by omega)
        omega
      · have := Int.mul_le_mul_of_nonneg_right (show j ≤ 1000 by omega) (show 0 ≤ b by omega)
        omega
    obtain ⟨hj1, hj2⟩ := hjb
    go_enter Try.func5, Try.ntmps5
    go_wp2_with fail
    refine (mod_any a b _ ha ha' hb hb').mono ?_
    rintro e w' ⟨rfl, rfl⟩
    rw [Hm.out]
    go_wp2_with fail
    rw [Hj.out]
    refine (refMod_any a b _ ha ha' hb hb').mono ?_
    rintro e w' ⟨rfl, rfl⟩
    rw [Hm.out]
    (go_wp2_with fail; refine (mod_any (a + j * b) b _ (by omega) (by omega) hb hb').mono ?_; rintro e w' ⟨rfl, rfl⟩)
    rw [Hz.out]
    (go_wp2_with fail; refine (mod_any 7 4 _ (by omega) (by omega) (by omega) (by omega)).mono ?_; rintro e w' ⟨rfl, rfl⟩)
    go_wp2
    go_ret
    exact ⟨rfl, rfl⟩

theorem W.ModIsResidue (a0 : Int) (a1 : Int) (a2 : Int) (w0 : (Lit.int .i64 a0).wf = true) (w1 : (Lit.int .i64 a1).wf = true) (w2 : (Lit.int .i64 a2).wf = true) (w : World) :
    Calls Try.prog 5 #[.int .i64 a0, .int .i64 a1, .int .i64 a2] w fun e w' => e = .returned (.bool true) ∧ Grown w w' := by
  by_cases h : a1 < 1
  · exact (walkModIsResidue_no a0 a1 a2 w h).mono fun e w' ⟨he, hw⟩ => ⟨he, by subst hw; exact Grown.refl _⟩
  · exact (walkModIsResidue_yes a0 a1 a2 w (bounds_i64 w0).1 (bounds_i64 w0).2 (by omega) (bounds_i64 w1).2 (bounds_i64 w2).1 (bounds_i64 w2).2).mono fun e w' ⟨he, hw⟩ => ⟨he, by subst hw; exact Grown.refl _⟩
end Go.Proofs.Ytbeiagcldfiacaa
