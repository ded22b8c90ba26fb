/- CeilIsNegatedFloor returns true, whatever its arguments: CeilDiv of a number is the negative of FloorDiv of the negated number. -/
import Derived.Test.YtbeiagcldfiacaaArith2
import Derived.RowKit3
import Derived.OpenShut
namespace Go.Proofs.Ytbeiagcldfiacaa
open Go.RowKit
set_option linter.unusedVariables false

theorem walkCeil_no1 (a b : Int) (w : World) (ha : a < -4611686018427387904) :
    Calls Try.prog 12 #[.int .i64 a, .int .i64 b] w fun e w' => e = .returned (.bool true) ∧ w = w' := by
  go_enter Try.func12, Try.ntmps12
  (go_wp2_with fail; refine (mod_any 7 4 _ (by omega) (by omega) (by omega) (by omega)).mono ?_; rintro e w' ⟨rfl, rfl⟩)
  go_wp2
  go_ret
  exact ⟨rfl, rfl⟩

theorem walkCeil_no2 (a b : Int) (w : World) (ha : 4611686018427387904 < a) :
    Calls Try.prog 12 #[.int .i64 a, .int .i64 b] w fun e w' => e = .returned (.bool true) ∧ w = w' := by
  go_enter Try.func12, Try.ntmps12
  (go_wp2_with fail; refine (mod_any 7 4 _ (by omega) (by omega) (by omega) (by omega)).mono ?_; rintro e w' ⟨rfl, rfl⟩)
  go_wp2
  go_ret
  exact ⟨rfl, rfl⟩

theorem walkCeil_no3 (a b : Int) (w : World) (ha : -4611686018427387904 ≤ a) (ha' : a ≤ 4611686018427387904) (hb : b < 1) :
    Calls Try.prog 12 #[.int .i64 a, .int .i64 b] w fun e w' => e = .returned (.bool true) ∧ w = w' := by
  go_enter Try.func12, Try.ntmps12
  (go_wp2_with fail; refine (mod_any 7 4 _ (by omega) (by omega) (by omega) (by omega)).mono ?_; rintro e w' ⟨rfl, rfl⟩)
  go_wp2
  go_ret
  exact ⟨rfl, rfl⟩

theorem walkCeil_yes (a b : Int) (w : World) (ha : -4611686018427387904 ≤ a) (ha' : a ≤ 4611686018427387904) (hb : 1 ≤ b) (hb' : b ≤ 9223372036854775807) :
    Calls Try.prog 12 #[.int .i64 a, .int .i64 b] w fun e w' => e = .returned (.bool true) ∧ w = w' := by
  obtain ⟨f, Hf⟩ : ∃ f, Hid ((-a) / b = f) := ⟨_, Lib.hid rfl⟩
  obtain ⟨c, Hc⟩ : ∃ c, Hid (Pl.cdiv a b = c) := ⟨_, Lib.hid rfl⟩
  have hcf : c = -f := by rw [← Hc.out, ← Hf.out]; rfl
  have hcf2 : (c == -f) = true := beq_iff_eq.2 hcf
  have hf : -4611686018427387904 ≤ f ∧ f ≤ 4611686018427387904 := by
    rw [← Hf.out]
    rcases Int.lt_or_le (-a) 0 with h | h
    · obtain ⟨h1, h2, h3, h4⟩ := Pl.tdiv_of_neg (-a) b h hb
      by_cases ht : (-a).tmod b < 0
      · have := h3 ht; omega
      · have := h4 ht; omega
    · have := Pl.ediv_le_self' (-a) b h hb; omega
  obtain ⟨f1, f2⟩ := hf
  clear hcf
  go_enter Try.func12, Try.ntmps12
  (go_wp2_with fail; refine (ceilDiv_any a b _ (by omega) (by omega) hb hb').mono ?_; rintro e w' ⟨rfl, rfl⟩)
  rw [Hc.out]
  (go_wp2_with fail; refine (floorDiv_any (-a) b _ (by omega) (by omega) hb hb').mono ?_; rintro e w' ⟨rfl, rfl⟩)
  rw [Hf.out]
  (go_wp2_with fail; refine (mod_any 7 4 _ (by omega) (by omega) (by omega) (by omega)).mono ?_; rintro e w' ⟨rfl, rfl⟩)
  go_wp2
  go_ret
  exact ⟨rfl, rfl⟩

theorem W.CeilIsNegatedFloor (a0 : Int) (a1 : Int) (w0 : (Lit.int .i64 a0).wf = true) (w1 : (Lit.int .i64 a1).wf = true) (w : World) :
    Calls Try.prog 12 #[.int .i64 a0, .int .i64 a1] w fun e w' => e = .returned (.bool true) ∧ Grown w w' := by
  have hu := bounds_i64 w1
  by_cases h1 : a0 < -4611686018427387904
  · exact (walkCeil_no1 a0 a1 w h1).mono fun e w' ⟨he, hw⟩ => ⟨he, by subst hw; exact Grown.refl _⟩
  · by_cases h2 : 4611686018427387904 < a0
    · exact (walkCeil_no2 a0 a1 w h2).mono fun e w' ⟨he, hw⟩ => ⟨he, by subst hw; exact Grown.refl _⟩
    · by_cases h : a1 < 1
      · exact (walkCeil_no3 a0 a1 w (by omega) (by omega) h).mono fun e w' ⟨he, hw⟩ => ⟨he, by subst hw; exact Grown.refl _⟩
      · exact (walkCeil_yes a0 a1 w (by omega) (by omega) (by omega) hu.2).mono fun e w' ⟨he, hw⟩ => ⟨he, by subst hw; exact Grown.refl _⟩
end Go.Proofs.Ytbeiagcldfiacaa
