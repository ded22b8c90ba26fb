/- MulIsExact returns true, whatever its arguments: Mul returns the product, or ErrOverflow exactly if the product is not representable. -/
import Derived.Test.YtbeiagcldfiacaaArith2
import Derived.Test.YtbeiagcldfiacaaShr
import Derived.RowKit3
import Derived.OpenShut
namespace Go.Proofs.Ytbeiagcldfiacaa
open Go.RowKit
set_option linter.unusedVariables false

theorem refMul_zero (a b : Int) (w : World) (h : a = 0 ∨ b = 0) :
    Calls Try.prog 26 #[.int .i64 a, .int .i64 b] w fun e w' => e = .returned (.tuple #[.int .i64 0, .int .i64 0]) ∧ w = w' := by
  by_cases ha : a = 0
  · subst ha
    clear h
    go_enter Try.func26, Try.ntmps26
    go_wp2
    go_ret2
    exact ⟨rfl, rfl⟩
  · have hb : b = 0 := by omega
    have ha' : (a == 0) = false := beq_eq_false_iff_ne.2 ha
    subst hb
    clear h ha
    go_enter Try.func26, Try.ntmps26
    go_wp2
    go_ret2
    exact ⟨rfl, rfl⟩

theorem refMul_yes (a b : Int) (w : World) (ha : -9223372036854775808 ≤ a) (ha' : a ≤ 9223372036854775807) (hb : -9223372036854775808 ≤ b) (hb' : b ≤ 9223372036854775807) (hB : mulB a b = true) (h0 : ¬ a = 0) (h1 : ¬ b = 0) :
    Calls Try.prog 26 #[.int .i64 a, .int .i64 b] w fun e w' => e = .returned (.tuple #[.int .i64 (a * b), .int .i64 0]) ∧ w = w' := by
  have h1' : -9223372036854775808 ≤ a * b ∧ a * b ≤ 9223372036854775807 := by simpa [mulB] using hB
  obtain ⟨h, h'⟩ := h1'
  have a0 : (a == 0) = false := beq_eq_false_iff_ne.2 h0
  have b0 : (b == 0) = false := beq_eq_false_iff_ne.2 h1
  have hq : (a * b).tdiv b = a := Int.mul_tdiv_cancel a h1
  clear hB h0
  by_cases c1 : a = -1
  · subst c1
    have c2 : (b == -9223372036854775808) = false := beq_eq_false_iff_ne.2 (by omega)
    have c3 : (-b).tdiv b = -1 := by simpa using hq
    by_cases c4 : b = -1
    · subst c4
      go_enter Try.func26, Try.ntmps26
      go_wp2
      go_ret2
      exact ⟨rfl, rfl⟩
    · have c5 : (b == -1) = false := beq_eq_false_iff_ne.2 c4
      clear c4 hq
      have e : (-1 : Int) * b = -b := by omega
      rw [e]
      go_enter Try.func26, Try.ntmps26
      go_wp2
      go_ret2
      exact ⟨rfl, rfl⟩
  · have c5 : (a == -1) = false := beq_eq_false_iff_ne.2 c1
    by_cases c4 : b = -1
    · subst c4
      have c2 : (a == -9223372036854775808) = false := beq_eq_false_iff_ne.2 (by omega)
      have e : a * (-1 : Int) = -a := by omega
      rw [e] at hq ⊢
      go_enter Try.func26, Try.ntmps26
      go_wp2
      go_ret2
      exact ⟨rfl, rfl⟩
    · have c6 : (b == -1) = false := beq_eq_false_iff_ne.2 c4
      go_enter Try.func26, Try.ntmps26
      go_wp2
      go_ret2
      exact ⟨rfl, rfl⟩

theorem tdiv_fits (c b : Int) (h1 : b ≠ 0) (h2 : b ≠ -1) (hc : -9223372036854775808 ≤ c) (hc' : c ≤ 9223372036854775807) : -9223372036854775808 ≤ c.tdiv b ∧ c.tdiv b ≤ 9223372036854775807 := by
  by_cases hb : b = 1
  · subst hb; rw [Int.tdiv_one]; exact ⟨hc, hc'⟩
  · have h : (c.tdiv b).natAbs = c.natAbs / b.natAbs := Int.natAbs_tdiv c b
    have h3 : c.natAbs / b.natAbs ≤ c.natAbs / 2 := Nat.div_le_div_left (by omega) (by omega)
    rw [← h] at h3
    omega

theorem tdiv_differs (a b : Int) (hb : -9223372036854775808 ≤ b) (hb' : b ≤ 9223372036854775807) (h0 : b ≠ 0) (hB : ¬ (-9223372036854775808 ≤ a * b ∧ a * b ≤ 9223372036854775807)) : (wrap64 (a * b)).tdiv b ≠ a := by
  intro h
  have h1 := Int.mul_tdiv_add_tmod (wrap64 (a * b)) b
  rw [h, Int.mul_comm b a] at h1
  have h2 : ((wrap64 (a * b)).tmod b).natAbs < b.natAbs := by
    rw [Int.natAbs_tmod]
    exact Nat.mod_lt _ (by omega)
  generalize (wrap64 (a * b)).tmod b = r at h1 h2
  generalize a * b = p at *
  unfold wrap64 at h1
  omega

theorem refMul_no (a b : Int) (w : World) (ha : -9223372036854775808 ≤ a) (ha' : a ≤ 9223372036854775807) (hb : -9223372036854775808 ≤ b) (hb' : b ≤ 9223372036854775807) (hB : mulB a b = false) :
    Calls Try.prog 26 #[.int .i64 a, .int .i64 b] w fun e w' => e = .returned (.tuple #[.int .i64 0, .int .i64 8]) ∧ w = w' := by
  have h1' : ¬ (-9223372036854775808 ≤ a * b ∧ a * b ≤ 9223372036854775807) := by simpa [mulB] using hB
  have h0 : ¬ a = 0 := by intro h; subst h; simp at h1'
  have h1 : ¬ b = 0 := by intro h; subst h; simp at h1'
  have a0 : (a == 0) = false := beq_eq_false_iff_ne.2 h0
  have b0 : (b == 0) = false := beq_eq_false_iff_ne.2 h1
  by_cases c1 : a = -1
  · obtain rfl : b = -9223372036854775808 := by subst c1; omega
    subst c1
    clear hB h1' h0 h1 a0 b0
    go_enter Try.func26, Try.ntmps26
    go_wp2
    go_ret2
    exact ⟨rfl, rfl⟩
  · have c5 : (a == -1) = false := beq_eq_false_iff_ne.2 c1
    by_cases c4 : b = -1
    · obtain rfl : a = -9223372036854775808 := by subst c4; omega
      subst c4
      clear hB h1' h0 h1 a0 b0
      go_enter Try.func26, Try.ntmps26
      go_wp2
      go_ret2
      exact ⟨rfl, rfl⟩
    · have c6 : (b == -1) = false := beq_eq_false_iff_ne.2 c4
      have d1 := tdiv_differs a b hb hb' h1 h1'
      obtain ⟨d2, d3⟩ := tdiv_fits (wrap64 (a * b)) b h1 c4 (by unfold wrap64; omega) (by unfold wrap64; omega)
      have d4 : ((wrap64 (a * b)).tdiv b != a) = true := by rw [bne_iff_ne]; exact d1
      clear hB h1' d1
      go_enter Try.func26, Try.ntmps26
      go_wp2
      go_ret2
      exact ⟨rfl, rfl⟩

theorem walkMul_go (a b s c : Int) (w : World) (ha : -9223372036854775808 ≤ a) (ha' : a ≤ 9223372036854775807) (hb : -9223372036854775808 ≤ b) (hb' : b ≤ 9223372036854775807) (hs : 0 ≤ s) (hs' : s ≤ 255)
    (Hc : Hid (b / 2 ^ (s % 64).toNat = c)) (hc : -9223372036854775808 ≤ c) (hc' : c ≤ 9223372036854775807) :
    Calls Try.prog 9 #[.int .i64 a, .int .i64 b, .int .u8 s] w fun e w' => e = .returned (.bool true) ∧ w = w' := by
  have H34 : Hid (mulB 3 4 = true) := Lib.hid (by decide)
  by_cases h : mulB a c = true
  · have H := Lib.hid h
    clear h
    by_cases h0 : a = 0 ∨ c = 0
    · have hz : a * c = 0 := by rcases h0 with h | h <;> simp [h]
      have Hz := Lib.hid hz
      have H0 := Lib.hid h0
      clear hz h0
      go_enter Try.func9, Try.ntmps9
      go_wp2_with fail
      rw [Hc.out]
      refine (mul_yes a c _ ha ha' hc hc' H.out).mono ?_
      rintro e w' ⟨rfl, rfl⟩
      rw [Hz.out]
      (go_wp2_with fail; refine (refMul_zero a c _ H0.out).mono ?_; rintro e w' ⟨rfl, rfl⟩)
      (go_wp2_with fail; refine (mul_yes 3 4 _ (by omega) (by omega) (by omega) (by omega) H34.out).mono ?_; rintro e w' ⟨rfl, rfl⟩)
      go_wp2
      go_ret
      exact ⟨rfl, rfl⟩
    · have H0 := Lib.hid h0
      clear h0
      go_enter Try.func9, Try.ntmps9
      go_wp2_with fail
      rw [Hc.out]
      refine (mul_yes a c _ ha ha' hc hc' H.out).mono ?_
      rintro e w' ⟨rfl, rfl⟩
      (go_wp2_with fail; refine (refMul_yes a c _ ha ha' hc hc' H.out (fun h => H0.out (Or.inl h)) (fun h => H0.out (Or.inr h))).mono ?_; rintro e w' ⟨rfl, rfl⟩)
      (go_wp2_with fail; refine (mul_yes 3 4 _ (by omega) (by omega) (by omega) (by omega) H34.out).mono ?_; rintro e w' ⟨rfl, rfl⟩)
      go_wp2
      go_ret
      exact ⟨rfl, rfl⟩
  · have H := Lib.hid (Bool.eq_false_iff.2 h)
    clear h
    go_enter Try.func9, Try.ntmps9
    go_wp2_with fail
    rw [Hc.out]
    refine (mul_no a c _ ha ha' hc hc' H.out).mono ?_
    rintro e w' ⟨rfl, rfl⟩
    (go_wp2_with fail; refine (refMul_no a c _ ha ha' hc hc' H.out).mono ?_; rintro e w' ⟨rfl, rfl⟩)
    (go_wp2_with fail; refine (mul_yes 3 4 _ (by omega) (by omega) (by omega) (by omega) H34.out).mono ?_; rintro e w' ⟨rfl, rfl⟩)
    go_wp2
    go_ret
    exact ⟨rfl, rfl⟩

theorem W.MulIsExact (a0 : Int) (a1 : Int) (a2 : Int) (w0 : (Lit.int .i64 a0).wf = true) (w1 : (Lit.int .i64 a1).wf = true) (w2 : (Lit.int .u8 a2).wf = true) (w : World) :
    Calls Try.prog 9 #[.int .i64 a0, .int .i64 a1, .int .u8 a2] w fun e w' => e = .returned (.bool true) ∧ Grown w w' := by
  have h0 := bounds_i64 w0
  have h1 := bounds_i64 w1
  have h2 := bounds_u8 w2
  have hm := shr_bounds a1 (a2 % 64).toNat h1.1 h1.2
  exact (walkMul_go a0 a1 a2 _ w h0.1 h0.2 h1.1 h1.2 h2.1 h2.2 (Lib.hid rfl) hm.1 hm.2).mono fun e w' ⟨he, hw⟩ => ⟨he, by subst hw; exact Grown.refl _⟩
end Go.Proofs.Ytbeiagcldfiacaa
