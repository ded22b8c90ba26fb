/- Plain facts on integers: division, roots, greatest common divisors. No program in sight. -/
namespace Go.Proofs.Ytjmiddhdbimaaaa.Pl
set_option linter.unusedVariables false

theorem tmod_of_neg (a b : Int) (ha : a < 0) (hb : 1 ≤ b) :
    -b < a.tmod b ∧ a.tmod b ≤ 0 ∧ (a.tmod b < 0 → a.tmod b + b = a % b) ∧ (¬ a.tmod b < 0 → a.tmod b = a % b) := by
  have h1 := Int.emod_nonneg a (show b ≠ 0 by omega)
  have h2 := Int.emod_lt_of_pos a (show 0 < b by omega)
  have h3 := Int.tmod_eq_emod (a := a) (b := b)
  by_cases hd : b ∣ a
  · have h4 : a % b = 0 := Int.emod_eq_zero_of_dvd hd
    rw [if_pos (Or.inr hd)] at h3
    omega
  · have h4 : a % b ≠ 0 := fun h => hd (Int.dvd_of_emod_eq_zero h)
    rw [if_neg (by rintro (h | h); omega; exact hd h)] at h3
    omega

theorem tdiv_of_neg (a b : Int) (ha : a < 0) (hb : 1 ≤ b) :
    a ≤ a.tdiv b ∧ a.tdiv b ≤ 0 ∧ (a.tmod b < 0 → a < a.tdiv b ∧ a.tdiv b - 1 = a / b) ∧ (¬ a.tmod b < 0 → a.tdiv b = a / b) := by
  have h1 := Int.emod_nonneg a (show b ≠ 0 by omega)
  have h2 := Int.emod_lt_of_pos a (show 0 < b by omega)
  have h3 := Int.tmod_eq_emod (a := a) (b := b)
  have h5 := Int.tdiv_eq_ediv (a := a) (b := b)
  have e6 : a.tdiv b = -((-a) / b) := by
    have : a.tdiv b = -((-a).tdiv b) := by rw [Int.neg_tdiv]; omega
    rw [this, Int.tdiv_eq_ediv_of_nonneg (by omega)]
  have h7 : (-a) / b * b + (-a) % b = -a := Int.ediv_mul_add_emod (-a) b
  have h8 := Int.emod_nonneg (-a) (show b ≠ 0 by omega)
  have h9 : 0 ≤ (-a) / b := Int.ediv_nonneg (by omega) (by omega)
  have h10 : (-a) / b ≤ -a := Int.ediv_le_self b (by omega)
  have hs : b.sign = 1 := Int.sign_eq_one_of_pos (by omega)
  by_cases hd : b ∣ a
  · have h4 : a % b = 0 := Int.emod_eq_zero_of_dvd hd
    rw [if_pos (Or.inr hd)] at h3 h5
    omega
  · have h4 : a % b ≠ 0 := fun h => hd (Int.dvd_of_emod_eq_zero h)
    rw [if_neg (by rintro (h | h); omega; exact hd h)] at h3 h5
    rw [hs] at h5
    refine ⟨by omega, by omega, fun _ => ⟨?_, by omega⟩, by omega⟩
    have hb2 : 2 ≤ b := by
      rcases Int.lt_or_le 1 b with h | h
      · omega
      · obtain rfl : b = 1 := by omega
        exact absurd (Int.one_dvd a) hd
    have h11 : (-a) / b * 2 ≤ (-a) / b * b := Int.mul_le_mul_of_nonneg_left hb2 h9
    omega

/-- The ceiling of a quotient. -/
def cdiv (a b : Int) : Int := -((-a) / b)

theorem cdiv_pos (a b : Int) (ha : 0 ≤ a) (hb : 1 ≤ b) (h : 0 < a % b) : cdiv a b = a / b + 1 := by
  unfold cdiv
  have h7 : a / b * b + a % b = a := Int.ediv_mul_add_emod a b
  have h2 := Int.emod_lt_of_pos a (show 0 < b by omega)
  have : -a / b = -(a / b) - 1 := by
    have h8 : -a = (b - a % b) + (-(a / b) - 1) * b := by rw [Int.sub_mul, Int.neg_mul]; omega
    rw [h8, Int.add_mul_ediv_right _ _ (by omega), Int.ediv_eq_zero_of_lt (by omega) (by omega)]
    omega
  omega

theorem cdiv_zero (a b : Int) (hb : 1 ≤ b) (h : a % b = 0) : cdiv a b = a / b := by
  unfold cdiv
  rw [Int.neg_ediv_of_dvd (Int.dvd_of_emod_eq_zero h)]; omega

theorem cdiv_neg (a b : Int) (ha : a < 0) (hb : 1 ≤ b) : cdiv a b = a.tdiv b := by
  unfold cdiv
  have : a.tdiv b = -((-a).tdiv b) := by rw [Int.neg_tdiv]; omega
  rw [this, Int.tdiv_eq_ediv_of_nonneg (by omega)]

theorem cdiv_bracket (a b : Int) (hb : 1 ≤ b) : a ≤ cdiv a b * b ∧ cdiv a b * b < a + b := by
  unfold cdiv
  have h7 : (-a) / b * b + (-a) % b = -a := Int.ediv_mul_add_emod (-a) b
  have h2 := Int.emod_lt_of_pos (-a) (show 0 < b by omega)
  have h1 := Int.emod_nonneg (-a) (show b ≠ 0 by omega)
  rw [Int.neg_mul]; omega

theorem ediv_le_self' (a b : Int) (ha : 0 ≤ a) (hb : 1 ≤ b) : 0 ≤ a / b ∧ a / b ≤ a := by
  exact ⟨Int.ediv_nonneg ha (by omega), Int.ediv_le_self b ha⟩

theorem min_tdiv (a b : Int) (ha : 0 < a) : (b < -(9223372036854775808 : Int).tdiv a ↔ a * b < -9223372036854775808) ∧ -9223372036854775808 ≤ -(9223372036854775808 : Int).tdiv a ∧ -(9223372036854775808 : Int).tdiv a ≤ 0 := by
  have e : -(9223372036854775808 : Int).tdiv a = -(9223372036854775808 / a) := by
    rw [Int.tdiv_eq_ediv_of_nonneg (by omega)]
  have h1 : -b ≤ 9223372036854775808 / a ↔ -b * a ≤ 9223372036854775808 := Int.le_ediv_iff_mul_le ha
  have h2 : 9223372036854775808 / a ≤ 9223372036854775808 := Int.ediv_le_self _ (by omega)
  have h3 : 0 ≤ 9223372036854775808 / a := Int.ediv_nonneg (by omega) (by omega)
  rw [Int.neg_mul, Int.mul_comm b a] at h1
  rw [e]; omega

theorem max_tdiv (a b : Int) (ha : a < 0) : (b < (9223372036854775807 : Int).tdiv a ↔ 9223372036854775807 < a * b) ∧ -9223372036854775807 ≤ (9223372036854775807 : Int).tdiv a ∧ (9223372036854775807 : Int).tdiv a ≤ 0 := by
  have e : (9223372036854775807 : Int).tdiv a = -(9223372036854775807 / (-a)) := by
    have : a = -(-a) := by omega
    rw [this, Int.tdiv_neg, Int.tdiv_eq_ediv_of_nonneg (by omega)]; simp
  have h1 : -b ≤ 9223372036854775807 / (-a) ↔ -b * (-a) ≤ 9223372036854775807 := Int.le_ediv_iff_mul_le (by omega)
  have h2 : 9223372036854775807 / (-a) ≤ 9223372036854775807 := Int.ediv_le_self _ (by omega)
  have h3 : 0 ≤ 9223372036854775807 / (-a) := Int.ediv_nonneg (by omega) (by omega)
  rw [Int.neg_mul_neg, Int.mul_comm b a] at h1
  rw [e]; omega

/-- The greatest number whose square is not greater than n. -/
def isqrt : Nat → Nat
  | 0 => 0
  | n + 1 => if (isqrt n + 1) * (isqrt n + 1) ≤ n + 1 then isqrt n + 1 else isqrt n

theorem isqrt_spec (n : Nat) : isqrt n * isqrt n ≤ n ∧ n < (isqrt n + 1) * (isqrt n + 1) := by
  induction n with
  | zero => simp [isqrt]
  | succ n ih =>
    unfold isqrt
    split
    · rename_i h
      refine ⟨h, ?_⟩
      have : (isqrt n + 1 + 1) * (isqrt n + 1 + 1) = (isqrt n + 1) * (isqrt n + 1) + 2 * (isqrt n + 1) + 1 := by
        simp [Nat.add_mul, Nat.mul_add]; omega
      omega
    · omega

theorem isqrt_unique (n r : Nat) (h1 : r * r ≤ n) (h2 : n < (r + 1) * (r + 1)) : r = isqrt n := by
  obtain ⟨h3, h4⟩ := isqrt_spec n
  rcases Nat.lt_trichotomy r (isqrt n) with h | h | h
  · have := Nat.mul_le_mul (show r + 1 ≤ isqrt n by omega) (show r + 1 ≤ isqrt n by omega); omega
  · exact h
  · have := Nat.mul_le_mul (show isqrt n + 1 ≤ r by omega) (show isqrt n + 1 ≤ r by omega); omega

theorem isqrt_mono {m n : Nat} (h : m ≤ n) : isqrt m ≤ isqrt n := by
  obtain ⟨h1, h2⟩ := isqrt_spec m
  obtain ⟨h3, h4⟩ := isqrt_spec n
  rcases Nat.lt_or_ge (isqrt n) (isqrt m) with h5 | h5
  · have := Nat.mul_le_mul (show isqrt n + 1 ≤ isqrt m by omega) (show isqrt n + 1 ≤ isqrt m by omega); omega
  · exact h5

theorem isqrt_lt (n : Nat) (h : n ≤ 9223372036854775807) : isqrt n ≤ 3037000499 := by
  obtain ⟨h1, _⟩ := isqrt_spec n
  rcases Nat.lt_or_ge 3037000499 (isqrt n) with h5 | h5
  · have := Nat.mul_le_mul (show 3037000500 ≤ isqrt n by omega) (show 3037000500 ≤ isqrt n by omega); omega
  · exact h5

end Go.Proofs.Ytjmiddhdbimaaaa.Pl
