/- A number shifted to the right stays within its bounds. -/
namespace Go.Proofs.Ytbeiagcldfiacaa

theorem shr_bounds (n : Int) (k : Nat) (hn : -9223372036854775808 ≤ n) (hn' : n ≤ 9223372036854775807) : -9223372036854775808 ≤ n / 2 ^ k ∧ n / 2 ^ k ≤ 9223372036854775807 := by
  have hp : (1 : Int) ≤ 2 ^ k := by exact_mod_cast Nat.one_le_two_pow
  rcases Int.lt_or_le n 0 with h | h
  · have h1 : n / 2 ^ k < 0 := Int.ediv_neg_of_neg_of_pos h (by omega)
    have h2 : n / 2 ^ k * 2 ^ k + n % 2 ^ k = n := Int.ediv_mul_add_emod n (2 ^ k)
    have h3 := Int.emod_nonneg n (show (2 : Int) ^ k ≠ 0 by omega)
    have h4 := Int.emod_lt_of_pos n (show (0 : Int) < 2 ^ k by omega)
    refine ⟨?_, by omega⟩
    have h5 : n ≤ n / 2 ^ k := by
      rcases Int.lt_or_le (n / 2 ^ k) n with h6 | h6
      · have : n / 2 ^ k * 2 ^ k ≤ (n / 2 ^ k) * 1 := Int.mul_le_mul_of_nonpos_left (by omega) hp
        have h7 : (n / 2 ^ k + 1) * 2 ^ k ≤ n * 1 := by
          have h8 : (n / 2 ^ k + 1) * 2 ^ k ≤ n * 2 ^ k := Int.mul_le_mul_of_nonneg_right (by omega) (by omega)
          have h9 : n * 2 ^ k ≤ n * 1 := Int.mul_le_mul_of_nonpos_left (by omega) hp
          omega
        rw [Int.add_mul] at h7
        omega
      · exact h6
    omega
  · have h1 : 0 ≤ n / 2 ^ k := Int.ediv_nonneg h (by omega)
    have h2 : n / 2 ^ k ≤ n := Int.ediv_le_self _ h
    omega

end Go.Proofs.Ytbeiagcldfiacaa
