/- Contracts of Gcd, Sqrt and Mul of package arith and of their references. -/
import Derived.Test.YtjmiddhdbimaaaaArith
import Derived.BigQuiet
import Derived.Deep.QuietTactic
import Derived.RegionTactic
namespace Go.Proofs.Ytjmiddhdbimaaaa
open Go.RowKit
set_option linter.unusedVariables false


theorem sqrt_any (n : Nat) (w : World) (hn : (n : Int) ≤ 9223372036854775807) :
    Calls Try.prog 27 #[.int .i64 n] w fun e w' => e = .returned (.int .i64 (Pl.isqrt n : Nat)) ∧ w = w' := by
  go_enter Try.func27, Try.ntmps27
  go_wp2
  go_loop [3, 4] (fun u v => ∃ k p r : Nat, Hid (p = 2 ^ k) ∧ k ≤ 32 ∧ r + p ≤ 4294967296 ∧ Hid (r * r ≤ n ∧ n < (r + p) * (r + p)) ∧ u = .int .i64 r ∧ v = .int .i64 ((p / 2 : Nat) : Int)) (fun _ v => (intOf v).toNat)
  case atStart => exact ⟨32, 4294967296, 0, Lib.hid rfl, by omega, by omega, Lib.hid (by omega), rfl, rfl⟩
  case round =>
    obtain ⟨k, p, r, Hp, hk, hr, Hn, rfl, rfl⟩ := hrel
    cases k with
    | zero =>
      have hp : p = 1 := Hp.out
      subst hp
      go_wp2
      go_ret
      exact ⟨ret_int (by rw [Pl.isqrt_unique n r Hn.out.1 Hn.out.2]), rfl⟩
    | succ k =>
      obtain ⟨q, Hq⟩ : ∃ q : Nat, Hid (q = 2 ^ k) := ⟨_, Lib.hid rfl⟩
      obtain rfl : p = 2 * q := by rw [Hp.out, Hq.out, Nat.pow_succ]; omega
      have hq : 1 ≤ q := by rw [Hq.out]; exact Nat.one_le_two_pow
      have hle : Hid (r + q ≤ n / (r + q) ↔ (r + q) * (r + q) ≤ n) := Lib.hid (Nat.le_div_iff_mul_le (by omega))
      have hi1 : (n : Int) / ((r : Int) + (q : Int)) = ((n / (r + q) : Nat) : Int) := by simp
      have hi2 : (n : Int) / ((r : Int) + (q : Int)) ≤ 9223372036854775807 := by
        rw [hi1]; have := Nat.div_le_self n (r + q); omega
      rw [show 2 * q / 2 = q by omega]
      by_cases hd : r + q ≤ n / (r + q)
      · have hi3 : (r : Int) + (q : Int) ≤ (n : Int) / ((r : Int) + (q : Int)) := by rw [hi1]; omega
        have Hm : Hid ((r + q) * (r + q) ≤ n ∧ n < (r + q + q) * (r + q + q)) := Lib.hid ⟨hle.out.1 hd, by rw [Nat.add_assoc, ← Nat.two_mul]; exact Hn.out.2⟩
        clear hi1 hd
        go_wp2
        go_round
        case rel => exact ⟨k, q, r + q, Hq, by omega, by omega, Hm, by go_num, by go_num⟩
        case measure => simp [intOf]; omega
      · have hi3 : (n : Int) / ((r : Int) + (q : Int)) < (r : Int) + (q : Int) := by rw [hi1]; omega
        have hi4 : 0 ≤ (n : Int) / ((r : Int) + (q : Int)) := by rw [hi1]; exact Int.natCast_nonneg _
        have Hm : Hid (r * r ≤ n ∧ n < (r + q) * (r + q)) := Lib.hid ⟨Hn.out.1, Nat.lt_of_not_le (fun h => hd (hle.out.2 h))⟩
        clear hi1 hd
        go_wp2
        go_round
        case rel => exact ⟨k, q, r, Hq, by omega, by omega, Hm, rfl, by go_num⟩
        case measure => simp [intOf]; omega

theorem sqrt_neg (n : Int) (w : World) (hn : n < 0) (hn' : -9223372036854775808 ≤ n) :
    Calls Try.prog 27 #[.int .i64 n] w fun e w' => e = .returned (.int .i64 0) ∧ w = w' := by
  go_enter Try.func27, Try.ntmps27
  go_wp2
  go_loop [3, 4] (fun u v => ∃ k p : Nat, Hid (p = 2 ^ k) ∧ k ≤ 32 ∧ p ≤ 4294967296 ∧ u = .int .i64 0 ∧ v = .int .i64 ((p / 2 : Nat) : Int)) (fun _ v => (intOf v).toNat)
  case atStart => exact ⟨32, 4294967296, Lib.hid rfl, by omega, by omega, rfl, rfl⟩
  case round =>
    obtain ⟨k, p, Hp, hk, hr, rfl, rfl⟩ := hrel
    cases k with
    | zero =>
      have hp : p = 1 := Hp.out
      subst hp
      go_wp2
      go_ret
      exact ⟨rfl, rfl⟩
    | succ k =>
      obtain ⟨q, Hq⟩ : ∃ q : Nat, Hid (q = 2 ^ k) := ⟨_, Lib.hid rfl⟩
      obtain rfl : p = 2 * q := by rw [Hp.out, Hq.out, Nat.pow_succ]; omega
      have hq : 1 ≤ q := by rw [Hq.out]; exact Nat.one_le_two_pow
      rw [show 2 * q / 2 = q by omega]
      obtain ⟨h1, h2, _, _⟩ := Pl.tdiv_of_neg n q hn (by omega)
      go_wp2
      go_round
      case rel => exact ⟨k, q, Hq, by omega, by omega, rfl, by go_num⟩
      case measure => simp [intOf]; omega

def mulB (a b : Int) : Bool := decide (-9223372036854775808 ≤ a * b ∧ a * b ≤ 9223372036854775807)

end Go.Proofs.Ytjmiddhdbimaaaa
