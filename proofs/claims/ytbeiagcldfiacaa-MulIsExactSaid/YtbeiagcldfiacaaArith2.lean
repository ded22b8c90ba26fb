/- Contracts of Gcd, Sqrt and Mul of package arith and of their references. -/
import Derived.Test.YtbeiagcldfiacaaArith
import Derived.BigQuiet
import Derived.Deep.QuietTactic
import Derived.RegionTactic
namespace Go.Proofs.Ytbeiagcldfiacaa
open Go.RowKit
set_option linter.unusedVariables false

theorem gcd_no (a b : Int) (w : World) (h : a < 0 ∨ b < 0) :
    Calls Try.prog 16 #[.int .i64 a, .int .i64 b] w fun e w' => e = .returned (.tuple #[.int .i64 0, .int .i64 1]) ∧ w = w' := by
  by_cases ha : a < 0
  · clear h
    go_enter Try.func16, Try.ntmps16
    go_wp2
    go_ret2
    exact ⟨rfl, rfl⟩
  · have hb : b < 0 := by omega
    clear h
    go_enter Try.func16, Try.ntmps16
    go_wp2
    go_ret2
    exact ⟨rfl, rfl⟩

theorem gcd_any (a b : Nat) (w : World) (ha : (a : Int) ≤ 9223372036854775807) (hb : (b : Int) ≤ 9223372036854775807) :
    Calls Try.prog 16 #[.int .i64 a, .int .i64 b] w fun e w' => e = .returned (.tuple #[.int .i64 (Nat.gcd a b : Nat), .int .i64 0]) ∧ ∃ n, w' = w.drewN n := by
  have da : decide ((a : Int) < 0) = false := by simp
  have db : decide ((b : Int) < 0) = false := by simp
  go_enter Try.func16, Try.ntmps16
  go_wp2
  go_loopw [0, 1] (fun u v wr => ∃ x y : Nat, (x : Int) ≤ 9223372036854775807 ∧ (y : Int) ≤ 9223372036854775807 ∧ Hid (Nat.gcd x y = Nat.gcd a b) ∧ u = .int .i64 x ∧ v = .int .i64 y ∧ ∃ n, wr = w.drewN n) (fun _ v _ => (intOf v).toNat)
  case atStart => exact ⟨a, b, ha, hb, Lib.hid rfl, rfl, rfl, 0, rfl⟩
  case round =>
    obtain ⟨x, y, hx, hy, H, rfl, rfl, n, rfl⟩ := hrel
    by_cases h0 : 0 < y
    · have e0 : ((y : Int) == 0) = false := beq_eq_false_iff_ne.2 (by omega)
      have e1 : ((y : Int) != 0) = true := by rw [bne_iff_ne]; omega
      have hlt : x % y < y := Nat.mod_lt _ h0
      have H2 : Hid (Nat.gcd y (x % y) = Nat.gcd a b) := Lib.hid (by rw [← H.out, Nat.gcd_comm x y, Nat.gcd_rec y x, Nat.gcd_comm])
      go_wp2
      go_quiet (fail)
      go_wp2
      go_roundw
      case rel => exact ⟨y, x % y, hy, by omega, H2, rfl, by go_num, _, World.drewN_drewN _ _ _⟩
      case measure => simp [intOf]; omega
    · have e1 : ((y : Int) != 0) = false := by simp; omega
      have H2 : Hid (x = Nat.gcd a b) := Lib.hid (by rw [← H.out, show y = 0 by omega, Nat.gcd_zero_right])
      go_wp2
      go_ret2
      exact ⟨ret_int2 (by rw [H2.out]) rfl, n, rfl⟩
theorem refGcd_no (a b : Int) (w : World) (h : a < 0 ∨ b < 0) :
    Calls Try.prog 17 #[.int .i64 a, .int .i64 b] w fun e w' => e = .returned (.tuple #[.int .i64 0, .int .i64 1]) ∧ w = w' := by
  by_cases ha : a < 0
  · clear h
    go_enter Try.func17, Try.ntmps17
    go_wp2
    go_ret2
    exact ⟨rfl, rfl⟩
  · have hb : b < 0 := by omega
    clear h
    go_enter Try.func17, Try.ntmps17
    go_wp2
    go_ret2
    exact ⟨rfl, rfl⟩

theorem refGcd_any (a b : Nat) (w : World) (ha : (a : Int) ≤ 9223372036854775807) (hb : (b : Int) ≤ 9223372036854775807) :
    Calls Try.prog 17 #[.int .i64 a, .int .i64 b] w fun e w' => e = .returned (.tuple #[.int .i64 (Nat.gcd a b : Nat), .int .i64 0]) ∧ ∃ n, w' = w.drewN n := by
  have da : decide ((a : Int) < 0) = false := by simp
  have db : decide ((b : Int) < 0) = false := by simp
  go_enter Try.func17, Try.ntmps17
  go_wp2
  go_loopw [0, 1] (fun u v wr => ∃ x y : Nat, (x : Int) ≤ 9223372036854775807 ∧ (y : Int) ≤ 9223372036854775807 ∧ Hid (Nat.gcd x y = Nat.gcd a b) ∧ u = .int .i64 x ∧ v = .int .i64 y ∧ ∃ n, wr = w.drewN n) (fun _ v _ => (intOf v).toNat)
  case atStart => exact ⟨a, b, ha, hb, Lib.hid rfl, rfl, rfl, 0, rfl⟩
  case round =>
    obtain ⟨x, y, hx, hy, H, rfl, rfl, n, rfl⟩ := hrel
    by_cases h0 : 0 < y
    · have e0 : ((y : Int) == 0) = false := beq_eq_false_iff_ne.2 (by omega)
      have e1 : ((y : Int) != 0) = true := by rw [bne_iff_ne]; omega
      have hlt : x % y < y := Nat.mod_lt _ h0
      have H2 : Hid (Nat.gcd y (x % y) = Nat.gcd a b) := Lib.hid (by rw [← H.out, Nat.gcd_comm x y, Nat.gcd_rec y x, Nat.gcd_comm])
      go_wp2
      go_quiet (fail)
      go_wp2
      go_roundw
      case rel => exact ⟨y, x % y, hy, by omega, H2, rfl, by go_num, _, World.drewN_drewN _ _ _⟩
      case measure => simp [intOf]; omega
    · have e1 : ((y : Int) != 0) = false := by simp; omega
      have H2 : Hid (x = Nat.gcd a b) := Lib.hid (by rw [← H.out, show y = 0 by omega, Nat.gcd_zero_right])
      go_wp2
      go_ret2
      exact ⟨ret_int2 (by rw [H2.out]) rfl, n, rfl⟩

theorem sqrt_any (n : Nat) (w : World) (hn : (n : Int) ≤ 9223372036854775807) :
    Calls Try.prog 20 #[.int .i64 n] w fun e w' => e = .returned (.int .i64 (Pl.isqrt n : Nat)) ∧ w = w' := by
  go_enter Try.func20, Try.ntmps20
  go_wp2
  go_loop [3, 4] (fun u v => ∃ k p r : Nat, Hid (p = 2 ^ k) ∧ k ≤ 32 ∧ r + p ≤ 4294967296 ∧ Hid (r * r ≤ n ∧ n < (r + p) * (r + p)) ∧ u = .int .i64 r ∧ v = .int .i64 ((p / 2 : Nat) : Int)) (fun _ v => (intOf v).toNat)
  case atStart => exact ⟨32, 4294967296, 0, Lib.hid rfl, by omega, by omega, Lib.hid (by omega), rfl, rfl⟩
  case round =>
    obtain ⟨k, p, r, Hp, hk, hr, Hn, rfl, rfl⟩ := hrel
    cases k with
    | zero =>
      have hp : p = 1 := Hp.out
      subst hp
      go_wp2
      go_ret
      exact ⟨ret_int (by rw [Pl.isqrt_unique n r Hn.out.1 Hn.out.2]), rfl⟩
    | succ k =>
      obtain ⟨q, Hq⟩ : ∃ q : Nat, Hid (q = 2 ^ k) := ⟨_, Lib.hid rfl⟩
      obtain rfl : p = 2 * q := by rw [Hp.out, Hq.out, Nat.pow_succ]; omega
      have hq : 1 ≤ q := by rw [Hq.out]; exact Nat.one_le_two_pow
      have hle : Hid (r + q ≤ n / (r + q) ↔ (r + q) * (r + q) ≤ n) := Lib.hid (Nat.le_div_iff_mul_le (by omega))
      have hi1 : (n : Int) / ((r : Int) + (q : Int)) = ((n / (r + q) : Nat) : Int) := by simp
      have hi2 : (n : Int) / ((r : Int) + (q : Int)) ≤ 9223372036854775807 := by
        rw [hi1]; have := Nat.div_le_self n (r + q); omega
      rw [show 2 * q / 2 = q by omega]
      by_cases hd : r + q ≤ n / (r + q)
      · have hi3 : (r : Int) + (q : Int) ≤ (n : Int) / ((r : Int) + (q : Int)) := by rw [hi1]; omega
        have Hm : Hid ((r + q) * (r + q) ≤ n ∧ n < (r + q + q) * (r + q + q)) := Lib.hid ⟨hle.out.1 hd, by rw [Nat.add_assoc, ← Nat.two_mul]; exact Hn.out.2⟩
        clear hi1 hd
        go_wp2
        go_round
        case rel => exact ⟨k, q, r + q, Hq, by omega, by omega, Hm, by go_num, by go_num⟩
        case measure => simp [intOf]; omega
      · have hi3 : (n : Int) / ((r : Int) + (q : Int)) < (r : Int) + (q : Int) := by rw [hi1]; omega
        have hi4 : 0 ≤ (n : Int) / ((r : Int) + (q : Int)) := by rw [hi1]; exact Int.natCast_nonneg _
        have Hm : Hid (r * r ≤ n ∧ n < (r + q) * (r + q)) := Lib.hid ⟨Hn.out.1, Nat.lt_of_not_le (fun h => hd (hle.out.2 h))⟩
        clear hi1 hd
        go_wp2
        go_round
        case rel => exact ⟨k, q, r, Hq, by omega, by omega, Hm, rfl, by go_num⟩
        case measure => simp [intOf]; omega

theorem sqrt_neg (n : Int) (w : World) (hn : n < 0) (hn' : -9223372036854775808 ≤ n) :
    Calls Try.prog 20 #[.int .i64 n] w fun e w' => e = .returned (.int .i64 0) ∧ w = w' := by
  go_enter Try.func20, Try.ntmps20
  go_wp2
  go_loop [3, 4] (fun u v => ∃ k p : Nat, Hid (p = 2 ^ k) ∧ k ≤ 32 ∧ p ≤ 4294967296 ∧ u = .int .i64 0 ∧ v = .int .i64 ((p / 2 : Nat) : Int)) (fun _ v => (intOf v).toNat)
  case atStart => exact ⟨32, 4294967296, Lib.hid rfl, by omega, by omega, rfl, rfl⟩
  case round =>
    obtain ⟨k, p, Hp, hk, hr, rfl, rfl⟩ := hrel
    cases k with
    | zero =>
      have hp : p = 1 := Hp.out
      subst hp
      go_wp2
      go_ret
      exact ⟨rfl, rfl⟩
    | succ k =>
      obtain ⟨q, Hq⟩ : ∃ q : Nat, Hid (q = 2 ^ k) := ⟨_, Lib.hid rfl⟩
      obtain rfl : p = 2 * q := by rw [Hp.out, Hq.out, Nat.pow_succ]; omega
      have hq : 1 ≤ q := by rw [Hq.out]; exact Nat.one_le_two_pow
      rw [show 2 * q / 2 = q by omega]
      obtain ⟨h1, h2, _, _⟩ := Pl.tdiv_of_neg n q hn (by omega)
      go_wp2
      go_round
      case rel => exact ⟨k, q, Hq, by omega, by omega, rfl, by go_num⟩
      case measure => simp [intOf]; omega

def mulB (a b : Int) : Bool := decide (-9223372036854775808 ≤ a * b ∧ a * b ≤ 9223372036854775807)

theorem mul_yes (a b : Int) (w : World) (ha : -9223372036854775808 ≤ a) (ha' : a ≤ 9223372036854775807) (hb : -9223372036854775808 ≤ b) (hb' : b ≤ 9223372036854775807) (hB : mulB a b = true) :
    Calls Try.prog 25 #[.int .i64 a, .int .i64 b] w fun e w' => e = .returned (.tuple #[.int .i64 (a * b), .int .i64 0]) ∧ w = w' := by
  have h1 : -9223372036854775808 ≤ a * b ∧ a * b ≤ 9223372036854775807 := by simpa [mulB] using hB
  obtain ⟨h, h'⟩ := h1
  clear hB
  rcases Int.lt_trichotomy a 0 with pa | rfl | pa
  · rcases Int.lt_trichotomy b 0 with pb | rfl | pb
    · obtain ⟨g1, g2, g3⟩ := Pl.max_tdiv a b pa
      have g4 : (9223372036854775807 : Int).tdiv a ≤ b := by omega
      clear g1
      go_enter Try.func25, Try.ntmps25
      go_wp2
      go_ret2
      exact ⟨rfl, rfl⟩
    · clear h h'
      go_enter Try.func25, Try.ntmps25
      go_wp2
      go_ret2
      exact ⟨ret_int2 (by simp) rfl, rfl⟩
    · obtain ⟨g1, g2, g3⟩ := Pl.min_tdiv b a pb
      have g4 : -(9223372036854775808 : Int).tdiv b ≤ a := by rw [Int.mul_comm] at h; omega
      clear g1
      go_enter Try.func25, Try.ntmps25
      go_wp2
      go_ret2
      exact ⟨rfl, rfl⟩
  · clear h h'
    rcases Int.lt_trichotomy b 0 with pb | rfl | pb
    · go_enter Try.func25, Try.ntmps25
      go_wp2
      go_ret2
      exact ⟨ret_int2 (by simp) rfl, rfl⟩
    · go_enter Try.func25, Try.ntmps25
      go_wp2
      go_ret2
      exact ⟨ret_int2 (by simp) rfl, rfl⟩
    · go_enter Try.func25, Try.ntmps25
      go_wp2
      go_ret2
      exact ⟨ret_int2 (by simp) rfl, rfl⟩
  · rcases Int.lt_trichotomy b 0 with pb | rfl | pb
    · obtain ⟨g1, g2, g3⟩ := Pl.min_tdiv a b pa
      have g4 : -(9223372036854775808 : Int).tdiv a ≤ b := by omega
      clear g1
      go_enter Try.func25, Try.ntmps25
      go_wp2
      go_ret2
      exact ⟨rfl, rfl⟩
    · clear h h'
      go_enter Try.func25, Try.ntmps25
      go_wp2
      go_ret2
      exact ⟨ret_int2 (by simp) rfl, rfl⟩
    · have g1 : a ≤ 9223372036854775807 / b := (Int.le_ediv_iff_mul_le pb).2 h'
      have g2 : 9223372036854775807 / b ≤ 9223372036854775807 := Int.ediv_le_self _ (by omega)
      go_enter Try.func25, Try.ntmps25
      go_wp2
      go_ret2
      exact ⟨rfl, rfl⟩

theorem mul_no (a b : Int) (w : World) (ha : -9223372036854775808 ≤ a) (ha' : a ≤ 9223372036854775807) (hb : -9223372036854775808 ≤ b) (hb' : b ≤ 9223372036854775807) (hB : mulB a b = false) :
    Calls Try.prog 25 #[.int .i64 a, .int .i64 b] w fun e w' => e = .returned (.tuple #[.int .i64 0, .int .i64 8]) ∧ w = w' := by
  have h1 : ¬ (-9223372036854775808 ≤ a * b ∧ a * b ≤ 9223372036854775807) := by simpa [mulB] using hB
  clear hB
  rcases Int.lt_trichotomy a 0 with pa | rfl | pa
  · rcases Int.lt_trichotomy b 0 with pb | rfl | pb
    · obtain ⟨g1, g2, g3⟩ := Pl.max_tdiv a b pa
      have g4 : b < (9223372036854775807 : Int).tdiv a := by
        have := Int.mul_pos_of_neg_of_neg pa pb
        omega
      clear g1 h1
      go_enter Try.func25, Try.ntmps25
      go_wp2
      go_ret2
      exact ⟨rfl, rfl⟩
    · simp at h1
    · obtain ⟨g1, g2, g3⟩ := Pl.min_tdiv b a pb
      have g4 : a < -(9223372036854775808 : Int).tdiv b := by
        have := Int.mul_neg_of_neg_of_pos pa pb
        rw [Int.mul_comm] at h1 this; omega
      clear g1 h1
      go_enter Try.func25, Try.ntmps25
      go_wp2
      go_ret2
      exact ⟨rfl, rfl⟩
  · simp at h1
  · rcases Int.lt_trichotomy b 0 with pb | rfl | pb
    · obtain ⟨g1, g2, g3⟩ := Pl.min_tdiv a b pa
      have g4 : b < -(9223372036854775808 : Int).tdiv a := by
        have := Int.mul_neg_of_pos_of_neg pa pb
        omega
      clear g1 h1
      go_enter Try.func25, Try.ntmps25
      go_wp2
      go_ret2
      exact ⟨rfl, rfl⟩
    · simp at h1
    · have g1 : a ≤ 9223372036854775807 / b ↔ _ := Int.le_ediv_iff_mul_le pb
      have g2 : 9223372036854775807 / b ≤ 9223372036854775807 := Int.ediv_le_self _ (by omega)
      have g3 : 0 ≤ 9223372036854775807 / b := Int.ediv_nonneg (by omega) (by omega)
      have g4 : 9223372036854775807 / b < a := by
        have := Int.mul_pos pa pb
        omega
      clear g1 h1
      go_enter Try.func25, Try.ntmps25
      go_wp2
      go_ret2
      exact ⟨rfl, rfl⟩
end Go.Proofs.Ytbeiagcldfiacaa
