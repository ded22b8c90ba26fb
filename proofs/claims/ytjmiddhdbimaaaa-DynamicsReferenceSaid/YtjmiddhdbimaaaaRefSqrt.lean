/- Contract of the reference's root: by halving. -/
import Derived.Test.YtjmiddhdbimaaaaArith2
namespace Go.Proofs.Ytjmiddhdbimaaaa
open Go.RowKit
set_option linter.unusedVariables false

theorem sq_bound (m : Nat) (h : m ≤ 3037000499) : m * m ≤ 9223372030926249001 := Nat.mul_le_mul h h

theorem refSqrt_any (n : Nat) (w : World) (hn : (n : Int) ≤ 9223372036854775807) :
    Calls Try.prog 40 #[.int .i64 n] w fun e w' => e = .returned (.int .i64 (Pl.isqrt n : Nat)) ∧ w = w' := by
  by_cases h0 : n = 0
  · subst h0
    go_enter Try.func40, Try.ntmps40
    go_wp2
    go_ret
    exact ⟨rfl, rfl⟩
  · have hd : decide ((n : Int) ≤ 0) = false := by simp; omega
    go_enter Try.func40, Try.ntmps40
    go_wp2
    clear hd
    go_loop [3, 4] (fun u v => ∃ lo hi : Nat, lo ≤ hi ∧ hi ≤ 3037000499 ∧ Hid (lo * lo ≤ n ∧ n < (hi + 1) * (hi + 1)) ∧ u = .int .i64 lo ∧ v = .int .i64 hi) (fun u v => (intOf v).toNat - (intOf u).toNat)
    case atStart => exact ⟨0, 3037000499, by omega, by omega, Lib.hid (by omega), rfl, rfl⟩
    case round =>
      obtain ⟨lo, hi, h1, h2, Hn, rfl, rfl⟩ := hrel
      by_cases hlt : lo < hi
      · obtain ⟨m, Hm⟩ : ∃ m, Hid ((lo + hi + 1) / 2 = m) := ⟨_, Lib.hid rfl⟩
        have hm1 : lo < m := by have := Hm.out; omega
        have hm2 : m ≤ hi := by have := Hm.out; omega
        obtain ⟨q, Hq⟩ : ∃ q, Hid (m * m = q) := ⟨_, Lib.hid rfl⟩
        have hq : q ≤ 9223372030926249001 := by rw [← Hq.out]; exact sq_bound m (by omega)
        have hqi : (m : Int) * m = (q : Int) := by rw [← Hq.out]; simp
        have e1 : ((lo : Int) + hi + 1) / 2 = (m : Int) := by have := Hm.out; omega
        have e2 : IntKind.i64.wrap ((m : Int) * m) = (q : Int) := by rw [hqi, IntKind.wrap_i64]; omega
        have e3 : Int.tdiv ((lo : Int) + hi + 1) 2 = (m : Int) := by rw [Int.tdiv_eq_ediv_of_nonneg (by omega)]; exact e1
        by_cases hle : q ≤ n
        · go_wp2
          go_round
          case rel => exact ⟨m, hi, hm2, h2, Lib.hid ⟨by rw [Hq.out]; exact hle, Hn.out.2⟩, rfl, rfl⟩
          case measure => simp [intOf]; omega
        · have hd : decide ((q : Int) ≤ (n : Int)) = false := by simp; omega
          go_wp2
          go_round
          case rel => exact ⟨lo, m - 1, by omega, by omega, Lib.hid ⟨Hn.out.1, by rw [show m - 1 + 1 = m by omega, Hq.out]; omega⟩, rfl, by go_num⟩
          case measure => simp [intOf]; omega
      · obtain rfl : lo = hi := by omega
        go_wp2
        go_ret
        exact ⟨ret_int (by rw [Pl.isqrt_unique n lo Hn.out.1 Hn.out.2]), rfl⟩
end Go.Proofs.Ytjmiddhdbimaaaa
