/- Contracts of the small functions of the reference of dynamics. -/
import Derived.Test.YtjmiddhdbimaaaaDyn1
namespace Go.Proofs.Ytjmiddhdbimaaaa
open Go.RowKit
set_option linter.unusedVariables false

theorem in_any (n lo hi : Int) (w : World) : Calls Try.prog 42 #[.int .i64 n, .int .i64 lo, .int .i64 hi] w fun e w' => e = .returned (.bool (decide (lo ≤ n) && decide (n ≤ hi))) ∧ w = w' := by
  go_enter Try.func42, Try.ntmps42
  go_wp2
  all_goals
    go_ret
    exact ⟨ret_bool (by rw [Bool.eq_iff_iff]; simp; try omega), rfl⟩

theorem refCheck_any (nm : ByteArray) (l sp ac br : Int) (w : World) :
    Calls Try.prog 32 #[.agg #[.string nm, .int .i64 l, .int .i64 sp, .int .i64 ac, .int .i64 br]] w fun e w' => e = .returned (.bool (chkB l sp ac br)) ∧ Below w.heap.size w w' := by
  go_enter Try.func32, Try.ntmps32
  go_wp2
  all_goals
    go_ret
    exact ⟨ret_bool (by rw [Bool.eq_iff_iff]; simp [chkB]; try omega), (Below.refl _ _).alloc (Nat.le_refl _) _⟩

theorem accel_any (lm g : Int) (nm : ByteArray) (l sp ac br : Int) (w : World) (h1 : -1000000 ≤ g) (h2 : g ≤ 1000000) (h3 : -1000000 ≤ ac) (h4 : ac ≤ 1000000) :
    Calls Try.prog 38 #[.agg #[.int .i64 lm, .int .i64 g], .agg #[.string nm, .int .i64 l, .int .i64 sp, .int .i64 ac, .int .i64 br]] w fun e w' => e = .returned (.int .i64 (if 0 < g then max 50 (ac - 10 * g) else ac)) ∧ Below w.heap.size w w' := by
  by_cases hg : 0 < g
  · rw [if_pos hg]
    go_enter Try.func38, Try.ntmps38
    go_wp2
    all_goals
      go_ret
      exact ⟨ret_int (by omega), ((Below.refl _ _).alloc (Nat.le_refl _) _).alloc (by simp) _⟩
  · rw [if_neg hg]
    go_enter Try.func38, Try.ntmps38
    go_wp2
    go_ret
    exact ⟨rfl, ((Below.refl _ _).alloc (Nat.le_refl _) _).alloc (by simp) _⟩

theorem brake_any (lm g : Int) (nm : ByteArray) (l sp ac br : Int) (w : World) (h1 : -1000000 ≤ g) (h2 : g ≤ 1000000) (h3 : -1000000 ≤ br) (h4 : br ≤ 1000000) :
    Calls Try.prog 39 #[.agg #[.int .i64 lm, .int .i64 g], .agg #[.string nm, .int .i64 l, .int .i64 sp, .int .i64 ac, .int .i64 br]] w fun e w' => e = .returned (.int .i64 (if g < 0 then max 50 (br + 10 * g) else br)) ∧ Below w.heap.size w w' := by
  by_cases hg : g < 0
  · rw [if_pos hg]
    go_enter Try.func39, Try.ntmps39
    go_wp2
    all_goals
      go_ret
      exact ⟨ret_int (by omega), ((Below.refl _ _).alloc (Nat.le_refl _) _).alloc (by simp) _⟩
  · rw [if_neg hg]
    go_enter Try.func39, Try.ntmps39
    go_wp2
    go_ret
    exact ⟨rfl, ((Below.refl _ _).alloc (Nat.le_refl _) _).alloc (by simp) _⟩
end Go.Proofs.Ytjmiddhdbimaaaa
