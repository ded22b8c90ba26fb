/- Contracts of the integer functions of package arith and of their references: what each returns, for all arguments. -/
import Derived.Test.YtjmiddhdbimaaaaBase
import Derived.Test.YtjmiddhdbimaaaaPlain
import Derived.WalkKit
import Derived.Lib.Hide
import Derived.Outline
import Derived.LoopTactic
namespace Go.Proofs.Ytjmiddhdbimaaaa
open Go.RowKit
set_option linter.unusedVariables false


def addB (a b : Int) : Bool := decide (-9223372036854775808 ≤ a + b ∧ a + b ≤ 9223372036854775807)






theorem refCeil_any (a b : Int) (w : World) (ha : -9223372036854775808 ≤ a) (ha' : a ≤ 9223372036854775807) (hb : 1 ≤ b) (hb' : b ≤ 9223372036854775807) :
    Calls Try.prog 41 #[.int .i64 a, .int .i64 b] w fun e w' => e = .returned (.int .i64 (Pl.cdiv a b)) ∧ w = w' := by
  by_cases h : 0 ≤ a
  · have h1 := Int.emod_nonneg a (show b ≠ 0 by omega)
    have h2 := Pl.ediv_le_self' a b h hb
    by_cases hr : 0 < a % b
    · have h3 : a / b < a := by
        have := Int.ediv_mul_add_emod a b
        have := Int.mul_le_mul_of_nonneg_left hb h2.1
        omega
      have H := Lib.hid (Pl.cdiv_pos a b h hb hr)
      go_enter Try.func41, Try.ntmps41
      go_wp2
      go_ret
      exact ⟨ret_int H.out.symm, rfl⟩
    · have H := Lib.hid (Pl.cdiv_zero a b hb (by omega))
      go_enter Try.func41, Try.ntmps41
      go_wp2
      go_ret
      exact ⟨ret_int H.out.symm, rfl⟩
  · obtain ⟨h1, h2, h3, h4⟩ := Pl.tdiv_of_neg a b (by omega) hb
    obtain ⟨g1, g2, g3, g4⟩ := Pl.tmod_of_neg a b (by omega) hb
    have H := Lib.hid (Pl.cdiv_neg a b (by omega) hb)
    clear h4 h3 g3 g4
    go_enter Try.func41, Try.ntmps41
    go_wp2
    go_ret
    exact ⟨ret_int H.out.symm, rfl⟩

theorem ceilDiv_zero (a b : Int) (w : World) (hb : b < 1) :
    Calls Try.prog 28 #[.int .i64 a, .int .i64 b] w fun e w' => e = .returned (.tuple #[.int .i64 0, .int .i64 1]) ∧ w = w' := by
  go_enter Try.func28, Try.ntmps28
  go_wp2
  go_ret2
  exact ⟨rfl, rfl⟩

theorem ceilDiv_any (a b : Int) (w : World) (ha : -9223372036854775808 ≤ a) (ha' : a ≤ 9223372036854775807) (hb : 1 ≤ b) (hb' : b ≤ 9223372036854775807) :
    Calls Try.prog 28 #[.int .i64 a, .int .i64 b] w fun e w' => e = .returned (.tuple #[.int .i64 (Pl.cdiv a b), .int .i64 0]) ∧ w = w' := by
  by_cases h : 0 ≤ a
  · have h1 := Int.emod_nonneg a (show b ≠ 0 by omega)
    have h2 := Pl.ediv_le_self' a b h hb
    by_cases hr : 0 < a % b
    · have h3 : a / b < a := by
        have := Int.ediv_mul_add_emod a b
        have := Int.mul_le_mul_of_nonneg_left hb h2.1
        omega
      have H := Lib.hid (Pl.cdiv_pos a b h hb hr)
      go_enter Try.func28, Try.ntmps28
      go_wp2
      go_ret2
      exact ⟨ret_int2 H.out.symm rfl, rfl⟩
    · have H := Lib.hid (Pl.cdiv_zero a b hb (by omega))
      go_enter Try.func28, Try.ntmps28
      go_wp2
      go_ret2
      exact ⟨ret_int2 H.out.symm rfl, rfl⟩
  · obtain ⟨h1, h2, h3, h4⟩ := Pl.tdiv_of_neg a b (by omega) hb
    obtain ⟨g1, g2, g3, g4⟩ := Pl.tmod_of_neg a b (by omega) hb
    have H := Lib.hid (Pl.cdiv_neg a b (by omega) hb)
    clear h4 h3 g3 g4
    go_enter Try.func28, Try.ntmps28
    go_wp2
    go_ret2
    exact ⟨ret_int2 H.out.symm rfl, rfl⟩
end Go.Proofs.Ytjmiddhdbimaaaa
