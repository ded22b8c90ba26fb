/- Contracts of the integer functions of package arith and of their references: what each returns, for all arguments. -/
import Derived.Test.YtbeiagcldfiacaaProg
import Derived.Test.YtbeiagcldfiacaaPlain
import Derived.WalkKit
import Derived.Lib.Hide
import Derived.Outline
import Derived.LoopTactic
namespace Go.Proofs.Ytbeiagcldfiacaa
open Go.RowKit
set_option linter.unusedVariables false

theorem ret_int {k : IntKind} {a b : Int} (h : a = b) : Ending.returned (.int k a) = .returned (.int k b) := by rw [h]
theorem ret_int2 {k j : IntKind} {a b c d : Int} (h : a = b) (h2 : c = d) : Ending.returned (.tuple #[.int k a, .int j c]) = .returned (.tuple #[.int k b, .int j d]) := by rw [h, h2]

def addB (a b : Int) : Bool := decide (-9223372036854775808 ≤ a + b ∧ a + b ≤ 9223372036854775807)

theorem add_yes (a b : Int) (w : World) (ha : -9223372036854775808 ≤ a) (ha' : a ≤ 9223372036854775807) (hb : -9223372036854775808 ≤ b) (hb' : b ≤ 9223372036854775807) (h : addB a b = true) :
    Calls Try.prog 14 #[.int .i64 a, .int .i64 b] w fun e w' => e = .returned (.tuple #[.int .i64 (a + b), .int .i64 0]) ∧ w = w' := by
  have h1 : -9223372036854775808 ≤ a + b ∧ a + b ≤ 9223372036854775807 := by simpa [addB] using h
  obtain ⟨h1, h2⟩ := h1
  clear h
  by_cases hp : 0 < b
  · go_enter Try.func14, Try.ntmps14
    go_wp2
    go_ret2
    exact ⟨rfl, rfl⟩
  · by_cases hn : b < 0
    · go_enter Try.func14, Try.ntmps14
      go_wp2
      go_ret2
      exact ⟨rfl, rfl⟩
    · go_enter Try.func14, Try.ntmps14
      go_wp2
      go_ret2
      exact ⟨rfl, rfl⟩

theorem add_no (a b : Int) (w : World) (ha : -9223372036854775808 ≤ a) (ha' : a ≤ 9223372036854775807) (hb : -9223372036854775808 ≤ b) (hb' : b ≤ 9223372036854775807) (h : addB a b = false) :
    Calls Try.prog 14 #[.int .i64 a, .int .i64 b] w fun e w' => e = .returned (.tuple #[.int .i64 0, .int .i64 8]) ∧ w = w' := by
  have h1 : ¬ (-9223372036854775808 ≤ a + b ∧ a + b ≤ 9223372036854775807) := by simpa [addB] using h
  by_cases hp : 0 < b
  · have h2 : 9223372036854775807 < a + b := by omega
    clear h1 h
    go_enter Try.func14, Try.ntmps14
    go_wp2
    go_ret2
    exact ⟨rfl, rfl⟩
  · have hn : b < 0 := by omega
    have h2 : a + b < -9223372036854775808 := by omega
    clear h1 h
    go_enter Try.func14, Try.ntmps14
    go_wp2
    go_ret2
    exact ⟨rfl, rfl⟩
theorem refAdd_yes (a b : Int) (w : World) (ha : -9223372036854775808 ≤ a) (ha' : a ≤ 9223372036854775807) (hb : -9223372036854775808 ≤ b) (hb' : b ≤ 9223372036854775807) (h : addB a b = true) :
    Calls Try.prog 15 #[.int .i64 a, .int .i64 b] w fun e w' => e = .returned (.tuple #[.int .i64 (a + b), .int .i64 0]) ∧ w = w' := by
  have h1 : -9223372036854775808 ≤ a + b ∧ a + b ≤ 9223372036854775807 := by simpa [addB] using h
  obtain ⟨h1, h2⟩ := h1
  clear h
  by_cases hp : 0 < b
  · go_enter Try.func15, Try.ntmps15
    go_wp2
    go_ret2
    exact ⟨rfl, rfl⟩
  · by_cases hn : b < 0
    · go_enter Try.func15, Try.ntmps15
      go_wp2
      go_ret2
      exact ⟨rfl, rfl⟩
    · go_enter Try.func15, Try.ntmps15
      go_wp2
      go_ret2
      exact ⟨rfl, rfl⟩

theorem refAdd_no (a b : Int) (w : World) (ha : -9223372036854775808 ≤ a) (ha' : a ≤ 9223372036854775807) (hb : -9223372036854775808 ≤ b) (hb' : b ≤ 9223372036854775807) (h : addB a b = false) :
    Calls Try.prog 15 #[.int .i64 a, .int .i64 b] w fun e w' => e = .returned (.tuple #[.int .i64 0, .int .i64 8]) ∧ w = w' := by
  have h1 : ¬ (-9223372036854775808 ≤ a + b ∧ a + b ≤ 9223372036854775807) := by simpa [addB] using h
  by_cases hp : 0 < b
  · have h2 : 9223372036854775807 < a + b := by omega
    clear h1 h
    go_enter Try.func15, Try.ntmps15
    go_wp2
    go_ret2
    exact ⟨rfl, rfl⟩
  · have hn : b < 0 := by omega
    have h2 : a + b < -9223372036854775808 := by omega
    clear h1 h
    go_enter Try.func15, Try.ntmps15
    go_wp2
    go_ret2
    exact ⟨rfl, rfl⟩

theorem mod_zero (a b : Int) (w : World) (hb : b < 1) :
    Calls Try.prog 18 #[.int .i64 a, .int .i64 b] w fun e w' => e = .returned (.int .i64 0) ∧ w = w' := by
  go_enter Try.func18, Try.ntmps18
  go_wp2
  go_ret
  exact ⟨rfl, rfl⟩

theorem mod_any (a b : Int) (w : World) (ha : -9223372036854775808 ≤ a) (ha' : a ≤ 9223372036854775807) (hb : 1 ≤ b) (hb' : b ≤ 9223372036854775807) :
    Calls Try.prog 18 #[.int .i64 a, .int .i64 b] w fun e w' => e = .returned (.int .i64 (a % b)) ∧ w = w' := by
  by_cases h : 0 ≤ a
  · have h1 := Int.emod_nonneg a (show b ≠ 0 by omega)
    have hb0 : ((b : Int) == 0) = false := beq_eq_false_iff_ne.2 (by omega)
    go_enter Try.func18, Try.ntmps18
    go_wp2
    go_ret
    exact ⟨rfl, rfl⟩
  · obtain ⟨h1, h2, h3, h4⟩ := Pl.tmod_of_neg a b (by omega) hb
    have H3 := Lib.hid h3
    have H4 := Lib.hid h4
    clear h3 h4
    by_cases ht : a.tmod b < 0
    · go_enter Try.func18, Try.ntmps18
      go_wp2
      go_ret
      exact ⟨ret_int (H3.out ht), rfl⟩
    · go_enter Try.func18, Try.ntmps18
      go_wp2
      go_ret
      exact ⟨ret_int (H4.out ht), rfl⟩
theorem refMod_zero (a b : Int) (w : World) (hb : b < 1) :
    Calls Try.prog 19 #[.int .i64 a, .int .i64 b] w fun e w' => e = .returned (.int .i64 0) ∧ w = w' := by
  go_enter Try.func19, Try.ntmps19
  go_wp2
  go_ret
  exact ⟨rfl, rfl⟩

theorem refMod_any (a b : Int) (w : World) (ha : -9223372036854775808 ≤ a) (ha' : a ≤ 9223372036854775807) (hb : 1 ≤ b) (hb' : b ≤ 9223372036854775807) :
    Calls Try.prog 19 #[.int .i64 a, .int .i64 b] w fun e w' => e = .returned (.int .i64 (a % b)) ∧ w = w' := by
  by_cases h : 0 ≤ a
  · have h1 := Int.emod_nonneg a (show b ≠ 0 by omega)
    have hb0 : ((b : Int) == 0) = false := beq_eq_false_iff_ne.2 (by omega)
    go_enter Try.func19, Try.ntmps19
    go_wp2
    go_ret
    exact ⟨rfl, rfl⟩
  · obtain ⟨h1, h2, h3, h4⟩ := Pl.tmod_of_neg a b (by omega) hb
    have H3 := Lib.hid h3
    have H4 := Lib.hid h4
    clear h3 h4
    by_cases ht : a.tmod b < 0
    · go_enter Try.func19, Try.ntmps19
      go_wp2
      go_ret
      exact ⟨ret_int (H3.out ht), rfl⟩
    · go_enter Try.func19, Try.ntmps19
      go_wp2
      go_ret
      exact ⟨ret_int (H4.out ht), rfl⟩

theorem refFloor_any (a b : Int) (w : World) (ha : -9223372036854775808 ≤ a) (ha' : a ≤ 9223372036854775807) (hb : 1 ≤ b) (hb' : b ≤ 9223372036854775807) :
    Calls Try.prog 29 #[.int .i64 a, .int .i64 b] w fun e w' => e = .returned (.int .i64 (a / b)) ∧ w = w' := by
  by_cases h : 0 ≤ a
  · have h1 := Int.emod_nonneg a (show b ≠ 0 by omega)
    have h2 := Pl.ediv_le_self' a b h hb
    go_enter Try.func29, Try.ntmps29
    go_wp2
    go_ret
    exact ⟨rfl, rfl⟩
  · obtain ⟨h1, h2, h3, h4⟩ := Pl.tdiv_of_neg a b (by omega) hb
    have H4 := Lib.hid h4
    clear h4
    by_cases ht : a.tmod b < 0
    · obtain ⟨h5, h6⟩ := h3 ht
      have H6 := Lib.hid h6
      clear h3 h6
      go_enter Try.func29, Try.ntmps29
      go_wp2
      go_ret
      exact ⟨ret_int H6.out, rfl⟩
    · clear h3
      go_enter Try.func29, Try.ntmps29
      go_wp2
      go_ret
      exact ⟨ret_int (H4.out ht), rfl⟩

theorem floorDiv_zero (a b : Int) (w : World) (hb : b < 1) :
    Calls Try.prog 27 #[.int .i64 a, .int .i64 b] w fun e w' => e = .returned (.tuple #[.int .i64 0, .int .i64 1]) ∧ w = w' := by
  go_enter Try.func27, Try.ntmps27
  go_wp2
  go_ret2
  exact ⟨rfl, rfl⟩

theorem floorDiv_any (a b : Int) (w : World) (ha : -9223372036854775808 ≤ a) (ha' : a ≤ 9223372036854775807) (hb : 1 ≤ b) (hb' : b ≤ 9223372036854775807) :
    Calls Try.prog 27 #[.int .i64 a, .int .i64 b] w fun e w' => e = .returned (.tuple #[.int .i64 (a / b), .int .i64 0]) ∧ w = w' := by
  by_cases h : 0 ≤ a
  · have h1 := Int.emod_nonneg a (show b ≠ 0 by omega)
    have h2 := Pl.ediv_le_self' a b h hb
    go_enter Try.func27, Try.ntmps27
    go_wp2
    go_ret2
    exact ⟨rfl, rfl⟩
  · obtain ⟨h1, h2, h3, h4⟩ := Pl.tdiv_of_neg a b (by omega) hb
    have H4 := Lib.hid h4
    clear h4
    by_cases ht : a.tmod b < 0
    · obtain ⟨h5, h6⟩ := h3 ht
      have H6 := Lib.hid h6
      clear h3 h6
      go_enter Try.func27, Try.ntmps27
      go_wp2
      go_ret2
      exact ⟨ret_int2 H6.out rfl, rfl⟩
    · clear h3
      go_enter Try.func27, Try.ntmps27
      go_wp2
      go_ret2
      exact ⟨ret_int2 (H4.out ht) rfl, rfl⟩

theorem refCeil_any (a b : Int) (w : World) (ha : -9223372036854775808 ≤ a) (ha' : a ≤ 9223372036854775807) (hb : 1 ≤ b) (hb' : b ≤ 9223372036854775807) :
    Calls Try.prog 30 #[.int .i64 a, .int .i64 b] w fun e w' => e = .returned (.int .i64 (Pl.cdiv a b)) ∧ w = w' := by
  by_cases h : 0 ≤ a
  · have h1 := Int.emod_nonneg a (show b ≠ 0 by omega)
    have h2 := Pl.ediv_le_self' a b h hb
    by_cases hr : 0 < a % b
    · have h3 : a / b < a := by
        have := Int.ediv_mul_add_emod a b
        have := Int.mul_le_mul_of_nonneg_left hb h2.1
        omega
      have H := Lib.hid (Pl.cdiv_pos a b h hb hr)
      go_enter Try.func30, Try.ntmps30
      go_wp2
      go_ret
      exact ⟨ret_int H.out.symm, rfl⟩
    · have H := Lib.hid (Pl.cdiv_zero a b hb (by omega))
      go_enter Try.func30, Try.ntmps30
      go_wp2
      go_ret
      exact ⟨ret_int H.out.symm, rfl⟩
  · obtain ⟨h1, h2, h3, h4⟩ := Pl.tdiv_of_neg a b (by omega) hb
    obtain ⟨g1, g2, g3, g4⟩ := Pl.tmod_of_neg a b (by omega) hb
    have H := Lib.hid (Pl.cdiv_neg a b (by omega) hb)
    clear h4 h3 g3 g4
    go_enter Try.func30, Try.ntmps30
    go_wp2
    go_ret
    exact ⟨ret_int H.out.symm, rfl⟩

theorem ceilDiv_zero (a b : Int) (w : World) (hb : b < 1) :
    Calls Try.prog 28 #[.int .i64 a, .int .i64 b] w fun e w' => e = .returned (.tuple #[.int .i64 0, .int .i64 1]) ∧ w = w' := by
  go_enter Try.func28, Try.ntmps28
  go_wp2
  go_ret2
  exact ⟨rfl, rfl⟩

theorem ceilDiv_any (a b : Int) (w : World) (ha : -9223372036854775808 ≤ a) (ha' : a ≤ 9223372036854775807) (hb : 1 ≤ b) (hb' : b ≤ 9223372036854775807) :
    Calls Try.prog 28 #[.int .i64 a, .int .i64 b] w fun e w' => e = .returned (.tuple #[.int .i64 (Pl.cdiv a b), .int .i64 0]) ∧ w = w' := by
  by_cases h : 0 ≤ a
  · have h1 := Int.emod_nonneg a (show b ≠ 0 by omega)
    have h2 := Pl.ediv_le_self' a b h hb
    by_cases hr : 0 < a % b
    · have h3 : a / b < a := by
        have := Int.ediv_mul_add_emod a b
        have := Int.mul_le_mul_of_nonneg_left hb h2.1
        omega
      have H := Lib.hid (Pl.cdiv_pos a b h hb hr)
      go_enter Try.func28, Try.ntmps28
      go_wp2
      go_ret2
      exact ⟨ret_int2 H.out.symm rfl, rfl⟩
    · have H := Lib.hid (Pl.cdiv_zero a b hb (by omega))
      go_enter Try.func28, Try.ntmps28
      go_wp2
      go_ret2
      exact ⟨ret_int2 H.out.symm rfl, rfl⟩
  · obtain ⟨h1, h2, h3, h4⟩ := Pl.tdiv_of_neg a b (by omega) hb
    obtain ⟨g1, g2, g3, g4⟩ := Pl.tmod_of_neg a b (by omega) hb
    have H := Lib.hid (Pl.cdiv_neg a b (by omega) hb)
    clear h4 h3 g3 g4
    go_enter Try.func28, Try.ntmps28
    go_wp2
    go_ret2
    exact ⟨ret_int2 H.out.symm rfl, rfl⟩
end Go.Proofs.Ytbeiagcldfiacaa
