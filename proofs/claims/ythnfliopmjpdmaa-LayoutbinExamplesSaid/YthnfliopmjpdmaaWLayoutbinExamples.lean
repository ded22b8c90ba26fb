/- LayoutbinExamples returns true: the examples of chapter 5. -/
import Derived.Test.YthnfliopmjpdmaaEnc1
import Derived.WalkSpells
namespace Go.Proofs.Ythnfliopmjpdmaa
open Go.RowKit
set_option linter.unusedVariables false

def oneL : Lay := ⟨[], [], [⟨⟨#[88]⟩, 2, 1000, 0, -1⟩], []⟩
theorem oneL_ok : layErr oneL = 0 := by decide +kernel
theorem oneL_enc : (encL oneL).length = 21 ∧ (encL oneL).take 17 = [82, 80, 76, 49, 0, 0, 1, 0, 1, 88, 2, 0, 232, 3, 0, 40, 0] := by decide +kernel
theorem crc_nine : Pl.crc [49, 50, 51, 52, 53, 54, 55, 56, 57] = 3421780262 := by decide +kernel

theorem rdF_nil {α : Type} (n : Nat) (f : α → List Value) (w : World) (A : Option Addr) : RdF n f w A [] := fun k hk => absurd hk (Nat.not_lt_zero _)
theorem one_rd {w : World} {b : Nat} (h : BoxV w b [.string ⟨#[88]⟩, .int .i64 2, .int .i64 1000, .int .i64 0, .int .i64 (-1)]) : RdLay w ⟨none, 0, none, 0, some ⟨b, 0, none⟩, 1, none, 0⟩ oneL := by
  refine ⟨rdF_nil _ _ _ _, rdF_nil _ _ _ _, fun k hk => ?_, rdF_nil _ _ _ _, (fun s hs => by cases hs), (fun s hs => by cases hs), fun s hs => ?_, Nat.le_refl 0, Nat.le_refl 0, Nat.le_refl 1, Nat.le_refl 0, Nat.zero_le _, Nat.zero_le _, (show 1 ≤ 9223372036854775807 by omega), Nat.zero_le _⟩
  · have hk0 : k = 0 := by have : k < 1 := hk; omega
    subst hk0
    refine ⟨b, 0, rfl, h.1, fun j v hv => ?_⟩
    rw [Nat.zero_mul, Nat.zero_add]
    exact h.2 j v hv
  · have : s = ⟨#[88]⟩ := by simpa [oneL] using hs
    rw [this]; decide
theorem one_any (w : World) : Calls Try.prog 11 #[] w fun e w' => e = .returned (.agg #[.slice none 0 0, .slice none 0 0, .slice (some ⟨w.heap.size + 1, 0, none⟩) 1 1, .slice none 0 0]) ∧ RdLay w' ⟨none, 0, none, 0, some ⟨w.heap.size + 1, 0, none⟩, 1, none, 0⟩ oneL ∧ Below w.heap.size w w' := by
  go_enter Try.func11, Try.ntmps11
  go_wp2
  refine bodyPost_ret (v := .agg #[.slice none 0 0, .slice none 0 0, .slice (some ⟨w.heap.size + 1, 0, none⟩) 1 1, .slice none 0 0]) (by simp [results, Try.results11, go_sem]) rfl ⟨rfl, one_rd ?_, ?_⟩
  · have := BoxV.new (w.alloc (.cells #[.slice none 0 0, .slice none 0 0, .slice (some ⟨w.heap.size + 1, 0, none⟩) 1 1, .slice none 0 0] 29)) [.string ⟨#[88]⟩, .int .i64 2, .int .i64 1000, .int .i64 0, .int .i64 (-1)] 56
    simp only [World.size_alloc] at this
    exact this
  · exact ((Below.refl _ _).alloc (Nat.le_refl _) _).alloc (by simp) _

set_option maxRecDepth 100000 in
theorem W.LayoutbinExamples (w : World) : Calls Try.prog 3 #[] w fun e w' => e = .returned (.bool true) ∧ Below w.heap.size w w' := by
  obtain ⟨S, HS⟩ : ∃ S : ByteArray, Hid (⟨(encL oneL).toArray⟩ = S) := ⟨_, Lib.hid rfl⟩
  have hS1 : S.size = 21 := by rw [← HS.out]; show (encL oneL).toArray.size = 21; simp [oneL_enc.1]
  have hS2 : ((S.extract 0 17).toList == [82, 80, 76, 49, 0, 0, 1, 0, 1, 88, 2, 0, 232, 3, 0, 40, 0]) = true := by
    rw [beq_iff_eq, ByteArray.toList_eq, ← HS.out]
    rw [ByteArray.data_extract, Array.toList_extract]
    simp [List.extract, oneL_enc.2]
  have HS1 := Lib.hid hS1
  have HS2 := Lib.hid hS2
  clear hS1 hS2
  go_enter Try.func3, Try.ntmps3
  go_wp2_with fail
  refine (one_any _).mono ?_
  rintro e w1 ⟨rfl, hr, hb1⟩
  have HR := Lib.hid hr
  have Hb1 := Lib.hid hb1
  clear hr hb1
  go_wp2_with fail
  refine (encode_ok ⟨none, 0, none, 0, some ⟨w.heap.size + 1, 0, none⟩, 1, none, 0⟩ oneL _ HR.out oneL_ok).mono ?_
  rintro e w2 ⟨rfl, hb2⟩
  rw [HS.out]
  have Hb2 := Lib.hid (Hb1.out.trans (hb2.mono Hb1.out.size))
  clear hb2 HR Hb1
  go_wp2_with fail
  refine (sum_any _ _ (by decide)).mono ?_
  rintro e w' ⟨rfl, rfl⟩
  have hcrc : Pl.crc (⟨#[49, 50, 51, 52, 53, 54, 55, 56, 57]⟩ : ByteArray).data.toList = 3421780262 := crc_nine
  rw [hcrc]
  clear hcrc
  have g1 : ((S.size : Int) == 21) = true := by rw [HS1.out]; rfl
  have g3 : 17 ≤ S.size := by rw [HS1.out]; omega
  go_wp2
  go_ret
  exact ⟨ret_bool HS2.out, Hb2.out⟩
end Go.Proofs.Ythnfliopmjpdmaa
