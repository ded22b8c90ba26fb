/- Same reports that two slices that read alike are alike. -/
import Derived.Test.YtjmiddhdbimaaaaSrc
import Derived.Deep.OwnRows
namespace Go.Proofs.Ytjmiddhdbimaaaa
open Go.RowKit
set_option linter.unusedVariables false

theorem rdI_of_rowIs {w : World} {b t n : Nat} {f : Nat → Int} (h : w.rowIs b t n (fun j => .int .i64 (f j))) : RdI w (some ⟨b, 0, none⟩) ((List.range n).map f) := by
  intro k hk
  have hk' : k < n := by simpa using hk
  refine ⟨b, 0, rfl, h.lt, ?_⟩
  rw [Nat.zero_add, h.cell hk']
  simp

theorem same_yes (A B : Option Addr) (c d : Nat) (xs : List Int) (w : World) (hA : RdI w A xs) (hB : RdI w B xs) (hl : xs.length ≤ 9223372036854775807) :
    Calls Try.prog 21 #[.slice A xs.length c, .slice B xs.length d] w fun e w' => e = .returned (.bool true) ∧ ∃ n, w' = w.drewN n := by
  have HA := Lib.hid hA
  have HB := Lib.hid hB
  clear hA hB
  have hz : (((xs.length : Nat) : Int) != (xs.length : Int)) = false := by simp
  go_enter Try.func21, Try.ntmps21
  go_wp2
  go_loopw [13] (fun i wr => ∃ k : Nat, k ≤ xs.length ∧ i = .int .i64 k ∧ ∃ n, wr = w.drewN n) (fun i _ => xs.length - (intOf i).toNat)
  case atStart => exact ⟨0, by omega, rfl, 0, rfl⟩
  case round =>
    obtain ⟨k, hk, rfl, n, rfl⟩ := hrel
    by_cases hlt : k < xs.length
    · obtain ⟨b, off, rfl, hbl, c1⟩ := HA.out k hlt
      obtain ⟨b', off', rfl, hbl', c2⟩ := HB.out k hlt
      have e1 : (xs[k] != xs[k]) = false := by simp
      go_wp2
      go_quiet (fail)
      go_wp2
      go_roundw
      case rel => exact ⟨k + 1, by omega, by go_num, _, rfl⟩
      case measure => simp [intOf]; omega
    · go_wp2
      go_ret
      exact ⟨rfl, n, rfl⟩
end Go.Proofs.Ytjmiddhdbimaaaa
