/- Pick maps an integer to the range from 0 to n - 1. -/
import Derived.Test.YtjmiddhdbimaaaaProg
import Derived.WalkKit
import Derived.Lib.Hide
import Derived.Outline
import Derived.Laws.Bits64
namespace Go.Proofs.Ytjmiddhdbimaaaa
open Go.RowKit
set_option linter.unusedVariables false

def pick (v n : Int) : Int := (v % 18446744073709551616) % n
theorem pick_range (v n : Int) (hn : 1 ≤ n) : 0 ≤ pick v n ∧ pick v n < n := by
  unfold pick
  exact ⟨Int.emod_nonneg _ (by omega), Int.emod_lt_of_pos _ (by omega)⟩

theorem pick_walk (v n p : Int) (hn : 1 ≤ n) (hn' : n ≤ 9223372036854775807) (hp : pick v n = p) : wrap64 ((IntKind.u64.wrap v).tmod n) = p := by
  have h := pick_range v n hn
  rw [IntKind.wrap_u64, Int.tmod_eq_emod_of_nonneg (Int.emod_nonneg _ (by omega))]
  unfold pick at hp h
  rw [hp] at h ⊢
  unfold wrap64
  omega

theorem pick_any (v n : Int) (w : World) (hn : 1 ≤ n) (hn' : n ≤ 9223372036854775807) :
    Calls Try.prog 16 #[.int .i64 v, .int .i64 n] w fun e w' => e = .returned (.int .i64 (pick v n)) ∧ w = w' := by
  obtain ⟨h1, h2⟩ := pick_range v n hn
  obtain ⟨p, Hp⟩ : ∃ p, Hid (pick v n = p) := ⟨_, Lib.hid rfl⟩
  rw [Hp.out] at h1 h2 ⊢
  go_enter Try.func16, Try.ntmps16
  go_wp2
  go_ret
  exact ⟨congrArg (fun z => Ending.returned (.int .i64 z)) (pick_walk v n p hn hn' Hp.out), rfl⟩
end Go.Proofs.Ytjmiddhdbimaaaa
