/- Contract of fits. -/
import Derived.Test.YthnfliopmjpdmaaEnds
namespace Go.Proofs.Ythnfliopmjpdmaa
open Go.RowKit
set_option linter.unusedVariables false

theorem fitB_one {k j : Lnk} : fitB k [j] = decide (k.pt ≠ -1 ∧ k.pt = j.pt ∧ k.ps ≠ j.ps) := rfl
theorem fits_any (k : Lnk) (A : Option Addr) (c : Nat) (ls : List Lnk) (w : World) (hR : RdF 6 lnkF w A ls) (hl : ls.length ≤ 9223372036854775807) :
    Calls Try.prog 58 #[.agg #[.int .i64 k.a, .int .i64 k.ae, .int .i64 k.b, .int .i64 k.be, .int .i64 k.pt, .int .i64 k.ps], .slice A ls.length c] w fun e w' => e = .returned (.bool (fitB k ls)) ∧ Below w.heap.size w w' := by
  obtain ⟨a, ae, b, be, pt, ps⟩ := k
  dsimp only
  match ls, hR, hl with
  | [], _, _ =>
    go_enter Try.func58, Try.ntmps58
    go_wp2
    go_ret
    exact ⟨rfl, (Below.refl _ _).alloc (Nat.le_refl _) _⟩
  | i :: j :: r, _, hl =>
    have HF : Hid (fitB ⟨a, ae, b, be, pt, ps⟩ (i :: j :: r) = false) := Lib.hid rfl
    obtain ⟨n, Hn⟩ : ∃ n, Hid ((i :: j :: r).length = n) := ⟨_, Lib.hid rfl⟩
    rw [HF.out, Hn.out]
    have hn : 2 ≤ n := by rw [← Hn.out]; simp
    have e0 : ((n : Int) == 0) = false := by simp; omega
    have e1 : ((n : Int) == 1) = false := by simp; omega
    clear hl
    go_enter Try.func58, Try.ntmps58
    go_wp2
    go_quiet (fail)
    go_wp2
    go_ret
    exact ⟨rfl, below_draws ((Below.refl _ _).alloc (Nat.le_refl _) _) _⟩
  | [j], hR, _ =>
    obtain ⟨ja, jae, jb, jbe, jpt, jps⟩ := j
    obtain ⟨bb, off, rfl, hbl, hc⟩ := hR 0 (by simp)
    have q4 := hc 4 _ rfl
    have q5 := hc 5 _ rfl
    simp only [Nat.zero_mul, Nat.add_zero] at q4 q5
    clear hc hR
    rw [fitB_one]
    dsimp only
    by_cases h1 : pt = -1
    · rw [decide_eq_false (by omega)]
      have f1 : (pt != -1) = false := by rw [h1]; rfl
      clear h1
      go_enter Try.func58, Try.ntmps58
      go_wp2
      go_quiet (fail)
      go_wp2
      go_ret
      exact ⟨rfl, below_draws ((Below.refl _ _).alloc (Nat.le_refl _) _) _⟩
    · have f1 : (pt != -1) = true := by simpa using h1
      by_cases h2 : pt = jpt
      · have f2 : (pt == jpt) = true := by simpa using h2
        by_cases h3 : ps = jps
        · rw [decide_eq_false (by omega)]
          have f3 : (ps != jps) = false := by simpa using h3
          clear h1 h2 h3
          go_enter Try.func58, Try.ntmps58
          go_wp2
          go_quiet (fail)
          go_wp2
          go_ret
          exact ⟨rfl, below_draws ((Below.refl _ _).alloc (Nat.le_refl _) _) _⟩
        · rw [decide_eq_true (by omega)]
          have f3 : (ps != jps) = true := by simpa using h3
          clear h1 h2 h3
          go_enter Try.func58, Try.ntmps58
          go_wp2
          go_quiet (fail)
          go_wp2
          go_ret
          exact ⟨rfl, below_draws ((Below.refl _ _).alloc (Nat.le_refl _) _) _⟩
      · rw [decide_eq_false (by omega)]
        have f2 : (pt == jpt) = false := by simpa using h2
        clear h1 h2
        go_enter Try.func58, Try.ntmps58
        go_wp2
        go_quiet (fail)
        go_wp2
        go_ret
        exact ⟨rfl, below_draws ((Below.refl _ _).alloc (Nat.le_refl _) _) _⟩
end Go.Proofs.Ythnfliopmjpdmaa
