/- Contracts of in, names and has of the reference of layouts. -/
import Derived.Test.YthnfliopmjpdmaaRowsF
import Derived.Test.YthnfliopmjpdmaaQTail
namespace Go.Proofs.Ythnfliopmjpdmaa
open Go.RowKit
set_option linter.unusedVariables false

def inB (n lo hi : Int) : Bool := decide (lo ≤ n) && decide (n ≤ hi)
theorem inB_true {n lo hi : Int} (h1 : lo ≤ n) (h2 : n ≤ hi) : inB n lo hi = true := by simp [inB, h1, h2]
theorem inB_false {n lo hi : Int} (h : ¬ (lo ≤ n ∧ n ≤ hi)) : inB n lo hi = false := by
  unfold inB
  by_cases h1 : lo ≤ n
  · rw [decide_eq_true h1, decide_eq_false (fun h2 => h ⟨h1, h2⟩)]; rfl
  · rw [decide_eq_false h1]; rfl
theorem refIn_any (n lo hi : Int) (w : World) : Calls Try.prog 48 #[.int .i64 n, .int .i64 lo, .int .i64 hi] w fun e w' => e = .returned (.bool (inB n lo hi)) ∧ w = w' := by
  go_enter Try.func48, Try.ntmps48
  go_wp2
  all_goals
    go_ret
    exact ⟨ret_bool (by rw [Bool.eq_iff_iff]; simp [inB]; try omega), rfl⟩

theorem memS_take (s : ByteArray) (ss : List ByteArray) (k : Nat) (h : k < ss.length) : memS s (ss.take (k + 1)) = (memS s (ss.take k) || eqS s ss[k]) := by
  unfold memS; rw [List.take_succ_eq_append_getElem h, List.any_append]; simp
theorem eqS_walk (t s : ByteArray) : (t.toList == s.toList) = eqS s t := by
  rw [ByteArray.toList_eq, ByteArray.toList_eq, Bool.eq_iff_iff, eqS_iff, beq_iff_eq]
  exact ⟨fun h => by cases s; cases t; simp at h; rw [h], fun h => by rw [h]⟩

theorem refNames_any (A : Option Addr) (c : Nat) (ss : List ByteArray) (i : Nat) (w : World) (hR : RdF 1 strF w A ss) (hS : Short ss) (hl : ss.length ≤ 9223372036854775807) (hi : i < ss.length) :
    Calls Try.prog 46 #[.slice A ss.length c, .int .i64 i] w fun e w' => e = .returned (.int .i64 (nameErr (ss.take i) ss[i])) ∧ Below w.heap.size w w' := by
  obtain ⟨s, Hs⟩ : ∃ s, Hid (ss[i] = s) := ⟨_, Lib.hid rfl⟩
  obtain ⟨b, off, rfl, hbl, hc⟩ := hR i hi
  have HR := Lib.hid hR
  have hsz : s.size ≤ 9223372036854775807 := by rw [← Hs.out]; exact hS _ (List.getElem_mem hi)
  rw [Hs.out] at hc ⊢
  have q0 := hc 0 _ rfl
  rw [Nat.add_zero, Nat.mul_one] at q0
  clear hc hR hS
  cases hB : nameB s
  · have HE : Hid (nameErr (ss.take i) s = 3) := Lib.hid (by simp [nameErr, hB])
    have HB := Lib.hid hB
    clear hB
    go_enter Try.func46, Try.ntmps46
    go_wp2_with fail
    refine (refName_any s _ hsz).mono ?_
    rintro e w' ⟨rfl, rfl⟩
    rw [HB.out]
    go_wp2
    go_ret
    exact ⟨ret_int HE.out.symm, Below.refl _ _⟩
  · have HB := Lib.hid hB
    clear hB
    go_enter Try.func46, Try.ntmps46
    go_wp2_with fail
    refine (refName_any s _ hsz).mono ?_
    rintro e w' ⟨rfl, rfl⟩
    rw [HB.out]
    go_wp2
    go_loopw [5] (fun v wr => ∃ k : Nat, k ≤ i ∧ v = .int .i64 k ∧ Hid (memS s (ss.take k) = false) ∧ ∃ n, wr = w.drewN n) (fun v _ => i - (intOf v).toNat)
    case atStart => exact ⟨0, by omega, rfl, Lib.hid rfl, 0, rfl⟩
    case round =>
      obtain ⟨k, hk, rfl, Hk, n, rfl⟩ := hrel
      by_cases hlt : k < i
      · obtain ⟨b', off', e', hbl', hc⟩ := HR.out k (by omega)
        obtain ⟨rfl, rfl⟩ : b = b' ∧ off = off' := by simpa using e'
        obtain ⟨t, Ht⟩ : ∃ t, Hid (ss[k]'(by omega) = t) := ⟨_, Lib.hid rfl⟩
        rw [Ht.out] at hc
        have q1 := hc 0 _ rfl
        rw [Nat.add_zero, Nat.mul_one] at q1
        clear hc e'
        have hkl : k < ss.length := by omega
        have Hsn : Hid (memS s (ss.take (k + 1)) = eqS s t) := Lib.hid (by rw [memS_take s ss k hkl, Hk.out, Ht.out]; rfl)
        have hq := eqS_walk t s
        cases hE : eqS s t
        · rw [hE] at hq Hsn
          clear hE
          go_wp2
          go_quiet (fail)
          go_wp2
          go_roundw
          case rel => exact ⟨k + 1, by omega, by go_num, Hsn, _, rfl⟩
          case measure => simp [intOf]; omega
        · have HE : Hid (nameErr (ss.take i) s = 5) := Lib.hid (by
            have hm : memS s (ss.take i) = true := by
              rw [memS_iff]
              have e1 : s = t := (eqS_iff _ _).1 hE
              rw [e1, ← Ht.out]
              exact List.mem_take_iff_getElem.2 ⟨k, by omega, rfl⟩
            simp [nameErr, HB.out, hm])
          rw [hE] at hq
          clear hE
          go_wp2
          go_quiet (fail)
          go_wp2
          go_ret
          exact ⟨ret_int HE.out.symm, below_draws (below_draws (Below.refl _ _) n) _⟩
      · have HE : Hid (nameErr (ss.take i) s = 0) := Lib.hid (by
          obtain rfl : k = i := by omega
          simp [nameErr, HB.out, Hk.out])
        go_wp2
        go_ret
        exact ⟨ret_int HE.out.symm, below_draws (Below.refl _ _) n⟩

theorem refHas_any (k : Lnk) (x xe : Int) (w : World) :
    Calls Try.prog 61 #[.agg #[.int .i64 k.a, .int .i64 k.ae, .int .i64 k.b, .int .i64 k.be, .int .i64 k.pt, .int .i64 k.ps], .agg #[.int .i64 x, .int .i64 xe]] w fun e w' => e = .returned (.bool (hasE k (x, xe))) ∧ Below w.heap.size w w' := by
  obtain ⟨a, ae, b, be, pt, ps⟩ := k
  dsimp only
  go_enter Try.func61, Try.ntmps61
  go_wp2
  all_goals
    go_ret
    exact ⟨ret_bool (by rw [Bool.eq_iff_iff]; simp [hasE]; try omega), ((Below.refl _ _).alloc (Nat.le_refl _) _).alloc (by simp) _⟩
end Go.Proofs.Ythnfliopmjpdmaa
