/- Contracts of bad and limit of the reference of dynamics. -/
import Derived.Test.YtjmiddhdbimaaaaRef6a
namespace Go.Proofs.Ytjmiddhdbimaaaa
open Go.RowKit
set_option linter.unusedVariables false

theorem refBad_any (A : Option Addr) (cap : Nat) (cs : List (Int × Int)) (start : Int) (nm : ByteArray) (l sp ac br : Int) (w : World) (hR : RdC w A cs) (hl : cs.length ≤ 9223372036854775807) :
    Calls Try.prog 36 #[.slice A cs.length cap, .int .i64 start, .agg #[.string nm, .int .i64 l, .int .i64 sp, .int .i64 ac, .int .i64 br]] w fun e w' => e = .returned (.int .i64 (badRun cs start l sp ac br)) ∧ Below w.heap.size w w' := by
  by_cases hc : chkB l sp ac br = true
  · by_cases h4 : 4000 < cs.length
    · have H : Hid (badRun cs start l sp ac br = 7) := Lib.hid (by simp [badRun, hc, h4])
      have Hc := Lib.hid hc
      have HR := Lib.hid hR
      clear hc hR
      go_enter Try.func36, Try.ntmps36
      go_wp2_with fail
      refine (refCheck_any nm l sp ac br _).mono ?_
      rintro e w1 ⟨rfl, hb⟩
      rw [Hc.out]
      go_wp2
      go_ret
      exact ⟨by rw [H.out]; rfl, ((Below.refl _ _).alloc (Nat.le_refl _) _).trans (hb.mono (by simp))⟩
    · have Hc := Lib.hid hc
      have HR := Lib.hid hR
      clear hc hR
      have hdec : decide ((4000 : Int) < (cs.length : Int)) = false := by simp; omega
      go_enter Try.func36, Try.ntmps36
      go_wp2_with fail
      refine (refCheck_any nm l sp ac br _).mono ?_
      rintro e w1 ⟨rfl, hb⟩
      rw [Hc.out]
      have hb1 : Below w.heap.size w w1 := ((Below.refl _ _).alloc (Nat.le_refl _) _).trans (hb.mono (by simp))
      clear hb
      go_wp2
      go_loopw [7] (fun i wr => ∃ k : Nat, k ≤ cs.length ∧ i = .int .i64 k ∧ Hid ((cs.take k).all cellB = true) ∧ Below w.heap.size w wr) (fun i _ => cs.length - (intOf i).toNat)
      case atStart => exact ⟨0, by omega, rfl, Lib.hid rfl, hb1⟩
      case round =>
        obtain ⟨k, hk, rfl, Hk, hbr⟩ := hrel
        by_cases hlt : k < cs.length
        · obtain ⟨b, off, rfl, hbl, c1, c2⟩ := (HR.out.below (B := 0) hbr) k hlt
          by_cases hok : cellB cs[k] = true
          · have Hk1 : Hid ((cs.take (k + 1)).all cellB = true) := Lib.hid (by rw [all_snoc cs k hlt, Hk.out, hok]; rfl)
            obtain ⟨q1, q2, q3, q4⟩ := cell_of hok
            clear hok
            go_wp2
            go_roundw
            case rel => exact ⟨k + 1, by omega, by go_num, Hk1, hbr⟩
            case measure => simp [intOf]; omega
          · have H : Hid (badRun cs start l sp ac br = 4) := Lib.hid (by
              have : cs.all cellB = false := by
                rw [Bool.eq_false_iff]
                intro h
                exact hok (List.all_eq_true.1 h _ (List.getElem_mem hlt))
              simp only [badRun, Hc.out, this]
              simp [h4])
            have hno : ¬ (1000 ≤ cs[k].1 ∧ cs[k].1 ≤ 100000 ∧ -40 ≤ cs[k].2 ∧ cs[k].2 ≤ 40) := by simpa [cellB] using hok
            clear hok
            rcases (show cs[k].1 < 1000 ∨ 100000 < cs[k].1 ∨ (1000 ≤ cs[k].1 ∧ cs[k].1 ≤ 100000 ∧ cs[k].2 < -40) ∨ (1000 ≤ cs[k].1 ∧ cs[k].1 ≤ 100000 ∧ -40 ≤ cs[k].2 ∧ 40 < cs[k].2) by omega) with h1 | h1 | ⟨h1, h2, h3⟩ | ⟨h1, h2, h3, h5⟩ <;> clear hno
            · go_wp2
              go_ret
              exact ⟨by rw [H.out]; rfl, hbr⟩
            · go_wp2
              all_goals first
                | (go_ret; exact ⟨by rw [H.out]; rfl, hbr⟩)
                | (exfalso; omega)
            · go_wp2
              all_goals first
                | (go_ret; exact ⟨by rw [H.out]; rfl, hbr⟩)
                | (exfalso; omega)
            · have hd : decide (cs[k].2 ≤ 40) = false := by simp; omega
              go_wp2
              all_goals first
                | (go_ret; exact ⟨by rw [H.out]; rfl, hbr⟩)
                | (exfalso; omega)
        · have Hall : Hid (cs.all cellB = true) := Lib.hid (by have := Hk.out; rwa [List.take_of_length_le (by omega)] at this)
          by_cases hs : start < 0
          · have H : Hid (badRun cs start l sp ac br = 4) := Lib.hid (by simp only [badRun, Hc.out, Hall.out]; simp [h4, hs])
            go_wp2
            go_ret
            exact ⟨by rw [H.out]; rfl, hbr⟩
          · by_cases hs2 : (cs.length : Int) - 2 < start
            · have H : Hid (badRun cs start l sp ac br = 4) := Lib.hid (by simp only [badRun, Hc.out, Hall.out]; simp [h4, hs2])
              go_wp2
              go_ret
              exact ⟨by rw [H.out]; rfl, hbr⟩
            · have H : Hid (badRun cs start l sp ac br = 0) := Lib.hid (by simp only [badRun, Hc.out, Hall.out]; simp [h4, hs, hs2])
              go_wp2
              go_ret
              exact ⟨by rw [H.out]; rfl, hbr⟩
  · have H : Hid (badRun cs start l sp ac br = 1) := Lib.hid (by simp only [badRun, Bool.eq_false_iff.2 hc]; simp)
    have Hc := Lib.hid (Bool.eq_false_iff.2 hc)
    have HR := Lib.hid hR
    clear hc hR
    go_enter Try.func36, Try.ntmps36
    go_wp2_with fail
    refine (refCheck_any nm l sp ac br _).mono ?_
    rintro e w1 ⟨rfl, hb⟩
    rw [Hc.out]
    go_wp2
    go_ret
    exact ⟨by rw [H.out]; rfl, ((Below.refl _ _).alloc (Nat.le_refl _) _).trans (hb.mono (by simp))⟩
theorem refLimit_any (A : Option Addr) (cap : Nat) (cs : List (Int × Int)) (k l : Nat) (nm : ByteArray) (sp ac br : Int) (w : World) (hR : RdC w A cs) (hl : cs.length ≤ 4000) (hcap : cs.length ≤ cap) (hk : k < cs.length) (hl1 : 1 ≤ l) (hl2 : l ≤ 60) :
    Calls Try.prog 37 #[.slice A cs.length cap, .int .i64 k, .agg #[.string nm, .int .i64 l, .int .i64 sp, .int .i64 ac, .int .i64 br]] w fun e w' => e = .returned (.int .i64 (limitOf cs k l sp)) ∧ Below w.heap.size w w' := by
  obtain ⟨b, off, rfl, hbl, hx1, hx2⟩ := hR k hk
  clear hx1 hx2
  have H := Lib.hid (limTo_all cs k l sp)
  have HR := Lib.hid hR
  have hb0 : Below w.heap.size w (w.alloc (.cells #[.string nm, .int .i64 l, .int .i64 sp, .int .i64 ac, .int .i64 br] 26)) := (Below.refl _ _).alloc (Nat.le_refl _) _
  clear hR
  by_cases h0 : k ≤ l
  · rw [show k - l = 0 by omega, Nat.sub_zero] at H
    go_enter Try.func37, Try.ntmps37
    go_wp2
    go_loopw [7, 8] (fun m i wr => ∃ (j : Nat) (z : Int), j ≤ k + 1 ∧ i = .int .i64 j ∧ m = .int .i64 z ∧ Hid (limTo cs 0 j sp = z) ∧ Below w.heap.size w wr) (fun _ i _ => k + 1 - (intOf i).toNat)
    case atStart => exact ⟨0, sp, by omega, rfl, rfl, Lib.hid (limTo_zero _ _ _), hb0⟩
    case round =>
      obtain ⟨j, z, hj, rfl, rfl, Hz, hbr⟩ := hrel
      by_cases hlt : j < k + 1
      · obtain ⟨b', off', e', hbl', c1, c2⟩ := (HR.out.below (B := 0) hbr) j (by omega)
        obtain ⟨rfl, rfl⟩ : b = b' ∧ off = off' := by simpa using e'
        have Hs := Lib.hid (limTo_succ cs 0 j sp (by omega))
        simp only [Nat.zero_add] at Hs
        clear e'
        go_wp2
        all_goals
          go_roundw
          case rel => exact ⟨j + 1, _, by omega, by go_num, rfl, Lib.hid (by rw [Hs.out, Hz.out]; omega), hbr⟩
          case measure => simp [intOf]; omega
      · obtain rfl : j = k + 1 := by omega
        go_wp2
        go_ret
        exact ⟨ret_int (by rw [← H.out, Hz.out]), hbr⟩
  · go_enter Try.func37, Try.ntmps37
    go_wp2
    go_loopw [7, 8] (fun m i wr => ∃ (j : Nat) (z : Int), j ≤ k + 1 - (k - l) ∧ i = .int .i64 ((k - l + j : Nat) : Int) ∧ m = .int .i64 z ∧ Hid (limTo cs (k - l) j sp = z) ∧ Below w.heap.size w wr) (fun _ i _ => k + 1 - (intOf i).toNat)
    case atStart => exact ⟨0, sp, by omega, by go_num, rfl, Lib.hid (limTo_zero _ _ _), hb0⟩
    case round =>
      obtain ⟨j, z, hj, rfl, rfl, Hz, hbr⟩ := hrel
      by_cases hlt : j < k + 1 - (k - l)
      · obtain ⟨b', off', e', hbl', c1, c2⟩ := (HR.out.below (B := 0) hbr) (k - l + j) (by omega)
        obtain ⟨rfl, rfl⟩ : b = b' ∧ off = off' := by simpa using e'
        have Hs := Lib.hid (limTo_succ cs (k - l) j sp (by omega))
        clear e'
        go_wp2
        all_goals
          go_roundw
          case rel => exact ⟨j + 1, _, by omega, by go_num, rfl, Lib.hid (by rw [Hs.out, Hz.out]; omega), hbr⟩
          case measure => simp [intOf]; omega
      · obtain rfl : j = k + 1 - (k - l) := by omega
        go_wp2
        go_ret
        exact ⟨ret_int (by rw [← H.out, Hz.out]), hbr⟩
end Go.Proofs.Ytjmiddhdbimaaaa
