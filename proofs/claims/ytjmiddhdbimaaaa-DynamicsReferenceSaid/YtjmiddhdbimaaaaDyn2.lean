/- Contract of limit: the least of the speed and of the limits under the train. -/
import Derived.Test.YtjmiddhdbimaaaaDyn1
namespace Go.Proofs.Ytjmiddhdbimaaaa
open Go.RowKit
set_option linter.unusedVariables false

theorem limit_any (A : Option Addr) (cap : Nat) (cs : List (Int × Int)) (k l : Nat) (nm : ByteArray) (sp ac br : Int) (w : World) (hR : RdC w A cs) (hl : cs.length ≤ 4000) (hcap : cs.length ≤ cap) (hk : k < cs.length) (hl1 : 1 ≤ l) (hl2 : l ≤ 60) :
    Calls Try.prog 33 #[.slice A cs.length cap, .int .i64 k, .agg #[.string nm, .int .i64 l, .int .i64 sp, .int .i64 ac, .int .i64 br]] w fun e w' => e = .returned (.int .i64 (limitOf cs k l sp)) ∧ Below w.heap.size w w' := by
  obtain ⟨b, off, rfl, hbl, hx1, hx2⟩ := hR k hk
  clear hx1 hx2
  have H := Lib.hid (limTo_all cs k l sp)
  have HR := Lib.hid hR
  have hb0 : Below w.heap.size w (w.alloc (.cells #[.string nm, .int .i64 l, .int .i64 sp, .int .i64 ac, .int .i64 br] 26)) := (Below.refl _ _).alloc (Nat.le_refl _) _
  clear hR
  by_cases h0 : k ≤ l
  · rw [show k - l = 0 by omega, Nat.sub_zero] at H
    go_enter Try.func33, Try.ntmps33
    go_wp2
    go_loopw [7, 22] (fun m i wr => ∃ (j : Nat) (z : Int), j ≤ k + 1 ∧ i = .int .i64 j ∧ m = .int .i64 z ∧ Hid (limTo cs 0 j sp = z) ∧ Below w.heap.size w wr) (fun _ i _ => k + 1 - (intOf i).toNat)
    case atStart => exact ⟨0, sp, by omega, rfl, rfl, Lib.hid (limTo_zero _ _ _), hb0⟩
    case round =>
      obtain ⟨j, z, hj, rfl, rfl, Hz, hbr⟩ := hrel
      by_cases hlt : j < k + 1
      · obtain ⟨b', off', e', hbl', c1, c2⟩ := (HR.out.below (B := 0) hbr) j (by omega)
        obtain ⟨rfl, rfl⟩ : b = b' ∧ off = off' := by simpa using e'
        have Hs := Lib.hid (limTo_succ cs 0 j sp (by omega))
        simp only [Nat.zero_add] at Hs
        clear e'
        go_wp2
        all_goals
          go_roundw
          case rel => exact ⟨j + 1, _, by omega, by go_num, rfl, Lib.hid (by rw [Hs.out, Hz.out]; omega), hbr.alloc hbr.size _⟩
          case measure => simp [intOf]; omega
      · obtain rfl : j = k + 1 := by omega
        go_wp2
        go_ret
        exact ⟨ret_int (by rw [← H.out, Hz.out]), hbr⟩
  · go_enter Try.func33, Try.ntmps33
    go_wp2
    go_loopw [7, 22] (fun m i wr => ∃ (j : Nat) (z : Int), j ≤ k + 1 - (k - l) ∧ i = .int .i64 j ∧ m = .int .i64 z ∧ Hid (limTo cs (k - l) j sp = z) ∧ Below w.heap.size w wr) (fun _ i _ => k + 1 - (k - l) - (intOf i).toNat)
    case atStart => exact ⟨0, sp, by omega, rfl, rfl, Lib.hid (limTo_zero _ _ _), hb0⟩
    case round =>
      obtain ⟨j, z, hj, rfl, rfl, Hz, hbr⟩ := hrel
      by_cases hlt : j < k + 1 - (k - l)
      · obtain ⟨b', off', e', hbl', c1, c2⟩ := (HR.out.below (B := 0) hbr) (k - l + j) (by omega)
        obtain ⟨rfl, rfl⟩ : b = b' ∧ off = off' := by simpa using e'
        have Hs := Lib.hid (limTo_succ cs (k - l) j sp (by omega))
        rw [show off + (k - l + j) * 2 = off + (k - l) * 2 + j * 2 by omega] at c1 c2
        clear e'
        go_wp2
        all_goals
          go_roundw
          case rel => exact ⟨j + 1, _, by omega, by go_num, rfl, Lib.hid (by rw [Hs.out, Hz.out]; omega), hbr.alloc hbr.size _⟩
          case measure => simp [intOf]; omega
      · obtain rfl : j = k + 1 - (k - l) := by omega
        go_wp2
        go_ret
        exact ⟨ret_int (by rw [← H.out, Hz.out]), hbr⟩
end Go.Proofs.Ytjmiddhdbimaaaa
