/- Contracts of Speeds, Times and Run of package dynamics. -/
import Derived.Test.YtjmiddhdbimaaaaDyn3
import Derived.Test.YtjmiddhdbimaaaaArith
import Derived.Test.YtjmiddhdbimaaaaArith2
namespace Go.Proofs.Ytjmiddhdbimaaaa
open Go.RowKit
set_option linter.unusedVariables false

/-- The call returns a new row of n integers f, and OK. -/
def RetRow2 (w : World) (n : Nat) (f : Nat → Int) (e : Ending) (w' : World) : Prop :=
  ∃ b, e = .returned (.tuple #[.slice (some ⟨b, 0, none⟩) n n, .int .i64 0]) ∧ w.heap.size ≤ b ∧ w'.rowIs b 3 n (fun j => .int .i64 (f j)) ∧ Below w.heap.size w w'

theorem speeds_bad (A : Option Addr) (cap : Nat) (cs : List (Int × Int)) (start : Int) (nm : ByteArray) (l sp ac br : Int) (w : World) (hR : RdC w A cs) (hl : cs.length ≤ 9223372036854775807) (hbad : badRun cs start l sp ac br ≠ 0) :
    Calls Try.prog 17 #[.slice A cs.length cap, .int .i64 start, .agg #[.string nm, .int .i64 l, .int .i64 sp, .int .i64 ac, .int .i64 br]] w fun e w' => e = .returned (.tuple #[.slice none 0 0, .int .i64 (badRun cs start l sp ac br)]) ∧ Below w.heap.size w w' := by
  obtain ⟨z, Hz⟩ : ∃ z, Hid (badRun cs start l sp ac br = z) := ⟨_, Lib.hid rfl⟩
  have hz : (z != 0) = true := by rw [bne_iff_ne, ← Hz.out]; exact hbad
  have HR : Hid (RdC (w.alloc (.cells #[.string nm, .int .i64 l, .int .i64 sp, .int .i64 ac, .int .i64 br] 26)) A cs) := Lib.hid (hR.below (B := 0) ((Below.refl _ _).alloc (Nat.le_refl _) _))
  clear hbad hR
  rw [Hz.out]
  go_enter Try.func17, Try.ntmps17
  go_wp2_with fail
  refine (checkRun_any A cap cs start nm l sp ac br _ HR.out hl).mono ?_
  rintro e w1 ⟨rfl, hb⟩
  rw [Hz.out]
  go_wp2
  go_ret2
  exact ⟨rfl, ((Below.refl _ _).alloc (Nat.le_refl _) _).trans (hb.mono (by simp))⟩

theorem speeds_ok (A : Option Addr) (cap : Nat) (cs : List (Int × Int)) (start l : Nat) (nm : ByteArray) (sp ac br : Int) (w : World) (hR : RdC w A cs) (hcap : cs.length ≤ cap) (hok : badRun cs start l sp ac br = 0) :
    Calls Try.prog 17 #[.slice A cs.length cap, .int .i64 start, .agg #[.string nm, .int .i64 l, .int .i64 sp, .int .i64 ac, .int .i64 br]] w (RetRow2 w (cs.length - start + 1) (fun j => (spd cs start l sp ac br j : Nat))) := by
  obtain ⟨hc, hl, hall, _, hst⟩ := bad_zero hok
  obtain ⟨k1, k2, k3, k4, k5, k6, k7, k8⟩ := chk_of hc
  have Hok := Lib.hid hok
  have Hall := Lib.hid hall
  have Hrg := Lib.hid (fun j => sqW_range (start := start) (l := l) k3 k4 k5 k6 k7 k8 hall j)
  have HR : Hid (RdC (w.alloc (.cells #[.string nm, .int .i64 l, .int .i64 sp, .int .i64 ac, .int .i64 br] 26)) A cs) := Lib.hid (hR.below (B := 0) ((Below.refl _ _).alloc (Nat.le_refl _) _))
  have HB := Lib.hid (BoxS.new w nm l sp ac br 26)
  clear hok hR hall hc
  obtain ⟨M, HM⟩ : ∃ M, Hid (cs.length - start + 1 = M) := ⟨_, Lib.hid rfl⟩
  have hM : M ≤ 4001 := by have := HM.out; omega
  rw [HM.out]
  go_enter Try.func17, Try.ntmps17
  go_wp2_with fail
  refine (checkRun_any A cap cs start nm l sp ac br _ HR.out (by omega)).mono ?_
  rintro e w1 ⟨rfl, hb⟩
  rw [Hok.out]
  have HB1 := Lib.hid (HB.out.below hb)
  have HR1 := Lib.hid (HR.out.below (B := 0) hb)
  have Hb1 : Hid (Below w.heap.size w w1) := Lib.hid (((Below.refl _ _).alloc (Nat.le_refl _) _).trans (hb.mono (by simp)))
  obtain ⟨hps, s0, s1, s2, s3, s4⟩ := HB1.out
  clear hb HB HR
  go_wp2_with fail
  refine (squares_any A cap cs start l nm sp ac br _ HR1.out hl hcap (by omega) (by omega) (by omega) k3 k4 k5 k6 k7 k8 Hall.out).mono ?_
  rintro e w2 ⟨b, rfl, hb1, hrow, hb2⟩
  rw [HM.out] at hrow ⊢
  have Hrow := Lib.hid hrow
  have Hb2 : Hid (Below w.heap.size w w2) := Lib.hid (Hb1.out.trans (hb2.mono Hb1.out.size))
  have hbw : w.heap.size ≤ b := Nat.le_trans Hb1.out.size hb1
  clear hrow hb2 s0 s1 s2 s3 s4 hps HB1 HR1 Hb1 hb1
  go_wp2
  go_loopw [25] (fun i wr => ∃ k : Nat, k ≤ M ∧ i = .int .i64 k ∧ Hid (wr.rowIs b 3 M (fun j => .int .i64 (if j < k then ((spd cs start l sp ac br j : Nat) : Int) else sqW cs start l sp ac br j))) ∧ Hid (Below w.heap.size w wr)) (fun i _ => M - (intOf i).toNat)
  case atStart => exact ⟨0, by omega, rfl, Lib.hid (Hrow.out.congr (fun j hj => by rw [if_neg (by omega)])), Hb2⟩
  case round =>
    obtain ⟨k, hk, rfl, Hr, Hb⟩ := hrel
    by_cases hlt : k < M
    · have r1 := Hr.out.cell (i := k) hlt
      rw [if_neg (by omega)] at r1
      have r3 := Hr.out.frozen k
      obtain ⟨x1, x2, _⟩ := Hrg.out k
      obtain ⟨x, hx⟩ := Int.eq_ofNat_of_zero_le x1
      rw [hx] at r1 x2
      have Hx : Hid (spd cs start l sp ac br k = Pl.isqrt x) := Lib.hid (by unfold spd; rw [hx]; simp)
      have Hr2 := Lib.hid ((Hr.out.set k (.int .i64 ((Pl.isqrt x : Nat) : Int))).congr (g := fun j => .int .i64 (if j < k + 1 then ((spd cs start l sp ac br j : Nat) : Int) else sqW cs start l sp ac br j)) (fun j hj => by
        by_cases hjk : j = k
        · rw [if_pos hjk, hjk, if_pos (by omega), Hx.out]
        · rw [if_neg hjk]
          by_cases h : j < k
          · rw [if_pos h, if_pos (by omega)]
          · rw [if_neg h, if_neg (by omega)]))
      have Hb3 : Hid (Below w.heap.size w (wr.setCell ⟨b, k, none⟩ (.int .i64 ((Pl.isqrt x : Nat) : Int)))) := Lib.hid (Hb.out.setCell hbw _)
      clear hx x1
      go_wp2_with fail
      refine (sqrt_any x _ (by omega)).mono ?_
      rintro e w' ⟨rfl, rfl⟩
      go_wp2
      go_roundw
      case rel => exact ⟨k + 1, by omega, by go_num, Hr2, Hb3⟩
      case measure => simp [intOf]; omega
    · obtain rfl : k = M := by omega
      go_wp2
      go_ret2
      exact ⟨b, rfl, hbw, Hr.out.congr (fun j hj => by rw [if_pos hj]), Hb.out⟩

theorem times_bad (A : Option Addr) (cap : Nat) (cs : List (Int × Int)) (start : Int) (nm : ByteArray) (l sp ac br : Int) (w : World) (hR : RdC w A cs) (hl : cs.length ≤ 9223372036854775807) (hbad : badRun cs start l sp ac br ≠ 0) :
    Calls Try.prog 19 #[.slice A cs.length cap, .int .i64 start, .agg #[.string nm, .int .i64 l, .int .i64 sp, .int .i64 ac, .int .i64 br]] w fun e w' => e = .returned (.tuple #[.slice none 0 0, .int .i64 (badRun cs start l sp ac br)]) ∧ Below w.heap.size w w' := by
  obtain ⟨z, Hz⟩ : ∃ z, Hid (badRun cs start l sp ac br = z) := ⟨_, Lib.hid rfl⟩
  have hz : (z != 0) = true := by rw [bne_iff_ne, ← Hz.out]; exact hbad
  have HR : Hid (RdC (w.alloc (.cells #[.string nm, .int .i64 l, .int .i64 sp, .int .i64 ac, .int .i64 br] 26)) A cs) := Lib.hid (hR.below (B := 0) ((Below.refl _ _).alloc (Nat.le_refl _) _))
  have Hbad := Lib.hid hbad
  clear hbad hR
  rw [Hz.out]
  go_enter Try.func19, Try.ntmps19
  go_wp2_with fail
  refine (speeds_bad A cap cs start nm l sp ac br _ HR.out hl Hbad.out).mono ?_
  rintro e w1 ⟨rfl, hb⟩
  rw [Hz.out]
  go_wp2
  go_ret2
  exact ⟨rfl, ((Below.refl _ _).alloc (Nat.le_refl _) _).trans (hb.mono (by simp))⟩

theorem times_ok (A : Option Addr) (cap : Nat) (cs : List (Int × Int)) (start l : Nat) (nm : ByteArray) (sp ac br : Int) (w : World) (hR : RdC w A cs) (hcap : cs.length ≤ cap) (hok : badRun cs start l sp ac br = 0) :
    Calls Try.prog 19 #[.slice A cs.length cap, .int .i64 start, .agg #[.string nm, .int .i64 l, .int .i64 sp, .int .i64 ac, .int .i64 br]] w (RetRow2 w (cs.length - start + 1) (tim cs start l sp ac br)) := by
  obtain ⟨hc, hl, hall, _, hst⟩ := bad_zero hok
  obtain ⟨k1, k2, k3, k4, k5, k6, k7, k8⟩ := chk_of hc
  have Hok := Lib.hid hok
  have Hsum := Lib.hid (fun j hj => spd_sum (start := start) (l := l) k3 k4 k5 k6 k7 k8 hall (by omega) j hj)
  have Hstep := Lib.hid (fun j hj => step_range (start := start) (l := l) k3 k4 k5 k6 k7 k8 hall (by omega) j hj)
  have Htim := Lib.hid (fun j hj => tim_range (start := start) (l := l) k3 k4 k5 k6 k7 k8 hall (by omega) j hj)
  have HR : Hid (RdC (w.alloc (.cells #[.string nm, .int .i64 l, .int .i64 sp, .int .i64 ac, .int .i64 br] 26)) A cs) := Lib.hid (hR.below (B := 0) ((Below.refl _ _).alloc (Nat.le_refl _) _))
  clear hok hR hall hc
  obtain ⟨M, HM⟩ : ∃ M, Hid (cs.length - start + 1 = M) := ⟨_, Lib.hid rfl⟩
  have hM : M ≤ 4001 := by have := HM.out; omega
  have hM3 : 3 ≤ M := by have := HM.out; omega
  rw [HM.out]
  have hmk := run_make_row' (P := Try.prog) 22 3 (.int .i64 0) 8 Try.underlying22 info_int rfl .i64 .i64 M (by omega) (by omega)
  go_enter Try.func19, Try.ntmps19
  go_wp2_with fail
  refine (speeds_ok A cap cs start l nm sp ac br _ HR.out hcap Hok.out).mono ?_
  rintro e w2 ⟨b, rfl, hb1, hrow, hb2⟩
  rw [HM.out] at hrow ⊢
  have hbw : w.heap.size ≤ b := Nat.le_trans (by simp) hb1
  have HB2 : Hid (Below w.heap.size w w2) := Lib.hid (((Below.refl _ _).alloc (Nat.le_refl _) _).trans (hb2.mono (by simp)))
  have Hrow := Lib.hid hrow
  have HB3 : Hid (Below w.heap.size w (w2.alloc (.cells (madeCells #[.int .i64 0] M) 3))) := Lib.hid (HB2.out.alloc HB2.out.size _)
  have Hrow3 : Hid ((w2.alloc (.cells (madeCells #[.int .i64 0] M) 3)).rowIs b 3 M (fun j => .int .i64 ((spd cs start l sp ac br j : Nat) : Int))) := Lib.hid (hrow.alloc _)
  have Hnew : Hid ((w2.alloc (.cells (madeCells #[.int .i64 0] M) 3)).rowIs w2.heap.size 3 M (fun j => .int .i64 0)) := Lib.hid (World.rowIs_made _ _ _ _)
  have hbr : b < w2.heap.size := hrow.lt
  have hw2 : w.heap.size ≤ w2.heap.size := HB2.out.size
  clear hrow hb2 hb1 HR HB2 Hrow
  obtain ⟨r, hr⟩ : ∃ r, r = w2.heap.size := ⟨_, rfl⟩
  rw [← hr] at Hnew hbr hw2
  go_wp2
  rw [← hr]
  clear hmk
  generalize w2.alloc (.cells (madeCells #[.int .i64 0] M) 3) = w3 at HB3 Hrow3 Hnew ⊢
  clear hr
  go_loopw [11] (fun i wr => ∃ k : Nat, 1 ≤ k ∧ k ≤ M ∧ i = .int .i64 k ∧ Hid (wr.rowIs b 3 M (fun j => .int .i64 ((spd cs start l sp ac br j : Nat) : Int))) ∧ Hid (wr.rowIs r 3 M (fun j => .int .i64 (if j < k then tim cs start l sp ac br j else 0))) ∧ Hid (Below w.heap.size w wr)) (fun i _ => M - (intOf i).toNat)
  case atStart => exact ⟨1, by omega, by omega, rfl, Hrow3, Lib.hid (Hnew.out.congr (fun j hj => by
      by_cases h : j < 1
      · rw [if_pos h]; obtain rfl : j = 0 := by omega
        rfl
      · rw [if_neg h])), HB3⟩
  case round =>
    obtain ⟨k, hk1, hk2, rfl, Hs, Ht, Hb⟩ := hrel
    by_cases hlt : k < M
    · have r0 := Hs.out.cell (i := k - 1) (by omega)
      have r1 := Hs.out.cell (i := k) hlt
      have t0 := Ht.out.cell (i := k - 1) (by omega)
      have t1 := Ht.out.cell (i := k) hlt
      have t2 := Ht.out.frozen k
      rw [if_pos (by omega)] at t0
      rw [if_neg (by omega)] at t1
      have hsum := Hsum.out (k - 1) (by have := HM.out; omega)
      have hstep := Hstep.out (k - 1) (by have := HM.out; omega)
      have htim := Htim.out (k - 1) (by have := HM.out; omega)
      rw [show k - 1 + 1 = k by omega] at hsum hstep
      have Hdef : Hid (tim cs start l sp ac br k = tim cs start l sp ac br (k - 1) + Pl.cdiv 20000000 ((spd cs start l sp ac br (k - 1) : Int) + spd cs start l sp ac br k)) := Lib.hid (by
        obtain ⟨j, rfl⟩ : ∃ j, k = j + 1 := ⟨k - 1, by omega⟩
        simp only [tim, Nat.add_sub_cancel])
      obtain ⟨x, Hx⟩ : ∃ x, Hid (spd cs start l sp ac br (k - 1) = x) := ⟨_, Lib.hid rfl⟩
      obtain ⟨y, Hy⟩ : ∃ y, Hid (spd cs start l sp ac br k = y) := ⟨_, Lib.hid rfl⟩
      obtain ⟨t, Htt⟩ : ∃ t, Hid (tim cs start l sp ac br (k - 1) = t) := ⟨_, Lib.hid rfl⟩
      rw [Hx.out] at r0 hsum hstep
      rw [Hy.out] at r1 hsum hstep
      rw [Hx.out, Hy.out, Htt.out] at Hdef
      rw [Htt.out] at t0 htim
      obtain ⟨q, Hq⟩ : ∃ q, Hid (Pl.cdiv 20000000 ((x : Int) + y) = q) := ⟨_, Lib.hid rfl⟩
      rw [Hq.out] at hstep Hdef
      obtain ⟨q1, q2⟩ := hstep
      obtain ⟨u1, u2⟩ := hsum
      obtain ⟨v1, v2⟩ := htim
      obtain ⟨j, Hj⟩ : ∃ j, Hid (k - 1 = j) := ⟨_, Lib.hid rfl⟩
      rw [Hj.out] at r0 t0 v1 v2
      have e1 : IntKind.i64.wrap ((k : Int) - 1) = (j : Int) := by rw [IntKind.wrap_i64]; have := Hj.out; omega
      have e2 : IntKind.i64.wrap ((x : Int) + y) = (x : Int) + y := by rw [IntKind.wrap_i64]; omega
      have e3 : (k : Int) - 1 = (j : Int) := by have := Hj.out; omega
      have hj : j < M := by have := Hj.out; omega
      go_wp2
      go_quiet ((go_at_call 28; exact quiet_same (ceilDiv_any _ _ _ (by omega) (by omega) (by omega) (by omega))))
      rw [Hq.out]
      have Ht2 := Lib.hid (((show (wr.drewN nq).rowIs r 3 M _ from Ht.out).set k (.int .i64 (t + q))).congr (g := fun j => .int .i64 (if j < k + 1 then tim cs start l sp ac br j else 0)) (fun j hj => by
        by_cases hjk : j = k
        · rw [if_pos hjk, hjk, if_pos (by omega), Hdef.out]
        · rw [if_neg hjk]
          by_cases h : j < k
          · rw [if_pos h, if_pos (by omega)]
          · rw [if_neg h, if_neg (by omega)]))
      have Hs2 := Lib.hid ((show (wr.drewN nq).rowIs b 3 M _ from Hs.out).setOther (a := ⟨r, k, none⟩) (by show b ≠ r; omega) (.int .i64 (t + q)))
      have Hb2 : Hid (Below w.heap.size w ((wr.drewN nq).setCell ⟨r, k, none⟩ (.int .i64 (t + q)))) := Lib.hid ((below_draws Hb.out nq).setCell hw2 _)
      go_wp2
      go_roundw
      case rel => exact ⟨k + 1, by omega, by omega, by go_num, Hs2, Ht2, Hb2⟩
      case measure => simp [intOf]; omega
    · obtain rfl : k = M := by omega
      go_wp2
      go_ret2
      exact ⟨r, rfl, hw2, Ht.out.congr (fun j hj => by rw [if_pos hj]), Hb.out⟩

theorem run_bad (A : Option Addr) (cap : Nat) (cs : List (Int × Int)) (start : Int) (nm : ByteArray) (l sp ac br : Int) (w : World) (hR : RdC w A cs) (hl : cs.length ≤ 9223372036854775807) (hbad : badRun cs start l sp ac br ≠ 0) :
    Calls Try.prog 20 #[.slice A cs.length cap, .int .i64 start, .agg #[.string nm, .int .i64 l, .int .i64 sp, .int .i64 ac, .int .i64 br]] w fun e w' => e = .returned (.tuple #[.int .i64 0, .int .i64 (badRun cs start l sp ac br)]) ∧ Below w.heap.size w w' := by
  obtain ⟨z, Hz⟩ : ∃ z, Hid (badRun cs start l sp ac br = z) := ⟨_, Lib.hid rfl⟩
  have hz : (z != 0) = true := by rw [bne_iff_ne, ← Hz.out]; exact hbad
  have HR : Hid (RdC (w.alloc (.cells #[.string nm, .int .i64 l, .int .i64 sp, .int .i64 ac, .int .i64 br] 26)) A cs) := Lib.hid (hR.below (B := 0) ((Below.refl _ _).alloc (Nat.le_refl _) _))
  have Hbad := Lib.hid hbad
  clear hbad hR
  rw [Hz.out]
  go_enter Try.func20, Try.ntmps20
  go_wp2_with fail
  refine (times_bad A cap cs start nm l sp ac br _ HR.out hl Hbad.out).mono ?_
  rintro e w1 ⟨rfl, hb⟩
  rw [Hz.out]
  go_wp2
  go_ret2
  exact ⟨rfl, ((Below.refl _ _).alloc (Nat.le_refl _) _).trans (hb.mono (by simp))⟩

theorem run_ok (A : Option Addr) (cap : Nat) (cs : List (Int × Int)) (start l : Nat) (nm : ByteArray) (sp ac br : Int) (w : World) (hR : RdC w A cs) (hcap : cs.length ≤ cap) (hok : badRun cs start l sp ac br = 0) :
    Calls Try.prog 20 #[.slice A cs.length cap, .int .i64 start, .agg #[.string nm, .int .i64 l, .int .i64 sp, .int .i64 ac, .int .i64 br]] w fun e w' => e = .returned (.tuple #[.int .i64 (runT cs start l sp ac br), .int .i64 0]) ∧ Below w.heap.size w w' := by
  obtain ⟨hc, hl, hall, _, hst⟩ := bad_zero hok
  obtain ⟨k1, k2, k3, k4, k5, k6, k7, k8⟩ := chk_of hc
  have Hok := Lib.hid hok
  obtain ⟨v1, v2⟩ := tim_range (start := start) (l := l) k3 k4 k5 k6 k7 k8 hall (by omega) (cs.length - start) (Nat.le_refl _)
  have HR : Hid (RdC (w.alloc (.cells #[.string nm, .int .i64 l, .int .i64 sp, .int .i64 ac, .int .i64 br] 26)) A cs) := Lib.hid (hR.below (B := 0) ((Below.refl _ _).alloc (Nat.le_refl _) _))
  clear hok hR hall hc
  obtain ⟨M, HM⟩ : ∃ M, Hid (cs.length - start + 1 = M) := ⟨_, Lib.hid rfl⟩
  have hM : M ≤ 4001 := by have := HM.out; omega
  have hM3 : 3 ≤ M := by have := HM.out; omega
  obtain ⟨j, Hj⟩ : ∃ j, Hid (cs.length - start = j) := ⟨_, Lib.hid rfl⟩
  obtain ⟨t, Ht⟩ : ∃ t, Hid (tim cs start l sp ac br j = t) := ⟨_, Lib.hid rfl⟩
  rw [Hj.out] at v1 v2
  rw [Ht.out] at v1 v2
  have Hr : Hid (runT cs start l sp ac br = Pl.cdiv t 1000) := Lib.hid (by unfold runT; rw [Hj.out, Ht.out])
  have hj : j < M := by have := HM.out; have := Hj.out; omega
  have e1 : (M : Int) - 1 = (j : Int) := by have := HM.out; have := Hj.out; omega
  rw [Hr.out]
  go_enter Try.func20, Try.ntmps20
  go_wp2_with fail
  refine (times_ok A cap cs start l nm sp ac br _ HR.out hcap Hok.out).mono ?_
  rintro e w2 ⟨b, rfl, hb1, hrow, hb2⟩
  rw [HM.out] at hrow ⊢
  have c1 := hrow.cell (i := j) hj
  rw [Ht.out] at c1
  have HB2 : Hid (Below w.heap.size w w2) := Lib.hid (((Below.refl _ _).alloc (Nat.le_refl _) _).trans (hb2.mono (by simp)))
  clear hrow hb2 hb1 HR
  go_wp2_with fail
  refine (ceilDiv_any t 1000 _ (by omega) (by omega) (by omega) (by omega)).mono ?_
  rintro e w' ⟨rfl, rfl⟩
  go_wp2
  go_ret2
  exact ⟨rfl, HB2.out⟩
end Go.Proofs.Ytjmiddhdbimaaaa
