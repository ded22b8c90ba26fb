/- DynamicsTimesAscend returns true, whatever its arguments: the Times start with 0, ascend, and end with a time that Run rounds up to seconds. -/
import Derived.Test.YtjmiddhdbimaaaaOpening
import Derived.Test.YtjmiddhdbimaaaaPermPlain
namespace Go.Proofs.Ytjmiddhdbimaaaa
open Go.RowKit
set_option linter.unusedVariables false

set_option maxRecDepth 100000 in
theorem DynamicsTimesAscend_short (a0 : Option Addr) (cap0 : Nat) (z0 : List Int) (a1 : Option Addr) (cap1 : Nat) (z1 : List Int) (a2 : Int) (w : World)
    (cs : List (Int × Int)) (l : Nat) (sp ac br : Int) (hn1 : cs.length ≤ 56) (hl1 : 1 ≤ l) (hl2 : l ≤ 4) (k3 : 5000 ≤ sp) (k4 : sp ≤ 32500) (k5 : 200 ≤ ac) (k6 : ac ≤ 900) (k7 : 200 ≤ br) (k8 : br ≤ 900) (Hall : Hid (cs.all cellB = true))
    (HC : Hid (Calls Try.prog 13 #[.slice a0 z0.length cap0] w (RetCells w cs)))
    (HS : Hid (∀ w1, Below w.heap.size w w1 → Calls Try.prog 14 #[.slice a1 z1.length cap1] w1 fun e w' => e = .returned (.agg #[.string ⟨#[88]⟩, .int .i64 l, .int .i64 sp, .int .i64 ac, .int .i64 br]) ∧ Below w1.heap.size w1 w'))
    (hlt : cs.length < 2) :
    Calls Try.prog 12 #[.slice a0 z0.length cap0, .slice a1 z1.length cap1, .int .i64 a2] w fun e w' => e = .returned (.bool true) ∧ Below w.heap.size w w' := by
  have Hchk := Lib.hid (chk_mk (l := (l : Int)) (by omega) (by omega) (show 1000 ≤ sp by omega) (by omega) (show 100 ≤ ac by omega) (by omega) (show 100 ≤ br by omega) (by omega))
  go_enter Try.func12, Try.ntmps12
  go_wp2_with fail
  refine HC.out.mono ?_
  rintro e w1 ⟨A, c, rfl, hown, hb1⟩
  go_wp2_with fail
  refine (HS.out w1 hb1).mono ?_
  rintro e w2 ⟨rfl, hb2⟩
  have hcap : cs.length ≤ c := own_cap hown
  have Hb2 : Hid (Below w.heap.size w w2) := Lib.hid (hb1.trans (hb2.mono hb1.size))
  have Hb3 : Hid (Below w.heap.size w (w2.alloc (.cells #[.string ⟨#[88]⟩, .int .i64 l, .int .i64 sp, .int .i64 ac, .int .i64 br] 26))) := Lib.hid (Hb2.out.alloc Hb2.out.size _)
  have HX : Hid (BoxS (w2.alloc (.cells #[.string ⟨#[88]⟩, .int .i64 l, .int .i64 sp, .int .i64 ac, .int .i64 br] 26)) w2.heap.size ⟨#[88]⟩ l sp ac br) := Lib.hid (BoxS.new w2 ⟨#[88]⟩ l sp ac br 26)
  have HRC : Hid (RdC (w2.alloc (.cells #[.string ⟨#[88]⟩, .int .i64 l, .int .i64 sp, .int .i64 ac, .int .i64 br] 26)) A cs) := Lib.hid (((RdC.of_own hown rfl).below (B := 0) hb2).below (B := 0) ((Below.refl _ _).alloc (Nat.le_refl _) _))
  clear hown hb1 hb2 Hb2 HC HS
  obtain ⟨p, hp⟩ : ∃ p, p = w2.heap.size := ⟨_, rfl⟩
  rw [← hp] at HX
  go_wp2_with fail
  refine (check_any _ l sp ac br _).mono ?_
  rintro e w4 ⟨rfl, hb4⟩
  rw [Hchk.out]
  go_wp2
  go_ret
  exact ⟨rfl, Hb3.out.trans (hb4.mono Hb3.out.size)⟩

set_option maxHeartbeats 1000000 in
set_option maxRecDepth 100000 in
theorem DynamicsTimesAscend_long (a0 : Option Addr) (cap0 : Nat) (z0 : List Int) (a1 : Option Addr) (cap1 : Nat) (z1 : List Int) (a2 : Int) (w : World)
    (cs : List (Int × Int)) (l : Nat) (sp ac br : Int) (hn1 : cs.length ≤ 56) (hl1 : 1 ≤ l) (hl2 : l ≤ 4) (k3 : 5000 ≤ sp) (k4 : sp ≤ 32500) (k5 : 200 ≤ ac) (k6 : ac ≤ 900) (k7 : 200 ≤ br) (k8 : br ≤ 900) (Hall : Hid (cs.all cellB = true))
    (HC : Hid (Calls Try.prog 13 #[.slice a0 z0.length cap0] w (RetCells w cs)))
    (HS : Hid (∀ w1, Below w.heap.size w w1 → Calls Try.prog 14 #[.slice a1 z1.length cap1] w1 fun e w' => e = .returned (.agg #[.string ⟨#[88]⟩, .int .i64 l, .int .i64 sp, .int .i64 ac, .int .i64 br]) ∧ Below w1.heap.size w1 w'))
    (hlt : 2 ≤ cs.length) :
    Calls Try.prog 12 #[.slice a0 z0.length cap0, .slice a1 z1.length cap1, .int .i64 a2] w fun e w' => e = .returned (.bool true) ∧ Below w.heap.size w w' := by
  have hd2 : decide ((cs.length : Int) < 2) = false := by simp; omega
  obtain ⟨s, hs⟩ := Int.eq_ofNat_of_zero_le (pick_range a2 ((cs.length : Int) - 1) (by omega)).1
  have hs2 : s + 2 ≤ cs.length := by have := (pick_range a2 ((cs.length : Int) - 1) (by omega)).2; omega
  have Hs := Lib.hid hs
  have Hok : Hid (badRun cs s l sp ac br = 0) := Lib.hid (ok_of Hall.out (by omega) hs2 (by omega) (by omega) (by omega) (by omega) (by omega) (by omega) (by omega) (by omega))
  clear hs
  go_enter Try.func12, Try.ntmps12
  go_wp2_with fail
  refine HC.out.mono ?_
  rintro e w1 ⟨A, c, rfl, hown, hb1⟩
  go_wp2_with fail
  refine (HS.out w1 hb1).mono ?_
  rintro e w2 ⟨rfl, hb2⟩
  have hcap : cs.length ≤ c := own_cap hown
  have Hb2 : Hid (Below w.heap.size w w2) := Lib.hid (hb1.trans (hb2.mono hb1.size))
  have Hb3 : Hid (Below w.heap.size w (w2.alloc (.cells #[.string ⟨#[88]⟩, .int .i64 l, .int .i64 sp, .int .i64 ac, .int .i64 br] 26))) := Lib.hid (Hb2.out.alloc Hb2.out.size _)
  have HX : Hid (BoxS (w2.alloc (.cells #[.string ⟨#[88]⟩, .int .i64 l, .int .i64 sp, .int .i64 ac, .int .i64 br] 26)) w2.heap.size ⟨#[88]⟩ l sp ac br) := Lib.hid (BoxS.new w2 ⟨#[88]⟩ l sp ac br 26)
  have HRC : Hid (RdC (w2.alloc (.cells #[.string ⟨#[88]⟩, .int .i64 l, .int .i64 sp, .int .i64 ac, .int .i64 br] 26)) A cs) := Lib.hid (((RdC.of_own hown rfl).below (B := 0) hb2).below (B := 0) ((Below.refl _ _).alloc (Nat.le_refl _) _))
  clear hown hb1 hb2 Hb2 HC HS
  obtain ⟨p, hp⟩ : ∃ p, p = w2.heap.size := ⟨_, rfl⟩
  rw [← hp] at HX
  go_wp2_with fail
  refine (pick_any a2 _ _ (by omega) (by omega)).mono ?_
  rintro e w' ⟨rfl, rfl⟩
  rw [Hs.out]
  rw [← hp]
  generalize w2.alloc (.cells #[.string ⟨#[88]⟩, .int .i64 l, .int .i64 sp, .int .i64 ac, .int .i64 br] 26) = W at *
  clear hp
  obtain ⟨hps, s0, s1, s2, s3, s4⟩ := HX.out
  obtain ⟨M, HM⟩ : ∃ M, Hid (cs.length - s + 1 = M) := ⟨_, Lib.hid rfl⟩
  have hM : M ≤ 57 := by have := HM.out; omega
  have hM3 : 3 ≤ M := by have := HM.out; omega
  go_wp2_with fail
  refine (times_ok A c cs s l _ sp ac br _ HRC.out hcap Hok.out).mono ?_
  rintro e W3 ⟨r, rfl, hr, hrow, hb4⟩
  rw [HM.out] at hrow ⊢
  have HX3 := Lib.hid (HX.out.below hb4)
  have HRC3 := Lib.hid (HRC.out.below (B := 0) hb4)
  have Hb4 := Lib.hid (Hb3.out.trans (hb4.mono Hb3.out.size))
  have Hrow := Lib.hid hrow
  clear hr hrow hb4 HX HRC Hb3 s0 s1 s2 s3 s4 hps
  obtain ⟨hps, s0, s1, s2, s3, s4⟩ := HX3.out
  go_wp2_with fail
  refine (run_ok A c cs s l _ sp ac br _ HRC3.out hcap Hok.out).mono ?_
  rintro e W4 ⟨rfl, hb5⟩
  have Hrow4 : Hid (W4.rowIs r 3 M (fun j => .int .i64 (tim cs s l sp ac br j))) := Lib.hid (Hrow.out.of_block (hb5.block _ Hrow.out.lt))
  have Hb5 := Lib.hid (Hb4.out.trans (hb5.mono Hb4.out.size))
  clear hb5 Hrow HX3 HRC3 Hb4 s0 s1 s2 s3 s4 hps
  obtain ⟨m, Hm⟩ : ∃ m, Hid (cs.length - s = m) := ⟨_, Lib.hid rfl⟩
  have hm1 : (M : Int) - 1 = (m : Int) := by have := HM.out; have := Hm.out; omega
  have hmM : m < M := by have := HM.out; have := Hm.out; omega
  have v0 : W4.cell? ⟨r, 0, none⟩ = some (.int .i64 0) := by
    have := Hrow4.out.cell (i := 0) (by omega)
    rw [this]; rfl
  obtain ⟨t, Ht⟩ : ∃ t, Hid (tim cs s l sp ac br m = t) := ⟨_, Lib.hid rfl⟩
  have vm : W4.cell? ⟨r, m, none⟩ = some (.int .i64 t) := by rw [← Ht.out]; exact Hrow4.out.cell (i := m) hmM
  obtain ⟨u1, u2⟩ := tim_range (start := s) (l := l) (show 1000 ≤ sp by omega) (by omega) (show 100 ≤ ac by omega) (by omega) (show 100 ≤ br by omega) (by omega) Hall.out (by omega) m (by have := Hm.out; omega)
  rw [Ht.out] at u1 u2
  obtain ⟨q, Hq⟩ : ∃ q, Hid (runT cs s l sp ac br = q) := ⟨_, Lib.hid rfl⟩
  have hq : t ≤ q * 1000 ∧ q * 1000 < t + 1000 := by
    have := Pl.cdiv_bracket t 1000 (by omega)
    have e : runT cs s l sp ac br = Pl.cdiv t 1000 := by unfold runT; rw [Hm.out, Ht.out]
    rw [← Hq.out, e]; exact this
  obtain ⟨hq1, hq2⟩ := hq
  rw [Hq.out]
  have t1 : ((M : Int) != (cs.length : Int) - s + 1) = false := by have := HM.out; simp; omega
  go_wp2
  clear v0 t1
  go_loopw [13] (fun bv wr => ∃ k : Nat, 1 ≤ k ∧ k ≤ M ∧ bv = .int .i64 k ∧ ∃ n, wr = W4.drewN n) (fun bv _ => M - (intOf bv).toNat)
  case atStart => exact ⟨1, by omega, by omega, rfl, 0, rfl⟩
  case round =>
    obtain ⟨k, hk1, hk2, rfl, n, rfl⟩ := hrel
    by_cases hkM : k < M
    · obtain ⟨j, Hj⟩ : ∃ j, Hid (k - 1 = j) := ⟨_, Lib.hid rfl⟩
      have hjM : j < M := by have := Hj.out; omega
      obtain ⟨x, Hx⟩ : ∃ x, Hid (tim cs s l sp ac br k = x) := ⟨_, Lib.hid rfl⟩
      obtain ⟨y, Hy⟩ : ∃ y, Hid (tim cs s l sp ac br j = y) := ⟨_, Lib.hid rfl⟩
      have vk : W4.cell? ⟨r, k, none⟩ = some (.int .i64 x) := by rw [← Hx.out]; exact Hrow4.out.cell (i := k) hkM
      have vj : W4.cell? ⟨r, j, none⟩ = some (.int .i64 y) := by rw [← Hy.out]; exact Hrow4.out.cell (i := j) hjM
      have hxy : y < x := by
        have hs := step_range (start := s) (l := l) (show 1000 ≤ sp by omega) (by omega) (show 100 ≤ ac by omega) (by omega) (show 100 ≤ br by omega) (by omega) Hall.out (by omega) j (by have := Hj.out; have := HM.out; omega)
        have e : tim cs s l sp ac br (j + 1) = tim cs s l sp ac br j + _ := rfl
        rw [show j + 1 = k by have := Hj.out; omega, Hx.out, Hy.out] at e
        rw [show j + 1 = k by have := Hj.out; omega] at hs
        omega
      have w1 : decide (x ≤ y) = false := by simp; omega
      have e0 : IntKind.i64.wrap ((k : Int) - 1) = (j : Int) := by rw [IntKind.wrap_i64]; have := Hj.out; omega
      go_wp2
      go_quiet (fail)
      rw [World.drewN_drewN]
      go_wp2
      go_roundw
      case rel => exact ⟨k + 1, by omega, by omega, by go_num, _, rfl⟩
      case measure => simp [intOf]; omega
    · go_wp2
      go_ret
      exact ⟨ret_bool (by simp; omega), below_draws Hb5.out n⟩
theorem W.DynamicsTimesAscend (a0 : Option Addr) (cap0 : Nat) (z0 : List Int) (a1 : Option Addr) (cap1 : Nat) (z1 : List Int) (a2 : Int) (w : World) (r0 : RdI w a0 z0) (l0 : z0.length ≤ 9223372036854775807) (r1 : RdI w a1 z1) (l1 : z1.length ≤ 9223372036854775807) (w2 : (Lit.int .i64 a2).wf = true) :
    Calls Try.prog 12 #[.slice a0 z0.length cap0, .slice a1 z1.length cap1, .int .i64 a2] w fun e w' => e = .returned (.bool true) ∧ Below w.heap.size w w' := by
  obtain ⟨cs, l, sp, ac, br, hall, hn1, hn2, hl1, hl2, k3, k4, k5, k6, k7, k8, hC, hS⟩ := opening a0 cap0 z0 a1 cap1 z1 w r0 l0 r1 l1
  have Hall := Lib.hid hall
  have HC := Lib.hid hC
  have HS := Lib.hid hS
  clear hall hC hS r0 r1
  by_cases hlt : cs.length < 2
  · exact DynamicsTimesAscend_short a0 cap0 z0 a1 cap1 z1 a2 w cs l sp ac br hn1 hl1 hl2 k3 k4 k5 k6 k7 k8 Hall HC HS hlt
  · exact DynamicsTimesAscend_long a0 cap0 z0 a1 cap1 z1 a2 w cs l sp ac br hn1 hl1 hl2 k3 k4 k5 k6 k7 k8 Hall HC HS (by omega)
end Go.Proofs.Ytjmiddhdbimaaaa
