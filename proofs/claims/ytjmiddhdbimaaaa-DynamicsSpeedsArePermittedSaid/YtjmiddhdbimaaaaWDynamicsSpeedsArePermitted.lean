/- DynamicsSpeedsArePermitted returns true, whatever its arguments: the Speeds respect all limits under the train and both rates, up to the rounding of the root. -/
import Derived.Test.YtjmiddhdbimaaaaOpening
import Derived.Test.YtjmiddhdbimaaaaPermPlain
namespace Go.Proofs.Ytjmiddhdbimaaaa
open Go.RowKit
set_option linter.unusedVariables false

set_option maxRecDepth 100000 in
theorem walkPermitted_short (a0 : Option Addr) (cap0 : Nat) (z0 : List Int) (a1 : Option Addr) (cap1 : Nat) (z1 : List Int) (a2 : Int) (w : World) (cs : List (Int × Int)) (l : Nat) (sp ac br : Int) (hn1 : cs.length ≤ 56) (hl1 : 1 ≤ l) (hl2 : l ≤ 4) (k3 : 5000 ≤ sp) (k4 : sp ≤ 32500) (k5 : 200 ≤ ac) (k6 : ac ≤ 900) (k7 : 200 ≤ br) (k8 : br ≤ 900)
    (HC : Hid (Calls Try.prog 13 #[.slice a0 z0.length cap0] w (RetCells w cs)))
    (HS : Hid (∀ w1, Below w.heap.size w w1 → Calls Try.prog 14 #[.slice a1 z1.length cap1] w1 fun e w' => e = .returned (.agg #[.string ⟨#[88]⟩, .int .i64 l, .int .i64 sp, .int .i64 ac, .int .i64 br]) ∧ Below w1.heap.size w1 w')) (hlt : cs.length < 2) :
    Calls Try.prog 3 #[.slice a0 z0.length cap0, .slice a1 z1.length cap1, .int .i64 a2] w fun e w' => e = .returned (.bool true) ∧ Below w.heap.size w w' := by
  have Hchk := Lib.hid (chk_mk (l := (l : Int)) (by omega) (by omega) (show 1000 ≤ sp by omega) (by omega) (show 100 ≤ ac by omega) (by omega) (show 100 ≤ br by omega) (by omega))
  go_enter Try.func3, Try.ntmps3
  go_wp2_with fail
  refine HC.out.mono ?_
  rintro e w1 ⟨A, c, rfl, hown, hb1⟩
  go_wp2_with fail
  refine (HS.out w1 hb1).mono ?_
  rintro e w2 ⟨rfl, hb2⟩
  have hcap : cs.length ≤ c := own_cap hown
  have Hb2 : Hid (Below w.heap.size w w2) := Lib.hid (hb1.trans (hb2.mono hb1.size))
  have Hb3 : Hid (Below w.heap.size w (w2.alloc (.cells #[.string ⟨#[88]⟩, .int .i64 l, .int .i64 sp, .int .i64 ac, .int .i64 br] 26))) := Lib.hid (Hb2.out.alloc Hb2.out.size _)
  have HX : Hid (BoxS (w2.alloc (.cells #[.string ⟨#[88]⟩, .int .i64 l, .int .i64 sp, .int .i64 ac, .int .i64 br] 26)) w2.heap.size ⟨#[88]⟩ l sp ac br) := Lib.hid (BoxS.new w2 ⟨#[88]⟩ l sp ac br 26)
  have HRC : Hid (RdC (w2.alloc (.cells #[.string ⟨#[88]⟩, .int .i64 l, .int .i64 sp, .int .i64 ac, .int .i64 br] 26)) A cs) := Lib.hid (((RdC.of_own hown rfl).below (B := 0) hb2).below (B := 0) ((Below.refl _ _).alloc (Nat.le_refl _) _))
  clear hown hb1 hb2 Hb2 HC HS
  obtain ⟨p, hp⟩ : ∃ p, p = w2.heap.size := ⟨_, rfl⟩
  rw [← hp] at HX
  go_wp2_with fail
  refine (check_any _ l sp ac br _).mono ?_
  rintro e w4 ⟨rfl, hb4⟩
  rw [Hchk.out]
  go_wp2
  go_ret
  exact ⟨rfl, Hb3.out.trans (hb4.mono Hb3.out.size)⟩

set_option maxHeartbeats 2000000 in
set_option maxRecDepth 100000 in
theorem walkPermitted_long (a0 : Option Addr) (cap0 : Nat) (z0 : List Int) (a1 : Option Addr) (cap1 : Nat) (z1 : List Int) (a2 : Int) (w : World) (cs : List (Int × Int)) (l : Nat) (sp ac br : Int) (hn1 : cs.length ≤ 56) (hl1 : 1 ≤ l) (hl2 : l ≤ 4) (k3 : 5000 ≤ sp) (k4 : sp ≤ 32500) (k5 : 200 ≤ ac) (k6 : ac ≤ 900) (k7 : 200 ≤ br) (k8 : br ≤ 900) (Hall : Hid (cs.all cellB = true))
    (HC : Hid (Calls Try.prog 13 #[.slice a0 z0.length cap0] w (RetCells w cs)))
    (HS : Hid (∀ w1, Below w.heap.size w w1 → Calls Try.prog 14 #[.slice a1 z1.length cap1] w1 fun e w' => e = .returned (.agg #[.string ⟨#[88]⟩, .int .i64 l, .int .i64 sp, .int .i64 ac, .int .i64 br]) ∧ Below w1.heap.size w1 w')) (hlt : 2 ≤ cs.length) :
    Calls Try.prog 3 #[.slice a0 z0.length cap0, .slice a1 z1.length cap1, .int .i64 a2] w fun e w' => e = .returned (.bool true) ∧ Below w.heap.size w w' := by
  have hd2 : decide ((cs.length : Int) < 2) = false := by simp; omega
  obtain ⟨s, hs⟩ := Int.eq_ofNat_of_zero_le (pick_range a2 ((cs.length : Int) - 1) (by omega)).1
  have hs2 : s + 2 ≤ cs.length := by have := (pick_range a2 ((cs.length : Int) - 1) (by omega)).2; omega
  have Hs := Lib.hid hs
  have Hok : Hid (badRun cs s l sp ac br = 0) := Lib.hid (ok_of Hall.out (by omega) hs2 (by omega) (by omega) (by omega) (by omega) (by omega) (by omega) (by omega) (by omega))
  clear hs
  go_enter Try.func3, Try.ntmps3
  go_wp2_with fail
  refine HC.out.mono ?_
  rintro e w1 ⟨A, c, rfl, hown, hb1⟩
  go_wp2_with fail
  refine (HS.out w1 hb1).mono ?_
  rintro e w2 ⟨rfl, hb2⟩
  have hcap : cs.length ≤ c := own_cap hown
  have Hb2 : Hid (Below w.heap.size w w2) := Lib.hid (hb1.trans (hb2.mono hb1.size))
  have Hb3 : Hid (Below w.heap.size w (w2.alloc (.cells #[.string ⟨#[88]⟩, .int .i64 l, .int .i64 sp, .int .i64 ac, .int .i64 br] 26))) := Lib.hid (Hb2.out.alloc Hb2.out.size _)
  have HX : Hid (BoxS (w2.alloc (.cells #[.string ⟨#[88]⟩, .int .i64 l, .int .i64 sp, .int .i64 ac, .int .i64 br] 26)) w2.heap.size ⟨#[88]⟩ l sp ac br) := Lib.hid (BoxS.new w2 ⟨#[88]⟩ l sp ac br 26)
  have HRC : Hid (RdC (w2.alloc (.cells #[.string ⟨#[88]⟩, .int .i64 l, .int .i64 sp, .int .i64 ac, .int .i64 br] 26)) A cs) := Lib.hid (((RdC.of_own hown rfl).below (B := 0) hb2).below (B := 0) ((Below.refl _ _).alloc (Nat.le_refl _) _))
  clear hown hb1 hb2 Hb2 HC HS
  obtain ⟨p, hp⟩ : ∃ p, p = w2.heap.size := ⟨_, rfl⟩
  rw [← hp] at HX
  go_wp2_with fail
  refine (pick_any a2 _ _ (by omega) (by omega)).mono ?_
  rintro e w' ⟨rfl, rfl⟩
  rw [Hs.out]
  rw [← hp]
  generalize w2.alloc (.cells #[.string ⟨#[88]⟩, .int .i64 l, .int .i64 sp, .int .i64 ac, .int .i64 br] 26) = W at *
  clear hp
  obtain ⟨hps, s0, s1, s2, s3, s4⟩ := HX.out
  obtain ⟨M, HM⟩ : ∃ M, Hid (cs.length - s + 1 = M) := ⟨_, Lib.hid rfl⟩
  have hM : M ≤ 57 := by have := HM.out; omega
  have hM3 : 3 ≤ M := by have := HM.out; omega
  go_wp2_with fail
  refine (speeds_ok A c cs s l _ sp ac br _ HRC.out hcap Hok.out).mono ?_
  rintro e W3 ⟨r, rfl, hr, hrow, hb4⟩
  rw [HM.out] at hrow ⊢
  have HX3 := Lib.hid (HX.out.below hb4)
  have HRC3 := Lib.hid (HRC.out.below (B := 0) hb4)
  have Hb4 := Lib.hid (Hb3.out.trans (hb4.mono Hb3.out.size))
  have Hrow : Hid (W3.rowIs r 3 M (fun j => .int .i64 ((spd cs s l sp ac br j : Nat) : Int))) := Lib.hid hrow
  clear hr hrow hb4 HX HRC Hb3 s0 s1 s2 s3 s4 hps
  obtain ⟨hps, s0, s1, s2, s3, s4⟩ := HX3.out
  obtain ⟨m, Hm⟩ : ∃ m, Hid (cs.length - s = m) := ⟨_, Lib.hid rfl⟩
  have hm1 : (M : Int) - 1 = (m : Int) := by have := HM.out; have := Hm.out; omega
  have hmM : m < M := by have := HM.out; have := Hm.out; omega
  have v0 : W3.cell? ⟨r, 0, none⟩ = some (.int .i64 0) := by
    have := Hrow.out.cell (i := 0) (by omega)
    rw [this, show spd cs s l sp ac br 0 = 0 by unfold spd; rw [sqW_zero]; rfl]; rfl
  have vm : W3.cell? ⟨r, m, none⟩ = some (.int .i64 0) := by
    have := Hrow.out.cell (i := m) hmM
    rw [this, show spd cs s l sp ac br m = 0 by unfold spd; rw [← Hm.out, sqW_end (by omega)]; rfl]; rfl
  have t1 : ((M : Int) != (cs.length : Int) - s + 1) = false := by have := HM.out; simp; omega
  go_wp2
  clear v0 vm t1
  go_loopw [11] (fun bv wr => ∃ k : Nat, 1 ≤ k ∧ k ≤ M ∧ bv = .int .i64 k ∧ ∃ n, wr = W3.drewN n) (fun bv _ => M - (intOf bv).toNat)
  case atStart => exact ⟨1, by omega, by omega, rfl, 0, rfl⟩
  case round =>
    obtain ⟨k, hk1, hk2, rfl, n, rfl⟩ := hrel
    by_cases hkM : k < M
    · obtain ⟨j, Hj⟩ : ∃ j, Hid (k - 1 = j) := ⟨_, Lib.hid rfl⟩
      have hjM : j < M := by have := Hj.out; omega
      obtain ⟨x, Hx⟩ : ∃ x : Int, Hid (((spd cs s l sp ac br k : Nat) : Int) = x) := ⟨_, Lib.hid rfl⟩
      obtain ⟨y, Hy⟩ : ∃ y : Int, Hid (((spd cs s l sp ac br j : Nat) : Int) = y) := ⟨_, Lib.hid rfl⟩
      have vk : W3.cell? ⟨r, k, none⟩ = some (.int .i64 x) := by rw [← Hx.out]; exact Hrow.out.cell (i := k) hkM
      have vj : W3.cell? ⟨r, j, none⟩ = some (.int .i64 y) := by rw [← Hy.out]; exact Hrow.out.cell (i := j) hjM
      have rx := spd_range (start := s) (l := l) (show 1000 ≤ sp by omega) (by omega) (show 100 ≤ ac by omega) (by omega) (show 100 ≤ br by omega) (by omega) Hall.out k
      have ry := spd_range (start := s) (l := l) (show 1000 ≤ sp by omega) (by omega) (show 100 ≤ ac by omega) (by omega) (show 100 ≤ br by omega) (by omega) Hall.out j
      have qx := spd_sq (start := s) (l := l) (show 1000 ≤ sp by omega) (by omega) (show 100 ≤ ac by omega) (by omega) (show 100 ≤ br by omega) (by omega) Hall.out k
      have qy := spd_sq (start := s) (l := l) (show 1000 ≤ sp by omega) (by omega) (show 100 ≤ ac by omega) (by omega) (show 100 ≤ br by omega) (by omega) Hall.out j
      have rt := sqW_rates (start := s) (l := l) (show 1000 ≤ sp by omega) (by omega) (show 100 ≤ ac by omega) (by omega) (show 100 ≤ br by omega) (by omega) Hall.out j (by have := Hj.out; have := HM.out; omega)
      rw [show j + 1 = k by have := Hj.out; omega] at rt
      have lx := fun k' => spd_le_lim (start := s) (l := l) (show 1000 ≤ sp by omega) (by omega) (show 100 ≤ ac by omega) (by omega) (show 100 ≤ br by omega) (by omega) Hall.out k k' (by have := HM.out; omega)
      have ly := fun k' => spd_le_lim (start := s) (l := l) (show 1000 ≤ sp by omega) (by omega) (show 100 ≤ ac by omega) (by omega) (show 100 ≤ br by omega) (by omega) Hall.out j k' (by have := HM.out; omega)
      rw [Hx.out] at qx
      rw [Hy.out] at qy
      have hx0 : 0 ≤ x := by rw [← Hx.out]; omega
      have hx1 : x ≤ 100000 := by rw [← Hx.out]; omega
      have hy0 : 0 ≤ y := by rw [← Hy.out]; omega
      have hy1 : y ≤ 100000 := by rw [← Hy.out]; omega
      have hxp : k < m → 1 ≤ x := fun h => by rw [← Hx.out]; have := rx.2 (by omega) (by have := Hm.out; omega); omega
      have Hxp := Lib.hid hxp
      obtain ⟨q1, Hq1⟩ : ∃ q, Hid (x * x = q) := ⟨_, Lib.hid rfl⟩
      obtain ⟨q2, Hq2⟩ : ∃ q, Hid ((y + 1) * (y + 1) = q) := ⟨_, Lib.hid rfl⟩
      obtain ⟨q3, Hq3⟩ : ∃ q, Hid (y * y = q) := ⟨_, Lib.hid rfl⟩
      obtain ⟨q4, Hq4⟩ : ∃ q, Hid ((x + 1) * (x + 1) = q) := ⟨_, Lib.hid rfl⟩
      have f1 : x * x ≤ 100000 * 100000 := Int.mul_le_mul hx1 hx1 hx0 (by omega)
      have f2 : (y + 1) * (y + 1) ≤ 100001 * 100001 := Int.mul_le_mul (by omega) (by omega) (by omega) (by omega)
      have f3 : y * y ≤ 100000 * 100000 := Int.mul_le_mul hy1 hy1 hy0 (by omega)
      have f4 : (x + 1) * (x + 1) ≤ 100001 * 100001 := Int.mul_le_mul (by omega) (by omega) (by omega) (by omega)
      have g1 : 0 ≤ x * x := Int.mul_nonneg hx0 hx0
      have g2 : 0 ≤ (y + 1) * (y + 1) := Int.mul_nonneg (by omega) (by omega)
      have g3 : 0 ≤ y * y := Int.mul_nonneg hy0 hy0
      have g4 : 0 ≤ (x + 1) * (x + 1) := Int.mul_nonneg (by omega) (by omega)
      rw [Hq1.out] at f1 g1
      rw [Hq2.out] at f2 g2
      rw [Hq3.out] at f3 g3
      rw [Hq4.out] at f4 g4
      have d1 : q1 - q2 ≤ 20000 * ac := by rw [← Hq1.out, ← Hq2.out]; omega
      have d2 : q3 - q4 ≤ 20000 * br := by rw [← Hq3.out, ← Hq4.out]; omega
      have e0 : IntKind.i64.wrap ((k : Int) - 1) = (j : Int) := by rw [IntKind.wrap_i64]; have := Hj.out; omega
      have e1 : IntKind.i64.wrap (x * x) = q1 := by rw [Hq1.out, IntKind.wrap_i64]; omega
      have e2 : IntKind.i64.wrap (y + 1) = y + 1 := by rw [IntKind.wrap_i64]; omega
      have e3 : IntKind.i64.wrap ((y + 1) * (y + 1)) = q2 := by rw [Hq2.out, IntKind.wrap_i64]; omega
      have e4 : IntKind.i64.wrap (y * y) = q3 := by rw [Hq3.out, IntKind.wrap_i64]; omega
      have e5 : IntKind.i64.wrap (x + 1) = x + 1 := by rw [IntKind.wrap_i64]; omega
      have e6 : IntKind.i64.wrap ((x + 1) * (x + 1)) = q4 := by rw [Hq4.out, IntKind.wrap_i64]; omega
      have e7 : IntKind.i64.wrap (q1 - q2) = q1 - q2 := by rw [IntKind.wrap_i64]; omega
      have e8 : IntKind.i64.wrap (q3 - q4) = q3 - q4 := by rw [IntKind.wrap_i64]; omega
      have HL : Hid (∀ i : Nat, (hi : i < cs.length) → s + k - 1 - l ≤ i → i ≤ s + k - 1 → x ≤ cs[i].1 ∧ y ≤ cs[i].1) := Lib.hid (fun i hi h1 h2 => by
        have hj := Hj.out
        have hm := HM.out
        have a1 := lx (s + k - 1) (.inr (by omega)) (by omega) (by omega)
        have a2 := ly (s + k - 1) (.inl (by omega)) (by omega) (by omega)
        have a3 := limit_le cs (s + k - 1) l i sp h1 h2 hi
        rw [Hx.out] at a1
        rw [Hy.out] at a2
        omega)
      have hxs : x ≤ sp := by
        have a1 := lx (s + k - 1) (.inr (by omega)) (by have := HM.out; omega) (by omega)
        have a3 := limit_range cs (s + k - 1) l sp (by omega) Hall.out
        rw [Hx.out] at a1; omega
      clear lx ly qx qy rt rx ry hxp
      go_wp2
      go_quiet (fail)
      clear e0 e1 e2 e3 e4 e5 e6 e7 e8
      have hDT : (if q1 - q2 < q3 - q4 then q3 - q4 else q1 - q2) ≤ 20000 * (if ac < br then br else ac) := by
        by_cases c1 : q1 - q2 < q3 - q4
        · by_cases c2 : ac < br
          · rw [if_pos c1, if_pos c2]; omega
          · rw [if_pos c1, if_neg c2]; omega
        · by_cases c2 : ac < br
          · rw [if_neg c1, if_pos c2]; omega
          · rw [if_neg c1, if_neg c2]; omega
      generalize (if q1 - q2 < q3 - q4 then q3 - q4 else q1 - q2) = D at hDT ⊢
      generalize (if ac < br then br else ac) = T at hDT ⊢
      clear d1 d2 f1 f2 f3 f4 g1 g2 g3 g4
      rw [World.drewN_drewN]
      generalize n + nq = n1
      go_wp2
      all_goals
        go_loopw [13] (fun iv wr => ∃ i : Nat, s + k - 1 - l ≤ i ∧ i ≤ s + k ∧ iv = .int .i64 i ∧ ∃ n, wr = W3.drewN n) (fun iv _ => s + k - (intOf iv).toNat)
        case atStart => exact ⟨s + k - 1 - l, by omega, by omega, by go_num, n1, rfl⟩
        case round =>
          obtain ⟨i, hi1, hi2, rfl, n2, rfl⟩ := hrel
          by_cases hik : i < s + k
          · have hic : i < cs.length := by have := HM.out; omega
            obtain ⟨b', off', rfl, hbl', c1, c2⟩ := HRC3.out i hic
            obtain ⟨u1, u2⟩ := HL.out i hic hi1 (by omega)
            have e0 : IntKind.i64.wrap ((k : Int) - 1) = (j : Int) := by rw [IntKind.wrap_i64]; have := Hj.out; omega
            have w1 : decide (cs[i].1 < x) = false := by simp; omega
            have w2 : decide (cs[i].1 < y) = false := by simp; omega
            go_wp2
            go_quiet (fail)
            rw [World.drewN_drewN]
            go_wp2
            go_roundw
            case rel => exact ⟨i + 1, by omega, by omega, by go_num, _, rfl⟩
            case measure => simp [intOf]; omega
          · have w1 : decide (sp < x) = false := by simp; omega
            by_cases hkm : k < m
            · have hxp := Hxp.out hkm
              have w2 : decide ((k : Int) < (m : Int)) = true := by simp; omega
              have w3 : decide (x < 1) = false := by simp; omega
              have e0 : IntKind.i64.wrap ((M : Int) - 1) = (m : Int) := by rw [IntKind.wrap_i64]; omega
              go_wp2
              go_quiet (fail)
              rw [World.drewN_drewN]
              go_wp2
              go_roundw
              case rel => exact ⟨k + 1, by omega, by omega, by go_num, _, rfl⟩
              case measure => simp [intOf]; omega
            · have w2 : decide ((k : Int) < (m : Int)) = false := by simp; omega
              have e0 : IntKind.i64.wrap ((M : Int) - 1) = (m : Int) := by rw [IntKind.wrap_i64]; omega
              go_wp2
              go_quiet (fail)
              rw [World.drewN_drewN]
              go_wp2
              go_roundw
              case rel => exact ⟨k + 1, by omega, by omega, by go_num, _, rfl⟩
              case measure => simp [intOf]; omega
    · go_wp2
      go_ret
      exact ⟨rfl, below_draws Hb4.out n⟩

theorem W.DynamicsSpeedsArePermitted (a0 : Option Addr) (cap0 : Nat) (z0 : List Int) (a1 : Option Addr) (cap1 : Nat) (z1 : List Int) (a2 : Int) (w : World) (r0 : RdI w a0 z0) (l0 : z0.length ≤ 9223372036854775807) (r1 : RdI w a1 z1) (l1 : z1.length ≤ 9223372036854775807) (w2 : (Lit.int .i64 a2).wf = true) :
    Calls Try.prog 3 #[.slice a0 z0.length cap0, .slice a1 z1.length cap1, .int .i64 a2] w fun e w' => e = .returned (.bool true) ∧ Below w.heap.size w w' := by
  obtain ⟨cs, l, sp, ac, br, hall, hn1, hn2, hl1, hl2, k3, k4, k5, k6, k7, k8, hC, hS⟩ := opening a0 cap0 z0 a1 cap1 z1 w r0 l0 r1 l1
  have Hall := Lib.hid hall
  have HC := Lib.hid hC
  have HS := Lib.hid hS
  clear hall hC hS r0 r1
  by_cases hlt : cs.length < 2
  · exact walkPermitted_short a0 cap0 z0 a1 cap1 z1 a2 w cs l sp ac br hn1 hl1 hl2 k3 k4 k5 k6 k7 k8 HC HS hlt
  · exact walkPermitted_long a0 cap0 z0 a1 cap1 z1 a2 w cs l sp ac br hn1 hl1 hl2 k3 k4 k5 k6 k7 k8 Hall HC HS (by omega)
end Go.Proofs.Ytjmiddhdbimaaaa
