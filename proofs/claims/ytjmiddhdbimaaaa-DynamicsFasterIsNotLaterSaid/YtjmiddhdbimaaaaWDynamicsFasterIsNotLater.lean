/- DynamicsFasterIsNotLater returns true, whatever its arguments: a greater speed, acceleration or braking rate of the stock never increases a time. -/
import Derived.Test.YtjmiddhdbimaaaaOpening
import Derived.Test.YtjmiddhdbimaaaaMonoPlain
namespace Go.Proofs.Ytjmiddhdbimaaaa
open Go.RowKit
set_option linter.unusedVariables false

set_option maxRecDepth 100000 in
theorem DynamicsFasterIsNotLater_short (a0 : Option Addr) (cap0 : Nat) (z0 : List Int) (a1 : Option Addr) (cap1 : Nat) (z1 : List Int) (a2 a3 a4 : Int) (w : World)
    (cs : List (Int × Int)) (l : Nat) (sp ac br : Int) (hn1 : cs.length ≤ 56) (hl1 : 1 ≤ l) (hl2 : l ≤ 4) (k3 : 5000 ≤ sp) (k4 : sp ≤ 32500) (k5 : 200 ≤ ac) (k6 : ac ≤ 900) (k7 : 200 ≤ br) (k8 : br ≤ 900) (Hall : Hid (cs.all cellB = true))
    (HC : Hid (Calls Try.prog 13 #[.slice a0 z0.length cap0] w (RetCells w cs)))
    (HS : Hid (∀ w1, Below w.heap.size w w1 → Calls Try.prog 14 #[.slice a1 z1.length cap1] w1 fun e w' => e = .returned (.agg #[.string ⟨#[88]⟩, .int .i64 l, .int .i64 sp, .int .i64 ac, .int .i64 br]) ∧ Below w1.heap.size w1 w'))
    (hlt : cs.length < 2) :
    Calls Try.prog 5 #[.slice a0 z0.length cap0, .slice a1 z1.length cap1, .int .i64 a2, .int .i64 a3, .int .i64 a4] w fun e w' => e = .returned (.bool true) ∧ Below w.heap.size w w' := by
  have Hchk := Lib.hid (chk_mk (l := (l : Int)) (by omega) (by omega) (show 1000 ≤ sp by omega) (by omega) (show 100 ≤ ac by omega) (by omega) (show 100 ≤ br by omega) (by omega))
  go_enter Try.func5, Try.ntmps5
  go_wp2_with fail
  refine HC.out.mono ?_
  rintro e w1 ⟨A, c, rfl, hown, hb1⟩
  go_wp2_with fail
  refine (HS.out w1 hb1).mono ?_
  rintro e w2 ⟨rfl, hb2⟩
  have hcap : cs.length ≤ c := own_cap hown
  have Hb2 : Hid (Below w.heap.size w w2) := Lib.hid (hb1.trans (hb2.mono hb1.size))
  have Hb3 : Hid (Below w.heap.size w (w2.alloc (.cells #[.string ⟨#[88]⟩, .int .i64 l, .int .i64 sp, .int .i64 ac, .int .i64 br] 26))) := Lib.hid (Hb2.out.alloc Hb2.out.size _)
  have HX : Hid (BoxS (w2.alloc (.cells #[.string ⟨#[88]⟩, .int .i64 l, .int .i64 sp, .int .i64 ac, .int .i64 br] 26)) w2.heap.size ⟨#[88]⟩ l sp ac br) := Lib.hid (BoxS.new w2 ⟨#[88]⟩ l sp ac br 26)
  have HRC : Hid (RdC (w2.alloc (.cells #[.string ⟨#[88]⟩, .int .i64 l, .int .i64 sp, .int .i64 ac, .int .i64 br] 26)) A cs) := Lib.hid (((RdC.of_own hown rfl).below (B := 0) hb2).below (B := 0) ((Below.refl _ _).alloc (Nat.le_refl _) _))
  clear hown hb1 hb2 Hb2 HC HS
  obtain ⟨p, hp⟩ : ∃ p, p = w2.heap.size := ⟨_, rfl⟩
  rw [← hp] at HX
  go_wp2_with fail
  refine (check_any _ l sp ac br _).mono ?_
  rintro e w4 ⟨rfl, hb4⟩
  rw [Hchk.out]
  go_wp2
  go_ret
  exact ⟨rfl, Hb3.out.trans (hb4.mono Hb3.out.size)⟩

set_option maxHeartbeats 2000000 in
set_option maxRecDepth 100000 in
theorem DynamicsFasterIsNotLater_long0 (a0 : Option Addr) (cap0 : Nat) (z0 : List Int) (a1 : Option Addr) (cap1 : Nat) (z1 : List Int) (a2 a3 a4 : Int) (w : World)
    (cs : List (Int × Int)) (l : Nat) (sp ac br : Int) (hn1 : cs.length ≤ 56) (hl1 : 1 ≤ l) (hl2 : l ≤ 4) (k3 : 5000 ≤ sp) (k4 : sp ≤ 32500) (k5 : 200 ≤ ac) (k6 : ac ≤ 900) (k7 : 200 ≤ br) (k8 : br ≤ 900) (Hall : Hid (cs.all cellB = true))
    (HC : Hid (Calls Try.prog 13 #[.slice a0 z0.length cap0] w (RetCells w cs)))
    (HS : Hid (∀ w1, Below w.heap.size w w1 → Calls Try.prog 14 #[.slice a1 z1.length cap1] w1 fun e w' => e = .returned (.agg #[.string ⟨#[88]⟩, .int .i64 l, .int .i64 sp, .int .i64 ac, .int .i64 br]) ∧ Below w1.heap.size w1 w'))
    (hlt : 2 ≤ cs.length) (Hw : Hid (pick a3 3 = 0)) :
    Calls Try.prog 5 #[.slice a0 z0.length cap0, .slice a1 z1.length cap1, .int .i64 a2, .int .i64 a3, .int .i64 a4] w fun e w' => e = .returned (.bool true) ∧ Below w.heap.size w w' := by
  have hd2 : decide ((cs.length : Int) < 2) = false := by simp; omega
  obtain ⟨g0, g1⟩ := pick_range a4 30000 (by omega)
  obtain ⟨g, Hg⟩ : ∃ g, Hid (pick a4 30000 = g) := ⟨_, Lib.hid rfl⟩
  rw [Hg.out] at g0 g1
  obtain ⟨p', Hp'⟩ : ∃ p', Hid (sp + g = p') := ⟨_, Lib.hid rfl⟩
  have hp1 : sp ≤ p' := by have := Hp'.out; omega
  have hp2 : p' ≤ 100000 := by have := Hp'.out; omega
  obtain ⟨s, hs⟩ := Int.eq_ofNat_of_zero_le (pick_range a2 ((cs.length : Int) - 1) (by omega)).1
  have hs2 : s + 2 ≤ cs.length := by have := (pick_range a2 ((cs.length : Int) - 1) (by omega)).2; omega
  have Hs := Lib.hid hs
  have Hok : Hid (badRun cs s l sp ac br = 0) := Lib.hid (ok_of Hall.out (by omega) hs2 (by omega) (by omega) (by omega) (by omega) (by omega) (by omega) (by omega) (by omega))
  clear hs
  have Hok2 : Hid (badRun cs s l p' ac br = 0) := Lib.hid (ok_of Hall.out (by omega) hs2 (by omega) (by omega) (by omega) (by omega) (by omega) (by omega) (by omega) (by omega))
  have HU : Hid (∀ j, j ≤ cs.length - s → tim cs s l p' ac br j ≤ tim cs s l sp ac br j) := Lib.hid (fun j hj => by
    have hF : Freer cs.length s cs l sp ac br cs l p' ac br := ⟨fun k _ => ⟨by have := (limit_range cs k l sp (by omega) Hall.out).1; omega, (limit_mono_speed _ _ _ hp1)⟩, fun k _ => (Int.le_refl _), fun k _ => (Int.le_refl _)⟩
    refine tim_anti (cs.length - s) (fun i _ => spd_mono (sqW_mono hF rfl rfl (by omega) i)) (fun i hi => ?_) j hj
    have := (spd_sum (start := s) (l := l) (show 1000 ≤ sp by omega) (by omega) (show 100 ≤ ac by omega) (by omega) (show 100 ≤ br by omega) (by omega) Hall.out hs2 i hi).1
    omega)
  obtain ⟨u1, u2⟩ := tim_range (start := s) (l := l) (show 1000 ≤ sp by omega) (by omega) (show 100 ≤ ac by omega) (by omega) (show 100 ≤ br by omega) (by omega) Hall.out hs2 1 (by omega)
  obtain ⟨t1, Ht1⟩ : ∃ t1, Hid (tim cs s l sp ac br 1 = t1) := ⟨_, Lib.hid rfl⟩
  rw [Ht1.out] at u1 u2
  go_enter Try.func5, Try.ntmps5
  go_wp2_with fail
  refine HC.out.mono ?_
  rintro e w1 ⟨A, c, rfl, hown, hb1⟩
  go_wp2_with fail
  refine (HS.out w1 hb1).mono ?_
  rintro e w2 ⟨rfl, hb2⟩
  have hcap : cs.length ≤ c := own_cap hown
  have Hb2 : Hid (Below w.heap.size w w2) := Lib.hid (hb1.trans (hb2.mono hb1.size))
  have Hb3 : Hid (Below w.heap.size w (w2.alloc (.cells #[.string ⟨#[88]⟩, .int .i64 l, .int .i64 sp, .int .i64 ac, .int .i64 br] 26))) := Lib.hid (Hb2.out.alloc Hb2.out.size _)
  have HX : Hid (BoxS (w2.alloc (.cells #[.string ⟨#[88]⟩, .int .i64 l, .int .i64 sp, .int .i64 ac, .int .i64 br] 26)) w2.heap.size ⟨#[88]⟩ l sp ac br) := Lib.hid (BoxS.new w2 ⟨#[88]⟩ l sp ac br 26)
  have HRC : Hid (RdC (w2.alloc (.cells #[.string ⟨#[88]⟩, .int .i64 l, .int .i64 sp, .int .i64 ac, .int .i64 br] 26)) A cs) := Lib.hid (((RdC.of_own hown rfl).below (B := 0) hb2).below (B := 0) ((Below.refl _ _).alloc (Nat.le_refl _) _))
  clear hown hb1 hb2 Hb2 HC HS
  obtain ⟨p, hp⟩ : ∃ p, p = w2.heap.size := ⟨_, rfl⟩
  rw [← hp] at HX
  go_wp2_with fail
  refine (pick_any a2 _ _ (by omega) (by omega)).mono ?_
  rintro e w' ⟨rfl, rfl⟩
  rw [Hs.out]
  rw [← hp]
  generalize w2.alloc (.cells #[.string ⟨#[88]⟩, .int .i64 l, .int .i64 sp, .int .i64 ac, .int .i64 br] 26) = W at *
  clear hp
  obtain ⟨hps, s0, s1, s2, s3, s4⟩ := HX.out
  have B1 : Below W.heap.size W (W.alloc (.cells #[.string ⟨#[88]⟩, .int .i64 l, .int .i64 sp, .int .i64 ac, .int .i64 br] 26)) := (Below.refl _ _).alloc (Nat.le_refl _) _
  have HX1 := Lib.hid (HX.out.below B1)
  have HY1 := Lib.hid (BoxS.new W ⟨#[88]⟩ l sp ac br 26)
  have HRC1 := Lib.hid (HRC.out.below (B := 0) B1)
  have Hbb1 := Lib.hid (Hb3.out.trans (B1.mono Hb3.out.size))
  have fz : (W.alloc (.cells #[.string ⟨#[88]⟩, .int .i64 l, .int .i64 sp, .int .i64 ac, .int .i64 br] 26)).frozen? ⟨W.heap.size, 2, none⟩ = false := by simp
  obtain ⟨q, hq⟩ : ∃ q, q = W.heap.size := ⟨_, rfl⟩
  have hpq : p < q := by rw [hq]; exact HX.out.1
  have hwq : w.heap.size ≤ q := by rw [hq]; exact Hb3.out.size
  have Hne : Hid (∀ b off, A = some ⟨b, off, none⟩ → 0 < cs.length → q ≠ b) := Lib.hid (fun b off e h0 => by have := HRC.out.lt e h0; omega)
  rw [← hq] at HY1 fz
  have Hfz := Lib.hid fz
  clear B1 fz
  go_wp2_with fail
  clear s0 s1 s2 s3 s4 hps
  refine (pick_any a3 3 _ (by omega) (by omega)).mono ?_
  rintro e w' ⟨rfl, rfl⟩
  rw [Hw.out, ← hq]
  clear HX HRC Hb3 hq
  generalize W.alloc (.cells #[.string ⟨#[88]⟩, .int .i64 l, .int .i64 sp, .int .i64 ac, .int .i64 br] 26) = W1 at *
  obtain ⟨hps, s0, s1, s2, s3, s4⟩ := HX1.out
  have e0 : IntKind.i64.wrap (sp + g) = sp + g := by rw [IntKind.wrap_i64]; omega
  go_wp2
  (refine wp_region_qtail (fun w' => ∃ n, w' = World.drewN W1 n) 7 (by kernel_rfl) (by kernel_rfl) ⟨1, rfl⟩ ?_; simp only [List.take_succ_cons, List.take_zero, List.drop_succ_cons, List.drop_zero]; (repeat (go_big_quiet_step ((go_at_call 16; exact quiet_same ((pick_any _ _ _ (by omega) (by omega)).mono fun e w'' ⟨he, hb⟩ => ⟨he.trans (ret_int Hg.out), hb⟩))))); refine wpQuiet_nil ?_; intro w' hw'; obtain ⟨nq, rfl⟩ := hw')
  have HXd : Hid (BoxS (W1.drewN nq) p ⟨#[88]⟩ l sp ac br) := HX1
  have HYd : Hid (BoxS (W1.drewN nq) q ⟨#[88]⟩ l sp ac br) := HY1
  have HRd : Hid (RdC (W1.drewN nq) A cs) := HRC1
  have Hbd : Hid (Below w.heap.size w (W1.drewN nq)) := Lib.hid (below_draws Hbb1.out nq)
  have fz : (W1.drewN nq).frozen? ⟨q, 2, none⟩ = false := Hfz.out
  clear HX1 HY1 HRC1 Hbb1 Hfz s0 s1 s2 s3 s4 hps
  generalize W1.drewN nq = W2 at *
  obtain ⟨-, y0, y1, y2, y3, y4⟩ := HYd.out
  rw [Hp'.out]
  have HY2 := Lib.hid (HYd.out.set_speed p')
  have HX2 := Lib.hid (HXd.out.far (a := ⟨q, 2, none⟩) (by show q ≠ p; omega) (.int .i64 p'))
  have HR2 := Lib.hid (HRd.out.far (a := ⟨q, 2, none⟩) (by show ∀ b off, A = some ⟨b, off, none⟩ → 0 < cs.length → q ≠ b; exact Hne.out) (.int .i64 p'))
  have Hb2 := Lib.hid (Hbd.out.setCell (p := ⟨q, 2, none⟩) hwq (.int .i64 p'))
  obtain ⟨hps, s0, s1, s2, s3, s4⟩ := HX2.out
  obtain ⟨M, HM⟩ : ∃ M, Hid (cs.length - s + 1 = M) := ⟨_, Lib.hid rfl⟩
  have hM : M ≤ 57 := by have := HM.out; omega
  have hM3 : 3 ≤ M := by have := HM.out; omega
  go_wp2_with fail
  refine (times_ok A c cs s l _ sp ac br _ HR2.out hcap Hok.out).mono ?_
  rintro e W4 ⟨r, rfl, -, hrow, hb4⟩
  rw [HM.out] at hrow ⊢
  have HY4 := Lib.hid (HY2.out.below hb4)
  have HR4 := Lib.hid (HR2.out.below (B := 0) hb4)
  have Hb4 := Lib.hid (Hb2.out.trans (hb4.mono Hb2.out.size))
  have Hrow := Lib.hid hrow
  clear hrow hb4 HX2 HR2 Hb2 HY2 s0 s1 s2 s3 s4 hps y0 y1 y2 y3 y4 fz HXd HYd HRd Hbd
  obtain ⟨hps, s0, s1, s2, s3, s4⟩ := HY4.out
  go_wp2_with fail
  refine (times_ok A c cs s l _ p' ac br _ HR4.out hcap Hok2.out).mono ?_
  rintro e W5 ⟨r', rfl, -, hrow', hb5⟩
  rw [HM.out] at hrow' ⊢
  have Hrt : Hid (W5.rowIs r 3 M (fun j => .int .i64 (tim cs s l sp ac br j))) := Lib.hid (Hrow.out.of_block (hb5.block _ Hrow.out.lt))
  have Hru : Hid (W5.rowIs r' 3 M (fun j => .int .i64 (tim cs s l p' ac br j))) := Lib.hid hrow'
  have Hb5 := Lib.hid (Hb4.out.trans (hb5.mono Hb4.out.size))
  clear hb5 hrow' Hrow HY4 HR4 Hb4 s0 s1 s2 s3 s4 hps
  have v1 : W5.cell? ⟨r, 1, none⟩ = some (.int .i64 t1) := by rw [← Ht1.out]; exact Hrt.out.cell (i := 1) (by omega)
  go_wp2
  go_loopw [95] (fun bv wr => ∃ k : Nat, k ≤ M ∧ bv = .int .i64 k ∧ ∃ n, wr = W5.drewN n) (fun bv _ => M - (intOf bv).toNat)
  case atStart => exact ⟨0, by omega, rfl, 0, rfl⟩
  case round =>
    obtain ⟨k, hk2, rfl, n, rfl⟩ := hrel
    by_cases hkM : k < M
    · obtain ⟨x, Hx⟩ : ∃ x, Hid (tim cs s l sp ac br k = x) := ⟨_, Lib.hid rfl⟩
      obtain ⟨y, Hy⟩ : ∃ y, Hid (tim cs s l p' ac br k = y) := ⟨_, Lib.hid rfl⟩
      have vk : W5.cell? ⟨r, k, none⟩ = some (.int .i64 x) := by rw [← Hx.out]; exact Hrt.out.cell (i := k) hkM
      have vj : W5.cell? ⟨r', k, none⟩ = some (.int .i64 y) := by rw [← Hy.out]; exact Hru.out.cell (i := k) hkM
      have hxy : y ≤ x := by
        have := HU.out k (by have := HM.out; omega)
        rw [Hx.out, Hy.out] at this
        exact this
      have w1 : decide (x < y) = false := by simp; omega
      go_wp2
      go_quiet (fail)
      rw [World.drewN_drewN]
      go_wp2
      go_roundw
      case rel => exact ⟨k + 1, by omega, by go_num, _, rfl⟩
      case measure => simp [intOf]; omega
    · go_wp2
      go_ret
      exact ⟨ret_bool (by simp; omega), below_draws Hb5.out n⟩
set_option maxHeartbeats 2000000 in
set_option maxRecDepth 100000 in
theorem DynamicsFasterIsNotLater_long1 (a0 : Option Addr) (cap0 : Nat) (z0 : List Int) (a1 : Option Addr) (cap1 : Nat) (z1 : List Int) (a2 a3 a4 : Int) (w : World)
    (cs : List (Int × Int)) (l : Nat) (sp ac br : Int) (hn1 : cs.length ≤ 56) (hl1 : 1 ≤ l) (hl2 : l ≤ 4) (k3 : 5000 ≤ sp) (k4 : sp ≤ 32500) (k5 : 200 ≤ ac) (k6 : ac ≤ 900) (k7 : 200 ≤ br) (k8 : br ≤ 900) (Hall : Hid (cs.all cellB = true))
    (HC : Hid (Calls Try.prog 13 #[.slice a0 z0.length cap0] w (RetCells w cs)))
    (HS : Hid (∀ w1, Below w.heap.size w w1 → Calls Try.prog 14 #[.slice a1 z1.length cap1] w1 fun e w' => e = .returned (.agg #[.string ⟨#[88]⟩, .int .i64 l, .int .i64 sp, .int .i64 ac, .int .i64 br]) ∧ Below w1.heap.size w1 w'))
    (hlt : 2 ≤ cs.length) (Hw : Hid (pick a3 3 = 1)) :
    Calls Try.prog 5 #[.slice a0 z0.length cap0, .slice a1 z1.length cap1, .int .i64 a2, .int .i64 a3, .int .i64 a4] w fun e w' => e = .returned (.bool true) ∧ Below w.heap.size w w' := by
  have hd2 : decide ((cs.length : Int) < 2) = false := by simp; omega
  obtain ⟨g0, g1⟩ := pick_range a4 1000 (by omega)
  obtain ⟨g, Hg⟩ : ∃ g, Hid (pick a4 1000 = g) := ⟨_, Lib.hid rfl⟩
  rw [Hg.out] at g0 g1
  obtain ⟨p', Hp'⟩ : ∃ p', Hid (ac + g = p') := ⟨_, Lib.hid rfl⟩
  have hp1 : ac ≤ p' := by have := Hp'.out; omega
  have hp2 : p' ≤ 2000 := by have := Hp'.out; omega
  obtain ⟨s, hs⟩ := Int.eq_ofNat_of_zero_le (pick_range a2 ((cs.length : Int) - 1) (by omega)).1
  have hs2 : s + 2 ≤ cs.length := by have := (pick_range a2 ((cs.length : Int) - 1) (by omega)).2; omega
  have Hs := Lib.hid hs
  have Hok : Hid (badRun cs s l sp ac br = 0) := Lib.hid (ok_of Hall.out (by omega) hs2 (by omega) (by omega) (by omega) (by omega) (by omega) (by omega) (by omega) (by omega))
  clear hs
  have Hok2 : Hid (badRun cs s l sp p' br = 0) := Lib.hid (ok_of Hall.out (by omega) hs2 (by omega) (by omega) (by omega) (by omega) (by omega) (by omega) (by omega) (by omega))
  have HU : Hid (∀ j, j ≤ cs.length - s → tim cs s l sp p' br j ≤ tim cs s l sp ac br j) := Lib.hid (fun j hj => by
    have hF : Freer cs.length s cs l sp ac br cs l sp p' br := ⟨fun k _ => ⟨by have := (limit_range cs k l sp (by omega) Hall.out).1; omega, (Int.le_refl _)⟩, fun k _ => (gain_mono _ hp1), fun k _ => (Int.le_refl _)⟩
    refine tim_anti (cs.length - s) (fun i _ => spd_mono (sqW_mono hF rfl rfl (by omega) i)) (fun i hi => ?_) j hj
    have := (spd_sum (start := s) (l := l) (show 1000 ≤ sp by omega) (by omega) (show 100 ≤ ac by omega) (by omega) (show 100 ≤ br by omega) (by omega) Hall.out hs2 i hi).1
    omega)
  obtain ⟨u1, u2⟩ := tim_range (start := s) (l := l) (show 1000 ≤ sp by omega) (by omega) (show 100 ≤ ac by omega) (by omega) (show 100 ≤ br by omega) (by omega) Hall.out hs2 1 (by omega)
  obtain ⟨t1, Ht1⟩ : ∃ t1, Hid (tim cs s l sp ac br 1 = t1) := ⟨_, Lib.hid rfl⟩
  rw [Ht1.out] at u1 u2
  go_enter Try.func5, Try.ntmps5
  go_wp2_with fail
  refine HC.out.mono ?_
  rintro e w1 ⟨A, c, rfl, hown, hb1⟩
  go_wp2_with fail
  refine (HS.out w1 hb1).mono ?_
  rintro e w2 ⟨rfl, hb2⟩
  have hcap : cs.length ≤ c := own_cap hown
  have Hb2 : Hid (Below w.heap.size w w2) := Lib.hid (hb1.trans (hb2.mono hb1.size))
  have Hb3 : Hid (Below w.heap.size w (w2.alloc (.cells #[.string ⟨#[88]⟩, .int .i64 l, .int .i64 sp, .int .i64 ac, .int .i64 br] 26))) := Lib.hid (Hb2.out.alloc Hb2.out.size _)
  have HX : Hid (BoxS (w2.alloc (.cells #[.string ⟨#[88]⟩, .int .i64 l, .int .i64 sp, .int .i64 ac, .int .i64 br] 26)) w2.heap.size ⟨#[88]⟩ l sp ac br) := Lib.hid (BoxS.new w2 ⟨#[88]⟩ l sp ac br 26)
  have HRC : Hid (RdC (w2.alloc (.cells #[.string ⟨#[88]⟩, .int .i64 l, .int .i64 sp, .int .i64 ac, .int .i64 br] 26)) A cs) := Lib.hid (((RdC.of_own hown rfl).below (B := 0) hb2).below (B := 0) ((Below.refl _ _).alloc (Nat.le_refl _) _))
  clear hown hb1 hb2 Hb2 HC HS
  obtain ⟨p, hp⟩ : ∃ p, p = w2.heap.size := ⟨_, rfl⟩
  rw [← hp] at HX
  go_wp2_with fail
  refine (pick_any a2 _ _ (by omega) (by omega)).mono ?_
  rintro e w' ⟨rfl, rfl⟩
  rw [Hs.out]
  rw [← hp]
  generalize w2.alloc (.cells #[.string ⟨#[88]⟩, .int .i64 l, .int .i64 sp, .int .i64 ac, .int .i64 br] 26) = W at *
  clear hp
  obtain ⟨hps, s0, s1, s2, s3, s4⟩ := HX.out
  have B1 : Below W.heap.size W (W.alloc (.cells #[.string ⟨#[88]⟩, .int .i64 l, .int .i64 sp, .int .i64 ac, .int .i64 br] 26)) := (Below.refl _ _).alloc (Nat.le_refl _) _
  have HX1 := Lib.hid (HX.out.below B1)
  have HY1 := Lib.hid (BoxS.new W ⟨#[88]⟩ l sp ac br 26)
  have HRC1 := Lib.hid (HRC.out.below (B := 0) B1)
  have Hbb1 := Lib.hid (Hb3.out.trans (B1.mono Hb3.out.size))
  have fz : (W.alloc (.cells #[.string ⟨#[88]⟩, .int .i64 l, .int .i64 sp, .int .i64 ac, .int .i64 br] 26)).frozen? ⟨W.heap.size, 3, none⟩ = false := by simp
  obtain ⟨q, hq⟩ : ∃ q, q = W.heap.size := ⟨_, rfl⟩
  have hpq : p < q := by rw [hq]; exact HX.out.1
  have hwq : w.heap.size ≤ q := by rw [hq]; exact Hb3.out.size
  have Hne : Hid (∀ b off, A = some ⟨b, off, none⟩ → 0 < cs.length → q ≠ b) := Lib.hid (fun b off e h0 => by have := HRC.out.lt e h0; omega)
  rw [← hq] at HY1 fz
  have Hfz := Lib.hid fz
  clear B1 fz
  go_wp2_with fail
  clear s0 s1 s2 s3 s4 hps
  refine (pick_any a3 3 _ (by omega) (by omega)).mono ?_
  rintro e w' ⟨rfl, rfl⟩
  rw [Hw.out, ← hq]
  clear HX HRC Hb3 hq
  generalize W.alloc (.cells #[.string ⟨#[88]⟩, .int .i64 l, .int .i64 sp, .int .i64 ac, .int .i64 br] 26) = W1 at *
  obtain ⟨hps, s0, s1, s2, s3, s4⟩ := HX1.out
  have e0 : IntKind.i64.wrap (ac + g) = ac + g := by rw [IntKind.wrap_i64]; omega
  go_wp2
  (refine wp_region_qtail (fun w' => ∃ n, w' = World.drewN W1 n) 7 (by kernel_rfl) (by kernel_rfl) ⟨1, rfl⟩ ?_; simp only [List.take_succ_cons, List.take_zero, List.drop_succ_cons, List.drop_zero]; (repeat (go_big_quiet_step ((go_at_call 16; exact quiet_same ((pick_any _ _ _ (by omega) (by omega)).mono fun e w'' ⟨he, hb⟩ => ⟨he.trans (ret_int Hg.out), hb⟩))))); refine wpQuiet_nil ?_; intro w' hw'; obtain ⟨nq, rfl⟩ := hw')
  have HXd : Hid (BoxS (W1.drewN nq) p ⟨#[88]⟩ l sp ac br) := HX1
  have HYd : Hid (BoxS (W1.drewN nq) q ⟨#[88]⟩ l sp ac br) := HY1
  have HRd : Hid (RdC (W1.drewN nq) A cs) := HRC1
  have Hbd : Hid (Below w.heap.size w (W1.drewN nq)) := Lib.hid (below_draws Hbb1.out nq)
  have fz : (W1.drewN nq).frozen? ⟨q, 3, none⟩ = false := Hfz.out
  clear HX1 HY1 HRC1 Hbb1 Hfz s0 s1 s2 s3 s4 hps
  generalize W1.drewN nq = W2 at *
  obtain ⟨-, y0, y1, y2, y3, y4⟩ := HYd.out
  rw [Hp'.out]
  have HY2 := Lib.hid (HYd.out.set_accel p')
  have HX2 := Lib.hid (HXd.out.far (a := ⟨q, 3, none⟩) (by show q ≠ p; omega) (.int .i64 p'))
  have HR2 := Lib.hid (HRd.out.far (a := ⟨q, 3, none⟩) (by show ∀ b off, A = some ⟨b, off, none⟩ → 0 < cs.length → q ≠ b; exact Hne.out) (.int .i64 p'))
  have Hb2 := Lib.hid (Hbd.out.setCell (p := ⟨q, 3, none⟩) hwq (.int .i64 p'))
  obtain ⟨hps, s0, s1, s2, s3, s4⟩ := HX2.out
  obtain ⟨M, HM⟩ : ∃ M, Hid (cs.length - s + 1 = M) := ⟨_, Lib.hid rfl⟩
  have hM : M ≤ 57 := by have := HM.out; omega
  have hM3 : 3 ≤ M := by have := HM.out; omega
  go_wp2_with fail
  refine (times_ok A c cs s l _ sp ac br _ HR2.out hcap Hok.out).mono ?_
  rintro e W4 ⟨r, rfl, -, hrow, hb4⟩
  rw [HM.out] at hrow ⊢
  have HY4 := Lib.hid (HY2.out.below hb4)
  have HR4 := Lib.hid (HR2.out.below (B := 0) hb4)
  have Hb4 := Lib.hid (Hb2.out.trans (hb4.mono Hb2.out.size))
  have Hrow := Lib.hid hrow
  clear hrow hb4 HX2 HR2 Hb2 HY2 s0 s1 s2 s3 s4 hps y0 y1 y2 y3 y4 fz HXd HYd HRd Hbd
  obtain ⟨hps, s0, s1, s2, s3, s4⟩ := HY4.out
  go_wp2_with fail
  refine (times_ok A c cs s l _ sp p' br _ HR4.out hcap Hok2.out).mono ?_
  rintro e W5 ⟨r', rfl, -, hrow', hb5⟩
  rw [HM.out] at hrow' ⊢
  have Hrt : Hid (W5.rowIs r 3 M (fun j => .int .i64 (tim cs s l sp ac br j))) := Lib.hid (Hrow.out.of_block (hb5.block _ Hrow.out.lt))
  have Hru : Hid (W5.rowIs r' 3 M (fun j => .int .i64 (tim cs s l sp p' br j))) := Lib.hid hrow'
  have Hb5 := Lib.hid (Hb4.out.trans (hb5.mono Hb4.out.size))
  clear hb5 hrow' Hrow HY4 HR4 Hb4 s0 s1 s2 s3 s4 hps
  have v1 : W5.cell? ⟨r, 1, none⟩ = some (.int .i64 t1) := by rw [← Ht1.out]; exact Hrt.out.cell (i := 1) (by omega)
  go_wp2
  go_loopw [95] (fun bv wr => ∃ k : Nat, k ≤ M ∧ bv = .int .i64 k ∧ ∃ n, wr = W5.drewN n) (fun bv _ => M - (intOf bv).toNat)
  case atStart => exact ⟨0, by omega, rfl, 0, rfl⟩
  case round =>
    obtain ⟨k, hk2, rfl, n, rfl⟩ := hrel
    by_cases hkM : k < M
    · obtain ⟨x, Hx⟩ : ∃ x, Hid (tim cs s l sp ac br k = x) := ⟨_, Lib.hid rfl⟩
      obtain ⟨y, Hy⟩ : ∃ y, Hid (tim cs s l sp p' br k = y) := ⟨_, Lib.hid rfl⟩
      have vk : W5.cell? ⟨r, k, none⟩ = some (.int .i64 x) := by rw [← Hx.out]; exact Hrt.out.cell (i := k) hkM
      have vj : W5.cell? ⟨r', k, none⟩ = some (.int .i64 y) := by rw [← Hy.out]; exact Hru.out.cell (i := k) hkM
      have hxy : y ≤ x := by
        have := HU.out k (by have := HM.out; omega)
        rw [Hx.out, Hy.out] at this
        exact this
      have w1 : decide (x < y) = false := by simp; omega
      go_wp2
      go_quiet (fail)
      rw [World.drewN_drewN]
      go_wp2
      go_roundw
      case rel => exact ⟨k + 1, by omega, by go_num, _, rfl⟩
      case measure => simp [intOf]; omega
    · go_wp2
      go_ret
      exact ⟨ret_bool (by simp; omega), below_draws Hb5.out n⟩
set_option maxHeartbeats 2000000 in
set_option maxRecDepth 100000 in
theorem DynamicsFasterIsNotLater_long2 (a0 : Option Addr) (cap0 : Nat) (z0 : List Int) (a1 : Option Addr) (cap1 : Nat) (z1 : List Int) (a2 a3 a4 : Int) (w : World)
    (cs : List (Int × Int)) (l : Nat) (sp ac br : Int) (hn1 : cs.length ≤ 56) (hl1 : 1 ≤ l) (hl2 : l ≤ 4) (k3 : 5000 ≤ sp) (k4 : sp ≤ 32500) (k5 : 200 ≤ ac) (k6 : ac ≤ 900) (k7 : 200 ≤ br) (k8 : br ≤ 900) (Hall : Hid (cs.all cellB = true))
    (HC : Hid (Calls Try.prog 13 #[.slice a0 z0.length cap0] w (RetCells w cs)))
    (HS : Hid (∀ w1, Below w.heap.size w w1 → Calls Try.prog 14 #[.slice a1 z1.length cap1] w1 fun e w' => e = .returned (.agg #[.string ⟨#[88]⟩, .int .i64 l, .int .i64 sp, .int .i64 ac, .int .i64 br]) ∧ Below w1.heap.size w1 w'))
    (hlt : 2 ≤ cs.length) (Hw : Hid (pick a3 3 = 2)) :
    Calls Try.prog 5 #[.slice a0 z0.length cap0, .slice a1 z1.length cap1, .int .i64 a2, .int .i64 a3, .int .i64 a4] w fun e w' => e = .returned (.bool true) ∧ Below w.heap.size w w' := by
  have hd2 : decide ((cs.length : Int) < 2) = false := by simp; omega
  obtain ⟨g0, g1⟩ := pick_range a4 1000 (by omega)
  obtain ⟨g, Hg⟩ : ∃ g, Hid (pick a4 1000 = g) := ⟨_, Lib.hid rfl⟩
  rw [Hg.out] at g0 g1
  obtain ⟨p', Hp'⟩ : ∃ p', Hid (br + g = p') := ⟨_, Lib.hid rfl⟩
  have hp1 : br ≤ p' := by have := Hp'.out; omega
  have hp2 : p' ≤ 2000 := by have := Hp'.out; omega
  obtain ⟨s, hs⟩ := Int.eq_ofNat_of_zero_le (pick_range a2 ((cs.length : Int) - 1) (by omega)).1
  have hs2 : s + 2 ≤ cs.length := by have := (pick_range a2 ((cs.length : Int) - 1) (by omega)).2; omega
  have Hs := Lib.hid hs
  have Hok : Hid (badRun cs s l sp ac br = 0) := Lib.hid (ok_of Hall.out (by omega) hs2 (by omega) (by omega) (by omega) (by omega) (by omega) (by omega) (by omega) (by omega))
  clear hs
  have Hok2 : Hid (badRun cs s l sp ac p' = 0) := Lib.hid (ok_of Hall.out (by omega) hs2 (by omega) (by omega) (by omega) (by omega) (by omega) (by omega) (by omega) (by omega))
  have HU : Hid (∀ j, j ≤ cs.length - s → tim cs s l sp ac p' j ≤ tim cs s l sp ac br j) := Lib.hid (fun j hj => by
    have hF : Freer cs.length s cs l sp ac br cs l sp ac p' := ⟨fun k _ => ⟨by have := (limit_range cs k l sp (by omega) Hall.out).1; omega, (Int.le_refl _)⟩, fun k _ => (Int.le_refl _), fun k _ => (loss_mono _ hp1)⟩
    refine tim_anti (cs.length - s) (fun i _ => spd_mono (sqW_mono hF rfl rfl (by omega) i)) (fun i hi => ?_) j hj
    have := (spd_sum (start := s) (l := l) (show 1000 ≤ sp by omega) (by omega) (show 100 ≤ ac by omega) (by omega) (show 100 ≤ br by omega) (by omega) Hall.out hs2 i hi).1
    omega)
  obtain ⟨u1, u2⟩ := tim_range (start := s) (l := l) (show 1000 ≤ sp by omega) (by omega) (show 100 ≤ ac by omega) (by omega) (show 100 ≤ br by omega) (by omega) Hall.out hs2 1 (by omega)
  obtain ⟨t1, Ht1⟩ : ∃ t1, Hid (tim cs s l sp ac br 1 = t1) := ⟨_, Lib.hid rfl⟩
  rw [Ht1.out] at u1 u2
  go_enter Try.func5, Try.ntmps5
  go_wp2_with fail
  refine HC.out.mono ?_
  rintro e w1 ⟨A, c, rfl, hown, hb1⟩
  go_wp2_with fail
  refine (HS.out w1 hb1).mono ?_
  rintro e w2 ⟨rfl, hb2⟩
  have hcap : cs.length ≤ c := own_cap hown
  have Hb2 : Hid (Below w.heap.size w w2) := Lib.hid (hb1.trans (hb2.mono hb1.size))
  have Hb3 : Hid (Below w.heap.size w (w2.alloc (.cells #[.string ⟨#[88]⟩, .int .i64 l, .int .i64 sp, .int .i64 ac, .int .i64 br] 26))) := Lib.hid (Hb2.out.alloc Hb2.out.size _)
  have HX : Hid (BoxS (w2.alloc (.cells #[.string ⟨#[88]⟩, .int .i64 l, .int .i64 sp, .int .i64 ac, .int .i64 br] 26)) w2.heap.size ⟨#[88]⟩ l sp ac br) := Lib.hid (BoxS.new w2 ⟨#[88]⟩ l sp ac br 26)
  have HRC : Hid (RdC (w2.alloc (.cells #[.string ⟨#[88]⟩, .int .i64 l, .int .i64 sp, .int .i64 ac, .int .i64 br] 26)) A cs) := Lib.hid (((RdC.of_own hown rfl).below (B := 0) hb2).below (B := 0) ((Below.refl _ _).alloc (Nat.le_refl _) _))
  clear hown hb1 hb2 Hb2 HC HS
  obtain ⟨p, hp⟩ : ∃ p, p = w2.heap.size := ⟨_, rfl⟩
  rw [← hp] at HX
  go_wp2_with fail
  refine (pick_any a2 _ _ (by omega) (by omega)).mono ?_
  rintro e w' ⟨rfl, rfl⟩
  rw [Hs.out]
  rw [← hp]
  generalize w2.alloc (.cells #[.string ⟨#[88]⟩, .int .i64 l, .int .i64 sp, .int .i64 ac, .int .i64 br] 26) = W at *
  clear hp
  obtain ⟨hps, s0, s1, s2, s3, s4⟩ := HX.out
  have B1 : Below W.heap.size W (W.alloc (.cells #[.string ⟨#[88]⟩, .int .i64 l, .int .i64 sp, .int .i64 ac, .int .i64 br] 26)) := (Below.refl _ _).alloc (Nat.le_refl _) _
  have HX1 := Lib.hid (HX.out.below B1)
  have HY1 := Lib.hid (BoxS.new W ⟨#[88]⟩ l sp ac br 26)
  have HRC1 := Lib.hid (HRC.out.below (B := 0) B1)
  have Hbb1 := Lib.hid (Hb3.out.trans (B1.mono Hb3.out.size))
  have fz : (W.alloc (.cells #[.string ⟨#[88]⟩, .int .i64 l, .int .i64 sp, .int .i64 ac, .int .i64 br] 26)).frozen? ⟨W.heap.size, 4, none⟩ = false := by simp
  obtain ⟨q, hq⟩ : ∃ q, q = W.heap.size := ⟨_, rfl⟩
  have hpq : p < q := by rw [hq]; exact HX.out.1
  have hwq : w.heap.size ≤ q := by rw [hq]; exact Hb3.out.size
  have Hne : Hid (∀ b off, A = some ⟨b, off, none⟩ → 0 < cs.length → q ≠ b) := Lib.hid (fun b off e h0 => by have := HRC.out.lt e h0; omega)
  rw [← hq] at HY1 fz
  have Hfz := Lib.hid fz
  clear B1 fz
  go_wp2_with fail
  clear s0 s1 s2 s3 s4 hps
  refine (pick_any a3 3 _ (by omega) (by omega)).mono ?_
  rintro e w' ⟨rfl, rfl⟩
  rw [Hw.out, ← hq]
  clear HX HRC Hb3 hq
  generalize W.alloc (.cells #[.string ⟨#[88]⟩, .int .i64 l, .int .i64 sp, .int .i64 ac, .int .i64 br] 26) = W1 at *
  obtain ⟨hps, s0, s1, s2, s3, s4⟩ := HX1.out
  have e0 : IntKind.i64.wrap (br + g) = br + g := by rw [IntKind.wrap_i64]; omega
  go_wp2
  (refine wp_region_qtail (fun w' => ∃ n, w' = World.drewN W1 n) 7 (by kernel_rfl) (by kernel_rfl) ⟨1, rfl⟩ ?_; simp only [List.take_succ_cons, List.take_zero, List.drop_succ_cons, List.drop_zero]; (repeat (go_big_quiet_step ((go_at_call 16; exact quiet_same ((pick_any _ _ _ (by omega) (by omega)).mono fun e w'' ⟨he, hb⟩ => ⟨he.trans (ret_int Hg.out), hb⟩))))); refine wpQuiet_nil ?_; intro w' hw'; obtain ⟨nq, rfl⟩ := hw')
  have HXd : Hid (BoxS (W1.drewN nq) p ⟨#[88]⟩ l sp ac br) := HX1
  have HYd : Hid (BoxS (W1.drewN nq) q ⟨#[88]⟩ l sp ac br) := HY1
  have HRd : Hid (RdC (W1.drewN nq) A cs) := HRC1
  have Hbd : Hid (Below w.heap.size w (W1.drewN nq)) := Lib.hid (below_draws Hbb1.out nq)
  have fz : (W1.drewN nq).frozen? ⟨q, 4, none⟩ = false := Hfz.out
  clear HX1 HY1 HRC1 Hbb1 Hfz s0 s1 s2 s3 s4 hps
  generalize W1.drewN nq = W2 at *
  obtain ⟨-, y0, y1, y2, y3, y4⟩ := HYd.out
  rw [Hp'.out]
  have HY2 := Lib.hid (HYd.out.set_brake p')
  have HX2 := Lib.hid (HXd.out.far (a := ⟨q, 4, none⟩) (by show q ≠ p; omega) (.int .i64 p'))
  have HR2 := Lib.hid (HRd.out.far (a := ⟨q, 4, none⟩) (by show ∀ b off, A = some ⟨b, off, none⟩ → 0 < cs.length → q ≠ b; exact Hne.out) (.int .i64 p'))
  have Hb2 := Lib.hid (Hbd.out.setCell (p := ⟨q, 4, none⟩) hwq (.int .i64 p'))
  obtain ⟨hps, s0, s1, s2, s3, s4⟩ := HX2.out
  obtain ⟨M, HM⟩ : ∃ M, Hid (cs.length - s + 1 = M) := ⟨_, Lib.hid rfl⟩
  have hM : M ≤ 57 := by have := HM.out; omega
  have hM3 : 3 ≤ M := by have := HM.out; omega
  go_wp2_with fail
  refine (times_ok A c cs s l _ sp ac br _ HR2.out hcap Hok.out).mono ?_
  rintro e W4 ⟨r, rfl, -, hrow, hb4⟩
  rw [HM.out] at hrow ⊢
  have HY4 := Lib.hid (HY2.out.below hb4)
  have HR4 := Lib.hid (HR2.out.below (B := 0) hb4)
  have Hb4 := Lib.hid (Hb2.out.trans (hb4.mono Hb2.out.size))
  have Hrow := Lib.hid hrow
  clear hrow hb4 HX2 HR2 Hb2 HY2 s0 s1 s2 s3 s4 hps y0 y1 y2 y3 y4 fz HXd HYd HRd Hbd
  obtain ⟨hps, s0, s1, s2, s3, s4⟩ := HY4.out
  go_wp2_with fail
  refine (times_ok A c cs s l _ sp ac p' _ HR4.out hcap Hok2.out).mono ?_
  rintro e W5 ⟨r', rfl, -, hrow', hb5⟩
  rw [HM.out] at hrow' ⊢
  have Hrt : Hid (W5.rowIs r 3 M (fun j => .int .i64 (tim cs s l sp ac br j))) := Lib.hid (Hrow.out.of_block (hb5.block _ Hrow.out.lt))
  have Hru : Hid (W5.rowIs r' 3 M (fun j => .int .i64 (tim cs s l sp ac p' j))) := Lib.hid hrow'
  have Hb5 := Lib.hid (Hb4.out.trans (hb5.mono Hb4.out.size))
  clear hb5 hrow' Hrow HY4 HR4 Hb4 s0 s1 s2 s3 s4 hps
  have v1 : W5.cell? ⟨r, 1, none⟩ = some (.int .i64 t1) := by rw [← Ht1.out]; exact Hrt.out.cell (i := 1) (by omega)
  go_wp2
  go_loopw [95] (fun bv wr => ∃ k : Nat, k ≤ M ∧ bv = .int .i64 k ∧ ∃ n, wr = W5.drewN n) (fun bv _ => M - (intOf bv).toNat)
  case atStart => exact ⟨0, by omega, rfl, 0, rfl⟩
  case round =>
    obtain ⟨k, hk2, rfl, n, rfl⟩ := hrel
    by_cases hkM : k < M
    · obtain ⟨x, Hx⟩ : ∃ x, Hid (tim cs s l sp ac br k = x) := ⟨_, Lib.hid rfl⟩
      obtain ⟨y, Hy⟩ : ∃ y, Hid (tim cs s l sp ac p' k = y) := ⟨_, Lib.hid rfl⟩
      have vk : W5.cell? ⟨r, k, none⟩ = some (.int .i64 x) := by rw [← Hx.out]; exact Hrt.out.cell (i := k) hkM
      have vj : W5.cell? ⟨r', k, none⟩ = some (.int .i64 y) := by rw [← Hy.out]; exact Hru.out.cell (i := k) hkM
      have hxy : y ≤ x := by
        have := HU.out k (by have := HM.out; omega)
        rw [Hx.out, Hy.out] at this
        exact this
      have w1 : decide (x < y) = false := by simp; omega
      go_wp2
      go_quiet (fail)
      rw [World.drewN_drewN]
      go_wp2
      go_roundw
      case rel => exact ⟨k + 1, by omega, by go_num, _, rfl⟩
      case measure => simp [intOf]; omega
    · go_wp2
      go_ret
      exact ⟨ret_bool (by simp; omega), below_draws Hb5.out n⟩
theorem DynamicsFasterIsNotLater_long (a0 : Option Addr) (cap0 : Nat) (z0 : List Int) (a1 : Option Addr) (cap1 : Nat) (z1 : List Int) (a2 a3 a4 : Int) (w : World)
    (cs : List (Int × Int)) (l : Nat) (sp ac br : Int) (hn1 : cs.length ≤ 56) (hl1 : 1 ≤ l) (hl2 : l ≤ 4) (k3 : 5000 ≤ sp) (k4 : sp ≤ 32500) (k5 : 200 ≤ ac) (k6 : ac ≤ 900) (k7 : 200 ≤ br) (k8 : br ≤ 900) (Hall : Hid (cs.all cellB = true))
    (HC : Hid (Calls Try.prog 13 #[.slice a0 z0.length cap0] w (RetCells w cs)))
    (HS : Hid (∀ w1, Below w.heap.size w w1 → Calls Try.prog 14 #[.slice a1 z1.length cap1] w1 fun e w' => e = .returned (.agg #[.string ⟨#[88]⟩, .int .i64 l, .int .i64 sp, .int .i64 ac, .int .i64 br]) ∧ Below w1.heap.size w1 w'))
    (hlt : 2 ≤ cs.length) :
    Calls Try.prog 5 #[.slice a0 z0.length cap0, .slice a1 z1.length cap1, .int .i64 a2, .int .i64 a3, .int .i64 a4] w fun e w' => e = .returned (.bool true) ∧ Below w.heap.size w w' := by
  obtain ⟨h0, h1⟩ := pick_range a3 3 (by omega)
  rcases (show pick a3 3 = 0 ∨ pick a3 3 = 1 ∨ pick a3 3 = 2 by omega) with h | h | h
  · exact DynamicsFasterIsNotLater_long0 a0 cap0 z0 a1 cap1 z1 a2 a3 a4 w cs l sp ac br hn1 hl1 hl2 k3 k4 k5 k6 k7 k8 Hall HC HS hlt (Lib.hid h)
  · exact DynamicsFasterIsNotLater_long1 a0 cap0 z0 a1 cap1 z1 a2 a3 a4 w cs l sp ac br hn1 hl1 hl2 k3 k4 k5 k6 k7 k8 Hall HC HS hlt (Lib.hid h)
  · exact DynamicsFasterIsNotLater_long2 a0 cap0 z0 a1 cap1 z1 a2 a3 a4 w cs l sp ac br hn1 hl1 hl2 k3 k4 k5 k6 k7 k8 Hall HC HS hlt (Lib.hid h)
theorem W.DynamicsFasterIsNotLater (a0 : Option Addr) (cap0 : Nat) (z0 : List Int) (a1 : Option Addr) (cap1 : Nat) (z1 : List Int) (a2 a3 a4 : Int) (w : World) (r0 : RdI w a0 z0) (l0 : z0.length ≤ 9223372036854775807) (r1 : RdI w a1 z1) (l1 : z1.length ≤ 9223372036854775807) (w2 : (Lit.int .i64 a2).wf = true) (w3 : (Lit.int .i64 a3).wf = true) (w4 : (Lit.int .i64 a4).wf = true) :
    Calls Try.prog 5 #[.slice a0 z0.length cap0, .slice a1 z1.length cap1, .int .i64 a2, .int .i64 a3, .int .i64 a4] w fun e w' => e = .returned (.bool true) ∧ Below w.heap.size w w' := by
  obtain ⟨cs, l, sp, ac, br, hall, hn1, hn2, hl1, hl2, k3, k4, k5, k6, k7, k8, hC, hS⟩ := opening a0 cap0 z0 a1 cap1 z1 w r0 l0 r1 l1
  have Hall := Lib.hid hall
  have HC := Lib.hid hC
  have HS := Lib.hid hS
  clear hall hC hS r0 r1
  by_cases hlt : cs.length < 2
  · exact DynamicsFasterIsNotLater_short a0 cap0 z0 a1 cap1 z1 a2 a3 a4 w cs l sp ac br hn1 hl1 hl2 k3 k4 k5 k6 k7 k8 Hall HC HS hlt
  · exact DynamicsFasterIsNotLater_long a0 cap0 z0 a1 cap1 z1 a2 a3 a4 w cs l sp ac br hn1 hl1 hl2 k3 k4 k5 k6 k7 k8 Hall HC HS (by omega)
end Go.Proofs.Ytjmiddhdbimaaaa
