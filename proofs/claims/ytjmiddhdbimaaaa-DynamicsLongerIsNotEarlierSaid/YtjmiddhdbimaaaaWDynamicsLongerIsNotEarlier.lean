/- DynamicsLongerIsNotEarlier returns true, whatever its arguments: a longer train and lower limits of the cells never decrease a time. -/
import Derived.Test.YtjmiddhdbimaaaaLongPlain
import Derived.Test.YtjmiddhdbimaaaaQTail2
import Derived.Laws.OwnMore
namespace Go.Proofs.Ytjmiddhdbimaaaa
open Go.RowKit
set_option linter.unusedVariables false

set_option maxRecDepth 100000 in
theorem DynamicsLongerIsNotEarlier_short (a0 : Option Addr) (cap0 : Nat) (z0 : List Int) (a1 : Option Addr) (cap1 : Nat) (z1 : List Int) (a2 a3 a4 a5 : Int) (w : World)
    (cs : List (Int × Int)) (l : Nat) (sp ac br : Int) (hn1 : cs.length ≤ 56) (hl1 : 1 ≤ l) (hl2 : l ≤ 4) (k3 : 5000 ≤ sp) (k4 : sp ≤ 32500) (k5 : 200 ≤ ac) (k6 : ac ≤ 900) (k7 : 200 ≤ br) (k8 : br ≤ 900) (Hall : Hid (cs.all cellB = true))
    (HC : Hid (Calls Try.prog 13 #[.slice a0 z0.length cap0] w (RetCells w cs)))
    (HS : Hid (∀ w1, Below w.heap.size w w1 → Calls Try.prog 14 #[.slice a1 z1.length cap1] w1 fun e w' => e = .returned (.agg #[.string ⟨#[88]⟩, .int .i64 l, .int .i64 sp, .int .i64 ac, .int .i64 br]) ∧ Below w1.heap.size w1 w'))
    (hlt : cs.length < 2) :
    Calls Try.prog 6 #[.slice a0 z0.length cap0, .slice a1 z1.length cap1, .int .i64 a2, .int .i64 a3, .int .i64 a4, .int .i64 a5] w fun e w' => e = .returned (.bool true) ∧ Below w.heap.size w w' := by
  have Hchk := Lib.hid (chk_mk (l := (l : Int)) (by omega) (by omega) (show 1000 ≤ sp by omega) (by omega) (show 100 ≤ ac by omega) (by omega) (show 100 ≤ br by omega) (by omega))
  go_enter Try.func6, Try.ntmps6
  go_wp2_with fail
  refine HC.out.mono ?_
  rintro e w1 ⟨A, c, rfl, hown, hb1⟩
  go_wp2_with fail
  refine (HS.out w1 hb1).mono ?_
  rintro e w2 ⟨rfl, hb2⟩
  have hcap : cs.length ≤ c := own_cap hown
  have Hb2 : Hid (Below w.heap.size w w2) := Lib.hid (hb1.trans (hb2.mono hb1.size))
  have Hb3 : Hid (Below w.heap.size w (w2.alloc (.cells #[.string ⟨#[88]⟩, .int .i64 l, .int .i64 sp, .int .i64 ac, .int .i64 br] 26))) := Lib.hid (Hb2.out.alloc Hb2.out.size _)
  have HX : Hid (BoxS (w2.alloc (.cells #[.string ⟨#[88]⟩, .int .i64 l, .int .i64 sp, .int .i64 ac, .int .i64 br] 26)) w2.heap.size ⟨#[88]⟩ l sp ac br) := Lib.hid (BoxS.new w2 ⟨#[88]⟩ l sp ac br 26)
  have HRC : Hid (RdC (w2.alloc (.cells #[.string ⟨#[88]⟩, .int .i64 l, .int .i64 sp, .int .i64 ac, .int .i64 br] 26)) A cs) := Lib.hid (((RdC.of_own hown rfl).below (B := 0) hb2).below (B := 0) ((Below.refl _ _).alloc (Nat.le_refl _) _))
  clear hown hb1 hb2 Hb2 HC HS
  obtain ⟨p, hp⟩ : ∃ p, p = w2.heap.size := ⟨_, rfl⟩
  rw [← hp] at HX
  go_wp2_with fail
  refine (check_any _ l sp ac br _).mono ?_
  rintro e w4 ⟨rfl, hb4⟩
  rw [Hchk.out]
  go_wp2
  go_ret
  exact ⟨rfl, Hb3.out.trans (hb4.mono Hb3.out.size)⟩

set_option maxHeartbeats 2000000 in
set_option maxRecDepth 100000 in
theorem DynamicsLongerIsNotEarlier_long (a0 : Option Addr) (cap0 : Nat) (z0 : List Int) (a1 : Option Addr) (cap1 : Nat) (z1 : List Int) (a2 a3 a4 a5 : Int) (w : World)
    (cs : List (Int × Int)) (l : Nat) (sp ac br : Int) (hn1 : cs.length ≤ 56) (hl1 : 1 ≤ l) (hl2 : l ≤ 4) (k3 : 5000 ≤ sp) (k4 : sp ≤ 32500) (k5 : 200 ≤ ac) (k6 : ac ≤ 900) (k7 : 200 ≤ br) (k8 : br ≤ 900) (Hall : Hid (cs.all cellB = true))
    (HC : Hid (Calls Try.prog 13 #[.slice a0 z0.length cap0] w (RetCells w cs)))
    (HS : Hid (∀ w1, Below w.heap.size w w1 → Calls Try.prog 14 #[.slice a1 z1.length cap1] w1 fun e w' => e = .returned (.agg #[.string ⟨#[88]⟩, .int .i64 l, .int .i64 sp, .int .i64 ac, .int .i64 br]) ∧ Below w1.heap.size w1 w'))
    (hlt : 2 ≤ cs.length) :
    Calls Try.prog 6 #[.slice a0 z0.length cap0, .slice a1 z1.length cap1, .int .i64 a2, .int .i64 a3, .int .i64 a4, .int .i64 a5] w fun e w' => e = .returned (.bool true) ∧ Below w.heap.size w w' := by
  have hd2 : decide ((cs.length : Int) < 2) = false := by simp; omega
  obtain ⟨i0, hi, hz0, hz1, hz2⟩ := info_parts info_cell
  obtain ⟨g, hg⟩ := Int.eq_ofNat_of_zero_le (pick_range a3 10 (by omega)).1
  have hg2 := (pick_range a3 10 (by omega)).2
  rw [hg] at hg2
  have Hg := Lib.hid hg
  obtain ⟨k, hk⟩ := Int.eq_ofNat_of_zero_le (pick_range a4 (cs.length : Int) (by omega)).1
  have hk2 := (pick_range a4 (cs.length : Int) (by omega)).2
  rw [hk] at hk2
  have Hk := Lib.hid hk
  have hkl : k < cs.length := by omega
  obtain ⟨y0, y1⟩ := pick_range a5 20000 (by omega)
  obtain ⟨y, Hy⟩ : ∃ y, Hid (pick a5 20000 = y) := ⟨_, Lib.hid rfl⟩
  rw [Hy.out] at y0 y1
  clear hg hk
  obtain ⟨s, hs⟩ := Int.eq_ofNat_of_zero_le (pick_range a2 ((cs.length : Int) - 1) (by omega)).1
  have hs2 : s + 2 ≤ cs.length := by have := (pick_range a2 ((cs.length : Int) - 1) (by omega)).2; omega
  have Hs := Lib.hid hs
  have Hok : Hid (badRun cs s l sp ac br = 0) := Lib.hid (ok_of Hall.out (by omega) hs2 (by omega) (by omega) (by omega) (by omega) (by omega) (by omega) (by omega) (by omega))
  clear hs
  obtain ⟨l', Hl'⟩ : ∃ l', Hid (l + g = l') := ⟨_, Lib.hid rfl⟩
  have hl'1 : l ≤ l' := by have := Hl'.out; omega
  have hl'2 : l' ≤ 13 := by have := Hl'.out; omega
  obtain ⟨x, Hx⟩ : ∃ x, Hid ((cs[k]).1 = x) := ⟨_, Lib.hid rfl⟩
  obtain ⟨hx1, hx2, -, -⟩ := cell_of (List.all_eq_true.1 Hall.out _ (List.getElem_mem hkl))
  rw [Hx.out] at hx1 hx2
  obtain ⟨v, Hv⟩ : ∃ v, Hid ((if 1000 < x - y then x - y else 1000) = v) := ⟨_, Lib.hid rfl⟩
  have hv1 : 1000 ≤ v := by have := Hv.out; by_cases hc : 1000 < x - y; rw [if_pos hc] at this; omega; rw [if_neg hc] at this; omega
  have hv2 : v ≤ x := by have := Hv.out; by_cases hc : 1000 < x - y; rw [if_pos hc] at this; omega; rw [if_neg hc] at this; omega
  obtain ⟨ds, Hds⟩ : ∃ ds, Hid (cs.set k (v, (cs[k]).2) = ds) := ⟨_, Lib.hid rfl⟩
  have hdl : ds.length = cs.length := by rw [← Hds.out, List.length_set]
  have HallD : Hid (ds.all cellB = true) := Lib.hid (by rw [← Hds.out]; exact set_all hkl (by rw [Hx.out]; exact hv2) hv1 Hall.out)
  have Hok2 : Hid (badRun ds s l' sp ac br = 0) := Lib.hid (ok_of HallD.out (by omega) (by omega) (by omega) (by omega) (by omega) (by omega) (by omega) (by omega) (by omega) (by omega))
  have HU : Hid (∀ j, j ≤ cs.length - s → tim cs s l sp ac br j ≤ tim ds s l' sp ac br j) := Lib.hid (fun j hj => by rw [← Hds.out]; exact tim_set hkl (by rw [Hx.out]; exact hv2) hv1 Hall.out hl'1 (by omega) (by omega) (by omega) (by omega) (by omega) (by omega) hs2 j hj)
  obtain ⟨u1, u2⟩ := tim_range (start := s) (l := l) (show 1000 ≤ sp by omega) (by omega) (show 100 ≤ ac by omega) (by omega) (show 100 ≤ br by omega) (by omega) Hall.out hs2 1 (by omega)
  obtain ⟨t1, Ht1⟩ : ∃ t1, Hid (tim cs s l sp ac br 1 = t1) := ⟨_, Lib.hid rfl⟩
  rw [Ht1.out] at u1 u2
  go_enter Try.func6, Try.ntmps6
  go_wp2_with fail
  refine HC.out.mono ?_
  rintro e w1 ⟨A, c, rfl, hown, hb1⟩
  go_wp2_with fail
  refine (HS.out w1 hb1).mono ?_
  rintro e w2 ⟨rfl, hb2⟩
  have hcap : cs.length ≤ c := own_cap hown
  have Hb2 : Hid (Below w.heap.size w w2) := Lib.hid (hb1.trans (hb2.mono hb1.size))
  have Hb3 : Hid (Below w.heap.size w (w2.alloc (.cells #[.string ⟨#[88]⟩, .int .i64 l, .int .i64 sp, .int .i64 ac, .int .i64 br] 26))) := Lib.hid (Hb2.out.alloc Hb2.out.size _)
  have HX : Hid (BoxS (w2.alloc (.cells #[.string ⟨#[88]⟩, .int .i64 l, .int .i64 sp, .int .i64 ac, .int .i64 br] 26)) w2.heap.size ⟨#[88]⟩ l sp ac br) := Lib.hid (BoxS.new w2 ⟨#[88]⟩ l sp ac br 26)
  have HRC : Hid (RdC (w2.alloc (.cells #[.string ⟨#[88]⟩, .int .i64 l, .int .i64 sp, .int .i64 ac, .int .i64 br] 26)) A cs) := Lib.hid (((RdC.of_own hown rfl).below (B := 0) hb2).below (B := 0) ((Below.refl _ _).alloc (Nat.le_refl _) _))
  clear hown hb1 hb2 Hb2 HC HS
  obtain ⟨p, hp⟩ : ∃ p, p = w2.heap.size := ⟨_, rfl⟩
  rw [← hp] at HX
  go_wp2_with fail
  refine (pick_any a2 _ _ (by omega) (by omega)).mono ?_
  rintro e w' ⟨rfl, rfl⟩
  rw [Hs.out]
  rw [← hp]
  generalize w2.alloc (.cells #[.string ⟨#[88]⟩, .int .i64 l, .int .i64 sp, .int .i64 ac, .int .i64 br] 26) = W at *
  clear hp
  obtain ⟨hps, s0, s1, s2, s3, s4⟩ := HX.out
  have B1 : Below W.heap.size W (W.alloc (.cells #[.string ⟨#[88]⟩, .int .i64 l, .int .i64 sp, .int .i64 ac, .int .i64 br] 26)) := (Below.refl _ _).alloc (Nat.le_refl _) _
  have HX1 := Lib.hid (HX.out.below B1)
  have HY1 := Lib.hid (BoxS.new W ⟨#[88]⟩ l sp ac br 26)
  have HRC1 := Lib.hid (HRC.out.below (B := 0) B1)
  have Hbb1 := Lib.hid (Hb3.out.trans (B1.mono Hb3.out.size))
  have fz : (W.alloc (.cells #[.string ⟨#[88]⟩, .int .i64 l, .int .i64 sp, .int .i64 ac, .int .i64 br] 26)).frozen? ⟨W.heap.size, 1, none⟩ = false := by simp
  obtain ⟨q, hq⟩ : ∃ q, q = W.heap.size := ⟨_, rfl⟩
  have hpq : p < q := by rw [hq]; exact HX.out.1
  have hwq : w.heap.size ≤ q := by rw [hq]; exact Hb3.out.size
  obtain ⟨b, off, hA, hbW, -⟩ := HRC.out 0 (by omega)
  subst hA
  have hbq : b < q := by omega
  rw [← hq] at HY1 fz
  have Hfz := Lib.hid fz
  clear B1 fz hbW
  go_wp2
  rw [← hq]
  clear HX HRC Hb3 hq s0 s1 s2 s3 s4 hps
  generalize W.alloc (.cells #[.string ⟨#[88]⟩, .int .i64 l, .int .i64 sp, .int .i64 ac, .int .i64 br] 26) = W1 at *
  obtain ⟨hps, s0, s1, s2, s3, s4⟩ := HX1.out
  have e0 : IntKind.i64.wrap ((l : Int) + g) = (l' : Int) := by rw [IntKind.wrap_i64]; have := Hl'.out; omega
  (refine wp_region_qtail (fun w' => ∃ n, w' = World.drewN W1 n) 6 (by kernel_rfl) (by kernel_rfl) ⟨1, rfl⟩ ?_; simp only [List.take_succ_cons, List.take_zero, List.drop_succ_cons, List.drop_zero]; (repeat (go_big_quiet_step ((go_at_call 16; exact quiet_same ((pick_any _ _ _ (by omega) (by omega)).mono fun e w'' ⟨he, hb⟩ => ⟨he.trans (ret_int Hg.out), hb⟩))))); refine wpQuiet_nil ?_; intro w' hw'; obtain ⟨nq, rfl⟩ := hw')
  have HXd : Hid (BoxS (W1.drewN nq) p ⟨#[88]⟩ l sp ac br) := HX1
  have HYd : Hid (BoxS (W1.drewN nq) q ⟨#[88]⟩ l sp ac br) := HY1
  have HRd : Hid (RdC (W1.drewN nq) (some ⟨b, off, none⟩) cs) := HRC1
  have Hbd : Hid (Below w.heap.size w (W1.drewN nq)) := Lib.hid (below_draws Hbb1.out nq)
  have fz : (W1.drewN nq).frozen? ⟨q, 1, none⟩ = false := Hfz.out
  clear HX1 HY1 HRC1 Hbb1 Hfz s0 s1 s2 s3 s4 hps
  generalize W1.drewN nq = W2 at *
  obtain ⟨-, c0, c1, c2, c3, c4⟩ := HYd.out
  have HY2 := Lib.hid (HYd.out.set_len (l' : Int))
  have HX2 := Lib.hid (HXd.out.far (a := ⟨q, 1, none⟩) (by show q ≠ p; omega) (.int .i64 (l' : Int)))
  have HR2 := Lib.hid (HRd.out.far (a := ⟨q, 1, none⟩) (by intro b' off' e _; injection e with e; injection e with e1 e2; show q ≠ b'; omega) (.int .i64 (l' : Int)))
  have Hb2 := Lib.hid (Hbd.out.setCell (p := ⟨q, 1, none⟩) hwq (.int .i64 (l' : Int)))
  obtain ⟨B0, hB0⟩ : ∃ B0, (W2.setCell ⟨q, 1, none⟩ (.int .i64 (l' : Int))).heap.size = B0 := ⟨_, rfl⟩
  have hqB : q < B0 := by rw [← hB0]; exact HY2.out.1
  go_wp2_with (at_builtin; refine wpList_append_lies _ (by rfl) _ _ _ (by rfl) B0 34 i0 (.agg #[.int .i64 0, .int .i64 0]) 2 16 Try.underlying23 hi hz0 hz1 hz2 rfl (by omega) (.slice none 0 0) 0 [] (by rfl) (World.ownsRow_nil _ _ _ _) ⟨b, off, none⟩ cs.length c (flatC cs) (by rfl) (flatC_length cs) HR2.out.news (flatC_cell cs) (by omega) ?c3 ?c4 ?c5 B0 hB0 ?_)
  case c3 => unfold maxLen; omega
  case c4 => omega
  case c5 => omega
  intro b2 cap2 W3 hown hgr hat hlt3
  obtain rfl : b2 = B0 := by rcases hat with h | h; cases h; exact h
  clear hat
  have Bg : Below b2 (W2.setCell ⟨q, 1, none⟩ (.int .i64 (l' : Int))) W3 := (Below.refl _ _).grown hgr (by omega) (fun k hk => by cases hk)
  rw [← hB0] at Bg
  have HX3 := Lib.hid (HX2.out.below Bg)
  have HY3 := Lib.hid (HY2.out.below Bg)
  have HR3 := Lib.hid (HR2.out.below (B := 0) Bg)
  have Hb3 := Lib.hid (Hb2.out.trans (Bg.mono Hb2.out.size))
  have HD3 := Lib.hid (RdC.of_own hown rfl)
  have hcap2 : cs.length ≤ cap2 := own_cap hown
  have Hfz : Hid (W3.frozen? ⟨b2, k * 2, none⟩ = false) := Lib.hid (hown.frozenAt (k * 2))
  clear Bg hown hgr HX2 HY2 HR2 Hb2 HXd HYd HRd Hbd fz c0 c1 c2 c3 c4 hB0 hlt3
  go_wp2_with fail
  refine (pick_any a4 _ _ (by omega) (by omega)).mono ?_
  rintro e w' ⟨rfl, rfl⟩
  rw [Hk.out]
  go_wp2_with fail
  have vx : W3.cell? ⟨b2, k * 2, none⟩ = some (.int .i64 x) := by
    have := (HD3.out.at_ (k := k) hkl).1
    rw [Nat.zero_add, Hx.out] at this
    exact this
  have e1 : IntKind.i64.wrap (x - y) = x - y := by rw [IntKind.wrap_i64]; omega
  (refine wp_region_qtail (fun w' => ∃ n, w' = World.drewN W3 n) 13 (by kernel_rfl) (by kernel_rfl) ⟨1, rfl⟩ ?_; simp only [List.take_succ_cons, List.take_zero, List.drop_succ_cons, List.drop_zero]; (repeat (go_big_quiet_step ((go_at_call 16; exact quiet_same ((pick_any _ _ _ (by omega) (by omega)).mono fun e w'' ⟨he, hb⟩ => ⟨he.trans (ret_int Hy.out), hb⟩))))); refine wpQuiet_nil ?_; intro w' hw'; obtain ⟨nq2, rfl⟩ := hw')
  rw [Hv.out]
  have HXd : Hid (BoxS (W3.drewN nq2) p ⟨#[88]⟩ l sp ac br) := HX3
  have HYd : Hid (BoxS (W3.drewN nq2) q ⟨#[88]⟩ l' sp ac br) := HY3
  have HRd : Hid (RdC (W3.drewN nq2) (some ⟨b, off, none⟩) cs) := HR3
  have HDd : Hid (RdC (W3.drewN nq2) (some ⟨b2, 0, none⟩) cs) := HD3
  have Hbd : Hid (Below w.heap.size w (W3.drewN nq2)) := Lib.hid (below_draws Hb3.out nq2)
  have fz : (W3.drewN nq2).frozen? ⟨b2, k * 2, none⟩ = false := Hfz.out
  clear HX3 HY3 HR3 HD3 Hb3 Hfz vx
  generalize W3.drewN nq2 = W6 at *
  have vx : W6.cell? ⟨b2, k * 2, none⟩ = some (.int .i64 x) := by
    have := (HDd.out.at_ (k := k) hkl).1
    rw [Nat.zero_add, Hx.out] at this
    exact this
  have HX2 := Lib.hid (HXd.out.far (a := ⟨b2, k * 2, none⟩) (by show b2 ≠ p; omega) (.int .i64 v))
  have HY2 := Lib.hid (HYd.out.far (a := ⟨b2, k * 2, none⟩) (by show b2 ≠ q; omega) (.int .i64 v))
  have HR2 := Lib.hid (HRd.out.far (a := ⟨b2, k * 2, none⟩) (by intro b' off' e _; injection e with e; injection e with e1 e2; show b2 ≠ b'; omega) (.int .i64 v))
  have HD2 : Hid (RdC (W6.setCell ⟨b2, k * 2, none⟩ (.int .i64 v)) (some ⟨b2, 0, none⟩) ds) := Lib.hid (by
    have := HDd.out.set hkl v
    rw [Nat.zero_add, Hds.out] at this
    exact this)
  have Hb2 := Lib.hid (Hbd.out.setCell (p := ⟨b2, k * 2, none⟩) (by show _ ≤ b2; omega) (.int .i64 v))
  obtain ⟨hps, s0, s1, s2, s3, s4⟩ := HX2.out
  obtain ⟨M, HM⟩ : ∃ M, Hid (cs.length - s + 1 = M) := ⟨_, Lib.hid rfl⟩
  have hM : M ≤ 57 := by have := HM.out; omega
  have hM3 : 3 ≤ M := by have := HM.out; omega
  go_wp2_with fail
  refine (times_ok (some ⟨b, off, none⟩) c cs s l _ sp ac br _ HR2.out hcap Hok.out).mono ?_
  rintro e W4 ⟨r, rfl, -, hrow, hb4⟩
  rw [HM.out] at hrow ⊢
  have HY4 := Lib.hid (HY2.out.below hb4)
  have HD4 := Lib.hid (HD2.out.below (B := 0) hb4)
  have Hb4 := Lib.hid (Hb2.out.trans (hb4.mono Hb2.out.size))
  have Hrow := Lib.hid hrow
  clear hrow hb4 HX2 HR2 Hb2 HY2 HD2 s0 s1 s2 s3 s4 hps fz vx HXd HYd HRd HDd Hbd
  obtain ⟨hps, s0, s1, s2, s3, s4⟩ := HY4.out
  go_wp2_with fail
  have hT := times_ok (some ⟨b2, 0, none⟩) cap2 ds s l' ⟨#[88]⟩ sp ac br W4 HD4.out (by omega) Hok2.out
  rw [hdl, HM.out] at hT
  refine hT.mono ?_
  rintro e W5 ⟨r', rfl, -, hrow', hb5⟩
  have Hrt : Hid (W5.rowIs r 3 M (fun j => .int .i64 (tim cs s l sp ac br j))) := Lib.hid (Hrow.out.of_block (hb5.block _ Hrow.out.lt))
  have Hru : Hid (W5.rowIs r' 3 M (fun j => .int .i64 (tim ds s l' sp ac br j))) := Lib.hid hrow'
  have Hb5 := Lib.hid (Hb4.out.trans (hb5.mono Hb4.out.size))
  clear hT hb5 hrow' Hrow HY4 HD4 Hb4 s0 s1 s2 s3 s4 hps
  have v1 : W5.cell? ⟨r, 1, none⟩ = some (.int .i64 t1) := by rw [← Ht1.out]; exact Hrt.out.cell (i := 1) (by omega)
  go_wp2
  go_loopw [97] (fun bv wr => ∃ k : Nat, k ≤ M ∧ bv = .int .i64 k ∧ ∃ n, wr = W5.drewN n) (fun bv _ => M - (intOf bv).toNat)
  case atStart => exact ⟨0, by omega, rfl, 0, rfl⟩
  case round =>
    obtain ⟨k, hk2, rfl, n, rfl⟩ := hrel
    by_cases hkM : k < M
    · obtain ⟨x, Hx⟩ : ∃ x, Hid (tim cs s l sp ac br k = x) := ⟨_, Lib.hid rfl⟩
      obtain ⟨y, Hy⟩ : ∃ y, Hid (tim ds s l' sp ac br k = y) := ⟨_, Lib.hid rfl⟩
      have vk : W5.cell? ⟨r, k, none⟩ = some (.int .i64 x) := by rw [← Hx.out]; exact Hrt.out.cell (i := k) hkM
      have vj : W5.cell? ⟨r', k, none⟩ = some (.int .i64 y) := by rw [← Hy.out]; exact Hru.out.cell (i := k) hkM
      have hxy : x ≤ y := by
        have := HU.out k (by have := HM.out; omega)
        rw [Hx.out, Hy.out] at this
        exact this
      have w1 : decide (y < x) = false := by simp; omega
      go_wp2
      go_quiet (fail)
      rw [World.drewN_drewN]
      go_wp2
      go_roundw
      case rel => exact ⟨k + 1, by omega, by go_num, _, rfl⟩
      case measure => simp [intOf]; omega
    · go_wp2
      go_ret
      exact ⟨ret_bool (by simp; omega), below_draws Hb5.out n⟩
theorem W.DynamicsLongerIsNotEarlier (a0 : Option Addr) (cap0 : Nat) (z0 : List Int) (a1 : Option Addr) (cap1 : Nat) (z1 : List Int) (a2 a3 a4 a5 : Int) (w : World) (r0 : RdI w a0 z0) (l0 : z0.length ≤ 9223372036854775807) (r1 : RdI w a1 z1) (l1 : z1.length ≤ 9223372036854775807) (w2 : (Lit.int .i64 a2).wf = true) (w3 : (Lit.int .i64 a3).wf = true) (w4 : (Lit.int .i64 a4).wf = true) (w5 : (Lit.int .i64 a5).wf = true) :
    Calls Try.prog 6 #[.slice a0 z0.length cap0, .slice a1 z1.length cap1, .int .i64 a2, .int .i64 a3, .int .i64 a4, .int .i64 a5] w fun e w' => e = .returned (.bool true) ∧ Below w.heap.size w w' := by
  obtain ⟨cs, l, sp, ac, br, hall, hn1, hn2, hl1, hl2, k3, k4, k5, k6, k7, k8, hC, hS⟩ := opening a0 cap0 z0 a1 cap1 z1 w r0 l0 r1 l1
  have Hall := Lib.hid hall
  have HC := Lib.hid hC
  have HS := Lib.hid hS
  clear hall hC hS r0 r1
  by_cases hlt : cs.length < 2
  · exact DynamicsLongerIsNotEarlier_short a0 cap0 z0 a1 cap1 z1 a2 a3 a4 a5 w cs l sp ac br hn1 hl1 hl2 k3 k4 k5 k6 k7 k8 Hall HC HS hlt
  · exact DynamicsLongerIsNotEarlier_long a0 cap0 z0 a1 cap1 z1 a2 a3 a4 a5 w cs l sp ac br hn1 hl1 hl2 k3 k4 k5 k6 k7 k8 Hall HC HS (by omega)
end Go.Proofs.Ytjmiddhdbimaaaa
