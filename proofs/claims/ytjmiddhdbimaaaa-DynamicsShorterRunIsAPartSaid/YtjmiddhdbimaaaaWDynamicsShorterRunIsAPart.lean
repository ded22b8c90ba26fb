/- DynamicsShorterRunIsAPart returns true, whatever its arguments: a train that stops earlier passes every boundary not earlier than one that goes on. -/
import Derived.Test.YtjmiddhdbimaaaaOpening
import Derived.Test.YtjmiddhdbimaaaaPartPlain
import Derived.Test.YtjmiddhdbimaaaaQTail2
namespace Go.Proofs.Ytjmiddhdbimaaaa
open Go.RowKit
set_option linter.unusedVariables false

set_option maxRecDepth 100000 in
theorem DynamicsShorterRunIsAPart_short (a0 : Option Addr) (cap0 : Nat) (z0 : List Int) (a1 : Option Addr) (cap1 : Nat) (z1 : List Int) (a2 a3 : Int) (w : World)
    (cs : List (Int × Int)) (l : Nat) (sp ac br : Int) (hn1 : cs.length ≤ 56) (hl1 : 1 ≤ l) (hl2 : l ≤ 4) (k3 : 5000 ≤ sp) (k4 : sp ≤ 32500) (k5 : 200 ≤ ac) (k6 : ac ≤ 900) (k7 : 200 ≤ br) (k8 : br ≤ 900) (Hall : Hid (cs.all cellB = true))
    (HC : Hid (Calls Try.prog 13 #[.slice a0 z0.length cap0] w (RetCells w cs)))
    (HS : Hid (∀ w1, Below w.heap.size w w1 → Calls Try.prog 14 #[.slice a1 z1.length cap1] w1 fun e w' => e = .returned (.agg #[.string ⟨#[88]⟩, .int .i64 l, .int .i64 sp, .int .i64 ac, .int .i64 br]) ∧ Below w1.heap.size w1 w'))
    (hlt : cs.length < 3) :
    Calls Try.prog 7 #[.slice a0 z0.length cap0, .slice a1 z1.length cap1, .int .i64 a2, .int .i64 a3] w fun e w' => e = .returned (.bool true) ∧ Below w.heap.size w w' := by
  have Hchk := Lib.hid (chk_mk (l := (l : Int)) (by omega) (by omega) (show 1000 ≤ sp by omega) (by omega) (show 100 ≤ ac by omega) (by omega) (show 100 ≤ br by omega) (by omega))
  go_enter Try.func7, Try.ntmps7
  go_wp2_with fail
  refine HC.out.mono ?_
  rintro e w1 ⟨A, c, rfl, hown, hb1⟩
  go_wp2_with fail
  refine (HS.out w1 hb1).mono ?_
  rintro e w2 ⟨rfl, hb2⟩
  have hcap : cs.length ≤ c := own_cap hown
  have Hb2 : Hid (Below w.heap.size w w2) := Lib.hid (hb1.trans (hb2.mono hb1.size))
  have Hb3 : Hid (Below w.heap.size w (w2.alloc (.cells #[.string ⟨#[88]⟩, .int .i64 l, .int .i64 sp, .int .i64 ac, .int .i64 br] 26))) := Lib.hid (Hb2.out.alloc Hb2.out.size _)
  have HX : Hid (BoxS (w2.alloc (.cells #[.string ⟨#[88]⟩, .int .i64 l, .int .i64 sp, .int .i64 ac, .int .i64 br] 26)) w2.heap.size ⟨#[88]⟩ l sp ac br) := Lib.hid (BoxS.new w2 ⟨#[88]⟩ l sp ac br 26)
  have HRC : Hid (RdC (w2.alloc (.cells #[.string ⟨#[88]⟩, .int .i64 l, .int .i64 sp, .int .i64 ac, .int .i64 br] 26)) A cs) := Lib.hid (((RdC.of_own hown rfl).below (B := 0) hb2).below (B := 0) ((Below.refl _ _).alloc (Nat.le_refl _) _))
  clear hown hb1 hb2 Hb2 HC HS
  obtain ⟨p, hp⟩ : ∃ p, p = w2.heap.size := ⟨_, rfl⟩
  rw [← hp] at HX
  go_wp2_with fail
  refine (check_any _ l sp ac br _).mono ?_
  rintro e w4 ⟨rfl, hb4⟩
  rw [Hchk.out]
  go_wp2
  go_ret
  exact ⟨rfl, Hb3.out.trans (hb4.mono Hb3.out.size)⟩

set_option maxHeartbeats 2000000 in
set_option maxRecDepth 100000 in
theorem DynamicsShorterRunIsAPart_long (a0 : Option Addr) (cap0 : Nat) (z0 : List Int) (a1 : Option Addr) (cap1 : Nat) (z1 : List Int) (a2 a3 : Int) (w : World)
    (cs : List (Int × Int)) (l : Nat) (sp ac br : Int) (hn1 : cs.length ≤ 56) (hl1 : 1 ≤ l) (hl2 : l ≤ 4) (k3 : 5000 ≤ sp) (k4 : sp ≤ 32500) (k5 : 200 ≤ ac) (k6 : ac ≤ 900) (k7 : 200 ≤ br) (k8 : br ≤ 900) (Hall : Hid (cs.all cellB = true))
    (HC : Hid (Calls Try.prog 13 #[.slice a0 z0.length cap0] w (RetCells w cs)))
    (HS : Hid (∀ w1, Below w.heap.size w w1 → Calls Try.prog 14 #[.slice a1 z1.length cap1] w1 fun e w' => e = .returned (.agg #[.string ⟨#[88]⟩, .int .i64 l, .int .i64 sp, .int .i64 ac, .int .i64 br]) ∧ Below w1.heap.size w1 w'))
    (hlt : 3 ≤ cs.length) :
    Calls Try.prog 7 #[.slice a0 z0.length cap0, .slice a1 z1.length cap1, .int .i64 a2, .int .i64 a3] w fun e w' => e = .returned (.bool true) ∧ Below w.heap.size w w' := by
  have hd2 : decide ((cs.length : Int) < 3) = false := by simp; omega
  obtain ⟨s, hs⟩ := Int.eq_ofNat_of_zero_le (pick_range a2 ((cs.length : Int) - 2) (by omega)).1
  have hs2 : s + 3 ≤ cs.length := by have := (pick_range a2 ((cs.length : Int) - 2) (by omega)).2; omega
  have Hs := Lib.hid hs
  obtain ⟨g, hg⟩ := Int.eq_ofNat_of_zero_le (pick_range a3 ((cs.length : Int) - s - 2) (by omega)).1
  have hg2 : s + 2 + g < cs.length := by have := (pick_range a3 ((cs.length : Int) - s - 2) (by omega)).2; omega
  have Hg := Lib.hid hg
  clear hs hg
  obtain ⟨n, Hn⟩ : ∃ n, Hid (s + 2 + g = n) := ⟨_, Lib.hid rfl⟩
  have hn1' : s + 2 ≤ n := by have := Hn.out; omega
  have hn2' : n < cs.length := by have := Hn.out; omega
  have hlen : (cs.take n).length = n := by simp; omega
  have Hall2 : Hid ((cs.take n).all cellB = true) := Lib.hid (List.all_eq_true.2 fun x hx => List.all_eq_true.1 Hall.out x (List.mem_of_mem_take hx))
  have Hok : Hid (badRun cs s l sp ac br = 0) := Lib.hid (ok_of Hall.out (by omega) (by omega) (by omega) (by omega) (by omega) (by omega) (by omega) (by omega) (by omega) (by omega))
  have Hok2 : Hid (badRun (cs.take n) s l sp ac br = 0) := Lib.hid (ok_of Hall2.out (by omega) (by omega) (by omega) (by omega) (by omega) (by omega) (by omega) (by omega) (by omega) (by omega))
  have HU : Hid (∀ j, j ≤ n - s → tim cs s l sp ac br j ≤ tim (cs.take n) s l sp ac br j) := Lib.hid (fun j hj => tim_take (l := l) (by omega) (show 1000 ≤ sp by omega) (by omega) (show 100 ≤ ac by omega) (by omega) (show 100 ≤ br by omega) (by omega) Hall.out hn1' j hj)
  go_enter Try.func7, Try.ntmps7
  go_wp2_with fail
  refine HC.out.mono ?_
  rintro e w1 ⟨A, c, rfl, hown, hb1⟩
  go_wp2_with fail
  refine (HS.out w1 hb1).mono ?_
  rintro e w2 ⟨rfl, hb2⟩
  have hcap : cs.length ≤ c := own_cap hown
  have Hb2 : Hid (Below w.heap.size w w2) := Lib.hid (hb1.trans (hb2.mono hb1.size))
  have Hb3 : Hid (Below w.heap.size w (w2.alloc (.cells #[.string ⟨#[88]⟩, .int .i64 l, .int .i64 sp, .int .i64 ac, .int .i64 br] 26))) := Lib.hid (Hb2.out.alloc Hb2.out.size _)
  have HX : Hid (BoxS (w2.alloc (.cells #[.string ⟨#[88]⟩, .int .i64 l, .int .i64 sp, .int .i64 ac, .int .i64 br] 26)) w2.heap.size ⟨#[88]⟩ l sp ac br) := Lib.hid (BoxS.new w2 ⟨#[88]⟩ l sp ac br 26)
  have HRC : Hid (RdC (w2.alloc (.cells #[.string ⟨#[88]⟩, .int .i64 l, .int .i64 sp, .int .i64 ac, .int .i64 br] 26)) A cs) := Lib.hid (((RdC.of_own hown rfl).below (B := 0) hb2).below (B := 0) ((Below.refl _ _).alloc (Nat.le_refl _) _))
  clear hown hb1 hb2 Hb2 HC HS
  obtain ⟨p, hp⟩ : ∃ p, p = w2.heap.size := ⟨_, rfl⟩
  rw [← hp] at HX
  go_wp2_with fail
  refine (pick_any a2 _ _ (by omega) (by omega)).mono ?_
  rintro e w' ⟨rfl, rfl⟩
  rw [Hs.out]
  rw [← hp]
  generalize w2.alloc (.cells #[.string ⟨#[88]⟩, .int .i64 l, .int .i64 sp, .int .i64 ac, .int .i64 br] 26) = W at *
  clear hp
  obtain ⟨hps, s0, s1, s2, s3, s4⟩ := HX.out
  obtain ⟨b, off, hA, -⟩ := HRC.out 0 (by omega)
  subst hA
  go_wp2_with fail
  refine (pick_any a3 _ _ (by omega) (by omega)).mono ?_
  rintro e w' ⟨rfl, rfl⟩
  rw [Hg.out]
  have e0 : IntKind.i64.wrap ((s : Int) + 2 + g) = (n : Int) := by rw [IntKind.wrap_i64]; have := Hn.out; omega
  obtain ⟨M, HM⟩ : ∃ M, Hid (cs.length - s + 1 = M) := ⟨_, Lib.hid rfl⟩
  obtain ⟨m, Hm⟩ : ∃ m, Hid (n - s + 1 = m) := ⟨_, Lib.hid rfl⟩
  have hM : M ≤ 57 := by have := HM.out; omega
  have hm3 : 3 ≤ m := by have := Hm.out; omega
  have hmM : m < M := by have := HM.out; have := Hm.out; omega
  have hmn : (m : Int) = (n : Int) - s + 1 := by have := Hm.out; omega
  go_wp2_with fail
  refine (times_ok (some ⟨b, off, none⟩) c cs s l _ sp ac br _ HRC.out hcap Hok.out).mono ?_
  rintro e W4 ⟨r, rfl, -, hrow, hb4⟩
  rw [HM.out] at hrow ⊢
  have HX4 := Lib.hid (HX.out.below hb4)
  have HR4 := Lib.hid (HRC.out.below (B := 0) hb4)
  have Hb4 := Lib.hid (Hb3.out.trans (hb4.mono Hb3.out.size))
  have Hrow := Lib.hid hrow
  clear hrow hb4 HX HRC Hb3 s0 s1 s2 s3 s4 hps
  obtain ⟨hps, s0, s1, s2, s3, s4⟩ := HX4.out
  go_wp2_with fail
  (refine wp_region_qq (fun w' => ∃ n, w' = World.drewN W4 n) 5 1 (by kernel_rfl) (by kernel_rfl) ⟨1, rfl⟩ ?_; simp only [List.take_succ_cons, List.take_zero, List.drop_succ_cons, List.drop_zero]; (repeat (go_big_quiet_step (fail))); refine wpQuiet_nil ?_; intro w' hw'; obtain ⟨nq, rfl⟩ := hw'; intro Kq hKq)
  go_wp2_with fail
  have HRd : Hid (RdC (W4.drewN nq) (some ⟨b, off, none⟩) cs) := HR4
  have Hrd : Hid ((W4.drewN nq).rowIs r 3 M (fun j => .int .i64 (tim cs s l sp ac br j))) := Hrow
  have Hbd : Hid (Below w.heap.size w (W4.drewN nq)) := Lib.hid (below_draws Hb4.out nq)
  clear Hrow HX4 HR4 Hb4 s0 s1 s2 s3 s4 hps
  generalize W4.drewN nq = W6 at *
  have hT := times_ok (some ⟨b, off, none⟩) c (cs.take n) s l ⟨#[88]⟩ sp ac br W6 (HRd.out.take n) (by omega) Hok2.out
  rw [hlen, Hm.out] at hT
  refine hT.mono ?_
  rintro e W5 ⟨r', rfl, -, hrow', hb5⟩
  clear hT
  have Hrt : Hid (W5.rowIs r 3 M (fun j => .int .i64 (tim cs s l sp ac br j))) := Lib.hid (Hrd.out.of_block (hb5.block _ Hrd.out.lt))
  have Hru : Hid (W5.rowIs r' 3 m (fun j => .int .i64 (tim (cs.take n) s l sp ac br j))) := Lib.hid hrow'
  have Hb5 := Lib.hid (Hbd.out.trans (hb5.mono Hbd.out.size))
  clear hb5 hrow' Hrd HRd Hbd hlen
  go_wp2
  ((repeat (go_big_quiet_step (fail))); refine wpQuiet_nil ?_; intro w' hw'; obtain ⟨nq2, rfl⟩ := hw')
  have Hrt : Hid ((W5.drewN nq2).rowIs r 3 M (fun j => .int .i64 (tim cs s l sp ac br j))) := Hrt
  have Hru : Hid ((W5.drewN nq2).rowIs r' 3 m (fun j => .int .i64 (tim (cs.take n) s l sp ac br j))) := Hru
  have Hb5 := Lib.hid (below_draws Hb5.out nq2)
  generalize W5.drewN nq2 = W5 at *
  have t1 : ((m : Int) != (n : Int) - s + 1) = false := by simp; omega
  go_wp2
  go_loopw [81] (fun bv wr => ∃ k : Nat, k ≤ m ∧ bv = .int .i64 k ∧ ∃ n, wr = W5.drewN n) (fun bv _ => m - (intOf bv).toNat)
  case atStart => exact ⟨0, by omega, rfl, 0, rfl⟩
  case round =>
    obtain ⟨k, hk2, rfl, nd, rfl⟩ := hrel
    by_cases hkM : k < m
    · obtain ⟨x, Hx⟩ : ∃ x, Hid (tim cs s l sp ac br k = x) := ⟨_, Lib.hid rfl⟩
      obtain ⟨y, Hy⟩ : ∃ y, Hid (tim (cs.take n) s l sp ac br k = y) := ⟨_, Lib.hid rfl⟩
      have vk : W5.cell? ⟨r, k, none⟩ = some (.int .i64 x) := by rw [← Hx.out]; exact Hrt.out.cell (i := k) (by omega)
      have vj : W5.cell? ⟨r', k, none⟩ = some (.int .i64 y) := by rw [← Hy.out]; exact Hru.out.cell (i := k) hkM
      have hxy : x ≤ y := by
        have := HU.out k (by have := Hm.out; omega)
        rw [Hx.out, Hy.out] at this
        exact this
      have w1 : decide (y < x) = false := by simp; omega
      go_wp2
      go_quiet (fail)
      rw [World.drewN_drewN]
      go_wp2
      go_roundw
      case rel => exact ⟨k + 1, by omega, by go_num, _, rfl⟩
      case measure => simp [intOf]; omega
    · go_wp2
      go_ret
      exact ⟨rfl, below_draws Hb5.out nd⟩
theorem W.DynamicsShorterRunIsAPart (a0 : Option Addr) (cap0 : Nat) (z0 : List Int) (a1 : Option Addr) (cap1 : Nat) (z1 : List Int) (a2 a3 : Int) (w : World) (r0 : RdI w a0 z0) (l0 : z0.length ≤ 9223372036854775807) (r1 : RdI w a1 z1) (l1 : z1.length ≤ 9223372036854775807) (w2 : (Lit.int .i64 a2).wf = true) (w3 : (Lit.int .i64 a3).wf = true) :
    Calls Try.prog 7 #[.slice a0 z0.length cap0, .slice a1 z1.length cap1, .int .i64 a2, .int .i64 a3] w fun e w' => e = .returned (.bool true) ∧ Below w.heap.size w w' := by
  obtain ⟨cs, l, sp, ac, br, hall, hn1, hn2, hl1, hl2, k3, k4, k5, k6, k7, k8, hC, hS⟩ := opening a0 cap0 z0 a1 cap1 z1 w r0 l0 r1 l1
  have Hall := Lib.hid hall
  have HC := Lib.hid hC
  have HS := Lib.hid hS
  clear hall hC hS r0 r1
  by_cases hlt : cs.length < 3
  · exact DynamicsShorterRunIsAPart_short a0 cap0 z0 a1 cap1 z1 a2 a3 w cs l sp ac br hn1 hl1 hl2 k3 k4 k5 k6 k7 k8 Hall HC HS hlt
  · exact DynamicsShorterRunIsAPart_long a0 cap0 z0 a1 cap1 z1 a2 a3 w cs l sp ac br hn1 hl1 hl2 k3 k4 k5 k6 k7 k8 Hall HC HS (by omega)
end Go.Proofs.Ytjmiddhdbimaaaa
