/- DynamicsLevelIsSymmetric returns true, whatever its arguments: on level track with one limit and equal rates the Speeds are the same in both directions. -/
import Derived.Test.YtjmiddhdbimaaaaOpening
import Derived.Test.YtjmiddhdbimaaaaPlainCells
import Derived.Test.YtjmiddhdbimaaaaLevelPlain
namespace Go.Proofs.Ytjmiddhdbimaaaa
open Go.RowKit
set_option linter.unusedVariables false

set_option maxHeartbeats 1000000 in
set_option maxRecDepth 100000 in
theorem W.DynamicsLevelIsSymmetric (a0 : Int) (a1 : Option Addr) (cap1 : Nat) (z1 : List Int) (w : World) (w0 : (Lit.int .i64 a0).wf = true) (r1 : RdI w a1 z1) (l1 : z1.length ≤ 9223372036854775807) :
    Calls Try.prog 4 #[.int .i64 a0, .slice a1 z1.length cap1] w fun e w' => e = .returned (.bool true) ∧ Below w.heap.size w w' := by
  obtain ⟨s1, s2, s3, s4⟩ := stock_ranges z1
  have HS := Lib.hid (stock_any a1 cap1 z1 w r1 l1)
  obtain ⟨l, hl⟩ := Int.eq_ofNat_of_zero_le (show 0 ≤ stLen z1 by omega)
  obtain ⟨g, hg⟩ := Int.eq_ofNat_of_zero_le (pick_range a0 60 (by omega)).1
  have hg2 := (pick_range a0 60 (by omega)).2
  rw [hg] at hg2
  have Hg := Lib.hid hg
  rw [hl] at HS s1
  generalize stSpeed z1 = sp at *
  generalize stAccel z1 = ac at *
  generalize stBrake z1 = br at *
  clear hl r1 hg w0
  obtain ⟨n, Hn⟩ : ∃ n, Hid (g + 2 = n) := ⟨_, Lib.hid rfl⟩
  have hn2 : 2 ≤ n := by have := Hn.out; omega
  have hn3 : n ≤ 61 := by have := Hn.out; omega
  obtain ⟨cs, Hcs⟩ : ∃ cs, Hid (List.replicate n ((30000, 0) : Int × Int) = cs) := ⟨_, Lib.hid rfl⟩
  have hlen : cs.length = n := by rw [← Hcs.out, List.length_replicate]
  have Hall : Hid (cs.all cellB = true) := Lib.hid (by rw [← Hcs.out, List.all_eq_true]; intro x hx; rw [List.eq_of_mem_replicate hx]; decide)
  have Hok : Hid (badRun cs ((0 : Nat) : Int) l sp ac ac = 0) := Lib.hid (ok_of Hall.out (by omega) (by omega) (by omega) (by omega) (by omega) (by omega) (by omega) (by omega) (by omega) (by omega))
  have Hpl : Hid (∀ w, Calls Try.prog 18 #[.int .i64 n] w (RetCells w cs)) := Lib.hid (fun w => by rw [← Hcs.out]; exact plain_any n w (by omega))
  have HU : Hid (∀ j, j ≤ n → spd cs 0 l sp ac ac j = spd cs 0 l sp ac ac (n - j)) := Lib.hid (fun j hj => by rw [← Hcs.out]; exact spd_level (by omega) (by omega) j hj)
  obtain ⟨u1, u2⟩ := spd_range (cs := cs) (start := 0) (l := l) (show 1000 ≤ sp by omega) (by omega) (show 100 ≤ ac by omega) (by omega) (show 100 ≤ ac by omega) (by omega) Hall.out 1
  have u3 := u2 (by omega) (by omega)
  obtain ⟨t1, Ht1⟩ : ∃ t1, Hid (spd cs 0 l sp ac ac 1 = t1) := ⟨_, Lib.hid rfl⟩
  rw [Ht1.out] at u1 u3
  clear u2
  go_enter Try.func4, Try.ntmps4
  go_wp2_with fail
  refine HS.out.mono ?_
  rintro e w1 ⟨rfl, hb1⟩
  have Hb2 : Hid (Below w.heap.size w (w1.alloc (.cells #[.string ⟨#[88]⟩, .int .i64 l, .int .i64 sp, .int .i64 ac, .int .i64 ac] 26))) := Lib.hid (hb1.alloc hb1.size _)
  have HX : Hid (BoxS (w1.alloc (.cells #[.string ⟨#[88]⟩, .int .i64 l, .int .i64 sp, .int .i64 ac, .int .i64 ac] 26)) w1.heap.size ⟨#[88]⟩ l sp ac ac) := Lib.hid (BoxS.new w1 ⟨#[88]⟩ l sp ac ac 26)
  obtain ⟨p, hp⟩ : ∃ p, p = w1.heap.size := ⟨_, rfl⟩
  rw [← hp] at HX
  clear hb1
  go_wp2_with fail
  refine (pick_any a0 60 _ (by omega) (by omega)).mono ?_
  rintro e w' ⟨rfl, rfl⟩
  rw [Hg.out, ← hp]
  generalize w1.alloc (.cells #[.string ⟨#[88]⟩, .int .i64 l, .int .i64 sp, .int .i64 ac, .int .i64 ac] 26) = W at *
  clear hp
  have e0 : IntKind.i64.wrap (2 + (g : Int)) = (n : Int) := by rw [IntKind.wrap_i64]; have := Hn.out; omega
  go_wp2_with fail
  refine (Hpl.out _).mono ?_
  rintro e W2 ⟨A, c, rfl, hown, hb3⟩
  have hcap : cs.length ≤ c := own_cap hown
  have HRC := Lib.hid (RdC.of_own hown rfl)
  have HX2 := Lib.hid (HX.out.below hb3)
  have Hb3 := Lib.hid (Hb2.out.trans (hb3.mono Hb2.out.size))
  clear hown hb3 HX Hb2
  obtain ⟨hps, c0, c1, c2, c3, c4⟩ := HX2.out
  rw [hlen]
  go_wp2_with fail
  have hT := speeds_ok A c cs 0 l ⟨#[88]⟩ sp ac ac W2 HRC.out hcap Hok.out
  rw [hlen, Nat.sub_zero] at hT
  refine hT.mono ?_
  rintro e W3 ⟨r, rfl, -, hrow, hb4⟩
  have Hrow : Hid (W3.rowIs r 3 (n + 1) (fun j => .int .i64 ((spd cs 0 l sp ac ac j : Nat) : Int))) := Lib.hid hrow
  have Hb5 := Lib.hid (Hb3.out.trans (hb4.mono Hb3.out.size))
  clear hT hrow hb4 HX2 HRC Hb3 hps c0 c1 c2 c3 c4
  have v1 : W3.cell? ⟨r, 1, none⟩ = some (.int .i64 (t1 : Int)) := by rw [← Ht1.out]; exact Hrow.out.cell (i := 1) (by omega)
  have e1 : (((n + 1 : Nat) : Int) != (n : Int) + 1) = false := by simp
  go_wp2
  go_loopw [37] (fun bv wr => ∃ k : Nat, k ≤ n + 1 ∧ bv = .int .i64 k ∧ ∃ n, wr = W3.drewN n) (fun bv _ => n + 1 - (intOf bv).toNat)
  case atStart => exact ⟨0, by omega, rfl, 0, rfl⟩
  case round =>
    obtain ⟨k, hk2, rfl, nd, rfl⟩ := hrel
    by_cases hkM : k < n + 1
    · obtain ⟨x, Hx⟩ : ∃ x, Hid (spd cs 0 l sp ac ac k = x) := ⟨_, Lib.hid rfl⟩
      obtain ⟨j, Hj⟩ : ∃ j, Hid (n - k = j) := ⟨_, Lib.hid rfl⟩
      have hj : j < n + 1 := by have := Hj.out; omega
      have vk : W3.cell? ⟨r, k, none⟩ = some (.int .i64 (x : Int)) := by rw [← Hx.out]; exact Hrow.out.cell (i := k) (by omega)
      have vj : W3.cell? ⟨r, j, none⟩ = some (.int .i64 (x : Int)) := by rw [← Hx.out, HU.out k (by omega), Hj.out]; exact Hrow.out.cell (i := j) hj
      have w1 : ((x : Int) != (x : Int)) = false := by simp
      have e3 : IntKind.i64.wrap (((n + 1 : Nat) : Int) - 1) = (n : Int) := by rw [IntKind.wrap_i64]; omega
      have e4 : IntKind.i64.wrap ((n : Int) - k) = (j : Int) := by rw [IntKind.wrap_i64]; have := Hj.out; omega
      go_wp2
      go_quiet (fail)
      rw [World.drewN_drewN]
      go_wp2
      go_roundw
      case rel => exact ⟨k + 1, by omega, by go_num, _, rfl⟩
      case measure => simp [intOf]; omega
    · go_wp2
      go_ret
      exact ⟨ret_bool (by simp; omega), below_draws Hb5.out nd⟩
end Go.Proofs.Ytjmiddhdbimaaaa
