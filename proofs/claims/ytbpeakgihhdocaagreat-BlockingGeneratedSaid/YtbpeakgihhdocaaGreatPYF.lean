/- What the claims use of their texts: RefSqrt, BrA, Dy3, Dy4, Dy5, Bl1, Kp5, La2, Bl2, Bl3, Bl5, Bl7, La3, Bl8, Bl9, Lz1, Fr. -/
import Derived.Test.YtbpeakgihhdocaaGreatPYE
set_option linter.unusedVariables false
set_option linter.unusedSimpArgs false
set_option maxRecDepth 4000
set_option maxHeartbeats 4000000
namespace Go.Proofs.YtbpeakgihhdocaaGreat
open Go.RowKit
theorem sq_bound (m : Nat) (h : m ≤ 3037000499) : m * m ≤ 9223372030926249001 := Nat.mul_le_mul h h
theorem refSqrt_any (n : Nat) (w : World) (hn : (n : Int) ≤ 9223372036854775807) :
  Calls Tryz.prog 46 #[.int .i64 n] w fun e w' => e = .returned (.int .i64 (Pl.isqrt n : Nat)) ∧ w = w' := by
 by_cases h0 : n = 0
 ·subst h0
  go_enter Tryz.func46, Tryz.ntmps46
  go_wp2
  go_ret
  exact ⟨rfl, rfl⟩
 ·have hd : decide ((n : Int) ≤ 0) = false := by simp; omega
  go_enter Tryz.func46, Tryz.ntmps46
  go_wp2
  clear hd
  go_loop [3, 4] (fun u v => ∃ lo hi : Nat, lo ≤ hi ∧ hi ≤ 3037000499 ∧ Hid (lo * lo ≤ n ∧ n < (hi + 1) * (hi + 1)) ∧ u = .int .i64 lo ∧ v = .int .i64 hi) (fun u v => (intOf v).toNat - (intOf u).toNat)
  case atStart => exact ⟨0, 3037000499, by omega, by omega, Lib.hid (by omega), rfl, rfl⟩
  case round =>
   obtain ⟨lo, hi, h1, h2, Hn, rfl, rfl⟩ := hrel
   by_cases hlt : lo < hi
   ·obtain ⟨m, Hm⟩ : ∃ m, Hid ((lo + hi + 1) / 2 = m) := ⟨_, Lib.hid rfl⟩
    have hm1 : lo < m := by have := Hm.out; omega
    have hm2 : m ≤ hi := by have := Hm.out; omega
    obtain ⟨q, Hq⟩ : ∃ q, Hid (m * m = q) := ⟨_, Lib.hid rfl⟩
    have hq : q ≤ 9223372030926249001 := by rw [← Hq.out]; exact sq_bound m (by omega)
    have hqi : (m : Int) * m = (q : Int) := by rw [← Hq.out]; simp
    have e1 : ((lo : Int) + hi + 1) / 2 = (m : Int) := by have := Hm.out; omega
    have e2 : IntKind.i64.wrap ((m : Int) * m) = (q : Int) := by rw [hqi, IntKind.wrap_i64]; omega
    have e3 : Int.tdiv ((lo : Int) + hi + 1) 2 = (m : Int) := by rw [Int.tdiv_eq_ediv_of_nonneg (by omega)]; exact e1
    by_cases hle : q ≤ n
    ·go_wp2
     go_round
     case rel => exact ⟨m, hi, hm2, h2, Lib.hid ⟨by rw [Hq.out]; exact hle, Hn.out.2⟩, rfl, rfl⟩
     case measure => simp [intOf]; omega
    ·have hd : decide ((q : Int) ≤ (n : Int)) = false := by simp; omega
     go_wp2
     go_round
     case rel => exact ⟨lo, m - 1, by omega, by omega, Lib.hid ⟨Hn.out.1, by rw [show m - 1 + 1 = m by omega, Hq.out]; omega⟩, rfl, by go_num⟩
     case measure => simp [intOf]; omega
   ·obtain rfl : lo = hi := by omega
    go_wp2
    go_ret
    exact ⟨ret_int (by rw [Pl.isqrt_unique n lo Hn.out.1 Hn.out.2]), rfl⟩
end Go.Proofs.YtbpeakgihhdocaaGreat
namespace Go.Proofs.YtbpeakgihhdocaaGreat.Av
open Go.RowKit
theorem two_arg {vals : Array Value} (h : vals.size = 2) : vals = #[vals[0], vals[1]] := by
 apply Array.ext
 ·simp [h]
 ·intro i h1 h2
  match i, h2 with
  | 0, _ => rfl
  | 1, _ => rfl
theorem refFloor_ok (a b : Int) (ha : -9223372036854775808 ≤ a ∧ a ≤ 9223372036854775807) (hb : 1 ≤ b ∧ b ≤ 9223372036854775807) : Ok Tryz.prog 11 [i64 a, i64 b] [] (i64 (HDiv.hDiv a b)) [] := by
 refine ok_old _ Tryz.func11 (by kernel_rfl) (by kernel_rfl) rfl rfl fun w κ ρ vals hv hr => ⟨_, plain_i, ?_⟩
 have hv : vals.size = 2 := hv
 have h0 : vals[0] = .int .i64 a := (repF_v.1 (hr 0 (by simp) (by omega) (.slot 0))).1
 have h1 : vals[1] = .int .i64 b := (repF_v.1 (hr 1 (by simp) (by omega) (.slot 0))).1
 rw [two_arg hv, h0, h1]
 exact (refFloor_any a b w ha.1 ha.2 hb.1 hb.2).mono fun e w' ⟨h1, h2⟩ => ⟨h1, by subst h2; exact Below.refl _ _⟩
theorem refFloor_okV (a b : Int) (ha : -9223372036854775808 ≤ a ∧ a ≤ 9223372036854775807) (hb : 1 ≤ b ∧ b ≤ 9223372036854775807) : OkV Tryz.prog 11 [.c (xI a), .c (xI b)] [] (vI (HDiv.hDiv a b)) [] := refFloor_ok a b ha hb
theorem refCeil_ok (a b : Int) (ha : -9223372036854775808 ≤ a ∧ a ≤ 9223372036854775807) (hb : 1 ≤ b ∧ b ≤ 9223372036854775807) : Ok Tryz.prog 23 [i64 a, i64 b] [] (i64 (Pl.cdiv a b)) [] := by
 refine ok_old _ Tryz.func23 (by kernel_rfl) (by kernel_rfl) rfl rfl fun w κ ρ vals hv hr => ⟨_, plain_i, ?_⟩
 have hv : vals.size = 2 := hv
 have h0 : vals[0] = .int .i64 a := (repF_v.1 (hr 0 (by simp) (by omega) (.slot 0))).1
 have h1 : vals[1] = .int .i64 b := (repF_v.1 (hr 1 (by simp) (by omega) (.slot 0))).1
 rw [two_arg hv, h0, h1]
 exact (refCeil_any a b w ha.1 ha.2 hb.1 hb.2).mono fun e w' ⟨h1, h2⟩ => ⟨h1, by subst h2; exact Below.refl _ _⟩
theorem refCeil_okV (a b : Int) (ha : -9223372036854775808 ≤ a ∧ a ≤ 9223372036854775807) (hb : 1 ≤ b ∧ b ≤ 9223372036854775807) : OkV Tryz.prog 23 [.c (xI a), .c (xI b)] [] (vI (Pl.cdiv a b)) [] := refCeil_ok a b ha hb
theorem floorDiv_ok (a b : Int) (ha : -9223372036854775808 ≤ a ∧ a ≤ 9223372036854775807) (hb : 1 ≤ b ∧ b ≤ 9223372036854775807) : Ok Tryz.prog 70 [i64 a, i64 b] [] (.tup [.c (.f (.v (.int .i64 (HDiv.hDiv a b)))), .c (.f (.v (.int .i64 0)))]) [] := by
 refine ok_old _ Tryz.func70 (by kernel_rfl) (by kernel_rfl) rfl rfl fun w κ ρ vals hv hr => ⟨_, plain_2 plain_i plain_i rfl rfl, ?_⟩
 have hv : vals.size = 2 := hv
 have h0 : vals[0] = .int .i64 a := (repF_v.1 (hr 0 (by simp) (by omega) (.slot 0))).1
 have h1 : vals[1] = .int .i64 b := (repF_v.1 (hr 1 (by simp) (by omega) (.slot 0))).1
 rw [two_arg hv, h0, h1]
 exact (floorDiv_any a b w ha.1 ha.2 hb.1 hb.2).mono fun e w' ⟨h1, h2⟩ => ⟨h1, by subst h2; exact Below.refl _ _⟩
theorem floorDiv_okV (a b : Int) (ha : -9223372036854775808 ≤ a ∧ a ≤ 9223372036854775807) (hb : 1 ≤ b ∧ b ≤ 9223372036854775807) : OkV Tryz.prog 70 [.c (xI a), .c (xI b)] [] (.tup [.c (xI (HDiv.hDiv a b)), .c (xI 0)]) [] := floorDiv_ok a b ha hb
theorem ceilDiv_ok (a b : Int) (ha : -9223372036854775808 ≤ a ∧ a ≤ 9223372036854775807) (hb : 1 ≤ b ∧ b ≤ 9223372036854775807) : Ok Tryz.prog 69 [i64 a, i64 b] [] (.tup [.c (.f (.v (.int .i64 (Pl.cdiv a b)))), .c (.f (.v (.int .i64 0)))]) [] := by
 refine ok_old _ Tryz.func69 (by kernel_rfl) (by kernel_rfl) rfl rfl fun w κ ρ vals hv hr => ⟨_, plain_2 plain_i plain_i rfl rfl, ?_⟩
 have hv : vals.size = 2 := hv
 have h0 : vals[0] = .int .i64 a := (repF_v.1 (hr 0 (by simp) (by omega) (.slot 0))).1
 have h1 : vals[1] = .int .i64 b := (repF_v.1 (hr 1 (by simp) (by omega) (.slot 0))).1
 rw [two_arg hv, h0, h1]
 exact (ceilDiv_any a b w ha.1 ha.2 hb.1 hb.2).mono fun e w' ⟨h1, h2⟩ => ⟨h1, by subst h2; exact Below.refl _ _⟩
theorem ceilDiv_okV (a b : Int) (ha : -9223372036854775808 ≤ a ∧ a ≤ 9223372036854775807) (hb : 1 ≤ b ∧ b ≤ 9223372036854775807) : OkV Tryz.prog 69 [.c (xI a), .c (xI b)] [] (.tup [.c (xI (Pl.cdiv a b)), .c (xI 0)]) [] := ceilDiv_ok a b ha hb
theorem sqrt_ok (a : Int) (ha : 0 ≤ a ∧ a ≤ 9223372036854775807) : Ok Tryz.prog 87 [i64 a] [] (i64 (Pl.isqrt a.toNat : Nat)) [] := by
 refine ok_old _ Tryz.func87 (by kernel_rfl) (by kernel_rfl) rfl rfl fun w κ ρ vals hv hr => ⟨_, plain_i, ?_⟩
 have hv : vals.size = 1 := hv
 have h0 : vals[0] = .int .i64 a := (repF_v.1 (hr 0 (by simp) (by omega) (.slot 0))).1
 rw [one_arg hv, h0]
 obtain ⟨m, rfl⟩ := Int.eq_ofNat_of_zero_le ha.1
 exact (sqrt_any m w ha.2).mono fun e w' ⟨h1, h2⟩ => ⟨h1, by subst h2; exact Below.refl _ _⟩
theorem sqrt_okV (a : Int) (ha : 0 ≤ a ∧ a ≤ 9223372036854775807) : OkV Tryz.prog 87 [.c (xI a)] [] (vI (Pl.isqrt a.toNat : Nat)) [] := sqrt_ok a ha
theorem refSqrt_ok (a : Int) (ha : 0 ≤ a ∧ a ≤ 9223372036854775807) : Ok Tryz.prog 46 [i64 a] [] (i64 (Pl.isqrt a.toNat : Nat)) [] := by
 refine ok_old _ Tryz.func46 (by kernel_rfl) (by kernel_rfl) rfl rfl fun w κ ρ vals hv hr => ⟨_, plain_i, ?_⟩
 have hv : vals.size = 1 := hv
 have h0 : vals[0] = .int .i64 a := (repF_v.1 (hr 0 (by simp) (by omega) (.slot 0))).1
 rw [one_arg hv, h0]
 obtain ⟨m, rfl⟩ := Int.eq_ofNat_of_zero_le ha.1
 exact (refSqrt_any m w ha.2).mono fun e w' ⟨h1, h2⟩ => ⟨h1, by subst h2; exact Below.refl _ _⟩
theorem refSqrt_okV (a : Int) (ha : 0 ≤ a ∧ a ≤ 9223372036854775807) : OkV Tryz.prog 46 [.c (xI a)] [] (vI (Pl.isqrt a.toNat : Nat)) [] := refSqrt_ok a ha
end Go.Proofs.YtbpeakgihhdocaaGreat.Av
namespace Go.Proofs.YtbpeakgihhdocaaGreat.Av
def speedL (cs : List (Int × Int)) (s : Int) (l sp ac br : Int) : List Int := if badRun cs s l sp ac br = 0 then row (cs.length - s.toNat + 1) (fun j => ((spd cs s.toNat l.toNat sp ac br j : Nat) : Int)) else []
def timeL (cs : List (Int × Int)) (s : Int) (l sp ac br : Int) : List Int := if badRun cs s l sp ac br = 0 then row (cs.length - s.toNat + 1) (tim cs s.toNat l.toNat sp ac br) else []
theorem speeds_ok (cs : List (Int × Int)) (start : Int) (nm : ByteArray) (l sp ac br : Int) (hl : cs.length ≤ 4611686018427387904) : OkV Tryz.prog 73 [.c (rCell cs), .c (xI start), vS5 nm l sp ac br] [] (.tup [.c (rInt (speedL cs start l sp ac br)), .c (xI (badRun cs start l sp ac br))]) [] := by
 have hC := checkRun_ok cs start nm l sp ac br hl
 unfold speedL
 by_cases h : badRun cs start l sp ac br = 0
 ·obtain ⟨hc, hn, hall, h0, h2⟩ := bad_zero h
  obtain ⟨l1, l2, l3, l4, l5, l6, l7, l8⟩ := chk_of hc
  obtain ⟨s, rfl⟩ := Int.eq_ofNat_of_zero_le h0
  have hS := squares_ok cs s nm l sp ac br h
  rw [h] at hC ⊢
  rw [if_pos rfl]
  simp only [Int.toNat_natCast]
  refine X_fnP mixedX Tryz.func73 rfl (by kernel_rfl) (Nat.le_of_ble_eq_true (by kernel_rfl)) (by kernel_rfl) rfl rfl ?_
  simp only [sl0, Nat.zero_add, Nat.reduceAdd]
  repeat' (first
   |with_reducible (first|refine q_and ?_ ?_|exact True.intro|exact TkEq.nil _|refine Red.o (by constructor) ?_|refine blockK_o' rfl ?_|refine LoopX_e' rfl ?_|assumption)
   |((with_reducible apply q_call);first|refine X_pure (hC) rfl ?_|refine X_call [] (hS) rfl rfl rfl rfl rfl rfl rfl rfl rfl rfl rfl rfl rfl ?_)
   |((with_reducible apply q_CI);intro hbq;(try simp only [bq] at hbq);(try (exfalso;omega)))
   |refine Rex.o (by (with_reducible constructor);apply Eq.refl) ?_
   |(intro (hgq : (_ : Bool) = true);(try simp only [bq] at hgq))
   |(intro (hgq : (_ : Bool) = false);(try simp only [bq] at hgq))
   |((with_reducible apply q_VOk);exact fun _ => ⟨rfl,rfl⟩)|(intro _;exact rfl)|((with_reducible apply q_CRB);kernel_rfl)|((with_reducible apply q_bt);simp only [bq])|((with_reducible apply q_eqN);rfl)|((with_reducible apply q_FE);exact rfl)|with_reducible (first|exact isByte_wrap _|exact isByte_nat _)|(simp only [hgq,bq];done)|omega|(dsimp only;omega))
  clear hC hS
  refine W_loopS (fun i : Nat => SS [sC 9 (.c (.arr 2 0 (cs.length - s + 1) (cs.length - s + 1))), sC 23 (.c (.arr 2 0 (cs.length - s + 1) (cs.length - s + 1))), sI 24 (cs.length - s + 1 : Nat), sI 25 i] [none, none, bInt (row (cs.length - s + 1) fun j => if j < i then ((spd cs s l.toNat sp ac br j : Nat) : Int) else sqW cs s l.toNat sp ac br j)]) (fun i => i ≤ cs.length - s + 1) (fun i => cs.length - s + 1 - i) 0 ?_ (by omega) ?_
  ·
   refine X_weak rfl rfl rfl ?_ ?_ <;> repeat' (first|with_reducible (first|refine Wk.o (by constructor) ?_|refine q_and ?_ ?_|exact True.intro)|refine q_AgS rfl ?_ ?_|exact CLe.nil_tipS|exact CLe.nil_rowS|refine HLe.cells ?_ ?_|refine HLe.els ?_ ?_|refine SLe.cons ?_ ?_|exact (rfl : known _ = _)|with_reducible rfl|omega)
   all_goals rfl
  intro i hi
  have a6 := row_len (cs.length - s + 1) fun j => if j < i then ((spd cs s l.toNat sp ac br j : Nat) : Int) else sqW cs s l.toNat sp ac br j
  have a4 := sqW_range (start := s) (l := l.toNat) l3 l4 l5 l6 l7 l8 hall i
  by_cases hil : i < cs.length - s + 1
  ·have a5 : (row (cs.length - s + 1) fun j => if j < i then ((spd cs s l.toNat sp ac br j : Nat) : Int) else sqW cs s l.toNat sp ac br j).getD (i : Int).toNat 0 = sqW cs s l.toNat sp ac br i := by
    rw [Int.toNat_natCast, row_get hil, if_neg (by omega)]
   have hQ := sqrt_okV ((row (cs.length - s + 1) fun j => if j < i then ((spd cs s l.toNat sp ac br j : Nat) : Int) else sqW cs s l.toNat sp ac br j).getD (i : Int).toNat 0) (by rw [a5]; omega)
   repeat' (first
    |with_reducible (first|refine q_and ?_ ?_|exact True.intro|exact TkEq.nil _|refine Red.o (by constructor) ?_|refine blockK_o' rfl ?_|refine LoopX_e' rfl ?_|assumption)
    |((with_reducible apply q_call);refine X_pure (hQ) rfl ?_)
    |((with_reducible apply q_CI);intro hbq;(try simp only [bq] at hbq);(try (exfalso;omega)))
    |refine Rex.o (by (with_reducible constructor);apply Eq.refl) ?_
    |(intro (hgq : (_ : Bool) = true);(try simp only [bq] at hgq))
    |(intro (hgq : (_ : Bool) = false);(try simp only [bq] at hgq))
    |((with_reducible apply q_VOk);exact fun _ => ⟨rfl,rfl⟩)|(intro _;exact rfl)|((with_reducible apply q_CRB);kernel_rfl)|((with_reducible apply q_bt);simp only [bq])|((with_reducible apply q_eqN);rfl)|((with_reducible apply q_FE);exact rfl)|with_reducible (first|exact isByte_wrap _|exact isByte_nat _)|(simp only [hgq,bq];done)|omega|(dsimp only;omega))
   ·rfl
   ·
    refine LoopK_n (i + 1) ?_ ((by omega)) (by (try dsimp only); omega)
    refine X_weak rfl rfl rfl ?_ ?_ <;> repeat' (first|with_reducible (first|refine Wk.o (by constructor) ?_|refine q_and ?_ ?_|exact True.intro)|refine q_AgS rfl ?_ ?_|exact CLe.nil_tipS|exact CLe.nil_rowS|refine HLe.cells ?_ ?_|refine HLe.els ?_ ?_|refine SLe.cons ?_ ?_|exact (rfl : known _ = _)|with_reducible rfl|omega)
    all_goals (
     rw [a5, Int.toNat_natCast]
     refine row_set (i := i) ?_ fun j hj hne => ?_
     ·rw [if_pos (by omega)]; rfl
     ·by_cases hji : j < i
      ·rw [if_pos hji, if_pos (by omega)]
      ·rw [if_neg hji, if_neg (by omega)])
  ·have hr : row (cs.length - s + 1) (fun j => if j < i then ((spd cs s l.toNat sp ac br j : Nat) : Int) else sqW cs s l.toNat sp ac br j) = row (cs.length - s + 1) fun j => ((spd cs s l.toNat sp ac br j : Nat) : Int) := row_ext fun j hj => if_pos (by omega)
   repeat' (first
    |with_reducible (first|refine q_and ?_ ?_|exact True.intro|exact TkEq.nil _|refine Red.o (by constructor) ?_|refine blockK_o' rfl ?_|refine LoopX_e' rfl ?_|assumption)
    |((with_reducible apply q_CI);intro hbq;(try simp only [bq] at hbq);(try (exfalso;omega)))
    |refine Rex.o (by (with_reducible constructor);apply Eq.refl) ?_
    |(intro (hgq : (_ : Bool) = true);(try simp only [bq] at hgq))
    |(intro (hgq : (_ : Bool) = false);(try simp only [bq] at hgq))
    |((with_reducible apply q_VOk);exact fun _ => ⟨rfl,rfl⟩)|(intro _;exact rfl)|((with_reducible apply q_CRB);kernel_rfl)|((with_reducible apply q_bt);simp only [bq])|((with_reducible apply q_eqN);rfl)|((with_reducible apply q_FE);exact rfl)|with_reducible (first|exact isByte_wrap _|exact isByte_nat _)|(simp only [hgq,bq];done)|omega|(dsimp only;omega))
   rw [hr]; rfl
 ·rw [if_neg h]
  refine X_fn mixedX Tryz.func73 rfl (by kernel_rfl) (Nat.le_of_ble_eq_true (by kernel_rfl)) (by kernel_rfl) rfl rfl (Nat.le_of_ble_eq_true rfl) rfl rfl ?_
  simp only [sl0, Nat.zero_add, Nat.reduceAdd]
  repeat' (first
   |with_reducible (first|refine q_and ?_ ?_|exact True.intro|exact TkEq.nil _|refine Red.o (by constructor) ?_|refine blockK_o' rfl ?_|refine LoopX_e' rfl ?_|assumption)
   |((with_reducible apply q_call);refine X_pure (hC) rfl ?_)
   |((with_reducible apply q_CI);intro hbq;(try simp only [bq] at hbq);(try (exfalso;omega)))
   |refine Rex.o (by (with_reducible constructor);apply Eq.refl) ?_
   |(intro (hgq : (_ : Bool) = true);(try simp only [bq] at hgq))
   |(intro (hgq : (_ : Bool) = false);(try simp only [bq] at hgq))
   |((with_reducible apply q_VOk);exact fun _ => ⟨rfl,rfl⟩)|(intro _;exact rfl)|((with_reducible apply q_CRB);kernel_rfl)|((with_reducible apply q_bt);simp only [bq])|((with_reducible apply q_eqN);rfl)|((with_reducible apply q_FE);exact rfl)|with_reducible (first|exact isByte_wrap _|exact isByte_nat _)|(simp only [hgq,bq];done)|omega|(dsimp only;omega))
  ·rfl
theorem times_ok (cs : List (Int × Int)) (start : Int) (nm : ByteArray) (l sp ac br : Int) (hl : cs.length ≤ 4611686018427387904) : OkV Tryz.prog 58 [.c (rCell cs), .c (xI start), vS5 nm l sp ac br] [] (.tup [.c (rInt (timeL cs start l sp ac br)), .c (xI (badRun cs start l sp ac br))]) [] := by
 have hC := speeds_ok cs start nm l sp ac br hl
 unfold timeL
 by_cases h : badRun cs start l sp ac br = 0
 ·obtain ⟨hc, hn, hall, h0, h2⟩ := bad_zero h
  obtain ⟨l1, l2, l3, l4, l5, l6, l7, l8⟩ := chk_of hc
  obtain ⟨s, rfl⟩ := Int.eq_ofNat_of_zero_le h0
  unfold speedL at hC
  rw [h, if_pos rfl] at hC
  rw [h, if_pos rfl]
  simp only [Int.toNat_natCast] at hC ⊢
  have b6 := row_len (cs.length - s + 1) fun j => ((spd cs s l.toNat sp ac br j : Nat) : Int)
  have b5 : ∀ j, j < cs.length - s + 1 → (row (cs.length - s + 1) fun j => ((spd cs s l.toNat sp ac br j : Nat) : Int)).getD j 0 = spd cs s l.toNat sp ac br j := fun j hj => row_get hj
  generalize (row (cs.length - s + 1) fun j => ((spd cs s l.toNat sp ac br j : Nat) : Int)) = vs at hC b6 b5
  refine X_fnP mixedX Tryz.func58 rfl (by kernel_rfl) (Nat.le_of_ble_eq_true (by kernel_rfl)) (by kernel_rfl) rfl rfl ?_
  simp only [sl0, Nat.zero_add, Nat.reduceAdd]
  repeat' (first
   |with_reducible (first|refine q_and ?_ ?_|exact True.intro|exact TkEq.nil _|refine Red.o (by constructor) ?_|refine blockK_o' rfl ?_|refine LoopX_e' rfl ?_|assumption)
   |((with_reducible apply q_call);refine X_pure (hC) rfl ?_)
   |((with_reducible apply q_CI);intro hbq;(try simp only [bq] at hbq);(try (exfalso;omega)))
   |refine Rex.o (by (with_reducible constructor);apply Eq.refl) ?_
   |(intro (hgq : (_ : Bool) = true);(try simp only [bq] at hgq))
   |(intro (hgq : (_ : Bool) = false);(try simp only [bq] at hgq))
   |((with_reducible apply q_VOk);exact fun _ => ⟨rfl,rfl⟩)|(intro _;exact rfl)|((with_reducible apply q_CRB);kernel_rfl)|((with_reducible apply q_bt);simp only [bq])|((with_reducible apply q_eqN);rfl)|((with_reducible apply q_FE);exact rfl)|with_reducible (first|exact isByte_wrap _|exact isByte_nat _)|(simp only [hgq,bq];done)|omega|(dsimp only;omega))
  clear hC
  refine W_loopS (fun i : Nat => SS [sC 8 (rInt vs), sC 10 (.c (.arr 1 0 (cs.length - s + 1) (cs.length - s + 1))), sI 11 (i + 1 : Nat)] [none, bInt (row (cs.length - s + 1) fun j => if j ≤ i then tim cs s l.toNat sp ac br j else 0)]) (fun i => i ≤ cs.length - s) (fun i => cs.length - s - i) 0 ?_ (by omega) ?_
  ·
   refine X_weak rfl rfl rfl ?_ ?_ <;> repeat' (first|with_reducible (first|refine Wk.o (by constructor) ?_|refine q_and ?_ ?_|exact True.intro)|refine q_AgS rfl ?_ ?_|exact CLe.nil_tipS|exact CLe.nil_rowS|refine HLe.cells ?_ ?_|refine HLe.els ?_ ?_|refine SLe.cons ?_ ?_|exact (rfl : known _ = _)|with_reducible rfl|omega)
   all_goals first
    | (rw [b6]; rfl)
    | (
     rw [b6, Int.toNat_natCast, row_zero]
     refine row_ext fun j hj => ?_
     by_cases hj0 : j ≤ 0
     ·rw [if_pos hj0, show j = 0 by omega]; rfl
     ·rw [if_neg hj0])
  intro i hi
  have a6 := row_len (cs.length - s + 1) fun j => if j ≤ i then tim cs s l.toNat sp ac br j else 0
  by_cases hil : i < cs.length - s
  ·have e1 : (((i + 1 : Nat) : Int) - 1).toNat = i := by omega
   have e2 : ((i + 1 : Nat) : Int).toNat = i + 1 := by omega
   have a5 : (row (cs.length - s + 1) fun j => if j ≤ i then tim cs s l.toNat sp ac br j else 0).getD (((i + 1 : Nat) : Int) - 1).toNat 0 = tim cs s l.toNat sp ac br i := by
    rw [e1, row_get (by omega), if_pos (Nat.le_refl _)]
   have a4 := tim_range (start := s) (l := l.toNat) l3 l4 l5 l6 l7 l8 hall (by omega) i (by omega)
   have a7 := spd_sum (start := s) (l := l.toNat) l3 l4 l5 l6 l7 l8 hall (by omega) i hil
   have a8 := step_range (start := s) (l := l.toNat) l3 l4 l5 l6 l7 l8 hall (by omega) i hil
   have c1 := b5 i (by omega)
   have c2 := b5 (i + 1) (by omega)
   have c3 : vs.getD (((i + 1 : Nat) : Int) - 1).toNat 0 = spd cs s l.toNat sp ac br i := by rw [e1, c1]
   have c4 : vs.getD ((i + 1 : Nat) : Int).toNat 0 = spd cs s l.toNat sp ac br (i + 1) := by rw [e2, c2]
   have c5 : Pl.cdiv 20000000 (vs.getD (((i + 1 : Nat) : Int) - 1).toNat 0 + vs.getD ((i + 1 : Nat) : Int).toNat 0) = Pl.cdiv 20000000 ((spd cs s l.toNat sp ac br i : Int) + spd cs s l.toNat sp ac br (i + 1)) := by rw [c3, c4]
   rw [← c5] at a8
   have hQ := ceilDiv_okV 20000000 (vs.getD (((i + 1 : Nat) : Int) - 1).toNat 0 + vs.getD ((i + 1 : Nat) : Int).toNat 0) (by omega) (by rw [c3, c4]; omega)
   repeat' (first
    |with_reducible (first|refine q_and ?_ ?_|exact True.intro|exact TkEq.nil _|refine Red.o (by constructor) ?_|refine blockK_o' rfl ?_|refine LoopX_e' rfl ?_|assumption)
    |((with_reducible apply q_call);refine X_pure (hQ) rfl ?_)
    |((with_reducible apply q_CI);intro hbq;(try simp only [bq] at hbq);(try (exfalso;omega)))
    |refine Rex.o (by (with_reducible constructor);apply Eq.refl) ?_
    |(intro (hgq : (_ : Bool) = true);(try simp only [bq] at hgq))
    |(intro (hgq : (_ : Bool) = false);(try simp only [bq] at hgq))
    |((with_reducible apply q_VOk);exact fun _ => ⟨rfl,rfl⟩)|(intro _;exact rfl)|((with_reducible apply q_CRB);kernel_rfl)|((with_reducible apply q_bt);simp only [bq])|((with_reducible apply q_eqN);rfl)|((with_reducible apply q_FE);exact rfl)|with_reducible (first|exact isByte_wrap _|exact isByte_nat _)|(simp only [hgq,bq];done)|omega|(dsimp only;omega))
   ·rfl
   ·
    refine LoopK_n (i + 1) ?_ ((by omega)) (by (try dsimp only); omega)
    refine X_weak rfl rfl rfl ?_ ?_ <;> repeat' (first|with_reducible (first|refine Wk.o (by constructor) ?_|refine q_and ?_ ?_|exact True.intro)|refine q_AgS rfl ?_ ?_|exact CLe.nil_tipS|exact CLe.nil_rowS|refine HLe.cells ?_ ?_|refine HLe.els ?_ ?_|refine SLe.cons ?_ ?_|exact (rfl : known _ = _)|with_reducible rfl|omega)
    all_goals (
     rw [a5, c5, e2]
     refine row_set (i := i + 1) ?_ fun j hj hne => ?_
     ·rw [if_pos (by omega)]; rfl
     ·by_cases hji : j ≤ i
      ·rw [if_pos hji, if_pos (by omega)]
      ·rw [if_neg hji, if_neg (by omega)])
  ·have hr : row (cs.length - s + 1) (fun j => if j ≤ i then tim cs s l.toNat sp ac br j else 0) = row (cs.length - s + 1) (tim cs s l.toNat sp ac br) := row_ext fun j hj => if_pos (by omega)
   repeat' (first
    |with_reducible (first|refine q_and ?_ ?_|exact True.intro|exact TkEq.nil _|refine Red.o (by constructor) ?_|refine blockK_o' rfl ?_|refine LoopX_e' rfl ?_|assumption)
    |((with_reducible apply q_CI);intro hbq;(try simp only [bq] at hbq);(try (exfalso;omega)))
    |refine Rex.o (by (with_reducible constructor);apply Eq.refl) ?_
    |(intro (hgq : (_ : Bool) = true);(try simp only [bq] at hgq))
    |(intro (hgq : (_ : Bool) = false);(try simp only [bq] at hgq))
    |((with_reducible apply q_VOk);exact fun _ => ⟨rfl,rfl⟩)|(intro _;exact rfl)|((with_reducible apply q_CRB);kernel_rfl)|((with_reducible apply q_bt);simp only [bq])|((with_reducible apply q_eqN);rfl)|((with_reducible apply q_FE);exact rfl)|with_reducible (first|exact isByte_wrap _|exact isByte_nat _)|(simp only [hgq,bq];done)|omega|(dsimp only;omega))
   rw [hr]; rfl
 ·unfold speedL at hC
  rw [if_neg h] at hC ⊢
  refine X_fn mixedX Tryz.func58 rfl (by kernel_rfl) (Nat.le_of_ble_eq_true (by kernel_rfl)) (by kernel_rfl) rfl rfl (Nat.le_of_ble_eq_true rfl) rfl rfl ?_
  simp only [sl0, Nat.zero_add, Nat.reduceAdd]
  repeat' (first
   |with_reducible (first|refine q_and ?_ ?_|exact True.intro|exact TkEq.nil _|refine Red.o (by constructor) ?_|refine blockK_o' rfl ?_|refine LoopX_e' rfl ?_|assumption)
   |((with_reducible apply q_call);refine X_pure (hC) rfl ?_)
   |((with_reducible apply q_CI);intro hbq;(try simp only [bq] at hbq);(try (exfalso;omega)))
   |refine Rex.o (by (with_reducible constructor);apply Eq.refl) ?_
   |(intro (hgq : (_ : Bool) = true);(try simp only [bq] at hgq))
   |(intro (hgq : (_ : Bool) = false);(try simp only [bq] at hgq))
   |((with_reducible apply q_VOk);exact fun _ => ⟨rfl,rfl⟩)|(intro _;exact rfl)|((with_reducible apply q_CRB);kernel_rfl)|((with_reducible apply q_bt);simp only [bq])|((with_reducible apply q_eqN);rfl)|((with_reducible apply q_FE);exact rfl)|with_reducible (first|exact isByte_wrap _|exact isByte_nat _)|(simp only [hgq,bq];done)|omega|(dsimp only;omega))
  ·rfl
theorem inR_ok (n lo hi : Int) : OkV Tryz.prog 40 [.c (xI n), .c (xI lo), .c (xI hi)] [] (vB (decide (lo ≤ n) && decide (n ≤ hi))) [] := by
 refine X_fn mixedX Tryz.func40 rfl (by kernel_rfl) (Nat.le_of_ble_eq_true (by kernel_rfl)) (by kernel_rfl) rfl rfl (Nat.le_of_ble_eq_true rfl) rfl rfl ?_
 simp only [sl0, Nat.zero_add, Nat.reduceAdd]
 repeat' (first
  |with_reducible (first|refine q_and ?_ ?_|exact True.intro|exact TkEq.nil _|refine Red.o (by constructor) ?_|refine blockK_o' rfl ?_|refine LoopX_e' rfl ?_|assumption)
  |((with_reducible apply q_CI);intro hbq;(try simp only [bq] at hbq);(try (exfalso;omega)))
  |refine Rex.o (by (with_reducible constructor);apply Eq.refl) ?_
  |(intro (hgq : (_ : Bool) = true);(try simp only [bq] at hgq))
  |(intro (hgq : (_ : Bool) = false);(try simp only [bq] at hgq))
  |((with_reducible apply q_VOk);exact fun _ => ⟨rfl,rfl⟩)|(intro _;exact rfl)|((with_reducible apply q_CRB);kernel_rfl)|((with_reducible apply q_bt);simp only [bq])|((with_reducible apply q_eqN);rfl)|((with_reducible apply q_FE);exact rfl)|with_reducible (first|exact isByte_wrap _|exact isByte_nat _)|(simp only [hgq,bq];done)|omega|(dsimp only;omega))
 repeat' (first|with_reducible (first|refine Wk.o (by constructor) ?_|refine q_and ?_ ?_|exact True.intro)|refine VEq.c ?_|refine VEq.agg ?_|refine VEq.tup ?_|refine TkEq.cells ?_ ?_|refine TkEq.els ?_ ?_|refine SEqL.cons ?_ ?_|refine TEqL.agg ?_ ?_|refine CEq.rows ?_|refine CEq.int ?_|rfl|omega)
theorem chk_b4 (l sp ac br : Int) : chkB l sp ac br = ((decide (1 ≤ l) && decide (l ≤ 40)) && (decide (1000 ≤ sp) && decide (sp ≤ 100000)) && (decide (100 ≤ ac) && decide (ac ≤ 2000)) && (decide (100 ≤ br) && decide (br ≤ 2000))) := by
 rw [Bool.eq_iff_iff]
 simp [chkB, and_assoc]
theorem chkStock_ok (nm : ByteArray) (l sp ac br : Int) : OkV Tryz.prog 36 [vS5 nm l sp ac br] [] (vB (chkB l sp ac br)) [] := by
 have h1 := inR_ok l 1 40
 have h2 := inR_ok sp 1000 100000
 have h3 := inR_ok ac 100 2000
 have h4 := inR_ok br 100 2000
 rw [chk_b4]
 refine X_fn mixedX Tryz.func36 rfl (by kernel_rfl) (Nat.le_of_ble_eq_true (by kernel_rfl)) (by kernel_rfl) rfl rfl (Nat.le_of_ble_eq_true rfl) rfl rfl ?_
 simp only [sl0, Nat.zero_add, Nat.reduceAdd]
 repeat' (first
  |with_reducible (first|refine q_and ?_ ?_|exact True.intro|exact TkEq.nil _|refine Red.o (by constructor) ?_|refine blockK_o' rfl ?_|refine LoopX_e' rfl ?_|assumption)
  |((with_reducible apply q_call);refine X_pure (h1) rfl ?_)
  |((with_reducible apply q_callG);refine X_pureG ((fun _ => h2)) rfl ?_ ?_)
  |((with_reducible apply q_callG);refine X_pureG ((fun _ => h3)) rfl ?_ ?_)
  |((with_reducible apply q_callG);refine X_pureG ((fun _ => h4)) rfl ?_ ?_)
  |((with_reducible apply q_CI);intro hbq;(try simp only [bq] at hbq);(try (exfalso;omega)))
  |refine Rex.o (by (with_reducible constructor);apply Eq.refl) ?_
  |(intro (hgq : (_ : Bool) = true);(try simp only [bq] at hgq))
  |(intro (hgq : (_ : Bool) = false);(try simp only [bq] at hgq))
  |((with_reducible apply q_VOk);exact fun _ => ⟨rfl,rfl⟩)|(intro _;exact rfl)|((with_reducible apply q_CRB);kernel_rfl)|((with_reducible apply q_bt);simp only [bq])|((with_reducible apply q_eqN);rfl)|((with_reducible apply q_FE);exact rfl)|with_reducible (first|exact isByte_wrap _|exact isByte_nat _)|(simp only [hgq,bq];done)|omega|(dsimp only;omega))
 repeat' (first|with_reducible (first|refine Wk.o (by constructor) ?_|refine q_and ?_ ?_|exact True.intro)|refine VEq.c ?_|refine VEq.agg ?_|refine VEq.tup ?_|refine TkEq.cells ?_ ?_|refine TkEq.els ?_ ?_|refine SEqL.cons ?_ ?_|refine TEqL.agg ?_ ?_|refine CEq.rows ?_|refine CEq.int ?_|rfl|omega)
theorem refBad_ok (cs : List (Int × Int)) (start : Int) (nm : ByteArray) (l sp ac br : Int) (hl : cs.length ≤ 4611686018427387904) : OkV Tryz.prog 42 [.c (rCell cs), .c (xI start), vS5 nm l sp ac br] [] (vI (badRun cs start l sp ac br)) [] := by
 have hC := chkStock_ok nm l sp ac br
 refine X_fn mixedX Tryz.func42 rfl (by kernel_rfl) (Nat.le_of_ble_eq_true (by kernel_rfl)) (by kernel_rfl) rfl rfl (Nat.le_of_ble_eq_true rfl) rfl rfl ?_
 simp only [sl0, Nat.zero_add, Nat.reduceAdd]
 repeat' (first
  |with_reducible (first|refine q_and ?_ ?_|exact True.intro|exact TkEq.nil _|refine Red.o (by constructor) ?_|refine blockK_o' rfl ?_|refine LoopX_e' rfl ?_|assumption)
  |((with_reducible apply q_call);refine X_pure (hC) rfl ?_)
  |((with_reducible apply q_CI);intro hbq;(try simp only [bq] at hbq);(try (exfalso;omega)))
  |refine Rex.o (by (with_reducible constructor);apply Eq.refl) ?_
  |(intro (hgq : (_ : Bool) = true);(try simp only [bq] at hgq))
  |(intro (hgq : (_ : Bool) = false);(try simp only [bq] at hgq))
  |((with_reducible apply q_VOk);exact fun _ => ⟨rfl,rfl⟩)|(intro _;exact rfl)|((with_reducible apply q_CRB);kernel_rfl)|((with_reducible apply q_bt);simp only [bq])|((with_reducible apply q_eqN);rfl)|((with_reducible apply q_FE);exact rfl)|with_reducible (first|exact isByte_wrap _|exact isByte_nat _)|(simp only [hgq,bq];done)|omega|(dsimp only;omega))
 ·rw [bad_1 (by simpa using hbq)]; rfl
 ·rename_i a1
  rw [bad_7 (by simpa using a1) (by omega)]; rfl
 rename_i a1
 clear hC
 have b1 : chkB l sp ac br = true := by simpa using a1
 have b2 : ¬ 4000 < cs.length := by omega
 refine W_loopS (fun i : Nat => SS [sC 0 (rCell cs), sI 1 start, sI 7 i] []) (fun i => i ≤ cs.length ∧ ∀ j, j < i → cellB (cs.getD j (0, 0)) = true) (fun i => cs.length - i) 0 ?_ ⟨by omega, fun j hj => by omega⟩ ?_
 ·
  refine X_weak rfl rfl rfl ?_ ?_ <;> repeat' (first|with_reducible (first|refine Wk.o (by constructor) ?_|refine q_and ?_ ?_|exact True.intro)|refine q_AgS rfl ?_ ?_|exact CLe.nil_tipS|exact CLe.nil_rowS|refine HLe.cells ?_ ?_|refine HLe.els ?_ ?_|refine SLe.cons ?_ ?_|exact (rfl : known _ = _)|with_reducible rfl|omega)
 intro i hi
 obtain ⟨hi, hok⟩ := hi
 have h1 := inR_ok (cs.getD (i : Int).toNat (0, 0)).1 1000 100000
 have h2 := inR_ok (cs.getD (i : Int).toNat (0, 0)).2 (-40) 40
 repeat' (first
  |with_reducible (first|refine q_and ?_ ?_|exact True.intro|exact TkEq.nil _|refine Red.o (by constructor) ?_|refine blockK_o' rfl ?_|refine LoopX_e' rfl ?_|assumption)
  |((with_reducible apply q_call);refine X_pure (h1) rfl ?_)
  |((with_reducible apply q_callG);refine X_pureG ((fun _ => h2)) rfl ?_ ?_)
  |((with_reducible apply q_CI);intro hbq;(try simp only [bq] at hbq);(try (exfalso;omega)))
  |refine Rex.o (by (with_reducible constructor);apply Eq.refl) ?_
  |(intro (hgq : (_ : Bool) = true);(try simp only [bq] at hgq))
  |(intro (hgq : (_ : Bool) = false);(try simp only [bq] at hgq))
  |((with_reducible apply q_VOk);exact fun _ => ⟨rfl,rfl⟩)|(intro _;exact rfl)|((with_reducible apply q_CRB);kernel_rfl)|((with_reducible apply q_bt);simp only [bq])|((with_reducible apply q_eqN);rfl)|((with_reducible apply q_FE);exact rfl)|with_reducible (first|exact isByte_wrap _|exact isByte_nat _)|(simp only [hgq,bq];done)|omega|(dsimp only;omega))
 ·have hb : cellB (cs.getD (i : Int).toNat (0, 0)) = false := by unfold cellB; rw [decide_eq_false_iff_not]; omega
  rw [bad_4 b1 b2 (cells_no (i := i) (by omega) hb)]; rfl
 ·have hb : cellB (cs.getD (i : Int).toNat (0, 0)) = true := by unfold cellB; rw [decide_eq_true_eq]; omega
  refine LoopK_n (i + 1) ?_ (⟨by omega, uptoS hok hb⟩) (by (try dsimp only); omega)
  refine X_weak rfl rfl rfl ?_ ?_ <;> repeat' (first|with_reducible (first|refine Wk.o (by constructor) ?_|refine q_and ?_ ?_|exact True.intro)|refine q_AgS rfl ?_ ?_|exact CLe.nil_tipS|exact CLe.nil_rowS|refine HLe.cells ?_ ?_|refine HLe.els ?_ ?_|refine SLe.cons ?_ ?_|exact (rfl : known _ = _)|with_reducible rfl|omega)
 ·have hie : i = cs.length := by omega
  subst hie
  rw [bad_4s b1 b2 (cells_yes hok) (by omega)]; rfl
 ·have hie : i = cs.length := by omega
  subst hie
  rw [bad_0 b1 b2 (cells_yes hok) (by omega)]; rfl
theorem refLimit_ok (cs : List (Int × Int)) (k : Nat) (nm : ByteArray) (l sp ac br : Int) (hk : k < cs.length) (hl : cs.length ≤ 4000) (h0 : 0 ≤ l) (h1 : l ≤ 40) : OkV Tryz.prog 43 [.c (rCell cs), .c (xI k), vS5 nm l sp ac br] [] (vI (limitOf cs k l.toNat sp)) [] := by
 refine X_fn mixedX Tryz.func43 rfl (by kernel_rfl) (Nat.le_of_ble_eq_true (by kernel_rfl)) (by kernel_rfl) rfl rfl (Nat.le_of_ble_eq_true rfl) rfl rfl ?_
 simp only [sl0, Nat.zero_add, Nat.reduceAdd]
 repeat' (first
  |with_reducible (first|refine q_and ?_ ?_|exact True.intro|exact TkEq.nil _|refine Red.o (by constructor) ?_|refine blockK_o' rfl ?_|refine LoopX_e' rfl ?_|assumption)
  |((with_reducible apply q_CI);intro hbq;(try simp only [bq] at hbq);(try (exfalso;omega)))
  |refine Rex.o (by (with_reducible constructor);apply Eq.refl) ?_
  |(intro (hgq : (_ : Bool) = true);(try simp only [bq] at hgq))
  |(intro (hgq : (_ : Bool) = false);(try simp only [bq] at hgq))
  |((with_reducible apply q_VOk);exact fun _ => ⟨rfl,rfl⟩)|(intro _;exact rfl)|((with_reducible apply q_CRB);kernel_rfl)|((with_reducible apply q_bt);simp only [bq])|((with_reducible apply q_eqN);rfl)|((with_reducible apply q_FE);exact rfl)|with_reducible (first|exact isByte_wrap _|exact isByte_nat _)|(simp only [hgq,bq];done)|omega|(dsimp only;omega))
 generalize hlo : k - l.toNat = lo
 have elo : max 0 ((k : Int) - l) = lo := by omega
 refine W_loopS (fun i : Nat => SS [sC 0 (rCell cs), sI 1 k, sI 7 (limTo cs lo i sp), sI 8 (lo + i : Nat)] []) (fun i => lo + i ≤ k + 1) (fun i => k + 1 - i) 0 ?_ (by omega) ?_
 ·
  refine X_weak rfl rfl rfl ?_ ?_ <;> repeat' (first|with_reducible (first|refine Wk.o (by constructor) ?_|refine q_and ?_ ?_|exact True.intro)|refine q_AgS rfl ?_ ?_|exact CLe.nil_tipS|exact CLe.nil_rowS|refine HLe.cells ?_ ?_|refine HLe.els ?_ ?_|refine SLe.cons ?_ ?_|exact (rfl : known _ = _)|with_reducible rfl|omega)
  all_goals rw [limTo_zero]
 intro i hi
 repeat' (first
  |with_reducible (first|refine q_and ?_ ?_|exact True.intro|exact TkEq.nil _|refine Red.o (by constructor) ?_|refine blockK_o' rfl ?_|refine LoopX_e' rfl ?_|assumption)
  |((with_reducible apply q_CI);intro hbq;(try simp only [bq] at hbq);(try (exfalso;omega)))
  |refine Rex.o (by (with_reducible constructor);apply Eq.refl) ?_
  |(intro (hgq : (_ : Bool) = true);(try simp only [bq] at hgq))
  |(intro (hgq : (_ : Bool) = false);(try simp only [bq] at hgq))
  |((with_reducible apply q_VOk);exact fun _ => ⟨rfl,rfl⟩)|(intro _;exact rfl)|((with_reducible apply q_CRB);kernel_rfl)|((with_reducible apply q_bt);simp only [bq])|((with_reducible apply q_eqN);rfl)|((with_reducible apply q_FE);exact rfl)|with_reducible (first|exact isByte_wrap _|exact isByte_nat _)|(simp only [hgq,bq];done)|omega|(dsimp only;omega))
 ·
  refine LoopK_n (i + 1) ?_ ((by omega)) (by (try dsimp only); omega)
  refine X_weak rfl rfl rfl ?_ ?_ <;> repeat' (first|with_reducible (first|refine Wk.o (by constructor) ?_|refine q_and ?_ ?_|exact True.intro)|refine q_AgS rfl ?_ ?_|exact CLe.nil_tipS|exact CLe.nil_rowS|refine HLe.cells ?_ ?_|refine HLe.els ?_ ?_|refine SLe.cons ?_ ?_|exact (rfl : known _ = _)|with_reducible rfl|omega)
  all_goals (rw [limTo_succ _ _ _ _ (by omega), Int.toNat_natCast, getD_at _ _ (by omega)])
 ·have hie : i = k + 1 - lo := by omega
  subst hie
  rw [← hlo, limTo_all]; rfl
theorem accel_ok (c : Int × Int) (nm : ByteArray) (l sp ac br : Int) (h0 : -40 ≤ c.2 ∧ c.2 ≤ 40) (h5 : 100 ≤ ac) (h6 : ac ≤ 2000) : OkV Tryz.prog 44 [vCe c, vS5 nm l sp ac br] [] (vI (rate c.2 ac)) [] := by
 unfold rate
 refine X_fn mixedX Tryz.func44 rfl (by kernel_rfl) (Nat.le_of_ble_eq_true (by kernel_rfl)) (by kernel_rfl) rfl rfl (Nat.le_of_ble_eq_true rfl) rfl rfl ?_
 simp only [sl0, Nat.zero_add, Nat.reduceAdd]
 repeat' (first
  |with_reducible (first|refine q_and ?_ ?_|exact True.intro|exact TkEq.nil _|refine Red.o (by constructor) ?_|refine blockK_o' rfl ?_|refine LoopX_e' rfl ?_|assumption)
  |((with_reducible apply q_CI);intro hbq;(try simp only [bq] at hbq);(try (exfalso;omega)))
  |refine Rex.o (by (with_reducible constructor);apply Eq.refl) ?_
  |(intro (hgq : (_ : Bool) = true);(try simp only [bq] at hgq))
  |(intro (hgq : (_ : Bool) = false);(try simp only [bq] at hgq))
  |((with_reducible apply q_VOk);exact fun _ => ⟨rfl,rfl⟩)|(intro _;exact rfl)|((with_reducible apply q_CRB);kernel_rfl)|((with_reducible apply q_bt);simp only [bq])|((with_reducible apply q_eqN);rfl)|((with_reducible apply q_FE);exact rfl)|with_reducible (first|exact isByte_wrap _|exact isByte_nat _)|(simp only [hgq,bq];done)|omega|(dsimp only;omega))
 ·rw [if_pos (by omega)]; rfl
 ·rw [if_neg (by omega)]; rfl
theorem brake_ok (c : Int × Int) (nm : ByteArray) (l sp ac br : Int) (h0 : -40 ≤ c.2 ∧ c.2 ≤ 40) (h5 : 100 ≤ br) (h6 : br ≤ 2000) : OkV Tryz.prog 45 [vCe c, vS5 nm l sp ac br] [] (vI (rateB c.2 br)) [] := by
 unfold rateB
 refine X_fn mixedX Tryz.func45 rfl (by kernel_rfl) (Nat.le_of_ble_eq_true (by kernel_rfl)) (by kernel_rfl) rfl rfl (Nat.le_of_ble_eq_true rfl) rfl rfl ?_
 simp only [sl0, Nat.zero_add, Nat.reduceAdd]
 repeat' (first
  |with_reducible (first|refine q_and ?_ ?_|exact True.intro|exact TkEq.nil _|refine Red.o (by constructor) ?_|refine blockK_o' rfl ?_|refine LoopX_e' rfl ?_|assumption)
  |((with_reducible apply q_CI);intro hbq;(try simp only [bq] at hbq);(try (exfalso;omega)))
  |refine Rex.o (by (with_reducible constructor);apply Eq.refl) ?_
  |(intro (hgq : (_ : Bool) = true);(try simp only [bq] at hgq))
  |(intro (hgq : (_ : Bool) = false);(try simp only [bq] at hgq))
  |((with_reducible apply q_VOk);exact fun _ => ⟨rfl,rfl⟩)|(intro _;exact rfl)|((with_reducible apply q_CRB);kernel_rfl)|((with_reducible apply q_bt);simp only [bq])|((with_reducible apply q_eqN);rfl)|((with_reducible apply q_FE);exact rfl)|with_reducible (first|exact isByte_wrap _|exact isByte_nat _)|(simp only [hgq,bq];done)|omega|(dsimp only;omega))
 ·rw [if_pos (by omega)]; rfl
 ·rw [if_neg (by omega)]; rfl
theorem refSpeeds_ok (cs : List (Int × Int)) (start : Int) (nm : ByteArray) (l sp ac br : Int) (hl : cs.length ≤ 4611686018427387904) : OkV Tryz.prog 22 [.c (rCell cs), .c (xI start), vS5 nm l sp ac br] [] (.tup [.c (rInt (speedL cs start l sp ac br)), .c (xI (badRun cs start l sp ac br))]) [] := by
 have hC := refBad_ok cs start nm l sp ac br hl
 unfold speedL
 by_cases h : badRun cs start l sp ac br = 0
 ·obtain ⟨hc, hn, hall, h0, h2⟩ := bad_zero h
  obtain ⟨l1, l2, l3, l4, l5, l6, l7, l8⟩ := chk_of hc
  obtain ⟨s, rfl⟩ := Int.eq_ofNat_of_zero_le h0
  rw [h] at hC ⊢
  rw [if_pos rfl]
  simp only [Int.toNat_natCast]
  refine X_fnP mixedX Tryz.func22 rfl (by kernel_rfl) (Nat.le_of_ble_eq_true (by kernel_rfl)) (by kernel_rfl) rfl rfl ?_
  simp only [sl0, Nat.zero_add, Nat.reduceAdd]
  repeat' (first
   |with_reducible (first|refine q_and ?_ ?_|exact True.intro|exact TkEq.nil _|refine Red.o (by constructor) ?_|refine blockK_o' rfl ?_|refine LoopX_e' rfl ?_|assumption)
   |((with_reducible apply q_call);refine X_pure (hC) rfl ?_)
   |((with_reducible apply q_CI);intro hbq;(try simp only [bq] at hbq);(try (exfalso;omega)))
   |refine Rex.o (by (with_reducible constructor);apply Eq.refl) ?_
   |(intro (hgq : (_ : Bool) = true);(try simp only [bq] at hgq))
   |(intro (hgq : (_ : Bool) = false);(try simp only [bq] at hgq))
   |((with_reducible apply q_VOk);exact fun _ => ⟨rfl,rfl⟩)|(intro _;exact rfl)|((with_reducible apply q_CRB);kernel_rfl)|((with_reducible apply q_bt);simp only [bq])|((with_reducible apply q_eqN);rfl)|((with_reducible apply q_FE);exact rfl)|with_reducible (first|exact isByte_wrap _|exact isByte_nat _)|(simp only [hgq,bq];done)|omega|(dsimp only;omega))
  clear hC
  have eM : ((cs.length : Int) - s) = (cs.length - s : Nat) := by omega
  refine W_loopS (fun k : Nat => SS [sC 0 (rCell cs), sI 1 s, sC 5 (pB 0), sI 9 (cs.length - s : Nat), sC 10 (.c (.arr 1 0 (cs.length - s + 1) (cs.length - s + 1))), sI 11 (k + 1 : Nat)] [bS5 nm l sp ac br, bInt (row (cs.length - s + 1) (iniW cs s l.toNat sp (k + 1)))]) (fun k => k + 1 ≤ cs.length - s) (fun k => cs.length - s - k) 0 ?_ (by omega) ?_
  ·
   refine X_weak rfl rfl rfl ?_ ?_ <;> repeat' (first|with_reducible (first|refine Wk.o (by constructor) ?_|refine q_and ?_ ?_|exact True.intro)|refine q_AgS rfl ?_ ?_|exact CLe.nil_tipS|exact CLe.nil_rowS|refine HLe.cells ?_ ?_|refine HLe.els ?_ ?_|refine SLe.cons ?_ ?_|exact (rfl : known _ = _)|with_reducible rfl|omega)
   all_goals first
    | omega
    | (
     rw [show ((cs.length : Int) - s + 1).toNat = cs.length - s + 1 by omega, row_zero]
     refine row_ext fun j hj => ?_
     unfold iniW
     rw [if_neg (by omega)])
    | (rw [show ((cs.length : Int) - s + 1).toNat = cs.length - s + 1 by omega])
  intro k hk
  have a6 := row_len (cs.length - s + 1) (iniW cs s l.toNat sp (k + 1))
  by_cases hlt : k + 1 < cs.length - s
  ·have hA : OkV Tryz.prog 43 [.c (rCell cs), .c (xI ((s : Int) + ((k + 1 : Nat) : Int) - 1)), vS5 nm l sp ac br] [] (vI (limitOf cs (s + k) l.toNat sp)) [] := by
    rw [show (s : Int) + ((k + 1 : Nat) : Int) - 1 = ((s + k : Nat) : Int) by omega]
    exact refLimit_ok cs (s + k) nm l sp ac br (by omega) hn (by omega) l2
   have hB : OkV Tryz.prog 43 [.c (rCell cs), .c (xI ((s : Int) + ((k + 1 : Nat) : Int))), vS5 nm l sp ac br] [] (vI (limitOf cs (s + k + 1) l.toNat sp)) [] := by
    rw [show (s : Int) + ((k + 1 : Nat) : Int) = ((s + k + 1 : Nat) : Int) by omega]
    exact refLimit_ok cs (s + k + 1) nm l sp ac br (by omega) hn (by omega) l2
   have a1 := limit_range cs (s + k) l.toNat sp l3 hall
   have a2 := limit_range cs (s + k + 1) l.toNat sp l3 hall
   have a3 := sq_range (limitOf cs (s + k) l.toNat sp) (limitOf cs (s + k + 1) l.toNat sp) a1.1 (by omega) a2.1 (by omega)
   repeat' (first
    |with_reducible (first|refine q_and ?_ ?_|exact True.intro|exact TkEq.nil _|refine Red.o (by constructor) ?_|refine blockK_o' rfl ?_|refine LoopX_e' rfl ?_|assumption)
    |((with_reducible apply q_call);first|refine X_pure (hA) rfl ?_|refine X_pure (hB) rfl ?_)
    |((with_reducible apply q_CI);intro hbq;(try simp only [bq] at hbq);(try (exfalso;omega)))
    |refine Rex.o (by (with_reducible constructor);apply Eq.refl) ?_
    |(intro (hgq : (_ : Bool) = true);(try simp only [bq] at hgq))
    |(intro (hgq : (_ : Bool) = false);(try simp only [bq] at hgq))
    |((with_reducible apply q_VOk);exact fun _ => ⟨rfl,rfl⟩)|(intro _;exact rfl)|((with_reducible apply q_CRB);kernel_rfl)|((with_reducible apply q_bt);simp only [bq])|((with_reducible apply q_eqN);rfl)|((with_reducible apply q_FE);exact rfl)|with_reducible (first|exact isByte_wrap _|exact isByte_nat _)|(simp only [hgq,bq];done)|omega|(dsimp only;omega))
   ·rfl
   ·
    refine LoopK_n (k + 1) ?_ ((by omega)) (by (try dsimp only); omega)
    refine X_weak rfl rfl rfl ?_ ?_ <;> repeat' (first|with_reducible (first|refine Wk.o (by constructor) ?_|refine q_and ?_ ?_|exact True.intro)|refine q_AgS rfl ?_ ?_|exact CLe.nil_tipS|exact CLe.nil_rowS|refine HLe.cells ?_ ?_|refine HLe.els ?_ ?_|refine SLe.cons ?_ ?_|exact (rfl : known _ = _)|with_reducible rfl|omega)
    all_goals (
     rw [Int.toNat_natCast]
     refine row_set (i := k + 1) ?_ fun j hj hne => ?_
     ·unfold iniW lsq
      rw [if_pos (by omega), show s + (k + 1) - 1 = s + k by omega, show s + (k + 1) = s + k + 1 by omega]
     ·unfold iniW
      by_cases hj0 : 0 < j ∧ j < k + 1
      ·rw [if_pos hj0, if_pos (by omega)]
      ·rw [if_neg hj0, if_neg (by omega)])
  have hkM : k + 1 = cs.length - s := by omega
  repeat' (first
   |with_reducible (first|refine q_and ?_ ?_|exact True.intro|exact TkEq.nil _|refine Red.o (by constructor) ?_|refine blockK_o' rfl ?_|refine LoopX_e' rfl ?_|assumption)
   |((with_reducible apply q_CI);intro hbq;(try simp only [bq] at hbq);(try (exfalso;omega)))
   |refine Rex.o (by (with_reducible constructor);apply Eq.refl) ?_
   |(intro (hgq : (_ : Bool) = true);(try simp only [bq] at hgq))
   |(intro (hgq : (_ : Bool) = false);(try simp only [bq] at hgq))
   |((with_reducible apply q_VOk);exact fun _ => ⟨rfl,rfl⟩)|(intro _;exact rfl)|((with_reducible apply q_CRB);kernel_rfl)|((with_reducible apply q_bt);simp only [bq])|((with_reducible apply q_eqN);rfl)|((with_reducible apply q_FE);exact rfl)|with_reducible (first|exact isByte_wrap _|exact isByte_nat _)|(simp only [hgq,bq];done)|omega|(dsimp only;omega))
  rw [hkM] at a6 ⊢
  clear a6
  refine W_loopS (fun k : Nat => SS [sC 0 (rCell cs), sI 1 s, sC 5 (pB 0), sI 9 (cs.length - s : Nat), sC 10 (.c (.arr 1 0 (cs.length - s + 1) (cs.length - s + 1))), sI 13 k] [bS5 nm l sp ac br, bInt (row (cs.length - s + 1) fun j => if j ≤ k then fwW cs s l.toNat sp ac j else iniW cs s l.toNat sp (cs.length - s) j)]) (fun k => k ≤ cs.length - s) (fun k => cs.length - s - k) 0 ?_ (by omega) ?_
  ·
   refine X_weak rfl rfl rfl ?_ ?_ <;> repeat' (first|with_reducible (first|refine Wk.o (by constructor) ?_|refine q_and ?_ ?_|exact True.intro)|refine q_AgS rfl ?_ ?_|exact CLe.nil_tipS|exact CLe.nil_rowS|refine HLe.cells ?_ ?_|refine HLe.els ?_ ?_|refine SLe.cons ?_ ?_|exact (rfl : known _ = _)|with_reducible rfl|omega)
   all_goals (
    refine row_ext fun j hj => ?_
    by_cases hj0 : j ≤ 0
    ·rw [if_pos hj0, show j = 0 by omega]
     unfold iniW fwW
     rw [if_neg (by omega), if_pos (by omega)]
     rfl
    ·rw [if_neg hj0])
  clear hk hkM hlt
  intro k hk
  have a6 : (row (cs.length - s + 1) fun j => if j ≤ k then fwW cs s l.toNat sp ac j else iniW cs s l.toNat sp (cs.length - s) j).length = _ := row_len _ _
  by_cases hlt : k < cs.length - s
  ·have e1 : ((s : Int) + k).toNat = s + k := by omega
   have e2 : ((k : Int) + 1).toNat = k + 1 := by omega
   have hce := cell_of (List.all_eq_true.1 hall _ (List.getElem_mem (show s + k < cs.length by omega)))
   have eg : (cs.getD ((s : Int) + k).toNat (0, 0)) = cs[s + k] := by rw [e1]; exact getD_at _ _ _
   rw [← eg] at hce
   have hG := accel_ok (cs.getD ((s : Int) + k).toNat (0, 0)) nm l sp ac br ⟨hce.2.2.1, hce.2.2.2⟩ l5 l6
   have hgr := gain_range (cs.getD ((s : Int) + k).toNat (0, 0)).2 ac l5 l6
   rw [gain_rate] at hgr
   have a5 : (row (cs.length - s + 1) fun j => if j ≤ k then fwW cs s l.toNat sp ac j else iniW cs s l.toNat sp (cs.length - s) j).getD (k : Int).toNat 0 = fwW cs s l.toNat sp ac k := by rw [Int.toNat_natCast, row_get (by omega), if_pos (Nat.le_refl _)]
   have a7 : (row (cs.length - s + 1) fun j => if j ≤ k then fwW cs s l.toNat sp ac j else iniW cs s l.toNat sp (cs.length - s) j).getD ((k : Int) + 1).toNat 0 = iniW cs s l.toNat sp (cs.length - s) (k + 1) := by rw [e2, row_get (by omega), if_neg (by omega)]
   have a3 := fwW_range (start := s) (l := l.toNat) l3 l4 l5 l6 hall k
   have a4 := ini_range (start := s) (l := l.toNat) l3 l4 hall (cs.length - s) (k + 1)
   repeat' (first
    |with_reducible (first|refine q_and ?_ ?_|exact True.intro|exact TkEq.nil _|refine Red.o (by constructor) ?_|refine blockK_o' rfl ?_|refine LoopX_e' rfl ?_|assumption)
    |((with_reducible apply q_call);refine X_pure (hG) rfl ?_)
    |((with_reducible apply q_CI);intro hbq;(try simp only [bq] at hbq);(try (exfalso;omega)))
    |refine Rex.o (by (with_reducible constructor);apply Eq.refl) ?_
    |(intro (hgq : (_ : Bool) = true);(try simp only [bq] at hgq))
    |(intro (hgq : (_ : Bool) = false);(try simp only [bq] at hgq))
    |((with_reducible apply q_VOk);exact fun _ => ⟨rfl,rfl⟩)|(intro _;exact rfl)|((with_reducible apply q_CRB);kernel_rfl)|((with_reducible apply q_bt);simp only [bq])|((with_reducible apply q_eqN);rfl)|((with_reducible apply q_FE);exact rfl)|with_reducible (first|exact isByte_wrap _|exact isByte_nat _)|(simp only [hgq,bq];done)|omega|(dsimp only;omega))
   ·rfl
   ·
    refine LoopK_n (k + 1) ?_ ((by omega)) (by (try dsimp only); omega)
    refine X_weak rfl rfl rfl ?_ ?_ <;> repeat' (first|with_reducible (first|refine Wk.o (by constructor) ?_|refine q_and ?_ ?_|exact True.intro)|refine q_AgS rfl ?_ ?_|exact CLe.nil_tipS|exact CLe.nil_rowS|refine HLe.cells ?_ ?_|refine HLe.els ?_ ?_|refine SLe.cons ?_ ?_|exact (rfl : known _ = _)|with_reducible rfl|omega)
    all_goals (
     rw [a5, a7, e1, e2, ← gain_rate, fwW_step l3 l4 l5 l6 hall k hlt]
     refine row_set (i := k + 1) ?_ fun j hj hne => ?_
     ·rw [if_pos (Nat.le_refl _)]
     ·by_cases hji : j ≤ k
      ·rw [if_pos hji, if_pos (by omega)]
      ·rw [if_neg hji, if_neg (by omega)])
  have hkM : k = cs.length - s := by omega
  repeat' (first
   |with_reducible (first|refine q_and ?_ ?_|exact True.intro|exact TkEq.nil _|refine Red.o (by constructor) ?_|refine blockK_o' rfl ?_|refine LoopX_e' rfl ?_|assumption)
   |((with_reducible apply q_CI);intro hbq;(try simp only [bq] at hbq);(try (exfalso;omega)))
   |refine Rex.o (by (with_reducible constructor);apply Eq.refl) ?_
   |(intro (hgq : (_ : Bool) = true);(try simp only [bq] at hgq))
   |(intro (hgq : (_ : Bool) = false);(try simp only [bq] at hgq))
   |((with_reducible apply q_VOk);exact fun _ => ⟨rfl,rfl⟩)|(intro _;exact rfl)|((with_reducible apply q_CRB);kernel_rfl)|((with_reducible apply q_bt);simp only [bq])|((with_reducible apply q_eqN);rfl)|((with_reducible apply q_FE);exact rfl)|with_reducible (first|exact isByte_wrap _|exact isByte_nat _)|(simp only [hgq,bq];done)|omega|(dsimp only;omega))
  refine W_loopS (fun d : Nat => SS [sC 0 (rCell cs), sI 1 s, sC 5 (pB 0), sI 9 (cs.length - s : Nat), sC 10 (.c (.arr 1 0 (cs.length - s + 1) (cs.length - s + 1))), sI 14 (((cs.length - s : Nat) : Int) - d)] [bS5 nm l sp ac br, bInt (row (cs.length - s + 1) fun j => if j + d < cs.length - s then fwW cs s l.toNat sp ac j else sqW cs s l.toNat sp ac br j)]) (fun d => d ≤ cs.length - s) (fun d => cs.length - s - d) 0 ?_ (by omega) ?_
  ·
   refine X_weak rfl rfl rfl ?_ ?_ <;> repeat' (first|with_reducible (first|refine Wk.o (by constructor) ?_|refine q_and ?_ ?_|exact True.intro)|refine q_AgS rfl ?_ ?_|exact CLe.nil_tipS|exact CLe.nil_rowS|refine HLe.cells ?_ ?_|refine HLe.els ?_ ?_|refine SLe.cons ?_ ?_|exact (rfl : known _ = _)|with_reducible rfl|omega)
   all_goals (
    refine row_ext fun j hj => ?_
    rw [if_pos (by omega)]
    by_cases hj0 : j < cs.length - s
    ·rw [if_pos (by omega)]
    ·rw [if_neg (by omega), show j = cs.length - s by omega, sqW_end (by omega)]
     unfold fwW
     rw [if_neg (by omega)])
  clear hk hkM hlt a6
  intro d hd
  have a6 : (row (cs.length - s + 1) fun j => if j + d < cs.length - s then fwW cs s l.toNat sp ac j else sqW cs s l.toNat sp ac br j).length = _ := row_len _ _
  by_cases hlt : d < cs.length - s
  ·generalize he : cs.length - s - d - 1 = e
   have e1 : ((s : Int) + (((cs.length - s : Nat) : Int) - d) - 1).toNat = s + e := by omega
   have e2 : (((cs.length - s : Nat) : Int) - d - 1).toNat = e := by omega
   have e3 : (((cs.length - s : Nat) : Int) - d).toNat = e + 1 := by omega
   have hce := cell_of (List.all_eq_true.1 hall _ (List.getElem_mem (show s + e < cs.length by omega)))
   have eg : (cs.getD ((s : Int) + (((cs.length - s : Nat) : Int) - d) - 1).toNat (0, 0)) = cs[s + e] := by rw [e1]; exact getD_at _ _ _
   rw [← eg] at hce
   have hG := brake_ok (cs.getD ((s : Int) + (((cs.length - s : Nat) : Int) - d) - 1).toNat (0, 0)) nm l sp ac br ⟨hce.2.2.1, hce.2.2.2⟩ l7 l8
   have hgr := loss_range (cs.getD ((s : Int) + (((cs.length - s : Nat) : Int) - d) - 1).toNat (0, 0)).2 br l7 l8
   rw [loss_rate] at hgr
   have a5 : (row (cs.length - s + 1) fun j => if j + d < cs.length - s then fwW cs s l.toNat sp ac j else sqW cs s l.toNat sp ac br j).getD (((cs.length - s : Nat) : Int) - d).toNat 0 = sqW cs s l.toNat sp ac br (e + 1) := by rw [e3, row_get (by omega), if_neg (by omega)]
   have a7 : (row (cs.length - s + 1) fun j => if j + d < cs.length - s then fwW cs s l.toNat sp ac j else sqW cs s l.toNat sp ac br j).getD (((cs.length - s : Nat) : Int) - d - 1).toNat 0 = fwW cs s l.toNat sp ac e := by rw [e2, row_get (by omega), if_pos (by omega)]
   have a3 := fwW_range (start := s) (l := l.toNat) l3 l4 l5 l6 hall e
   have a4 := sqW_range (start := s) (l := l.toNat) l3 l4 l5 l6 l7 l8 hall (e + 1)
   repeat' (first
    |with_reducible (first|refine q_and ?_ ?_|exact True.intro|exact TkEq.nil _|refine Red.o (by constructor) ?_|refine blockK_o' rfl ?_|refine LoopX_e' rfl ?_|assumption)
    |((with_reducible apply q_call);refine X_pure (hG) rfl ?_)
    |((with_reducible apply q_CI);intro hbq;(try simp only [bq] at hbq);(try (exfalso;omega)))
    |refine Rex.o (by (with_reducible constructor);apply Eq.refl) ?_
    |(intro (hgq : (_ : Bool) = true);(try simp only [bq] at hgq))
    |(intro (hgq : (_ : Bool) = false);(try simp only [bq] at hgq))
    |((with_reducible apply q_VOk);exact fun _ => ⟨rfl,rfl⟩)|(intro _;exact rfl)|((with_reducible apply q_CRB);kernel_rfl)|((with_reducible apply q_bt);simp only [bq])|((with_reducible apply q_eqN);rfl)|((with_reducible apply q_FE);exact rfl)|with_reducible (first|exact isByte_wrap _|exact isByte_nat _)|(simp only [hgq,bq];done)|omega|(dsimp only;omega))
   ·rfl
   ·
    refine LoopK_n (d + 1) ?_ ((by omega)) (by (try dsimp only); omega)
    refine X_weak rfl rfl rfl ?_ ?_ <;> repeat' (first|with_reducible (first|refine Wk.o (by constructor) ?_|refine q_and ?_ ?_|exact True.intro)|refine q_AgS rfl ?_ ?_|exact CLe.nil_tipS|exact CLe.nil_rowS|refine HLe.cells ?_ ?_|refine HLe.els ?_ ?_|refine SLe.cons ?_ ?_|exact (rfl : known _ = _)|with_reducible rfl|omega)
    all_goals (
     rw [a5, a7, e1, e2, ← loss_rate, sqW_step l3 l4 l5 l6 l7 l8 hall e (by omega)]
     refine row_set (i := e) ?_ fun j hj hne => ?_
     ·rw [if_neg (by omega)]
     ·by_cases hji : j + d < cs.length - s
      ·rw [if_pos hji, if_pos (by omega)]
      ·rw [if_neg hji, if_neg (by omega)])
  have hkM : d = cs.length - s := by omega
  repeat' (first
   |with_reducible (first|refine q_and ?_ ?_|exact True.intro|exact TkEq.nil _|refine Red.o (by constructor) ?_|refine blockK_o' rfl ?_|refine LoopX_e' rfl ?_|assumption)
   |((with_reducible apply q_CI);intro hbq;(try simp only [bq] at hbq);(try (exfalso;omega)))
   |refine Rex.o (by (with_reducible constructor);apply Eq.refl) ?_
   |(intro (hgq : (_ : Bool) = true);(try simp only [bq] at hgq))
   |(intro (hgq : (_ : Bool) = false);(try simp only [bq] at hgq))
   |((with_reducible apply q_VOk);exact fun _ => ⟨rfl,rfl⟩)|(intro _;exact rfl)|((with_reducible apply q_CRB);kernel_rfl)|((with_reducible apply q_bt);simp only [bq])|((with_reducible apply q_eqN);rfl)|((with_reducible apply q_FE);exact rfl)|with_reducible (first|exact isByte_wrap _|exact isByte_nat _)|(simp only [hgq,bq];done)|omega|(dsimp only;omega))
  refine W_loopS (fun i : Nat => SS [sI 9 (cs.length - s : Nat), sC 10 (.c (.arr 1 0 (cs.length - s + 1) (cs.length - s + 1))), sI 15 i] [none, bInt (row (cs.length - s + 1) fun j => if j < i then ((spd cs s l.toNat sp ac br j : Nat) : Int) else sqW cs s l.toNat sp ac br j)]) (fun i => i ≤ cs.length - s + 1) (fun i => cs.length - s + 1 - i) 0 ?_ (by omega) ?_
  ·
   refine X_weak rfl rfl rfl ?_ ?_ <;> repeat' (first|with_reducible (first|refine Wk.o (by constructor) ?_|refine q_and ?_ ?_|exact True.intro)|refine q_AgS rfl ?_ ?_|exact CLe.nil_tipS|exact CLe.nil_rowS|refine HLe.cells ?_ ?_|refine HLe.els ?_ ?_|refine SLe.cons ?_ ?_|exact (rfl : known _ = _)|with_reducible rfl|omega)
   all_goals (
    refine row_ext fun j hj => ?_
    rw [if_neg (by omega), if_neg (by omega)])
  clear hd hkM hlt a6
  intro i hi
  have a6 : (row (cs.length - s + 1) fun j => if j < i then ((spd cs s l.toNat sp ac br j : Nat) : Int) else sqW cs s l.toNat sp ac br j).length = _ := row_len _ _
  have a4 := sqW_range (start := s) (l := l.toNat) l3 l4 l5 l6 l7 l8 hall i
  by_cases hil : i < cs.length - s + 1
  ·have a5 : (row (cs.length - s + 1) fun j => if j < i then ((spd cs s l.toNat sp ac br j : Nat) : Int) else sqW cs s l.toNat sp ac br j).getD (i : Int).toNat 0 = sqW cs s l.toNat sp ac br i := by
    rw [Int.toNat_natCast, row_get hil, if_neg (by omega)]
   have hQ := refSqrt_okV ((row (cs.length - s + 1) fun j => if j < i then ((spd cs s l.toNat sp ac br j : Nat) : Int) else sqW cs s l.toNat sp ac br j).getD (i : Int).toNat 0) (by rw [a5]; omega)
   repeat' (first
    |with_reducible (first|refine q_and ?_ ?_|exact True.intro|exact TkEq.nil _|refine Red.o (by constructor) ?_|refine blockK_o' rfl ?_|refine LoopX_e' rfl ?_|assumption)
    |((with_reducible apply q_call);refine X_pure (hQ) rfl ?_)
    |((with_reducible apply q_CI);intro hbq;(try simp only [bq] at hbq);(try (exfalso;omega)))
    |refine Rex.o (by (with_reducible constructor);apply Eq.refl) ?_
    |(intro (hgq : (_ : Bool) = true);(try simp only [bq] at hgq))
    |(intro (hgq : (_ : Bool) = false);(try simp only [bq] at hgq))
    |((with_reducible apply q_VOk);exact fun _ => ⟨rfl,rfl⟩)|(intro _;exact rfl)|((with_reducible apply q_CRB);kernel_rfl)|((with_reducible apply q_bt);simp only [bq])|((with_reducible apply q_eqN);rfl)|((with_reducible apply q_FE);exact rfl)|with_reducible (first|exact isByte_wrap _|exact isByte_nat _)|(simp only [hgq,bq];done)|omega|(dsimp only;omega))
   ·rfl
   ·
    refine LoopK_n (i + 1) ?_ ((by omega)) (by (try dsimp only); omega)
    refine X_weak rfl rfl rfl ?_ ?_ <;> repeat' (first|with_reducible (first|refine Wk.o (by constructor) ?_|refine q_and ?_ ?_|exact True.intro)|refine q_AgS rfl ?_ ?_|exact CLe.nil_tipS|exact CLe.nil_rowS|refine HLe.cells ?_ ?_|refine HLe.els ?_ ?_|refine SLe.cons ?_ ?_|exact (rfl : known _ = _)|with_reducible rfl|omega)
    all_goals (
     rw [a5, Int.toNat_natCast]
     refine row_set (i := i) ?_ fun j hj hne => ?_
     ·rw [if_pos (by omega)]; rfl
     ·by_cases hji : j < i
      ·rw [if_pos hji, if_pos (by omega)]
      ·rw [if_neg hji, if_neg (by omega)])
  ·have hr : (row (cs.length - s + 1) fun j => if j < i then ((spd cs s l.toNat sp ac br j : Nat) : Int) else sqW cs s l.toNat sp ac br j) = row (cs.length - s + 1) fun j => ((spd cs s l.toNat sp ac br j : Nat) : Int) := row_ext fun j hj => if_pos (by omega)
   repeat' (first
    |with_reducible (first|refine q_and ?_ ?_|exact True.intro|exact TkEq.nil _|refine Red.o (by constructor) ?_|refine blockK_o' rfl ?_|refine LoopX_e' rfl ?_|assumption)
    |((with_reducible apply q_CI);intro hbq;(try simp only [bq] at hbq);(try (exfalso;omega)))
    |refine Rex.o (by (with_reducible constructor);apply Eq.refl) ?_
    |(intro (hgq : (_ : Bool) = true);(try simp only [bq] at hgq))
    |(intro (hgq : (_ : Bool) = false);(try simp only [bq] at hgq))
    |((with_reducible apply q_VOk);exact fun _ => ⟨rfl,rfl⟩)|(intro _;exact rfl)|((with_reducible apply q_CRB);kernel_rfl)|((with_reducible apply q_bt);simp only [bq])|((with_reducible apply q_eqN);rfl)|((with_reducible apply q_FE);exact rfl)|with_reducible (first|exact isByte_wrap _|exact isByte_nat _)|(simp only [hgq,bq];done)|omega|(dsimp only;omega))
   rw [hr]; rfl
 ·rw [if_neg h]
  refine X_fn mixedX Tryz.func22 rfl (by kernel_rfl) (Nat.le_of_ble_eq_true (by kernel_rfl)) (by kernel_rfl) rfl rfl (Nat.le_of_ble_eq_true rfl) rfl rfl ?_
  simp only [sl0, Nat.zero_add, Nat.reduceAdd]
  repeat' (first
   |with_reducible (first|refine q_and ?_ ?_|exact True.intro|exact TkEq.nil _|refine Red.o (by constructor) ?_|refine blockK_o' rfl ?_|refine LoopX_e' rfl ?_|assumption)
   |((with_reducible apply q_call);refine X_pure (hC) rfl ?_)
   |((with_reducible apply q_CI);intro hbq;(try simp only [bq] at hbq);(try (exfalso;omega)))
   |refine Rex.o (by (with_reducible constructor);apply Eq.refl) ?_
   |(intro (hgq : (_ : Bool) = true);(try simp only [bq] at hgq))
   |(intro (hgq : (_ : Bool) = false);(try simp only [bq] at hgq))
   |((with_reducible apply q_VOk);exact fun _ => ⟨rfl,rfl⟩)|(intro _;exact rfl)|((with_reducible apply q_CRB);kernel_rfl)|((with_reducible apply q_bt);simp only [bq])|((with_reducible apply q_eqN);rfl)|((with_reducible apply q_FE);exact rfl)|with_reducible (first|exact isByte_wrap _|exact isByte_nat _)|(simp only [hgq,bq];done)|omega|(dsimp only;omega))
  ·rfl
theorem refTimes_ok (cs : List (Int × Int)) (start : Int) (nm : ByteArray) (l sp ac br : Int) (hl : cs.length ≤ 4611686018427387904) : OkV Tryz.prog 8 [.c (rCell cs), .c (xI start), vS5 nm l sp ac br] [] (.tup [.c (rInt (timeL cs start l sp ac br)), .c (xI (badRun cs start l sp ac br))]) [] := by
 have hC := refSpeeds_ok cs start nm l sp ac br hl
 unfold timeL
 by_cases h : badRun cs start l sp ac br = 0
 ·obtain ⟨hc, hn, hall, h0, h2⟩ := bad_zero h
  obtain ⟨l1, l2, l3, l4, l5, l6, l7, l8⟩ := chk_of hc
  obtain ⟨s, rfl⟩ := Int.eq_ofNat_of_zero_le h0
  unfold speedL at hC
  rw [h, if_pos rfl] at hC
  rw [h, if_pos rfl]
  simp only [Int.toNat_natCast] at hC ⊢
  have b6 := row_len (cs.length - s + 1) fun j => ((spd cs s l.toNat sp ac br j : Nat) : Int)
  have b5 : ∀ j, j < cs.length - s + 1 → (row (cs.length - s + 1) fun j => ((spd cs s l.toNat sp ac br j : Nat) : Int)).getD j 0 = spd cs s l.toNat sp ac br j := fun j hj => row_get hj
  generalize (row (cs.length - s + 1) fun j => ((spd cs s l.toNat sp ac br j : Nat) : Int)) = vs at hC b6 b5
  refine X_fnP mixedX Tryz.func8 rfl (by kernel_rfl) (Nat.le_of_ble_eq_true (by kernel_rfl)) (by kernel_rfl) rfl rfl ?_
  simp only [sl0, Nat.zero_add, Nat.reduceAdd]
  repeat' (first
   |with_reducible (first|refine q_and ?_ ?_|exact True.intro|exact TkEq.nil _|refine Red.o (by constructor) ?_|refine blockK_o' rfl ?_|refine LoopX_e' rfl ?_|assumption)
   |((with_reducible apply q_call);refine X_pure (hC) rfl ?_)
   |((with_reducible apply q_CI);intro hbq;(try simp only [bq] at hbq);(try (exfalso;omega)))
   |refine Rex.o (by (with_reducible constructor);apply Eq.refl) ?_
   |(intro (hgq : (_ : Bool) = true);(try simp only [bq] at hgq))
   |(intro (hgq : (_ : Bool) = false);(try simp only [bq] at hgq))
   |((with_reducible apply q_VOk);exact fun _ => ⟨rfl,rfl⟩)|(intro _;exact rfl)|((with_reducible apply q_CRB);kernel_rfl)|((with_reducible apply q_bt);simp only [bq])|((with_reducible apply q_eqN);rfl)|((with_reducible apply q_FE);exact rfl)|with_reducible (first|exact isByte_wrap _|exact isByte_nat _)|(simp only [hgq,bq];done)|omega|(dsimp only;omega))
  clear hC
  refine W_loopS (fun i : Nat => SS [sC 8 (rInt vs), sC 10 (.c (.arr 1 0 (cs.length - s + 1) (cs.length - s + 1))), sI 11 (i + 1 : Nat)] [none, bInt (row (cs.length - s + 1) fun j => if j ≤ i then tim cs s l.toNat sp ac br j else 0)]) (fun i => i ≤ cs.length - s) (fun i => cs.length - s - i) 0 ?_ (by omega) ?_
  ·
   refine X_weak rfl rfl rfl ?_ ?_ <;> repeat' (first|with_reducible (first|refine Wk.o (by constructor) ?_|refine q_and ?_ ?_|exact True.intro)|refine q_AgS rfl ?_ ?_|exact CLe.nil_tipS|exact CLe.nil_rowS|refine HLe.cells ?_ ?_|refine HLe.els ?_ ?_|refine SLe.cons ?_ ?_|exact (rfl : known _ = _)|with_reducible rfl|omega)
   all_goals first
    | (rw [b6]; rfl)
    | (
     rw [b6, Int.toNat_natCast, row_zero]
     refine row_ext fun j hj => ?_
     by_cases hj0 : j ≤ 0
     ·rw [if_pos hj0, show j = 0 by omega]; rfl
     ·rw [if_neg hj0])
  intro i hi
  have a6 := row_len (cs.length - s + 1) fun j => if j ≤ i then tim cs s l.toNat sp ac br j else 0
  by_cases hil : i < cs.length - s
  ·have e1 : (((i + 1 : Nat) : Int) - 1).toNat = i := by omega
   have e2 : ((i + 1 : Nat) : Int).toNat = i + 1 := by omega
   have a5 : (row (cs.length - s + 1) fun j => if j ≤ i then tim cs s l.toNat sp ac br j else 0).getD (((i + 1 : Nat) : Int) - 1).toNat 0 = tim cs s l.toNat sp ac br i := by
    rw [e1, row_get (by omega), if_pos (Nat.le_refl _)]
   have a4 := tim_range (start := s) (l := l.toNat) l3 l4 l5 l6 l7 l8 hall (by omega) i (by omega)
   have a7 := spd_sum (start := s) (l := l.toNat) l3 l4 l5 l6 l7 l8 hall (by omega) i hil
   have a8 := step_range (start := s) (l := l.toNat) l3 l4 l5 l6 l7 l8 hall (by omega) i hil
   have c1 := b5 i (by omega)
   have c2 := b5 (i + 1) (by omega)
   have c3 : vs.getD (((i + 1 : Nat) : Int) - 1).toNat 0 = spd cs s l.toNat sp ac br i := by rw [e1, c1]
   have c4 : vs.getD ((i + 1 : Nat) : Int).toNat 0 = spd cs s l.toNat sp ac br (i + 1) := by rw [e2, c2]
   have c5 : Pl.cdiv 20000000 (vs.getD (((i + 1 : Nat) : Int) - 1).toNat 0 + vs.getD ((i + 1 : Nat) : Int).toNat 0) = Pl.cdiv 20000000 ((spd cs s l.toNat sp ac br i : Int) + spd cs s l.toNat sp ac br (i + 1)) := by rw [c3, c4]
   rw [← c5] at a8
   have hQ := refCeil_okV 20000000 (vs.getD (((i + 1 : Nat) : Int) - 1).toNat 0 + vs.getD ((i + 1 : Nat) : Int).toNat 0) (by omega) (by rw [c3, c4]; omega)
   repeat' (first
    |with_reducible (first|refine q_and ?_ ?_|exact True.intro|exact TkEq.nil _|refine Red.o (by constructor) ?_|refine blockK_o' rfl ?_|refine LoopX_e' rfl ?_|assumption)
    |((with_reducible apply q_call);refine X_pure (hQ) rfl ?_)
    |((with_reducible apply q_CI);intro hbq;(try simp only [bq] at hbq);(try (exfalso;omega)))
    |refine Rex.o (by (with_reducible constructor);apply Eq.refl) ?_
    |(intro (hgq : (_ : Bool) = true);(try simp only [bq] at hgq))
    |(intro (hgq : (_ : Bool) = false);(try simp only [bq] at hgq))
    |((with_reducible apply q_VOk);exact fun _ => ⟨rfl,rfl⟩)|(intro _;exact rfl)|((with_reducible apply q_CRB);kernel_rfl)|((with_reducible apply q_bt);simp only [bq])|((with_reducible apply q_eqN);rfl)|((with_reducible apply q_FE);exact rfl)|with_reducible (first|exact isByte_wrap _|exact isByte_nat _)|(simp only [hgq,bq];done)|omega|(dsimp only;omega))
   ·rfl
   ·
    refine LoopK_n (i + 1) ?_ ((by omega)) (by (try dsimp only); omega)
    refine X_weak rfl rfl rfl ?_ ?_ <;> repeat' (first|with_reducible (first|refine Wk.o (by constructor) ?_|refine q_and ?_ ?_|exact True.intro)|refine q_AgS rfl ?_ ?_|exact CLe.nil_tipS|exact CLe.nil_rowS|refine HLe.cells ?_ ?_|refine HLe.els ?_ ?_|refine SLe.cons ?_ ?_|exact (rfl : known _ = _)|with_reducible rfl|omega)
    all_goals (
     rw [a5, c5, e2]
     refine row_set (i := i + 1) ?_ fun j hj hne => ?_
     ·rw [if_pos (by omega)]; rfl
     ·by_cases hji : j ≤ i
      ·rw [if_pos hji, if_pos (by omega)]
      ·rw [if_neg hji, if_neg (by omega)])
  ·have hr : row (cs.length - s + 1) (fun j => if j ≤ i then tim cs s l.toNat sp ac br j else 0) = row (cs.length - s + 1) (tim cs s l.toNat sp ac br) := row_ext fun j hj => if_pos (by omega)
   repeat' (first
    |with_reducible (first|refine q_and ?_ ?_|exact True.intro|exact TkEq.nil _|refine Red.o (by constructor) ?_|refine blockK_o' rfl ?_|refine LoopX_e' rfl ?_|assumption)
    |((with_reducible apply q_CI);intro hbq;(try simp only [bq] at hbq);(try (exfalso;omega)))
    |refine Rex.o (by (with_reducible constructor);apply Eq.refl) ?_
    |(intro (hgq : (_ : Bool) = true);(try simp only [bq] at hgq))
    |(intro (hgq : (_ : Bool) = false);(try simp only [bq] at hgq))
    |((with_reducible apply q_VOk);exact fun _ => ⟨rfl,rfl⟩)|(intro _;exact rfl)|((with_reducible apply q_CRB);kernel_rfl)|((with_reducible apply q_bt);simp only [bq])|((with_reducible apply q_eqN);rfl)|((with_reducible apply q_FE);exact rfl)|with_reducible (first|exact isByte_wrap _|exact isByte_nat _)|(simp only [hgq,bq];done)|omega|(dsimp only;omega))
   rw [hr]; rfl
 ·unfold speedL at hC
  rw [if_neg h] at hC ⊢
  refine X_fn mixedX Tryz.func8 rfl (by kernel_rfl) (Nat.le_of_ble_eq_true (by kernel_rfl)) (by kernel_rfl) rfl rfl (Nat.le_of_ble_eq_true rfl) rfl rfl ?_
  simp only [sl0, Nat.zero_add, Nat.reduceAdd]
  repeat' (first
   |with_reducible (first|refine q_and ?_ ?_|exact True.intro|exact TkEq.nil _|refine Red.o (by constructor) ?_|refine blockK_o' rfl ?_|refine LoopX_e' rfl ?_|assumption)
   |((with_reducible apply q_call);refine X_pure (hC) rfl ?_)
   |((with_reducible apply q_CI);intro hbq;(try simp only [bq] at hbq);(try (exfalso;omega)))
   |refine Rex.o (by (with_reducible constructor);apply Eq.refl) ?_
   |(intro (hgq : (_ : Bool) = true);(try simp only [bq] at hgq))
   |(intro (hgq : (_ : Bool) = false);(try simp only [bq] at hgq))
   |((with_reducible apply q_VOk);exact fun _ => ⟨rfl,rfl⟩)|(intro _;exact rfl)|((with_reducible apply q_CRB);kernel_rfl)|((with_reducible apply q_bt);simp only [bq])|((with_reducible apply q_eqN);rfl)|((with_reducible apply q_FE);exact rfl)|with_reducible (first|exact isByte_wrap _|exact isByte_nat _)|(simp only [hgq,bq];done)|omega|(dsimp only;omega))
  ·rfl
abbrev vR2 (st : List Stp) (ov : Int) : SV := .agg [rStp st, xI ov]
def tight (L : Lay) (l : Int) (s : Stp) : Bool := decide ((secA L s).len < max 2 l)
def fitErr (L : Lay) (r : Rte) (l sp ac br : Int) : Int := if celErr L r ≠ 0 then celErr L r else if chkB l sp ac br = false then 1 else if (trv r).any (tight L l) = true then 12 else 0
section
variable {L : Lay} {r : Rte} {l sp ac br : Int}
theorem fit_c (h : ¬ celErr L r = 0) : fitErr L r l sp ac br = celErr L r := if_pos h
theorem fit_1 (h : celErr L r = 0) (h2 : chkB l sp ac br = false) : fitErr L r l sp ac br = 1 := by unfold fitErr; rw [if_neg (by simpa using h), if_pos h2]
theorem fit_12 (h : celErr L r = 0) (h2 : chkB l sp ac br = true) (h3 : (trv r).any (tight L l) = true) : fitErr L r l sp ac br = 12 := by unfold fitErr; rw [if_neg (by simpa using h), if_neg (by rw [h2]; decide), if_pos h3]
theorem fit_0 (h : celErr L r = 0) (h2 : chkB l sp ac br = true) (h3 : (trv r).any (tight L l) = false) : fitErr L r l sp ac br = 0 := by unfold fitErr; rw [if_neg (by simpa using h), if_neg (by rw [h2]; decide), if_neg (by rw [h3]; decide)]
theorem cel_rte (h : celErr L r = 0) : rteErr L r = 0 := by
 unfold celErr at h
 split at h
 ·exact h
 ·rename_i h2; simpa using h2
theorem trv_len (h : RteOk L r) : ((trv r).length : Int) = r.st.length - r.ov := by
 have := h.ov0; have := h.two; have := h.ov
 unfold trv; rw [List.length_take]; omega
theorem trv_at (h : RteOk L r) {i : Nat} (hi : (i : Int) < r.st.length - r.ov) : (trv r).getD i st0 = r.st.getD i st0 := by
 unfold trv
 rw [List.getD_eq_getElem?_getD, List.getD_eq_getElem?_getD, List.getElem?_take_of_lt (by omega)]
theorem any_at {l : List Stp} {p : Stp → Bool} {i : Nat} (hi : i < l.length) (h : p (l.getD i st0) = true) : l.any p = true := by
 rw [List.getD_eq_getElem?_getD, List.getElem?_eq_getElem hi] at h
 exact List.any_eq_true.2 ⟨_, List.getElem_mem hi, h⟩
theorem any_not {l : List Stp} {p : Stp → Bool} (h : ∀ j, j < l.length → p (l.getD j st0) = false) : l.any p = false := by
 rw [Bool.eq_false_iff]
 intro ha
 obtain ⟨x, hx, h1⟩ := List.any_eq_true.1 ha
 obtain ⟨i, hi, rfl⟩ := List.mem_iff_getElem.1 hx
 have := h i hi
 rw [List.getD_eq_getElem?_getD, List.getElem?_eq_getElem hi] at this
 rw [show (some l[i]).getD st0 = l[i] from rfl] at this
 rw [this] at h1; cases h1
end
theorem travelled_ok (st : List Stp) (ov : Int) (hl : st.length ≤ 9223372036854775807) (h0 : 0 ≤ ov ∧ ov ≤ st.length) : OkV Tryz.prog 59 [vR2 st ov] [] (.c (rStp (trv ⟨st, ov⟩))) [] := by
 unfold trv
 refine X_fn mixedX Tryz.func59 rfl (by kernel_rfl) (Nat.le_of_ble_eq_true (by kernel_rfl)) (by kernel_rfl) rfl rfl (Nat.le_of_ble_eq_true rfl) rfl rfl ?_
 simp only [sl0, Nat.zero_add, Nat.reduceAdd]
 repeat' (first
  |with_reducible (first|refine q_and ?_ ?_|exact True.intro|exact TkEq.nil _|refine Red.o (by constructor) ?_|refine blockK_o' rfl ?_|refine LoopX_e' rfl ?_|assumption)
  |((with_reducible apply q_CI);intro hbq;(try simp only [bq] at hbq);(try (exfalso;omega)))
  |refine Rex.o (by (with_reducible constructor);apply Eq.refl) ?_
  |(intro (hgq : (_ : Bool) = true);(try simp only [bq] at hgq))
  |(intro (hgq : (_ : Bool) = false);(try simp only [bq] at hgq))
  |((with_reducible apply q_VOk);exact fun _ => ⟨rfl,rfl⟩)|(intro _;exact rfl)|((with_reducible apply q_CRB);kernel_rfl)|((with_reducible apply q_bt);simp only [bq])|((with_reducible apply q_eqN);rfl)|((with_reducible apply q_FE);exact rfl)|with_reducible (first|exact isByte_wrap _|exact isByte_nat _)|(simp only [hgq,bq];done)|omega|(dsimp only;omega))
 repeat' (first|with_reducible (first|refine Wk.o (by constructor) ?_|refine q_and ?_ ?_|exact True.intro)|refine VEq.c ?_|refine VEq.agg ?_|refine VEq.tup ?_|refine TkEq.cells ?_ ?_|refine TkEq.els ?_ ?_|refine SEqL.cons ?_ ?_|refine TEqL.agg ?_ ?_|refine CEq.rows ?_|refine CEq.int ?_|rfl|omega)
theorem fit_ok (L : Lay) (hL : LayFits L) (st : List Stp) (ov : Int) (hl : st.length ≤ 9223372036854775807) (ho : -9223372036854775808 ≤ ov ∧ ov ≤ 9223372036854775807) (nm : ByteArray) (l sp ac br : Int) : OkV Tryz.prog 37 [vLay L, vR2 st ov, vS5 nm l sp ac br] [] (.tup [.agg [rCell (if fitErr L ⟨st, ov⟩ l sp ac br = 0 then celL L (trv ⟨st, ov⟩) else []), xI (if fitErr L ⟨st, ov⟩ l sp ac br = 0 then celOne L ⟨st, ov⟩ else 0)], .c (xI (fitErr L ⟨st, ov⟩ l sp ac br))]) [] := by
 have hC := cells_ok L hL st ov hl ho
 have hK := chk_ok nm l sp ac br
 by_cases hc : celErr L ⟨st, ov⟩ = 0
 ·have hr := rte_of (cel_rte hc)
  have hT := travelled_ok st ov hl ⟨hr.ov0, by have := hr.two; simp only at this; omega⟩
  have htl := trv_len hr
  have hr1 := hr.ov0
  have hr3 := hr.len
  simp only at hr1 hr3
  have hV := valid_of hr.lay
  have hn3 := hV.n3
  have hok := all_take hr.ok ((st.length : Int) - ov).toNat
  change (trv ⟨st, ov⟩).all (Stp.ok L) = true at hok
  unfold celOut at hC
  rw [hc, if_pos rfl] at hC
  generalize hts : trv ⟨st, ov⟩ = ts at *
  simp only at htl
  generalize celOne L ⟨st, ov⟩ = one at hC ⊢
  unfold vLay at hC ⊢
  refine X_fn mixedX Tryz.func37 rfl (by kernel_rfl) (Nat.le_of_ble_eq_true (by kernel_rfl)) (by kernel_rfl) rfl rfl (Nat.le_of_ble_eq_true rfl) rfl rfl ?_
  simp only [sl0, Nat.zero_add, Nat.reduceAdd]
  repeat' (first
   |with_reducible (first|refine q_and ?_ ?_|exact True.intro|exact TkEq.nil _|refine Red.o (by constructor) ?_|refine blockK_o' rfl ?_|refine LoopX_e' rfl ?_|assumption)
   |((with_reducible apply q_call);first|refine X_pure (hC) rfl ?_|refine X_pure (hK) rfl ?_|refine X_pure (hT) rfl ?_)
   |((with_reducible apply q_CI);intro hbq;(try simp only [bq] at hbq);(try (exfalso;omega)))
   |refine Rex.o (by (with_reducible constructor);apply Eq.refl) ?_
   |(intro (hgq : (_ : Bool) = true);(try simp only [bq] at hgq))
   |(intro (hgq : (_ : Bool) = false);(try simp only [bq] at hgq))
   |((with_reducible apply q_VOk);exact fun _ => ⟨rfl,rfl⟩)|(intro _;exact rfl)|((with_reducible apply q_CRB);kernel_rfl)|((with_reducible apply q_bt);simp only [bq])|((with_reducible apply q_eqN);rfl)|((with_reducible apply q_FE);exact rfl)|with_reducible (first|exact isByte_wrap _|exact isByte_nat _)|(simp only [hgq,bq];done)|omega|(dsimp only;omega))
  ·rw [fit_1 hc hbq]; rfl
  have hb' := hbq
  clear hC hK hT
  have hq := chk_of hbq
  refine W_loopS (fun i : Nat => SS [sC 3 (pB 0), sC 5 (pB 2), sC 6 (pB 3), sC 8 (rCell (celL L ts)), sI 9 one, sC 29 (rStp ts), sI 30 ts.length, sI 31 i] [bLay L, none, bS5 nm l sp ac br, some (.cells [.c (.f .nils), xI 0])]) (fun i => i ≤ ts.length ∧ ∀ j, j < i → tight L l (ts.getD j st0) = false) (fun i => ts.length - i) 0 ?_ ⟨by omega, fun j hj => by omega⟩ ?_
  ·
   refine X_weak rfl rfl rfl ?_ ?_ <;> repeat' (first|with_reducible (first|refine Wk.o (by constructor) ?_|refine q_and ?_ ?_|exact True.intro)|refine q_AgS rfl ?_ ?_|exact CLe.nil_tipS|exact CLe.nil_rowS|refine HLe.cells ?_ ?_|refine HLe.els ?_ ?_|refine SLe.cons ?_ ?_|exact (rfl : known _ = _)|with_reducible rfl|omega)
  intro i hi
  obtain ⟨hi, hno⟩ := hi
  have hsec : (i : Int) < ts.length → 0 ≤ (ts.getD (i : Int).toNat { sec := 0, dir := 0 }).sec ∧ (ts.getD (i : Int).toNat { sec := 0, dir := 0 }).sec < L.secs.length := fun h => by
   obtain ⟨x, y, _⟩ := ok_dir (all_at (i := i) hok (by omega))
   exact ⟨x, y⟩
  repeat' (first
   |with_reducible (first|refine q_and ?_ ?_|exact True.intro|exact TkEq.nil _|refine Red.o (by constructor) ?_|refine blockK_o' rfl ?_|refine LoopX_e' rfl ?_|assumption)
   |((with_reducible apply q_CI);intro hbq;(try simp only [bq] at hbq);(try (exfalso;omega)))
   |refine Rex.o (by (with_reducible constructor);apply Eq.refl) ?_
   |(intro (hgq : (_ : Bool) = true);(try simp only [bq] at hgq))
   |(intro (hgq : (_ : Bool) = false);(try simp only [bq] at hgq))
   |((with_reducible apply q_VOk);exact fun _ => ⟨rfl,rfl⟩)|(intro _;exact rfl)|((with_reducible apply q_CRB);kernel_rfl)|((with_reducible apply q_bt);simp only [bq])|((with_reducible apply q_eqN);rfl)|((with_reducible apply q_FE);exact rfl)|with_reducible (first|exact isByte_wrap _|exact isByte_nat _)|(simp only [hgq,bq];done)|omega|(dsimp only;omega))
  ·rw [fit_12 hc hb' (any_at (i := i) (by rw [hts]; omega) (by rw [hts]; unfold tight secA; simpa using hbq))]; rfl
  ·
   refine LoopK_n (i + 1) ?_ (⟨by omega, upto_succ hno (by unfold tight secA; simpa using hbq)⟩) (by (try dsimp only); omega)
   refine X_weak rfl rfl rfl ?_ ?_ <;> repeat' (first|with_reducible (first|refine Wk.o (by constructor) ?_|refine q_and ?_ ?_|exact True.intro)|refine q_AgS rfl ?_ ?_|exact CLe.nil_tipS|exact CLe.nil_rowS|refine HLe.cells ?_ ?_|refine HLe.els ?_ ?_|refine SLe.cons ?_ ?_|exact (rfl : known _ = _)|with_reducible rfl|omega)
  ·rw [fit_0 hc hb' (by rw [hts]; exact any_not fun j hj => hno j (by omega))]; rfl
 ·rw [fit_c hc, if_neg hc, if_neg hc]
  unfold celOut celOne at hC
  rw [if_neg hc, if_neg hc] at hC
  unfold vLay at hC ⊢
  refine X_fn mixedX Tryz.func37 rfl (by kernel_rfl) (Nat.le_of_ble_eq_true (by kernel_rfl)) (by kernel_rfl) rfl rfl (Nat.le_of_ble_eq_true rfl) rfl rfl ?_
  simp only [sl0, Nat.zero_add, Nat.reduceAdd]
  repeat' (first
   |with_reducible (first|refine q_and ?_ ?_|exact True.intro|exact TkEq.nil _|refine Red.o (by constructor) ?_|refine blockK_o' rfl ?_|refine LoopX_e' rfl ?_|assumption)
   |((with_reducible apply q_call);refine X_pure (hC) rfl ?_)
   |((with_reducible apply q_CI);intro hbq;(try simp only [bq] at hbq);(try (exfalso;omega)))
   |refine Rex.o (by (with_reducible constructor);apply Eq.refl) ?_
   |(intro (hgq : (_ : Bool) = true);(try simp only [bq] at hgq))
   |(intro (hgq : (_ : Bool) = false);(try simp only [bq] at hgq))
   |((with_reducible apply q_VOk);exact fun _ => ⟨rfl,rfl⟩)|(intro _;exact rfl)|((with_reducible apply q_CRB);kernel_rfl)|((with_reducible apply q_bt);simp only [bq])|((with_reducible apply q_eqN);rfl)|((with_reducible apply q_FE);exact rfl)|with_reducible (first|exact isByte_wrap _|exact isByte_nat _)|(simp only [hgq,bq];done)|omega|(dsimp only;omega))
  ·rfl
theorem fits_ok (L : Lay) (hL : LayFits L) (st : List Stp) (ov : Int) (hl : st.length ≤ 9223372036854775807) (ho : -9223372036854775808 ≤ ov ∧ ov ≤ 9223372036854775807) (nm : ByteArray) (l sp ac br : Int) : OkV Tryz.prog 18 [vLay L, vR2 st ov, vS5 nm l sp ac br] [] (vI (fitErr L ⟨st, ov⟩ l sp ac br)) [] := by
 have hF := fit_ok L hL st ov hl ho nm l sp ac br
 unfold vLay at hF ⊢
 refine X_fn mixedX Tryz.func18 rfl (by kernel_rfl) (Nat.le_of_ble_eq_true (by kernel_rfl)) (by kernel_rfl) rfl rfl (Nat.le_of_ble_eq_true rfl) rfl rfl ?_
 simp only [sl0, Nat.zero_add, Nat.reduceAdd]
 repeat' (first
  |with_reducible (first|refine q_and ?_ ?_|exact True.intro|exact TkEq.nil _|refine Red.o (by constructor) ?_|refine blockK_o' rfl ?_|refine LoopX_e' rfl ?_|assumption)
  |((with_reducible apply q_call);refine X_pure (hF) rfl ?_)
  |((with_reducible apply q_CI);intro hbq;(try simp only [bq] at hbq);(try (exfalso;omega)))
  |refine Rex.o (by (with_reducible constructor);apply Eq.refl) ?_
  |(intro (hgq : (_ : Bool) = true);(try simp only [bq] at hgq))
  |(intro (hgq : (_ : Bool) = false);(try simp only [bq] at hgq))
  |((with_reducible apply q_VOk);exact fun _ => ⟨rfl,rfl⟩)|(intro _;exact rfl)|((with_reducible apply q_CRB);kernel_rfl)|((with_reducible apply q_bt);simp only [bq])|((with_reducible apply q_eqN);rfl)|((with_reducible apply q_FE);exact rfl)|with_reducible (first|exact isByte_wrap _|exact isByte_nat _)|(simp only [hgq,bq];done)|omega|(dsimp only;omega))
 repeat' (first|with_reducible (first|refine Wk.o (by constructor) ?_|refine q_and ?_ ?_|exact True.intro)|refine VEq.c ?_|refine VEq.agg ?_|refine VEq.tup ?_|refine TkEq.cells ?_ ?_|refine TkEq.els ?_ ?_|refine SEqL.cons ?_ ?_|refine TEqL.agg ?_ ?_|refine CEq.rows ?_|refine CEq.int ?_|rfl|omega)
theorem refFits_ok (L : Lay) (hL : LayFits L) (st : List Stp) (ov : Int) (hl : st.length ≤ 9223372036854775807) (ho : -9223372036854775808 ≤ ov ∧ ov ≤ 9223372036854775807) (nm : ByteArray) (l sp ac br : Int) : OkV Tryz.prog 16 [vLay L, vR2 st ov, vS5 nm l sp ac br] [] (vI (fitErr L ⟨st, ov⟩ l sp ac br)) [] := by
 have hC := refCells_ok L hL st ov hl ho
 have hK := chkStock_ok nm l sp ac br
 by_cases hc : celErr L ⟨st, ov⟩ = 0
 ·have hr := rte_of (cel_rte hc)
  have hr1 := hr.ov0
  have hr2 := hr.two
  have hr3 := hr.len
  have hr4 := hr.ok
  simp only at hr1 hr2 hr3 hr4
  have htl := trv_len hr
  have hV := valid_of hr.lay
  have hn3 := hV.n3
  rw [hc] at hC
  unfold vLay at hC ⊢
  refine X_fn mixedX Tryz.func16 rfl (by kernel_rfl) (Nat.le_of_ble_eq_true (by kernel_rfl)) (by kernel_rfl) rfl rfl (Nat.le_of_ble_eq_true rfl) rfl rfl ?_
  simp only [sl0, Nat.zero_add, Nat.reduceAdd]
  repeat' (first
   |with_reducible (first|refine q_and ?_ ?_|exact True.intro|exact TkEq.nil _|refine Red.o (by constructor) ?_|refine blockK_o' rfl ?_|refine LoopX_e' rfl ?_|assumption)
   |((with_reducible apply q_call);first|refine X_pure (hC) rfl ?_|refine X_pure (hK) rfl ?_)
   |((with_reducible apply q_CI);intro hbq;(try simp only [bq] at hbq);(try (exfalso;omega)))
   |refine Rex.o (by (with_reducible constructor);apply Eq.refl) ?_
   |(intro (hgq : (_ : Bool) = true);(try simp only [bq] at hgq))
   |(intro (hgq : (_ : Bool) = false);(try simp only [bq] at hgq))
   |((with_reducible apply q_VOk);exact fun _ => ⟨rfl,rfl⟩)|(intro _;exact rfl)|((with_reducible apply q_CRB);kernel_rfl)|((with_reducible apply q_bt);simp only [bq])|((with_reducible apply q_eqN);rfl)|((with_reducible apply q_FE);exact rfl)|with_reducible (first|exact isByte_wrap _|exact isByte_nat _)|(simp only [hgq,bq];done)|omega|(dsimp only;omega))
  ·rw [fit_1 hc hbq]; rfl
  have hb' := hbq
  clear hC hK
  have hq := chk_of hbq
  refine W_loopS (fun i : Nat => SS [sC 3 (pB 0), sC 4 (pB 1), sC 5 (pB 2), sI 10 i] [bLay L, bRte st ov, bS5 nm l sp ac br]) (fun i => (i : Int) ≤ st.length - ov ∧ ∀ j, j < i → tight L l (st.getD j st0) = false) (fun i => st.length - i) 0 ?_ ⟨by omega, fun j hj => by omega⟩ ?_
  ·
   refine X_weak rfl rfl rfl ?_ ?_ <;> repeat' (first|with_reducible (first|refine Wk.o (by constructor) ?_|refine q_and ?_ ?_|exact True.intro)|refine q_AgS rfl ?_ ?_|exact CLe.nil_tipS|exact CLe.nil_rowS|refine HLe.cells ?_ ?_|refine HLe.els ?_ ?_|refine SLe.cons ?_ ?_|exact (rfl : known _ = _)|with_reducible rfl|omega)
  intro i hi
  obtain ⟨hi, hno⟩ := hi
  have hsec : (i : Int) < st.length - ov → 0 ≤ (st.getD (i : Int).toNat { sec := 0, dir := 0 }).sec ∧ (st.getD (i : Int).toNat { sec := 0, dir := 0 }).sec < L.secs.length := fun h => by
   obtain ⟨x, y, _⟩ := ok_dir (all_at (i := i) hr4 (by omega))
   exact ⟨x, y⟩
  repeat' (first
   |with_reducible (first|refine q_and ?_ ?_|exact True.intro|exact TkEq.nil _|refine Red.o (by constructor) ?_|refine blockK_o' rfl ?_|refine LoopX_e' rfl ?_|assumption)
   |((with_reducible apply q_CI);intro hbq;(try simp only [bq] at hbq);(try (exfalso;omega)))
   |refine Rex.o (by (with_reducible constructor);apply Eq.refl) ?_
   |(intro (hgq : (_ : Bool) = true);(try simp only [bq] at hgq))
   |(intro (hgq : (_ : Bool) = false);(try simp only [bq] at hgq))
   |((with_reducible apply q_VOk);exact fun _ => ⟨rfl,rfl⟩)|(intro _;exact rfl)|((with_reducible apply q_CRB);kernel_rfl)|((with_reducible apply q_bt);simp only [bq])|((with_reducible apply q_eqN);rfl)|((with_reducible apply q_FE);exact rfl)|with_reducible (first|exact isByte_wrap _|exact isByte_nat _)|(simp only [hgq,bq];done)|omega|(dsimp only;omega))
  ·rw [fit_12 hc hb' (any_at (i := i) (by have := htl; simp only at this; omega) (by rw [trv_at hr (by simp only; omega)]; unfold tight secA; simpa using hbq))]; rfl
  ·
   refine LoopK_n (i + 1) ?_ (⟨by omega, upto_succ hno (by unfold tight secA; simpa using hbq)⟩) (by (try dsimp only); omega)
   refine X_weak rfl rfl rfl ?_ ?_ <;> repeat' (first|with_reducible (first|refine Wk.o (by constructor) ?_|refine q_and ?_ ?_|exact True.intro)|refine q_AgS rfl ?_ ?_|exact CLe.nil_tipS|exact CLe.nil_rowS|refine HLe.cells ?_ ?_|refine HLe.els ?_ ?_|refine SLe.cons ?_ ?_|exact (rfl : known _ = _)|with_reducible rfl|omega)
  ·rw [fit_0 hc hb' (any_not fun j hj => by rw [trv_at hr (by simp only at htl ⊢; omega)]; exact hno j (by simp only at htl; omega))]; rfl
 ·rw [fit_c hc]
  unfold vLay at hC ⊢
  refine X_fn mixedX Tryz.func16 rfl (by kernel_rfl) (Nat.le_of_ble_eq_true (by kernel_rfl)) (by kernel_rfl) rfl rfl (Nat.le_of_ble_eq_true rfl) rfl rfl ?_
  simp only [sl0, Nat.zero_add, Nat.reduceAdd]
  repeat' (first
   |with_reducible (first|refine q_and ?_ ?_|exact True.intro|exact TkEq.nil _|refine Red.o (by constructor) ?_|refine blockK_o' rfl ?_|refine LoopX_e' rfl ?_|assumption)
   |((with_reducible apply q_call);refine X_pure (hC) rfl ?_)
   |((with_reducible apply q_CI);intro hbq;(try simp only [bq] at hbq);(try (exfalso;omega)))
   |refine Rex.o (by (with_reducible constructor);apply Eq.refl) ?_
   |(intro (hgq : (_ : Bool) = true);(try simp only [bq] at hgq))
   |(intro (hgq : (_ : Bool) = false);(try simp only [bq] at hgq))
   |((with_reducible apply q_VOk);exact fun _ => ⟨rfl,rfl⟩)|(intro _;exact rfl)|((with_reducible apply q_CRB);kernel_rfl)|((with_reducible apply q_bt);simp only [bq])|((with_reducible apply q_eqN);rfl)|((with_reducible apply q_FE);exact rfl)|with_reducible (first|exact isByte_wrap _|exact isByte_nat _)|(simp only [hgq,bq];done)|omega|(dsimp only;omega))
  ·rfl
theorem lLoop_secs (i : Nat) : ∀ (k : Nat) (x : TBS), (lLoop i k x).2.1.L.secs.length = x.2.1.L.secs.length + k
 | 0, x => rfl
 | k + 1, x => by
  simp only [lLoop]
  rw [lLoop_secs i k (lStep i (k + 1) x)]
  simp only [lStep, Bld.add, List.length_append, List.length_singleton]
  omega
theorem pStep_secs (i : Nat) (x : Bld × Src) : 1 ≤ (pStep i x).1.L.secs.length := by
 have hl := lLoop_secs i (1 + x.2.nx 2) ([], x.1, x.2.af)
 unfold pStep
 generalize lLoop i (1 + x.2.nx 2) ([], x.1, x.2.af) = y at hl ⊢
 simp only
 show 1 ≤ (Bld.fan _ _ _ _).L.secs.length
 rw [fan_secs, fan_secs, cLoop_secs]
 omega
theorem genL_secs (l : List Int) : 1 ≤ (genL l).secs.length := by
 unfold genL rowB
 rw [show 1 + Src.nx ⟨l, 0⟩ 2 = Src.nx ⟨l, 0⟩ 2 + 1 by omega, iter]
 exact pStep_secs _ _
structure RtG where
 st : List Stp
 x : Stp
 n : Nat
 s : Src
def rtNext (L : Lay) (g : RtG) : Stp := ⟨((hopsL L g.x).getD ((g.s.nx (hopsL L g.x).length : Nat) : Int).toNat ⟨0, 0, 0, 0⟩).sec, ((hopsL L g.x).getD ((g.s.nx (hopsL L g.x).length : Nat) : Int).toNat ⟨0, 0, 0, 0⟩).dir⟩
def rtRun (L : Lay) : Nat → RtG → RtG
 | 0, g => g
 | k + 1, g => if hopsL L g.x = [] then g else
  if g.st.any (fun s => decide (s.sec = (rtNext L g).sec)) = true then ⟨g.st, rtNext L g, 0, g.s.af⟩
  else rtRun L k ⟨g.st ++ [rtNext L g], rtNext L g, k, g.s.af⟩
def rtZero (L : Lay) (c : List Int) : RtG :=
 let s : Src := ⟨c, 0⟩
 let x : Stp := ⟨s.nx L.secs.length, s.af.nx 2⟩
 ⟨[x], x, 1 + s.af.af.nx 6, s.af.af.af⟩
def rtG (L : Lay) (c : List Int) : RtG := rtRun L (rtZero L c).n (rtZero L c)
def genOv (L : Lay) (c : List Int) : Int := min ((rtG L c).s.nx 3 : Int) (max 0 ((rtG L c).st.length - 2))
theorem rtRun_len (L : Lay) : ∀ (k : Nat) (g : RtG), g.s.ok → (rtRun L k g).s.ok ∧ g.st.length ≤ (rtRun L k g).st.length ∧ (rtRun L k g).st.length ≤ g.st.length + k
 | 0, g, h => ⟨h, Nat.le_refl _, Nat.le_refl _⟩
 | k + 1, g, h => by
  unfold rtRun
  split
  ·exact ⟨h, Nat.le_refl _, by omega⟩
  ·split
   ·exact ⟨Src.af_ok h, Nat.le_refl _, by simp only; omega⟩
   ·obtain ⟨a, b, c⟩ := rtRun_len L k ⟨g.st ++ [rtNext L g], rtNext L g, k, g.s.af⟩ (Src.af_ok h)
    simp only [List.length_append, List.length_singleton] at b c
    exact ⟨a, by omega, by omega⟩
theorem gen_rt (L : Lay) (c : List Int) (hc : c.length ≤ 9223372036854775807) : (rtG L c).s.ok ∧ 1 ≤ (rtG L c).st.length ∧ (rtG L c).st.length ≤ 7 ∧ 0 ≤ genOv L c ∧ genOv L c ≤ 2 := by
 have h0 : Src.ok ⟨c, 0⟩ := ⟨Nat.zero_le _, hc⟩
 obtain ⟨a, b, d⟩ := rtRun_len L (rtZero L c).n (rtZero L c) (Src.af_ok (Src.af_ok (Src.af_ok h0)))
 have h6 := (⟨c, 0⟩ : Src).af.af.nx_lt (n := 6) (by omega)
 have h3 := (rtG L c).s.nx_lt (n := 3) (by omega)
 have e1 : (rtZero L c).st.length = 1 := rfl
 have e2 : (rtZero L c).n = 1 + (⟨c, 0⟩ : Src).af.af.nx 6 := rfl
 refine ⟨a, ?_, ?_, ?_, ?_⟩
 ·unfold rtG; omega
 ·unfold rtG; omega
 ·unfold genOv; omega
 ·unfold genOv; omega
theorem stock_ok (l : List Int) (hl : l.length ≤ 9223372036854775807) : OkV Tryz.prog 15 [.c (rInt l)] [] (vS5 ⟨#[88]⟩ (1 + (⟨l, 0⟩ : Src).nx 4) (5000 + 2500 * (⟨l, 0⟩ : Src).af.nx 12) (200 + 100 * (⟨l, 0⟩ : Src).af.af.nx 8) (200 + 100 * (⟨l, 0⟩ : Src).af.af.af.nx 8)) [] := by
 have h0 : Src.ok ⟨l, 0⟩ := ⟨Nat.zero_le _, hl⟩
 have hF := from_ok l
 generalize (⟨l, 0⟩ : Src) = s at *
 have k1 := s.nx_lt (n := 4) (by omega)
 have k2 := s.af.nx_lt (n := 12) (by omega)
 have k3 := s.af.af.nx_lt (n := 8) (by omega)
 have k4 := s.af.af.af.nx_lt (n := 8) (by omega)
 have h1 := next_ok s 4 h0 (by omega) (by omega)
 have h2 := next_ok s.af 12 (Src.af_ok h0) (by omega) (by omega)
 have h3 := next_ok s.af.af 8 (Src.af_ok (Src.af_ok h0)) (by omega) (by omega)
 have h4 := next_ok s.af.af.af 8 (Src.af_ok (Src.af_ok (Src.af_ok h0))) (by omega) (by omega)
 refine X_fnP mixedX Tryz.func15 rfl (by kernel_rfl) (Nat.le_of_ble_eq_true (by kernel_rfl)) (by kernel_rfl) rfl rfl ?_
 simp only [sl0, Nat.zero_add, Nat.reduceAdd]
 repeat' (first
  |with_reducible (first|refine q_and ?_ ?_|exact True.intro|exact TkEq.nil _|refine Red.o (by constructor) ?_|refine blockK_o' rfl ?_|refine LoopX_e' rfl ?_|assumption)
  |((with_reducible apply q_call);first|refine X_call [] (hF) rfl rfl rfl rfl rfl rfl rfl rfl rfl rfl rfl rfl rfl ?_|refine X_call [1] (h1) rfl rfl rfl rfl rfl rfl rfl rfl rfl rfl rfl rfl rfl ?_|refine X_call [1] (h2) rfl rfl rfl rfl rfl rfl rfl rfl rfl rfl rfl rfl rfl ?_|refine X_call [1] (h3) rfl rfl rfl rfl rfl rfl rfl rfl rfl rfl rfl rfl rfl ?_|refine X_call [1] (h4) rfl rfl rfl rfl rfl rfl rfl rfl rfl rfl rfl rfl rfl ?_)
  |((with_reducible apply q_CI);intro hbq;(try simp only [bq] at hbq);(try (exfalso;omega)))
  |with_reducible (first|refine W_seq ?_|refine W_block ?_)
  |((with_reducible apply q_cond);refine X_cond rfl ?_ ?_;all_goals (intro hbq;(try simp only [bq] at hbq);(try (exfalso;omega))))
  |refine Rex.o (by (with_reducible constructor);apply Eq.refl) ?_
  |(intro (hgq : (_ : Bool) = true);(try simp only [bq] at hgq))
  |(intro (hgq : (_ : Bool) = false);(try simp only [bq] at hgq))
  |((with_reducible apply q_VOk);exact fun _ => ⟨rfl,rfl⟩)|(intro _;exact rfl)|((with_reducible apply q_CRB);kernel_rfl)|((with_reducible apply q_bt);simp only [bq])|((with_reducible apply q_eqN);rfl)|((with_reducible apply q_FE);exact rfl)|with_reducible (first|exact isByte_wrap _|exact isByte_nat _)|(simp only [hgq,bq];done)|omega|(dsimp only;omega))
 repeat' (first|with_reducible (first|refine Wk.o (by constructor) ?_|refine q_and ?_ ?_|exact True.intro)|refine VEq.c ?_|refine VEq.agg ?_|refine VEq.tup ?_|refine TkEq.cells ?_ ?_|refine TkEq.els ?_ ?_|refine SEqL.cons ?_ ?_|refine TEqL.agg ?_ ?_|refine CEq.rows ?_|refine CEq.int ?_|rfl|omega)
theorem route_ok (L : Lay) (hV : Valid L) (h1 : 1 ≤ L.secs.length) (c : List Int) (hc : c.length ≤ 9223372036854775807) : OkV Tryz.prog 14 [vLay L, .c (rInt c)] [] (vR2 (rtG L c).st (genOv L c)) [] := by
 have h0 : Src.ok ⟨c, 0⟩ := ⟨Nat.zero_le _, hc⟩
 have hn3 := hV.n3
 have hF := from_ok c
 have hH := fun x => refHops_ok L x hV
 have hhl : ∀ x, (hopsL L x).length ≤ 192 := fun x => Nat.le_trans (List.length_filterMap_le _ _) hV.n4
 have hR := gen_rt L c hc
 have hG : rtRun L (rtZero L c).n (rtZero L c) = rtG L c := rfl
 unfold genOv
 unfold rtZero at hG
 generalize rtG L c = R at *
 simp only at hG
 generalize (⟨c, 0⟩ : Src) = s at *
 have k1 := s.nx_lt (n := L.secs.length) (by omega)
 have k2 := s.af.nx_lt (n := 2) (by omega)
 have k3 := s.af.af.nx_lt (n := 6) (by omega)
 have n1 := next_ok s L.secs.length h0 (by omega) (by omega)
 have n2 := next_ok s.af 2 (Src.af_ok h0) (by omega) (by omega)
 have n3 := next_ok s.af.af 6 (Src.af_ok (Src.af_ok h0)) (by omega) (by omega)
 unfold vLay at hH ⊢
 refine X_fnP mixedX Tryz.func14 rfl (by kernel_rfl) (Nat.le_of_ble_eq_true (by kernel_rfl)) (by kernel_rfl) rfl rfl ?_
 simp only [sl0, Nat.zero_add, Nat.reduceAdd]
 repeat' (first
  |with_reducible (first|refine q_and ?_ ?_|exact True.intro|exact TkEq.nil _|refine Red.o (by constructor) ?_|refine blockK_o' rfl ?_|refine LoopX_e' rfl ?_|assumption)
  |((with_reducible apply q_call);first|refine X_call [] (hF) rfl rfl rfl rfl rfl rfl rfl rfl rfl rfl rfl rfl rfl ?_|refine X_call [2] (n1) rfl rfl rfl rfl rfl rfl rfl rfl rfl rfl rfl rfl rfl ?_|refine X_call [2] (n2) rfl rfl rfl rfl rfl rfl rfl rfl rfl rfl rfl rfl rfl ?_|refine X_call [2] (n3) rfl rfl rfl rfl rfl rfl rfl rfl rfl rfl rfl rfl rfl ?_)
  |((with_reducible apply q_CI);intro hbq;(try simp only [bq] at hbq);(try (exfalso;omega)))
  |with_reducible (first|refine W_seq ?_|refine W_block ?_)
  |((with_reducible apply q_cond);refine X_cond rfl ?_ ?_;all_goals (intro hbq;(try simp only [bq] at hbq);(try (exfalso;omega))))
  |refine Rex.o (by (with_reducible constructor);apply Eq.refl) ?_
  |(intro (hgq : (_ : Bool) = true);(try simp only [bq] at hgq))
  |(intro (hgq : (_ : Bool) = false);(try simp only [bq] at hgq))
  |((with_reducible apply q_VOk);exact fun _ => ⟨rfl,rfl⟩)|(intro _;exact rfl)|((with_reducible apply q_CRB);kernel_rfl)|((with_reducible apply q_bt);simp only [bq])|((with_reducible apply q_eqN);rfl)|((with_reducible apply q_FE);exact rfl)|with_reducible (first|exact isByte_wrap _|exact isByte_nat _)|(simp only [hgq,bq];done)|omega|(dsimp only;omega))
 refine W_loopS (fun g : RtG × Int => SS [sC 2 (pB 0), sC 4 (pB 1), sC 5 (pB 2), sC 6 (pB 3), sC 7 (pB 4), sI 8 g.2] [bLay L, some (.cells [.c (.f .nils), xI 0]), some g.1.s.box, some (.cells [uStp g.1.st, xI 0]), some (.cells [xI g.1.x.sec, xI g.1.x.dir])]) (fun g => (g.2 = g.1.n ∨ g.2 ≤ 0 ∧ g.1.n = 0) ∧ -1 ≤ g.2 ∧ g.1.s.ok ∧ g.1.st.length + g.1.n ≤ 7 ∧ rtRun L g.1.n g.1 = R) (fun g => g.2.toNat) (⟨[⟨s.nx L.secs.length, s.af.nx 2⟩], ⟨s.nx L.secs.length, s.af.nx 2⟩, 1 + s.af.af.nx 6, s.af.af.af⟩, 1 + (s.af.af.nx 6 : Nat)) ?_ ⟨.inl (by simp only; omega), by simp only; omega, Src.af_ok (Src.af_ok (Src.af_ok h0)), by simp only [List.length_singleton]; omega, hG⟩ ?_
 ·
  refine X_weak rfl rfl rfl ?_ ?_ <;> repeat' (first|with_reducible (first|refine Wk.o (by constructor) ?_|refine q_and ?_ ?_|exact True.intro)|refine q_AgS rfl ?_ ?_|exact CLe.nil_tipS|exact CLe.nil_rowS|refine HLe.cells ?_ ?_|refine HLe.els ?_ ?_|refine SLe.cons ?_ ?_|exact (rfl : known _ = _)|with_reducible rfl|omega)
  all_goals rfl
 rintro ⟨⟨st, x, n, t⟩, k⟩ ⟨hk, hk1, hs, hlen, hR2⟩
 simp only at hk hk1 hs hlen hR2
 clear hG n1 n2 n3 k1 k2 k3 hF h0
 have hHx := hH x
 have hhx := hhl x
 clear hH hhl
 by_cases hk0 : 0 < k
 ·obtain ⟨m, rfl⟩ : ∃ m, n = m + 1 := ⟨n - 1, by omega⟩
  have hkn : k = (m : Int) + 1 := by omega
  clear hk
  unfold rtRun at hR2
  simp only at hR2
  by_cases hh : (hopsL L x).length = 0
  ·have hh2 : hopsL L x = [] := List.eq_nil_of_length_eq_zero hh
   rw [if_pos hh2] at hR2
   subst hR2
   have nn := next_ok t 3 hs (by omega) (by omega)
   have kk := t.nx_lt (n := 3) (by omega)
   repeat' (first
    |with_reducible (first|refine q_and ?_ ?_|exact True.intro|exact TkEq.nil _|refine Red.o (by constructor) ?_|refine blockK_o' rfl ?_|refine LoopX_e' rfl ?_|assumption)
    |((with_reducible apply q_call);first|refine X_pure (hHx) rfl ?_|refine X_call [2] (nn) rfl rfl rfl rfl rfl rfl rfl rfl rfl rfl rfl rfl rfl ?_)
    |((with_reducible apply q_CI);intro hbq;(try simp only [bq] at hbq);(try (exfalso;omega)))
    |with_reducible (first|refine W_seq ?_|refine W_block ?_)
    |((with_reducible apply q_cond);refine X_cond rfl ?_ ?_;all_goals (intro hbq;(try simp only [bq] at hbq);(try (exfalso;omega))))
    |refine Rex.o (by (with_reducible constructor);apply Eq.refl) ?_
    |(intro (hgq : (_ : Bool) = true);(try simp only [bq] at hgq))
    |(intro (hgq : (_ : Bool) = false);(try simp only [bq] at hgq))
    |((with_reducible apply q_VOk);exact fun _ => ⟨rfl,rfl⟩)|(intro _;exact rfl)|((with_reducible apply q_CRB);kernel_rfl)|((with_reducible apply q_bt);simp only [bq])|((with_reducible apply q_eqN);rfl)|((with_reducible apply q_FE);exact rfl)|with_reducible (first|exact isByte_wrap _|exact isByte_nat _)|(simp only [hgq,bq];done)|omega|(dsimp only;omega))
   ·rfl
  ·have hh2 : ¬ hopsL L x = [] := fun e => hh (by rw [e]; rfl)
   rw [if_neg hh2] at hR2
   have hN := next_ok t (hopsL L x).length hs (by omega) (by omega)
   have hNl := t.nx_lt (n := (hopsL L x).length) (by omega)
   generalize hy : rtNext L ⟨st, x, m + 1, t⟩ = y at *
   have y1 : y.sec = ((hopsL L x).getD ((t.nx (hopsL L x).length : Nat) : Int).toNat ⟨0, 0, 0, 0⟩).sec := by rw [← hy]; rfl
   have y2 : y.dir = ((hopsL L x).getD ((t.nx (hopsL L x).length : Nat) : Int).toNat ⟨0, 0, 0, 0⟩).dir := by rw [← hy]; rfl
   repeat' (first
    |with_reducible (first|refine q_and ?_ ?_|exact True.intro|exact TkEq.nil _|refine Red.o (by constructor) ?_|refine blockK_o' rfl ?_|refine LoopX_e' rfl ?_|assumption)
    |((with_reducible apply q_call);first|refine X_pure (hHx) rfl ?_|refine X_call [2] (hN) rfl rfl rfl rfl rfl rfl rfl rfl rfl rfl rfl rfl rfl ?_)
    |((with_reducible apply q_CI);intro hbq;(try simp only [bq] at hbq);(try (exfalso;omega)))
    |with_reducible (first|refine W_seq ?_|refine W_block ?_)
    |((with_reducible apply q_cond);refine X_cond rfl ?_ ?_;all_goals (intro hbq;(try simp only [bq] at hbq);(try (exfalso;omega))))
    |refine Rex.o (by (with_reducible constructor);apply Eq.refl) ?_
    |(intro (hgq : (_ : Bool) = true);(try simp only [bq] at hgq))
    |(intro (hgq : (_ : Bool) = false);(try simp only [bq] at hgq))
    |((with_reducible apply q_VOk);exact fun _ => ⟨rfl,rfl⟩)|(intro _;exact rfl)|((with_reducible apply q_CRB);kernel_rfl)|((with_reducible apply q_bt);simp only [bq])|((with_reducible apply q_eqN);rfl)|((with_reducible apply q_FE);exact rfl)|with_reducible (first|exact isByte_wrap _|exact isByte_nat _)|(simp only [hgq,bq];done)|omega|(dsimp only;omega))
   refine W_loopS (fun g : Nat × Int => SS [sC 2 (pB 0), sC 4 (pB 1), sC 5 (pB 2), sC 6 (pB 3), sC 7 (pB 4), sI 8 g.2, sI 50 st.length, sI 51 g.1] [bLay L, some (.cells [.c (.f .nils), xI 0]), some t.af.box, some (.cells [uStp st, xI 0]), some (.cells [xI y.sec, xI y.dir])]) (fun g => g.1 ≤ st.length ∧ g.2 = if (st.take g.1).any (fun s => decide (s.sec = y.sec)) = true then 0 else k) (fun g => st.length - g.1) (0, k) ?_ ⟨by simp only; omega, rfl⟩ ?_
   ·
    refine X_weak rfl rfl rfl ?_ ?_ <;> repeat' (first|with_reducible (first|refine Wk.o (by constructor) ?_|refine q_and ?_ ?_|exact True.intro)|refine q_AgS rfl ?_ ?_|exact CLe.nil_tipS|exact CLe.nil_rowS|refine HLe.cells ?_ ?_|refine HLe.els ?_ ?_|refine SLe.cons ?_ ?_|exact (rfl : known _ = _)|with_reducible rfl|omega)
    all_goals first | exact y1 | exact y2 | exact y1.symm | exact y2.symm
   rintro ⟨i, v⟩ ⟨hi, hv⟩
   simp only at hi hv
   have htk : i < st.length → (st.take (i + 1)).any (fun s => decide (s.sec = y.sec)) = ((st.take i).any (fun s => decide (s.sec = y.sec)) || decide ((st.getD i st0).sec = y.sec)) := fun h => by
    rw [take_snoc h, List.any_append, List.any_cons, List.any_nil, Bool.or_false]
   by_cases hil : i < st.length
   ·by_cases he : (st.getD (i : Int).toNat { sec := 0, dir := 0 }).sec = y.sec
    ·
     repeat' (first
      |with_reducible (first|refine q_and ?_ ?_|exact True.intro|exact TkEq.nil _|refine Red.o (by constructor) ?_|refine blockK_o' rfl ?_|refine LoopX_e' rfl ?_|assumption)
      |((with_reducible apply q_CI);intro hbq;(try simp only [bq] at hbq);(try (exfalso;omega)))
      |with_reducible (first|refine W_seq ?_|refine W_block ?_)
      |((with_reducible apply q_cond);refine X_cond rfl ?_ ?_;all_goals (intro hbq;(try simp only [bq] at hbq);(try (exfalso;omega))))
      |refine Rex.o (by (with_reducible constructor);apply Eq.refl) ?_
      |(intro (hgq : (_ : Bool) = true);(try simp only [bq] at hgq))
      |(intro (hgq : (_ : Bool) = false);(try simp only [bq] at hgq))
      |((with_reducible apply q_VOk);exact fun _ => ⟨rfl,rfl⟩)|(intro _;exact rfl)|((with_reducible apply q_CRB);kernel_rfl)|((with_reducible apply q_bt);simp only [bq])|((with_reducible apply q_eqN);rfl)|((with_reducible apply q_FE);exact rfl)|with_reducible (first|exact isByte_wrap _|exact isByte_nat _)|(simp only [hgq,bq];done)|omega|(dsimp only;omega))
     ·
      refine LoopK_n ((i + 1, 0)) ?_ (⟨by simp only; omega, by simp only; rw [htk hil, if_pos (by rw [Bool.or_eq_true]; right; exact decide_eq_true he)]⟩) (by (try dsimp only); omega)
      refine X_weak rfl rfl rfl ?_ ?_ <;> repeat' (first|with_reducible (first|refine Wk.o (by constructor) ?_|refine q_and ?_ ?_|exact True.intro)|refine q_AgS rfl ?_ ?_|exact CLe.nil_tipS|exact CLe.nil_rowS|refine HLe.cells ?_ ?_|refine HLe.els ?_ ?_|refine SLe.cons ?_ ?_|exact (rfl : known _ = _)|with_reducible rfl|omega)
    ·
     repeat' (first
      |with_reducible (first|refine q_and ?_ ?_|exact True.intro|exact TkEq.nil _|refine Red.o (by constructor) ?_|refine blockK_o' rfl ?_|refine LoopX_e' rfl ?_|assumption)
      |((with_reducible apply q_CI);intro hbq;(try simp only [bq] at hbq);(try (exfalso;omega)))
      |with_reducible (first|refine W_seq ?_|refine W_block ?_)
      |((with_reducible apply q_cond);refine X_cond rfl ?_ ?_;all_goals (intro hbq;(try simp only [bq] at hbq);(try (exfalso;omega))))
      |refine Rex.o (by (with_reducible constructor);apply Eq.refl) ?_
      |(intro (hgq : (_ : Bool) = true);(try simp only [bq] at hgq))
      |(intro (hgq : (_ : Bool) = false);(try simp only [bq] at hgq))
      |((with_reducible apply q_VOk);exact fun _ => ⟨rfl,rfl⟩)|(intro _;exact rfl)|((with_reducible apply q_CRB);kernel_rfl)|((with_reducible apply q_bt);simp only [bq])|((with_reducible apply q_eqN);rfl)|((with_reducible apply q_FE);exact rfl)|with_reducible (first|exact isByte_wrap _|exact isByte_nat _)|(simp only [hgq,bq];done)|omega|(dsimp only;omega))
     ·
      refine LoopK_n ((i + 1, v)) ?_ (⟨by simp only; omega, by simp only; rw [htk hil, decide_eq_false (show ¬ (st.getD i st0).sec = y.sec from he), Bool.or_false]; exact hv⟩) (by (try dsimp only); omega)
      refine X_weak rfl rfl rfl ?_ ?_ <;> repeat' (first|with_reducible (first|refine Wk.o (by constructor) ?_|refine q_and ?_ ?_|exact True.intro)|refine q_AgS rfl ?_ ?_|exact CLe.nil_tipS|exact CLe.nil_rowS|refine HLe.cells ?_ ?_|refine HLe.els ?_ ?_|refine SLe.cons ?_ ?_|exact (rfl : known _ = _)|with_reducible rfl|omega)
   ·have hie : i = st.length := by omega
    subst hie
    rw [List.take_length] at hv
    by_cases hd : st.any (fun s => decide (s.sec = y.sec)) = true
    ·rw [if_pos hd] at hv hR2
     repeat' (first
      |with_reducible (first|refine q_and ?_ ?_|exact True.intro|exact TkEq.nil _|refine Red.o (by constructor) ?_|refine blockK_o' rfl ?_|refine LoopX_e' rfl ?_|assumption)
      |((with_reducible apply q_CI);intro hbq;(try simp only [bq] at hbq);(try (exfalso;omega)))
      |with_reducible (first|refine W_seq ?_|refine W_block ?_)
      |((with_reducible apply q_cond);refine X_cond rfl ?_ ?_;all_goals (intro hbq;(try simp only [bq] at hbq);(try (exfalso;omega))))
      |refine Rex.o (by (with_reducible constructor);apply Eq.refl) ?_
      |(intro (hgq : (_ : Bool) = true);(try simp only [bq] at hgq))
      |(intro (hgq : (_ : Bool) = false);(try simp only [bq] at hgq))
      |((with_reducible apply q_VOk);exact fun _ => ⟨rfl,rfl⟩)|(intro _;exact rfl)|((with_reducible apply q_CRB);kernel_rfl)|((with_reducible apply q_bt);simp only [bq])|((with_reducible apply q_eqN);rfl)|((with_reducible apply q_FE);exact rfl)|with_reducible (first|exact isByte_wrap _|exact isByte_nat _)|(simp only [hgq,bq];done)|omega|(dsimp only;omega))
     ·
      refine LoopK_n ((⟨st, y, 0, t.af⟩, -1)) ?_ (⟨.inr ⟨by simp only; omega, rfl⟩, by simp only; omega, Src.af_ok hs, by simp only; omega, hR2⟩) (by (try dsimp only); omega)
      refine X_weak rfl rfl rfl ?_ ?_ <;> repeat' (first|with_reducible (first|refine Wk.o (by constructor) ?_|refine q_and ?_ ?_|exact True.intro)|refine q_AgS rfl ?_ ?_|exact CLe.nil_tipS|exact CLe.nil_rowS|refine HLe.cells ?_ ?_|refine HLe.els ?_ ?_|refine SLe.cons ?_ ?_|exact (rfl : known _ = _)|with_reducible rfl|omega)
    ·rw [if_neg hd] at hv hR2
     repeat' (first
      |with_reducible (first|refine q_and ?_ ?_|exact True.intro|exact TkEq.nil _|refine Red.o (by constructor) ?_|refine blockK_o' rfl ?_|refine LoopX_e' rfl ?_|assumption)
      |((with_reducible apply q_CI);intro hbq;(try simp only [bq] at hbq);(try (exfalso;omega)))
      |with_reducible (first|refine W_seq ?_|refine W_block ?_)
      |((with_reducible apply q_cond);refine X_cond rfl ?_ ?_;all_goals (intro hbq;(try simp only [bq] at hbq);(try (exfalso;omega))))
      |refine Rex.o (by (with_reducible constructor);apply Eq.refl) ?_
      |(intro (hgq : (_ : Bool) = true);(try simp only [bq] at hgq))
      |(intro (hgq : (_ : Bool) = false);(try simp only [bq] at hgq))
      |((with_reducible apply q_VOk);exact fun _ => ⟨rfl,rfl⟩)|(intro _;exact rfl)|((with_reducible apply q_CRB);kernel_rfl)|((with_reducible apply q_bt);simp only [bq])|((with_reducible apply q_eqN);rfl)|((with_reducible apply q_FE);exact rfl)|with_reducible (first|exact isByte_wrap _|exact isByte_nat _)|(simp only [hgq,bq];done)|omega|(dsimp only;omega))
     ·
      refine LoopK_n ((⟨st ++ [y], y, m, t.af⟩, (m : Int))) ?_ (⟨.inl rfl, by simp only; omega, Src.af_ok hs, by simp only [List.length_append, List.length_singleton]; omega, hR2⟩) (by (try dsimp only); omega)
      refine X_weak rfl rfl rfl ?_ ?_ <;> repeat' (first|with_reducible (first|refine Wk.o (by constructor) ?_|refine q_and ?_ ?_|exact True.intro)|refine q_AgS rfl ?_ ?_|exact CLe.nil_tipS|exact CLe.nil_rowS|refine HLe.cells ?_ ?_|refine HLe.els ?_ ?_|refine SLe.cons ?_ ?_|exact (rfl : known _ = _)|with_reducible rfl|omega)
 ·have hn0 : n = 0 := by omega
  subst hn0
  have hR3 : R = ⟨st, x, 0, t⟩ := hR2.symm
  subst hR3
  have nn := next_ok t 3 hs (by omega) (by omega)
  have kk := t.nx_lt (n := 3) (by omega)
  repeat' (first
   |with_reducible (first|refine q_and ?_ ?_|exact True.intro|exact TkEq.nil _|refine Red.o (by constructor) ?_|refine blockK_o' rfl ?_|refine LoopX_e' rfl ?_|assumption)
   |((with_reducible apply q_call);refine X_call [2] (nn) rfl rfl rfl rfl rfl rfl rfl rfl rfl rfl rfl rfl rfl ?_)
   |((with_reducible apply q_CI);intro hbq;(try simp only [bq] at hbq);(try (exfalso;omega)))
   |with_reducible (first|refine W_seq ?_|refine W_block ?_)
   |((with_reducible apply q_cond);refine X_cond rfl ?_ ?_;all_goals (intro hbq;(try simp only [bq] at hbq);(try (exfalso;omega))))
   |refine Rex.o (by (with_reducible constructor);apply Eq.refl) ?_
   |(intro (hgq : (_ : Bool) = true);(try simp only [bq] at hgq))
   |(intro (hgq : (_ : Bool) = false);(try simp only [bq] at hgq))
   |((with_reducible apply q_VOk);exact fun _ => ⟨rfl,rfl⟩)|(intro _;exact rfl)|((with_reducible apply q_CRB);kernel_rfl)|((with_reducible apply q_bt);simp only [bq])|((with_reducible apply q_eqN);rfl)|((with_reducible apply q_FE);exact rfl)|with_reducible (first|exact isByte_wrap _|exact isByte_nat _)|(simp only [hgq,bq];done)|omega|(dsimp only;omega))
  ·rfl
def exTxt : List UInt8 := [115, 101, 99, 116, 105, 111, 110, 32, 88, 32, 52, 48, 32, 51, 48, 48, 48, 48, 32, 48, 10, 115, 101, 99, 116, 105, 111, 110, 32, 89, 32, 50, 48, 32, 51, 48, 48, 48, 48, 32, 48, 10, 115, 101, 99, 116, 105, 111, 110, 32, 90, 32, 50, 48, 32, 51, 48, 48, 48, 48, 32, 48, 10, 108, 105, 110, 107, 32, 88, 32, 66, 32, 89, 32, 65, 10, 108, 105, 110, 107, 32, 89, 32, 66, 32, 90, 32, 65, 10]
def exL : Lay := ⟨[], [], [⟨bL [88], 40, 30000, 0, -1⟩, ⟨bL [89], 20, 30000, 0, -1⟩, ⟨bL [90], 20, 30000, 0, -1⟩], [⟨0, 1, 1, 0, -1, 0⟩, ⟨1, 1, 2, 0, -1, 0⟩]⟩
def exSt : List Stp := [⟨0, 0⟩, ⟨1, 0⟩, ⟨2, 0⟩]
theorem exL_fits : LayFits exL := ⟨fun x hx => (by cases hx), fun x hx => (by cases hx), fun x hx => (by
 simp only [exL, List.map_cons, List.map_nil, List.mem_cons, List.not_mem_nil, or_false] at hx
 rcases hx with rfl | rfl | rfl <;> decide), by decide, by decide, by decide, by decide⟩
theorem exL_ok : layErr exL = 0 := by kernel_rfl
theorem ex_parse : parseL exTxt = some exL := by kernel_rfl
theorem ex_lines : okF (exTxt.length + 1) exTxt 1 = true := by kernel_rfl
theorem ex_many : (linesF (exTxt.length + 1) exTxt 1).length ≤ 500 := by
 have h : (linesF (exTxt.length + 1) exTxt 1).length = 5 := by kernel_rfl
 omega
theorem ex_fit : fitErr exL ⟨exSt, 0⟩ 20 30000 500 500 = 0 := by kernel_rfl
theorem ex_fit2 : fitErr exL ⟨exSt, 0⟩ 21 30000 500 500 = 12 := by kernel_rfl
theorem example_ok : OkV Tryz.prog 19 [] [] (vLay exL) [] := by
 have hP := parse_ok exTxt exL (by decide) ex_lines ex_parse ex_many exL_ok exL_fits
 generalize exL = L at *
 unfold exTxt bL at hP
 unfold vLay
 refine X_fnP mixedX Tryz.func19 rfl (by kernel_rfl) (Nat.le_of_ble_eq_true (by kernel_rfl)) (by kernel_rfl) rfl rfl ?_
 simp only [sl0, Nat.zero_add, Nat.reduceAdd]
 repeat' (first
  |with_reducible (first|refine q_and ?_ ?_|exact True.intro|exact TkEq.nil _|refine Red.o (by constructor) ?_|refine blockK_o' rfl ?_|refine LoopX_e' rfl ?_|assumption)
  |((with_reducible apply q_call);refine X_pure (hP) rfl ?_)
  |((with_reducible apply q_CI);intro hbq;(try simp only [bq] at hbq);(try (exfalso;omega)))
  |with_reducible (first|refine W_seq ?_|refine W_block ?_)
  |((with_reducible apply q_cond);refine X_cond rfl ?_ ?_;all_goals (intro hbq;(try simp only [bq] at hbq);(try (exfalso;omega))))
  |refine Rex.o (by (with_reducible constructor);apply Eq.refl) ?_
  |(intro (hgq : (_ : Bool) = true);(try simp only [bq] at hgq))
  |(intro (hgq : (_ : Bool) = false);(try simp only [bq] at hgq))
  |((with_reducible apply q_VOk);exact fun _ => ⟨rfl,rfl⟩)|(intro _;exact rfl)|((with_reducible apply q_CRB);kernel_rfl)|((with_reducible apply q_bt);simp only [bq])|((with_reducible apply q_eqN);rfl)|((with_reducible apply q_FE);exact rfl)|with_reducible (first|exact isByte_wrap _|exact isByte_nat _)|(simp only [hgq,bq];done)|omega|(dsimp only;omega))
 repeat' (first|with_reducible (first|refine Wk.o (by constructor) ?_|refine q_and ?_ ?_|exact True.intro)|refine VEq.c ?_|refine VEq.agg ?_|refine VEq.tup ?_|refine TkEq.cells ?_ ?_|refine TkEq.els ?_ ?_|refine SEqL.cons ?_ ?_|refine TEqL.agg ?_ ?_|refine CEq.rows ?_|refine CEq.int ?_|rfl|omega)
theorem whole_ok : OkV Tryz.prog 20 [] [] (vR2 exSt 0) [] := by
 unfold exSt
 refine X_fnP mixedX Tryz.func20 rfl (by kernel_rfl) (Nat.le_of_ble_eq_true (by kernel_rfl)) (by kernel_rfl) rfl rfl ?_
 simp only [sl0, Nat.zero_add, Nat.reduceAdd]
 repeat' (first
  |with_reducible (first|refine q_and ?_ ?_|exact True.intro|exact TkEq.nil _|refine Red.o (by constructor) ?_|refine blockK_o' rfl ?_|refine LoopX_e' rfl ?_|assumption)
  |((with_reducible apply q_CI);intro hbq;(try simp only [bq] at hbq);(try (exfalso;omega)))
  |with_reducible (first|refine W_seq ?_|refine W_block ?_)
  |((with_reducible apply q_cond);refine X_cond rfl ?_ ?_;all_goals (intro hbq;(try simp only [bq] at hbq);(try (exfalso;omega))))
  |refine Rex.o (by (with_reducible constructor);apply Eq.refl) ?_
  |(intro (hgq : (_ : Bool) = true);(try simp only [bq] at hgq))
  |(intro (hgq : (_ : Bool) = false);(try simp only [bq] at hgq))
  |((with_reducible apply q_VOk);exact fun _ => ⟨rfl,rfl⟩)|(intro _;exact rfl)|((with_reducible apply q_CRB);kernel_rfl)|((with_reducible apply q_bt);simp only [bq])|((with_reducible apply q_eqN);rfl)|((with_reducible apply q_FE);exact rfl)|with_reducible (first|exact isByte_wrap _|exact isByte_nat _)|(simp only [hgq,bq];done)|omega|(dsimp only;omega))
 repeat' (first|with_reducible (first|refine Wk.o (by constructor) ?_|refine q_and ?_ ?_|exact True.intro)|refine VEq.c ?_|refine VEq.agg ?_|refine VEq.tup ?_|refine TkEq.cells ?_ ?_|refine TkEq.els ?_ ?_|refine SEqL.cons ?_ ?_|refine TEqL.agg ?_ ?_|refine CEq.rows ?_|refine CEq.int ?_|rfl|omega)
theorem stock1_ok : OkV Tryz.prog 17 [] [] (vS5 ⟨#[83]⟩ 20 30000 500 500) [] := by
 refine X_fnP mixedX Tryz.func17 rfl (by kernel_rfl) (Nat.le_of_ble_eq_true (by kernel_rfl)) (by kernel_rfl) rfl rfl ?_
 simp only [sl0, Nat.zero_add, Nat.reduceAdd]
 repeat' (first
  |with_reducible (first|refine q_and ?_ ?_|exact True.intro|exact TkEq.nil _|refine Red.o (by constructor) ?_|refine blockK_o' rfl ?_|refine LoopX_e' rfl ?_|assumption)
  |((with_reducible apply q_CI);intro hbq;(try simp only [bq] at hbq);(try (exfalso;omega)))
  |with_reducible (first|refine W_seq ?_|refine W_block ?_)
  |((with_reducible apply q_cond);refine X_cond rfl ?_ ?_;all_goals (intro hbq;(try simp only [bq] at hbq);(try (exfalso;omega))))
  |refine Rex.o (by (with_reducible constructor);apply Eq.refl) ?_
  |(intro (hgq : (_ : Bool) = true);(try simp only [bq] at hgq))
  |(intro (hgq : (_ : Bool) = false);(try simp only [bq] at hgq))
  |((with_reducible apply q_VOk);exact fun _ => ⟨rfl,rfl⟩)|(intro _;exact rfl)|((with_reducible apply q_CRB);kernel_rfl)|((with_reducible apply q_bt);simp only [bq])|((with_reducible apply q_eqN);rfl)|((with_reducible apply q_FE);exact rfl)|with_reducible (first|exact isByte_wrap _|exact isByte_nat _)|(simp only [hgq,bq];done)|omega|(dsimp only;omega))
 repeat' (first|with_reducible (first|refine Wk.o (by constructor) ?_|refine q_and ?_ ?_|exact True.intro)|refine VEq.c ?_|refine VEq.agg ?_|refine VEq.tup ?_|refine TkEq.cells ?_ ?_|refine TkEq.els ?_ ?_|refine SEqL.cons ?_ ?_|refine TEqL.agg ?_ ?_|refine CEq.rows ?_|refine CEq.int ?_|rfl|omega)
theorem awake_ok : OkV Tryz.prog 6 [] [] (vB true) [] := by
 have h1 := example_ok
 have h2 := whole_ok
 have h3 := stock1_ok
 have h4 := fits_ok exL exL_fits exSt 0 (by decide) (by omega) ⟨#[83]⟩ 20 30000 500 500
 have h5 := fits_ok exL exL_fits exSt 0 (by decide) (by omega) ⟨#[83]⟩ 21 30000 500 500
 rw [ex_fit] at h4
 rw [ex_fit2] at h5
 generalize exL = L at *
 generalize exSt = st at *
 unfold vLay at h1 h4 h5
 refine X_fnP mixedX Tryz.func6 rfl (by kernel_rfl) (Nat.le_of_ble_eq_true (by kernel_rfl)) (by kernel_rfl) rfl rfl ?_
 simp only [sl0, Nat.zero_add, Nat.reduceAdd]
 repeat' (first
  |with_reducible (first|refine q_and ?_ ?_|exact True.intro|exact TkEq.nil _|refine Red.o (by constructor) ?_|refine blockK_o' rfl ?_|refine LoopX_e' rfl ?_|assumption)
  |((with_reducible apply q_call);first|refine X_pure (h1) rfl ?_|refine X_pure (h2) rfl ?_|refine X_pure (h3) rfl ?_|refine X_pure (h4) rfl ?_)
  |((with_reducible apply q_callG);refine X_pureG ((fun _ => h1)) rfl ?_ ?_)
  |((with_reducible apply q_callG);refine X_pureG ((fun _ => h2)) rfl ?_ ?_)
  |((with_reducible apply q_callG);refine X_pureG ((fun _ => h5)) rfl ?_ ?_)
  |((with_reducible apply q_CI);intro hbq;(try simp only [bq] at hbq);(try (exfalso;omega)))
  |with_reducible (first|refine W_seq ?_|refine W_block ?_)
  |((with_reducible apply q_cond);refine X_cond rfl ?_ ?_;all_goals (intro hbq;(try simp only [bq] at hbq);(try (exfalso;omega))))
  |refine Rex.o (by (with_reducible constructor);apply Eq.refl) ?_
  |(intro (hgq : (_ : Bool) = true);(try simp only [bq] at hgq))
  |(intro (hgq : (_ : Bool) = false);(try simp only [bq] at hgq))
  |((with_reducible apply q_VOk);exact fun _ => ⟨rfl,rfl⟩)|(intro _;exact rfl)|((with_reducible apply q_CRB);kernel_rfl)|((with_reducible apply q_bt);simp only [bq])|((with_reducible apply q_eqN);rfl)|((with_reducible apply q_FE);exact rfl)|with_reducible (first|exact isByte_wrap _|exact isByte_nat _)|(simp only [hgq,bq];done)|omega|(dsimp only;omega))
 repeat' (first|with_reducible (first|refine Wk.o (by constructor) ?_|refine q_and ?_ ?_|exact True.intro)|refine VEq.c ?_|refine VEq.agg ?_|refine VEq.tup ?_|refine TkEq.cells ?_ ?_|refine TkEq.els ?_ ?_|refine SEqL.cons ?_ ?_|refine TEqL.agg ?_ ?_|refine CEq.rows ?_|refine CEq.int ?_|rfl|omega)
theorem valid_fits {L : Lay} (h : Valid L) : LayFits L := by
 obtain ⟨n1, n2, n3, n4, n5, v1, v2, v3, v4⟩ := h
 refine ⟨fun x hx => ?_, fun x hx => ?_, fun x hx => ?_, by omega, by omega, by omega, by omega⟩
 ·have := nameB_size (v1 x hx); omega
 ·have := nameB_size (v2 x hx); omega
 ·obtain ⟨y, hy, rfl⟩ := List.mem_map.1 hx
  have := nameB_size (v3 y hy).1; omega
abbrev secN (L : Lay) (ts : List Stp) (k : Nat) : Nat := (L.secs.getD (ts.getD k st0).sec.toNat sec0).len.toNat
def endA (L : Lay) (ts : List Stp) : Nat → Nat
 | 0 => 0
 | k + 1 => endA L ts k + secN L ts (k + 1)
def rideT (L : Lay) (r : Rte) (l sp ac br : Int) : Nat → Int := tim (celL L (trv r)) (celOne L r).toNat l.toNat sp ac br
structure Ride (L : Lay) (r : Rte) (l sp ac br : Int) : Prop where
 rt : RteOk L r
 cel : celErr L r = 0
 chk : chkB l sp ac br = true
 n : ((trv r).length : Int) = r.st.length - r.ov
 n2 : 2 ≤ (trv r).length
 n24 : (trv r).length ≤ 24
 sec : ∀ k, k < (trv r).length → 0 ≤ ((trv r).getD k st0).sec ∧ ((trv r).getD k st0).sec < L.secs.length
 len : ∀ k, k < (trv r).length → 2 ≤ secN L (trv r) k ∧ l ≤ secN L (trv r) k ∧ secN L (trv r) k ≤ 400
 leni : ∀ k, k < (trv r).length → (L.secs.getD ((trv r).getD k st0).sec.toNat sec0).len = secN L (trv r) k
 one : celOne L r = secN L (trv r) 0
 all : (celL L (trv r)).length = secN L (trv r) 0 + endA L (trv r) ((trv r).length - 1)
 bad : badRun (celL L (trv r)) (celOne L r) l sp ac br = 0
 tl : timeL (celL L (trv r)) (celOne L r) l sp ac br = row (endA L (trv r) ((trv r).length - 1) + 1) (rideT L r l sp ac br)
 rng : ∀ j, j ≤ endA L (trv r) ((trv r).length - 1) → 0 ≤ rideT L r l sp ac br j ∧ rideT L r l sp ac br j ≤ 80000000
theorem endA_mono (L : Lay) (ts : List Stp) {i j : Nat} (h : i ≤ j) : endA L ts i ≤ endA L ts j := by
 induction j with
 | zero => rw [Nat.le_zero.1 h]; exact Nat.le_refl _
 | succ j ih =>
  rcases Nat.lt_or_ge i (j + 1) with h1 | h1
  ·exact Nat.le_trans (ih (by omega)) (Nat.le_add_right _ _)
  ·rw [show i = j + 1 by omega]; exact Nat.le_refl _
theorem celL_endA (L : Lay) (ts : List Stp) : ∀ k, k < ts.length → (celL L (ts.take (k + 1))).length = secN L ts 0 + endA L ts k
 | 0, h => by
  rw [celL_snoc L h, List.length_append]
  simp [celL, celsOf, secN, endA]
 | k + 1, h => by
  rw [celL_snoc L h, List.length_append, celL_endA L ts k (by omega)]
  simp only [celsOf, List.length_replicate, endA, secN, secA]
  omega
theorem cel_all {L : Lay} (hV : Valid L) : ∀ {l : List Stp}, l.all (Stp.ok L) = true → (celL L l).all cellB = true
 | [], _ => rfl
 | s :: l, h => by
  rw [List.all_cons, Bool.and_eq_true] at h
  have ih := cel_all hV h.2
  obtain ⟨a, b, _⟩ := ok_dir h.1
  have h2 := secB_of (sec_of hV (i := s.sec.toNat) (by omega))
  unfold celL at ih ⊢
  rw [List.flatMap_cons, List.all_append, ih, Bool.and_true, List.all_eq_true]
  intro c hc
  rw [(List.mem_replicate.1 hc).2]
  unfold celOf cellB secA
  rw [decide_eq_true_eq]
  split <;> (simp only; omega)
theorem ride_of {L : Lay} {r : Rte} {l sp ac br : Int} (h : fitErr L r l sp ac br = 0) : Ride L r l sp ac br := by
 have hc : celErr L r = 0 := by
  unfold fitErr at h
  split at h
  ·exact h
  ·rename_i h2; simpa using h2
 unfold fitErr at h
 rw [if_neg (by simpa using hc)] at h
 by_cases hk : chkB l sp ac br = false
 ·rw [if_pos hk] at h; cases h
 rw [if_neg hk] at h
 by_cases ht : (trv r).any (tight L l) = true
 ·rw [if_pos ht] at h; cases h
 clear h
 have hk : chkB l sp ac br = true := by simpa using hk
 have hq := chk_of hk
 have hr := rte_of (cel_rte hc)
 have hV := valid_of hr.lay
 have hn := trv_len hr
 have h1 := hr.two
 have h2 := hr.ov0
 have h3 := hr.len
 have hok : (trv r).all (Stp.ok L) = true := all_take hr.ok _
 have hsec : ∀ k, k < (trv r).length → 0 ≤ ((trv r).getD k st0).sec ∧ ((trv r).getD k st0).sec < L.secs.length := fun k hk => by
  obtain ⟨a, b, _⟩ := ok_dir (all_at hok hk)
  exact ⟨a, b⟩
 have hb : ∀ k, k < (trv r).length → 1 ≤ (secA L ((trv r).getD k st0)).len ∧ (secA L ((trv r).getD k st0)).len ≤ 400 ∧ max 2 l ≤ (secA L ((trv r).getD k st0)).len := fun k hk => by
  have h4 := secB_of (sec_of hV (i := ((trv r).getD k st0).sec.toNat) (by have := hsec k hk; omega))
  have h5 : tight L l ((trv r).getD k st0) = false := by
   cases e : tight L l ((trv r).getD k st0)
   ·rfl
   ·exact absurd (any_at hk e) ht
  unfold tight at h5
  rw [decide_eq_false_iff_not] at h5
  exact ⟨h4.1, h4.2.1, by omega⟩
 have hlen : ∀ k, k < (trv r).length → 2 ≤ secN L (trv r) k ∧ l ≤ secN L (trv r) k ∧ secN L (trv r) k ≤ 400 := fun k hk => by
  have := hb k hk
  unfold secA at this
  unfold secN
  omega
 have hli : ∀ k, k < (trv r).length → (L.secs.getD ((trv r).getD k st0).sec.toNat sec0).len = secN L (trv r) k := fun k hk => by
  have := hb k hk
  unfold secA at this
  unfold secN
  omega
 have hall := celL_endA L (trv r) ((trv r).length - 1) (by omega)
 rw [show (trv r).length - 1 + 1 = (trv r).length by omega, List.take_length] at hall
 have hone : celOne L r = secN L (trv r) 0 := by
  unfold celOne
  rw [if_pos hc, ← hli 0 (by omega), trv_at hr (by omega)]
 have hc4 : (celL L (trv r)).length ≤ 4000 := by
  unfold celErr at hc
  rw [if_neg (by simpa using cel_rte hc)] at hc
  split at hc
  ·cases hc
  ·omega
 have he1 : endA L (trv r) 1 ≤ endA L (trv r) ((trv r).length - 1) := endA_mono L (trv r) (by omega)
 have he2 : endA L (trv r) 1 = secN L (trv r) 1 := Nat.zero_add _
 have hl1 := hlen 1 (by omega)
 have hbad : badRun (celL L (trv r)) (celOne L r) l sp ac br = 0 := bad_0 hk (by omega) (cel_all hV hok) (by rw [hone]; omega)
 have htl : timeL (celL L (trv r)) (celOne L r) l sp ac br = row (endA L (trv r) ((trv r).length - 1) + 1) (rideT L r l sp ac br) := by
  unfold timeL rideT
  rw [if_pos hbad, hall, hone, Int.toNat_natCast, Nat.add_sub_cancel_left]
 refine ⟨hr, hc, hk, hn, by omega, by omega, hsec, hlen, hli, hone, hall, hbad, htl, fun j hj => ?_⟩
 have h5 := tim_range (start := (celOne L r).toNat) (l := l.toNat) hq.2.2.1 hq.2.2.2.1 hq.2.2.2.2.1 hq.2.2.2.2.2.1 hq.2.2.2.2.2.2.1 hq.2.2.2.2.2.2.2 (cel_all hV hok) (by rw [hone, Int.toNat_natCast]; omega) j (by rw [hone, Int.toNat_natCast]; omega)
 unfold rideT
 omega
def entL (L : Lay) (r : Rte) (l sp ac br : Int) (n : Nat) : List Int := row n fun k => rideT L r l sp ac br (endA L (trv r) (k - 1))
def levF (L : Lay) (r : Rte) (l sp ac br : Int) (k : Nat) : Int := rideT L r l sp ac br (if k + 1 < (trv r).length then endA L (trv r) k + l.toNat else endA L (trv r) k)
def levL (L : Lay) (r : Rte) (l sp ac br : Int) (n : Nat) : List Int := row n (levF L r l sp ac br)
def runI (L : Lay) (r : Rte) (l sp ac br : Int) : Int := Pl.cdiv (rideT L r l sp ac br (endA L (trv r) ((trv r).length - 1))) 1000
theorem row_snoc (n : Nat) (f : Nat → Int) : row (n + 1) f = row n f ++ [f n] := by
 unfold row; rw [List.range_succ, List.map_append]; rfl
theorem snoc_den (X : List Int) (v : Int) : (SC.c (CVal.f (FVal.row (List.flatMap fInt X ++ [FVal.v (.int .i64 v)]) (X.length + 1)))).den = (rInt (X ++ [v])).den := by
 show CVal.f (FVal.row (List.flatMap fInt X ++ [FVal.v (.int .i64 v)]) (X.length + 1)) = CVal.f (FVal.row (List.flatMap fInt (X ++ [v])) (X ++ [v]).length)
 rw [List.flatMap_append, List.length_append]
 rfl
theorem tup_snoc (A C D : SC) (X : List Int) (v : Int) : (packS [ST.c A, ST.c (SC.c (CVal.f (FVal.row (List.flatMap fInt X ++ [FVal.v (.int .i64 v)]) (X.length + 1)))), ST.c C, ST.c D]).den = (SV.tup [ST.c A, ST.c (rInt (X ++ [v])), ST.c C, ST.c D]).den := by
 show AVal.tup [.c A.den, .c (SC.den _), .c C.den, .c D.den] = AVal.tup [.c A.den, .c (SC.den _), .c C.den, .c D.den]
 rw [snoc_den]
theorem up_ok (a : Int) (ha : -9223372036854775808 ≤ a ∧ a ≤ 9223372036854775807) : OkV Tryz.prog 47 [.c (xI a)] [] (vI (Pl.cdiv a 1000)) [] := by
 have h := ceilDiv_okV a 1000 ha (by omega)
 refine X_fn mixedX Tryz.func47 rfl (by kernel_rfl) (Nat.le_of_ble_eq_true (by kernel_rfl)) (by kernel_rfl) rfl rfl (Nat.le_of_ble_eq_true rfl) rfl rfl ?_
 simp only [sl0, Nat.zero_add, Nat.reduceAdd]
 repeat' (first
  |with_reducible (first|refine q_and ?_ ?_|exact True.intro|exact TkEq.nil _|refine Red.o (by constructor) ?_|refine blockK_o' rfl ?_|refine LoopX_e' rfl ?_|assumption)
  |((with_reducible apply q_call);refine X_pure (h) rfl ?_)
  |((with_reducible apply q_CI);intro hbq;(try simp only [bq] at hbq);(try (exfalso;omega)))
  |refine Rex.o (by (with_reducible constructor);apply Eq.refl) ?_
  |(intro (hgq : (_ : Bool) = true);(try simp only [bq] at hgq))
  |(intro (hgq : (_ : Bool) = false);(try simp only [bq] at hgq))
  |((with_reducible apply q_VOk);exact fun _ => ⟨rfl,rfl⟩)|(intro _;exact rfl)|((with_reducible apply q_CRB);kernel_rfl)|((with_reducible apply q_bt);simp only [bq])|((with_reducible apply q_eqN);rfl)|((with_reducible apply q_FE);exact rfl)|with_reducible (first|exact isByte_wrap _|exact isByte_nat _)|(simp only [hgq,bq];done)|omega|(dsimp only;omega))
 repeat' (first|with_reducible (first|refine Wk.o (by constructor) ?_|refine q_and ?_ ?_|exact True.intro)|refine VEq.c ?_|refine VEq.agg ?_|refine VEq.tup ?_|refine TkEq.cells ?_ ?_|refine TkEq.els ?_ ?_|refine SEqL.cons ?_ ?_|refine TEqL.agg ?_ ?_|refine CEq.rows ?_|refine CEq.int ?_|rfl|omega)
theorem down_ok (a : Int) (ha : -9223372036854775808 ≤ a ∧ a ≤ 9223372036854775807) : OkV Tryz.prog 48 [.c (xI a)] [] (vI (a / 1000)) [] := by
 have h := floorDiv_okV a 1000 ha (by omega)
 refine X_fn mixedX Tryz.func48 rfl (by kernel_rfl) (Nat.le_of_ble_eq_true (by kernel_rfl)) (by kernel_rfl) rfl rfl (Nat.le_of_ble_eq_true rfl) rfl rfl ?_
 simp only [sl0, Nat.zero_add, Nat.reduceAdd]
 repeat' (first
  |with_reducible (first|refine q_and ?_ ?_|exact True.intro|exact TkEq.nil _|refine Red.o (by constructor) ?_|refine blockK_o' rfl ?_|refine LoopX_e' rfl ?_|assumption)
  |((with_reducible apply q_call);refine X_pure (h) rfl ?_)
  |((with_reducible apply q_CI);intro hbq;(try simp only [bq] at hbq);(try (exfalso;omega)))
  |refine Rex.o (by (with_reducible constructor);apply Eq.refl) ?_
  |(intro (hgq : (_ : Bool) = true);(try simp only [bq] at hgq))
  |(intro (hgq : (_ : Bool) = false);(try simp only [bq] at hgq))
  |((with_reducible apply q_VOk);exact fun _ => ⟨rfl,rfl⟩)|(intro _;exact rfl)|((with_reducible apply q_CRB);kernel_rfl)|((with_reducible apply q_bt);simp only [bq])|((with_reducible apply q_eqN);rfl)|((with_reducible apply q_FE);exact rfl)|with_reducible (first|exact isByte_wrap _|exact isByte_nat _)|(simp only [hgq,bq];done)|omega|(dsimp only;omega))
 repeat' (first|with_reducible (first|refine Wk.o (by constructor) ?_|refine q_and ?_ ?_|exact True.intro)|refine VEq.c ?_|refine VEq.agg ?_|refine VEq.tup ?_|refine TkEq.cells ?_ ?_|refine TkEq.els ?_ ?_|refine SEqL.cons ?_ ?_|refine TEqL.agg ?_ ?_|refine CEq.rows ?_|refine CEq.int ?_|rfl|omega)
theorem btimes_bad (L : Lay) (hL : LayFits L) (st : List Stp) (ov : Int) (hl : st.length ≤ 9223372036854775807) (ho : -9223372036854775808 ≤ ov ∧ ov ≤ 9223372036854775807) (nm : ByteArray) (l sp ac br : Int) (h : ¬ fitErr L ⟨st, ov⟩ l sp ac br = 0) : OkV Tryz.prog 27 [vLay L, vR2 st ov, vS5 nm l sp ac br] [] (.tup [.c (rInt []), .c (rInt []), .c (xI 0), .c (xI (fitErr L ⟨st, ov⟩ l sp ac br))]) [] := by
 have hF := fit_ok L hL st ov hl ho nm l sp ac br
 rw [if_neg h, if_neg h] at hF
 unfold vLay at hF ⊢
 refine X_fn mixedX Tryz.func27 rfl (by kernel_rfl) (Nat.le_of_ble_eq_true (by kernel_rfl)) (by kernel_rfl) rfl rfl (Nat.le_of_ble_eq_true rfl) rfl rfl ?_
 simp only [sl0, Nat.zero_add, Nat.reduceAdd]
 repeat' (first
  |with_reducible (first|refine q_and ?_ ?_|exact True.intro|exact TkEq.nil _|refine Red.o (by constructor) ?_|refine blockK_o' rfl ?_|refine LoopX_e' rfl ?_|assumption)
  |((with_reducible apply q_call);refine X_pure (hF) rfl ?_)
  |((with_reducible apply q_CI);intro hbq;(try simp only [bq] at hbq);(try (exfalso;omega)))
  |refine Rex.o (by (with_reducible constructor);apply Eq.refl) ?_
  |(intro (hgq : (_ : Bool) = true);(try simp only [bq] at hgq))
  |(intro (hgq : (_ : Bool) = false);(try simp only [bq] at hgq))
  |((with_reducible apply q_VOk);exact fun _ => ⟨rfl,rfl⟩)|(intro _;exact rfl)|((with_reducible apply q_CRB);kernel_rfl)|((with_reducible apply q_bt);simp only [bq])|((with_reducible apply q_eqN);rfl)|((with_reducible apply q_FE);exact rfl)|with_reducible (first|exact isByte_wrap _|exact isByte_nat _)|(simp only [hgq,bq];done)|omega|(dsimp only;omega))
 ·rfl
theorem btimes_ok (L : Lay) (hL : LayFits L) (st : List Stp) (ov : Int) (hl : st.length ≤ 9223372036854775807) (ho : -9223372036854775808 ≤ ov ∧ ov ≤ 9223372036854775807) (nm : ByteArray) (l sp ac br : Int) (h : fitErr L ⟨st, ov⟩ l sp ac br = 0) : OkV Tryz.prog 27 [vLay L, vR2 st ov, vS5 nm l sp ac br] [] (.tup [.c (rInt (entL L ⟨st, ov⟩ l sp ac br (trv ⟨st, ov⟩).length)), .c (rInt (levL L ⟨st, ov⟩ l sp ac br (trv ⟨st, ov⟩).length)), .c (xI (runI L ⟨st, ov⟩ l sp ac br)), .c (xI 0)]) [] := by
 have hF := fit_ok L hL st ov hl ho nm l sp ac br
 rw [h, if_pos rfl, if_pos rfl] at hF
 have hR := ride_of h
 obtain ⟨r1, r2, r3, r4, r5, r6, r7, r8, r9, r10, r11, r12, r13, r14⟩ := hR
 have hq := chk_of r3
 have hr1 := r1.ov0
 have hr2 := r1.two
 simp only at hr1 hr2 r4
 have hn3 := (valid_of r1.lay).n3
 have hm := times_ok (celL L (trv ⟨st, ov⟩)) (celOne L ⟨st, ov⟩) nm l sp ac br (by
  have := (bad_zero r12).2.1; omega)
 rw [r13, r12] at hm
 have hT := travelled_ok st ov hl ⟨by omega, by omega⟩
 unfold entL levL levF runI
 generalize hT' : rideT L ⟨st, ov⟩ l sp ac br = T at *
 generalize hts : trv ⟨st, ov⟩ = ts at *
 unfold vLay at hF ⊢
 refine X_fn mixedX Tryz.func27 rfl (by kernel_rfl) (Nat.le_of_ble_eq_true (by kernel_rfl)) (by kernel_rfl) rfl rfl (Nat.le_of_ble_eq_true rfl) rfl rfl ?_
 simp only [sl0, Nat.zero_add, Nat.reduceAdd]
 repeat' (first
  |with_reducible (first|refine q_and ?_ ?_|exact True.intro|exact TkEq.nil _|refine Red.o (by constructor) ?_|refine blockK_o' rfl ?_|refine LoopX_e' rfl ?_|assumption)
  |((with_reducible apply q_call);first|refine X_pure (hF) rfl ?_|refine X_pure (hm) rfl ?_|refine X_pure (hT) rfl ?_)
  |((with_reducible apply q_CI);intro hbq;(try simp only [bq] at hbq);(try (exfalso;omega)))
  |refine Rex.o (by (with_reducible constructor);apply Eq.refl) ?_
  |(intro (hgq : (_ : Bool) = true);(try simp only [bq] at hgq))
  |(intro (hgq : (_ : Bool) = false);(try simp only [bq] at hgq))
  |((with_reducible apply q_VOk);exact fun _ => ⟨rfl,rfl⟩)|(intro _;exact rfl)|((with_reducible apply q_CRB);kernel_rfl)|((with_reducible apply q_bt);simp only [bq])|((with_reducible apply q_eqN);rfl)|((with_reducible apply q_FE);exact rfl)|with_reducible (first|exact isByte_wrap _|exact isByte_nat _)|(simp only [hgq,bq];done)|omega|(dsimp only;omega))
 clear hF hm hT r13 r12 r11 r10
 have hrl : (row (endA L ts (ts.length - 1) + 1) T).length = _ := row_len _ _
 have hE : ∀ j, j + 1 ≤ ts.length → endA L ts j ≤ endA L ts (ts.length - 1) := fun j hj => endA_mono L ts (by omega)
 have hEb : endA L ts (ts.length - 1) ≤ 400 * 24 := by
  have : ∀ j, j + 1 ≤ ts.length → endA L ts j ≤ 400 * j := by
   intro j
   induction j with
   | zero => intro _; exact Nat.le_refl _
   | succ j ih => intro hj; have := ih (by omega); have := (r8 (j + 1) (by omega)).2.2; simp only [endA]; omega
  have := this (ts.length - 1) (by omega)
  omega
 refine W_loopS (fun k : Nat => SS [sC 3 (pB 0), sC 5 (pB 2), sC 6 (tInt (row k fun k => T (endA L ts (k - 1)))), sC 7 (tInt (row (min k (ts.length - 1)) fun k => T (endA L ts k + l.toNat))), sC 11 (rInt (row (endA L ts (ts.length - 1) + 1) T)), sC 13 (rStp ts), sI 14 (endA L ts (k - 1)), sC 38 (rStp ts), sI 39 ts.length, sI 40 k] [bLay L, none, bS5 nm l sp ac br]) (fun k => k ≤ ts.length) (fun k => ts.length - k) 0 ?_ (by omega) ?_
 ·
  refine X_weak rfl rfl rfl ?_ ?_ <;> repeat' (first|with_reducible (first|refine Wk.o (by constructor) ?_|refine q_and ?_ ?_|exact True.intro)|refine q_AgS rfl ?_ ?_|exact CLe.nil_tipS|exact CLe.nil_rowS|refine HLe.cells ?_ ?_|refine HLe.els ?_ ?_|refine SLe.cons ?_ ?_|exact (rfl : known _ = _)|with_reducible rfl|omega)
  all_goals rfl
 intro k hk
 have hl1 := row_len k fun k => T (endA L ts (k - 1))
 have hl2 := row_len (min k (ts.length - 1)) fun k => T (endA L ts k + l.toNat)
 by_cases hkn : k < ts.length
 ·have f0 := hE (k - 1) (by omega)
  have f2 := hE k (by omega)
  have f1 : 0 < k → endA L ts k = endA L ts (k - 1) + secN L ts k := fun h => by
   obtain ⟨j, rfl⟩ : ∃ j, k = j + 1 := ⟨k - 1, by omega⟩
   rfl
  have f3 : k + 1 < ts.length → endA L ts k + l.toNat ≤ endA L ts (ts.length - 1) := fun h => by
   have a := hE (k + 1) (by omega)
   have b := (r8 (k + 1) h).2.1
   simp only [endA] at a
   omega
  have g1 : 0 ≤ (ts.getD (k : Int).toNat { sec := 0, dir := 0 }).sec ∧ (ts.getD (k : Int).toNat { sec := 0, dir := 0 }).sec < L.secs.length := r7 k hkn
  have g2 : (L.secs.getD (ts.getD (k : Int).toNat { sec := 0, dir := 0 }).sec.toNat sec0).len = (secN L ts k : Nat) := r9 k hkn
  have g3 := r8 k hkn
  generalize secN L ts k = sk at *
  have hex : (row (endA L ts (ts.length - 1) + 1) T).getD ((endA L ts (k - 1) : Nat) : Int).toNat 0 = T (endA L ts (k - 1)) := by rw [Int.toNat_natCast, row_get (by omega)]
  have f5 : endA L ts (k + 1 - 1) = endA L ts k := rfl
  have f6 : k = 0 → endA L ts (k - 1) = endA L ts k := fun h => by rw [h]
  have m1 : k + 1 < ts.length → min (k + 1) (ts.length - 1) = min k (ts.length - 1) + 1 := fun h => by omega
  have m2 : k + 1 < ts.length → min k (ts.length - 1) = k := fun h => by omega
  have m3 : ¬ k + 1 < ts.length → min (k + 1) (ts.length - 1) = min k (ts.length - 1) := fun h => by omega
  repeat' (first
   |with_reducible (first|refine q_and ?_ ?_|exact True.intro|exact TkEq.nil _|refine Red.o (by constructor) ?_|refine blockK_o' rfl ?_|refine LoopX_e' rfl ?_|assumption)
   |((with_reducible apply q_CI);intro hbq;(try simp only [bq] at hbq);(try (exfalso;omega)))
   |refine Rex.o (by (with_reducible constructor);apply Eq.refl) ?_
   |(intro (hgq : (_ : Bool) = true);(try simp only [bq] at hgq))
   |(intro (hgq : (_ : Bool) = false);(try simp only [bq] at hgq))
   |((with_reducible apply q_VOk);exact fun _ => ⟨rfl,rfl⟩)|(intro _;exact rfl)|((with_reducible apply q_CRB);kernel_rfl)|((with_reducible apply q_bt);simp only [bq])|((with_reducible apply q_eqN);rfl)|((with_reducible apply q_FE);exact rfl)|with_reducible (first|exact isByte_wrap _|exact isByte_nat _)|(simp only [hgq,bq];done)|omega|(dsimp only;omega))
  ·have c : k + 1 < ts.length := by omega
   have hex2 : (row (endA L ts (ts.length - 1) + 1) T).getD ((endA L ts (k - 1) : Nat) + (L.secs.getD (ts.getD (k : Int).toNat { sec := 0, dir := 0 }).sec.toNat sec0).len + l).toNat 0 = T (endA L ts k + l.toNat) := by
    rw [show ((endA L ts (k - 1) : Nat) + (L.secs.getD (ts.getD (k : Int).toNat { sec := 0, dir := 0 }).sec.toNat sec0).len + l).toNat = endA L ts k + l.toNat by omega, row_get (by omega)]
   refine LoopK_n (k + 1) ?_ ((by omega)) (by (try dsimp only); omega)
   refine X_weak rfl rfl rfl ?_ ?_ <;> repeat' (first|with_reducible (first|refine Wk.o (by constructor) ?_|refine q_and ?_ ?_|exact True.intro)|refine q_AgS rfl ?_ ?_|exact CLe.nil_tipS|exact CLe.nil_rowS|refine HLe.cells ?_ ?_|refine HLe.els ?_ ?_|refine SLe.cons ?_ ?_|exact (rfl : known _ = _)|with_reducible rfl|omega)
   ·rw [hex, row_snoc]; simp [fInt, fI]
   ·rw [row_len, row_len]
   ·rw [hex2, m1 c, row_snoc, m2 c]; simp [fInt, fI]
   ·rw [row_len, row_len, m1 c]
  ·have c : ¬ k + 1 < ts.length := by omega
   refine LoopK_n (k + 1) ?_ ((by omega)) (by (try dsimp only); omega)
   refine X_weak rfl rfl rfl ?_ ?_ <;> repeat' (first|with_reducible (first|refine Wk.o (by constructor) ?_|refine q_and ?_ ?_|exact True.intro)|refine q_AgS rfl ?_ ?_|exact CLe.nil_tipS|exact CLe.nil_rowS|refine HLe.cells ?_ ?_|refine HLe.els ?_ ?_|refine SLe.cons ?_ ?_|exact (rfl : known _ = _)|with_reducible rfl|omega)
   ·rw [hex, row_snoc]; simp [fInt, fI]
   ·rw [row_len, row_len]
   ·rw [m3 c]
  ·have c : k + 1 < ts.length := by omega
   have hex2 : (row (endA L ts (ts.length - 1) + 1) T).getD ((endA L ts (k - 1) : Nat) + l).toNat 0 = T (endA L ts k + l.toNat) := by
    rw [show ((endA L ts (k - 1) : Nat) + l).toNat = endA L ts k + l.toNat by omega, row_get (by omega)]
   refine LoopK_n (k + 1) ?_ ((by omega)) (by (try dsimp only); omega)
   refine X_weak rfl rfl rfl ?_ ?_ <;> repeat' (first|with_reducible (first|refine Wk.o (by constructor) ?_|refine q_and ?_ ?_|exact True.intro)|refine q_AgS rfl ?_ ?_|exact CLe.nil_tipS|exact CLe.nil_rowS|refine HLe.cells ?_ ?_|refine HLe.els ?_ ?_|refine SLe.cons ?_ ?_|exact (rfl : known _ = _)|with_reducible rfl|omega)
   ·rw [hex, row_snoc]; simp [fInt, fI]
   ·rw [row_len, row_len]
   ·rw [hex2, m1 c, row_snoc, m2 c]; simp [fInt, fI]
   ·rw [row_len, row_len, m1 c]
 ·have hkn : k = ts.length := by omega
  subst hkn
  have hex : (row (endA L ts (ts.length - 1) + 1) T).getD ((endA L ts (ts.length - 1) : Nat) : Int).toNat 0 = T (endA L ts (ts.length - 1)) := by rw [Int.toNat_natCast, row_get (by omega)]
  have hr := r14 _ (Nat.le_refl _)
  have hU := up_ok ((row (endA L ts (ts.length - 1) + 1) T).getD ((endA L ts (ts.length - 1) : Nat) : Int).toNat 0) (by rw [hex]; omega)
  repeat' (first
   |with_reducible (first|refine q_and ?_ ?_|exact True.intro|exact TkEq.nil _|refine Red.o (by constructor) ?_|refine blockK_o' rfl ?_|refine LoopX_e' rfl ?_|assumption)
   |((with_reducible apply q_call);refine X_pure (hU) rfl ?_)
   |((with_reducible apply q_CI);intro hbq;(try simp only [bq] at hbq);(try (exfalso;omega)))
   |refine Rex.o (by (with_reducible constructor);apply Eq.refl) ?_
   |(intro (hgq : (_ : Bool) = true);(try simp only [bq] at hgq))
   |(intro (hgq : (_ : Bool) = false);(try simp only [bq] at hgq))
   |((with_reducible apply q_VOk);exact fun _ => ⟨rfl,rfl⟩)|(intro _;exact rfl)|((with_reducible apply q_CRB);kernel_rfl)|((with_reducible apply q_bt);simp only [bq])|((with_reducible apply q_eqN);rfl)|((with_reducible apply q_FE);exact rfl)|with_reducible (first|exact isByte_wrap _|exact isByte_nat _)|(simp only [hgq,bq];done)|omega|(dsimp only;omega))
  have hlev : (row ts.length fun k => T (if k + 1 < ts.length then endA L ts k + l.toNat else endA L ts k)) = (row (min ts.length (ts.length - 1)) fun k => T (endA L ts k + l.toNat)) ++ [T (endA L ts (ts.length - 1))] := by
   have e : ts.length = ts.length - 1 + 1 := by omega
   rw [Nat.min_eq_right (by omega)]
   conv => lhs; rw [show row ts.length = row (ts.length - 1 + 1) by rw [← e]]
   rw [row_snoc, if_neg (by omega)]
   congr 1
   exact row_ext fun j hj => by rw [if_pos (by omega)]
  rw [hlev]
  simp only [hex]
  apply tup_snoc
abbrev bOcc (l : List Occ) : Option SB := some (.els 3 fOcc vOcc mOcc ⟨0, 0, 0⟩ l)
def addO (t : List Occ) (x : Nat) (a b : Int) : List Occ := t.set x (if (t.getD x ⟨0, 0, 0⟩).frm < (t.getD x ⟨0, 0, 0⟩).til then ⟨x, min a (t.getD x ⟨0, 0, 0⟩).frm, max b (t.getD x ⟨0, 0, 0⟩).til⟩ else ⟨x, a, b⟩)
def usedO (o : Occ) : Bool := decide (o.frm < o.til)
theorem newTable_ok (L : Lay) (hV : Valid L) : OkV Tryz.prog 49 [vLay L] [] (.c (.c (.arr 1 0 (L.secs.length + L.pts.length) (L.secs.length + L.pts.length)))) [bLay L, bOcc (List.replicate (L.secs.length + L.pts.length) ⟨0, 0, 0⟩)] := by
 have h1 := hV.n2
 have h2 := hV.n3
 have e : ((L.secs.length : Int) + L.pts.length).toNat = L.secs.length + L.pts.length := by omega
 unfold vLay
 refine X_fn mixedX Tryz.func49 rfl (by kernel_rfl) (Nat.le_of_ble_eq_true (by kernel_rfl)) (by kernel_rfl) rfl rfl (Nat.le_of_ble_eq_true rfl) rfl rfl ?_
 simp only [sl0, Nat.zero_add, Nat.reduceAdd]
 repeat' (first
  |with_reducible (first|refine q_and ?_ ?_|exact True.intro|exact TkEq.nil _|refine Red.o (by constructor) ?_|refine blockK_o' rfl ?_|refine LoopX_e' rfl ?_|assumption)
  |((with_reducible apply q_CI);intro hbq;(try simp only [bq] at hbq);(try (exfalso;omega)))
  |refine Rex.o (by (with_reducible constructor);apply Eq.refl) ?_
  |(intro (hgq : (_ : Bool) = true);(try simp only [bq] at hgq))
  |(intro (hgq : (_ : Bool) = false);(try simp only [bq] at hgq))
  |((with_reducible apply q_VOk);exact fun _ => ⟨rfl,rfl⟩)|(intro _;exact rfl)|((with_reducible apply q_CRB);kernel_rfl)|((with_reducible apply q_bt);simp only [bq])|((with_reducible apply q_eqN);rfl)|((with_reducible apply q_FE);exact rfl)|with_reducible (first|exact isByte_wrap _|exact isByte_nat _)|(simp only [hgq,bq];done)|omega|(dsimp only;omega))
 ·rw [e]; rfl
 ·rw [e]
  repeat' (first|with_reducible (first|refine Wk.o (by constructor) ?_|refine q_and ?_ ?_|exact True.intro)|refine VEq.c ?_|refine VEq.agg ?_|refine VEq.tup ?_|refine TkEq.cells ?_ ?_|refine TkEq.els ?_ ?_|refine SEqL.cons ?_ ?_|refine TEqL.agg ?_ ?_|refine CEq.rows ?_|refine CEq.int ?_|rfl|omega)
theorem tadd_ok (t : List Occ) (x : Nat) (a b : Int) (hx : x < t.length) (hl : t.length ≤ 1000) : OkV Tryz.prog 50 [.c (.c (.arr 0 0 t.length t.length)), .c (xI x), .c (xI a), .c (xI b)] [bOcc t] (.tup []) [bOcc (addO t x a b)] := by
 unfold addO
 refine X_fn mixedX Tryz.func50 rfl (by kernel_rfl) (Nat.le_of_ble_eq_true (by kernel_rfl)) (by kernel_rfl) rfl rfl (Nat.le_of_ble_eq_true rfl) rfl rfl ?_
 simp only [sl0, Nat.zero_add, Nat.reduceAdd]
 repeat' (first
  |with_reducible (first|refine q_and ?_ ?_|exact True.intro|exact TkEq.nil _|refine Red.o (by constructor) ?_|refine blockK_o' rfl ?_|refine LoopX_e' rfl ?_|assumption)
  |((with_reducible apply q_CI);intro hbq;(try simp only [bq] at hbq);(try (exfalso;omega)))
  |refine Rex.o (by (with_reducible constructor);apply Eq.refl) ?_
  |(intro (hgq : (_ : Bool) = true);(try simp only [bq] at hgq))
  |(intro (hgq : (_ : Bool) = false);(try simp only [bq] at hgq))
  |((with_reducible apply q_VOk);exact fun _ => ⟨rfl,rfl⟩)|(intro _;exact rfl)|((with_reducible apply q_CRB);kernel_rfl)|((with_reducible apply q_bt);simp only [bq])|((with_reducible apply q_eqN);rfl)|((with_reducible apply q_FE);exact rfl)|with_reducible (first|exact isByte_wrap _|exact isByte_nat _)|(simp only [hgq,bq];done)|omega|(dsimp only;omega))
 ·exact Nat.le_refl _
 ·rfl
 ·rfl
 ·rw [if_pos (by simpa using hbq)]
  repeat' (first|with_reducible (first|refine Wk.o (by constructor) ?_|refine q_and ?_ ?_|exact True.intro)|refine VEq.c ?_|refine VEq.agg ?_|refine VEq.tup ?_|refine TkEq.cells ?_ ?_|refine TkEq.els ?_ ?_|refine SEqL.cons ?_ ?_|refine TEqL.agg ?_ ?_|refine CEq.rows ?_|refine CEq.int ?_|rfl|omega)
 ·exact Nat.le_refl _
 ·rfl
 ·rfl
 ·rw [if_neg (by simpa using hbq)]
  repeat' (first|with_reducible (first|refine Wk.o (by constructor) ?_|refine q_and ?_ ?_|exact True.intro)|refine VEq.c ?_|refine VEq.agg ?_|refine VEq.tup ?_|refine TkEq.cells ?_ ?_|refine TkEq.els ?_ ?_|refine SEqL.cons ?_ ?_|refine TEqL.agg ?_ ?_|refine CEq.rows ?_|refine CEq.int ?_|rfl|omega)
theorem tadd_okI (t : List Occ) (N : Nat) (x a b : Int) (hx : 0 ≤ x ∧ x < N) (hN : t.length = N) (hl : N ≤ 1000) : OkV Tryz.prog 50 [.c (.c (.arr 0 0 N N)), .c (xI x), .c (xI a), .c (xI b)] [bOcc t] (.tup []) [bOcc (addO t x.toNat a b)] := by
 have h := tadd_ok t x.toNat a b (by omega) (by omega)
 rwa [hN, Int.toNat_of_nonneg hx.1] at h
theorem tlist_okB (t : List Occ) (N : Nat) (hN : t.length = N) (hl : N ≤ 1000) : OkV Tryz.prog 52 [.c (.c (.arr 0 0 N N))] [bOcc t] (.c (rOcc (t.filter usedO))) [bOcc t] := by
 refine X_fn mixedX Tryz.func52 rfl (by kernel_rfl) (Nat.le_of_ble_eq_true (by kernel_rfl)) (by kernel_rfl) rfl rfl (Nat.le_of_ble_eq_true rfl) rfl rfl ?_
 simp only [sl0, Nat.zero_add, Nat.reduceAdd]
 repeat' (first
  |with_reducible (first|refine q_and ?_ ?_|exact True.intro|exact TkEq.nil _|refine Red.o (by constructor) ?_|refine blockK_o' rfl ?_|refine LoopX_e' rfl ?_|assumption)
  |((with_reducible apply q_CI);intro hbq;(try simp only [bq] at hbq);(try (exfalso;omega)))
  |refine Rex.o (by (with_reducible constructor);apply Eq.refl) ?_
  |(intro (hgq : (_ : Bool) = true);(try simp only [bq] at hgq))
  |(intro (hgq : (_ : Bool) = false);(try simp only [bq] at hgq))
  |((with_reducible apply q_VOk);exact fun _ => ⟨rfl,rfl⟩)|(intro _;exact rfl)|((with_reducible apply q_CRB);kernel_rfl)|((with_reducible apply q_bt);simp only [bq])|((with_reducible apply q_eqN);rfl)|((with_reducible apply q_FE);exact rfl)|with_reducible (first|exact isByte_wrap _|exact isByte_nat _)|(simp only [hgq,bq];done)|omega|(dsimp only;omega))
 refine W_loopS (fun i : Nat => SS [sC 3 (tOcc ((t.take i).filter usedO)), sC 6 (.c (.arr 0 0 N N)), sI 7 N, sI 8 i] [bOcc t]) (fun i => i ≤ N) (fun i => N - i) 0 ?_ (by omega) ?_
 ·
  refine X_weak rfl rfl rfl ?_ ?_ <;> repeat' (first|with_reducible (first|refine Wk.o (by constructor) ?_|refine q_and ?_ ?_|exact True.intro)|refine q_AgS rfl ?_ ?_|exact CLe.nil_tipS|exact CLe.nil_rowS|refine HLe.cells ?_ ?_|refine HLe.els ?_ ?_|refine SLe.cons ?_ ?_|exact (rfl : known _ = _)|with_reducible rfl|omega)
 intro i hi
 have hfl : ((t.take i).filter usedO).length ≤ 1000 := by
  have a := List.length_filter_le usedO (t.take i)
  rw [List.length_take] at a
  omega
 have hsn : i < t.length → (t.take (i + 1)).filter usedO = (t.take i).filter usedO ++ (if usedO (t.getD i ⟨0, 0, 0⟩) = true then [t.getD i ⟨0, 0, 0⟩] else []) := fun h => by
  rw [List.take_succ_eq_append_getElem h, List.filter_append, List.getD_eq_getElem?_getD, List.getElem?_eq_getElem h]
  simp only [Option.getD_some, List.filter_cons, List.filter_nil]
 repeat' (first
  |with_reducible (first|refine q_and ?_ ?_|exact True.intro|exact TkEq.nil _|refine Red.o (by constructor) ?_|refine blockK_o' rfl ?_|refine LoopX_e' rfl ?_|assumption)
  |((with_reducible apply q_CI);intro hbq;(try simp only [bq] at hbq);(try (exfalso;omega)))
  |refine Rex.o (by (with_reducible constructor);apply Eq.refl) ?_
  |(intro (hgq : (_ : Bool) = true);(try simp only [bq] at hgq))
  |(intro (hgq : (_ : Bool) = false);(try simp only [bq] at hgq))
  |((with_reducible apply q_VOk);exact fun _ => ⟨rfl,rfl⟩)|(intro _;exact rfl)|((with_reducible apply q_CRB);kernel_rfl)|((with_reducible apply q_bt);simp only [bq])|((with_reducible apply q_eqN);rfl)|((with_reducible apply q_FE);exact rfl)|with_reducible (first|exact isByte_wrap _|exact isByte_nat _)|(simp only [hgq,bq];done)|omega|(dsimp only;omega))
 ·have hu : usedO (t.getD i ⟨0, 0, 0⟩) = true := by unfold usedO; simpa using hbq
  refine LoopK_n (i + 1) ?_ ((by omega)) (by (try dsimp only); omega)
  refine X_weak rfl rfl rfl ?_ ?_ <;> repeat' (first|with_reducible (first|refine Wk.o (by constructor) ?_|refine q_and ?_ ?_|exact True.intro)|refine q_AgS rfl ?_ ?_|exact CLe.nil_tipS|exact CLe.nil_rowS|refine HLe.cells ?_ ?_|refine HLe.els ?_ ?_|refine SLe.cons ?_ ?_|exact (rfl : known _ = _)|with_reducible rfl|omega)
  all_goals (rw [hsn (by omega), if_pos hu]; simp [fOcc, fI])
 ·have hu : ¬ usedO (t.getD i ⟨0, 0, 0⟩) = true := by unfold usedO; simpa using hbq
  refine LoopK_n (i + 1) ?_ ((by omega)) (by (try dsimp only); omega)
  refine X_weak rfl rfl rfl ?_ ?_ <;> repeat' (first|with_reducible (first|refine Wk.o (by constructor) ?_|refine q_and ?_ ?_|exact True.intro)|refine q_AgS rfl ?_ ?_|exact CLe.nil_tipS|exact CLe.nil_rowS|refine HLe.cells ?_ ?_|refine HLe.els ?_ ?_|refine SLe.cons ?_ ?_|exact (rfl : known _ = _)|with_reducible rfl|omega)
  all_goals (rw [hsn (by omega), if_neg hu]; simp)
 ·have hie : i = t.length := by omega
  subst hie
  rw [List.take_length]
  repeat' (first|with_reducible (first|refine Wk.o (by constructor) ?_|refine q_and ?_ ?_|exact True.intro)|refine VEq.c ?_|refine VEq.agg ?_|refine VEq.tup ?_|refine TkEq.cells ?_ ?_|refine TkEq.els ?_ ?_|refine SEqL.cons ?_ ?_|refine TEqL.agg ?_ ?_|refine CEq.rows ?_|refine CEq.int ?_|rfl|omega)
 ·
  repeat' (first|with_reducible (first|refine Wk.o (by constructor) ?_|refine q_and ?_ ?_|exact True.intro)|refine VEq.c ?_|refine VEq.agg ?_|refine VEq.tup ?_|refine TkEq.cells ?_ ?_|refine TkEq.els ?_ ?_|refine SEqL.cons ?_ ?_|refine TEqL.agg ?_ ?_|refine CEq.rows ?_|refine CEq.int ?_|rfl|omega)
section
variable (L : Lay) (r : Rte) (l sp ac br bf af : Int)
def entF (k : Nat) : Int := rideT L r l sp ac br (endA L (trv r) (k - 1))
def spF (i : Nat) : Int := if i = 0 then -bf else if i < (trv r).length then entF L r l sp ac br (i - 1) / 1000 - 16 else entF L r l sp ac br ((trv r).length - 1) / 1000 - 16
def spT (i : Nat) : Int := if i + 1 < (trv r).length then Pl.cdiv (levF L r l sp ac br i) 1000 + 4 else if i + 1 = (trv r).length then runI L r l sp ac br + af else runI L r l sp ac br + 20
def ptT (i : Nat) : Int := if i < (trv r).length then spT L r l sp ac br af (i - 1) else spT L r l sp ac br af i
end
theorem ride_mono {L : Lay} {r : Rte} {l sp ac br : Int} (h : Ride L r l sp ac br) {i j : Nat} (hij : i ≤ j) (hj : j ≤ endA L (trv r) ((trv r).length - 1)) : rideT L r l sp ac br i ≤ rideT L r l sp ac br j := by
 have hq := chk_of h.chk
 have hb := bad_zero h.bad
 have ha := h.all
 have ho := h.one
 induction j with
 | zero => rw [Nat.le_zero.1 hij]; exact Int.le_refl _
 | succ j ih =>
  rcases Nat.lt_or_ge i (j + 1) with h1 | h1
  ·refine Int.le_trans (ih (by omega) (by omega)) ?_
   have := step_range (start := (celOne L r).toNat) (l := l.toNat) hq.2.2.1 hq.2.2.2.1 hq.2.2.2.2.1 hq.2.2.2.2.2.1 hq.2.2.2.2.2.2.1 hq.2.2.2.2.2.2.2 hb.2.2.1 (by omega) j (by omega)
   unfold rideT
   simp only [tim]
   omega
  ·rw [show i = j + 1 by omega]; exact Int.le_refl _
theorem cd_le {a b : Int} (h : a ≤ b) : a / 1000 ≤ Pl.cdiv b 1000 := by
 obtain ⟨b1, b2⟩ := Pl.cdiv_bracket b 1000 (by omega)
 omega
section
variable {L : Lay} {r : Rte} {l sp ac br bf af : Int} (h : Ride L r l sp ac br)
include h
theorem lev_in {j : Nat} (hj : j < (trv r).length) : endA L (trv r) j ≤ (if j + 1 < (trv r).length then endA L (trv r) j + l.toNat else endA L (trv r) j) ∧ (if j + 1 < (trv r).length then endA L (trv r) j + l.toNat else endA L (trv r) j) ≤ endA L (trv r) ((trv r).length - 1) := by
 have a := endA_mono L (trv r) (show j ≤ (trv r).length - 1 by omega)
 split
 ·rename_i c
  have b := endA_mono L (trv r) (show j + 1 ≤ (trv r).length - 1 by omega)
  have d := (h.len (j + 1) c).2.1
  have hq := chk_of h.chk
  simp only [endA] at b
  omega
 ·omega
theorem ent_le_lev {i j : Nat} (hij : i ≤ j + 1) (hj : j < (trv r).length) : entF L r l sp ac br i ≤ levF L r l sp ac br j := by
 have a := lev_in h hj
 have b := endA_mono L (trv r) (show i - 1 ≤ j by omega)
 exact ride_mono h (by omega) a.2
theorem ent_le_end {i : Nat} (hi : i ≤ (trv r).length) : entF L r l sp ac br i ≤ rideT L r l sp ac br (endA L (trv r) ((trv r).length - 1)) := by
 have b := endA_mono L (trv r) (show i - 1 ≤ (trv r).length - 1 by omega)
 exact ride_mono h b (Nat.le_refl _)
theorem lev_pos {j : Nat} (hj : j < (trv r).length) : 0 ≤ levF L r l sp ac br j := (h.rng _ (lev_in h hj).2).1
theorem spF_lt (hb : 0 ≤ bf) (ha : 0 ≤ af) (i : Nat) : spF L r l sp ac br bf i < spT L r l sp ac br af i := by
 have hn := h.n2
 unfold spF spT runI
 by_cases h0 : i = 0
 ·have a := lev_pos h (j := i) (by omega)
  have b := cd_le a
  rw [if_pos h0, if_pos (by omega)]
  omega
 ·rw [if_neg h0]
  by_cases h1 : i < (trv r).length
  ·rw [if_pos h1]
   by_cases h2 : i + 1 < (trv r).length
   ·rw [if_pos h2]
    have := cd_le (ent_le_lev h (i := i - 1) (j := i) (by omega) h1)
    omega
   ·rw [if_neg h2, if_pos (by omega)]
    have := cd_le (ent_le_end h (i := i - 1) (by omega))
    omega
  ·rw [if_neg h1, if_neg (by omega), if_neg (by omega)]
   have := cd_le (ent_le_end h (i := (trv r).length - 1) (by omega))
   omega
end
def tabS (L : Lay) (st : List Stp) (F T P : Nat → Int) (i : Nat) (t : List Occ) : List Occ :=
 let t1 := addO t (st.getD i st0).sec.toNat (F i) (T i)
 if i = 0 then t1 else
 match joinL L (st.getD (i - 1) st0) (st.getD i st0) with
 | some k => if k.pt < 0 then t1 else addO t1 (L.secs.length + k.pt.toNat) (F i) (P i)
 | none => t1
def tabL (L : Lay) (st : List Stp) (F T P : Nat → Int) : Nat → List Occ
 | 0 => List.replicate (L.secs.length + L.pts.length) ⟨0, 0, 0⟩
 | i + 1 => tabS L st F T P i (tabL L st F T P i)
theorem addO_len (t : List Occ) (x : Nat) (a b : Int) : (addO t x a b).length = t.length := by unfold addO; rw [List.length_set]
theorem tabS_len (L : Lay) (st : List Stp) (F T P : Nat → Int) (i : Nat) (t : List Occ) : (tabS L st F T P i t).length = t.length := by
 unfold tabS
 simp only
 split
 ·rw [addO_len]
 ·split
  ·split
   ·rw [addO_len]
   ·rw [addO_len, addO_len]
  ·rw [addO_len]
theorem tabL_len (L : Lay) (st : List Stp) (F T P : Nat → Int) : ∀ i, (tabL L st F T P i).length = L.secs.length + L.pts.length
 | 0 => by simp [tabL]
 | i + 1 => by rw [tabL, tabS_len]; exact tabL_len L st F T P i
theorem hop_pt {L : Lay} (hV : Valid L) {a : Stp} {h : Hop} (hm : h ∈ hopsL L a) : -1 ≤ h.pt ∧ h.pt < L.pts.length := by
 unfold hopsL at hm
 obtain ⟨k, hk, e⟩ := List.mem_filterMap.1 hm
 have hl := linkB_of (hV.v4 k hk)
 unfold hopK at e
 split at e
 ·injection e with e; subst e; exact ⟨hl.2.2.2.2.2.2.2.2.1, hl.2.2.2.2.2.2.2.2.2.1⟩
 ·split at e
  ·injection e with e; subst e; exact ⟨hl.2.2.2.2.2.2.2.2.1, hl.2.2.2.2.2.2.2.2.2.1⟩
  ·cases e
theorem join_at {L : Lay} {r : Rte} (h : RteOk L r) {i : Nat} (h0 : 0 < i) (hi : i < r.st.length) : ∃ k, joinL L (r.st.getD (i - 1) st0) (r.st.getD i st0) = some k ∧ -1 ≤ k.pt ∧ k.pt < L.pts.length := by
 have hk := List.all_eq_true.1 h.link (i - 1) (List.mem_range.2 (by omega))
 unfold linkAt at hk
 rw [Nat.sub_add_cancel h0] at hk
 obtain ⟨k, hk⟩ := Option.isSome_iff_exists.1 hk
 refine ⟨k, hk, ?_⟩
 unfold joinL at hk
 exact hop_pt (valid_of h.lay) (List.mem_of_find?_eq_some hk)
abbrev oc0 : Occ := ⟨0, 0, 0⟩
section
variable {L : Lay} {st : List Stp} {ov : Int} (h : RteOk L ⟨st, ov⟩) (F T P : Nat → Int)
include h
end
def rowO (n : Nat) (F T : Nat → Int) : List Occ := (List.range n).map fun i => ⟨0, F i, T i⟩
theorem rowO_len (n : Nat) (F T : Nat → Int) : (rowO n F T).length = n := by simp [rowO]
theorem rowO_snoc (n : Nat) (F T : Nat → Int) : rowO (n + 1) F T = rowO n F T ++ [⟨0, F n, T n⟩] := by
 unfold rowO; rw [List.range_succ, List.map_append]; rfl
theorem rowO_get {n : Nat} {F T : Nat → Int} {i : Nat} (h : i < n) : (rowO n F T).getD i ⟨0, 0, 0⟩ = ⟨0, F i, T i⟩ := by simp [rowO, List.getD_eq_getElem?_getD, h]
theorem occupations_bad (L : Lay) (hL : LayFits L) (st : List Stp) (ov : Int) (hl : st.length ≤ 9223372036854775807) (ho : -9223372036854775808 ≤ ov ∧ ov ≤ 9223372036854775807) (nm : ByteArray) (l sp ac br bf af : Int) (h : ¬ fitErr L ⟨st, ov⟩ l sp ac br = 0) : OkV Tryz.prog 24 [vLay L, vR2 st ov, vS5 nm l sp ac br, .c (xI bf), .c (xI af)] [] (.tup [.c (rOcc []), .c (xI 0), .c (xI (fitErr L ⟨st, ov⟩ l sp ac br))]) [] := by
 have hF := btimes_bad L hL st ov hl ho nm l sp ac br h
 unfold vLay at hF ⊢
 refine X_fn mixedX Tryz.func24 rfl (by kernel_rfl) (Nat.le_of_ble_eq_true (by kernel_rfl)) (by kernel_rfl) rfl rfl (Nat.le_of_ble_eq_true rfl) rfl rfl ?_
 simp only [sl0, Nat.zero_add, Nat.reduceAdd]
 repeat' (first
  |with_reducible (first|refine q_and ?_ ?_|exact True.intro|exact TkEq.nil _|refine Red.o (by constructor) ?_|refine blockK_o' rfl ?_|refine LoopX_e' rfl ?_|assumption)
  |((with_reducible apply q_call);refine X_pure (hF) rfl ?_)
  |((with_reducible apply q_CI);intro hbq;(try simp only [bq] at hbq);(try (exfalso;omega)))
  |refine Rex.o (by (with_reducible constructor);apply Eq.refl) ?_
  |(intro (hgq : (_ : Bool) = true);(try simp only [bq] at hgq))
  |(intro (hgq : (_ : Bool) = false);(try simp only [bq] at hgq))
  |((with_reducible apply q_VOk);exact fun _ => ⟨rfl,rfl⟩)|(intro _;exact rfl)|((with_reducible apply q_CRB);kernel_rfl)|((with_reducible apply q_bt);simp only [bq])|((with_reducible apply q_eqN);rfl)|((with_reducible apply q_FE);exact rfl)|with_reducible (first|exact isByte_wrap _|exact isByte_nat _)|(simp only [hgq,bq];done)|omega|(dsimp only;omega))
 ·rfl
theorem occupations_ok (L : Lay) (hL : LayFits L) (st : List Stp) (ov : Int) (hl : st.length ≤ 9223372036854775807) (ho : -9223372036854775808 ≤ ov ∧ ov ≤ 9223372036854775807) (nm : ByteArray) (l sp ac br bf af : Int) (h : fitErr L ⟨st, ov⟩ l sp ac br = 0) (hb : 0 ≤ bf ∧ bf ≤ 1000000) (ha : 0 ≤ af ∧ af ≤ 1000000) : OkV Tryz.prog 24 [vLay L, vR2 st ov, vS5 nm l sp ac br, .c (xI bf), .c (xI af)] [] (.tup [.c (rOcc ((tabL L st (spF L ⟨st, ov⟩ l sp ac br bf) (spT L ⟨st, ov⟩ l sp ac br af) (ptT L ⟨st, ov⟩ l sp ac br af) st.length).filter usedO)), .c (xI (runI L ⟨st, ov⟩ l sp ac br)), .c (xI 0)]) [] := by
 have hF := btimes_ok L hL st ov hl ho nm l sp ac br h
 have hR := ride_of h
 have hN := newTable_ok L (valid_of hR.rt.lay)
 have hn2 := hR.n2
 have hn24 := hR.n24
 have hE1 := row_len (trv ⟨st, ov⟩).length fun k => rideT L ⟨st, ov⟩ l sp ac br (endA L (trv ⟨st, ov⟩) (k - 1))
 have hE2 : ∀ k, k < (trv ⟨st, ov⟩).length → (entL L ⟨st, ov⟩ l sp ac br (trv ⟨st, ov⟩).length).getD k 0 = entF L ⟨st, ov⟩ l sp ac br k := fun k hk => row_get hk
 have hL1 := row_len (trv ⟨st, ov⟩).length (levF L ⟨st, ov⟩ l sp ac br)
 have hL2 : ∀ k, k < (trv ⟨st, ov⟩).length → (levL L ⟨st, ov⟩ l sp ac br (trv ⟨st, ov⟩).length).getD k 0 = levF L ⟨st, ov⟩ l sp ac br k := fun k hk => row_get hk
 change (entL L ⟨st, ov⟩ l sp ac br (trv ⟨st, ov⟩).length).length = _ at hE1
 change (levL L ⟨st, ov⟩ l sp ac br (trv ⟨st, ov⟩).length).length = _ at hL1
 have hEb : ∀ k, k < (trv ⟨st, ov⟩).length → 0 ≤ entF L ⟨st, ov⟩ l sp ac br k ∧ entF L ⟨st, ov⟩ l sp ac br k ≤ 80000000 := fun k hk => hR.rng _ (endA_mono L _ (by omega))
 have hLb : ∀ k, k < (trv ⟨st, ov⟩).length → 0 ≤ levF L ⟨st, ov⟩ l sp ac br k ∧ levF L ⟨st, ov⟩ l sp ac br k ≤ 80000000 := fun k hk => hR.rng _ (lev_in hR hk).2
 have hrb : -1 ≤ runI L ⟨st, ov⟩ l sp ac br ∧ runI L ⟨st, ov⟩ l sp ac br ≤ 80001 := by
  have a := hR.rng _ (Nat.le_refl _)
  obtain ⟨b1, b2⟩ := Pl.cdiv_bracket (rideT L ⟨st, ov⟩ l sp ac br (endA L (trv ⟨st, ov⟩) ((trv ⟨st, ov⟩).length - 1))) 1000 (by omega)
  unfold runI
  omega
 generalize entL L ⟨st, ov⟩ l sp ac br (trv ⟨st, ov⟩).length = es at *
 generalize levL L ⟨st, ov⟩ l sp ac br (trv ⟨st, ov⟩).length = lv at *
 have hU := up_ok (lv.getD 0 0) (by have := hL2 0 (by omega); have := hLb 0 (by omega); omega)
 have hub := Pl.cdiv_bracket (lv.getD 0 0) 1000 (by omega)
 have hl0 := hL2 0 (by omega)
 have hl0b := hLb 0 (by omega)
 unfold vLay at hF hN ⊢
 refine X_fn mixedX Tryz.func24 rfl (by kernel_rfl) (Nat.le_of_ble_eq_true (by kernel_rfl)) (by kernel_rfl) rfl rfl (Nat.le_of_ble_eq_true rfl) rfl rfl ?_
 simp only [sl0, Nat.zero_add, Nat.reduceAdd]
 repeat' (first
  |with_reducible (first|refine q_and ?_ ?_|exact True.intro|exact TkEq.nil _|refine Red.o (by constructor) ?_|refine blockK_o' rfl ?_|refine LoopX_e' rfl ?_|assumption)
  |((with_reducible apply q_call);first|refine X_pure (hF) rfl ?_|refine X_pure (hU) rfl ?_)
  |((with_reducible apply q_CI);intro hbq;(try simp only [bq] at hbq);(try (exfalso;omega)))
  |refine Rex.o (by (with_reducible constructor);apply Eq.refl) ?_
  |(intro (hgq : (_ : Bool) = true);(try simp only [bq] at hgq))
  |(intro (hgq : (_ : Bool) = false);(try simp only [bq] at hgq))
  |((with_reducible apply q_VOk);exact fun _ => ⟨rfl,rfl⟩)|(intro _;exact rfl)|((with_reducible apply q_CRB);kernel_rfl)|((with_reducible apply q_bt);simp only [bq])|((with_reducible apply q_eqN);rfl)|((with_reducible apply q_FE);exact rfl)|with_reducible (first|exact isByte_wrap _|exact isByte_nat _)|(simp only [hgq,bq];done)|omega|(dsimp only;omega))
 clear hF
 have hF0 : spF L ⟨st, ov⟩ l sp ac br bf 0 = -bf := rfl
 have hT0 : spT L ⟨st, ov⟩ l sp ac br af 0 = Pl.cdiv (lv.getD 0 0) 1000 + 4 := by rw [hl0]; unfold spT; rw [if_pos (by omega)]
 refine W_loopS (fun k : Nat => SS [sI 3 bf, sI 4 af, sC 5 (pB 0), sC 6 (pB 1), sC 13 (rInt es), sC 14 (rInt lv), sI 15 (runI L ⟨st, ov⟩ l sp ac br), sI 17 ((trv ⟨st, ov⟩).length - 1 : Nat), sC 18 (tOcc (rowO (k + 1) (spF L ⟨st, ov⟩ l sp ac br bf) (spT L ⟨st, ov⟩ l sp ac br af))), sI 19 (k + 1 : Nat)] [bLay L, bRte st ov]) (fun k => k + 1 ≤ (trv ⟨st, ov⟩).length - 1) (fun k => (trv ⟨st, ov⟩).length - k) 0 ?_ (by omega) ?_
 ·
  refine X_weak rfl rfl rfl ?_ ?_ <;> repeat' (first|with_reducible (first|refine Wk.o (by constructor) ?_|refine q_and ?_ ?_|exact True.intro)|refine q_AgS rfl ?_ ?_|exact CLe.nil_tipS|exact CLe.nil_rowS|refine HLe.cells ?_ ?_|refine HLe.els ?_ ?_|refine SLe.cons ?_ ?_|exact (rfl : known _ = _)|with_reducible rfl|omega)
  all_goals first
   | omega
   | (
    rw [← hF0, ← hT0]
    rfl)
   | rw [rowO_len]
 intro k hk
 have hl2 := rowO_len (k + 1) (spF L ⟨st, ov⟩ l sp ac br bf) (spT L ⟨st, ov⟩ l sp ac br af)
 by_cases hkm : k + 1 < (trv ⟨st, ov⟩).length - 1
 ·have e1 : (((k + 1 : Nat) : Int) - 1).toNat = k := by omega
  have c1 : es.getD (((k + 1 : Nat) : Int) - 1).toNat 0 = entF L ⟨st, ov⟩ l sp ac br k := by rw [e1]; exact hE2 k (by omega)
  have c2 : lv.getD ((k + 1 : Nat) : Int).toNat 0 = levF L ⟨st, ov⟩ l sp ac br (k + 1) := hL2 (k + 1) (by omega)
  have c3 := hEb k (by omega)
  have c4 := hLb (k + 1) (by omega)
  have hD := down_ok (es.getD (((k + 1 : Nat) : Int) - 1).toNat 0) (by omega)
  have hU2 := up_ok (lv.getD ((k + 1 : Nat) : Int).toNat 0) (by omega)
  have hub2 := Pl.cdiv_bracket (lv.getD ((k + 1 : Nat) : Int).toNat 0) 1000 (by omega)
  have f1 : spF L ⟨st, ov⟩ l sp ac br bf (k + 1) = es.getD (((k + 1 : Nat) : Int) - 1).toNat 0 / 1000 - 16 := by
   rw [c1]; unfold spF; rw [if_neg (by omega), if_pos (by omega)]; rfl
  have f2 : spT L ⟨st, ov⟩ l sp ac br af (k + 1) = Pl.cdiv (lv.getD ((k + 1 : Nat) : Int).toNat 0) 1000 + 4 := by
   rw [c2]; unfold spT; rw [if_pos (by omega)]
  repeat' (first
   |with_reducible (first|refine q_and ?_ ?_|exact True.intro|exact TkEq.nil _|refine Red.o (by constructor) ?_|refine blockK_o' rfl ?_|refine LoopX_e' rfl ?_|assumption)
   |((with_reducible apply q_call);first|refine X_pure (hD) rfl ?_|refine X_pure (hU2) rfl ?_)
   |((with_reducible apply q_CI);intro hbq;(try simp only [bq] at hbq);(try (exfalso;omega)))
   |refine Rex.o (by (with_reducible constructor);apply Eq.refl) ?_
   |(intro (hgq : (_ : Bool) = true);(try simp only [bq] at hgq))
   |(intro (hgq : (_ : Bool) = false);(try simp only [bq] at hgq))
   |((with_reducible apply q_VOk);exact fun _ => ⟨rfl,rfl⟩)|(intro _;exact rfl)|((with_reducible apply q_CRB);kernel_rfl)|((with_reducible apply q_bt);simp only [bq])|((with_reducible apply q_eqN);rfl)|((with_reducible apply q_FE);exact rfl)|with_reducible (first|exact isByte_wrap _|exact isByte_nat _)|(simp only [hgq,bq];done)|omega|(dsimp only;omega))
  ·
   refine LoopK_n (k + 1) ?_ ((by omega)) (by (try dsimp only); omega)
   refine X_weak rfl rfl rfl ?_ ?_ <;> repeat' (first|with_reducible (first|refine Wk.o (by constructor) ?_|refine q_and ?_ ?_|exact True.intro)|refine q_AgS rfl ?_ ?_|exact CLe.nil_tipS|exact CLe.nil_rowS|refine HLe.cells ?_ ?_|refine HLe.els ?_ ?_|refine SLe.cons ?_ ?_|exact (rfl : known _ = _)|with_reducible rfl|omega)
   ·rw [rowO_snoc (k + 1), f1, f2]; simp [fOcc, fI]
   ·rw [rowO_len, rowO_len]
 have hkn : k + 1 = (trv ⟨st, ov⟩).length - 1 := by omega
 have e1 : ((((trv ⟨st, ov⟩).length - 1 : Nat) : Int) - 1).toNat = k := by omega
 have e2 : (((trv ⟨st, ov⟩).length - 1 : Nat) : Int).toNat = k + 1 := by omega
 have c1 : es.getD ((((trv ⟨st, ov⟩).length - 1 : Nat) : Int) - 1).toNat 0 = entF L ⟨st, ov⟩ l sp ac br k := by rw [e1]; exact hE2 k (by omega)
 have c2 : es.getD (((trv ⟨st, ov⟩).length - 1 : Nat) : Int).toNat 0 = entF L ⟨st, ov⟩ l sp ac br (k + 1) := by rw [e2]; exact hE2 (k + 1) (by omega)
 have c3 := hEb k (by omega)
 have c4 := hEb (k + 1) (by omega)
 have hD1 := down_ok (es.getD ((((trv ⟨st, ov⟩).length - 1 : Nat) : Int) - 1).toNat 0) (by omega)
 have hD2 := down_ok (es.getD (((trv ⟨st, ov⟩).length - 1 : Nat) : Int).toNat 0) (by omega)
 repeat' (first
  |with_reducible (first|refine q_and ?_ ?_|exact True.intro|exact TkEq.nil _|refine Red.o (by constructor) ?_|refine blockK_o' rfl ?_|refine LoopX_e' rfl ?_|assumption)
  |((with_reducible apply q_call);first|refine X_pure (hD1) rfl ?_|refine X_pure (hD2) rfl ?_|refine X_call [] (hN) rfl rfl rfl rfl rfl rfl rfl rfl rfl rfl rfl rfl rfl ?_)
  |((with_reducible apply q_CI);intro hbq;(try simp only [bq] at hbq);(try (exfalso;omega)))
  |refine Rex.o (by (with_reducible constructor);apply Eq.refl) ?_
  |(intro (hgq : (_ : Bool) = true);(try simp only [bq] at hgq))
  |(intro (hgq : (_ : Bool) = false);(try simp only [bq] at hgq))
  |((with_reducible apply q_VOk);exact fun _ => ⟨rfl,rfl⟩)|(intro _;exact rfl)|((with_reducible apply q_CRB);kernel_rfl)|((with_reducible apply q_bt);simp only [bq])|((with_reducible apply q_eqN);rfl)|((with_reducible apply q_FE);exact rfl)|with_reducible (first|exact isByte_wrap _|exact isByte_nat _)|(simp only [hgq,bq];done)|omega|(dsimp only;omega))
 have g1 : spF L ⟨st, ov⟩ l sp ac br bf (k + 1) = es.getD ((((trv ⟨st, ov⟩).length - 1 : Nat) : Int) - 1).toNat 0 / 1000 - 16 := by
  rw [c1]; unfold spF; rw [if_neg (by omega), if_pos (by omega)]; rfl
 have g2 : spT L ⟨st, ov⟩ l sp ac br af (k + 1) = runI L ⟨st, ov⟩ l sp ac br + af := by
  unfold spT; rw [if_neg (by omega), if_pos (by omega)]
 have g3 : ∀ i, (trv ⟨st, ov⟩).length ≤ i → spF L ⟨st, ov⟩ l sp ac br bf i = es.getD (((trv ⟨st, ov⟩).length - 1 : Nat) : Int).toNat 0 / 1000 - 16 := fun i hi => by
  rw [c2]; unfold spF; rw [if_neg (by omega), if_neg (by omega), ← hkn]
 have g4 : ∀ i, (trv ⟨st, ov⟩).length ≤ i → spT L ⟨st, ov⟩ l sp ac br af i = runI L ⟨st, ov⟩ l sp ac br + 20 := fun i hi => by
  unfold spT; rw [if_neg (by omega), if_neg (by omega)]
 have gp1 : ∀ i, 0 < i → i < (trv ⟨st, ov⟩).length → ptT L ⟨st, ov⟩ l sp ac br af i = spT L ⟨st, ov⟩ l sp ac br af (i - 1) := fun i h0 hi => by unfold ptT; rw [if_pos hi]
 have gp2 : ∀ i, (trv ⟨st, ov⟩).length ≤ i → ptT L ⟨st, ov⟩ l sp ac br af i = spT L ⟨st, ov⟩ l sp ac br af i := fun i hi => by unfold ptT; rw [if_neg (by omega)]
 have gb : ∀ i, -1000100 ≤ spF L ⟨st, ov⟩ l sp ac br bf i ∧ spF L ⟨st, ov⟩ l sp ac br bf i ≤ 80001000 := fun i => by
  unfold spF
  split
  ·omega
  ·split
   ·have := hEb (i - 1) (by omega); omega
   ·have := hEb ((trv ⟨st, ov⟩).length - 1) (by omega); omega
 have hn4 : (trv ⟨st, ov⟩).length ≤ st.length := by
  have h1 := hR.n
  have h2 := hR.rt.ov0
  simp only at h1 h2
  omega
 have hRt := hR.rt
 have hV := valid_of hRt.lay
 have hsx : ∀ i, i < st.length → Stp.ok L (st.getD i st0) = true := fun i hi => all_at hRt.ok hi
 have hNb : L.secs.length + L.pts.length ≤ 1000 := by have := hV.n2; have := hV.n3; omega
 have hBt := fun a b ha => between_ok L hL hRt.lay a b ha
 have hst24 := hRt.len
 simp only at hst24
 have hgl := fun i => tabL_len L st (spF L ⟨st, ov⟩ l sp ac br bf) (spT L ⟨st, ov⟩ l sp ac br af) (ptT L ⟨st, ov⟩ l sp ac br af) i
 have hjn : ∀ i, 0 < i → i < st.length → ∃ k, joinL L (st.getD (i - 1) st0) (st.getD i st0) = some k ∧ -1 ≤ k.pt ∧ k.pt < L.pts.length := fun i h0 hi => join_at hRt h0 hi
 clear hE2 hL2 hEb hLb hD1 hD2 hN c1 c2 hl0 hT0 hF0 hU hub hl0b hk hn24
 generalize spF L ⟨st, ov⟩ l sp ac br bf = F at *
 generalize spT L ⟨st, ov⟩ l sp ac br af = T at *
 generalize ptT L ⟨st, ov⟩ l sp ac br af = P at *
 generalize runI L ⟨st, ov⟩ l sp ac br = run at *
 generalize hnn : (trv ⟨st, ov⟩).length = n at *
 generalize hov : es.getD ((n - 1 : Nat) : Int).toNat 0 / 1000 - 16 = ovF at *
 have hmx : max 0 n = k + 1 + 1 := by omega
 refine W_loopS (fun i : Nat => SS [sC 5 (pB 0), sC 6 (pB 1), sI 15 run, sI 17 (n - 1 : Nat), sC 18 (uOcc (rowO (max i n) F T)), sC 20 (pB 2), sC 21 (.c (.arr 4 0 (L.secs.length + L.pts.length) (L.secs.length + L.pts.length))), sC 97 (rStp st), sI 98 st.length, sI 99 i] [bLay L, bRte st ov, some (.cells [xI 0, xI ovF, xI (run + 20)]), none, bOcc (tabL L st F T P i)]) (fun i => i ≤ st.length) (fun i => st.length - i) 0 ?_ (by omega) ?_
 ·
  refine X_weak rfl rfl rfl ?_ ?_ <;> repeat' (first|with_reducible (first|refine Wk.o (by constructor) ?_|refine q_and ?_ ?_|exact True.intro)|refine q_AgS rfl ?_ ?_|exact CLe.nil_tipS|exact CLe.nil_rowS|refine HLe.cells ?_ ?_|refine HLe.els ?_ ?_|refine SLe.cons ?_ ?_|exact (rfl : known _ = _)|with_reducible rfl|omega)
  ·rfl
  ·rw [hmx, rowO_snoc (k + 1), g1, g2]; simp [fOcc, fI]
  ·rw [hmx, rowO_len, rowO_len]
 clear g1 g2 hl2
 intro i hi
 have hl3 := rowO_len (max i n) F T
 by_cases hil : i < st.length
 ·have s1 : 0 ≤ (st.getD (i : Int).toNat { sec := 0, dir := 0 }).sec ∧ (st.getD (i : Int).toNat { sec := 0, dir := 0 }).sec < L.secs.length := ⟨(ok_dir (hsx i hil)).1, (ok_dir (hsx i hil)).2.1⟩
  have hTl := hgl i
  by_cases hin : i < n
  ·have m1 : max i n = n := by omega
   have m2 : max (i + 1) n = n := by omega
   have q1 : (rowO (max i n) F T).getD (i : Int).toNat { res := 0, frm := 0, til := 0 } = ⟨0, F i, T i⟩ := by rw [Int.toNat_natCast]; exact rowO_get (by omega)
   have hA1 := tadd_okI (tabL L st F T P i) (L.secs.length + L.pts.length) (st.getD (i : Int).toNat { sec := 0, dir := 0 }).sec ((rowO (max i n) F T).getD (i : Int).toNat { res := 0, frm := 0, til := 0 }).frm ((rowO (max i n) F T).getD (i : Int).toNat { res := 0, frm := 0, til := 0 }).til ⟨s1.1, by omega⟩ hTl hNb
   have e0 : tabL L st F T P (i + 1) = tabS L st F T P i (tabL L st F T P i) := rfl
   by_cases hi0 : i = 0
   ·have e1 : tabL L st F T P (i + 1) = addO (tabL L st F T P i) (st.getD (i : Int).toNat { sec := 0, dir := 0 }).sec.toNat ((rowO (max i n) F T).getD (i : Int).toNat { res := 0, frm := 0, til := 0 }).frm ((rowO (max i n) F T).getD (i : Int).toNat { res := 0, frm := 0, til := 0 }).til := by
     rw [e0, q1, Int.toNat_natCast]; unfold tabS; rw [if_pos hi0]
    repeat' (first
     |with_reducible (first|refine q_and ?_ ?_|exact True.intro|exact TkEq.nil _|refine Red.o (by constructor) ?_|refine blockK_o' rfl ?_|refine LoopX_e' rfl ?_|assumption)
     |((with_reducible apply q_call);refine X_call [4] (hA1) rfl rfl rfl rfl rfl rfl rfl rfl rfl rfl rfl rfl rfl ?_)
     |((with_reducible apply q_CI);intro hbq;(try simp only [bq] at hbq);(try (exfalso;omega)))
     |with_reducible (first|refine W_seq ?_|refine W_block ?_)
     |((with_reducible apply q_cond);refine X_cond rfl ?_ ?_;all_goals (intro hbq;(try simp only [bq] at hbq);(try (exfalso;omega))))
     |refine Rex.o (by (with_reducible constructor);apply Eq.refl) ?_
     |(intro (hgq : (_ : Bool) = true);(try simp only [bq] at hgq))
     |(intro (hgq : (_ : Bool) = false);(try simp only [bq] at hgq))
     |((with_reducible apply q_VOk);exact fun _ => ⟨rfl,rfl⟩)|(intro _;exact rfl)|((with_reducible apply q_CRB);kernel_rfl)|((with_reducible apply q_bt);simp only [bq])|((with_reducible apply q_eqN);rfl)|((with_reducible apply q_FE);exact rfl)|with_reducible (first|exact isByte_wrap _|exact isByte_nat _)|(simp only [hgq,bq];done)|omega|(dsimp only;omega))
    ·
     refine LoopK_n (i + 1) ?_ ((by omega)) (by (try dsimp only); omega)
     refine X_weak rfl rfl rfl ?_ ?_ <;> repeat' (first|with_reducible (first|refine Wk.o (by constructor) ?_|refine q_and ?_ ?_|exact True.intro)|refine q_AgS rfl ?_ ?_|exact CLe.nil_tipS|exact CLe.nil_rowS|refine HLe.cells ?_ ?_|refine HLe.els ?_ ?_|refine SLe.cons ?_ ?_|exact (rfl : known _ = _)|with_reducible rfl|omega)
     ·rw [e1]
     ·rw [m1, m2]
   ·obtain ⟨j, hj, hj1, hj2⟩ := hjn i (by omega) hil
    have eI : ((i : Int) - 1).toNat = i - 1 := by omega
    have q2 : (rowO (max i n) F T).getD ((i : Int) - 1).toNat { res := 0, frm := 0, til := 0 } = ⟨0, F (i - 1), T (i - 1)⟩ := by rw [eI]; exact rowO_get (by omega)
    have hB : OkV Tryz.prog 51 [vLay L, vSt (st.getD ((i : Int) - 1).toNat { sec := 0, dir := 0 }), vSt (st.getD (i : Int).toNat { sec := 0, dir := 0 })] [] (vI j.pt) [] := by
     have h0 := hBt (st.getD (i - 1) st0) (st.getD i st0) (hsx (i - 1) (by omega))
     rw [hj] at h0
     rw [eI]
     exact h0
    unfold vLay at hB
    generalize hA : addO (tabL L st F T P i) (st.getD (i : Int).toNat { sec := 0, dir := 0 }).sec.toNat ((rowO (max i n) F T).getD (i : Int).toNat { res := 0, frm := 0, til := 0 }).frm ((rowO (max i n) F T).getD (i : Int).toNat { res := 0, frm := 0, til := 0 }).til = A at hA1
    have hAl : A.length = L.secs.length + L.pts.length := by rw [← hA, addO_len, hTl]
    by_cases hjp : j.pt < 0
    ·have e1 : tabL L st F T P (i + 1) = A := by
      rw [e0, ← hA, q1, Int.toNat_natCast]; unfold tabS; rw [if_neg hi0, hj]; simp only; rw [if_pos hjp]
     repeat' (first
      |with_reducible (first|refine q_and ?_ ?_|exact True.intro|exact TkEq.nil _|refine Red.o (by constructor) ?_|refine blockK_o' rfl ?_|refine LoopX_e' rfl ?_|assumption)
      |((with_reducible apply q_call);first|refine X_call [4] (hA1) rfl rfl rfl rfl rfl rfl rfl rfl rfl rfl rfl rfl rfl ?_|refine X_pure (hB) rfl ?_)
      |((with_reducible apply q_CI);intro hbq;(try simp only [bq] at hbq);(try (exfalso;omega)))
      |with_reducible (first|refine W_seq ?_|refine W_block ?_)
      |((with_reducible apply q_cond);refine X_cond rfl ?_ ?_;all_goals (intro hbq;(try simp only [bq] at hbq);(try (exfalso;omega))))
      |refine Rex.o (by (with_reducible constructor);apply Eq.refl) ?_
      |(intro (hgq : (_ : Bool) = true);(try simp only [bq] at hgq))
      |(intro (hgq : (_ : Bool) = false);(try simp only [bq] at hgq))
      |((with_reducible apply q_VOk);exact fun _ => ⟨rfl,rfl⟩)|(intro _;exact rfl)|((with_reducible apply q_CRB);kernel_rfl)|((with_reducible apply q_bt);simp only [bq])|((with_reducible apply q_eqN);rfl)|((with_reducible apply q_FE);exact rfl)|with_reducible (first|exact isByte_wrap _|exact isByte_nat _)|(simp only [hgq,bq];done)|omega|(dsimp only;omega))
     ·
      refine LoopK_n (i + 1) ?_ ((by omega)) (by (try dsimp only); omega)
      refine X_weak rfl rfl rfl ?_ ?_ <;> repeat' (first|with_reducible (first|refine Wk.o (by constructor) ?_|refine q_and ?_ ?_|exact True.intro)|refine q_AgS rfl ?_ ?_|exact CLe.nil_tipS|exact CLe.nil_rowS|refine HLe.cells ?_ ?_|refine HLe.els ?_ ?_|refine SLe.cons ?_ ?_|exact (rfl : known _ = _)|with_reducible rfl|omega)
      ·rw [e1]
      ·rw [m1, m2]
    ·have hA2 := tadd_okI A (L.secs.length + L.pts.length) (L.secs.length + j.pt) ((rowO (max i n) F T).getD (i : Int).toNat { res := 0, frm := 0, til := 0 }).frm ((rowO (max i n) F T).getD ((i : Int) - 1).toNat { res := 0, frm := 0, til := 0 }).til ⟨by omega, by omega⟩ hAl hNb
     have e1 : tabL L st F T P (i + 1) = addO A ((L.secs.length : Int) + j.pt).toNat ((rowO (max i n) F T).getD (i : Int).toNat { res := 0, frm := 0, til := 0 }).frm ((rowO (max i n) F T).getD ((i : Int) - 1).toNat { res := 0, frm := 0, til := 0 }).til := by
      rw [e0, ← hA, q1, q2, Int.toNat_natCast]; unfold tabS; rw [if_neg hi0, hj]; simp only; rw [if_neg hjp, gp1 i (by omega) hin, show ((L.secs.length : Int) + j.pt).toNat = L.secs.length + j.pt.toNat by omega]
     repeat' (first
      |with_reducible (first|refine q_and ?_ ?_|exact True.intro|exact TkEq.nil _|refine Red.o (by constructor) ?_|refine blockK_o' rfl ?_|refine LoopX_e' rfl ?_|assumption)
      |((with_reducible apply q_call);first|refine X_call [4] (hA1) rfl rfl rfl rfl rfl rfl rfl rfl rfl rfl rfl rfl rfl ?_|refine X_call [4] (hA2) rfl rfl rfl rfl rfl rfl rfl rfl rfl rfl rfl rfl rfl ?_|refine X_pure (hB) rfl ?_)
      |((with_reducible apply q_CI);intro hbq;(try simp only [bq] at hbq);(try (exfalso;omega)))
      |with_reducible (first|refine W_seq ?_|refine W_block ?_)
      |((with_reducible apply q_cond);refine X_cond rfl ?_ ?_;all_goals (intro hbq;(try simp only [bq] at hbq);(try (exfalso;omega))))
      |refine Rex.o (by (with_reducible constructor);apply Eq.refl) ?_
      |(intro (hgq : (_ : Bool) = true);(try simp only [bq] at hgq))
      |(intro (hgq : (_ : Bool) = false);(try simp only [bq] at hgq))
      |((with_reducible apply q_VOk);exact fun _ => ⟨rfl,rfl⟩)|(intro _;exact rfl)|((with_reducible apply q_CRB);kernel_rfl)|((with_reducible apply q_bt);simp only [bq])|((with_reducible apply q_eqN);rfl)|((with_reducible apply q_FE);exact rfl)|with_reducible (first|exact isByte_wrap _|exact isByte_nat _)|(simp only [hgq,bq];done)|omega|(dsimp only;omega))
     ·
      refine LoopK_n (i + 1) ?_ ((by omega)) (by (try dsimp only); omega)
      refine X_weak rfl rfl rfl ?_ ?_ <;> repeat' (first|with_reducible (first|refine Wk.o (by constructor) ?_|refine q_and ?_ ?_|exact True.intro)|refine q_AgS rfl ?_ ?_|exact CLe.nil_tipS|exact CLe.nil_rowS|refine HLe.cells ?_ ?_|refine HLe.els ?_ ?_|refine SLe.cons ?_ ?_|exact (rfl : known _ = _)|with_reducible rfl|omega)
      ·rw [e1]
      ·rw [m1, m2]
  ·have m1 : max i n = i := by omega
   have m2 : max (i + 1) n = i + 1 := by omega
   have q0 : rowO (max i n) F T ++ [Occ.mk 0 ovF (run + 20)] = rowO (i + 1) F T := by rw [m1, rowO_snoc, g3 i (by omega), g4 i (by omega)]
   have q1 : (rowO (max i n) F T ++ [Occ.mk 0 ovF (run + 20)]).getD (i : Int).toNat { res := 0, frm := 0, til := 0 } = ⟨0, F i, T i⟩ := by rw [q0, Int.toNat_natCast]; exact rowO_get (by omega)
   have q5 : (rowO (max i n) F T ++ [Occ.mk 0 ovF (run + 20)]).length = i + 1 := by rw [q0, rowO_len]
   have hA1 := tadd_okI (tabL L st F T P i) (L.secs.length + L.pts.length) (st.getD (i : Int).toNat { sec := 0, dir := 0 }).sec ((rowO (max i n) F T ++ [Occ.mk 0 ovF (run + 20)]).getD (i : Int).toNat { res := 0, frm := 0, til := 0 }).frm ((rowO (max i n) F T ++ [Occ.mk 0 ovF (run + 20)]).getD (i : Int).toNat { res := 0, frm := 0, til := 0 }).til ⟨s1.1, by omega⟩ hTl hNb
   have e0 : tabL L st F T P (i + 1) = tabS L st F T P i (tabL L st F T P i) := rfl
   have hi0 : ¬ i = 0 := by omega
   obtain ⟨j, hj, hj1, hj2⟩ := hjn i (by omega) hil
   have eI : ((i : Int) - 1).toNat = i - 1 := by omega
   have hB : OkV Tryz.prog 51 [vLay L, vSt (st.getD ((i : Int) - 1).toNat { sec := 0, dir := 0 }), vSt (st.getD (i : Int).toNat { sec := 0, dir := 0 })] [] (vI j.pt) [] := by
    have h0 := hBt (st.getD (i - 1) st0) (st.getD i st0) (hsx (i - 1) (by omega))
    rw [hj] at h0
    rw [eI]
    exact h0
   unfold vLay at hB
   generalize hA : addO (tabL L st F T P i) (st.getD (i : Int).toNat { sec := 0, dir := 0 }).sec.toNat ((rowO (max i n) F T ++ [Occ.mk 0 ovF (run + 20)]).getD (i : Int).toNat { res := 0, frm := 0, til := 0 }).frm ((rowO (max i n) F T ++ [Occ.mk 0 ovF (run + 20)]).getD (i : Int).toNat { res := 0, frm := 0, til := 0 }).til = A at hA1
   have hAl : A.length = L.secs.length + L.pts.length := by rw [← hA, addO_len, hTl]
   by_cases hjp : j.pt < 0
   ·have e1 : tabL L st F T P (i + 1) = A := by
     rw [e0, ← hA, q1, Int.toNat_natCast]; unfold tabS; rw [if_neg hi0, hj]; simp only; rw [if_pos hjp]
    repeat' (first
     |with_reducible (first|refine q_and ?_ ?_|exact True.intro|exact TkEq.nil _|refine Red.o (by constructor) ?_|refine blockK_o' rfl ?_|refine LoopX_e' rfl ?_|assumption)
     |((with_reducible apply q_call);first|refine X_call [4] (hA1) rfl rfl rfl rfl rfl rfl rfl rfl rfl rfl rfl rfl rfl ?_|refine X_pure (hB) rfl ?_)
     |((with_reducible apply q_CI);intro hbq;(try simp only [bq] at hbq);(try (exfalso;omega)))
     |with_reducible (first|refine W_seq ?_|refine W_block ?_)
     |((with_reducible apply q_cond);refine X_cond rfl ?_ ?_;all_goals (intro hbq;(try simp only [bq] at hbq);(try (exfalso;omega))))
     |refine Rex.o (by (with_reducible constructor);apply Eq.refl) ?_
     |(intro (hgq : (_ : Bool) = true);(try simp only [bq] at hgq))
     |(intro (hgq : (_ : Bool) = false);(try simp only [bq] at hgq))
     |((with_reducible apply q_VOk);exact fun _ => ⟨rfl,rfl⟩)|(intro _;exact rfl)|((with_reducible apply q_CRB);kernel_rfl)|((with_reducible apply q_bt);simp only [bq])|((with_reducible apply q_eqN);rfl)|((with_reducible apply q_FE);exact rfl)|with_reducible (first|exact isByte_wrap _|exact isByte_nat _)|(simp only [hgq,bq];done)|omega|(dsimp only;omega))
    ·
     refine LoopK_n (i + 1) ?_ ((by omega)) (by (try dsimp only); omega)
     refine X_weak rfl rfl rfl ?_ ?_ <;> repeat' (first|with_reducible (first|refine Wk.o (by constructor) ?_|refine q_and ?_ ?_|exact True.intro)|refine q_AgS rfl ?_ ?_|exact CLe.nil_tipS|exact CLe.nil_rowS|refine HLe.cells ?_ ?_|refine HLe.els ?_ ?_|refine SLe.cons ?_ ?_|exact (rfl : known _ = _)|with_reducible rfl|omega)
     ·rw [e1]
     ·rw [q0, m2]
   ·have hA2 := tadd_okI A (L.secs.length + L.pts.length) (L.secs.length + j.pt) ovF (run + 20) ⟨by omega, by omega⟩ hAl hNb
    have e1 : tabL L st F T P (i + 1) = addO A ((L.secs.length : Int) + j.pt).toNat ovF (run + 20) := by
     rw [e0, ← hA, q1, Int.toNat_natCast]; unfold tabS; rw [if_neg hi0, hj]; simp only; rw [if_neg hjp, gp2 i (by omega), g3 i (by omega), g4 i (by omega), show ((L.secs.length : Int) + j.pt).toNat = L.secs.length + j.pt.toNat by omega]
    repeat' (first
     |with_reducible (first|refine q_and ?_ ?_|exact True.intro|exact TkEq.nil _|refine Red.o (by constructor) ?_|refine blockK_o' rfl ?_|refine LoopX_e' rfl ?_|assumption)
     |((with_reducible apply q_call);first|refine X_call [4] (hA1) rfl rfl rfl rfl rfl rfl rfl rfl rfl rfl rfl rfl rfl ?_|refine X_call [4] (hA2) rfl rfl rfl rfl rfl rfl rfl rfl rfl rfl rfl rfl rfl ?_|refine X_pure (hB) rfl ?_)
     |((with_reducible apply q_CI);intro hbq;(try simp only [bq] at hbq);(try (exfalso;omega)))
     |with_reducible (first|refine W_seq ?_|refine W_block ?_)
     |((with_reducible apply q_cond);refine X_cond rfl ?_ ?_;all_goals (intro hbq;(try simp only [bq] at hbq);(try (exfalso;omega))))
     |refine Rex.o (by (with_reducible constructor);apply Eq.refl) ?_
     |(intro (hgq : (_ : Bool) = true);(try simp only [bq] at hgq))
     |(intro (hgq : (_ : Bool) = false);(try simp only [bq] at hgq))
     |((with_reducible apply q_VOk);exact fun _ => ⟨rfl,rfl⟩)|(intro _;exact rfl)|((with_reducible apply q_CRB);kernel_rfl)|((with_reducible apply q_bt);simp only [bq])|((with_reducible apply q_eqN);rfl)|((with_reducible apply q_FE);exact rfl)|with_reducible (first|exact isByte_wrap _|exact isByte_nat _)|(simp only [hgq,bq];done)|omega|(dsimp only;omega))
    ·
     refine LoopK_n (i + 1) ?_ ((by omega)) (by (try dsimp only); omega)
     refine X_weak rfl rfl rfl ?_ ?_ <;> repeat' (first|with_reducible (first|refine Wk.o (by constructor) ?_|refine q_and ?_ ?_|exact True.intro)|refine q_AgS rfl ?_ ?_|exact CLe.nil_tipS|exact CLe.nil_rowS|refine HLe.cells ?_ ?_|refine HLe.els ?_ ?_|refine SLe.cons ?_ ?_|exact (rfl : known _ = _)|with_reducible rfl|omega)
     ·rw [e1]
     ·rw [q0, m2]
 ·have hie : i = st.length := by omega
  subst hie
  have hLs := tlist_okB (tabL L st F T P st.length) (L.secs.length + L.pts.length) (hgl _) hNb
  repeat' (first
   |with_reducible (first|refine q_and ?_ ?_|exact True.intro|exact TkEq.nil _|refine Red.o (by constructor) ?_|refine blockK_o' rfl ?_|refine LoopX_e' rfl ?_|assumption)
   |((with_reducible apply q_call);refine X_call [4] (hLs) rfl rfl rfl rfl rfl rfl rfl rfl rfl rfl rfl rfl rfl ?_)
   |((with_reducible apply q_CI);intro hbq;(try simp only [bq] at hbq);(try (exfalso;omega)))
   |with_reducible (first|refine W_seq ?_|refine W_block ?_)
   |((with_reducible apply q_cond);refine X_cond rfl ?_ ?_;all_goals (intro hbq;(try simp only [bq] at hbq);(try (exfalso;omega))))
   |refine Rex.o (by (with_reducible constructor);apply Eq.refl) ?_
   |(intro (hgq : (_ : Bool) = true);(try simp only [bq] at hgq))
   |(intro (hgq : (_ : Bool) = false);(try simp only [bq] at hgq))
   |((with_reducible apply q_VOk);exact fun _ => ⟨rfl,rfl⟩)|(intro _;exact rfl)|((with_reducible apply q_CRB);kernel_rfl)|((with_reducible apply q_bt);simp only [bq])|((with_reducible apply q_eqN);rfl)|((with_reducible apply q_FE);exact rfl)|with_reducible (first|exact isByte_wrap _|exact isByte_nat _)|(simp only [hgq,bq];done)|omega|(dsimp only;omega))
  ·rfl
def occL (L : Lay) (st : List Stp) (ov l sp ac br bf af : Int) : List Occ := (tabL L st (spF L ⟨st, ov⟩ l sp ac br bf) (spT L ⟨st, ov⟩ l sp ac br af) (ptT L ⟨st, ov⟩ l sp ac br af) st.length).filter usedO
theorem stairs_ok (L : Lay) (hL : LayFits L) (st : List Stp) (ov : Int) (hl : st.length ≤ 9223372036854775807) (ho : -9223372036854775808 ≤ ov ∧ ov ≤ 9223372036854775807) (nm : ByteArray) (l sp ac br : Int) (h : fitErr L ⟨st, ov⟩ l sp ac br = 0) : OkV Tryz.prog 9 [vLay L, vR2 st ov, vS5 nm l sp ac br] [] (.tup [.c (rOcc (occL L st ov l sp ac br 0 0)), .c (xI (runI L ⟨st, ov⟩ l sp ac br)), .c (xI 0)]) [] := by
 have hF := occupations_ok L hL st ov hl ho nm l sp ac br 0 0 h (by omega) (by omega)
 unfold occL
 generalize (tabL L st (spF L ⟨st, ov⟩ l sp ac br 0) (spT L ⟨st, ov⟩ l sp ac br 0) (ptT L ⟨st, ov⟩ l sp ac br 0) st.length).filter usedO = t at *
 unfold vLay at hF ⊢
 refine X_fn mixedX Tryz.func9 rfl (by kernel_rfl) (Nat.le_of_ble_eq_true (by kernel_rfl)) (by kernel_rfl) rfl rfl (Nat.le_of_ble_eq_true rfl) rfl rfl ?_
 simp only [sl0, Nat.zero_add, Nat.reduceAdd]
 repeat' (first
  |with_reducible (first|refine q_and ?_ ?_|exact True.intro|exact TkEq.nil _|refine Red.o (by constructor) ?_|refine blockK_o' rfl ?_|refine LoopX_e' rfl ?_|assumption)
  |((with_reducible apply q_call);refine X_pure (hF) rfl ?_)
  |((with_reducible apply q_CI);intro hbq;(try simp only [bq] at hbq);(try (exfalso;omega)))
  |refine Rex.o (by (with_reducible constructor);apply Eq.refl) ?_
  |(intro (hgq : (_ : Bool) = true);(try simp only [bq] at hgq))
  |(intro (hgq : (_ : Bool) = false);(try simp only [bq] at hgq))
  |((with_reducible apply q_VOk);exact fun _ => ⟨rfl,rfl⟩)|(intro _;exact rfl)|((with_reducible apply q_CRB);kernel_rfl)|((with_reducible apply q_bt);simp only [bq])|((with_reducible apply q_eqN);rfl)|((with_reducible apply q_FE);exact rfl)|with_reducible (first|exact isByte_wrap _|exact isByte_nat _)|(simp only [hgq,bq];done)|omega|(dsimp only;omega))
 all_goals repeat' (first|with_reducible (first|refine Wk.o (by constructor) ?_|refine q_and ?_ ?_|exact True.intro)|refine VEq.c ?_|refine VEq.agg ?_|refine VEq.tup ?_|refine TkEq.cells ?_ ?_|refine TkEq.els ?_ ?_|refine SEqL.cons ?_ ?_|refine TEqL.agg ?_ ?_|refine CEq.rows ?_|refine CEq.int ?_|rfl|omega)
theorem any_snoc (o : List Occ) (p : Occ → Bool) {j : Nat} (h : j < o.length) : (o.take (j + 1)).any p = ((o.take j).any p || p (o.getD j oc0)) := by
 rw [List.take_succ_eq_append_getElem h, List.any_append, List.any_cons, List.any_nil, Bool.or_false, List.getD_eq_getElem?_getD, List.getElem?_eq_getElem h]
 rfl
section
variable {L : Lay} {st : List Stp} {ov l sp ac br : Int} (h : Ride L ⟨st, ov⟩ l sp ac br)
include h
end
open Go.RowKit
theorem okWide_spot {P : Program} {w : World} {r : Reach} {base : Nat} {t e : TypeId} {v : Value} (ht : P.underlying t = some (.slice e)) (h : Value.okWide P w r base t v) {a : Addr} {len cap : Nat} (hv : v = .slice (some a) len cap) : a.spot = none := by
 subst hv
 simp only [Value.okWide, ht, Cell.okWide, Cell.ok] at h
 exact h.2.2.2.1
abbrev IsRowI (w : World) (a : Option Addr) (len cap : Nat) (zs : List Int) : Prop :=
 (a = none ∧ len = 0 ∧ cap = 0 ∧ zs = []) ∨ ∃ x, a = some x ∧ len ≤ cap ∧ cap ≤ maxLen ∧ zs.length = cap ∧ (∀ i, i < zs.length → w.cell? (x.add i) = some (.int .i64 (zs.getD i 0))) ∧ ∀ n ∈ zs, (Lit.int .i64 n).wf = true
theorem flat_int (l : List Int) : l.flatMap fInt = l.map fI := by
 induction l with
 | nil => rfl
 | cons x r ih => rw [List.flatMap_cons, ih]; rfl
theorem rowI_rep {w : World} {a : Option Addr} {len cap : Nat} {zs : List Int} (h : IsRowI w a len cap zs) (hs : ∀ x, a = some x → x.spot = none) : (∀ l, RepA w (fun _ => .lock none) id l (SV.den (.c (rInt (zs.take len)))) (.slice a len cap)) ∧ (zs.take len).length ≤ 9223372036854775807 := by
 rcases h with ⟨rfl, rfl, rfl, rfl⟩ | ⟨x, rfl, hl, hm, hz, hc, _⟩
 ·exact ⟨fun l => .nil0, by simp⟩
 ·unfold maxLen at hm
  have hlen : (zs.take len).length = len := by rw [List.length_take]; omega
  refine ⟨fun l => ?_, by omega⟩
  obtain ⟨g, o, sp⟩ := x
  have hsp : sp = none := hs _ rfl
  subst hsp
  show RepF w _ (.row ((zs.take len).flatMap fInt) (zs.take len).length) _
  rw [hlen, flat_int]
  have hcell : ∀ i (h : i < (zs.take len).length), w.cell? ⟨g, o + i, none⟩ = some (.int .i64 (zs.take len)[i]) := fun i h => by
   have h1 := hc i (by omega)
   have e : (⟨g, o, none⟩ : Addr).add i = ⟨g, o + i, none⟩ := by
    unfold Addr.add
    split
    ·rename_i h0; subst h0; rfl
    ·rfl
   rw [e] at h1
   rw [h1, List.getElem_take, List.getD_eq_getElem?_getD, List.getElem?_eq_getElem (by omega)]
   rfl
  refine repF_rowI ⟨g, o, cap, rfl, hl, ⟨fun i hi => ?_, fun hne => ?_⟩⟩
  ·rw [List.length_map] at hi
   exact ⟨_, hcell i hi, by rw [List.getElem_map]; exact RepF.v _ rfl⟩
  ·refine ⟨?_, trivial⟩
   have h0 : 0 < (zs.take len).length := List.length_pos_iff.2 (fun e => hne (by rw [e]; rfl))
   exact World.block_lt_of_cell? w _ (hcell 0 h0)
theorem law_calls {f : FuncId} {args : List AVal} (hO : Ok Tryz.prog f args [] (aB true) []) (w : World) (vals : Array Value) (hs : vals.size = args.length) (hr : ∀ i (h : i < args.length) (h' : i < vals.size) l, RepA w (fun _ => .lock none) id l args[i] vals[i]) (hok : ∀ x ∈ args, x.ok 0 = true) :
  Calls Tryz.prog f vals w fun e w' => e = .returned (.bool true) ∧ Below w.heap.size w w' := by
 refine (hO.run w (fun _ => .lock none) id vals hs hr hok ⟨fun b cs h => by simp at h, fun b cs h => by simp at h⟩).mono ?_
 rintro e w' ⟨v, κ', ρ', rfl, hv, _, hfr, _⟩
 have hv : RepF w' κ' (.v (.bool true)) v := hv (.slot 0)
 rw [(repF_v.1 hv).1]
 exact ⟨rfl, hfr.os, hfr.tape, hfr.output, hfr.size, fun k hk => (hfr.lock k none hk rfl).2⟩
end Go.Proofs.YtbpeakgihhdocaaGreat.Av
