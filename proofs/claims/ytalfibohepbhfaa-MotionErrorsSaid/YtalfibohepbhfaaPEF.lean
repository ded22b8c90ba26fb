/- What the claims use of their texts: Bl3, Bl4, Bl7, La1, La3, La4, Mo1, Mo2, Mo3, Mo4, Mo5, Mo6, Mo7, Mo8, Mo9, MoA, Sm, Mw1, Mw2, Fr, Opens. -/
import Derived.Test.YtalfibohepbhfaaPEE
set_option linter.unusedVariables false
set_option linter.unusedSimpArgs false
set_option maxRecDepth 4000
set_option maxHeartbeats 4000000
namespace Go.Proofs.Ytalfibohepbhfaa.Av
def entL (L : Lay) (r : Rte) (l sp ac br : Int) (n : Nat) : List Int := row n fun k => rideT L r l sp ac br (endA L (trv r) (k - 1))
def levF (L : Lay) (r : Rte) (l sp ac br : Int) (k : Nat) : Int := rideT L r l sp ac br (if k + 1 < (trv r).length then endA L (trv r) k + l.toNat else endA L (trv r) k)
def levL (L : Lay) (r : Rte) (l sp ac br : Int) (n : Nat) : List Int := row n (levF L r l sp ac br)
def runI (L : Lay) (r : Rte) (l sp ac br : Int) : Int := Pl.cdiv (rideT L r l sp ac br (endA L (trv r) ((trv r).length - 1))) 1000
theorem row_snoc (n : Nat) (f : Nat → Int) : row (n + 1) f = row n f ++ [f n] := by
 unfold row; rw [List.range_succ, List.map_append]; rfl
theorem snoc_den (X : List Int) (v : Int) : (SC.c (CVal.f (FVal.row (List.flatMap fInt X ++ [FVal.v (.int .i64 v)]) (X.length + 1)))).den = (rInt (X ++ [v])).den := by
 show CVal.f (FVal.row (List.flatMap fInt X ++ [FVal.v (.int .i64 v)]) (X.length + 1)) = CVal.f (FVal.row (List.flatMap fInt (X ++ [v])) (X ++ [v]).length)
 rw [List.flatMap_append, List.length_append]
 rfl
theorem tup_snoc (A C D : SC) (X : List Int) (v : Int) : (packS [ST.c A, ST.c (SC.c (CVal.f (FVal.row (List.flatMap fInt X ++ [FVal.v (.int .i64 v)]) (X.length + 1)))), ST.c C, ST.c D]).den = (SV.tup [ST.c A, ST.c (rInt (X ++ [v])), ST.c C, ST.c D]).den := by
 show AVal.tup [.c A.den, .c (SC.den _), .c C.den, .c D.den] = AVal.tup [.c A.den, .c (SC.den _), .c C.den, .c D.den]
 rw [snoc_den]
theorem up_ok (a : Int) (ha : -9223372036854775808 ≤ a ∧ a ≤ 9223372036854775807) : OkV Try.prog 50 [.c (xI a)] [] (vI (Pl.cdiv a 1000)) [] := by
 have h := ceilDiv_okV a 1000 ha (by omega)
 refine X_fn mixedX Try.func50 rfl (by kernel_rfl) (Nat.le_of_ble_eq_true (by kernel_rfl)) (by kernel_rfl) rfl rfl (Nat.le_of_ble_eq_true rfl) rfl rfl ?_
 simp only [sl0, Nat.zero_add, Nat.reduceAdd]
 repeat' (first
  |with_reducible (first|refine q_and ?_ ?_|exact True.intro|exact TkEq.nil _|refine Red.o (by constructor) ?_|refine blockK_o' rfl ?_|refine LoopX_e' rfl ?_|assumption)
  |((with_reducible apply q_call);refine X_pure (h) rfl ?_)
  |((with_reducible apply q_CI);intro hbq;(try simp only [bq] at hbq);(try (exfalso;omega)))
  |refine Rex.o (by (with_reducible constructor);apply Eq.refl) ?_
  |(intro (hgq : (_ : Bool) = true);(try simp only [bq] at hgq))
  |(intro (hgq : (_ : Bool) = false);(try simp only [bq] at hgq))
  |((with_reducible apply q_VOk);exact fun _ => ⟨rfl,rfl⟩)|(intro _;exact rfl)|((with_reducible apply q_CRB);kernel_rfl)|((with_reducible apply q_bt);simp only [bq])|((with_reducible apply q_eqN);rfl)|((with_reducible apply q_FE);exact rfl)|with_reducible (first|exact isByte_wrap _|exact isByte_nat _)|(simp only [hgq,bq];done)|omega|(dsimp only;omega))
 repeat' (first|with_reducible (first|refine Wk.o (by constructor) ?_|refine q_and ?_ ?_|exact True.intro)|refine VEq.c ?_|refine VEq.agg ?_|refine VEq.tup ?_|refine TkEq.cells ?_ ?_|refine TkEq.els ?_ ?_|refine SEqL.cons ?_ ?_|refine TEqL.agg ?_ ?_|refine CEq.rows ?_|refine CEq.int ?_|rfl|omega)
theorem btimes_bad (L : Lay) (hL : LayFits L) (st : List Stp) (ov : Int) (hl : st.length ≤ 9223372036854775807) (ho : -9223372036854775808 ≤ ov ∧ ov ≤ 9223372036854775807) (nm : ByteArray) (l sp ac br : Int) (h : ¬ fitErr L ⟨st, ov⟩ l sp ac br = 0) : OkV Try.prog 32 [vLay L, vR2 st ov, vS5 nm l sp ac br] [] (.tup [.c (rInt []), .c (rInt []), .c (xI 0), .c (xI (fitErr L ⟨st, ov⟩ l sp ac br))]) [] := by
 have hF := fit_ok L hL st ov hl ho nm l sp ac br
 rw [if_neg h, if_neg h] at hF
 unfold vLay at hF ⊢
 refine X_fn mixedX Try.func32 rfl (by kernel_rfl) (Nat.le_of_ble_eq_true (by kernel_rfl)) (by kernel_rfl) rfl rfl (Nat.le_of_ble_eq_true rfl) rfl rfl ?_
 simp only [sl0, Nat.zero_add, Nat.reduceAdd]
 repeat' (first
  |with_reducible (first|refine q_and ?_ ?_|exact True.intro|exact TkEq.nil _|refine Red.o (by constructor) ?_|refine blockK_o' rfl ?_|refine LoopX_e' rfl ?_|assumption)
  |((with_reducible apply q_call);refine X_pure (hF) rfl ?_)
  |((with_reducible apply q_CI);intro hbq;(try simp only [bq] at hbq);(try (exfalso;omega)))
  |refine Rex.o (by (with_reducible constructor);apply Eq.refl) ?_
  |(intro (hgq : (_ : Bool) = true);(try simp only [bq] at hgq))
  |(intro (hgq : (_ : Bool) = false);(try simp only [bq] at hgq))
  |((with_reducible apply q_VOk);exact fun _ => ⟨rfl,rfl⟩)|(intro _;exact rfl)|((with_reducible apply q_CRB);kernel_rfl)|((with_reducible apply q_bt);simp only [bq])|((with_reducible apply q_eqN);rfl)|((with_reducible apply q_FE);exact rfl)|with_reducible (first|exact isByte_wrap _|exact isByte_nat _)|(simp only [hgq,bq];done)|omega|(dsimp only;omega))
 ·rfl
theorem btimes_ok (L : Lay) (hL : LayFits L) (st : List Stp) (ov : Int) (hl : st.length ≤ 9223372036854775807) (ho : -9223372036854775808 ≤ ov ∧ ov ≤ 9223372036854775807) (nm : ByteArray) (l sp ac br : Int) (h : fitErr L ⟨st, ov⟩ l sp ac br = 0) : OkV Try.prog 32 [vLay L, vR2 st ov, vS5 nm l sp ac br] [] (.tup [.c (rInt (entL L ⟨st, ov⟩ l sp ac br (trv ⟨st, ov⟩).length)), .c (rInt (levL L ⟨st, ov⟩ l sp ac br (trv ⟨st, ov⟩).length)), .c (xI (runI L ⟨st, ov⟩ l sp ac br)), .c (xI 0)]) [] := by
 have hF := fit_ok L hL st ov hl ho nm l sp ac br
 rw [h, if_pos rfl, if_pos rfl] at hF
 have hR := ride_of h
 obtain ⟨r1, r2, r3, r4, r5, r6, r7, r8, r9, r10, r11, r12, r13, r14⟩ := hR
 have hq := chk_of r3
 have hr1 := r1.ov0
 have hr2 := r1.two
 simp only at hr1 hr2 r4
 have hn3 := (valid_of r1.lay).n3
 have hm := times_ok (celL L (trv ⟨st, ov⟩)) (celOne L ⟨st, ov⟩) nm l sp ac br (by
  have := (bad_zero r12).2.1; omega)
 rw [r13, r12] at hm
 have hT := travelled_ok st ov hl ⟨by omega, by omega⟩
 unfold entL levL levF runI
 generalize hT' : rideT L ⟨st, ov⟩ l sp ac br = T at *
 generalize hts : trv ⟨st, ov⟩ = ts at *
 unfold vLay at hF ⊢
 refine X_fn mixedX Try.func32 rfl (by kernel_rfl) (Nat.le_of_ble_eq_true (by kernel_rfl)) (by kernel_rfl) rfl rfl (Nat.le_of_ble_eq_true rfl) rfl rfl ?_
 simp only [sl0, Nat.zero_add, Nat.reduceAdd]
 repeat' (first
  |with_reducible (first|refine q_and ?_ ?_|exact True.intro|exact TkEq.nil _|refine Red.o (by constructor) ?_|refine blockK_o' rfl ?_|refine LoopX_e' rfl ?_|assumption)
  |((with_reducible apply q_call);first|refine X_pure (hF) rfl ?_|refine X_pure (hm) rfl ?_|refine X_pure (hT) rfl ?_)
  |((with_reducible apply q_CI);intro hbq;(try simp only [bq] at hbq);(try (exfalso;omega)))
  |refine Rex.o (by (with_reducible constructor);apply Eq.refl) ?_
  |(intro (hgq : (_ : Bool) = true);(try simp only [bq] at hgq))
  |(intro (hgq : (_ : Bool) = false);(try simp only [bq] at hgq))
  |((with_reducible apply q_VOk);exact fun _ => ⟨rfl,rfl⟩)|(intro _;exact rfl)|((with_reducible apply q_CRB);kernel_rfl)|((with_reducible apply q_bt);simp only [bq])|((with_reducible apply q_eqN);rfl)|((with_reducible apply q_FE);exact rfl)|with_reducible (first|exact isByte_wrap _|exact isByte_nat _)|(simp only [hgq,bq];done)|omega|(dsimp only;omega))
 clear hF hm hT r13 r12 r11 r10
 have hrl : (row (endA L ts (ts.length - 1) + 1) T).length = _ := row_len _ _
 have hE : ∀ j, j + 1 ≤ ts.length → endA L ts j ≤ endA L ts (ts.length - 1) := fun j hj => endA_mono L ts (by omega)
 have hEb : endA L ts (ts.length - 1) ≤ 400 * 24 := by
  have : ∀ j, j + 1 ≤ ts.length → endA L ts j ≤ 400 * j := by
   intro j
   induction j with
   | zero => intro _; exact Nat.le_refl _
   | succ j ih => intro hj; have := ih (by omega); have := (r8 (j + 1) (by omega)).2.2; simp only [endA]; omega
  have := this (ts.length - 1) (by omega)
  omega
 refine W_loopS (fun k : Nat => SS [sC 3 (pB 0), sC 5 (pB 2), sC 6 (tInt (row k fun k => T (endA L ts (k - 1)))), sC 7 (tInt (row (min k (ts.length - 1)) fun k => T (endA L ts k + l.toNat))), sC 11 (rInt (row (endA L ts (ts.length - 1) + 1) T)), sC 13 (rStp ts), sI 14 (endA L ts (k - 1)), sC 38 (rStp ts), sI 39 ts.length, sI 40 k] [bLay L, none, bS5 nm l sp ac br]) (fun k => k ≤ ts.length) (fun k => ts.length - k) 0 ?_ (by omega) ?_
 ·
  refine X_weak rfl rfl rfl ?_ ?_ <;> repeat' (first|with_reducible (first|refine Wk.o (by constructor) ?_|refine q_and ?_ ?_|exact True.intro)|refine q_AgS rfl ?_ ?_|exact CLe.nil_tipS|exact CLe.nil_rowS|refine HLe.cells ?_ ?_|refine HLe.els ?_ ?_|refine SLe.cons ?_ ?_|exact (rfl : known _ = _)|with_reducible rfl|omega)
  all_goals rfl
 intro k hk
 have hl1 := row_len k fun k => T (endA L ts (k - 1))
 have hl2 := row_len (min k (ts.length - 1)) fun k => T (endA L ts k + l.toNat)
 by_cases hkn : k < ts.length
 ·have f0 := hE (k - 1) (by omega)
  have f2 := hE k (by omega)
  have f1 : 0 < k → endA L ts k = endA L ts (k - 1) + secN L ts k := fun h => by
   obtain ⟨j, rfl⟩ : ∃ j, k = j + 1 := ⟨k - 1, by omega⟩
   rfl
  have f3 : k + 1 < ts.length → endA L ts k + l.toNat ≤ endA L ts (ts.length - 1) := fun h => by
   have a := hE (k + 1) (by omega)
   have b := (r8 (k + 1) h).2.1
   simp only [endA] at a
   omega
  have g1 : 0 ≤ (ts.getD (k : Int).toNat { sec := 0, dir := 0 }).sec ∧ (ts.getD (k : Int).toNat { sec := 0, dir := 0 }).sec < L.secs.length := r7 k hkn
  have g2 : (L.secs.getD (ts.getD (k : Int).toNat { sec := 0, dir := 0 }).sec.toNat sec0).len = (secN L ts k : Nat) := r9 k hkn
  have g3 := r8 k hkn
  generalize secN L ts k = sk at *
  have hex : (row (endA L ts (ts.length - 1) + 1) T).getD ((endA L ts (k - 1) : Nat) : Int).toNat 0 = T (endA L ts (k - 1)) := by rw [Int.toNat_natCast, row_get (by omega)]
  have f5 : endA L ts (k + 1 - 1) = endA L ts k := rfl
  have f6 : k = 0 → endA L ts (k - 1) = endA L ts k := fun h => by rw [h]
  have m1 : k + 1 < ts.length → min (k + 1) (ts.length - 1) = min k (ts.length - 1) + 1 := fun h => by omega
  have m2 : k + 1 < ts.length → min k (ts.length - 1) = k := fun h => by omega
  have m3 : ¬ k + 1 < ts.length → min (k + 1) (ts.length - 1) = min k (ts.length - 1) := fun h => by omega
  repeat' (first
   |with_reducible (first|refine q_and ?_ ?_|exact True.intro|exact TkEq.nil _|refine Red.o (by constructor) ?_|refine blockK_o' rfl ?_|refine LoopX_e' rfl ?_|assumption)
   |((with_reducible apply q_CI);intro hbq;(try simp only [bq] at hbq);(try (exfalso;omega)))
   |refine Rex.o (by (with_reducible constructor);apply Eq.refl) ?_
   |(intro (hgq : (_ : Bool) = true);(try simp only [bq] at hgq))
   |(intro (hgq : (_ : Bool) = false);(try simp only [bq] at hgq))
   |((with_reducible apply q_VOk);exact fun _ => ⟨rfl,rfl⟩)|(intro _;exact rfl)|((with_reducible apply q_CRB);kernel_rfl)|((with_reducible apply q_bt);simp only [bq])|((with_reducible apply q_eqN);rfl)|((with_reducible apply q_FE);exact rfl)|with_reducible (first|exact isByte_wrap _|exact isByte_nat _)|(simp only [hgq,bq];done)|omega|(dsimp only;omega))
  ·have c : k + 1 < ts.length := by omega
   have hex2 : (row (endA L ts (ts.length - 1) + 1) T).getD ((endA L ts (k - 1) : Nat) + (L.secs.getD (ts.getD (k : Int).toNat { sec := 0, dir := 0 }).sec.toNat sec0).len + l).toNat 0 = T (endA L ts k + l.toNat) := by
    rw [show ((endA L ts (k - 1) : Nat) + (L.secs.getD (ts.getD (k : Int).toNat { sec := 0, dir := 0 }).sec.toNat sec0).len + l).toNat = endA L ts k + l.toNat by omega, row_get (by omega)]
   refine LoopK_n (k + 1) ?_ ((by omega)) (by (try dsimp only); omega)
   refine X_weak rfl rfl rfl ?_ ?_ <;> repeat' (first|with_reducible (first|refine Wk.o (by constructor) ?_|refine q_and ?_ ?_|exact True.intro)|refine q_AgS rfl ?_ ?_|exact CLe.nil_tipS|exact CLe.nil_rowS|refine HLe.cells ?_ ?_|refine HLe.els ?_ ?_|refine SLe.cons ?_ ?_|exact (rfl : known _ = _)|with_reducible rfl|omega)
   ·rw [hex, row_snoc]; simp [fInt, fI]
   ·rw [row_len, row_len]
   ·rw [hex2, m1 c, row_snoc, m2 c]; simp [fInt, fI]
   ·rw [row_len, row_len, m1 c]
  ·have c : ¬ k + 1 < ts.length := by omega
   refine LoopK_n (k + 1) ?_ ((by omega)) (by (try dsimp only); omega)
   refine X_weak rfl rfl rfl ?_ ?_ <;> repeat' (first|with_reducible (first|refine Wk.o (by constructor) ?_|refine q_and ?_ ?_|exact True.intro)|refine q_AgS rfl ?_ ?_|exact CLe.nil_tipS|exact CLe.nil_rowS|refine HLe.cells ?_ ?_|refine HLe.els ?_ ?_|refine SLe.cons ?_ ?_|exact (rfl : known _ = _)|with_reducible rfl|omega)
   ·rw [hex, row_snoc]; simp [fInt, fI]
   ·rw [row_len, row_len]
   ·rw [m3 c]
  ·have c : k + 1 < ts.length := by omega
   have hex2 : (row (endA L ts (ts.length - 1) + 1) T).getD ((endA L ts (k - 1) : Nat) + l).toNat 0 = T (endA L ts k + l.toNat) := by
    rw [show ((endA L ts (k - 1) : Nat) + l).toNat = endA L ts k + l.toNat by omega, row_get (by omega)]
   refine LoopK_n (k + 1) ?_ ((by omega)) (by (try dsimp only); omega)
   refine X_weak rfl rfl rfl ?_ ?_ <;> repeat' (first|with_reducible (first|refine Wk.o (by constructor) ?_|refine q_and ?_ ?_|exact True.intro)|refine q_AgS rfl ?_ ?_|exact CLe.nil_tipS|exact CLe.nil_rowS|refine HLe.cells ?_ ?_|refine HLe.els ?_ ?_|refine SLe.cons ?_ ?_|exact (rfl : known _ = _)|with_reducible rfl|omega)
   ·rw [hex, row_snoc]; simp [fInt, fI]
   ·rw [row_len, row_len]
   ·rw [hex2, m1 c, row_snoc, m2 c]; simp [fInt, fI]
   ·rw [row_len, row_len, m1 c]
 ·have hkn : k = ts.length := by omega
  subst hkn
  have hex : (row (endA L ts (ts.length - 1) + 1) T).getD ((endA L ts (ts.length - 1) : Nat) : Int).toNat 0 = T (endA L ts (ts.length - 1)) := by rw [Int.toNat_natCast, row_get (by omega)]
  have hr := r14 _ (Nat.le_refl _)
  have hU := up_ok ((row (endA L ts (ts.length - 1) + 1) T).getD ((endA L ts (ts.length - 1) : Nat) : Int).toNat 0) (by rw [hex]; omega)
  repeat' (first
   |with_reducible (first|refine q_and ?_ ?_|exact True.intro|exact TkEq.nil _|refine Red.o (by constructor) ?_|refine blockK_o' rfl ?_|refine LoopX_e' rfl ?_|assumption)
   |((with_reducible apply q_call);refine X_pure (hU) rfl ?_)
   |((with_reducible apply q_CI);intro hbq;(try simp only [bq] at hbq);(try (exfalso;omega)))
   |refine Rex.o (by (with_reducible constructor);apply Eq.refl) ?_
   |(intro (hgq : (_ : Bool) = true);(try simp only [bq] at hgq))
   |(intro (hgq : (_ : Bool) = false);(try simp only [bq] at hgq))
   |((with_reducible apply q_VOk);exact fun _ => ⟨rfl,rfl⟩)|(intro _;exact rfl)|((with_reducible apply q_CRB);kernel_rfl)|((with_reducible apply q_bt);simp only [bq])|((with_reducible apply q_eqN);rfl)|((with_reducible apply q_FE);exact rfl)|with_reducible (first|exact isByte_wrap _|exact isByte_nat _)|(simp only [hgq,bq];done)|omega|(dsimp only;omega))
  have hlev : (row ts.length fun k => T (if k + 1 < ts.length then endA L ts k + l.toNat else endA L ts k)) = (row (min ts.length (ts.length - 1)) fun k => T (endA L ts k + l.toNat)) ++ [T (endA L ts (ts.length - 1))] := by
   have e : ts.length = ts.length - 1 + 1 := by omega
   rw [Nat.min_eq_right (by omega)]
   conv => lhs; rw [show row ts.length = row (ts.length - 1 + 1) by rw [← e]]
   rw [row_snoc, if_neg (by omega)]
   congr 1
   exact row_ext fun j hj => by rw [if_pos (by omega)]
  rw [hlev]
  simp only [hex]
  apply tup_snoc
theorem passing_bad (L : Lay) (hL : LayFits L) (st : List Stp) (ov : Int) (hl : st.length ≤ 9223372036854775807) (ho : -9223372036854775808 ≤ ov ∧ ov ≤ 9223372036854775807) (nm : ByteArray) (l sp ac br : Int) (h : ¬ fitErr L ⟨st, ov⟩ l sp ac br = 0) : OkV Try.prog 17 [vLay L, vR2 st ov, vS5 nm l sp ac br] [] (.tup [.c (rInt []), .c (rInt []), .c (xI 0), .c (xI (fitErr L ⟨st, ov⟩ l sp ac br))]) [] := by
 have hF := refFits_ok L hL st ov hl ho nm l sp ac br
 unfold vLay at hF ⊢
 refine X_fn mixedX Try.func17 rfl (by kernel_rfl) (Nat.le_of_ble_eq_true (by kernel_rfl)) (by kernel_rfl) rfl rfl (Nat.le_of_ble_eq_true rfl) rfl rfl ?_
 simp only [sl0, Nat.zero_add, Nat.reduceAdd]
 repeat' (first
  |with_reducible (first|refine q_and ?_ ?_|exact True.intro|exact TkEq.nil _|refine Red.o (by constructor) ?_|refine blockK_o' rfl ?_|refine LoopX_e' rfl ?_|assumption)
  |((with_reducible apply q_call);refine X_pure (hF) rfl ?_)
  |((with_reducible apply q_CI);intro hbq;(try simp only [bq] at hbq);(try (exfalso;omega)))
  |refine Rex.o (by (with_reducible constructor);apply Eq.refl) ?_
  |(intro (hgq : (_ : Bool) = true);(try simp only [bq] at hgq))
  |(intro (hgq : (_ : Bool) = false);(try simp only [bq] at hgq))
  |((with_reducible apply q_VOk);exact fun _ => ⟨rfl,rfl⟩)|(intro _;exact rfl)|((with_reducible apply q_CRB);kernel_rfl)|((with_reducible apply q_bt);simp only [bq])|((with_reducible apply q_eqN);rfl)|((with_reducible apply q_FE);exact rfl)|with_reducible (first|exact isByte_wrap _|exact isByte_nat _)|(simp only [hgq,bq];done)|omega|(dsimp only;omega))
 ·rfl
theorem passing_ok (L : Lay) (hL : LayFits L) (st : List Stp) (ov : Int) (hl : st.length ≤ 9223372036854775807) (ho : -9223372036854775808 ≤ ov ∧ ov ≤ 9223372036854775807) (nm : ByteArray) (l sp ac br : Int) (h : fitErr L ⟨st, ov⟩ l sp ac br = 0) : OkV Try.prog 17 [vLay L, vR2 st ov, vS5 nm l sp ac br] [] (.tup [.c (rInt (entL L ⟨st, ov⟩ l sp ac br (trv ⟨st, ov⟩).length)), .c (rInt (levL L ⟨st, ov⟩ l sp ac br (trv ⟨st, ov⟩).length)), .c (xI (runI L ⟨st, ov⟩ l sp ac br)), .c (xI 0)]) [] := by
 have hF := refFits_ok L hL st ov hl ho nm l sp ac br
 rw [h] at hF
 have hR := ride_of h
 have hat : ∀ i : Nat, (i : Int) < st.length - ov → (trv ⟨st, ov⟩).getD i st0 = st.getD i st0 := fun i hi => trv_at hR.rt hi
 obtain ⟨r1, r2, r3, r4, r5, r6, r7, r8, r9, r10, r11, r12, r13, r14⟩ := hR
 have hq := chk_of r3
 have hr1 := r1.ov0
 have hr2 := r1.two
 simp only at hr1 hr2 r4
 have hn3 := (valid_of r1.lay).n3
 have hC := refCells_ok L hL st ov hl ho
 unfold celOut at hC
 rw [r2, if_pos rfl] at hC
 have hm := refTimes_ok (celL L (trv ⟨st, ov⟩)) (celOne L ⟨st, ov⟩) nm l sp ac br (by
  have := (bad_zero r12).2.1; omega)
 rw [r13, r12] at hm
 unfold entL levL levF runI
 generalize hT' : rideT L ⟨st, ov⟩ l sp ac br = T at *
 generalize hts : trv ⟨st, ov⟩ = ts at *
 unfold vLay at hF hC ⊢
 refine X_fn mixedX Try.func17 rfl (by kernel_rfl) (Nat.le_of_ble_eq_true (by kernel_rfl)) (by kernel_rfl) rfl rfl (Nat.le_of_ble_eq_true rfl) rfl rfl ?_
 simp only [sl0, Nat.zero_add, Nat.reduceAdd]
 repeat' (first
  |with_reducible (first|refine q_and ?_ ?_|exact True.intro|exact TkEq.nil _|refine Red.o (by constructor) ?_|refine blockK_o' rfl ?_|refine LoopX_e' rfl ?_|assumption)
  |((with_reducible apply q_call);first|refine X_pure (hF) rfl ?_|refine X_pure (hC) rfl ?_|refine X_pure (hm) rfl ?_)
  |((with_reducible apply q_CI);intro hbq;(try simp only [bq] at hbq);(try (exfalso;omega)))
  |refine Rex.o (by (with_reducible constructor);apply Eq.refl) ?_
  |(intro (hgq : (_ : Bool) = true);(try simp only [bq] at hgq))
  |(intro (hgq : (_ : Bool) = false);(try simp only [bq] at hgq))
  |((with_reducible apply q_VOk);exact fun _ => ⟨rfl,rfl⟩)|(intro _;exact rfl)|((with_reducible apply q_CRB);kernel_rfl)|((with_reducible apply q_bt);simp only [bq])|((with_reducible apply q_eqN);rfl)|((with_reducible apply q_FE);exact rfl)|with_reducible (first|exact isByte_wrap _|exact isByte_nat _)|(simp only [hgq,bq];done)|omega|(dsimp only;omega))
 clear hF hm hC r13 r12 r11 r10
 have hrl : (row (endA L ts (ts.length - 1) + 1) T).length = _ := row_len _ _
 have hE : ∀ j, j + 1 ≤ ts.length → endA L ts j ≤ endA L ts (ts.length - 1) := fun j hj => endA_mono L ts (by omega)
 have hEb : endA L ts (ts.length - 1) ≤ 400 * 24 := by
  have : ∀ j, j + 1 ≤ ts.length → endA L ts j ≤ 400 * j := by
   intro j
   induction j with
   | zero => intro _; exact Nat.le_refl _
   | succ j ih => intro hj; have := ih (by omega); have := (r8 (j + 1) (by omega)).2.2; simp only [endA]; omega
  have := this (ts.length - 1) (by omega)
  omega
 refine W_loopS (fun k : Nat => SS [sC 3 (pB 0), sC 4 (pB 1), sC 5 (pB 2), sC 6 (tInt (row k fun k => T (endA L ts (k - 1)))), sC 7 (tInt (row k fun k => T (if k + 1 < ts.length then endA L ts k + l.toNat else endA L ts k))), sC 14 (rInt (row (endA L ts (ts.length - 1) + 1) T)), sI 16 (endA L ts (k - 1)), sI 17 k] [bLay L, bRte st ov, bS5 nm l sp ac br]) (fun k => k ≤ ts.length) (fun k => ts.length - k) 0 ?_ (by omega) ?_
 ·
  refine X_weak rfl rfl rfl ?_ ?_ <;> repeat' (first|with_reducible (first|refine Wk.o (by constructor) ?_|refine q_and ?_ ?_|exact True.intro)|refine q_AgS rfl ?_ ?_|exact CLe.nil_tipS|exact CLe.nil_rowS|refine HLe.cells ?_ ?_|refine HLe.els ?_ ?_|refine SLe.cons ?_ ?_|exact (rfl : known _ = _)|with_reducible rfl|omega)
  all_goals rfl
 intro k hk
 have hl1 := row_len k fun k => T (endA L ts (k - 1))
 have hl2 := row_len k fun k => T (if k + 1 < ts.length then endA L ts k + l.toNat else endA L ts k)
 by_cases hkn : k < ts.length
 ·have f0 := hE (k - 1) (by omega)
  have f2 := hE k (by omega)
  have f1 : 0 < k → endA L ts k = endA L ts (k - 1) + secN L ts k := fun h => by
   obtain ⟨j, rfl⟩ : ∃ j, k = j + 1 := ⟨k - 1, by omega⟩
   rfl
  have f3 : k + 1 < ts.length → endA L ts k + l.toNat ≤ endA L ts (ts.length - 1) := fun h => by
   have a := hE (k + 1) (by omega)
   have b := (r8 (k + 1) h).2.1
   simp only [endA] at a
   omega
  have f4 : ¬ k + 1 < ts.length → endA L ts k = endA L ts (ts.length - 1) := fun h => by rw [show k = ts.length - 1 by omega]
  have g0 : ts.getD k st0 = st.getD (k : Int).toNat { sec := 0, dir := 0 } := hat k (by omega)
  have g1 : 0 ≤ (st.getD (k : Int).toNat { sec := 0, dir := 0 }).sec ∧ (st.getD (k : Int).toNat { sec := 0, dir := 0 }).sec < L.secs.length := by rw [← g0]; exact r7 k hkn
  have g2 : (L.secs.getD (st.getD (k : Int).toNat { sec := 0, dir := 0 }).sec.toNat sec0).len = (secN L ts k : Nat) := by rw [← g0]; exact r9 k hkn
  have g3 := r8 k hkn
  generalize secN L ts k = sk at *
  have hex : (row (endA L ts (ts.length - 1) + 1) T).getD ((endA L ts (k - 1) : Nat) : Int).toNat 0 = T (endA L ts (k - 1)) := by rw [Int.toNat_natCast, row_get (by omega)]
  have f5 : endA L ts (k + 1 - 1) = endA L ts k := rfl
  have f6 : k = 0 → endA L ts (k - 1) = endA L ts k := fun h => by rw [h]
  have hv : ∀ z : Int, z = min ((endA L ts k : Int) + l) (endA L ts (ts.length - 1) : Int) → (row (endA L ts (ts.length - 1) + 1) T).getD z.toNat 0 = T (if k + 1 < ts.length then endA L ts k + l.toNat else endA L ts k) := fun z hz => by
   by_cases c : k + 1 < ts.length
   ·have := f3 c
    rw [if_pos c, show z.toNat = endA L ts k + l.toNat by omega, row_get (by omega)]
   ·have := f4 c
    rw [if_neg c, show z.toNat = endA L ts k by omega, row_get (by omega)]
  repeat' (first
   |with_reducible (first|refine q_and ?_ ?_|exact True.intro|exact TkEq.nil _|refine Red.o (by constructor) ?_|refine blockK_o' rfl ?_|refine LoopX_e' rfl ?_|assumption)
   |((with_reducible apply q_CI);intro hbq;(try simp only [bq] at hbq);(try (exfalso;omega)))
   |refine Rex.o (by (with_reducible constructor);apply Eq.refl) ?_
   |(intro (hgq : (_ : Bool) = true);(try simp only [bq] at hgq))
   |(intro (hgq : (_ : Bool) = false);(try simp only [bq] at hgq))
   |((with_reducible apply q_VOk);exact fun _ => ⟨rfl,rfl⟩)|(intro _;exact rfl)|((with_reducible apply q_CRB);kernel_rfl)|((with_reducible apply q_bt);simp only [bq])|((with_reducible apply q_eqN);rfl)|((with_reducible apply q_FE);exact rfl)|with_reducible (first|exact isByte_wrap _|exact isByte_nat _)|(simp only [hgq,bq];done)|omega|(dsimp only;omega))
  ·
   refine LoopK_n (k + 1) ?_ ((by omega)) (by (try dsimp only); omega)
   refine X_weak rfl rfl rfl ?_ ?_ <;> repeat' (first|with_reducible (first|refine Wk.o (by constructor) ?_|refine q_and ?_ ?_|exact True.intro)|refine q_AgS rfl ?_ ?_|exact CLe.nil_tipS|exact CLe.nil_rowS|refine HLe.cells ?_ ?_|refine HLe.els ?_ ?_|refine SLe.cons ?_ ?_|exact (rfl : known _ = _)|with_reducible rfl|omega)
   ·rw [hex, row_snoc]; simp [fInt, fI]
   ·rw [row_len, row_len]
   ·rw [hv _ (by omega), row_snoc]; simp [fInt, fI]
   ·rw [row_len, row_len]
  ·
   refine LoopK_n (k + 1) ?_ ((by omega)) (by (try dsimp only); omega)
   refine X_weak rfl rfl rfl ?_ ?_ <;> repeat' (first|with_reducible (first|refine Wk.o (by constructor) ?_|refine q_and ?_ ?_|exact True.intro)|refine q_AgS rfl ?_ ?_|exact CLe.nil_tipS|exact CLe.nil_rowS|refine HLe.cells ?_ ?_|refine HLe.els ?_ ?_|refine SLe.cons ?_ ?_|exact (rfl : known _ = _)|with_reducible rfl|omega)
   ·rw [hex, row_snoc]; simp [fInt, fI]
   ·rw [row_len, row_len]
   ·rw [hv _ (by omega), row_snoc]; simp [fInt, fI]
   ·rw [row_len, row_len]
 ·have hkn : k = ts.length := by omega
  subst hkn
  have hex : (row (endA L ts (ts.length - 1) + 1) T).getD (((row (endA L ts (ts.length - 1) + 1) T).length : Int) - 1).toNat 0 = T (endA L ts (ts.length - 1)) := by rw [hrl, show (((endA L ts (ts.length - 1) + 1 : Nat) : Int) - 1).toNat = endA L ts (ts.length - 1) by omega, row_get (by omega)]
  have hr := r14 _ (Nat.le_refl _)
  have hU := refCeil_okV ((row (endA L ts (ts.length - 1) + 1) T).getD (((row (endA L ts (ts.length - 1) + 1) T).length : Int) - 1).toNat 0) 1000 (by rw [hex]; omega) (by omega)
  repeat' (first
   |with_reducible (first|refine q_and ?_ ?_|exact True.intro|exact TkEq.nil _|refine Red.o (by constructor) ?_|refine blockK_o' rfl ?_|refine LoopX_e' rfl ?_|assumption)
   |((with_reducible apply q_call);refine X_pure (hU) rfl ?_)
   |((with_reducible apply q_CI);intro hbq;(try simp only [bq] at hbq);(try (exfalso;omega)))
   |refine Rex.o (by (with_reducible constructor);apply Eq.refl) ?_
   |(intro (hgq : (_ : Bool) = true);(try simp only [bq] at hgq))
   |(intro (hgq : (_ : Bool) = false);(try simp only [bq] at hgq))
   |((with_reducible apply q_VOk);exact fun _ => ⟨rfl,rfl⟩)|(intro _;exact rfl)|((with_reducible apply q_CRB);kernel_rfl)|((with_reducible apply q_bt);simp only [bq])|((with_reducible apply q_eqN);rfl)|((with_reducible apply q_FE);exact rfl)|with_reducible (first|exact isByte_wrap _|exact isByte_nat _)|(simp only [hgq,bq];done)|omega|(dsimp only;omega))
  simp only [hex]
  rfl
section
variable (L : Lay) (r : Rte) (l sp ac br bf af : Int)
def entF (k : Nat) : Int := rideT L r l sp ac br (endA L (trv r) (k - 1))
end
theorem ride_mono {L : Lay} {r : Rte} {l sp ac br : Int} (h : Ride L r l sp ac br) {i j : Nat} (hij : i ≤ j) (hj : j ≤ endA L (trv r) ((trv r).length - 1)) : rideT L r l sp ac br i ≤ rideT L r l sp ac br j := by
 have hq := chk_of h.chk
 have hb := bad_zero h.bad
 have ha := h.all
 have ho := h.one
 induction j with
 | zero => rw [Nat.le_zero.1 hij]; exact Int.le_refl _
 | succ j ih =>
  rcases Nat.lt_or_ge i (j + 1) with h1 | h1
  ·refine Int.le_trans (ih (by omega) (by omega)) ?_
   have := step_range (start := (celOne L r).toNat) (l := l.toNat) hq.2.2.1 hq.2.2.2.1 hq.2.2.2.2.1 hq.2.2.2.2.2.1 hq.2.2.2.2.2.2.1 hq.2.2.2.2.2.2.2 hb.2.2.1 (by omega) j (by omega)
   unfold rideT
   simp only [tim]
   omega
  ·rw [show i = j + 1 by omega]; exact Int.le_refl _
section
variable {L : Lay} {r : Rte} {l sp ac br bf af : Int} (h : Ride L r l sp ac br)
include h
theorem lev_in {j : Nat} (hj : j < (trv r).length) : endA L (trv r) j ≤ (if j + 1 < (trv r).length then endA L (trv r) j + l.toNat else endA L (trv r) j) ∧ (if j + 1 < (trv r).length then endA L (trv r) j + l.toNat else endA L (trv r) j) ≤ endA L (trv r) ((trv r).length - 1) := by
 have a := endA_mono L (trv r) (show j ≤ (trv r).length - 1 by omega)
 split
 ·rename_i c
  have b := endA_mono L (trv r) (show j + 1 ≤ (trv r).length - 1 by omega)
  have d := (h.len (j + 1) c).2.1
  have hq := chk_of h.chk
  simp only [endA] at b
  omega
 ·omega
end
theorem hop_pt {L : Lay} (hV : Valid L) {a : Stp} {h : Hop} (hm : h ∈ hopsL L a) : -1 ≤ h.pt ∧ h.pt < L.pts.length := by
 unfold hopsL at hm
 obtain ⟨k, hk, e⟩ := List.mem_filterMap.1 hm
 have hl := linkB_of (hV.v4 k hk)
 unfold hopK at e
 split at e
 ·injection e with e; subst e; exact ⟨hl.2.2.2.2.2.2.2.2.1, hl.2.2.2.2.2.2.2.2.2.1⟩
 ·split at e
  ·injection e with e; subst e; exact ⟨hl.2.2.2.2.2.2.2.2.1, hl.2.2.2.2.2.2.2.2.2.1⟩
  ·cases e
theorem join_at {L : Lay} {r : Rte} (h : RteOk L r) {i : Nat} (h0 : 0 < i) (hi : i < r.st.length) : ∃ k, joinL L (r.st.getD (i - 1) st0) (r.st.getD i st0) = some k ∧ -1 ≤ k.pt ∧ k.pt < L.pts.length := by
 have hk := List.all_eq_true.1 h.link (i - 1) (List.mem_range.2 (by omega))
 unfold linkAt at hk
 rw [Nat.sub_add_cancel h0] at hk
 obtain ⟨k, hk⟩ := Option.isSome_iff_exists.1 hk
 refine ⟨k, hk, ?_⟩
 unfold joinL at hk
 exact hop_pt (valid_of h.lay) (List.mem_of_find?_eq_some hk)
section
variable {L : Lay} {r : Rte} {l sp ac br : Int} (h : Ride L r l sp ac br)
include h
theorem ride_lt {i j : Nat} (hij : i < j) (hj : j ≤ endA L (trv r) ((trv r).length - 1)) : rideT L r l sp ac br i < rideT L r l sp ac br j := by
 have a := ride_mono h (i := i + 1) (j := j) (by omega) hj
 have hq := chk_of h.chk
 have hb := bad_zero h.bad
 have hall := h.all
 have ho := h.one
 have b := step_range (start := (celOne L r).toNat) (l := l.toNat) hq.2.2.1 hq.2.2.2.1 hq.2.2.2.2.1 hq.2.2.2.2.2.1 hq.2.2.2.2.2.2.1 hq.2.2.2.2.2.2.2 hb.2.2.1 (by omega) i (by omega)
 unfold rideT at a ⊢
 simp only [tim] at a
 omega
theorem endA_lt {i j : Nat} (hij : i < j) (hj : j < (trv r).length) : endA L (trv r) i < endA L (trv r) j := by
 have a := endA_mono L (trv r) (show i + 1 ≤ j by omega)
 have b := (h.len (i + 1) (by omega)).1
 simp only [endA] at a
 omega
end
theorem step_ne {L : Lay} {r : Rte} (h : RteOk L r) {i j : Nat} (hij : i < j) (hj : j < r.st.length) : (r.st.getD i st0).sec.toNat ≠ (r.st.getD j st0).sec.toNat := by
 intro e
 have ai := all_at h.ok (i := i) (by omega)
 have aj := all_at h.ok hj
 obtain ⟨a1, _, _⟩ := ok_dir ai
 obtain ⟨b1, _, _⟩ := ok_dir aj
 have hd : dupAt r.st j = true := by
  unfold dupAt
  rw [List.any_eq_true]
  refine ⟨r.st.getD i st0, ?_, by simp only [decide_eq_true_eq]; omega⟩
  rw [List.getD_eq_getElem?_getD, List.getElem?_eq_getElem (show i < r.st.length by omega), Option.getD_some, List.mem_iff_getElem]
  exact ⟨i, by rw [List.length_take]; omega, by rw [List.getElem_take]⟩
 have := dup_yes hj hd
 rw [h.dup] at this
 cases this
section
variable {L : Lay} {st : List Stp} {ov : Int} (h : RteOk L ⟨st, ov⟩) (F T P : Nat → Int)
include h
end
theorem fit_of {L : Lay} {r : Rte} {l sp ac br : Int} (h : fitErr L r l sp ac br = 0) : celErr L r = 0 ∧ chkB l sp ac br = true ∧ (trv r).any (tight L l) = false := by
 have hc : celErr L r = 0 := by
  unfold fitErr at h
  split at h
  ·exact h
  ·rename_i h2; simpa using h2
 unfold fitErr at h
 rw [if_neg (by simpa using hc)] at h
 by_cases hk : chkB l sp ac br = false
 ·rw [if_pos hk] at h; cases h
 rw [if_neg hk] at h
 by_cases ht : (trv r).any (tight L l) = true
 ·rw [if_pos ht] at h; cases h
 exact ⟨hc, by simpa using hk, by simpa using ht⟩
theorem celL_app (L : Lay) (a b : List Stp) : celL L (a ++ b) = celL L a ++ celL L b := by unfold celL; rw [List.flatMap_append]
theorem part_get (st : List Stp) {a n i : Nat} (h : i < n) : ((st.drop a).take n).getD i st0 = st.getD (a + i) st0 := by
 rw [List.getD_eq_getElem?_getD, List.getElem?_take_of_lt h, List.getElem?_drop, ← List.getD_eq_getElem?_getD]
theorem any_of_not {l : List Stp} {p : Stp → Bool} (h : l.any p = false) {i : Nat} (hi : i < l.length) : p (l.getD i st0) = false := by
 cases e : p (l.getD i st0) with
 | false => rfl
 | true => rw [any_at hi e] at h; cases h
theorem run_pos {L : Lay} {r : Rte} {l sp ac br : Int} (h : Ride L r l sp ac br) : 0 < runI L r l sp ac br := by
 have hn := h.n2
 have a := endA_lt h (i := 0) (j := (trv r).length - 1) (by omega) (by omega)
 have b := ride_lt h (i := 0) (j := endA L (trv r) ((trv r).length - 1)) (by simp only [endA] at a; exact a) (Nat.le_refl _)
 have e : rideT L r l sp ac br 0 = 0 := rfl
 have c := Pl.cdiv_bracket (rideT L r l sp ac br (endA L (trv r) ((trv r).length - 1))) 1000 (by omega)
 unfold runI
 omega
theorem part_fit2 {L : Lay} {st : List Stp} {ov l sp ac br : Int} (h : fitErr L ⟨st, ov⟩ l sp ac br = 0) {a m : Nat} {o : Int} (h0 : 0 ≤ o) (ho : o ≤ 2) (hm : o + 2 ≤ m) (hb : a + m ≤ st.length) (hc : ((a + m : Nat) : Int) - o ≤ st.length - ov) : fitErr L ⟨(st.drop a).take m, o⟩ l sp ac br = 0 := by
 obtain ⟨h1, h2, h3⟩ := fit_of h
 have hr := rte_of (cel_rte h1)
 have g1 := hr.ov0
 have g2 := hr.two
 have g3 := hr.len
 simp only at g1 g2 g3
 have htl := trv_len hr
 simp only at htl
 have hpl : ((st.drop a).take m).length = m := by rw [List.length_take, List.length_drop]; omega
 have hpg : ∀ i, i < m → ((st.drop a).take m).getD i st0 = st.getD (a + i) st0 := fun i hi => part_get st hi
 have htg : ∀ i : Nat, (i : Int) < st.length - ov → (trv ⟨st, ov⟩).getD i st0 = st.getD i st0 := fun i hi => trv_at hr hi
 have hR : rteErr L ⟨(st.drop a).take m, o⟩ = 0 := by
  refine rte_0 hr.lay ?_ ?_ ?_ ?_ ?_
  ·simp only [hpl]; omega
  ·simp only [hpl]; omega
  ·refine all_yes fun j hj => ?_
   simp only [hpl] at hj ⊢
   rw [hpg j hj]
   exact all_at hr.ok (by simp only; omega)
  ·refine dup_no fun j hj => ?_
   simp only [hpl] at hj ⊢
   cases e : dupAt ((st.drop a).take m) j with
   | false => rfl
   | true =>
    exfalso
    unfold dupAt at e
    obtain ⟨x, hx, e2⟩ := List.any_eq_true.1 e
    obtain ⟨i, hi, rfl⟩ := List.mem_iff_getElem.1 hx
    rw [List.length_take, hpl] at hi
    have hi2 : i < j := by omega
    have e3 : ((List.take m (st.drop a)).take j)[i] = st.getD (a + i) st0 := by
     rw [← hpg i (by omega), List.getElem_take, List.getD_eq_getElem?_getD, List.getElem?_eq_getElem (by omega)]
     rfl
    rw [decide_eq_true_eq] at e2
    rw [e3, hpg j hj] at e2
    exact step_ne hr (i := a + i) (j := a + j) (by omega) (by simp only; omega) (by simp only; rw [e2])
  ·refine link_yes fun j hj => ?_
   simp only [hpl] at hj ⊢
   unfold linkAt
   rw [hpg j (by omega), hpg (j + 1) hj]
   have := List.all_eq_true.1 hr.link (a + j) (List.mem_range.2 (by simp only; omega))
   exact this
 have htr : trv ⟨(st.drop a).take m, o⟩ = ((trv ⟨st, ov⟩).drop a).take (m - o.toNat) := by
  unfold trv
  simp only [hpl]
  rw [List.take_take, List.drop_take, List.take_take]
  congr 1
  omega
 have hC : celErr L ⟨(st.drop a).take m, o⟩ = 0 := by
  refine celErr_0 hR ?_
  rw [htr]
  have h4 : ¬ 4000 < (celL L (trv ⟨st, ov⟩)).length := by
   intro h5
   rw [celErr_7 (cel_rte h1) h5] at h1
   cases h1
  have e1 := congrArg (fun x => (celL L x).length) (List.take_append_drop a (trv ⟨st, ov⟩))
  have e2 := congrArg (fun x => (celL L x).length) (List.take_append_drop (m - o.toNat) ((trv ⟨st, ov⟩).drop a))
  simp only [celL_app, List.length_append] at e1 e2
  omega
 refine fit_0 hC h2 (any_not fun j hj => ?_)
 rw [htr] at hj ⊢
 rw [List.length_take, List.length_drop] at hj
 rw [part_get _ (by omega)]
 exact any_of_not h3 (by omega)
theorem linksErr_at (n p : Nat) : ∀ (r : List Lnk) (prev : List Lnk), linksErr n p prev r = 0 → ∀ i, (h : i < r.length) → linkErr n p (prev ++ r.take i) r[i] = 0
 | [], _, _, i, h => by simp at h
 | x :: r, prev, hz, i, h => by
  simp only [linksErr] at hz
  by_cases hx : linkErr n p prev x = 0
  ·rw [if_pos hx] at hz
   cases i with
   | zero => simpa using hx
   | succ i =>
    have := linksErr_at n p r (prev ++ [x]) hz i (by simpa using h)
    simpa [List.append_assoc] using this
  ·rw [if_neg hx] at hz; exact absurd hz hx
theorem link_once {L : Lay} (hv : layErr L = 0) {i j : Nat} (hij : i < j) (hj : j < L.lnks.length) {s t : Stp} (h1 : trK s t (L.lnks.getD i lnk0) = true) (h2 : trK s t (L.lnks.getD j lnk0) = true) : False := by
 have hl : linksErr L.secs.length L.pts.length [] L.lnks = 0 := by
  unfold layErr at hv
  split at hv
  ·cases hv
  ·split at hv
   ·cases hv
   ·exact (orErr_zero (orErr_zero (orErr_zero hv).2).2).2
 have hx := linksErr_at _ _ L.lnks [] hl j hj
 rw [List.nil_append] at hx
 have ei : L.lnks.getD i lnk0 = L.lnks[i] := by rw [List.getD_eq_getElem?_getD, List.getElem?_eq_getElem (by omega)]; rfl
 have ej : L.lnks.getD j lnk0 = L.lnks[j] := by rw [List.getD_eq_getElem?_getD, List.getElem?_eq_getElem hj]; rfl
 rw [ei] at h1
 rw [ej] at h2
 unfold linkErr at hx
 split at hx
 ·cases hx
 ·split at hx
  ·cases hx
  ·split at hx
   ·cases hx
   ·rename_i hno
    apply hno
    refine List.any_eq_true.2 ⟨L.lnks[i], List.mem_iff_getElem.2 ⟨i, by rw [List.length_take]; omega, List.getElem_take ..⟩, ?_⟩
    unfold trK at h1 h2
    unfold hasE
    rw [Bool.or_eq_true, decide_eq_true_eq, decide_eq_true_eq] at h1 h2
    rw [Bool.and_eq_true, decide_eq_true_eq, decide_eq_true_eq]
    rcases h1 with ⟨⟨a1, a2⟩, a3, a4⟩ | ⟨⟨a1, a2⟩, a3, a4⟩ <;> rcases h2 with ⟨⟨b1, b2⟩, b3, b4⟩ | ⟨⟨b1, b2⟩, b3, b4⟩
    ·exact ⟨.inl ⟨a1.trans b1.symm, a2.trans b2.symm⟩, .inr ⟨a3.trans b3.symm, a4.trans b4.symm⟩⟩
    ·exact ⟨.inr ⟨a3.trans b1.symm, a4.trans b2.symm⟩, .inl ⟨a1.trans b3.symm, a2.trans b4.symm⟩⟩
    ·exact ⟨.inr ⟨a3.trans b1.symm, a4.trans b2.symm⟩, .inl ⟨a1.trans b3.symm, a2.trans b4.symm⟩⟩
    ·exact ⟨.inl ⟨a1.trans b1.symm, a2.trans b2.symm⟩, .inr ⟨a3.trans b3.symm, a4.trans b4.symm⟩⟩
def ptI (L : Lay) (st : List Stp) (i : Nat) : Int := if i = 0 then -1 else ((joinL L (st.getD (i - 1) st0) (st.getD i st0)).map Hop.pt).getD (-1)
def lastP (s t : Stp) (l : List Lnk) : Int := l.foldl (fun v k => if trK s t k = true then k.pt else v) (-1)
theorem lastP_snoc (s t : Stp) (l : List Lnk) (k : Lnk) : lastP s t (l ++ [k]) = if trK s t k = true then k.pt else lastP s t l := by unfold lastP; rw [List.foldl_append]; rfl
theorem lastP_no {s t : Stp} : ∀ {l : List Lnk} {v : Int}, (∀ k ∈ l, trK s t k = false) → l.foldl (fun v k => if trK s t k = true then k.pt else v) v = v
 | [], v, _ => rfl
 | k :: l, v, h => by
  rw [List.foldl_cons, if_neg (by rw [h k (List.mem_cons_self ..)]; decide)]
  exact lastP_no fun x hx => h x (List.mem_cons_of_mem _ hx)
theorem lastP_eq {s t : Stp} : ∀ {l : List Lnk} {v : Int}, (∀ i j, i < j → j < l.length → trK s t (l.getD i lnk0) = true → trK s t (l.getD j lnk0) = true → False) → l.foldl (fun v k => if trK s t k = true then k.pt else v) v = ((l.find? (trK s t)).map Lnk.pt).getD v
 | [], v, _ => rfl
 | k :: l, v, h => by
  rw [List.foldl_cons, List.find?_cons]
  cases e : trK s t k with
  | true =>
   rw [if_pos rfl]
   show _ = k.pt
   refine lastP_no fun x hx => ?_
   obtain ⟨i, hi, rfl⟩ := List.mem_iff_getElem.1 hx
   cases e2 : trK s t l[i] with
   | false => rfl
   | true =>
    exfalso
    refine h 0 (i + 1) (by omega) (by simpa using hi) e ?_
    rw [List.getD_cons_succ, List.getD_eq_getElem?_getD, List.getElem?_eq_getElem hi]
    exact e2
  | false =>
   rw [if_neg (by decide)]
   exact lastP_eq fun i j hij hj h1 h2 => h (i + 1) (j + 1) (by omega) (by simpa using hj) h1 h2
theorem lastP_pt {L : Lay} (hv : layErr L = 0) {s t : Stp} (hs : s.dir = 0 ∨ s.dir = 1) (ht : t.dir = 0 ∨ t.dir = 1) : lastP s t L.lnks = ((joinL L s t).map Hop.pt).getD (-1) := by
 have h1 := lastP_eq (s := s) (t := t) (l := L.lnks) (v := -1) fun i j hij hj h1 h2 => link_once hv hij hj h1 h2
 have h2 := trans_join hv hs ht
 unfold transL at h2
 unfold lastP
 rw [h1, h2]
def dupP (L : Lay) (st : List Stp) : Bool := (List.range st.length).any fun i => decide (0 ≤ ptI L st i) && (List.range i).any fun j => decide (ptI L st j = ptI L st i)
def motErr (L : Lay) (r : Rte) (l sp ac br : Int) : Int := if fitErr L r l sp ac br ≠ 0 then fitErr L r l sp ac br else if dupP L r.st = true then 13 else 0
def partR (st : List Stp) (ov : Int) (a b : Nat) : Rte := if (b : Int) = st.length - ov - 1 then ⟨st.drop a, ov⟩ else ⟨(st.drop a).take (b + 1 - a), 0⟩
theorem partR_fit {L : Lay} {st : List Stp} {ov l sp ac br : Int} (h : fitErr L ⟨st, ov⟩ l sp ac br = 0) {a b : Nat} (hab : a < b) (hb : (b : Int) ≤ st.length - ov - 1) : fitErr L (partR st ov a b) l sp ac br = 0 := by
 have hr := rte_of (cel_rte (fit_of h).1)
 have g1 := hr.ov0
 have g2 := hr.ov
 simp only at g1 g2
 unfold partR
 split
 ·rename_i e
  have := part_fit2 h (a := a) (m := st.length - a) (o := ov) g1 g2 (by omega) (by omega) (by omega)
  rwa [List.take_of_length_le (by rw [List.length_drop]; omega)] at this
 ·exact part_fit2 h (a := a) (m := b + 1 - a) (o := 0) (by omega) (by omega) (by omega) (by omega) (by omega)
theorem partR_len {L : Lay} {st : List Stp} {ov l sp ac br : Int} (h : fitErr L ⟨st, ov⟩ l sp ac br = 0) {a b : Nat} (hab : a < b) (hb : (b : Int) ≤ st.length - ov - 1) : (trv (partR st ov a b)).length = b - a + 1 := by
 have hr := rte_of (cel_rte (fit_of h).1)
 have g1 := hr.ov0
 simp only at g1
 unfold partR
 split
 ·rename_i e
  unfold trv
  simp only [List.length_take, List.length_drop]
  omega
 ·unfold trv
  simp only [List.length_take, List.length_drop]
  omega
section
variable (L : Lay) (r : Rte) (l sp ac br : Int)
def needF (k : Nat) : Int := entF L r l sp ac br k / 1000 - 16
def passF (k : Nat) : Int := entF L r l sp ac br (k + 1) / 1000
def clrF (k : Nat) : Int := (levF L r l sp ac br k + 999) / 1000 + 4
def ovlF (n : Nat) : Int := if 0 < r.ov then entF L r l sp ac br n / 1000 - 16 else 0
end
theorem prof_rng {L : Lay} {r : Rte} {l sp ac br : Int} (h : Ride L r l sp ac br) {k : Nat} (hk : k < (trv r).length) : 0 ≤ entF L r l sp ac br k ∧ entF L r l sp ac br k ≤ 80000000 ∧ 0 ≤ levF L r l sp ac br k ∧ levF L r l sp ac br k ≤ 80000000 := by
 have a := h.rng _ (endA_mono L (trv r) (show k - 1 ≤ (trv r).length - 1 by omega))
 have b := h.rng _ (lev_in h hk).2
 exact ⟨a.1, a.2, b.1, b.2⟩
theorem run_rng {L : Lay} {r : Rte} {l sp ac br : Int} (h : Ride L r l sp ac br) : 0 < runI L r l sp ac br ∧ runI L r l sp ac br ≤ 80001 := by
 have a := h.rng _ (Nat.le_refl _)
 obtain ⟨b1, b2⟩ := Pl.cdiv_bracket (rideT L r l sp ac br (endA L (trv r) ((trv r).length - 1))) 1000 (by omega)
 refine ⟨run_pos h, ?_⟩
 unfold runI
 omega
section
variable (g : Nat → Int) (m : Nat) (N : Nat → Nat → Int) (R : Nat → Nat → Int) (O : Nat → Int) (ov late : Int)
def refI (a : Nat) (d : Int) : Nat → Nat → Nat
 | 0, _ => 0
 | f + 1, i => if m < i then 0 else if d + N a (i - a - 1) < g i then i else refI a d f (i + 1)
def legD (a : Nat) (x : Int) : Int := max x (g (a + 1) + 16)
def legR (a : Nat) (x : Int) : Nat := refI g m N a (legD g a x) (m + 1) (a + 2)
def legB (a : Nat) (x : Int) : Nat := if 0 < legR g m N a x then legR g m N a x - 1 else m
def legS (a : Nat) (x : Int) : Int := if 0 < legR g m N a x then legD g a x + R a (legR g m N a x - 1) else if 0 < ov ∧ legD g a x + O a < late then legD g a x + R a m + 30 else legD g a x + R a m
def wlk : Nat → Nat → Int → List Leg
 | 0, _, _ => []
 | f + 1, a, x => if a < m then ⟨a, legB g m N a x, legD g a x, legS g m N R O ov late a x⟩ :: wlk f (legB g m N a x) (legS g m N R O ov late a x) else []
theorem refI_of (a : Nat) (d : Int) : ∀ f i, i + f = m + 1 → (refI g m N a d f i = 0 ∧ ∀ j, i ≤ j → j ≤ m → ¬ d + N a (j - a - 1) < g j) ∨ (i ≤ refI g m N a d f i ∧ refI g m N a d f i ≤ m ∧ d + N a (refI g m N a d f i - a - 1) < g (refI g m N a d f i) ∧ ∀ j, i ≤ j → j < refI g m N a d f i → ¬ d + N a (j - a - 1) < g j)
 | 0, i, h => .inl ⟨rfl, fun j h1 h2 => by omega⟩
 | f + 1, i, h => by
  unfold refI
  rw [if_neg (by omega)]
  by_cases hc : d + N a (i - a - 1) < g i
  ·rw [if_pos hc]
   exact .inr ⟨Nat.le_refl _, by omega, hc, fun j h1 h2 => by omega⟩
  ·rw [if_neg hc]
   rcases refI_of a d f (i + 1) (by omega) with ⟨h1, h2⟩ | ⟨h1, h2, h3, h4⟩
   ·refine .inl ⟨h1, fun j hj1 hj2 => ?_⟩
    rcases Nat.eq_or_lt_of_le hj1 with e | e
    ·exact e ▸ hc
    ·exact h2 j e hj2
   ·refine .inr ⟨by omega, h2, h3, fun j hj1 hj2 => ?_⟩
    rcases Nat.eq_or_lt_of_le hj1 with e | e
    ·exact e ▸ hc
    ·exact h4 j e hj2
theorem refI_f (a : Nat) (d : Int) : ∀ f f' i, m + 1 ≤ i + f → m + 1 ≤ i + f' → refI g m N a d f i = refI g m N a d f' i
 | 0, 0, i, _, _ => rfl
 | 0, f' + 1, i, h1, h2 => by unfold refI; rw [if_pos (by omega)]
 | f + 1, 0, i, h1, h2 => by unfold refI; rw [if_pos (by omega)]
 | f + 1, f' + 1, i, h1, h2 => by
  unfold refI
  rw [refI_f a d f f' (i + 1) (by omega) (by omega)]
theorem legB_rng {a : Nat} (x : Int) (h : a < m) : a < legB g m N a x ∧ legB g m N a x ≤ m := by
 unfold legB legR
 rcases Nat.lt_or_ge m (a + 2) with h1 | h1
 ·have : refI g m N a (legD g a x) (m + 1) (a + 2) = 0 := by unfold refI; rw [if_pos (by omega)]
  rw [this, if_neg (by omega)]
  omega
 ·have e := refI_f g m N a (legD g a x) (m + 1) (m + 1 - (a + 2)) (a + 2) (by omega) (by omega)
  rcases refI_of g m N a (legD g a x) (m + 1 - (a + 2)) (a + 2) (by omega) with ⟨h2, _⟩ | ⟨h2, h3, _⟩
  ·rw [e, h2, if_neg (by omega)]; omega
  ·rw [e, if_pos (by omega)]; omega
end
def rowT {α : Type} (n : Nat) (f : Nat → α) : List α := (List.range n).map f
theorem rowT_len {α : Type} (n : Nat) (f : Nat → α) : (rowT n f).length = n := by simp [rowT]
theorem rowT_get {α : Type} {n : Nat} {f : Nat → α} {i : Nat} {d : α} (h : i < n) : (rowT n f).getD i d = f i := by simp [rowT, List.getD_eq_getElem?_getD, h]
theorem rowT_set {α : Type} {n : Nat} {f g : Nat → α} {i : Nat} {x : α} (hx : g i = x) (h : ∀ j, j < n → j ≠ i → g j = f j) : (rowT n f).set i x = rowT n g := by
 apply List.ext_getElem
 ·simp [rowT]
 ·intro j h1 h2
  have hj : j < n := by simpa [rowT] using h2
  rw [List.getElem_set]
  split
  ·rename_i e; subst e; simp [rowT, hx]
  ·rename_i e; simp only [rowT, List.getElem_map, List.getElem_range]; exact (h j hj (fun e' => e e'.symm)).symm
theorem rowT_ext {α : Type} {n : Nat} {f g : Nat → α} (h : ∀ j, j < n → f j = g j) : rowT n f = rowT n g := by
 unfold rowT
 exact List.map_congr_left fun j hj => h j (List.mem_range.1 hj)
theorem rowT_rep {α : Type} (n : Nat) (d : α) : List.replicate n d = rowT n fun _ => d := by
 apply List.ext_getElem
 ·simp [rowT]
 ·intro j h1 h2; simp [rowT]
def seenP (L : Lay) (st : List Stp) (i : Nat) (p : Nat) : Bool := (List.range i).any fun j => decide (ptI L st j = (p : Int))
def dupPA (L : Lay) (st : List Stp) (i : Nat) : Bool := decide (0 ≤ ptI L st i) && (List.range i).any fun j => decide (ptI L st j = ptI L st i)
theorem dupP_yes {L : Lay} {st : List Stp} {i : Nat} (hi : i < st.length) (h : dupPA L st i = true) : dupP L st = true := List.any_eq_true.2 ⟨i, List.mem_range.2 hi, h⟩
theorem dupP_no {L : Lay} {st : List Stp} (h : ∀ i, i < st.length → dupPA L st i = false) : dupP L st = false := by
 unfold dupP
 rw [List.any_eq_false]
 intro i hi
 have := h i (List.mem_range.1 hi)
 unfold dupPA at this
 rw [this]
 exact Bool.false_ne_true
theorem seenP_succ (L : Lay) (st : List Stp) (i p : Nat) : seenP L st (i + 1) p = (seenP L st i p || decide (ptI L st i = (p : Int))) := by
 unfold seenP
 rw [List.range_succ, List.any_append, List.any_cons, List.any_nil, Bool.or_false]
theorem seenP_dup {L : Lay} {st : List Stp} {i : Nat} (h0 : 0 ≤ ptI L st i) : dupPA L st i = seenP L st i (ptI L st i).toNat := by
 unfold dupPA seenP
 rw [decide_eq_true h0, Bool.true_and, Int.toNat_of_nonneg h0]
theorem ptI_rng {L : Lay} {r : Rte} (h : RteOk L r) {i : Nat} (hi : i < r.st.length) : -1 ≤ ptI L r.st i ∧ ptI L r.st i < L.pts.length := by
 unfold ptI
 split
 ·omega
 ·obtain ⟨k, h1, h2, h3⟩ := join_at h (i := i) (by omega) hi
  rw [h1]
  exact ⟨h2, h3⟩
theorem lnk_snoc {l : List Lnk} {i : Nat} (hi : i < l.length) : l.take (i + 1) = l.take i ++ [l.getD i lnk0] := by rw [List.take_succ_eq_append_getElem hi, List.getD_eq_getElem?_getD, List.getElem?_eq_getElem hi]; rfl
theorem mLeave_ok (s : Stp) : OkV Try.prog 46 [vSt s] [] (vI (lvE s.dir)) [] := by
 unfold lvE
 refine X_fn mixedX Try.func46 rfl (by kernel_rfl) (Nat.le_of_ble_eq_true (by kernel_rfl)) (by kernel_rfl) rfl rfl (Nat.le_of_ble_eq_true rfl) rfl rfl ?_
 simp only [sl0, Nat.zero_add, Nat.reduceAdd]
 repeat' (first
  |with_reducible (first|refine q_and ?_ ?_|exact True.intro|exact TkEq.nil _|refine Red.o (by constructor) ?_|refine blockK_o' rfl ?_|refine LoopX_e' rfl ?_|assumption)
  |((with_reducible apply q_CI);intro hbq;(try simp only [bq] at hbq);(try (exfalso;omega)))
  |with_reducible (first|refine W_seq ?_|refine W_block ?_)
  |((with_reducible apply q_cond);refine X_cond rfl ?_ ?_;all_goals (intro hbq;(try simp only [bq] at hbq);(try (exfalso;omega))))
  |refine Rex.o (by (with_reducible constructor);apply Eq.refl) ?_
  |(intro (hgq : (_ : Bool) = true);(try simp only [bq] at hgq))
  |(intro (hgq : (_ : Bool) = false);(try simp only [bq] at hgq))
  |((with_reducible apply q_VOk);exact fun _ => ⟨rfl,rfl⟩)|(intro _;exact rfl)|((with_reducible apply q_CRB);kernel_rfl)|((with_reducible apply q_bt);simp only [bq])|((with_reducible apply q_eqN);rfl)|((with_reducible apply q_FE);exact rfl)|with_reducible (first|exact isByte_wrap _|exact isByte_nat _)|(simp only [hgq,bq];done)|omega|(dsimp only;omega))
 ·rw [if_pos hbq]
  repeat' (first|with_reducible (first|refine Wk.o (by constructor) ?_|refine q_and ?_ ?_|exact True.intro)|refine VEq.c ?_|refine VEq.agg ?_|refine VEq.tup ?_|refine TkEq.cells ?_ ?_|refine TkEq.els ?_ ?_|refine SEqL.cons ?_ ?_|refine TEqL.agg ?_ ?_|refine CEq.rows ?_|refine CEq.int ?_|rfl|omega)
 ·rw [if_neg hbq]
  repeat' (first|with_reducible (first|refine Wk.o (by constructor) ?_|refine q_and ?_ ?_|exact True.intro)|refine VEq.c ?_|refine VEq.agg ?_|refine VEq.tup ?_|refine TkEq.cells ?_ ?_|refine TkEq.els ?_ ?_|refine SEqL.cons ?_ ?_|refine TEqL.agg ?_ ?_|refine CEq.rows ?_|refine CEq.int ?_|rfl|omega)
theorem mEnter_ok (s : Stp) (h : s.dir = 0 ∨ s.dir = 1) : OkV Try.prog 47 [vSt s] [] (vI (lvE (revD s.dir))) [] := by
 unfold lvE revD
 refine X_fn mixedX Try.func47 rfl (by kernel_rfl) (Nat.le_of_ble_eq_true (by kernel_rfl)) (by kernel_rfl) rfl rfl (Nat.le_of_ble_eq_true rfl) rfl rfl ?_
 simp only [sl0, Nat.zero_add, Nat.reduceAdd]
 repeat' (first
  |with_reducible (first|refine q_and ?_ ?_|exact True.intro|exact TkEq.nil _|refine Red.o (by constructor) ?_|refine blockK_o' rfl ?_|refine LoopX_e' rfl ?_|assumption)
  |((with_reducible apply q_CI);intro hbq;(try simp only [bq] at hbq);(try (exfalso;omega)))
  |with_reducible (first|refine W_seq ?_|refine W_block ?_)
  |((with_reducible apply q_cond);refine X_cond rfl ?_ ?_;all_goals (intro hbq;(try simp only [bq] at hbq);(try (exfalso;omega))))
  |refine Rex.o (by (with_reducible constructor);apply Eq.refl) ?_
  |(intro (hgq : (_ : Bool) = true);(try simp only [bq] at hgq))
  |(intro (hgq : (_ : Bool) = false);(try simp only [bq] at hgq))
  |((with_reducible apply q_VOk);exact fun _ => ⟨rfl,rfl⟩)|(intro _;exact rfl)|((with_reducible apply q_CRB);kernel_rfl)|((with_reducible apply q_bt);simp only [bq])|((with_reducible apply q_eqN);rfl)|((with_reducible apply q_FE);exact rfl)|with_reducible (first|exact isByte_wrap _|exact isByte_nat _)|(simp only [hgq,bq];done)|omega|(dsimp only;omega))
 ·rw [if_pos hbq]
  repeat' (first|with_reducible (first|refine Wk.o (by constructor) ?_|refine q_and ?_ ?_|exact True.intro)|refine VEq.c ?_|refine VEq.agg ?_|refine VEq.tup ?_|refine TkEq.cells ?_ ?_|refine TkEq.els ?_ ?_|refine SEqL.cons ?_ ?_|refine TEqL.agg ?_ ?_|refine CEq.rows ?_|refine CEq.int ?_|rfl|omega)
 ·rw [if_neg hbq]
  repeat' (first|with_reducible (first|refine Wk.o (by constructor) ?_|refine q_and ?_ ?_|exact True.intro)|refine VEq.c ?_|refine VEq.agg ?_|refine VEq.tup ?_|refine TkEq.cells ?_ ?_|refine TkEq.els ?_ ?_|refine SEqL.cons ?_ ?_|refine TEqL.agg ?_ ?_|refine CEq.rows ?_|refine CEq.int ?_|rfl|omega)
theorem mPoints_ok (L : Lay) (hL : LayFits L) (st : List Stp) (ov : Int) (hR : RteOk L ⟨st, ov⟩) : OkV Try.prog 31 [vLay L, vR2 st ov] [] (.c (rInt (row st.length (ptI L st)))) [] := by
 have hV := valid_of hR.lay
 have hn := hR.len
 simp only at hn
 have hn4 := hV.n4
 have hdir : ∀ i, i < st.length → (st.getD i st0).dir = 0 ∨ (st.getD i st0).dir = 1 := fun i hi => (ok_dir (all_at hR.ok hi)).2.2
 have hpt : ∀ i, 0 < i → i < st.length → lastP (st.getD (i - 1) st0) (st.getD i st0) L.lnks = ptI L st i := fun i h0 hi => by
  rw [lastP_pt hR.lay (hdir _ (by omega)) (hdir _ hi)]
  unfold ptI
  rw [if_neg (by omega)]
 unfold vLay
 refine X_fnP mixedX Try.func31 rfl (by kernel_rfl) (Nat.le_of_ble_eq_true (by kernel_rfl)) (by kernel_rfl) rfl rfl ?_
 simp only [sl0, Nat.zero_add, Nat.reduceAdd]
 repeat' (first
  |with_reducible (first|refine q_and ?_ ?_|exact True.intro|exact TkEq.nil _|refine Red.o (by constructor) ?_|refine blockK_o' rfl ?_|refine LoopX_e' rfl ?_|assumption)
  |((with_reducible apply q_CI);intro hbq;(try simp only [bq] at hbq);(try (exfalso;omega)))
  |with_reducible (first|refine W_seq ?_|refine W_block ?_)
  |((with_reducible apply q_cond);refine X_cond rfl ?_ ?_;all_goals (intro hbq;(try simp only [bq] at hbq);(try (exfalso;omega))))
  |refine Rex.o (by (with_reducible constructor);apply Eq.refl) ?_
  |(intro (hgq : (_ : Bool) = true);(try simp only [bq] at hgq))
  |(intro (hgq : (_ : Bool) = false);(try simp only [bq] at hgq))
  |((with_reducible apply q_VOk);exact fun _ => ⟨rfl,rfl⟩)|(intro _;exact rfl)|((with_reducible apply q_CRB);kernel_rfl)|((with_reducible apply q_bt);simp only [bq])|((with_reducible apply q_eqN);rfl)|((with_reducible apply q_FE);exact rfl)|with_reducible (first|exact isByte_wrap _|exact isByte_nat _)|(simp only [hgq,bq];done)|omega|(dsimp only;omega))
 refine W_loopS (fun i : Nat => SS [sC 2 (pB 0), sC 3 (pB 1), sC 5 (.c (.arr 2 0 st.length st.length)), sI 18 st.length, sI 19 i] [bLay L, bRte st ov, bInt (row st.length fun j => if j < i then ptI L st j else 0)]) (fun i => i ≤ st.length) (fun i => st.length - i) 0 ?_ (by omega) ?_
 ·
  refine X_weak rfl rfl rfl ?_ ?_ <;> repeat' (first|with_reducible (first|refine Wk.o (by constructor) ?_|refine q_and ?_ ?_|exact True.intro)|refine q_AgS rfl ?_ ?_|exact CLe.nil_tipS|exact CLe.nil_rowS|refine HLe.cells ?_ ?_|refine HLe.els ?_ ?_|refine SLe.cons ?_ ?_|exact (rfl : known _ = _)|with_reducible rfl|omega)
  all_goals first
   | rfl
   | (rw [Int.toNat_natCast, row_zero]; rfl)
 intro i hi
 have hrl := row_len st.length fun j => if j < i then ptI L st j else 0
 by_cases hil : i < st.length
 ·by_cases hi0 : i = 0
  ·
   repeat' (first
    |with_reducible (first|refine q_and ?_ ?_|exact True.intro|exact TkEq.nil _|refine Red.o (by constructor) ?_|refine blockK_o' rfl ?_|refine LoopX_e' rfl ?_|assumption)
    |((with_reducible apply q_CI);intro hbq;(try simp only [bq] at hbq);(try (exfalso;omega)))
    |with_reducible (first|refine W_seq ?_|refine W_block ?_)
    |((with_reducible apply q_cond);refine X_cond rfl ?_ ?_;all_goals (intro hbq;(try simp only [bq] at hbq);(try (exfalso;omega))))
    |refine Rex.o (by (with_reducible constructor);apply Eq.refl) ?_
    |(intro (hgq : (_ : Bool) = true);(try simp only [bq] at hgq))
    |(intro (hgq : (_ : Bool) = false);(try simp only [bq] at hgq))
    |((with_reducible apply q_VOk);exact fun _ => ⟨rfl,rfl⟩)|(intro _;exact rfl)|((with_reducible apply q_CRB);kernel_rfl)|((with_reducible apply q_bt);simp only [bq])|((with_reducible apply q_eqN);rfl)|((with_reducible apply q_FE);exact rfl)|with_reducible (first|exact isByte_wrap _|exact isByte_nat _)|(simp only [hgq,bq];done)|omega|(dsimp only;omega))
   ·rfl
   ·
    refine LoopK_n (i + 1) ?_ ((by omega)) (by (try dsimp only); omega)
    refine X_weak rfl rfl rfl ?_ ?_ <;> repeat' (first|with_reducible (first|refine Wk.o (by constructor) ?_|refine q_and ?_ ?_|exact True.intro)|refine q_AgS rfl ?_ ?_|exact CLe.nil_tipS|exact CLe.nil_rowS|refine HLe.cells ?_ ?_|refine HLe.els ?_ ?_|refine SLe.cons ?_ ?_|exact (rfl : known _ = _)|with_reducible rfl|omega)
    all_goals (
     rw [Int.toNat_natCast]
     refine row_set (i := i) ?_ fun j hj hne => ?_
     ·rw [if_pos (by omega), hi0]; rfl
     ·by_cases h1 : j < i
      ·rw [if_pos h1, if_pos (by omega)]
      ·rw [if_neg h1, if_neg (by omega)])
  ·
   have e0 : (row st.length fun j => if j < i then ptI L st j else 0).set (i : Int).toNat (-1) = row st.length fun j => if j < i then ptI L st j else if j = i then lastP (st.getD (i - 1) st0) (st.getD i st0) (L.lnks.take 0) else 0 := by
    rw [Int.toNat_natCast]
    refine row_set (i := i) ?_ fun j hj hne => ?_
    ·rw [if_neg (by omega), if_pos rfl]; rfl
    ·by_cases h1 : j < i
     ·rw [if_pos h1, if_pos h1]
     ·rw [if_neg h1, if_neg h1, if_neg hne]
   have e1 : ((i : Int) - 1).toNat = i - 1 := by omega
   have hpi := hpt i (by omega) hil
   have d1 := hdir (i - 1) (by omega)
   have d2 := hdir i hil
   clear hpt hdir
   repeat' (first
    |with_reducible (first|refine q_and ?_ ?_|exact True.intro|exact TkEq.nil _|refine Red.o (by constructor) ?_|refine blockK_o' rfl ?_|refine LoopX_e' rfl ?_|assumption)
    |((with_reducible apply q_W);refine W_two [0, 1, 2, 3, 4, 5, 6, 7, 8, 9, 10] 11 12 [13, 14] 3 (by kernel_rfl) rfl rfl rfl rfl ?_)
    |((with_reducible apply q_TB);kernel_rfl)
    |((with_reducible apply q_LB);exact LB_SS rfl)
    |((with_reducible apply q_RK);refine RK_SS rfl ?_)
    |((with_reducible apply q_CI);intro hbq;(try simp only [bq] at hbq);(try (exfalso;omega)))
    |with_reducible (first|refine W_seq ?_|refine W_block ?_)
    |((with_reducible apply q_cond);refine X_cond rfl ?_ ?_;all_goals (intro hbq;(try simp only [bq] at hbq);(try (exfalso;omega))))
    |refine Rex.o (by (with_reducible constructor);apply Eq.refl) ?_
    |(intro (hgq : (_ : Bool) = true);(try simp only [bq] at hgq))
    |(intro (hgq : (_ : Bool) = false);(try simp only [bq] at hgq))
    |((with_reducible apply q_VOk);exact fun _ => ⟨rfl,rfl⟩)|(intro _;exact rfl)|((with_reducible apply q_CRB);kernel_rfl)|((with_reducible apply q_bt);simp only [bq])|((with_reducible apply q_eqN);rfl)|((with_reducible apply q_FE);exact rfl)|with_reducible (first|exact isByte_wrap _|exact isByte_nat _)|(simp only [hgq,bq];done)|omega|(dsimp only;omega))
   ·rfl
   all_goals (
    rw [e0, e1, Int.toNat_natCast]
    generalize hA : st.getD (i - 1) st0 = a at *
    generalize hB : st.getD i st0 = b at *
    have hl1 := mLeave_ok a
    have hl2 := mEnter_ok b d2
    refine W_loopS (fun k : Nat => SS [sC 2 (pB 0), sC 3 (pB 1), sC 5 (.c (.arr 2 0 st.length st.length)), sI 6 i, sC 7 (pB 3), sC 8 (pB 4), sI 18 st.length, sI 19 i, sC 39 (rLnk L.lnks), sI 40 L.lnks.length, sI 41 k] [bLay L, bRte st ov, bInt (row st.length fun j => if j < i then ptI L st j else if j = i then lastP a b (L.lnks.take k) else 0), some (.cells [xI a.sec, xI a.dir]), some (.cells [xI b.sec, xI b.dir])]) (fun k => k ≤ L.lnks.length) (fun k => L.lnks.length - k) 0 ?_ (by omega) ?_
    ·
     refine X_weak rfl rfl rfl ?_ ?_ <;> repeat' (first|with_reducible (first|refine Wk.o (by constructor) ?_|refine q_and ?_ ?_|exact True.intro)|refine q_AgS rfl ?_ ?_|exact CLe.nil_tipS|exact CLe.nil_rowS|refine HLe.cells ?_ ?_|refine HLe.els ?_ ?_|refine SLe.cons ?_ ?_|exact (rfl : known _ = _)|with_reducible rfl|omega)
    intro k hk
    have hrl2 := row_len st.length fun j => if j < i then ptI L st j else if j = i then lastP a b (L.lnks.take k) else 0
    by_cases hkl : k < L.lnks.length
    ·have e2 : L.lnks.take (k + 1) = L.lnks.take k ++ [L.lnks.getD k lnk0] := lnk_snoc hkl
     repeat' (first
      |with_reducible (first|refine q_and ?_ ?_|exact True.intro|exact TkEq.nil _|refine Red.o (by constructor) ?_|refine blockK_o' rfl ?_|refine LoopX_e' rfl ?_|assumption)
      |((with_reducible apply q_callG);refine X_pureG ((fun _ => hl1)) rfl ?_ ?_)
      |((with_reducible apply q_callG);refine X_pureG ((fun _ => hl2)) rfl ?_ ?_)
      |((with_reducible apply q_CI);intro hbq;(try simp only [bq] at hbq);(try (exfalso;omega)))
      |with_reducible (first|refine W_seq ?_|refine W_block ?_)
      |((with_reducible apply q_cond);refine X_cond rfl ?_ ?_;all_goals (intro hbq;(try simp only [bq] at hbq);(try (exfalso;omega))))
      |refine Rex.o (by (with_reducible constructor);apply Eq.refl) ?_
      |(intro (hgq : (_ : Bool) = true);(try simp only [bq] at hgq))
      |(intro (hgq : (_ : Bool) = false);(try simp only [bq] at hgq))
      |((with_reducible apply q_VOk);exact fun _ => ⟨rfl,rfl⟩)|(intro _;exact rfl)|((with_reducible apply q_CRB);kernel_rfl)|((with_reducible apply q_bt);simp only [bq])|((with_reducible apply q_eqN);rfl)|((with_reducible apply q_FE);exact rfl)|with_reducible (first|exact isByte_wrap _|exact isByte_nat _)|(simp only [hgq,bq];done)|omega|(dsimp only;omega))
     ·rfl
     ·have ht : trK a b (L.lnks.getD k lnk0) = true := by
       simp only [Int.toNat_natCast] at hbq
       unfold trK
       simp only [Bool.or_eq_true, decide_eq_true_eq]
       omega
      refine LoopK_n (k + 1) ?_ ((by omega)) (by (try dsimp only); omega)
      refine X_weak rfl rfl rfl ?_ ?_ <;> repeat' (first|with_reducible (first|refine Wk.o (by constructor) ?_|refine q_and ?_ ?_|exact True.intro)|refine q_AgS rfl ?_ ?_|exact CLe.nil_tipS|exact CLe.nil_rowS|refine HLe.cells ?_ ?_|refine HLe.els ?_ ?_|refine SLe.cons ?_ ?_|exact (rfl : known _ = _)|with_reducible rfl|omega)
      all_goals (
       simp only [Int.toNat_natCast]
       rw [e2]
       refine row_set (i := i) ?_ fun j hj hne => ?_
       ·rw [if_neg (by omega), if_pos rfl, lastP_snoc, if_pos ht]
       ·by_cases h1 : j < i
        ·rw [if_pos h1, if_pos h1]
        ·rw [if_neg h1, if_neg h1, if_neg hne, if_neg hne])
     ·have ht : ¬ trK a b (L.lnks.getD k lnk0) = true := by
       simp only [Int.toNat_natCast] at hbq
       unfold trK
       simp only [Bool.or_eq_true, decide_eq_true_eq]
       omega
      refine LoopK_n (k + 1) ?_ ((by omega)) (by (try dsimp only); omega)
      refine X_weak rfl rfl rfl ?_ ?_ <;> repeat' (first|with_reducible (first|refine Wk.o (by constructor) ?_|refine q_and ?_ ?_|exact True.intro)|refine q_AgS rfl ?_ ?_|exact CLe.nil_tipS|exact CLe.nil_rowS|refine HLe.cells ?_ ?_|refine HLe.els ?_ ?_|refine SLe.cons ?_ ?_|exact (rfl : known _ = _)|with_reducible rfl|omega)
      all_goals (rw [e2, lastP_snoc, if_neg ht])
    ·have hke : k = L.lnks.length := by omega
     subst hke
     rw [List.take_length] at *
     repeat' (first
      |with_reducible (first|refine q_and ?_ ?_|exact True.intro|exact TkEq.nil _|refine Red.o (by constructor) ?_|refine blockK_o' rfl ?_|refine LoopX_e' rfl ?_|assumption)
      |((with_reducible apply q_CI);intro hbq;(try simp only [bq] at hbq);(try (exfalso;omega)))
      |with_reducible (first|refine W_seq ?_|refine W_block ?_)
      |((with_reducible apply q_cond);refine X_cond rfl ?_ ?_;all_goals (intro hbq;(try simp only [bq] at hbq);(try (exfalso;omega))))
      |refine Rex.o (by (with_reducible constructor);apply Eq.refl) ?_
      |(intro (hgq : (_ : Bool) = true);(try simp only [bq] at hgq))
      |(intro (hgq : (_ : Bool) = false);(try simp only [bq] at hgq))
      |((with_reducible apply q_VOk);exact fun _ => ⟨rfl,rfl⟩)|(intro _;exact rfl)|((with_reducible apply q_CRB);kernel_rfl)|((with_reducible apply q_bt);simp only [bq])|((with_reducible apply q_eqN);rfl)|((with_reducible apply q_FE);exact rfl)|with_reducible (first|exact isByte_wrap _|exact isByte_nat _)|(simp only [hgq,bq];done)|omega|(dsimp only;omega))
     ·
      refine LoopK_n (i + 1) ?_ ((by omega)) (by (try dsimp only); omega)
      refine X_weak rfl rfl rfl ?_ ?_ <;> repeat' (first|with_reducible (first|refine Wk.o (by constructor) ?_|refine q_and ?_ ?_|exact True.intro)|refine q_AgS rfl ?_ ?_|exact CLe.nil_tipS|exact CLe.nil_rowS|refine HLe.cells ?_ ?_|refine HLe.els ?_ ?_|refine SLe.cons ?_ ?_|exact (rfl : known _ = _)|with_reducible rfl|omega)
      all_goals (
       refine row_ext fun j hj => ?_
       by_cases h1 : j < i
       ·rw [if_pos h1, if_pos (by omega)]
       ·by_cases h2 : j = i
        ·rw [if_neg h1, if_pos h2, if_pos (by omega), h2, hpi]
        ·rw [if_neg h1, if_neg h2, if_neg (by omega)]))
 ·have hie : i = st.length := by omega
  subst hie
  have hr : (row st.length fun j => if j < st.length then ptI L st j else 0) = row st.length (ptI L st) := row_ext fun j hj => if_pos hj
  repeat' (first
   |with_reducible (first|refine q_and ?_ ?_|exact True.intro|exact TkEq.nil _|refine Red.o (by constructor) ?_|refine blockK_o' rfl ?_|refine LoopX_e' rfl ?_|assumption)
   |((with_reducible apply q_CI);intro hbq;(try simp only [bq] at hbq);(try (exfalso;omega)))
   |with_reducible (first|refine W_seq ?_|refine W_block ?_)
   |((with_reducible apply q_cond);refine X_cond rfl ?_ ?_;all_goals (intro hbq;(try simp only [bq] at hbq);(try (exfalso;omega))))
   |refine Rex.o (by (with_reducible constructor);apply Eq.refl) ?_
   |(intro (hgq : (_ : Bool) = true);(try simp only [bq] at hgq))
   |(intro (hgq : (_ : Bool) = false);(try simp only [bq] at hgq))
   |((with_reducible apply q_VOk);exact fun _ => ⟨rfl,rfl⟩)|(intro _;exact rfl)|((with_reducible apply q_CRB);kernel_rfl)|((with_reducible apply q_bt);simp only [bq])|((with_reducible apply q_eqN);rfl)|((with_reducible apply q_FE);exact rfl)|with_reducible (first|exact isByte_wrap _|exact isByte_nat _)|(simp only [hgq,bq];done)|omega|(dsimp only;omega))
  rw [hr]
  rfl
theorem mLast_ok (st : List Stp) (ov : Int) (hl : st.length ≤ 9223372036854775807) (h0 : 0 ≤ ov ∧ ov ≤ st.length) : OkV Try.prog 15 [vR2 st ov] [] (vI (st.length - ov - 1)) [] := by
 refine X_fn mixedX Try.func15 rfl (by kernel_rfl) (Nat.le_of_ble_eq_true (by kernel_rfl)) (by kernel_rfl) rfl rfl (Nat.le_of_ble_eq_true rfl) rfl rfl ?_
 simp only [sl0, Nat.zero_add, Nat.reduceAdd]
 repeat' (first
  |with_reducible (first|refine q_and ?_ ?_|exact True.intro|exact TkEq.nil _|refine Red.o (by constructor) ?_|refine blockK_o' rfl ?_|refine LoopX_e' rfl ?_|assumption)
  |((with_reducible apply q_CI);intro hbq;(try simp only [bq] at hbq);(try (exfalso;omega)))
  |with_reducible (first|refine W_seq ?_|refine W_block ?_)
  |((with_reducible apply q_cond);refine X_cond rfl ?_ ?_;all_goals (intro hbq;(try simp only [bq] at hbq);(try (exfalso;omega))))
  |refine Rex.o (by (with_reducible constructor);apply Eq.refl) ?_
  |(intro (hgq : (_ : Bool) = true);(try simp only [bq] at hgq))
  |(intro (hgq : (_ : Bool) = false);(try simp only [bq] at hgq))
  |((with_reducible apply q_VOk);exact fun _ => ⟨rfl,rfl⟩)|(intro _;exact rfl)|((with_reducible apply q_CRB);kernel_rfl)|((with_reducible apply q_bt);simp only [bq])|((with_reducible apply q_eqN);rfl)|((with_reducible apply q_FE);exact rfl)|with_reducible (first|exact isByte_wrap _|exact isByte_nat _)|(simp only [hgq,bq];done)|omega|(dsimp only;omega))
 repeat' (first|with_reducible (first|refine Wk.o (by constructor) ?_|refine q_and ?_ ?_|exact True.intro)|refine VEq.c ?_|refine VEq.agg ?_|refine VEq.tup ?_|refine TkEq.cells ?_ ?_|refine TkEq.els ?_ ?_|refine SEqL.cons ?_ ?_|refine TEqL.agg ?_ ?_|refine CEq.rows ?_|refine CEq.int ?_|rfl|omega)
theorem rLast_ok (st : List Stp) (ov : Int) (hl : st.length ≤ 9223372036854775807) (h0 : 0 ≤ ov ∧ ov ≤ st.length) : OkV Try.prog 13 [vR2 st ov] [] (vI (st.length - ov - 1)) [] := by
 refine X_fn mixedX Try.func13 rfl (by kernel_rfl) (Nat.le_of_ble_eq_true (by kernel_rfl)) (by kernel_rfl) rfl rfl (Nat.le_of_ble_eq_true rfl) rfl rfl ?_
 simp only [sl0, Nat.zero_add, Nat.reduceAdd]
 repeat' (first
  |with_reducible (first|refine q_and ?_ ?_|exact True.intro|exact TkEq.nil _|refine Red.o (by constructor) ?_|refine blockK_o' rfl ?_|refine LoopX_e' rfl ?_|assumption)
  |((with_reducible apply q_CI);intro hbq;(try simp only [bq] at hbq);(try (exfalso;omega)))
  |with_reducible (first|refine W_seq ?_|refine W_block ?_)
  |((with_reducible apply q_cond);refine X_cond rfl ?_ ?_;all_goals (intro hbq;(try simp only [bq] at hbq);(try (exfalso;omega))))
  |refine Rex.o (by (with_reducible constructor);apply Eq.refl) ?_
  |(intro (hgq : (_ : Bool) = true);(try simp only [bq] at hgq))
  |(intro (hgq : (_ : Bool) = false);(try simp only [bq] at hgq))
  |((with_reducible apply q_VOk);exact fun _ => ⟨rfl,rfl⟩)|(intro _;exact rfl)|((with_reducible apply q_CRB);kernel_rfl)|((with_reducible apply q_bt);simp only [bq])|((with_reducible apply q_eqN);rfl)|((with_reducible apply q_FE);exact rfl)|with_reducible (first|exact isByte_wrap _|exact isByte_nat _)|(simp only [hgq,bq];done)|omega|(dsimp only;omega))
 repeat' (first|with_reducible (first|refine Wk.o (by constructor) ?_|refine q_and ?_ ?_|exact True.intro)|refine VEq.c ?_|refine VEq.agg ?_|refine VEq.tup ?_|refine TkEq.cells ?_ ?_|refine TkEq.els ?_ ?_|refine SEqL.cons ?_ ?_|refine TEqL.agg ?_ ?_|refine CEq.rows ?_|refine CEq.int ?_|rfl|omega)
theorem mFits_ok (L : Lay) (hL : LayFits L) (st : List Stp) (ov : Int) (hl : st.length ≤ 9223372036854775807) (ho : -9223372036854775808 ≤ ov ∧ ov ≤ 9223372036854775807) (nm : ByteArray) (l sp ac br : Int) : OkV Try.prog 14 [vLay L, vR2 st ov, vS5 nm l sp ac br] [] (vI (motErr L ⟨st, ov⟩ l sp ac br)) [] := by
 have hF := fits_ok L hL st ov hl ho nm l sp ac br
 unfold motErr
 by_cases h : fitErr L ⟨st, ov⟩ l sp ac br = 0
 ·have hR := rte_of (cel_rte (fit_of h).1)
  have hV := valid_of hR.lay
  have hn := hR.len
  have hn2 := hV.n2
  have hP := mPoints_ok L hL st ov hR
  have hpr : ∀ i, i < st.length → -1 ≤ ptI L st i ∧ ptI L st i < L.pts.length := fun i hi => ptI_rng hR hi
  simp only at hn
  rw [h] at hF
  rw [h, if_neg (by decide)]
  unfold vLay at hF hP ⊢
  have hpl := row_len st.length (ptI L st)
  refine X_fn mixedX Try.func14 rfl (by kernel_rfl) (Nat.le_of_ble_eq_true (by kernel_rfl)) (by kernel_rfl) rfl rfl (Nat.le_of_ble_eq_true rfl) rfl rfl ?_
  simp only [sl0, Nat.zero_add, Nat.reduceAdd]
  repeat' (first
   |with_reducible (first|refine q_and ?_ ?_|exact True.intro|exact TkEq.nil _|refine Red.o (by constructor) ?_|refine blockK_o' rfl ?_|refine LoopX_e' rfl ?_|assumption)
   |((with_reducible apply q_call);first|refine X_pure (hF) rfl ?_|refine X_pure (hP) rfl ?_)
   |((with_reducible apply q_CI);intro hbq;(try simp only [bq] at hbq);(try (exfalso;omega)))
   |with_reducible (first|refine W_seq ?_|refine W_block ?_)
   |((with_reducible apply q_cond);refine X_cond rfl ?_ ?_;all_goals (intro hbq;(try simp only [bq] at hbq);(try (exfalso;omega))))
   |refine Rex.o (by (with_reducible constructor);apply Eq.refl) ?_
   |(intro (hgq : (_ : Bool) = true);(try simp only [bq] at hgq))
   |(intro (hgq : (_ : Bool) = false);(try simp only [bq] at hgq))
   |((with_reducible apply q_VOk);exact fun _ => ⟨rfl,rfl⟩)|(intro _;exact rfl)|((with_reducible apply q_CRB);kernel_rfl)|((with_reducible apply q_bt);simp only [bq])|((with_reducible apply q_eqN);rfl)|((with_reducible apply q_FE);exact rfl)|with_reducible (first|exact isByte_wrap _|exact isByte_nat _)|(simp only [hgq,bq];done)|omega|(dsimp only;omega))
  clear hF hP
  refine W_loopS (fun i : Nat => SS [sC 8 (.c (.arr 3 0 L.pts.length L.pts.length)), sC 24 (rInt (row st.length (ptI L st))), sI 25 st.length, sI 26 i] [none, none, none, bBool (rowT L.pts.length (seenP L st i))]) (fun i => i ≤ st.length ∧ ∀ j, j < i → dupPA L st j = false) (fun i => st.length - i) 0 ?_ ⟨by omega, fun j hj => by omega⟩ ?_
  ·
   refine X_weak rfl rfl rfl ?_ ?_ <;> repeat' (first|with_reducible (first|refine Wk.o (by constructor) ?_|refine q_and ?_ ?_|exact True.intro)|refine q_AgS rfl ?_ ?_|exact CLe.nil_tipS|exact CLe.nil_rowS|refine HLe.cells ?_ ?_|refine HLe.els ?_ ?_|refine SLe.cons ?_ ?_|exact (rfl : known _ = _)|with_reducible rfl|omega)
   all_goals first
    | rfl
    | (rw [Int.toNat_natCast, rowT_rep]; rfl)
    | (rw [row_len])
  intro i hi
  obtain ⟨hi, hno⟩ := hi
  have hsl := rowT_len L.pts.length (seenP L st i)
  by_cases hil : i < st.length
  ·have hg : (row st.length (ptI L st)).getD (i : Int).toNat 0 = ptI L st i := row_get hil
   have hpi := hpr i hil
   by_cases h0 : 0 ≤ ptI L st i
   ·have hd := seenP_dup h0
    have hg2 : (rowT L.pts.length (seenP L st i)).getD ((row st.length (ptI L st)).getD (i : Int).toNat 0).toNat false = seenP L st i (ptI L st i).toNat := by rw [hg]; exact rowT_get (by omega)
    by_cases hs : seenP L st i (ptI L st i).toNat = true
    ·rw [hs] at hg2 hd
     rw [if_pos (dupP_yes hil hd)]
     repeat' (first
      |with_reducible (first|refine q_and ?_ ?_|exact True.intro|exact TkEq.nil _|refine Red.o (by constructor) ?_|refine blockK_o' rfl ?_|refine LoopX_e' rfl ?_|assumption)
      |((with_reducible apply q_CI);intro hbq;(try simp only [bq,and_true,true_and,and_false,false_and,or_true,true_or,or_false,false_or,not_true_eq_false,not_false_eq_true,Bool.true_eq_false,Bool.false_eq_true,hg2] at hbq);(try (exfalso;omega)))
      |((with_reducible apply q_cond);refine X_cond rfl ?_ ?_;all_goals (intro hbq;(try simp only [bq,and_true,true_and,and_false,false_and,or_true,true_or,or_false,false_or,not_true_eq_false,not_false_eq_true,Bool.true_eq_false,Bool.false_eq_true,hg2] at hbq);(try (exfalso;omega))))
      |((with_reducible apply q_CI);intro hbq;(try simp only [bq] at hbq);(try (exfalso;omega)))
      |with_reducible (first|refine W_seq ?_|refine W_block ?_)
      |((with_reducible apply q_cond);refine X_cond rfl ?_ ?_;all_goals (intro hbq;(try simp only [bq] at hbq);(try (exfalso;omega))))
      |refine Rex.o (by (with_reducible constructor);apply Eq.refl) ?_
      |(intro (hgq : (_ : Bool) = true);(try simp only [bq] at hgq))
      |(intro (hgq : (_ : Bool) = false);(try simp only [bq] at hgq))
      |((with_reducible apply q_VOk);exact fun _ => ⟨rfl,rfl⟩)|(intro _;exact rfl)|((with_reducible apply q_CRB);kernel_rfl)|((with_reducible apply q_bt);simp only [bq])|((with_reducible apply q_eqN);rfl)|((with_reducible apply q_FE);exact rfl)|with_reducible (first|exact isByte_wrap _|exact isByte_nat _)|(simp only [hgq,bq];done)|omega|(dsimp only;omega))
     ·rfl
    ·have hs : seenP L st i (ptI L st i).toNat = false := by simpa using hs
     rw [hs] at hg2 hd
     repeat' (first
      |with_reducible (first|refine q_and ?_ ?_|exact True.intro|exact TkEq.nil _|refine Red.o (by constructor) ?_|refine blockK_o' rfl ?_|refine LoopX_e' rfl ?_|assumption)
      |((with_reducible apply q_CI);intro hbq;(try simp only [bq,and_true,true_and,and_false,false_and,or_true,true_or,or_false,false_or,not_true_eq_false,not_false_eq_true,Bool.true_eq_false,Bool.false_eq_true,hg2] at hbq);(try (exfalso;omega)))
      |((with_reducible apply q_cond);refine X_cond rfl ?_ ?_;all_goals (intro hbq;(try simp only [bq,and_true,true_and,and_false,false_and,or_true,true_or,or_false,false_or,not_true_eq_false,not_false_eq_true,Bool.true_eq_false,Bool.false_eq_true,hg2] at hbq);(try (exfalso;omega))))
      |((with_reducible apply q_CI);intro hbq;(try simp only [bq] at hbq);(try (exfalso;omega)))
      |with_reducible (first|refine W_seq ?_|refine W_block ?_)
      |((with_reducible apply q_cond);refine X_cond rfl ?_ ?_;all_goals (intro hbq;(try simp only [bq] at hbq);(try (exfalso;omega))))
      |refine Rex.o (by (with_reducible constructor);apply Eq.refl) ?_
      |(intro (hgq : (_ : Bool) = true);(try simp only [bq] at hgq))
      |(intro (hgq : (_ : Bool) = false);(try simp only [bq] at hgq))
      |((with_reducible apply q_VOk);exact fun _ => ⟨rfl,rfl⟩)|(intro _;exact rfl)|((with_reducible apply q_CRB);kernel_rfl)|((with_reducible apply q_bt);simp only [bq])|((with_reducible apply q_eqN);rfl)|((with_reducible apply q_FE);exact rfl)|with_reducible (first|exact isByte_wrap _|exact isByte_nat _)|(simp only [hgq,bq];done)|omega|(dsimp only;omega))
     ·rfl
     ·
      refine LoopK_n (i + 1) ?_ (⟨by omega, upto_succ hno hd⟩) (by (try dsimp only); omega)
      refine X_weak rfl rfl rfl ?_ ?_ <;> repeat' (first|with_reducible (first|refine Wk.o (by constructor) ?_|refine q_and ?_ ?_|exact True.intro)|refine q_AgS rfl ?_ ?_|exact CLe.nil_tipS|exact CLe.nil_rowS|refine HLe.cells ?_ ?_|refine HLe.els ?_ ?_|refine SLe.cons ?_ ?_|exact (rfl : known _ = _)|with_reducible rfl|omega)
      all_goals (
       rw [hg]
       refine rowT_set (i := (ptI L st i).toNat) ?_ fun p hp hne => ?_
       ·rw [seenP_succ, decide_eq_true (show ptI L st i = ((ptI L st i).toNat : Int) by omega), Bool.or_true]
       ·rw [seenP_succ, decide_eq_false (show ¬ ptI L st i = (p : Int) by omega), Bool.or_false])
   ·
    have hd : dupPA L st i = false := by unfold dupPA; rw [decide_eq_false h0, Bool.false_and]
    repeat' (first
     |with_reducible (first|refine q_and ?_ ?_|exact True.intro|exact TkEq.nil _|refine Red.o (by constructor) ?_|refine blockK_o' rfl ?_|refine LoopX_e' rfl ?_|assumption)
     |((with_reducible apply q_CI);intro hbq;(try simp only [bq] at hbq);(try (exfalso;omega)))
     |with_reducible (first|refine W_seq ?_|refine W_block ?_)
     |((with_reducible apply q_cond);refine X_cond rfl ?_ ?_;all_goals (intro hbq;(try simp only [bq] at hbq);(try (exfalso;omega))))
     |refine Rex.o (by (with_reducible constructor);apply Eq.refl) ?_
     |(intro (hgq : (_ : Bool) = true);(try simp only [bq] at hgq))
     |(intro (hgq : (_ : Bool) = false);(try simp only [bq] at hgq))
     |((with_reducible apply q_VOk);exact fun _ => ⟨rfl,rfl⟩)|(intro _;exact rfl)|((with_reducible apply q_CRB);kernel_rfl)|((with_reducible apply q_bt);simp only [bq])|((with_reducible apply q_eqN);rfl)|((with_reducible apply q_FE);exact rfl)|with_reducible (first|exact isByte_wrap _|exact isByte_nat _)|(simp only [hgq,bq];done)|omega|(dsimp only;omega))
    ·
     refine LoopK_n (i + 1) ?_ (⟨by omega, upto_succ hno hd⟩) (by (try dsimp only); omega)
     refine X_weak rfl rfl rfl ?_ ?_ <;> repeat' (first|with_reducible (first|refine Wk.o (by constructor) ?_|refine q_and ?_ ?_|exact True.intro)|refine q_AgS rfl ?_ ?_|exact CLe.nil_tipS|exact CLe.nil_rowS|refine HLe.cells ?_ ?_|refine HLe.els ?_ ?_|refine SLe.cons ?_ ?_|exact (rfl : known _ = _)|with_reducible rfl|omega)
     all_goals (
      refine rowT_ext fun p hp => ?_
      rw [seenP_succ, decide_eq_false (show ¬ ptI L st i = (p : Int) by omega), Bool.or_false])
  ·have hie : i = st.length := by omega
   subst hie
   rw [dupP_no hno, if_neg (by decide)]
   repeat' (first
    |with_reducible (first|refine q_and ?_ ?_|exact True.intro|exact TkEq.nil _|refine Red.o (by constructor) ?_|refine blockK_o' rfl ?_|refine LoopX_e' rfl ?_|assumption)
    |((with_reducible apply q_CI);intro hbq;(try simp only [bq] at hbq);(try (exfalso;omega)))
    |with_reducible (first|refine W_seq ?_|refine W_block ?_)
    |((with_reducible apply q_cond);refine X_cond rfl ?_ ?_;all_goals (intro hbq;(try simp only [bq] at hbq);(try (exfalso;omega))))
    |refine Rex.o (by (with_reducible constructor);apply Eq.refl) ?_
    |(intro (hgq : (_ : Bool) = true);(try simp only [bq] at hgq))
    |(intro (hgq : (_ : Bool) = false);(try simp only [bq] at hgq))
    |((with_reducible apply q_VOk);exact fun _ => ⟨rfl,rfl⟩)|(intro _;exact rfl)|((with_reducible apply q_CRB);kernel_rfl)|((with_reducible apply q_bt);simp only [bq])|((with_reducible apply q_eqN);rfl)|((with_reducible apply q_FE);exact rfl)|with_reducible (first|exact isByte_wrap _|exact isByte_nat _)|(simp only [hgq,bq];done)|omega|(dsimp only;omega))
   all_goals rfl
 ·rw [if_pos h]
  unfold vLay at hF ⊢
  refine X_fn mixedX Try.func14 rfl (by kernel_rfl) (Nat.le_of_ble_eq_true (by kernel_rfl)) (by kernel_rfl) rfl rfl (Nat.le_of_ble_eq_true rfl) rfl rfl ?_
  simp only [sl0, Nat.zero_add, Nat.reduceAdd]
  repeat' (first
   |with_reducible (first|refine q_and ?_ ?_|exact True.intro|exact TkEq.nil _|refine Red.o (by constructor) ?_|refine blockK_o' rfl ?_|refine LoopX_e' rfl ?_|assumption)
   |((with_reducible apply q_call);refine X_pure (hF) rfl ?_)
   |((with_reducible apply q_CI);intro hbq;(try simp only [bq] at hbq);(try (exfalso;omega)))
   |with_reducible (first|refine W_seq ?_|refine W_block ?_)
   |((with_reducible apply q_cond);refine X_cond rfl ?_ ?_;all_goals (intro hbq;(try simp only [bq] at hbq);(try (exfalso;omega))))
   |refine Rex.o (by (with_reducible constructor);apply Eq.refl) ?_
   |(intro (hgq : (_ : Bool) = true);(try simp only [bq] at hgq))
   |(intro (hgq : (_ : Bool) = false);(try simp only [bq] at hgq))
   |((with_reducible apply q_VOk);exact fun _ => ⟨rfl,rfl⟩)|(intro _;exact rfl)|((with_reducible apply q_CRB);kernel_rfl)|((with_reducible apply q_bt);simp only [bq])|((with_reducible apply q_eqN);rfl)|((with_reducible apply q_FE);exact rfl)|with_reducible (first|exact isByte_wrap _|exact isByte_nat _)|(simp only [hgq,bq];done)|omega|(dsimp only;omega))
  all_goals rfl
abbrev lPro7 (a b : Int) (x y z : List Int) (o n : Int) : List SC := [xI a, xI b, rInt x, rInt y, rInt z, xI o, xI n]
def lPro (L : Lay) (r : Rte) (l sp ac br : Int) (a b : Nat) : List SC := lPro7 a b (row (b - a) (needF L r l sp ac br)) (row (b - a) (passF L r l sp ac br)) (row (b - a) (clrF L r l sp ac br)) (ovlF L r l sp ac br (b - a)) (runI L r l sp ac br)
abbrev lPro0 : List SC := lPro7 0 0 [] [] [] 0 0
def partdrop (st : List Stp) (a b : Nat) : List Stp := st.drop (a : Int).toNat
def parttake (st : List Stp) (a b : Nat) : List Stp := (st.drop (a : Int).toNat).take ((b : Int) + 1 - a).toNat
theorem profile_ok (L : Lay) (hL : LayFits L) (st : List Stp) (ov : Int) (nm : ByteArray) (l sp ac br : Int) (h : fitErr L ⟨st, ov⟩ l sp ac br = 0) (a b : Nat) (hab : a < b) (hb : (b : Int) ≤ st.length - ov - 1) : OkV Try.prog 16 [vLay L, vR2 st ov, vS5 nm l sp ac br, .c (xI a), .c (xI b)] [] (.agg (lPro L (partR st ov a b) l sp ac br a b)) [] := by
 have hR := rte_of (cel_rte (fit_of h).1)
 have g1 := hR.ov0
 have g2 := hR.ov
 have g3 := hR.len
 simp only at g1 g2 g3
 have hf := partR_fit h hab hb
 have hpl := partR_len h hab hb
 have hla := mLast_ok st ov (by omega) (by omega)
 have hps : (partR st ov a b).st.length ≤ 24 := by unfold partR; split <;> simp only [List.length_take, List.length_drop] <;> omega
 clear hR
 unfold lPro ovlF
 by_cases e : (b : Int) = st.length - ov - 1
 ·have hpe : partR st ov a b = ⟨partdrop st a b, ov⟩ := by
   unfold partR
   first
    | (rw [if_pos e]; rfl)
    | (rw [if_neg e]; unfold parttake; rw [Int.toNat_natCast, show ((b : Int) + 1 - a).toNat = b + 1 - a by omega])
  rw [hpe] at hf hpl hps ⊢
  simp only at hps
  have hT := btimes_ok L hL (partdrop st a b) ov (by omega) (by omega) nm l sp ac br hf
  have hRd := ride_of hf
  have hE1 := row_len (trv ⟨partdrop st a b, ov⟩).length fun k => rideT L ⟨partdrop st a b, ov⟩ l sp ac br (endA L (trv ⟨partdrop st a b, ov⟩) (k - 1))
  have hL1 := row_len (trv ⟨partdrop st a b, ov⟩).length (levF L ⟨partdrop st a b, ov⟩ l sp ac br)
  change (entL L ⟨partdrop st a b, ov⟩ l sp ac br (trv ⟨partdrop st a b, ov⟩).length).length = _ at hE1
  change (levL L ⟨partdrop st a b, ov⟩ l sp ac br (trv ⟨partdrop st a b, ov⟩).length).length = _ at hL1
  have hE2 : ∀ k, k < b - a + 1 → (entL L ⟨partdrop st a b, ov⟩ l sp ac br (trv ⟨partdrop st a b, ov⟩).length).getD k 0 = entF L ⟨partdrop st a b, ov⟩ l sp ac br k ∧ 0 ≤ entF L ⟨partdrop st a b, ov⟩ l sp ac br k ∧ entF L ⟨partdrop st a b, ov⟩ l sp ac br k ≤ 80000000 := fun k hk => ⟨row_get (by omega), (prof_rng hRd (by omega)).1, (prof_rng hRd (by omega)).2.1⟩
  have hL2 : ∀ k, k < b - a + 1 → (levL L ⟨partdrop st a b, ov⟩ l sp ac br (trv ⟨partdrop st a b, ov⟩).length).getD k 0 = levF L ⟨partdrop st a b, ov⟩ l sp ac br k ∧ 0 ≤ levF L ⟨partdrop st a b, ov⟩ l sp ac br k ∧ levF L ⟨partdrop st a b, ov⟩ l sp ac br k ≤ 80000000 := fun k hk => ⟨row_get (by omega), (prof_rng hRd (by omega)).2.2⟩
  have hN : ∀ k, k < b - a + 1 → needF L ⟨partdrop st a b, ov⟩ l sp ac br k = (entF L ⟨partdrop st a b, ov⟩ l sp ac br k) / 1000 - 16 := fun k hk => rfl
  have hPa : ∀ k, passF L ⟨partdrop st a b, ov⟩ l sp ac br k = (entF L ⟨partdrop st a b, ov⟩ l sp ac br (k + 1)) / 1000 := fun k => rfl
  have hCl : ∀ k, clrF L ⟨partdrop st a b, ov⟩ l sp ac br k = (levF L ⟨partdrop st a b, ov⟩ l sp ac br k + 999) / 1000 + 4 := fun k => rfl
  clear hRd hf
  generalize needF L ⟨partdrop st a b, ov⟩ l sp ac br = F1 at *
  generalize passF L ⟨partdrop st a b, ov⟩ l sp ac br = F2 at *
  generalize clrF L ⟨partdrop st a b, ov⟩ l sp ac br = F3 at *
  generalize entF L ⟨partdrop st a b, ov⟩ l sp ac br = E1 at *
  generalize levF L ⟨partdrop st a b, ov⟩ l sp ac br = E2 at *
  generalize entL L ⟨partdrop st a b, ov⟩ l sp ac br (trv ⟨partdrop st a b, ov⟩).length = es at *
  generalize levL L ⟨partdrop st a b, ov⟩ l sp ac br (trv ⟨partdrop st a b, ov⟩).length = lv at *
  generalize runI L ⟨partdrop st a b, ov⟩ l sp ac br = run at *
  have hE1 : es.length = b - a + 1 := hE1.trans hpl
  have hL1 : lv.length = b - a + 1 := hL1.trans hpl
  clear hpl hpe
  unfold partdrop at hps hT
  unfold vLay at hT ⊢
  refine X_fnP mixedX Try.func16 rfl (by kernel_rfl) (Nat.le_of_ble_eq_true (by kernel_rfl)) (by kernel_rfl) rfl rfl ?_
  simp only [sl0, Nat.zero_add, Nat.reduceAdd]
  repeat' (first
   |with_reducible (first|refine q_and ?_ ?_|exact True.intro|exact TkEq.nil _|refine Red.o (by constructor) ?_|refine blockK_o' rfl ?_|refine LoopX_e' rfl ?_|assumption)
   |((with_reducible apply q_call);first|refine X_pure (hla) rfl ?_|refine X_pure (hT) rfl ?_)
   |((with_reducible apply q_CI);intro hbq;(try simp only [bq] at hbq);(try (exfalso;omega)))
   |with_reducible (first|refine W_seq ?_|refine W_block ?_)
   |((with_reducible apply q_cond);refine X_cond rfl ?_ ?_;all_goals (intro hbq;(try simp only [bq] at hbq);(try (exfalso;omega))))
   |refine Rex.o (by (with_reducible constructor);apply Eq.refl) ?_
   |(intro (hgq : (_ : Bool) = true);(try simp only [bq] at hgq))
   |(intro (hgq : (_ : Bool) = false);(try simp only [bq] at hgq))
   |((with_reducible apply q_VOk);exact fun _ => ⟨rfl,rfl⟩)|(intro _;exact rfl)|((with_reducible apply q_CRB);kernel_rfl)|((with_reducible apply q_bt);simp only [bq])|((with_reducible apply q_eqN);rfl)|((with_reducible apply q_FE);exact rfl)|with_reducible (first|exact isByte_wrap _|exact isByte_nat _)|(simp only [hgq,bq];done)|omega|(dsimp only;omega))
  clear hT hla
  refine W_loopS (fun k : Nat => SS [sC 10 (pB 3), sC 11 (pB 4), sC 12 (rInt es), sC 13 (rInt lv), sC 16 (pB 5), sI 17 ((b : Int) - a), sI 55 ((b : Int) - a), sI 56 k] [none, none, none, some (.cells [xI 0, xI 0, .c (.f .nils), .c (.f .nils), .c (.f .nils), xI 0, xI 0]), bRte (partdrop st a b) ov, some (.cells [xI a, xI b, tInt (row k F1), tInt (row k F2), tInt (row k F3), xI 0, xI run])]) (fun k => k ≤ b - a) (fun k => b - a - k) 0 ?_ (by omega) ?_
  ·
   refine X_weak rfl rfl rfl ?_ ?_ <;> repeat' (first|with_reducible (first|refine Wk.o (by constructor) ?_|refine q_and ?_ ?_|exact True.intro)|refine q_AgS rfl ?_ ?_|exact CLe.nil_tipS|exact CLe.nil_rowS|refine HLe.cells ?_ ?_|refine HLe.els ?_ ?_|refine SLe.cons ?_ ?_|exact (rfl : known _ = _)|with_reducible rfl|omega)
   all_goals rfl
  intro k hk
  have q1 := row_len k F1
  have q2 := row_len k F2
  have q3 := row_len k F3
  have m1 : es.getD (k : Int).toNat 0 = E1 k := (hE2 k (by omega)).1
  have m2 := (hE2 k (by omega)).2
  have n1 : lv.getD (k : Int).toNat 0 = E2 k := (hL2 k (by omega)).1
  have n2 := (hL2 k (by omega)).2
  by_cases hkn : k < b - a
  ·have m3 : es.getD ((k : Int) + 1).toNat 0 = E1 (k + 1) := (hE2 (k + 1) (by omega)).1
   have m4 := (hE2 (k + 1) (by omega)).2
   repeat' (first
    |with_reducible (first|refine q_and ?_ ?_|exact True.intro|exact TkEq.nil _|refine Red.o (by constructor) ?_|refine blockK_o' rfl ?_|refine LoopX_e' rfl ?_|assumption)
    |((with_reducible apply q_CI);intro hbq;(try simp only [bq] at hbq);(try (exfalso;omega)))
    |with_reducible (first|refine W_seq ?_|refine W_block ?_)
    |((with_reducible apply q_cond);refine X_cond rfl ?_ ?_;all_goals (intro hbq;(try simp only [bq] at hbq);(try (exfalso;omega))))
    |refine Rex.o (by (with_reducible constructor);apply Eq.refl) ?_
    |(intro (hgq : (_ : Bool) = true);(try simp only [bq] at hgq))
    |(intro (hgq : (_ : Bool) = false);(try simp only [bq] at hgq))
    |((with_reducible apply q_VOk);exact fun _ => ⟨rfl,rfl⟩)|(intro _;exact rfl)|((with_reducible apply q_CRB);kernel_rfl)|((with_reducible apply q_bt);simp only [bq])|((with_reducible apply q_eqN);rfl)|((with_reducible apply q_FE);exact rfl)|with_reducible (first|exact isByte_wrap _|exact isByte_nat _)|(simp only [hgq,bq];done)|omega|(dsimp only;omega))
   ·
    refine LoopK_n (k + 1) ?_ ((by omega)) (by (try dsimp only); omega)
    refine X_weak rfl rfl rfl ?_ ?_ <;> repeat' (first|with_reducible (first|refine Wk.o (by constructor) ?_|refine q_and ?_ ?_|exact True.intro)|refine q_AgS rfl ?_ ?_|exact CLe.nil_tipS|exact CLe.nil_rowS|refine HLe.cells ?_ ?_|refine HLe.els ?_ ?_|refine SLe.cons ?_ ?_|exact (rfl : known _ = _)|with_reducible rfl|omega)
    ·rw [row_snoc k F1, hN k (by omega), m1]; simp [fInt, fI]
    ·rw [row_len, row_len]
    ·rw [row_snoc k F2, hPa k, m3]; simp [fInt, fI]
    ·rw [row_len, row_len]
    ·rw [row_snoc k F3, hCl k, n1]; simp [fInt, fI]
    ·rw [row_len, row_len]
  ·have hke : k = b - a := by omega
   subst hke
   have e3 : es.getD ((b : Int) - a).toNat 0 = E1 (b - a) := by rw [← m1]; congr 1; omega
   repeat' (first
    |with_reducible (first|refine q_and ?_ ?_|exact True.intro|exact TkEq.nil _|refine Red.o (by constructor) ?_|refine blockK_o' rfl ?_|refine LoopX_e' rfl ?_|assumption)
    |((with_reducible apply q_CI);intro hbq;(try simp only [bq] at hbq);(try (exfalso;omega)))
    |with_reducible (first|refine W_seq ?_|refine W_block ?_)
    |((with_reducible apply q_cond);refine X_cond rfl ?_ ?_;all_goals (intro hbq;(try simp only [bq] at hbq);(try (exfalso;omega))))
    |refine Rex.o (by (with_reducible constructor);apply Eq.refl) ?_
    |(intro (hgq : (_ : Bool) = true);(try simp only [bq] at hgq))
    |(intro (hgq : (_ : Bool) = false);(try simp only [bq] at hgq))
    |((with_reducible apply q_VOk);exact fun _ => ⟨rfl,rfl⟩)|(intro _;exact rfl)|((with_reducible apply q_CRB);kernel_rfl)|((with_reducible apply q_bt);simp only [bq])|((with_reducible apply q_eqN);rfl)|((with_reducible apply q_FE);exact rfl)|with_reducible (first|exact isByte_wrap _|exact isByte_nat _)|(simp only [hgq,bq];done)|omega|(dsimp only;omega))
   all_goals first
    | (rw [e3]; omega)
    | (rw [e3, if_pos hbq]; rfl)
    | (rw [if_neg (by first | exact hbq | simp)]; rfl)
 ·have hpe : partR st ov a b = ⟨parttake st a b, 0⟩ := by
   unfold partR
   first
    | (rw [if_pos e]; rfl)
    | (rw [if_neg e]; unfold parttake; rw [Int.toNat_natCast, show ((b : Int) + 1 - a).toNat = b + 1 - a by omega])
  rw [hpe] at hf hpl hps ⊢
  simp only at hps
  have hT := btimes_ok L hL (parttake st a b) 0 (by omega) (by omega) nm l sp ac br hf
  have hRd := ride_of hf
  have hE1 := row_len (trv ⟨parttake st a b, 0⟩).length fun k => rideT L ⟨parttake st a b, 0⟩ l sp ac br (endA L (trv ⟨parttake st a b, 0⟩) (k - 1))
  have hL1 := row_len (trv ⟨parttake st a b, 0⟩).length (levF L ⟨parttake st a b, 0⟩ l sp ac br)
  change (entL L ⟨parttake st a b, 0⟩ l sp ac br (trv ⟨parttake st a b, 0⟩).length).length = _ at hE1
  change (levL L ⟨parttake st a b, 0⟩ l sp ac br (trv ⟨parttake st a b, 0⟩).length).length = _ at hL1
  have hE2 : ∀ k, k < b - a + 1 → (entL L ⟨parttake st a b, 0⟩ l sp ac br (trv ⟨parttake st a b, 0⟩).length).getD k 0 = entF L ⟨parttake st a b, 0⟩ l sp ac br k ∧ 0 ≤ entF L ⟨parttake st a b, 0⟩ l sp ac br k ∧ entF L ⟨parttake st a b, 0⟩ l sp ac br k ≤ 80000000 := fun k hk => ⟨row_get (by omega), (prof_rng hRd (by omega)).1, (prof_rng hRd (by omega)).2.1⟩
  have hL2 : ∀ k, k < b - a + 1 → (levL L ⟨parttake st a b, 0⟩ l sp ac br (trv ⟨parttake st a b, 0⟩).length).getD k 0 = levF L ⟨parttake st a b, 0⟩ l sp ac br k ∧ 0 ≤ levF L ⟨parttake st a b, 0⟩ l sp ac br k ∧ levF L ⟨parttake st a b, 0⟩ l sp ac br k ≤ 80000000 := fun k hk => ⟨row_get (by omega), (prof_rng hRd (by omega)).2.2⟩
  have hN : ∀ k, k < b - a + 1 → needF L ⟨parttake st a b, 0⟩ l sp ac br k = (entF L ⟨parttake st a b, 0⟩ l sp ac br k) / 1000 - 16 := fun k hk => rfl
  have hPa : ∀ k, passF L ⟨parttake st a b, 0⟩ l sp ac br k = (entF L ⟨parttake st a b, 0⟩ l sp ac br (k + 1)) / 1000 := fun k => rfl
  have hCl : ∀ k, clrF L ⟨parttake st a b, 0⟩ l sp ac br k = (levF L ⟨parttake st a b, 0⟩ l sp ac br k + 999) / 1000 + 4 := fun k => rfl
  clear hRd hf
  generalize needF L ⟨parttake st a b, 0⟩ l sp ac br = F1 at *
  generalize passF L ⟨parttake st a b, 0⟩ l sp ac br = F2 at *
  generalize clrF L ⟨parttake st a b, 0⟩ l sp ac br = F3 at *
  generalize entF L ⟨parttake st a b, 0⟩ l sp ac br = E1 at *
  generalize levF L ⟨parttake st a b, 0⟩ l sp ac br = E2 at *
  generalize entL L ⟨parttake st a b, 0⟩ l sp ac br (trv ⟨parttake st a b, 0⟩).length = es at *
  generalize levL L ⟨parttake st a b, 0⟩ l sp ac br (trv ⟨parttake st a b, 0⟩).length = lv at *
  generalize runI L ⟨parttake st a b, 0⟩ l sp ac br = run at *
  have hE1 : es.length = b - a + 1 := hE1.trans hpl
  have hL1 : lv.length = b - a + 1 := hL1.trans hpl
  clear hpl hpe
  unfold parttake at hps hT
  unfold vLay at hT ⊢
  refine X_fnP mixedX Try.func16 rfl (by kernel_rfl) (Nat.le_of_ble_eq_true (by kernel_rfl)) (by kernel_rfl) rfl rfl ?_
  simp only [sl0, Nat.zero_add, Nat.reduceAdd]
  repeat' (first
   |with_reducible (first|refine q_and ?_ ?_|exact True.intro|exact TkEq.nil _|refine Red.o (by constructor) ?_|refine blockK_o' rfl ?_|refine LoopX_e' rfl ?_|assumption)
   |((with_reducible apply q_call);first|refine X_pure (hla) rfl ?_|refine X_pure (hT) rfl ?_)
   |((with_reducible apply q_CI);intro hbq;(try simp only [bq] at hbq);(try (exfalso;omega)))
   |with_reducible (first|refine W_seq ?_|refine W_block ?_)
   |((with_reducible apply q_cond);refine X_cond rfl ?_ ?_;all_goals (intro hbq;(try simp only [bq] at hbq);(try (exfalso;omega))))
   |refine Rex.o (by (with_reducible constructor);apply Eq.refl) ?_
   |(intro (hgq : (_ : Bool) = true);(try simp only [bq] at hgq))
   |(intro (hgq : (_ : Bool) = false);(try simp only [bq] at hgq))
   |((with_reducible apply q_VOk);exact fun _ => ⟨rfl,rfl⟩)|(intro _;exact rfl)|((with_reducible apply q_CRB);kernel_rfl)|((with_reducible apply q_bt);simp only [bq])|((with_reducible apply q_eqN);rfl)|((with_reducible apply q_FE);exact rfl)|with_reducible (first|exact isByte_wrap _|exact isByte_nat _)|(simp only [hgq,bq];done)|omega|(dsimp only;omega))
  clear hT hla
  refine W_loopS (fun k : Nat => SS [sC 10 (pB 3), sC 11 (pB 4), sC 12 (rInt es), sC 13 (rInt lv), sC 16 (pB 5), sI 17 ((b : Int) - a), sI 55 ((b : Int) - a), sI 56 k] [none, none, none, some (.cells [xI 0, xI 0, .c (.f .nils), .c (.f .nils), .c (.f .nils), xI 0, xI 0]), bRte (parttake st a b) 0, some (.cells [xI a, xI b, tInt (row k F1), tInt (row k F2), tInt (row k F3), xI 0, xI run])]) (fun k => k ≤ b - a) (fun k => b - a - k) 0 ?_ (by omega) ?_
  ·
   refine X_weak rfl rfl rfl ?_ ?_ <;> repeat' (first|with_reducible (first|refine Wk.o (by constructor) ?_|refine q_and ?_ ?_|exact True.intro)|refine q_AgS rfl ?_ ?_|exact CLe.nil_tipS|exact CLe.nil_rowS|refine HLe.cells ?_ ?_|refine HLe.els ?_ ?_|refine SLe.cons ?_ ?_|exact (rfl : known _ = _)|with_reducible rfl|omega)
   all_goals rfl
  intro k hk
  have q1 := row_len k F1
  have q2 := row_len k F2
  have q3 := row_len k F3
  have m1 : es.getD (k : Int).toNat 0 = E1 k := (hE2 k (by omega)).1
  have m2 := (hE2 k (by omega)).2
  have n1 : lv.getD (k : Int).toNat 0 = E2 k := (hL2 k (by omega)).1
  have n2 := (hL2 k (by omega)).2
  by_cases hkn : k < b - a
  ·have m3 : es.getD ((k : Int) + 1).toNat 0 = E1 (k + 1) := (hE2 (k + 1) (by omega)).1
   have m4 := (hE2 (k + 1) (by omega)).2
   repeat' (first
    |with_reducible (first|refine q_and ?_ ?_|exact True.intro|exact TkEq.nil _|refine Red.o (by constructor) ?_|refine blockK_o' rfl ?_|refine LoopX_e' rfl ?_|assumption)
    |((with_reducible apply q_CI);intro hbq;(try simp only [bq] at hbq);(try (exfalso;omega)))
    |with_reducible (first|refine W_seq ?_|refine W_block ?_)
    |((with_reducible apply q_cond);refine X_cond rfl ?_ ?_;all_goals (intro hbq;(try simp only [bq] at hbq);(try (exfalso;omega))))
    |refine Rex.o (by (with_reducible constructor);apply Eq.refl) ?_
    |(intro (hgq : (_ : Bool) = true);(try simp only [bq] at hgq))
    |(intro (hgq : (_ : Bool) = false);(try simp only [bq] at hgq))
    |((with_reducible apply q_VOk);exact fun _ => ⟨rfl,rfl⟩)|(intro _;exact rfl)|((with_reducible apply q_CRB);kernel_rfl)|((with_reducible apply q_bt);simp only [bq])|((with_reducible apply q_eqN);rfl)|((with_reducible apply q_FE);exact rfl)|with_reducible (first|exact isByte_wrap _|exact isByte_nat _)|(simp only [hgq,bq];done)|omega|(dsimp only;omega))
   ·
    refine LoopK_n (k + 1) ?_ ((by omega)) (by (try dsimp only); omega)
    refine X_weak rfl rfl rfl ?_ ?_ <;> repeat' (first|with_reducible (first|refine Wk.o (by constructor) ?_|refine q_and ?_ ?_|exact True.intro)|refine q_AgS rfl ?_ ?_|exact CLe.nil_tipS|exact CLe.nil_rowS|refine HLe.cells ?_ ?_|refine HLe.els ?_ ?_|refine SLe.cons ?_ ?_|exact (rfl : known _ = _)|with_reducible rfl|omega)
    ·rw [row_snoc k F1, hN k (by omega), m1]; simp [fInt, fI]
    ·rw [row_len, row_len]
    ·rw [row_snoc k F2, hPa k, m3]; simp [fInt, fI]
    ·rw [row_len, row_len]
    ·rw [row_snoc k F3, hCl k, n1]; simp [fInt, fI]
    ·rw [row_len, row_len]
  ·have hke : k = b - a := by omega
   subst hke
   have e3 : es.getD ((b : Int) - a).toNat 0 = E1 (b - a) := by rw [← m1]; congr 1; omega
   repeat' (first
    |with_reducible (first|refine q_and ?_ ?_|exact True.intro|exact TkEq.nil _|refine Red.o (by constructor) ?_|refine blockK_o' rfl ?_|refine LoopX_e' rfl ?_|assumption)
    |((with_reducible apply q_CI);intro hbq;(try simp only [bq] at hbq);(try (exfalso;omega)))
    |with_reducible (first|refine W_seq ?_|refine W_block ?_)
    |((with_reducible apply q_cond);refine X_cond rfl ?_ ?_;all_goals (intro hbq;(try simp only [bq] at hbq);(try (exfalso;omega))))
    |refine Rex.o (by (with_reducible constructor);apply Eq.refl) ?_
    |(intro (hgq : (_ : Bool) = true);(try simp only [bq] at hgq))
    |(intro (hgq : (_ : Bool) = false);(try simp only [bq] at hgq))
    |((with_reducible apply q_VOk);exact fun _ => ⟨rfl,rfl⟩)|(intro _;exact rfl)|((with_reducible apply q_CRB);kernel_rfl)|((with_reducible apply q_bt);simp only [bq])|((with_reducible apply q_eqN);rfl)|((with_reducible apply q_FE);exact rfl)|with_reducible (first|exact isByte_wrap _|exact isByte_nat _)|(simp only [hgq,bq];done)|omega|(dsimp only;omega))
   all_goals first
    | (rw [e3]; omega)
    | (rw [e3, if_pos hbq]; rfl)
    | (rw [if_neg (by first | exact hbq | simp)]; rfl)
theorem mot_of {L : Lay} {r : Rte} {l sp ac br : Int} (h : motErr L r l sp ac br = 0) : fitErr L r l sp ac br = 0 ∧ dupP L r.st = false := by
 unfold motErr at h
 by_cases h1 : fitErr L r l sp ac br = 0
 ·refine ⟨h1, ?_⟩
  rw [if_neg (by simpa using h1)] at h
  cases e : dupP L r.st with
  | false => rfl
  | true => rw [e] at h; cases h
 ·rw [if_pos h1] at h; exact absurd h h1
def makErr (L : Lay) (st : List Stp) (ov l sp ac br a b : Int) : Int := if motErr L ⟨st, ov⟩ l sp ac br ≠ 0 then motErr L ⟨st, ov⟩ l sp ac br else if a < 0 ∨ b ≤ a ∨ (st.length : Int) - ov - 1 < b then 4 else 0
theorem make_bad (L : Lay) (hL : LayFits L) (st : List Stp) (ov : Int) (hl : st.length ≤ 9223372036854775807) (ho : -9223372036854775808 ≤ ov ∧ ov ≤ 9223372036854775807) (nm : ByteArray) (l sp ac br a b : Int) (h : ¬ makErr L st ov l sp ac br a b = 0) : OkV Try.prog 6 [vLay L, vR2 st ov, vS5 nm l sp ac br, .c (xI a), .c (xI b)] [] (.tup [.agg lPro0, .c (xI (makErr L st ov l sp ac br a b))]) [] := by
 have hF := mFits_ok L hL st ov hl ho nm l sp ac br
 unfold makErr at h ⊢
 by_cases hm : motErr L ⟨st, ov⟩ l sp ac br = 0
 ·have hR := rte_of (cel_rte (fit_of (mot_of hm).1).1)
  have g1 := hR.ov0
  have g2 := hR.ov
  have g3 := hR.len
  have g4 := hR.two
  simp only at g1 g2 g3 g4
  have hla := mLast_ok st ov hl (by omega)
  rw [hm] at hF h ⊢
  rw [if_neg (by decide)] at h ⊢
  have hc : a < 0 ∨ b ≤ a ∨ (st.length : Int) - ov - 1 < b := Classical.byContradiction fun hn => h (if_neg hn)
  rw [if_pos hc]
  unfold vLay at hF ⊢
  refine X_fnP mixedX Try.func6 rfl (by kernel_rfl) (Nat.le_of_ble_eq_true (by kernel_rfl)) (by kernel_rfl) rfl rfl ?_
  simp only [sl0, Nat.zero_add, Nat.reduceAdd]
  repeat' (first
   |with_reducible (first|refine q_and ?_ ?_|exact True.intro|exact TkEq.nil _|refine Red.o (by constructor) ?_|refine blockK_o' rfl ?_|refine LoopX_e' rfl ?_|assumption)
   |((with_reducible apply q_call);refine X_pure (hF) rfl ?_)
   |((with_reducible apply q_callG);refine X_pureG ((fun _ => hla)) rfl ?_ ?_)
   |((with_reducible apply q_CI);intro hbq;(try simp only [bq] at hbq);(try (exfalso;omega)))
   |with_reducible (first|refine W_seq ?_|refine W_block ?_)
   |((with_reducible apply q_cond);refine X_cond rfl ?_ ?_;all_goals (intro hbq;(try simp only [bq] at hbq);(try (exfalso;omega))))
   |refine Rex.o (by (with_reducible constructor);apply Eq.refl) ?_
   |(intro (hgq : (_ : Bool) = true);(try simp only [bq] at hgq))
   |(intro (hgq : (_ : Bool) = false);(try simp only [bq] at hgq))
   |((with_reducible apply q_VOk);exact fun _ => ⟨rfl,rfl⟩)|(intro _;exact rfl)|((with_reducible apply q_CRB);kernel_rfl)|((with_reducible apply q_bt);simp only [bq])|((with_reducible apply q_eqN);rfl)|((with_reducible apply q_FE);exact rfl)|with_reducible (first|exact isByte_wrap _|exact isByte_nat _)|(simp only [hgq,bq];done)|omega|(dsimp only;omega))
  all_goals rfl
 ·rw [if_pos hm]
  unfold vLay at hF ⊢
  refine X_fnP mixedX Try.func6 rfl (by kernel_rfl) (Nat.le_of_ble_eq_true (by kernel_rfl)) (by kernel_rfl) rfl rfl ?_
  simp only [sl0, Nat.zero_add, Nat.reduceAdd]
  repeat' (first
   |with_reducible (first|refine q_and ?_ ?_|exact True.intro|exact TkEq.nil _|refine Red.o (by constructor) ?_|refine blockK_o' rfl ?_|refine LoopX_e' rfl ?_|assumption)
   |((with_reducible apply q_call);refine X_pure (hF) rfl ?_)
   |((with_reducible apply q_CI);intro hbq;(try simp only [bq] at hbq);(try (exfalso;omega)))
   |with_reducible (first|refine W_seq ?_|refine W_block ?_)
   |((with_reducible apply q_cond);refine X_cond rfl ?_ ?_;all_goals (intro hbq;(try simp only [bq] at hbq);(try (exfalso;omega))))
   |refine Rex.o (by (with_reducible constructor);apply Eq.refl) ?_
   |(intro (hgq : (_ : Bool) = true);(try simp only [bq] at hgq))
   |(intro (hgq : (_ : Bool) = false);(try simp only [bq] at hgq))
   |((with_reducible apply q_VOk);exact fun _ => ⟨rfl,rfl⟩)|(intro _;exact rfl)|((with_reducible apply q_CRB);kernel_rfl)|((with_reducible apply q_bt);simp only [bq])|((with_reducible apply q_eqN);rfl)|((with_reducible apply q_FE);exact rfl)|with_reducible (first|exact isByte_wrap _|exact isByte_nat _)|(simp only [hgq,bq];done)|omega|(dsimp only;omega))
  all_goals rfl
theorem make_ok (L : Lay) (hL : LayFits L) (st : List Stp) (ov : Int) (hl : st.length ≤ 9223372036854775807) (ho : -9223372036854775808 ≤ ov ∧ ov ≤ 9223372036854775807) (nm : ByteArray) (l sp ac br : Int) (a b : Nat) (h : motErr L ⟨st, ov⟩ l sp ac br = 0) (hab : a < b) (hb : (b : Int) ≤ st.length - ov - 1) : OkV Try.prog 6 [vLay L, vR2 st ov, vS5 nm l sp ac br, .c (xI a), .c (xI b)] [] (.tup [.agg (lPro L (partR st ov a b) l sp ac br a b), .c (xI 0)]) [] := by
 have hF := mFits_ok L hL st ov hl ho nm l sp ac br
 have hf := (mot_of h).1
 have hR := rte_of (cel_rte (fit_of hf).1)
 have g1 := hR.ov0
 have g2 := hR.ov
 have g3 := hR.len
 have g4 := hR.two
 simp only at g1 g2 g3 g4
 have hla := mLast_ok st ov hl (by omega)
 have hP := profile_ok L hL st ov nm l sp ac br hf a b hab hb
 rw [h] at hF
 unfold lPro at hP ⊢
 unfold vLay at hF hP ⊢
 refine X_fnP mixedX Try.func6 rfl (by kernel_rfl) (Nat.le_of_ble_eq_true (by kernel_rfl)) (by kernel_rfl) rfl rfl ?_
 simp only [sl0, Nat.zero_add, Nat.reduceAdd]
 repeat' (first
  |with_reducible (first|refine q_and ?_ ?_|exact True.intro|exact TkEq.nil _|refine Red.o (by constructor) ?_|refine blockK_o' rfl ?_|refine LoopX_e' rfl ?_|assumption)
  |((with_reducible apply q_call);first|refine X_pure (hF) rfl ?_|refine X_pure (hP) rfl ?_)
  |((with_reducible apply q_callG);refine X_pureG ((fun _ => hla)) rfl ?_ ?_)
  |((with_reducible apply q_CI);intro hbq;(try simp only [bq] at hbq);(try (exfalso;omega)))
  |with_reducible (first|refine W_seq ?_|refine W_block ?_)
  |((with_reducible apply q_cond);refine X_cond rfl ?_ ?_;all_goals (intro hbq;(try simp only [bq] at hbq);(try (exfalso;omega))))
  |refine Rex.o (by (with_reducible constructor);apply Eq.refl) ?_
  |(intro (hgq : (_ : Bool) = true);(try simp only [bq] at hgq))
  |(intro (hgq : (_ : Bool) = false);(try simp only [bq] at hgq))
  |((with_reducible apply q_VOk);exact fun _ => ⟨rfl,rfl⟩)|(intro _;exact rfl)|((with_reducible apply q_CRB);kernel_rfl)|((with_reducible apply q_bt);simp only [bq])|((with_reducible apply q_eqN);rfl)|((with_reducible apply q_FE);exact rfl)|with_reducible (first|exact isByte_wrap _|exact isByte_nat _)|(simp only [hgq,bq];done)|omega|(dsimp only;omega))
 all_goals rfl
theorem refused_ok (g : Nat → Int) (m : Nat) (N : Nat → Nat → Int) (a : Nat) (x y z gs : List Int) (o n d : Int) (hgl : gs.length = m + 1) (hg : ∀ i, i < m + 1 → gs.getD i 0 = g i) (hxl : x.length = m - a) (hx : ∀ k, k < m - a → x.getD k 0 = N a k) (hm : m ≤ 100) (ham : a ≤ m) (hb : ∀ k, k ≤ m - a → -100 ≤ N a k ∧ N a k ≤ 100000) (hd : -1000000000 ≤ d ∧ d ≤ 1000000000) : OkV Try.prog 20 [.agg (lPro7 a m x y z o n), .c (rInt gs), .c (xI d)] [] (vI (refI g m N a d (m + 1) (a + 2))) [] := by
 generalize hR : refI g m N a d (m + 1) (a + 2) = R
 refine X_fn mixedX Try.func20 rfl (by kernel_rfl) (Nat.le_of_ble_eq_true (by kernel_rfl)) (by kernel_rfl) rfl rfl (Nat.le_of_ble_eq_true rfl) rfl rfl ?_
 simp only [sl0, Nat.zero_add, Nat.reduceAdd]
 repeat' (first
  |with_reducible (first|refine q_and ?_ ?_|exact True.intro|exact TkEq.nil _|refine Red.o (by constructor) ?_|refine blockK_o' rfl ?_|refine LoopX_e' rfl ?_|assumption)
  |((with_reducible apply q_CI);intro hbq;(try simp only [bq] at hbq);(try (exfalso;omega)))
  |with_reducible (first|refine W_seq ?_|refine W_block ?_)
  |((with_reducible apply q_cond);refine X_cond rfl ?_ ?_;all_goals (intro hbq;(try simp only [bq] at hbq);(try (exfalso;omega))))
  |refine Rex.o (by (with_reducible constructor);apply Eq.refl) ?_
  |(intro (hgq : (_ : Bool) = true);(try simp only [bq] at hgq))
  |(intro (hgq : (_ : Bool) = false);(try simp only [bq] at hgq))
  |((with_reducible apply q_VOk);exact fun _ => ⟨rfl,rfl⟩)|(intro _;exact rfl)|((with_reducible apply q_CRB);kernel_rfl)|((with_reducible apply q_bt);simp only [bq])|((with_reducible apply q_eqN);rfl)|((with_reducible apply q_FE);exact rfl)|with_reducible (first|exact isByte_wrap _|exact isByte_nat _)|(simp only [hgq,bq];done)|omega|(dsimp only;omega))
 refine W_loopS (fun i : Nat => SS [sC 1 (rInt gs), sI 2 d, sC 3 (pB 0), sI 7 i] [some (.cells (lPro7 a m x y z o n))]) (fun i => a + 2 ≤ i ∧ i ≤ m + 2 ∧ ∃ f, m + 1 ≤ i + f ∧ refI g m N a d f i = R) (fun i => m + 2 - i) (a + 2) ?_ ⟨by omega, by omega, m + 1, by omega, hR⟩ ?_
 ·
  refine X_weak rfl rfl rfl ?_ ?_ <;> repeat' (first|with_reducible (first|refine Wk.o (by constructor) ?_|refine q_and ?_ ?_|exact True.intro)|refine q_AgS rfl ?_ ?_|exact CLe.nil_tipS|exact CLe.nil_rowS|refine HLe.cells ?_ ?_|refine HLe.els ?_ ?_|refine SLe.cons ?_ ?_|exact (rfl : known _ = _)|with_reducible rfl|omega)
  all_goals rfl
 rintro i ⟨hi1, hi2, f, hf, hr⟩
 by_cases him : i ≤ m
 ·obtain ⟨f, rfl⟩ : ∃ k, f = k + 1 := ⟨f - 1, by omega⟩
  unfold refI at hr
  rw [if_neg (by omega)] at hr
  have c1 : x.getD ((i : Int) - a - 1).toNat 0 = N a (i - a - 1) := by rw [show ((i : Int) - a - 1).toNat = i - a - 1 by omega]; exact hx _ (by omega)
  have c2 : gs.getD (i : Int).toNat 0 = g i := hg i (by omega)
  have c3 := hb (i - a - 1) (by omega)
  by_cases hc : d + N a (i - a - 1) < g i
  ·rw [if_pos hc] at hr
   subst hr
   repeat' (first
    |with_reducible (first|refine q_and ?_ ?_|exact True.intro|exact TkEq.nil _|refine Red.o (by constructor) ?_|refine blockK_o' rfl ?_|refine LoopX_e' rfl ?_|assumption)
    |((with_reducible apply q_CI);intro hbq;(try simp only [bq] at hbq);(try (exfalso;omega)))
    |with_reducible (first|refine W_seq ?_|refine W_block ?_)
    |((with_reducible apply q_cond);refine X_cond rfl ?_ ?_;all_goals (intro hbq;(try simp only [bq] at hbq);(try (exfalso;omega))))
    |refine Rex.o (by (with_reducible constructor);apply Eq.refl) ?_
    |(intro (hgq : (_ : Bool) = true);(try simp only [bq] at hgq))
    |(intro (hgq : (_ : Bool) = false);(try simp only [bq] at hgq))
    |((with_reducible apply q_VOk);exact fun _ => ⟨rfl,rfl⟩)|(intro _;exact rfl)|((with_reducible apply q_CRB);kernel_rfl)|((with_reducible apply q_bt);simp only [bq])|((with_reducible apply q_eqN);rfl)|((with_reducible apply q_FE);exact rfl)|with_reducible (first|exact isByte_wrap _|exact isByte_nat _)|(simp only [hgq,bq];done)|omega|(dsimp only;omega))
   all_goals rfl
  ·rw [if_neg hc] at hr
   repeat' (first
    |with_reducible (first|refine q_and ?_ ?_|exact True.intro|exact TkEq.nil _|refine Red.o (by constructor) ?_|refine blockK_o' rfl ?_|refine LoopX_e' rfl ?_|assumption)
    |((with_reducible apply q_CI);intro hbq;(try simp only [bq] at hbq);(try (exfalso;omega)))
    |with_reducible (first|refine W_seq ?_|refine W_block ?_)
    |((with_reducible apply q_cond);refine X_cond rfl ?_ ?_;all_goals (intro hbq;(try simp only [bq] at hbq);(try (exfalso;omega))))
    |refine Rex.o (by (with_reducible constructor);apply Eq.refl) ?_
    |(intro (hgq : (_ : Bool) = true);(try simp only [bq] at hgq))
    |(intro (hgq : (_ : Bool) = false);(try simp only [bq] at hgq))
    |((with_reducible apply q_VOk);exact fun _ => ⟨rfl,rfl⟩)|(intro _;exact rfl)|((with_reducible apply q_CRB);kernel_rfl)|((with_reducible apply q_bt);simp only [bq])|((with_reducible apply q_eqN);rfl)|((with_reducible apply q_FE);exact rfl)|with_reducible (first|exact isByte_wrap _|exact isByte_nat _)|(simp only [hgq,bq];done)|omega|(dsimp only;omega))
   ·
    refine LoopK_n (i + 1) ?_ (⟨by omega, by omega, f, by omega, hr⟩) (by (try dsimp only); omega)
    refine X_weak rfl rfl rfl ?_ ?_ <;> repeat' (first|with_reducible (first|refine Wk.o (by constructor) ?_|refine q_and ?_ ?_|exact True.intro)|refine q_AgS rfl ?_ ?_|exact CLe.nil_tipS|exact CLe.nil_rowS|refine HLe.cells ?_ ?_|refine HLe.els ?_ ?_|refine SLe.cons ?_ ?_|exact (rfl : known _ = _)|with_reducible rfl|omega)
 ·have hr0 : R = 0 := by
   rw [← hr]
   cases f with
   | zero => rfl
   | succ f => unfold refI; rw [if_pos (by omega)]
  subst hr0
  repeat' (first
   |with_reducible (first|refine q_and ?_ ?_|exact True.intro|exact TkEq.nil _|refine Red.o (by constructor) ?_|refine blockK_o' rfl ?_|refine LoopX_e' rfl ?_|assumption)
   |((with_reducible apply q_CI);intro hbq;(try simp only [bq] at hbq);(try (exfalso;omega)))
   |with_reducible (first|refine W_seq ?_|refine W_block ?_)
   |((with_reducible apply q_cond);refine X_cond rfl ?_ ?_;all_goals (intro hbq;(try simp only [bq] at hbq);(try (exfalso;omega))))
   |refine Rex.o (by (with_reducible constructor);apply Eq.refl) ?_
   |(intro (hgq : (_ : Bool) = true);(try simp only [bq] at hgq))
   |(intro (hgq : (_ : Bool) = false);(try simp only [bq] at hgq))
   |((with_reducible apply q_VOk);exact fun _ => ⟨rfl,rfl⟩)|(intro _;exact rfl)|((with_reducible apply q_CRB);kernel_rfl)|((with_reducible apply q_bt);simp only [bq])|((with_reducible apply q_eqN);rfl)|((with_reducible apply q_FE);exact rfl)|with_reducible (first|exact isByte_wrap _|exact isByte_nat _)|(simp only [hgq,bq];done)|omega|(dsimp only;omega))
  all_goals rfl
def secB4 (x : Int) : Bool := decide (-4194304 ≤ x) && decide (x ≤ 4194304)
def wlkErr (L : Lay) (st : List Stp) (ov l sp ac br : Int) (gs : List Int) (rd late : Int) : Int := if motErr L ⟨st, ov⟩ l sp ac br ≠ 0 then motErr L ⟨st, ov⟩ l sp ac br else if (gs.length : Int) ≠ st.length - ov then 1 else if (secB4 rd && secB4 late && gs.all secB4) = false then 4 else 0
section
variable (L : Lay) (st : List Stp) (ov l sp ac br : Int)
def lastN : Nat := st.length - ov.toNat - 1
def needN (a k : Nat) : Int := needF L (partR st ov a (lastN st ov)) l sp ac br k
def runN (a b : Nat) : Int := runI L (partR st ov a b) l sp ac br
def ovlN (a : Nat) : Int := ovlF L (partR st ov a (lastN st ov)) l sp ac br (lastN st ov - a)
def walkL (gs : List Int) (rd late : Int) : List Leg := wlk (fun i => gs.getD i 0) (lastN st ov) (needN L st ov l sp ac br) (runN L st ov l sp ac br) (ovlN L st ov l sp ac br) ov late (lastN st ov + 1) 0 rd
end
theorem last_n {L : Lay} {st : List Stp} {ov : Int} (hR : RteOk L ⟨st, ov⟩) : ((lastN st ov : Nat) : Int) = st.length - ov - 1 ∧ 1 ≤ lastN st ov ∧ lastN st ov ≤ 23 := by
 have g1 := hR.ov0
 have g3 := hR.len
 have g4 := hR.two
 simp only at g1 g3 g4
 unfold lastN
 omega
theorem needN_rng {L : Lay} {st : List Stp} {ov l sp ac br : Int} (h : fitErr L ⟨st, ov⟩ l sp ac br = 0) {a : Nat} (ha : a < lastN st ov) {k : Nat} (hk : k ≤ lastN st ov - a) : -16 ≤ needN L st ov l sp ac br a k ∧ needN L st ov l sp ac br a k ≤ 80000 := by
 have hn := last_n (rte_of (cel_rte (fit_of h).1))
 have hf := partR_fit h (a := a) (b := lastN st ov) ha (by omega)
 have hl := partR_len h (a := a) (b := lastN st ov) ha (by omega)
 have := prof_rng (ride_of hf) (k := k) (by omega)
 unfold needN needF
 omega
theorem ovlN_rng {L : Lay} {st : List Stp} {ov l sp ac br : Int} (h : fitErr L ⟨st, ov⟩ l sp ac br = 0) {a : Nat} (ha : a < lastN st ov) : -16 ≤ ovlN L st ov l sp ac br a ∧ ovlN L st ov l sp ac br a ≤ 80000 := by
 have := needN_rng h ha (k := lastN st ov - a) (Nat.le_refl _)
 unfold needN needF at this
 unfold ovlN ovlF
 split <;> omega
theorem runN_rng {L : Lay} {st : List Stp} {ov l sp ac br : Int} (h : fitErr L ⟨st, ov⟩ l sp ac br = 0) {a b : Nat} (hab : a < b) (hb : b ≤ lastN st ov) : 0 < runN L st ov l sp ac br a b ∧ runN L st ov l sp ac br a b ≤ 80001 := by
 have hn := last_n (rte_of (cel_rte (fit_of h).1))
 exact run_rng (ride_of (partR_fit h hab (by omega)))
theorem isSecond_ok (x : Int) : OkV Try.prog 19 [.c (xI x)] [] (vB (secB4 x)) [] := by
 unfold secB4
 refine X_fn mixedX Try.func19 rfl (by kernel_rfl) (Nat.le_of_ble_eq_true (by kernel_rfl)) (by kernel_rfl) rfl rfl (Nat.le_of_ble_eq_true rfl) rfl rfl ?_
 simp only [sl0, Nat.zero_add, Nat.reduceAdd]
 repeat' (first
  |with_reducible (first|refine q_and ?_ ?_|exact True.intro|exact TkEq.nil _|refine Red.o (by constructor) ?_|refine blockK_o' rfl ?_|refine LoopX_e' rfl ?_|assumption)
  |((with_reducible apply q_CI);intro hbq;(try simp only [bq] at hbq);(try (exfalso;omega)))
  |with_reducible (first|refine W_seq ?_|refine W_block ?_)
  |((with_reducible apply q_cond);refine X_cond rfl ?_ ?_;all_goals (intro hbq;(try simp only [bq] at hbq);(try (exfalso;omega))))
  |refine Rex.o (by (with_reducible constructor);apply Eq.refl) ?_
  |(intro (hgq : (_ : Bool) = true);(try simp only [bq] at hgq))
  |(intro (hgq : (_ : Bool) = false);(try simp only [bq] at hgq))
  |((with_reducible apply q_VOk);exact fun _ => ⟨rfl,rfl⟩)|(intro _;exact rfl)|((with_reducible apply q_CRB);kernel_rfl)|((with_reducible apply q_bt);simp only [bq])|((with_reducible apply q_eqN);rfl)|((with_reducible apply q_FE);exact rfl)|with_reducible (first|exact isByte_wrap _|exact isByte_nat _)|(simp only [hgq,bq];done)|omega|(dsimp only;omega))
 repeat' (first|with_reducible (first|refine Wk.o (by constructor) ?_|refine q_and ?_ ?_|exact True.intro)|refine VEq.c ?_|refine VEq.agg ?_|refine VEq.tup ?_|refine TkEq.cells ?_ ?_|refine TkEq.els ?_ ?_|refine SEqL.cons ?_ ?_|refine TEqL.agg ?_ ?_|refine CEq.rows ?_|refine CEq.int ?_|rfl|omega)
theorem gs_all {gs : List Int} (h : gs.all secB4 = true) {i : Nat} (hi : i < gs.length) : -4194304 ≤ gs.getD i 0 ∧ gs.getD i 0 ≤ 4194304 := by
 have := List.all_eq_true.1 h _ (List.getElem_mem hi)
 rw [List.getD_eq_getElem?_getD, List.getElem?_eq_getElem hi]
 unfold secB4 at this
 simpa using this
theorem gs_some {gs : List Int} (h : ∀ i, i < gs.length → secB4 (gs.getD i 0) = true) : gs.all secB4 = true := by
 rw [List.all_eq_true]
 intro x hx
 obtain ⟨i, hi, rfl⟩ := List.mem_iff_getElem.1 hx
 have := h i hi
 rwa [List.getD_eq_getElem?_getD, List.getElem?_eq_getElem hi] at this
theorem walk_bad (L : Lay) (hL : LayFits L) (st : List Stp) (ov : Int) (hl : st.length ≤ 9223372036854775807) (ho : -9223372036854775808 ≤ ov ∧ ov ≤ 9223372036854775807) (nm : ByteArray) (l sp ac br rd late : Int) (gs : List Int) (hgl : gs.length ≤ 9223372036854775807) (h : ¬ wlkErr L st ov l sp ac br gs rd late = 0) : OkV Try.prog 8 [vLay L, vR2 st ov, vS5 nm l sp ac br, .c (xI rd), .c (rInt gs), .c (xI late)] [] (.tup [.c (rLeg []), .c (xI (wlkErr L st ov l sp ac br gs rd late))]) [] := by
 have hF := mFits_ok L hL st ov hl ho nm l sp ac br
 unfold wlkErr at h ⊢
 by_cases hm : motErr L ⟨st, ov⟩ l sp ac br = 0
 ·have hR := rte_of (cel_rte (fit_of (mot_of hm).1).1)
  have g1 := hR.ov0
  have g2 := hR.ov
  have g3 := hR.len
  have g4 := hR.two
  simp only at g1 g2 g3 g4
  have hla := mLast_ok st ov hl (by omega)
  rw [hm] at hF h ⊢
  rw [if_neg (by decide)] at h ⊢
  by_cases hg : (gs.length : Int) = st.length - ov
  ·rw [if_neg (by simpa using hg)] at h ⊢
   have hb : (secB4 rd && secB4 late && gs.all secB4) = false := Classical.byContradiction fun hn => h (if_neg hn)
   rw [if_pos hb]
   have s1 := isSecond_ok rd
   have s2 := isSecond_ok late
   have s3 := fun i => isSecond_ok (gs.getD i 0)
   unfold vLay at hF ⊢
   by_cases h1 : secB4 rd = true
   ·by_cases h2 : secB4 late = true
    ·rw [h1, h2, Bool.true_and, Bool.true_and] at hb
     rw [h1] at s1
     rw [h2] at s2
     refine X_fn mixedX Try.func8 rfl (by kernel_rfl) (Nat.le_of_ble_eq_true (by kernel_rfl)) (by kernel_rfl) rfl rfl (Nat.le_of_ble_eq_true rfl) rfl rfl ?_
     simp only [sl0, Nat.zero_add, Nat.reduceAdd]
     repeat' (first
      |with_reducible (first|refine q_and ?_ ?_|exact True.intro|exact TkEq.nil _|refine Red.o (by constructor) ?_|refine blockK_o' rfl ?_|refine LoopX_e' rfl ?_|assumption)
      |((with_reducible apply q_call);first|refine X_pure (hF) rfl ?_|refine X_pure (hla) rfl ?_|refine X_pure (s1) rfl ?_)
      |((with_reducible apply q_callG);refine X_pureG ((fun _ => s2)) rfl ?_ ?_)
      |((with_reducible apply q_CI);intro hbq;(try simp only [bq] at hbq);(try (exfalso;omega)))
      |with_reducible (first|refine W_seq ?_|refine W_block ?_)
      |((with_reducible apply q_cond);refine X_cond rfl ?_ ?_;all_goals (intro hbq;(try simp only [bq] at hbq);(try (exfalso;omega))))
      |refine Rex.o (by (with_reducible constructor);apply Eq.refl) ?_
      |(intro (hgq : (_ : Bool) = true);(try simp only [bq] at hgq))
      |(intro (hgq : (_ : Bool) = false);(try simp only [bq] at hgq))
      |((with_reducible apply q_VOk);exact fun _ => ⟨rfl,rfl⟩)|(intro _;exact rfl)|((with_reducible apply q_CRB);kernel_rfl)|((with_reducible apply q_bt);simp only [bq])|((with_reducible apply q_eqN);rfl)|((with_reducible apply q_FE);exact rfl)|with_reducible (first|exact isByte_wrap _|exact isByte_nat _)|(simp only [hgq,bq];done)|omega|(dsimp only;omega))
     clear hF hla s1 s2
     refine W_loopS (fun i : Nat => SS [sC 47 (rInt gs), sI 48 gs.length, sI 49 i] [none, none, none]) (fun i => i ≤ gs.length ∧ ∀ j, j < i → secB4 (gs.getD j 0) = true) (fun i => gs.length - i) 0 ?_ ⟨by omega, fun j hj => by omega⟩ ?_
     ·
      refine X_weak rfl rfl rfl ?_ ?_ <;> repeat' (first|with_reducible (first|refine Wk.o (by constructor) ?_|refine q_and ?_ ?_|exact True.intro)|refine q_AgS rfl ?_ ?_|exact CLe.nil_tipS|exact CLe.nil_rowS|refine HLe.cells ?_ ?_|refine HLe.els ?_ ?_|refine SLe.cons ?_ ?_|exact (rfl : known _ = _)|with_reducible rfl|omega)
      all_goals rfl
     rintro i ⟨hi, hno⟩
     by_cases hil : i < gs.length
     ·have s4 : OkV Try.prog 19 [.c (xI (gs.getD (i : Int).toNat 0))] [] (vB (secB4 (gs.getD i 0))) [] := s3 i
      by_cases h3 : secB4 (gs.getD i 0) = true
      ·rw [h3] at s4
       repeat' (first
        |with_reducible (first|refine q_and ?_ ?_|exact True.intro|exact TkEq.nil _|refine Red.o (by constructor) ?_|refine blockK_o' rfl ?_|refine LoopX_e' rfl ?_|assumption)
        |((with_reducible apply q_call);refine X_pure (s4) rfl ?_)
        |((with_reducible apply q_CI);intro hbq;(try simp only [bq] at hbq);(try (exfalso;omega)))
        |with_reducible (first|refine W_seq ?_|refine W_block ?_)
        |((with_reducible apply q_cond);refine X_cond rfl ?_ ?_;all_goals (intro hbq;(try simp only [bq] at hbq);(try (exfalso;omega))))
        |refine Rex.o (by (with_reducible constructor);apply Eq.refl) ?_
        |(intro (hgq : (_ : Bool) = true);(try simp only [bq] at hgq))
        |(intro (hgq : (_ : Bool) = false);(try simp only [bq] at hgq))
        |((with_reducible apply q_VOk);exact fun _ => ⟨rfl,rfl⟩)|(intro _;exact rfl)|((with_reducible apply q_CRB);kernel_rfl)|((with_reducible apply q_bt);simp only [bq])|((with_reducible apply q_eqN);rfl)|((with_reducible apply q_FE);exact rfl)|with_reducible (first|exact isByte_wrap _|exact isByte_nat _)|(simp only [hgq,bq];done)|omega|(dsimp only;omega))
       ·
        refine LoopK_n (i + 1) ?_ (⟨by omega, upto_succ hno h3⟩) (by (try dsimp only); omega)
        refine X_weak rfl rfl rfl ?_ ?_ <;> repeat' (first|with_reducible (first|refine Wk.o (by constructor) ?_|refine q_and ?_ ?_|exact True.intro)|refine q_AgS rfl ?_ ?_|exact CLe.nil_tipS|exact CLe.nil_rowS|refine HLe.cells ?_ ?_|refine HLe.els ?_ ?_|refine SLe.cons ?_ ?_|exact (rfl : known _ = _)|with_reducible rfl|omega)
      ·have h3 : secB4 (gs.getD i 0) = false := by simpa using h3
       rw [h3] at s4
       repeat' (first
        |with_reducible (first|refine q_and ?_ ?_|exact True.intro|exact TkEq.nil _|refine Red.o (by constructor) ?_|refine blockK_o' rfl ?_|refine LoopX_e' rfl ?_|assumption)
        |((with_reducible apply q_call);refine X_pure (s4) rfl ?_)
        |((with_reducible apply q_CI);intro hbq;(try simp only [bq] at hbq);(try (exfalso;omega)))
        |with_reducible (first|refine W_seq ?_|refine W_block ?_)
        |((with_reducible apply q_cond);refine X_cond rfl ?_ ?_;all_goals (intro hbq;(try simp only [bq] at hbq);(try (exfalso;omega))))
        |refine Rex.o (by (with_reducible constructor);apply Eq.refl) ?_
        |(intro (hgq : (_ : Bool) = true);(try simp only [bq] at hgq))
        |(intro (hgq : (_ : Bool) = false);(try simp only [bq] at hgq))
        |((with_reducible apply q_VOk);exact fun _ => ⟨rfl,rfl⟩)|(intro _;exact rfl)|((with_reducible apply q_CRB);kernel_rfl)|((with_reducible apply q_bt);simp only [bq])|((with_reducible apply q_eqN);rfl)|((with_reducible apply q_FE);exact rfl)|with_reducible (first|exact isByte_wrap _|exact isByte_nat _)|(simp only [hgq,bq];done)|omega|(dsimp only;omega))
       all_goals rfl
     ·rw [gs_some fun j hj => hno j (by omega)] at hb
      cases hb
    ·have h2 : secB4 late = false := by simpa using h2
     rw [h1] at s1
     rw [h2] at s2
     refine X_fn mixedX Try.func8 rfl (by kernel_rfl) (Nat.le_of_ble_eq_true (by kernel_rfl)) (by kernel_rfl) rfl rfl (Nat.le_of_ble_eq_true rfl) rfl rfl ?_
     simp only [sl0, Nat.zero_add, Nat.reduceAdd]
     repeat' (first
      |with_reducible (first|refine q_and ?_ ?_|exact True.intro|exact TkEq.nil _|refine Red.o (by constructor) ?_|refine blockK_o' rfl ?_|refine LoopX_e' rfl ?_|assumption)
      |((with_reducible apply q_call);first|refine X_pure (hF) rfl ?_|refine X_pure (hla) rfl ?_|refine X_pure (s1) rfl ?_)
      |((with_reducible apply q_callG);refine X_pureG ((fun _ => s2)) rfl ?_ ?_)
      |((with_reducible apply q_CI);intro hbq;(try simp only [bq] at hbq);(try (exfalso;omega)))
      |with_reducible (first|refine W_seq ?_|refine W_block ?_)
      |((with_reducible apply q_cond);refine X_cond rfl ?_ ?_;all_goals (intro hbq;(try simp only [bq] at hbq);(try (exfalso;omega))))
      |refine Rex.o (by (with_reducible constructor);apply Eq.refl) ?_
      |(intro (hgq : (_ : Bool) = true);(try simp only [bq] at hgq))
      |(intro (hgq : (_ : Bool) = false);(try simp only [bq] at hgq))
      |((with_reducible apply q_VOk);exact fun _ => ⟨rfl,rfl⟩)|(intro _;exact rfl)|((with_reducible apply q_CRB);kernel_rfl)|((with_reducible apply q_bt);simp only [bq])|((with_reducible apply q_eqN);rfl)|((with_reducible apply q_FE);exact rfl)|with_reducible (first|exact isByte_wrap _|exact isByte_nat _)|(simp only [hgq,bq];done)|omega|(dsimp only;omega))
     all_goals rfl
   ·have h1 : secB4 rd = false := by simpa using h1
    rw [h1] at s1
    refine X_fn mixedX Try.func8 rfl (by kernel_rfl) (Nat.le_of_ble_eq_true (by kernel_rfl)) (by kernel_rfl) rfl rfl (Nat.le_of_ble_eq_true rfl) rfl rfl ?_
    simp only [sl0, Nat.zero_add, Nat.reduceAdd]
    repeat' (first
     |with_reducible (first|refine q_and ?_ ?_|exact True.intro|exact TkEq.nil _|refine Red.o (by constructor) ?_|refine blockK_o' rfl ?_|refine LoopX_e' rfl ?_|assumption)
     |((with_reducible apply q_call);first|refine X_pure (hF) rfl ?_|refine X_pure (hla) rfl ?_|refine X_pure (s1) rfl ?_)
     |((with_reducible apply q_callG);refine X_pureG ((fun _ => s2)) rfl ?_ ?_)
     |((with_reducible apply q_CI);intro hbq;(try simp only [bq] at hbq);(try (exfalso;omega)))
     |with_reducible (first|refine W_seq ?_|refine W_block ?_)
     |((with_reducible apply q_cond);refine X_cond rfl ?_ ?_;all_goals (intro hbq;(try simp only [bq] at hbq);(try (exfalso;omega))))
     |refine Rex.o (by (with_reducible constructor);apply Eq.refl) ?_
     |(intro (hgq : (_ : Bool) = true);(try simp only [bq] at hgq))
     |(intro (hgq : (_ : Bool) = false);(try simp only [bq] at hgq))
     |((with_reducible apply q_VOk);exact fun _ => ⟨rfl,rfl⟩)|(intro _;exact rfl)|((with_reducible apply q_CRB);kernel_rfl)|((with_reducible apply q_bt);simp only [bq])|((with_reducible apply q_eqN);rfl)|((with_reducible apply q_FE);exact rfl)|with_reducible (first|exact isByte_wrap _|exact isByte_nat _)|(simp only [hgq,bq];done)|omega|(dsimp only;omega))
    all_goals rfl
  ·rw [if_pos hg]
   unfold vLay at hF ⊢
   refine X_fn mixedX Try.func8 rfl (by kernel_rfl) (Nat.le_of_ble_eq_true (by kernel_rfl)) (by kernel_rfl) rfl rfl (Nat.le_of_ble_eq_true rfl) rfl rfl ?_
   simp only [sl0, Nat.zero_add, Nat.reduceAdd]
   repeat' (first
    |with_reducible (first|refine q_and ?_ ?_|exact True.intro|exact TkEq.nil _|refine Red.o (by constructor) ?_|refine blockK_o' rfl ?_|refine LoopX_e' rfl ?_|assumption)
    |((with_reducible apply q_call);first|refine X_pure (hF) rfl ?_|refine X_pure (hla) rfl ?_)
    |((with_reducible apply q_CI);intro hbq;(try simp only [bq] at hbq);(try (exfalso;omega)))
    |with_reducible (first|refine W_seq ?_|refine W_block ?_)
    |((with_reducible apply q_cond);refine X_cond rfl ?_ ?_;all_goals (intro hbq;(try simp only [bq] at hbq);(try (exfalso;omega))))
    |refine Rex.o (by (with_reducible constructor);apply Eq.refl) ?_
    |(intro (hgq : (_ : Bool) = true);(try simp only [bq] at hgq))
    |(intro (hgq : (_ : Bool) = false);(try simp only [bq] at hgq))
    |((with_reducible apply q_VOk);exact fun _ => ⟨rfl,rfl⟩)|(intro _;exact rfl)|((with_reducible apply q_CRB);kernel_rfl)|((with_reducible apply q_bt);simp only [bq])|((with_reducible apply q_eqN);rfl)|((with_reducible apply q_FE);exact rfl)|with_reducible (first|exact isByte_wrap _|exact isByte_nat _)|(simp only [hgq,bq];done)|omega|(dsimp only;omega))
   all_goals rfl
 ·rw [if_pos hm]
  unfold vLay at hF ⊢
  refine X_fn mixedX Try.func8 rfl (by kernel_rfl) (Nat.le_of_ble_eq_true (by kernel_rfl)) (by kernel_rfl) rfl rfl (Nat.le_of_ble_eq_true rfl) rfl rfl ?_
  simp only [sl0, Nat.zero_add, Nat.reduceAdd]
  repeat' (first
   |with_reducible (first|refine q_and ?_ ?_|exact True.intro|exact TkEq.nil _|refine Red.o (by constructor) ?_|refine blockK_o' rfl ?_|refine LoopX_e' rfl ?_|assumption)
   |((with_reducible apply q_call);refine X_pure (hF) rfl ?_)
   |((with_reducible apply q_CI);intro hbq;(try simp only [bq] at hbq);(try (exfalso;omega)))
   |with_reducible (first|refine W_seq ?_|refine W_block ?_)
   |((with_reducible apply q_cond);refine X_cond rfl ?_ ?_;all_goals (intro hbq;(try simp only [bq] at hbq);(try (exfalso;omega))))
   |refine Rex.o (by (with_reducible constructor);apply Eq.refl) ?_
   |(intro (hgq : (_ : Bool) = true);(try simp only [bq] at hgq))
   |(intro (hgq : (_ : Bool) = false);(try simp only [bq] at hgq))
   |((with_reducible apply q_VOk);exact fun _ => ⟨rfl,rfl⟩)|(intro _;exact rfl)|((with_reducible apply q_CRB);kernel_rfl)|((with_reducible apply q_bt);simp only [bq])|((with_reducible apply q_eqN);rfl)|((with_reducible apply q_FE);exact rfl)|with_reducible (first|exact isByte_wrap _|exact isByte_nat _)|(simp only [hgq,bq];done)|omega|(dsimp only;omega))
  all_goals rfl
theorem wlk_of {L : Lay} {st : List Stp} {ov l sp ac br rd late : Int} {gs : List Int} (h : wlkErr L st ov l sp ac br gs rd late = 0) : motErr L ⟨st, ov⟩ l sp ac br = 0 ∧ (gs.length : Int) = st.length - ov ∧ secB4 rd = true ∧ secB4 late = true ∧ gs.all secB4 = true := by
 unfold wlkErr at h
 by_cases h1 : motErr L ⟨st, ov⟩ l sp ac br = 0
 ·rw [if_neg (by simpa using h1)] at h
  by_cases h2 : (gs.length : Int) = st.length - ov
  ·rw [if_neg (by simpa using h2)] at h
   by_cases h3 : (secB4 rd && secB4 late && gs.all secB4) = false
   ·rw [if_pos h3] at h; cases h
   ·have h3 := (Bool.not_eq_false _).mp h3
    simp only [Bool.and_eq_true] at h3
    exact ⟨h1, h2, h3.1.1, h3.1.2, h3.2⟩
  ·rw [if_pos h2] at h; cases h
 ·rw [if_pos h1] at h; exact absurd h h1
theorem walk_ok (L : Lay) (hL : LayFits L) (st : List Stp) (ov : Int) (hl : st.length ≤ 9223372036854775807) (ho : -9223372036854775808 ≤ ov ∧ ov ≤ 9223372036854775807) (nm : ByteArray) (l sp ac br rd late : Int) (gs : List Int) (h : wlkErr L st ov l sp ac br gs rd late = 0) : OkV Try.prog 8 [vLay L, vR2 st ov, vS5 nm l sp ac br, .c (xI rd), .c (rInt gs), .c (xI late)] [] (.tup [.c (rLeg (walkL L st ov l sp ac br gs rd late)), .c (xI 0)]) [] := by
 have hF := mFits_ok L hL st ov hl ho nm l sp ac br
 obtain ⟨hm, hg, h1, h2, h3⟩ := wlk_of h
 clear h
 have hf := (mot_of hm).1
 have hR := rte_of (cel_rte (fit_of hf).1)
 have g1 := hR.ov0
 have g2 := hR.ov
 have g3 := hR.len
 have g4 := hR.two
 simp only at g1 g2 g3 g4
 have hla := mLast_ok st ov hl (by omega)
 rw [hm] at hF
 have s1 := isSecond_ok rd
 have s2 := isSecond_ok late
 have s3 := fun i => isSecond_ok (gs.getD i 0)
 rw [h1] at s1
 rw [h2] at s2
 obtain ⟨hn1, hn2, hn3⟩ := last_n hR
 have hga := fun i (hi : i < gs.length) => gs_all h3 hi
 have hN := fun a (ha : a < lastN st ov) k (hk : k ≤ lastN st ov - a) => needN_rng hf ha hk
 have hO := fun a (ha : a < lastN st ov) => ovlN_rng hf ha
 have hU := fun a b (hab : a < b) (hb : b ≤ lastN st ov) => runN_rng hf hab hb
 have hP := fun a b (hab : a < b) (hb : b ≤ lastN st ov) => profile_ok L hL st ov nm l sp ac br hf a b hab (by omega)
 have e1 : ∀ a b, runI L (partR st ov a b) l sp ac br = runN L st ov l sp ac br a b := fun _ _ => rfl
 unfold walkL
 generalize hT : wlk (fun i => gs.getD i 0) (lastN st ov) (needN L st ov l sp ac br) (runN L st ov l sp ac br) (ovlN L st ov l sp ac br) ov late (lastN st ov + 1) 0 rd = T
 unfold secB4 at h1 h2
 simp only [Bool.and_eq_true, decide_eq_true_eq] at h1 h2
 unfold lPro at hP
 unfold vLay at hF hP ⊢
 rw [← hn1] at hla
 refine X_fn mixedX Try.func8 rfl (by kernel_rfl) (Nat.le_of_ble_eq_true (by kernel_rfl)) (by kernel_rfl) rfl rfl (Nat.le_of_ble_eq_true rfl) rfl rfl ?_
 simp only [sl0, Nat.zero_add, Nat.reduceAdd]
 repeat' (first
  |with_reducible (first|refine q_and ?_ ?_|exact True.intro|exact TkEq.nil _|refine Red.o (by constructor) ?_|refine blockK_o' rfl ?_|refine LoopX_e' rfl ?_|assumption)
  |((with_reducible apply q_call);first|refine X_pure (hF) rfl ?_|refine X_pure (hla) rfl ?_|refine X_pure (s1) rfl ?_)
  |((with_reducible apply q_callG);refine X_pureG ((fun _ => s2)) rfl ?_ ?_)
  |((with_reducible apply q_CI);intro hbq;(try simp only [bq] at hbq);(try (exfalso;omega)))
  |with_reducible (first|refine W_seq ?_|refine W_block ?_)
  |((with_reducible apply q_cond);refine X_cond rfl ?_ ?_;all_goals (intro hbq;(try simp only [bq] at hbq);(try (exfalso;omega))))
  |refine Rex.o (by (with_reducible constructor);apply Eq.refl) ?_
  |(intro (hgq : (_ : Bool) = true);(try simp only [bq] at hgq))
  |(intro (hgq : (_ : Bool) = false);(try simp only [bq] at hgq))
  |((with_reducible apply q_VOk);exact fun _ => ⟨rfl,rfl⟩)|(intro _;exact rfl)|((with_reducible apply q_CRB);kernel_rfl)|((with_reducible apply q_bt);simp only [bq])|((with_reducible apply q_eqN);rfl)|((with_reducible apply q_FE);exact rfl)|with_reducible (first|exact isByte_wrap _|exact isByte_nat _)|(simp only [hgq,bq];done)|omega|(dsimp only;omega))
 clear hF hla s1 s2
 refine W_loopS (fun i : Nat => SS [sI 3 rd, sC 4 (rInt gs), sI 5 late, sC 6 (pB 0), sC 7 (pB 1), sC 8 (pB 2), sI 15 (lastN st ov : Nat), sC 47 (rInt gs), sI 48 gs.length, sI 49 i] [bLay L, bRte st ov, bS5 nm l sp ac br]) (fun i => i ≤ gs.length) (fun i => gs.length - i) 0 ?_ (by omega) ?_
 ·
  refine X_weak rfl rfl rfl ?_ ?_ <;> repeat' (first|with_reducible (first|refine Wk.o (by constructor) ?_|refine q_and ?_ ?_|exact True.intro)|refine q_AgS rfl ?_ ?_|exact CLe.nil_tipS|exact CLe.nil_rowS|refine HLe.cells ?_ ?_|refine HLe.els ?_ ?_|refine SLe.cons ?_ ?_|exact (rfl : known _ = _)|with_reducible rfl|omega)
  all_goals rfl
 intro i hi
 by_cases hil : i < gs.length
 ·have s4 : OkV Try.prog 19 [.c (xI (gs.getD (i : Int).toNat 0))] [] (vB (secB4 (gs.getD i 0))) [] := s3 i
  have h4 : secB4 (gs.getD i 0) = true := by
   rw [List.getD_eq_getElem?_getD, List.getElem?_eq_getElem hil]
   exact List.all_eq_true.1 h3 _ (List.getElem_mem hil)
  rw [h4] at s4
  repeat' (first
   |with_reducible (first|refine q_and ?_ ?_|exact True.intro|exact TkEq.nil _|refine Red.o (by constructor) ?_|refine blockK_o' rfl ?_|refine LoopX_e' rfl ?_|assumption)
   |((with_reducible apply q_call);refine X_pure (s4) rfl ?_)
   |((with_reducible apply q_CI);intro hbq;(try simp only [bq] at hbq);(try (exfalso;omega)))
   |with_reducible (first|refine W_seq ?_|refine W_block ?_)
   |((with_reducible apply q_cond);refine X_cond rfl ?_ ?_;all_goals (intro hbq;(try simp only [bq] at hbq);(try (exfalso;omega))))
   |refine Rex.o (by (with_reducible constructor);apply Eq.refl) ?_
   |(intro (hgq : (_ : Bool) = true);(try simp only [bq] at hgq))
   |(intro (hgq : (_ : Bool) = false);(try simp only [bq] at hgq))
   |((with_reducible apply q_VOk);exact fun _ => ⟨rfl,rfl⟩)|(intro _;exact rfl)|((with_reducible apply q_CRB);kernel_rfl)|((with_reducible apply q_bt);simp only [bq])|((with_reducible apply q_eqN);rfl)|((with_reducible apply q_FE);exact rfl)|with_reducible (first|exact isByte_wrap _|exact isByte_nat _)|(simp only [hgq,bq];done)|omega|(dsimp only;omega))
  ·
   refine LoopK_n (i + 1) ?_ ((by omega)) (by (try dsimp only); omega)
   refine X_weak rfl rfl rfl ?_ ?_ <;> repeat' (first|with_reducible (first|refine Wk.o (by constructor) ?_|refine q_and ?_ ?_|exact True.intro)|refine q_AgS rfl ?_ ?_|exact CLe.nil_tipS|exact CLe.nil_rowS|refine HLe.cells ?_ ?_|refine HLe.els ?_ ?_|refine SLe.cons ?_ ?_|exact (rfl : known _ = _)|with_reducible rfl|omega)
 ·
  have hP1 : ∀ a, a < lastN st ov → ∃ Y Z, OkV Try.prog 16 [.agg [rStr L.sts, rStr L.pts, rSec L.secs, rLnk L.lnks], vR2 st ov, vS5 nm l sp ac br, .c (xI a), .c (xI (lastN st ov : Nat))] [] (.agg (lPro7 a (lastN st ov : Nat) (row (lastN st ov - a) (needN L st ov l sp ac br a)) Y Z (ovlN L st ov l sp ac br a) (runN L st ov l sp ac br a (lastN st ov)))) [] := fun a ha => ⟨_, _, hP a _ ha (Nat.le_refl _)⟩
  have hP2 : ∀ a b : Nat, a < b → b ≤ lastN st ov → ∃ X Y Z o, OkV Try.prog 16 [.agg [rStr L.sts, rStr L.pts, rSec L.secs, rLnk L.lnks], vR2 st ov, vS5 nm l sp ac br, .c (xI a), .c (xI b)] [] (.agg (lPro7 a b X Y Z o (runN L st ov l sp ac br a b))) [] := fun a b hab hb => ⟨_, _, _, _, hP a b hab hb⟩
  clear hP e1 s3 h3 hm hf
  generalize needN L st ov l sp ac br = N at *
  generalize ovlN L st ov l sp ac br = O at *
  generalize runN L st ov l sp ac br = R at *
  generalize lastN st ov = m at *
  have hie : i = gs.length := by omega
  subst hie
  repeat' (first
   |with_reducible (first|refine q_and ?_ ?_|exact True.intro|exact TkEq.nil _|refine Red.o (by constructor) ?_|refine blockK_o' rfl ?_|refine LoopX_e' rfl ?_|assumption)
   |((with_reducible apply q_CI);intro hbq;(try simp only [bq] at hbq);(try (exfalso;omega)))
   |with_reducible (first|refine W_seq ?_|refine W_block ?_)
   |((with_reducible apply q_cond);refine X_cond rfl ?_ ?_;all_goals (intro hbq;(try simp only [bq] at hbq);(try (exfalso;omega))))
   |refine Rex.o (by (with_reducible constructor);apply Eq.refl) ?_
   |(intro (hgq : (_ : Bool) = true);(try simp only [bq] at hgq))
   |(intro (hgq : (_ : Bool) = false);(try simp only [bq] at hgq))
   |((with_reducible apply q_VOk);exact fun _ => ⟨rfl,rfl⟩)|(intro _;exact rfl)|((with_reducible apply q_CRB);kernel_rfl)|((with_reducible apply q_bt);simp only [bq])|((with_reducible apply q_eqN);rfl)|((with_reducible apply q_FE);exact rfl)|with_reducible (first|exact isByte_wrap _|exact isByte_nat _)|(simp only [hgq,bq];done)|omega|(dsimp only;omega))
  refine W_loopS (fun q : Nat × Int × List Leg => SS [sC 4 (rInt gs), sI 5 late, sC 6 (pB 0), sC 7 (pB 1), sC 8 (pB 2), sI 15 m, sC 18 (tLeg q.2.2), sI 19 q.1, sI 20 q.2.1] [bLay L, bRte st ov, bS5 nm l sp ac br]) (fun q => q.1 ≤ m ∧ -4194304 ≤ q.2.1 ∧ q.2.1 ≤ 4194400 + 100000 * q.1 ∧ q.2.2.length ≤ q.1 ∧ ∃ f, m + 1 ≤ q.1 + f ∧ q.2.2 ++ wlk (fun i => gs.getD i 0) m N R O ov late f q.1 q.2.1 = T) (fun q => m - q.1) (0, rd, []) ?_ ⟨by simp only; omega, by simp only; omega, by simp only; omega, Nat.le_refl _, m + 1, by simp only; omega, hT⟩ ?_
  ·
   refine X_weak rfl rfl rfl ?_ ?_ <;> repeat' (first|with_reducible (first|refine Wk.o (by constructor) ?_|refine q_and ?_ ?_|exact True.intro)|refine q_AgS rfl ?_ ?_|exact CLe.nil_tipS|exact CLe.nil_rowS|refine HLe.cells ?_ ?_|refine HLe.els ?_ ?_|refine SLe.cons ?_ ?_|exact (rfl : known _ = _)|with_reducible rfl|omega)
   all_goals rfl
  rintro ⟨a, x, legs⟩ ⟨q1, q2, q3, q4, f, q5, q6⟩
  simp only at q1 q2 q3 q4 q5 q6
  by_cases ham : a < m
  ·obtain ⟨f, rfl⟩ : ∃ k, f = k + 1 := ⟨f - 1, by omega⟩
   unfold wlk at q6
   rw [if_pos ham] at q6
   obtain ⟨Y, Z, hp1⟩ := hP1 a ham
   have hgn := hga (a + 1) (by omega)
   have eg : gs.getD ((a : Int) + 1).toNat 0 = gs.getD (a + 1) 0 := by congr 1
   have ed : max x (gs.getD ((a : Int) + 1).toNat 0 + 16) = legD (fun i => gs.getD i 0) a x := by rw [eg]; rfl
   have hd1 : x ≤ legD (fun i => gs.getD i 0) a x ∧ legD (fun i => gs.getD i 0) a x ≤ 4194400 + 100000 * a := by rw [← ed, eg]; omega
   have hrf : OkV Try.prog 20 [.agg (lPro7 a m (row (m - a) (N a)) Y Z (O a) (R a m)), .c (rInt gs), .c (xI (legD (fun i => gs.getD i 0) a x))] [] (vI (legR (fun i => gs.getD i 0) m N a x)) [] := refused_ok (fun i => gs.getD i 0) m N a (row (m - a) (N a)) Y Z gs (O a) (R a m) (legD (fun i => gs.getD i 0) a x) (by omega) (fun i hi => rfl) (row_len _ _) (fun k hk => row_get hk) (by omega) (by omega) (fun k hk => by have := hN a ham k hk; omega) (by omega)
   have hB := legB_rng (fun i => gs.getD i 0) m N x ham
   have hOa := hO a ham
   have hUa := hU a m ham (Nat.le_refl _)
   have hBe : legB (fun i => gs.getD i 0) m N a x = if 0 < legR (fun i => gs.getD i 0) m N a x then legR (fun i => gs.getD i 0) m N a x - 1 else m := rfl
   have hSe : legS (fun i => gs.getD i 0) m N R O ov late a x = if 0 < legR (fun i => gs.getD i 0) m N a x then legD (fun i => gs.getD i 0) a x + R a (legR (fun i => gs.getD i 0) m N a x - 1) else if 0 < ov ∧ legD (fun i => gs.getD i 0) a x + O a < late then legD (fun i => gs.getD i 0) a x + R a m + 30 else legD (fun i => gs.getD i 0) a x + R a m := rfl
   rw [hSe] at q6
   rw [hBe] at hB q6
   generalize legR (fun i => gs.getD i 0) m N a x = r at *
   generalize legD (fun i => gs.getD i 0) a x = d at *
   subst ed
   clear hBe hSe
   by_cases hr0 : 0 < r
   ·rw [if_pos hr0] at hB
    rw [if_pos hr0, if_pos hr0] at q6
    obtain ⟨X2, Y2, Z2, o2, hp2⟩ := hP2 a _ hB.1 hB.2
    have hUb := hU a _ hB.1 hB.2
    rw [show ((r - 1 : Nat) : Int) = (r : Int) - 1 by omega] at hp2
    repeat' (first
     |with_reducible (first|refine q_and ?_ ?_|exact True.intro|exact TkEq.nil _|refine Red.o (by constructor) ?_|refine blockK_o' rfl ?_|refine LoopX_e' rfl ?_|assumption)
     |((with_reducible apply q_call);first|refine X_pure (hp1) rfl ?_|refine X_pure (hrf) rfl ?_|refine X_pure (hp2) rfl ?_)
     |((with_reducible apply q_CI);intro hbq;(try simp only [bq] at hbq);(try (exfalso;omega)))
     |with_reducible (first|refine W_seq ?_|refine W_block ?_)
     |((with_reducible apply q_cond);refine X_cond rfl ?_ ?_;all_goals (intro hbq;(try simp only [bq] at hbq);(try (exfalso;omega))))
     |refine Rex.o (by (with_reducible constructor);apply Eq.refl) ?_
     |(intro (hgq : (_ : Bool) = true);(try simp only [bq] at hgq))
     |(intro (hgq : (_ : Bool) = false);(try simp only [bq] at hgq))
     |((with_reducible apply q_VOk);exact fun _ => ⟨rfl,rfl⟩)|(intro _;exact rfl)|((with_reducible apply q_CRB);kernel_rfl)|((with_reducible apply q_bt);simp only [bq])|((with_reducible apply q_eqN);rfl)|((with_reducible apply q_FE);exact rfl)|with_reducible (first|exact isByte_wrap _|exact isByte_nat _)|(simp only [hgq,bq];done)|omega|(dsimp only;omega))
    ·
     refine LoopK_n ((r - 1, max x (gs.getD ((a : Int) + 1).toNat 0 + 16) + R a (r - 1), legs ++ [⟨a, (r - 1 : Nat), max x (gs.getD ((a : Int) + 1).toNat 0 + 16), max x (gs.getD ((a : Int) + 1).toNat 0 + 16) + R a (r - 1)⟩])) ?_ (⟨by simp only; omega, by simp only; omega, by simp only; omega, by simp only [List.length_append, List.length_singleton]; omega, f, by simp only; omega, by simp only; rw [List.append_assoc]; exact q6⟩) (by (try dsimp only); omega)
     refine X_weak rfl rfl rfl ?_ ?_ <;> repeat' (first|with_reducible (first|refine Wk.o (by constructor) ?_|refine q_and ?_ ?_|exact True.intro)|refine q_AgS rfl ?_ ?_|exact CLe.nil_tipS|exact CLe.nil_rowS|refine HLe.cells ?_ ?_|refine HLe.els ?_ ?_|refine SLe.cons ?_ ?_|exact (rfl : known _ = _)|with_reducible rfl|omega)
     all_goals first
      | omega
      | rfl
      | (simp only [List.length_append, List.length_singleton]; done)
      | (simp [fLeg, fI]; done)
      | (simp [fLeg, fI]; omega)
   ·rw [if_neg hr0] at hB
    rw [if_neg hr0, if_neg hr0] at q6
    have hr1 : r = 0 := by omega
    subst hr1
    clear hP2
    by_cases hv : 0 < ov ∧ max x (gs.getD ((a : Int) + 1).toNat 0 + 16) + O a < late
    ·rw [if_pos hv] at q6
     repeat' (first
      |with_reducible (first|refine q_and ?_ ?_|exact True.intro|exact TkEq.nil _|refine Red.o (by constructor) ?_|refine blockK_o' rfl ?_|refine LoopX_e' rfl ?_|assumption)
      |((with_reducible apply q_call);first|refine X_pure (hp1) rfl ?_|refine X_pure (hrf) rfl ?_)
      |((with_reducible apply q_CI);intro hbq;(try simp only [bq] at hbq);(try (exfalso;omega)))
      |with_reducible (first|refine W_seq ?_|refine W_block ?_)
      |((with_reducible apply q_cond);refine X_cond rfl ?_ ?_;all_goals (intro hbq;(try simp only [bq] at hbq);(try (exfalso;omega))))
      |refine Rex.o (by (with_reducible constructor);apply Eq.refl) ?_
      |(intro (hgq : (_ : Bool) = true);(try simp only [bq] at hgq))
      |(intro (hgq : (_ : Bool) = false);(try simp only [bq] at hgq))
      |((with_reducible apply q_VOk);exact fun _ => ⟨rfl,rfl⟩)|(intro _;exact rfl)|((with_reducible apply q_CRB);kernel_rfl)|((with_reducible apply q_bt);simp only [bq])|((with_reducible apply q_eqN);rfl)|((with_reducible apply q_FE);exact rfl)|with_reducible (first|exact isByte_wrap _|exact isByte_nat _)|(simp only [hgq,bq];done)|omega|(dsimp only;omega))
     ·
      refine LoopK_n ((m, max x (gs.getD ((a : Int) + 1).toNat 0 + 16) + R a m + 30, legs ++ [⟨a, (m : Nat), max x (gs.getD ((a : Int) + 1).toNat 0 + 16), max x (gs.getD ((a : Int) + 1).toNat 0 + 16) + R a m + 30⟩])) ?_ (⟨by simp only; omega, by simp only; omega, by simp only; omega, by simp only [List.length_append, List.length_singleton]; omega, f, by simp only; omega, by simp only; rw [List.append_assoc]; exact q6⟩) (by (try dsimp only); omega)
      refine X_weak rfl rfl rfl ?_ ?_ <;> repeat' (first|with_reducible (first|refine Wk.o (by constructor) ?_|refine q_and ?_ ?_|exact True.intro)|refine q_AgS rfl ?_ ?_|exact CLe.nil_tipS|exact CLe.nil_rowS|refine HLe.cells ?_ ?_|refine HLe.els ?_ ?_|refine SLe.cons ?_ ?_|exact (rfl : known _ = _)|with_reducible rfl|omega)
      all_goals first
       | omega
       | rfl
       | (simp only [List.length_append, List.length_singleton]; done)
       | (simp [fLeg, fI]; done)
       | (simp [fLeg, fI]; omega)
    ·rw [if_neg hv] at q6
     repeat' (first
      |with_reducible (first|refine q_and ?_ ?_|exact True.intro|exact TkEq.nil _|refine Red.o (by constructor) ?_|refine blockK_o' rfl ?_|refine LoopX_e' rfl ?_|assumption)
      |((with_reducible apply q_call);first|refine X_pure (hp1) rfl ?_|refine X_pure (hrf) rfl ?_)
      |((with_reducible apply q_CI);intro hbq;(try simp only [bq] at hbq);(try (exfalso;omega)))
      |with_reducible (first|refine W_seq ?_|refine W_block ?_)
      |((with_reducible apply q_cond);refine X_cond rfl ?_ ?_;all_goals (intro hbq;(try simp only [bq] at hbq);(try (exfalso;omega))))
      |refine Rex.o (by (with_reducible constructor);apply Eq.refl) ?_
      |(intro (hgq : (_ : Bool) = true);(try simp only [bq] at hgq))
      |(intro (hgq : (_ : Bool) = false);(try simp only [bq] at hgq))
      |((with_reducible apply q_VOk);exact fun _ => ⟨rfl,rfl⟩)|(intro _;exact rfl)|((with_reducible apply q_CRB);kernel_rfl)|((with_reducible apply q_bt);simp only [bq])|((with_reducible apply q_eqN);rfl)|((with_reducible apply q_FE);exact rfl)|with_reducible (first|exact isByte_wrap _|exact isByte_nat _)|(simp only [hgq,bq];done)|omega|(dsimp only;omega))
     ·
      refine LoopK_n ((m, max x (gs.getD ((a : Int) + 1).toNat 0 + 16) + R a m, legs ++ [⟨a, (m : Nat), max x (gs.getD ((a : Int) + 1).toNat 0 + 16), max x (gs.getD ((a : Int) + 1).toNat 0 + 16) + R a m⟩])) ?_ (⟨by simp only; omega, by simp only; omega, by simp only; omega, by simp only [List.length_append, List.length_singleton]; omega, f, by simp only; omega, by simp only; rw [List.append_assoc]; exact q6⟩) (by (try dsimp only); omega)
      refine X_weak rfl rfl rfl ?_ ?_ <;> repeat' (first|with_reducible (first|refine Wk.o (by constructor) ?_|refine q_and ?_ ?_|exact True.intro)|refine q_AgS rfl ?_ ?_|exact CLe.nil_tipS|exact CLe.nil_rowS|refine HLe.cells ?_ ?_|refine HLe.els ?_ ?_|refine SLe.cons ?_ ?_|exact (rfl : known _ = _)|with_reducible rfl|omega)
      all_goals first
       | omega
       | rfl
       | (simp only [List.length_append, List.length_singleton]; done)
       | (simp [fLeg, fI]; done)
       | (simp [fLeg, fI]; omega)
  ·have hT2 : legs = T := by
    rw [← q6]
    cases f with
    | zero => exact (List.append_nil _).symm
    | succ f => unfold wlk; rw [if_neg ham]; exact (List.append_nil _).symm
   subst hT2
   repeat' (first
    |with_reducible (first|refine q_and ?_ ?_|exact True.intro|exact TkEq.nil _|refine Red.o (by constructor) ?_|refine blockK_o' rfl ?_|refine LoopX_e' rfl ?_|assumption)
    |((with_reducible apply q_CI);intro hbq;(try simp only [bq] at hbq);(try (exfalso;omega)))
    |with_reducible (first|refine W_seq ?_|refine W_block ?_)
    |((with_reducible apply q_cond);refine X_cond rfl ?_ ?_;all_goals (intro hbq;(try simp only [bq] at hbq);(try (exfalso;omega))))
    |refine Rex.o (by (with_reducible constructor);apply Eq.refl) ?_
    |(intro (hgq : (_ : Bool) = true);(try simp only [bq] at hgq))
    |(intro (hgq : (_ : Bool) = false);(try simp only [bq] at hgq))
    |((with_reducible apply q_VOk);exact fun _ => ⟨rfl,rfl⟩)|(intro _;exact rfl)|((with_reducible apply q_CRB);kernel_rfl)|((with_reducible apply q_bt);simp only [bq])|((with_reducible apply q_eqN);rfl)|((with_reducible apply q_FE);exact rfl)|with_reducible (first|exact isByte_wrap _|exact isByte_nat _)|(simp only [hgq,bq];done)|omega|(dsimp only;omega))
   all_goals rfl
def ptR (L : Lay) (a b : Stp) : Int := if ((joinL L a b).map Hop.pt).getD (-1) < 0 then -1 else L.secs.length + ((joinL L a b).map Hop.pt).getD (-1)
theorem pointOf_ok (L : Lay) (a b : Stp) (hV : Valid L) (hj : ∀ k, joinL L a b = some k → k.pt < L.pts.length) : OkV Try.prog 29 [vLay L, vSt a, vSt b] [] (vI (ptR L a b)) [] := by
 have hH := refHops_ok L a hV
 have hlen : (hopsL L a).length ≤ 192 := Nat.le_trans (List.length_filterMap_le _ _) hV.n4
 have n2 := hV.n2
 have n3 := hV.n3
 unfold ptR
 unfold joinL at hj ⊢
 generalize hopsL L a = hs at *
 unfold vLay at hH ⊢
 refine X_fn mixedX Try.func29 rfl (by kernel_rfl) (Nat.le_of_ble_eq_true (by kernel_rfl)) (by kernel_rfl) rfl rfl (Nat.le_of_ble_eq_true rfl) rfl rfl ?_
 simp only [sl0, Nat.zero_add, Nat.reduceAdd]
 repeat' (first
  |with_reducible (first|refine q_and ?_ ?_|exact True.intro|exact TkEq.nil _|refine Red.o (by constructor) ?_|refine blockK_o' rfl ?_|refine LoopX_e' rfl ?_|assumption)
  |((with_reducible apply q_call);refine X_pure (hH) rfl ?_)
  |((with_reducible apply q_CI);intro hbq;(try simp only [bq] at hbq);(try (exfalso;omega)))
  |with_reducible (first|refine W_seq ?_|refine W_block ?_)
  |((with_reducible apply q_cond);refine X_cond rfl ?_ ?_;all_goals (intro hbq;(try simp only [bq] at hbq);(try (exfalso;omega))))
  |refine Rex.o (by (with_reducible constructor);apply Eq.refl) ?_
  |(intro (hgq : (_ : Bool) = true);(try simp only [bq] at hgq))
  |(intro (hgq : (_ : Bool) = false);(try simp only [bq] at hgq))
  |((with_reducible apply q_VOk);exact fun _ => ⟨rfl,rfl⟩)|(intro _;exact rfl)|((with_reducible apply q_CRB);kernel_rfl)|((with_reducible apply q_bt);simp only [bq])|((with_reducible apply q_eqN);rfl)|((with_reducible apply q_FE);exact rfl)|with_reducible (first|exact isByte_wrap _|exact isByte_nat _)|(simp only [hgq,bq];done)|omega|(dsimp only;omega))
 clear hH
 refine W_loopS (fun i : Nat => SS [sC 3 (pB 0), sC 5 (pB 2), sC 7 (rHop hs), sI 13 hs.length, sI 14 i] [bLay L, none, some (.cells [xI b.sec, xI b.dir])]) (fun i => i ≤ hs.length ∧ ∀ j, j < i → toB b (hs.getD j ⟨0, 0, 0, 0⟩) = false) (fun i => hs.length - i) 0 ?_ ⟨by omega, fun j hj => by omega⟩ ?_
 ·
  refine X_weak rfl rfl rfl ?_ ?_ <;> repeat' (first|with_reducible (first|refine Wk.o (by constructor) ?_|refine q_and ?_ ?_|exact True.intro)|refine q_AgS rfl ?_ ?_|exact CLe.nil_tipS|exact CLe.nil_rowS|refine HLe.cells ?_ ?_|refine HLe.els ?_ ?_|refine SLe.cons ?_ ?_|exact (rfl : known _ = _)|with_reducible rfl|omega)
 rintro i ⟨hi, hno⟩
 by_cases hil : i < hs.length
 ·by_cases ht : toB b (hs.getD i ⟨0, 0, 0, 0⟩) = true
  ·have hf := find_at (p := toB b) (d := ⟨0, 0, 0, 0⟩) (l := hs) (i := i) hil ht hno
   have hb : (hs.getD (i : Int).toNat ⟨0, 0, 0, 0⟩).pt < L.pts.length := hj _ hf
   rw [hf]
   simp only [Option.map_some, Option.getD_some]
   have ht2 : (hs.getD (i : Int).toNat ⟨0, 0, 0, 0⟩).sec = b.sec ∧ (hs.getD (i : Int).toNat ⟨0, 0, 0, 0⟩).dir = b.dir := by
    unfold toB at ht
    simpa using ht
   by_cases hp : (hs.getD (i : Int).toNat ⟨0, 0, 0, 0⟩).pt < 0
   ·rw [if_pos (by exact hp)]
    repeat' (first
     |with_reducible (first|refine q_and ?_ ?_|exact True.intro|exact TkEq.nil _|refine Red.o (by constructor) ?_|refine blockK_o' rfl ?_|refine LoopX_e' rfl ?_|assumption)
     |((with_reducible apply q_CI);intro hbq;(try simp only [bq] at hbq);(try (exfalso;omega)))
     |with_reducible (first|refine W_seq ?_|refine W_block ?_)
     |((with_reducible apply q_cond);refine X_cond rfl ?_ ?_;all_goals (intro hbq;(try simp only [bq] at hbq);(try (exfalso;omega))))
     |refine Rex.o (by (with_reducible constructor);apply Eq.refl) ?_
     |(intro (hgq : (_ : Bool) = true);(try simp only [bq] at hgq))
     |(intro (hgq : (_ : Bool) = false);(try simp only [bq] at hgq))
     |((with_reducible apply q_VOk);exact fun _ => ⟨rfl,rfl⟩)|(intro _;exact rfl)|((with_reducible apply q_CRB);kernel_rfl)|((with_reducible apply q_bt);simp only [bq])|((with_reducible apply q_eqN);rfl)|((with_reducible apply q_FE);exact rfl)|with_reducible (first|exact isByte_wrap _|exact isByte_nat _)|(simp only [hgq,bq];done)|omega|(dsimp only;omega))
    all_goals first | rfl | (exfalso; simp_all; done)
   ·rw [if_neg (by exact hp)]
    repeat' (first
     |with_reducible (first|refine q_and ?_ ?_|exact True.intro|exact TkEq.nil _|refine Red.o (by constructor) ?_|refine blockK_o' rfl ?_|refine LoopX_e' rfl ?_|assumption)
     |((with_reducible apply q_CI);intro hbq;(try simp only [bq] at hbq);(try (exfalso;omega)))
     |with_reducible (first|refine W_seq ?_|refine W_block ?_)
     |((with_reducible apply q_cond);refine X_cond rfl ?_ ?_;all_goals (intro hbq;(try simp only [bq] at hbq);(try (exfalso;omega))))
     |refine Rex.o (by (with_reducible constructor);apply Eq.refl) ?_
     |(intro (hgq : (_ : Bool) = true);(try simp only [bq] at hgq))
     |(intro (hgq : (_ : Bool) = false);(try simp only [bq] at hgq))
     |((with_reducible apply q_VOk);exact fun _ => ⟨rfl,rfl⟩)|(intro _;exact rfl)|((with_reducible apply q_CRB);kernel_rfl)|((with_reducible apply q_bt);simp only [bq])|((with_reducible apply q_eqN);rfl)|((with_reducible apply q_FE);exact rfl)|with_reducible (first|exact isByte_wrap _|exact isByte_nat _)|(simp only [hgq,bq];done)|omega|(dsimp only;omega))
    all_goals first | rfl | (exfalso; simp_all; done)
  ·have ht : toB b (hs.getD i ⟨0, 0, 0, 0⟩) = false := by simpa using ht
   have ht2 : ¬ ((hs.getD (i : Int).toNat ⟨0, 0, 0, 0⟩).sec = b.sec ∧ (hs.getD (i : Int).toNat ⟨0, 0, 0, 0⟩).dir = b.dir) := by
    unfold toB at ht
    simpa using ht
   repeat' (first
    |with_reducible (first|refine q_and ?_ ?_|exact True.intro|exact TkEq.nil _|refine Red.o (by constructor) ?_|refine blockK_o' rfl ?_|refine LoopX_e' rfl ?_|assumption)
    |((with_reducible apply q_CI);intro hbq;(try simp only [bq] at hbq);(try (exfalso;omega)))
    |with_reducible (first|refine W_seq ?_|refine W_block ?_)
    |((with_reducible apply q_cond);refine X_cond rfl ?_ ?_;all_goals (intro hbq;(try simp only [bq] at hbq);(try (exfalso;omega))))
    |refine Rex.o (by (with_reducible constructor);apply Eq.refl) ?_
    |(intro (hgq : (_ : Bool) = true);(try simp only [bq] at hgq))
    |(intro (hgq : (_ : Bool) = false);(try simp only [bq] at hgq))
    |((with_reducible apply q_VOk);exact fun _ => ⟨rfl,rfl⟩)|(intro _;exact rfl)|((with_reducible apply q_CRB);kernel_rfl)|((with_reducible apply q_bt);simp only [bq])|((with_reducible apply q_eqN);rfl)|((with_reducible apply q_FE);exact rfl)|with_reducible (first|exact isByte_wrap _|exact isByte_nat _)|(simp only [hgq,bq];done)|omega|(dsimp only;omega))
   all_goals first
    | (exfalso; omega)
    | (
     refine LoopK_n (i + 1) ?_ (⟨by omega, upto_succ hno ht⟩) (by (try dsimp only); omega)
     refine X_weak rfl rfl rfl ?_ ?_ <;> repeat' (first|with_reducible (first|refine Wk.o (by constructor) ?_|refine q_and ?_ ?_|exact True.intro)|refine q_AgS rfl ?_ ?_|exact CLe.nil_tipS|exact CLe.nil_rowS|refine HLe.cells ?_ ?_|refine HLe.els ?_ ?_|refine SLe.cons ?_ ?_|exact (rfl : known _ = _)|with_reducible rfl|omega)
     done)
 ·have hf := find_no (p := toB b) (d := ⟨0, 0, 0, 0⟩) (l := hs) (fun j hj => hno j (by omega))
  rw [hf]
  repeat' (first
   |with_reducible (first|refine q_and ?_ ?_|exact True.intro|exact TkEq.nil _|refine Red.o (by constructor) ?_|refine blockK_o' rfl ?_|refine LoopX_e' rfl ?_|assumption)
   |((with_reducible apply q_CI);intro hbq;(try simp only [bq] at hbq);(try (exfalso;omega)))
   |with_reducible (first|refine W_seq ?_|refine W_block ?_)
   |((with_reducible apply q_cond);refine X_cond rfl ?_ ?_;all_goals (intro hbq;(try simp only [bq] at hbq);(try (exfalso;omega))))
   |refine Rex.o (by (with_reducible constructor);apply Eq.refl) ?_
   |(intro (hgq : (_ : Bool) = true);(try simp only [bq] at hgq))
   |(intro (hgq : (_ : Bool) = false);(try simp only [bq] at hgq))
   |((with_reducible apply q_VOk);exact fun _ => ⟨rfl,rfl⟩)|(intro _;exact rfl)|((with_reducible apply q_CRB);kernel_rfl)|((with_reducible apply q_bt);simp only [bq])|((with_reducible apply q_eqN);rfl)|((with_reducible apply q_FE);exact rfl)|with_reducible (first|exact isByte_wrap _|exact isByte_nat _)|(simp only [hgq,bq];done)|omega|(dsimp only;omega))
  all_goals rfl
def seenR (L : Lay) (st : List Stp) (i : Nat) (q : Nat) : Bool := decide (L.secs.length ≤ q) && seenP L st i (q - L.secs.length)
theorem seenR_pt (L : Lay) (st : List Stp) (i p : Nat) : seenR L st i (L.secs.length + p) = seenP L st i p := by
 unfold seenR
 rw [decide_eq_true (by omega), Bool.true_and, show L.secs.length + p - L.secs.length = p by omega]
theorem seenR_step {L : Lay} {st : List Stp} {i : Nat} (h : ptI L st i < 0) (q : Nat) : seenR L st (i + 1) q = seenR L st i q := by
 unfold seenR
 rw [seenP_succ, decide_eq_false (show ¬ ptI L st i = ((q - L.secs.length : Nat) : Int) by omega), Bool.or_false]
theorem rFits_ok (L : Lay) (hL : LayFits L) (st : List Stp) (ov : Int) (hl : st.length ≤ 9223372036854775807) (ho : -9223372036854775808 ≤ ov ∧ ov ≤ 9223372036854775807) (nm : ByteArray) (l sp ac br : Int) : OkV Try.prog 12 [vLay L, vR2 st ov, vS5 nm l sp ac br] [] (vI (motErr L ⟨st, ov⟩ l sp ac br)) [] := by
 have hF := refFits_ok L hL st ov hl ho nm l sp ac br
 unfold motErr
 by_cases h : fitErr L ⟨st, ov⟩ l sp ac br = 0
 ·have hR := rte_of (cel_rte (fit_of h).1)
  have hV := valid_of hR.lay
  have hn := hR.len
  have h2 := hR.two
  have h3 := hR.ov0
  have hn2 := hV.n2
  have hn3 := hV.n3
  have hpr : ∀ i, i < st.length → -1 ≤ ptI L st i ∧ ptI L st i < L.pts.length := fun i hi => ptI_rng hR hi
  have hP : ∀ i, i + 1 < st.length → OkV Try.prog 29 [vLay L, vSt (st.getD (i : Int).toNat st0), vSt (st.getD ((i : Int) + 1).toNat st0)] [] (vI (if ptI L st (i + 1) < 0 then -1 else L.secs.length + ptI L st (i + 1))) [] := fun i hi => by
   have hj := join_at hR (i := i + 1) (by omega) hi
   have hp := pointOf_ok L (st.getD i st0) (st.getD (i + 1) st0) hV (fun k hk => by
    obtain ⟨k2, e, _, b⟩ := hj
    rw [show i + 1 - 1 = i by omega] at e
    simp only at e
    rw [hk] at e
    injection e with e
    rw [e]; exact b)
   unfold ptR at hp
   have ei : ptI L st (i + 1) = ((joinL L (st.getD i st0) (st.getD (i + 1) st0)).map Hop.pt).getD (-1) := by unfold ptI; rw [if_neg (by omega)]; rfl
   rw [ei, Int.toNat_natCast, show ((i : Int) + 1).toNat = i + 1 by omega]
   exact hp
  simp only at hn h2 h3
  rw [h] at hF
  rw [h, if_neg (by decide)]
  unfold vLay at hF hP ⊢
  have z2 : ptI L st 0 < 0 := by unfold ptI; rw [if_pos rfl]; decide
  have z1 : dupPA L st 0 = false := by unfold dupPA; rw [decide_eq_false (by omega), Bool.false_and]
  refine X_fn mixedX Try.func12 rfl (by kernel_rfl) (Nat.le_of_ble_eq_true (by kernel_rfl)) (by kernel_rfl) rfl rfl (Nat.le_of_ble_eq_true rfl) rfl rfl ?_
  simp only [sl0, Nat.zero_add, Nat.reduceAdd]
  repeat' (first
   |with_reducible (first|refine q_and ?_ ?_|exact True.intro|exact TkEq.nil _|refine Red.o (by constructor) ?_|refine blockK_o' rfl ?_|refine LoopX_e' rfl ?_|assumption)
   |((with_reducible apply q_call);refine X_pure (hF) rfl ?_)
   |((with_reducible apply q_CI);intro hbq;(try simp only [bq] at hbq);(try (exfalso;omega)))
   |with_reducible (first|refine W_seq ?_|refine W_block ?_)
   |((with_reducible apply q_cond);refine X_cond rfl ?_ ?_;all_goals (intro hbq;(try simp only [bq] at hbq);(try (exfalso;omega))))
   |refine Rex.o (by (with_reducible constructor);apply Eq.refl) ?_
   |(intro (hgq : (_ : Bool) = true);(try simp only [bq] at hgq))
   |(intro (hgq : (_ : Bool) = false);(try simp only [bq] at hgq))
   |((with_reducible apply q_VOk);exact fun _ => ⟨rfl,rfl⟩)|(intro _;exact rfl)|((with_reducible apply q_CRB);kernel_rfl)|((with_reducible apply q_bt);simp only [bq])|((with_reducible apply q_eqN);rfl)|((with_reducible apply q_FE);exact rfl)|with_reducible (first|exact isByte_wrap _|exact isByte_nat _)|(simp only [hgq,bq];done)|omega|(dsimp only;omega))
  clear hF
  refine W_loopS (fun i : Nat => SS [sC 3 (pB 0), sC 4 (pB 1), sC 8 (pB 3), sI 9 i] [bLay L, bRte st ov, none, bBool (rowT 144 (seenR L st (i + 1)))]) (fun i => i + 1 ≤ st.length ∧ ∀ j, j < i + 1 → dupPA L st j = false) (fun i => st.length - i) 0 ?_ ⟨by omega, fun j hj => by rw [show j = 0 by omega]; exact z1⟩ ?_
  ·
   refine X_weak rfl rfl rfl ?_ ?_ <;> repeat' (first|with_reducible (first|refine Wk.o (by constructor) ?_|refine q_and ?_ ?_|exact True.intro)|refine q_AgS rfl ?_ ?_|exact CLe.nil_tipS|exact CLe.nil_rowS|refine HLe.cells ?_ ?_|refine HLe.els ?_ ?_|refine SLe.cons ?_ ?_|exact (rfl : known _ = _)|with_reducible rfl|omega)
   all_goals first
    | rfl
    | (
     rw [rowT_rep]
     refine rowT_ext fun q hq => ?_
     rw [seenR_step z2]
     unfold seenR seenP
     rw [List.range_zero, List.any_nil, Bool.and_false])
  rintro i ⟨hi, hno⟩
  have hsl := rowT_len 144 (seenR L st (i + 1))
  by_cases hil : i + 1 < st.length
  ·have hpi := hpr (i + 1) hil
   have hPi := hP i hil
   by_cases h0 : 0 ≤ ptI L st (i + 1)
   ·rw [if_neg (by omega)] at hPi
    have hd := seenP_dup h0
    have hg2 : (rowT 144 (seenR L st (i + 1))).getD ((L.secs.length : Int) + ptI L st (i + 1)).toNat false = seenP L st (i + 1) (ptI L st (i + 1)).toNat := by
     rw [show ((L.secs.length : Int) + ptI L st (i + 1)).toNat = L.secs.length + (ptI L st (i + 1)).toNat by omega, ← seenR_pt]
     exact rowT_get (by omega)
    by_cases hs : seenP L st (i + 1) (ptI L st (i + 1)).toNat = true
    ·rw [hs] at hg2 hd
     rw [if_pos (dupP_yes hil hd)]
     repeat' (first
      |with_reducible (first|refine q_and ?_ ?_|exact True.intro|exact TkEq.nil _|refine Red.o (by constructor) ?_|refine blockK_o' rfl ?_|refine LoopX_e' rfl ?_|assumption)
      |((with_reducible apply q_call);refine X_pure (hPi) rfl ?_)
      |((with_reducible apply q_CI);intro hbq;(try simp only [bq,and_true,true_and,and_false,false_and,or_true,true_or,or_false,false_or,not_true_eq_false,not_false_eq_true,Bool.true_eq_false,Bool.false_eq_true,hg2] at hbq);(try (exfalso;omega)))
      |((with_reducible apply q_cond);refine X_cond rfl ?_ ?_;all_goals (intro hbq;(try simp only [bq,and_true,true_and,and_false,false_and,or_true,true_or,or_false,false_or,not_true_eq_false,not_false_eq_true,Bool.true_eq_false,Bool.false_eq_true,hg2] at hbq);(try (exfalso;omega))))
      |((with_reducible apply q_CI);intro hbq;(try simp only [bq] at hbq);(try (exfalso;omega)))
      |with_reducible (first|refine W_seq ?_|refine W_block ?_)
      |((with_reducible apply q_cond);refine X_cond rfl ?_ ?_;all_goals (intro hbq;(try simp only [bq] at hbq);(try (exfalso;omega))))
      |refine Rex.o (by (with_reducible constructor);apply Eq.refl) ?_
      |(intro (hgq : (_ : Bool) = true);(try simp only [bq] at hgq))
      |(intro (hgq : (_ : Bool) = false);(try simp only [bq] at hgq))
      |((with_reducible apply q_VOk);exact fun _ => ⟨rfl,rfl⟩)|(intro _;exact rfl)|((with_reducible apply q_CRB);kernel_rfl)|((with_reducible apply q_bt);simp only [bq])|((with_reducible apply q_eqN);rfl)|((with_reducible apply q_FE);exact rfl)|with_reducible (first|exact isByte_wrap _|exact isByte_nat _)|(simp only [hgq,bq];done)|omega|(dsimp only;omega))
     all_goals rfl
    ·have hs : seenP L st (i + 1) (ptI L st (i + 1)).toNat = false := by simpa using hs
     rw [hs] at hg2 hd
     repeat' (first
      |with_reducible (first|refine q_and ?_ ?_|exact True.intro|exact TkEq.nil _|refine Red.o (by constructor) ?_|refine blockK_o' rfl ?_|refine LoopX_e' rfl ?_|assumption)
      |((with_reducible apply q_call);refine X_pure (hPi) rfl ?_)
      |((with_reducible apply q_CI);intro hbq;(try simp only [bq,and_true,true_and,and_false,false_and,or_true,true_or,or_false,false_or,not_true_eq_false,not_false_eq_true,Bool.true_eq_false,Bool.false_eq_true,hg2] at hbq);(try (exfalso;omega)))
      |((with_reducible apply q_cond);refine X_cond rfl ?_ ?_;all_goals (intro hbq;(try simp only [bq,and_true,true_and,and_false,false_and,or_true,true_or,or_false,false_or,not_true_eq_false,not_false_eq_true,Bool.true_eq_false,Bool.false_eq_true,hg2] at hbq);(try (exfalso;omega))))
      |((with_reducible apply q_CI);intro hbq;(try simp only [bq] at hbq);(try (exfalso;omega)))
      |with_reducible (first|refine W_seq ?_|refine W_block ?_)
      |((with_reducible apply q_cond);refine X_cond rfl ?_ ?_;all_goals (intro hbq;(try simp only [bq] at hbq);(try (exfalso;omega))))
      |refine Rex.o (by (with_reducible constructor);apply Eq.refl) ?_
      |(intro (hgq : (_ : Bool) = true);(try simp only [bq] at hgq))
      |(intro (hgq : (_ : Bool) = false);(try simp only [bq] at hgq))
      |((with_reducible apply q_VOk);exact fun _ => ⟨rfl,rfl⟩)|(intro _;exact rfl)|((with_reducible apply q_CRB);kernel_rfl)|((with_reducible apply q_bt);simp only [bq])|((with_reducible apply q_eqN);rfl)|((with_reducible apply q_FE);exact rfl)|with_reducible (first|exact isByte_wrap _|exact isByte_nat _)|(simp only [hgq,bq];done)|omega|(dsimp only;omega))
     ·rfl
     ·
      refine LoopK_n (i + 1) ?_ (⟨by omega, upto_succ hno hd⟩) (by (try dsimp only); omega)
      refine X_weak rfl rfl rfl ?_ ?_ <;> repeat' (first|with_reducible (first|refine Wk.o (by constructor) ?_|refine q_and ?_ ?_|exact True.intro)|refine q_AgS rfl ?_ ?_|exact CLe.nil_tipS|exact CLe.nil_rowS|refine HLe.cells ?_ ?_|refine HLe.els ?_ ?_|refine SLe.cons ?_ ?_|exact (rfl : known _ = _)|with_reducible rfl|omega)
      all_goals (
       rw [show ((L.secs.length : Int) + ptI L st (i + 1)).toNat = L.secs.length + (ptI L st (i + 1)).toNat by omega]
       refine rowT_set (i := L.secs.length + (ptI L st (i + 1)).toNat) ?_ fun q hq hne => ?_
       ·rw [seenR_pt, seenP_succ, decide_eq_true (show ptI L st (i + 1) = ((ptI L st (i + 1)).toNat : Int) by omega), Bool.or_true]
       ·unfold seenR
        by_cases hlq : L.secs.length ≤ q
        ·rw [seenP_succ, decide_eq_false (show ¬ ptI L st (i + 1) = ((q - L.secs.length : Nat) : Int) by omega), Bool.or_false]
        ·rw [decide_eq_false hlq, Bool.false_and, Bool.false_and])
   ·rw [if_pos (by omega)] at hPi
    have hd : dupPA L st (i + 1) = false := by unfold dupPA; rw [decide_eq_false h0, Bool.false_and]
    repeat' (first
     |with_reducible (first|refine q_and ?_ ?_|exact True.intro|exact TkEq.nil _|refine Red.o (by constructor) ?_|refine blockK_o' rfl ?_|refine LoopX_e' rfl ?_|assumption)
     |((with_reducible apply q_call);refine X_pure (hPi) rfl ?_)
     |((with_reducible apply q_CI);intro hbq;(try simp only [bq] at hbq);(try (exfalso;omega)))
     |with_reducible (first|refine W_seq ?_|refine W_block ?_)
     |((with_reducible apply q_cond);refine X_cond rfl ?_ ?_;all_goals (intro hbq;(try simp only [bq] at hbq);(try (exfalso;omega))))
     |refine Rex.o (by (with_reducible constructor);apply Eq.refl) ?_
     |(intro (hgq : (_ : Bool) = true);(try simp only [bq] at hgq))
     |(intro (hgq : (_ : Bool) = false);(try simp only [bq] at hgq))
     |((with_reducible apply q_VOk);exact fun _ => ⟨rfl,rfl⟩)|(intro _;exact rfl)|((with_reducible apply q_CRB);kernel_rfl)|((with_reducible apply q_bt);simp only [bq])|((with_reducible apply q_eqN);rfl)|((with_reducible apply q_FE);exact rfl)|with_reducible (first|exact isByte_wrap _|exact isByte_nat _)|(simp only [hgq,bq];done)|omega|(dsimp only;omega))
    ·
     refine LoopK_n (i + 1) ?_ (⟨by omega, upto_succ hno hd⟩) (by (try dsimp only); omega)
     refine X_weak rfl rfl rfl ?_ ?_ <;> repeat' (first|with_reducible (first|refine Wk.o (by constructor) ?_|refine q_and ?_ ?_|exact True.intro)|refine q_AgS rfl ?_ ?_|exact CLe.nil_tipS|exact CLe.nil_rowS|refine HLe.cells ?_ ?_|refine HLe.els ?_ ?_|refine SLe.cons ?_ ?_|exact (rfl : known _ = _)|with_reducible rfl|omega)
     all_goals (
      refine rowT_ext fun q hq => ?_
      exact (seenR_step (i := i + 1) (by omega) q).symm)
  ·have hie : st.length = i + 1 := by omega
   rw [dupP_no (fun j hj => hno j (by omega)), if_neg (by decide)]
   repeat' (first
    |with_reducible (first|refine q_and ?_ ?_|exact True.intro|exact TkEq.nil _|refine Red.o (by constructor) ?_|refine blockK_o' rfl ?_|refine LoopX_e' rfl ?_|assumption)
    |((with_reducible apply q_CI);intro hbq;(try simp only [bq] at hbq);(try (exfalso;omega)))
    |with_reducible (first|refine W_seq ?_|refine W_block ?_)
    |((with_reducible apply q_cond);refine X_cond rfl ?_ ?_;all_goals (intro hbq;(try simp only [bq] at hbq);(try (exfalso;omega))))
    |refine Rex.o (by (with_reducible constructor);apply Eq.refl) ?_
    |(intro (hgq : (_ : Bool) = true);(try simp only [bq] at hgq))
    |(intro (hgq : (_ : Bool) = false);(try simp only [bq] at hgq))
    |((with_reducible apply q_VOk);exact fun _ => ⟨rfl,rfl⟩)|(intro _;exact rfl)|((with_reducible apply q_CRB);kernel_rfl)|((with_reducible apply q_bt);simp only [bq])|((with_reducible apply q_eqN);rfl)|((with_reducible apply q_FE);exact rfl)|with_reducible (first|exact isByte_wrap _|exact isByte_nat _)|(simp only [hgq,bq];done)|omega|(dsimp only;omega))
   all_goals rfl
 ·rw [if_pos h]
  unfold vLay at hF ⊢
  refine X_fn mixedX Try.func12 rfl (by kernel_rfl) (Nat.le_of_ble_eq_true (by kernel_rfl)) (by kernel_rfl) rfl rfl (Nat.le_of_ble_eq_true rfl) rfl rfl ?_
  simp only [sl0, Nat.zero_add, Nat.reduceAdd]
  repeat' (first
   |with_reducible (first|refine q_and ?_ ?_|exact True.intro|exact TkEq.nil _|refine Red.o (by constructor) ?_|refine blockK_o' rfl ?_|refine LoopX_e' rfl ?_|assumption)
   |((with_reducible apply q_call);refine X_pure (hF) rfl ?_)
   |((with_reducible apply q_CI);intro hbq;(try simp only [bq] at hbq);(try (exfalso;omega)))
   |with_reducible (first|refine W_seq ?_|refine W_block ?_)
   |((with_reducible apply q_cond);refine X_cond rfl ?_ ?_;all_goals (intro hbq;(try simp only [bq] at hbq);(try (exfalso;omega))))
   |refine Rex.o (by (with_reducible constructor);apply Eq.refl) ?_
   |(intro (hgq : (_ : Bool) = true);(try simp only [bq] at hgq))
   |(intro (hgq : (_ : Bool) = false);(try simp only [bq] at hgq))
   |((with_reducible apply q_VOk);exact fun _ => ⟨rfl,rfl⟩)|(intro _;exact rfl)|((with_reducible apply q_CRB);kernel_rfl)|((with_reducible apply q_bt);simp only [bq])|((with_reducible apply q_eqN);rfl)|((with_reducible apply q_FE);exact rfl)|with_reducible (first|exact isByte_wrap _|exact isByte_nat _)|(simp only [hgq,bq];done)|omega|(dsimp only;omega))
  all_goals rfl
theorem rPart_ok (st : List Stp) (ov : Int) (h24 : st.length ≤ 24) (h0 : 0 ≤ ov ∧ ov ≤ st.length) (a b : Nat) (hab : a < b) (hb : (b : Int) ≤ st.length - ov - 1) : OkV Try.prog 18 [vR2 st ov, .c (xI a), .c (xI b)] [] (vR2 (partR st ov a b).st (partR st ov a b).ov) [] := by
 have hla := rLast_ok st ov (by omega) (by omega)
 unfold partR
 by_cases e : (b : Int) = st.length - ov - 1
 ·rw [if_pos e]
  have hd : (st.drop (a : Int).toNat).length ≤ 24 := by rw [List.length_drop]; omega
  refine X_fnP mixedX Try.func18 rfl (by kernel_rfl) (Nat.le_of_ble_eq_true (by kernel_rfl)) (by kernel_rfl) rfl rfl ?_
  simp only [sl0, Nat.zero_add, Nat.reduceAdd]
  repeat' (first
   |with_reducible (first|refine q_and ?_ ?_|exact True.intro|exact TkEq.nil _|refine Red.o (by constructor) ?_|refine blockK_o' rfl ?_|refine LoopX_e' rfl ?_|assumption)
   |((with_reducible apply q_call);refine X_pure (hla) rfl ?_)
   |((with_reducible apply q_CI);intro hbq;(try simp only [bq] at hbq);(try (exfalso;omega)))
   |with_reducible (first|refine W_seq ?_|refine W_block ?_)
   |((with_reducible apply q_cond);refine X_cond rfl ?_ ?_;all_goals (intro hbq;(try simp only [bq] at hbq);(try (exfalso;omega))))
   |refine Rex.o (by (with_reducible constructor);apply Eq.refl) ?_
   |(intro (hgq : (_ : Bool) = true);(try simp only [bq] at hgq))
   |(intro (hgq : (_ : Bool) = false);(try simp only [bq] at hgq))
   |((with_reducible apply q_VOk);exact fun _ => ⟨rfl,rfl⟩)|(intro _;exact rfl)|((with_reducible apply q_CRB);kernel_rfl)|((with_reducible apply q_bt);simp only [bq])|((with_reducible apply q_eqN);rfl)|((with_reducible apply q_FE);exact rfl)|with_reducible (first|exact isByte_wrap _|exact isByte_nat _)|(simp only [hgq,bq];done)|omega|(dsimp only;omega))
  all_goals first | omega | rfl
 ·rw [if_neg e]
  have hd : ((st.drop (a : Int).toNat).take ((b : Int) + 1 - a).toNat).length ≤ 24 := by rw [List.length_take, List.length_drop]; omega
  have he : ((b : Int) + 1 - a).toNat = b + 1 - a := by omega
  refine X_fnP mixedX Try.func18 rfl (by kernel_rfl) (Nat.le_of_ble_eq_true (by kernel_rfl)) (by kernel_rfl) rfl rfl ?_
  simp only [sl0, Nat.zero_add, Nat.reduceAdd]
  repeat' (first
   |with_reducible (first|refine q_and ?_ ?_|exact True.intro|exact TkEq.nil _|refine Red.o (by constructor) ?_|refine blockK_o' rfl ?_|refine LoopX_e' rfl ?_|assumption)
   |((with_reducible apply q_call);refine X_pure (hla) rfl ?_)
   |((with_reducible apply q_CI);intro hbq;(try simp only [bq] at hbq);(try (exfalso;omega)))
   |with_reducible (first|refine W_seq ?_|refine W_block ?_)
   |((with_reducible apply q_cond);refine X_cond rfl ?_ ?_;all_goals (intro hbq;(try simp only [bq] at hbq);(try (exfalso;omega))))
   |refine Rex.o (by (with_reducible constructor);apply Eq.refl) ?_
   |(intro (hgq : (_ : Bool) = true);(try simp only [bq] at hgq))
   |(intro (hgq : (_ : Bool) = false);(try simp only [bq] at hgq))
   |((with_reducible apply q_VOk);exact fun _ => ⟨rfl,rfl⟩)|(intro _;exact rfl)|((with_reducible apply q_CRB);kernel_rfl)|((with_reducible apply q_bt);simp only [bq])|((with_reducible apply q_eqN);rfl)|((with_reducible apply q_FE);exact rfl)|with_reducible (first|exact isByte_wrap _|exact isByte_nat _)|(simp only [hgq,bq];done)|omega|(dsimp only;omega))
  all_goals first | omega | (rw [he]; rfl)
theorem rMake_bad (L : Lay) (hL : LayFits L) (st : List Stp) (ov : Int) (hl : st.length ≤ 9223372036854775807) (ho : -9223372036854775808 ≤ ov ∧ ov ≤ 9223372036854775807) (nm : ByteArray) (l sp ac br a b : Int) (h : ¬ makErr L st ov l sp ac br a b = 0) : OkV Try.prog 7 [vLay L, vR2 st ov, vS5 nm l sp ac br, .c (xI a), .c (xI b)] [] (.tup [.agg lPro0, .c (xI (makErr L st ov l sp ac br a b))]) [] := by
 have hF := rFits_ok L hL st ov hl ho nm l sp ac br
 unfold makErr at h ⊢
 by_cases hm : motErr L ⟨st, ov⟩ l sp ac br = 0
 ·have hR := rte_of (cel_rte (fit_of (mot_of hm).1).1)
  have g1 := hR.ov0
  have g2 := hR.ov
  have g3 := hR.len
  have g4 := hR.two
  simp only at g1 g2 g3 g4
  have hla := rLast_ok st ov hl (by omega)
  rw [hm] at hF h ⊢
  rw [if_neg (by decide)] at h ⊢
  have hc : a < 0 ∨ b ≤ a ∨ (st.length : Int) - ov - 1 < b := Classical.byContradiction fun hn => h (if_neg hn)
  rw [if_pos hc]
  unfold vLay at hF ⊢
  refine X_fnP mixedX Try.func7 rfl (by kernel_rfl) (Nat.le_of_ble_eq_true (by kernel_rfl)) (by kernel_rfl) rfl rfl ?_
  simp only [sl0, Nat.zero_add, Nat.reduceAdd]
  repeat' (first
   |with_reducible (first|refine q_and ?_ ?_|exact True.intro|exact TkEq.nil _|refine Red.o (by constructor) ?_|refine blockK_o' rfl ?_|refine LoopX_e' rfl ?_|assumption)
   |((with_reducible apply q_call);refine X_pure (hF) rfl ?_)
   |((with_reducible apply q_callG);refine X_pureG ((fun _ => hla)) rfl ?_ ?_)
   |((with_reducible apply q_CI);intro hbq;(try simp only [bq] at hbq);(try (exfalso;omega)))
   |with_reducible (first|refine W_seq ?_|refine W_block ?_)
   |((with_reducible apply q_cond);refine X_cond rfl ?_ ?_;all_goals (intro hbq;(try simp only [bq] at hbq);(try (exfalso;omega))))
   |refine Rex.o (by (with_reducible constructor);apply Eq.refl) ?_
   |(intro (hgq : (_ : Bool) = true);(try simp only [bq] at hgq))
   |(intro (hgq : (_ : Bool) = false);(try simp only [bq] at hgq))
   |((with_reducible apply q_VOk);exact fun _ => ⟨rfl,rfl⟩)|(intro _;exact rfl)|((with_reducible apply q_CRB);kernel_rfl)|((with_reducible apply q_bt);simp only [bq])|((with_reducible apply q_eqN);rfl)|((with_reducible apply q_FE);exact rfl)|with_reducible (first|exact isByte_wrap _|exact isByte_nat _)|(simp only [hgq,bq];done)|omega|(dsimp only;omega))
  all_goals rfl
 ·rw [if_pos hm]
  unfold vLay at hF ⊢
  refine X_fnP mixedX Try.func7 rfl (by kernel_rfl) (Nat.le_of_ble_eq_true (by kernel_rfl)) (by kernel_rfl) rfl rfl ?_
  simp only [sl0, Nat.zero_add, Nat.reduceAdd]
  repeat' (first
   |with_reducible (first|refine q_and ?_ ?_|exact True.intro|exact TkEq.nil _|refine Red.o (by constructor) ?_|refine blockK_o' rfl ?_|refine LoopX_e' rfl ?_|assumption)
   |((with_reducible apply q_call);refine X_pure (hF) rfl ?_)
   |((with_reducible apply q_CI);intro hbq;(try simp only [bq] at hbq);(try (exfalso;omega)))
   |with_reducible (first|refine W_seq ?_|refine W_block ?_)
   |((with_reducible apply q_cond);refine X_cond rfl ?_ ?_;all_goals (intro hbq;(try simp only [bq] at hbq);(try (exfalso;omega))))
   |refine Rex.o (by (with_reducible constructor);apply Eq.refl) ?_
   |(intro (hgq : (_ : Bool) = true);(try simp only [bq] at hgq))
   |(intro (hgq : (_ : Bool) = false);(try simp only [bq] at hgq))
   |((with_reducible apply q_VOk);exact fun _ => ⟨rfl,rfl⟩)|(intro _;exact rfl)|((with_reducible apply q_CRB);kernel_rfl)|((with_reducible apply q_bt);simp only [bq])|((with_reducible apply q_eqN);rfl)|((with_reducible apply q_FE);exact rfl)|with_reducible (first|exact isByte_wrap _|exact isByte_nat _)|(simp only [hgq,bq];done)|omega|(dsimp only;omega))
  all_goals rfl
theorem rMake_ok (L : Lay) (hL : LayFits L) (st : List Stp) (ov : Int) (hl : st.length ≤ 9223372036854775807) (ho : -9223372036854775808 ≤ ov ∧ ov ≤ 9223372036854775807) (nm : ByteArray) (l sp ac br : Int) (a b : Nat) (hm : motErr L ⟨st, ov⟩ l sp ac br = 0) (hab : a < b) (hb : (b : Int) ≤ st.length - ov - 1) : OkV Try.prog 7 [vLay L, vR2 st ov, vS5 nm l sp ac br, .c (xI a), .c (xI b)] [] (.tup [.agg (lPro L (partR st ov a b) l sp ac br a b), .c (xI 0)]) [] := by
 have hF := rFits_ok L hL st ov hl ho nm l sp ac br
 have h := (mot_of hm).1
 have hR := rte_of (cel_rte (fit_of h).1)
 have g1 := hR.ov0
 have g2 := hR.ov
 have g3 := hR.len
 simp only at g1 g2 g3
 have hf := partR_fit h hab hb
 have hpl := partR_len h hab hb
 have hla := rLast_ok st ov (by omega) (by omega)
 have hPt := rPart_ok st ov (by omega) (by omega) a b hab hb
 have hps : (partR st ov a b).st.length ≤ 24 := by unfold partR; split <;> simp only [List.length_take, List.length_drop] <;> omega
 have hpo : (partR st ov a b).ov = if (b : Int) = st.length - ov - 1 then ov else 0 := by unfold partR; split <;> rfl
 have hov : ∀ n, ovlF L (partR st ov a b) l sp ac br n = if (b : Int) = st.length - ov - 1 ∧ 0 < ov then entF L (partR st ov a b) l sp ac br n / 1000 - 16 else 0 := fun n => by
  unfold ovlF
  rw [hpo]
  by_cases e : (b : Int) = st.length - ov - 1
  ·rw [if_pos e]
   by_cases e2 : 0 < ov
   ·rw [if_pos e2, if_pos ⟨e, e2⟩]
   ·rw [if_neg e2, if_neg (fun h => e2 h.2)]
  ·rw [if_neg e, if_neg (by decide), if_neg (fun h => e h.1)]
 rw [hm] at hF
 clear hR
 unfold lPro
 rw [hov]
 clear hov
 have hpb : -9223372036854775808 ≤ (partR st ov a b).ov ∧ (partR st ov a b).ov ≤ 9223372036854775807 := by rw [hpo]; split <;> omega
 generalize partR st ov a b = pr at *
 obtain ⟨ps, po⟩ := pr
 simp only at hPt hps hpb
 have hT := passing_ok L hL ps po (by omega) hpb nm l sp ac br hf
 have hRd := ride_of hf
 have hE1 := row_len (trv ⟨ps, po⟩).length fun k => rideT L ⟨ps, po⟩ l sp ac br (endA L (trv ⟨ps, po⟩) (k - 1))
 have hL1 := row_len (trv ⟨ps, po⟩).length (levF L ⟨ps, po⟩ l sp ac br)
 change (entL L ⟨ps, po⟩ l sp ac br (trv ⟨ps, po⟩).length).length = _ at hE1
 change (levL L ⟨ps, po⟩ l sp ac br (trv ⟨ps, po⟩).length).length = _ at hL1
 have hE2 : ∀ k, k < b - a + 1 → (entL L ⟨ps, po⟩ l sp ac br (trv ⟨ps, po⟩).length).getD k 0 = entF L ⟨ps, po⟩ l sp ac br k ∧ 0 ≤ entF L ⟨ps, po⟩ l sp ac br k ∧ entF L ⟨ps, po⟩ l sp ac br k ≤ 80000000 := fun k hk => ⟨row_get (by omega), (prof_rng hRd (by omega)).1, (prof_rng hRd (by omega)).2.1⟩
 have hL2 : ∀ k, k < b - a + 1 → (levL L ⟨ps, po⟩ l sp ac br (trv ⟨ps, po⟩).length).getD k 0 = levF L ⟨ps, po⟩ l sp ac br k ∧ 0 ≤ levF L ⟨ps, po⟩ l sp ac br k ∧ levF L ⟨ps, po⟩ l sp ac br k ≤ 80000000 := fun k hk => ⟨row_get (by omega), (prof_rng hRd (by omega)).2.2⟩
 have hN : ∀ k, k < b - a + 1 → needF L ⟨ps, po⟩ l sp ac br k = (entF L ⟨ps, po⟩ l sp ac br k) / 1000 - 16 := fun k hk => rfl
 have hPa : ∀ k, passF L ⟨ps, po⟩ l sp ac br k = (entF L ⟨ps, po⟩ l sp ac br (k + 1)) / 1000 := fun k => rfl
 have hCl : ∀ k, clrF L ⟨ps, po⟩ l sp ac br k = (levF L ⟨ps, po⟩ l sp ac br k + 999) / 1000 + 4 := fun k => rfl
 clear hRd hf
 generalize needF L ⟨ps, po⟩ l sp ac br = F1 at *
 generalize passF L ⟨ps, po⟩ l sp ac br = F2 at *
 generalize clrF L ⟨ps, po⟩ l sp ac br = F3 at *
 generalize entF L ⟨ps, po⟩ l sp ac br = E1 at *
 generalize levF L ⟨ps, po⟩ l sp ac br = E2 at *
 generalize entL L ⟨ps, po⟩ l sp ac br (trv ⟨ps, po⟩).length = es at *
 generalize levL L ⟨ps, po⟩ l sp ac br (trv ⟨ps, po⟩).length = lv at *
 generalize runI L ⟨ps, po⟩ l sp ac br = run at *
 have hE1 : es.length = b - a + 1 := hE1.trans hpl
 have hL1 : lv.length = b - a + 1 := hL1.trans hpl
 clear hpl hpo
 unfold vLay at hF hT ⊢
 refine X_fnP mixedX Try.func7 rfl (by kernel_rfl) (Nat.le_of_ble_eq_true (by kernel_rfl)) (by kernel_rfl) rfl rfl ?_
 simp only [sl0, Nat.zero_add, Nat.reduceAdd]
 repeat' (first
  |with_reducible (first|refine q_and ?_ ?_|exact True.intro|exact TkEq.nil _|refine Red.o (by constructor) ?_|refine blockK_o' rfl ?_|refine LoopX_e' rfl ?_|assumption)
  |((with_reducible apply q_call);first|refine X_pure (hF) rfl ?_|refine X_pure (hPt) rfl ?_|refine X_pure (hT) rfl ?_)
  |((with_reducible apply q_callG);refine X_pureG ((fun _ => hla)) rfl ?_ ?_)
  |((with_reducible apply q_CI);intro hbq;(try simp only [bq] at hbq);(try (exfalso;omega)))
  |with_reducible (first|refine W_seq ?_|refine W_block ?_)
  |((with_reducible apply q_cond);refine X_cond rfl ?_ ?_;all_goals (intro hbq;(try simp only [bq] at hbq);(try (exfalso;omega))))
  |refine Rex.o (by (with_reducible constructor);apply Eq.refl) ?_
  |(intro (hgq : (_ : Bool) = true);(try simp only [bq] at hgq))
  |(intro (hgq : (_ : Bool) = false);(try simp only [bq] at hgq))
  |((with_reducible apply q_VOk);exact fun _ => ⟨rfl,rfl⟩)|(intro _;exact rfl)|((with_reducible apply q_CRB);kernel_rfl)|((with_reducible apply q_bt);simp only [bq])|((with_reducible apply q_eqN);rfl)|((with_reducible apply q_FE);exact rfl)|with_reducible (first|exact isByte_wrap _|exact isByte_nat _)|(simp only [hgq,bq];done)|omega|(dsimp only;omega))
 clear hF hT hPt
 refine W_loopS (fun k : Nat => SS [sI 4 b, sC 6 (pB 1), sC 10 (pB 3), sC 13 (rInt es), sC 14 (rInt lv), sC 17 (pB 4), sI 18 ((b : Int) - a), sI 19 k] [none, bRte st ov, none, some (.cells [xI 0, xI 0, .c (.f .nils), .c (.f .nils), .c (.f .nils), xI 0, xI 0]), some (.cells [xI a, xI b, tInt (row k F1), tInt (row k F2), tInt (row k F3), xI 0, xI run])]) (fun k => k ≤ b - a) (fun k => b - a - k) 0 ?_ (by omega) ?_
 ·
  refine X_weak rfl rfl rfl ?_ ?_ <;> repeat' (first|with_reducible (first|refine Wk.o (by constructor) ?_|refine q_and ?_ ?_|exact True.intro)|refine q_AgS rfl ?_ ?_|exact CLe.nil_tipS|exact CLe.nil_rowS|refine HLe.cells ?_ ?_|refine HLe.els ?_ ?_|refine SLe.cons ?_ ?_|exact (rfl : known _ = _)|with_reducible rfl|omega)
  all_goals rfl
 intro k hk
 have q1 := row_len k F1
 have q2 := row_len k F2
 have q3 := row_len k F3
 have m1 : es.getD (k : Int).toNat 0 = E1 k := (hE2 k (by omega)).1
 have m2 := (hE2 k (by omega)).2
 have n1 : lv.getD (k : Int).toNat 0 = E2 k := (hL2 k (by omega)).1
 have n2 := (hL2 k (by omega)).2
 by_cases hkn : k < b - a
 ·have m3 : es.getD ((k : Int) + 1).toNat 0 = E1 (k + 1) := (hE2 (k + 1) (by omega)).1
  have m4 := (hE2 (k + 1) (by omega)).2
  repeat' (first
   |with_reducible (first|refine q_and ?_ ?_|exact True.intro|exact TkEq.nil _|refine Red.o (by constructor) ?_|refine blockK_o' rfl ?_|refine LoopX_e' rfl ?_|assumption)
   |((with_reducible apply q_CI);intro hbq;(try simp only [bq] at hbq);(try (exfalso;omega)))
   |with_reducible (first|refine W_seq ?_|refine W_block ?_)
   |((with_reducible apply q_cond);refine X_cond rfl ?_ ?_;all_goals (intro hbq;(try simp only [bq] at hbq);(try (exfalso;omega))))
   |refine Rex.o (by (with_reducible constructor);apply Eq.refl) ?_
   |(intro (hgq : (_ : Bool) = true);(try simp only [bq] at hgq))
   |(intro (hgq : (_ : Bool) = false);(try simp only [bq] at hgq))
   |((with_reducible apply q_VOk);exact fun _ => ⟨rfl,rfl⟩)|(intro _;exact rfl)|((with_reducible apply q_CRB);kernel_rfl)|((with_reducible apply q_bt);simp only [bq])|((with_reducible apply q_eqN);rfl)|((with_reducible apply q_FE);exact rfl)|with_reducible (first|exact isByte_wrap _|exact isByte_nat _)|(simp only [hgq,bq];done)|omega|(dsimp only;omega))
  ·
   refine LoopK_n (k + 1) ?_ ((by omega)) (by (try dsimp only); omega)
   refine X_weak rfl rfl rfl ?_ ?_ <;> repeat' (first|with_reducible (first|refine Wk.o (by constructor) ?_|refine q_and ?_ ?_|exact True.intro)|refine q_AgS rfl ?_ ?_|exact CLe.nil_tipS|exact CLe.nil_rowS|refine HLe.cells ?_ ?_|refine HLe.els ?_ ?_|refine SLe.cons ?_ ?_|exact (rfl : known _ = _)|with_reducible rfl|omega)
   ·rw [row_snoc k F1, hN k (by omega), m1]; simp [fInt, fI]
   ·rw [row_len, row_len]
   ·rw [row_snoc k F2, hPa k, m3]; simp [fInt, fI]
   ·rw [row_len, row_len]
   ·rw [row_snoc k F3, hCl k, n1]; simp [fInt, fI]
   ·rw [row_len, row_len]
 ·have hke : k = b - a := by omega
  subst hke
  have e3 : es.getD ((b : Int) - a).toNat 0 = E1 (b - a) := by rw [← m1]; congr 1; omega
  by_cases e : (b : Int) = st.length - ov - 1 ∧ 0 < ov
  ·rw [if_pos e]
   repeat' (first
    |with_reducible (first|refine q_and ?_ ?_|exact True.intro|exact TkEq.nil _|refine Red.o (by constructor) ?_|refine blockK_o' rfl ?_|refine LoopX_e' rfl ?_|assumption)
    |((with_reducible apply q_call);refine X_pure (hla) rfl ?_)
    |((with_reducible apply q_CI);intro hbq;(try simp only [bq] at hbq);(try (exfalso;omega)))
    |with_reducible (first|refine W_seq ?_|refine W_block ?_)
    |((with_reducible apply q_cond);refine X_cond rfl ?_ ?_;all_goals (intro hbq;(try simp only [bq] at hbq);(try (exfalso;omega))))
    |refine Rex.o (by (with_reducible constructor);apply Eq.refl) ?_
    |(intro (hgq : (_ : Bool) = true);(try simp only [bq] at hgq))
    |(intro (hgq : (_ : Bool) = false);(try simp only [bq] at hgq))
    |((with_reducible apply q_VOk);exact fun _ => ⟨rfl,rfl⟩)|(intro _;exact rfl)|((with_reducible apply q_CRB);kernel_rfl)|((with_reducible apply q_bt);simp only [bq])|((with_reducible apply q_eqN);rfl)|((with_reducible apply q_FE);exact rfl)|with_reducible (first|exact isByte_wrap _|exact isByte_nat _)|(simp only [hgq,bq];done)|omega|(dsimp only;omega))
   all_goals first
    | (rw [e3]; omega)
    | (rw [e3]; rfl)
  ·rw [if_neg e]
   repeat' (first
    |with_reducible (first|refine q_and ?_ ?_|exact True.intro|exact TkEq.nil _|refine Red.o (by constructor) ?_|refine blockK_o' rfl ?_|refine LoopX_e' rfl ?_|assumption)
    |((with_reducible apply q_call);refine X_pure (hla) rfl ?_)
    |((with_reducible apply q_CI);intro hbq;(try simp only [bq] at hbq);(try (exfalso;omega)))
    |with_reducible (first|refine W_seq ?_|refine W_block ?_)
    |((with_reducible apply q_cond);refine X_cond rfl ?_ ?_;all_goals (intro hbq;(try simp only [bq] at hbq);(try (exfalso;omega))))
    |refine Rex.o (by (with_reducible constructor);apply Eq.refl) ?_
    |(intro (hgq : (_ : Bool) = true);(try simp only [bq] at hgq))
    |(intro (hgq : (_ : Bool) = false);(try simp only [bq] at hgq))
    |((with_reducible apply q_VOk);exact fun _ => ⟨rfl,rfl⟩)|(intro _;exact rfl)|((with_reducible apply q_CRB);kernel_rfl)|((with_reducible apply q_bt);simp only [bq])|((with_reducible apply q_eqN);rfl)|((with_reducible apply q_FE);exact rfl)|with_reducible (first|exact isByte_wrap _|exact isByte_nat _)|(simp only [hgq,bq];done)|omega|(dsimp only;omega))
   all_goals first
    | rfl
    | (exfalso; omega)
theorem refI_step (g : Nat → Int) (m : Nat) (N : Nat → Nat → Int) (a : Nat) (d : Int) {i : Nat} (h : i ≤ m) : refI g m N a d (m + 1) i = if d + N a (i - a - 1) < g i then i else refI g m N a d (m + 1) (i + 1) := by
 rw [← refI_f g m N a d m (m + 1) (i + 1) (by omega) (by omega)]
 rw [refI, if_neg (by omega)]
theorem refI_end (g : Nat → Int) (m : Nat) (N : Nat → Nat → Int) (a : Nat) (d : Int) : refI g m N a d (m + 1) (m + 1) = 0 := by
 rw [refI, if_pos (by omega)]
theorem legR_le (g : Nat → Int) (m : Nat) (N : Nat → Nat → Int) {a : Nat} (x : Int) (h : a < m) : legR g m N a x ≤ m := by
 unfold legR
 rcases Nat.lt_or_ge m (a + 2) with h1 | h1
 ·rw [refI, if_pos (by omega)]; omega
 ·rw [refI_f g m N a (legD g a x) (m + 1) (m + 1 - (a + 2)) (a + 2) (by omega) (by omega)]
  rcases refI_of g m N a (legD g a x) (m + 1 - (a + 2)) (a + 2) (by omega) with ⟨h2, _⟩ | ⟨h2, h3, _⟩
  ·rw [h2]; omega
  ·exact h3
theorem bounded_ok (x : Int) : OkV Try.prog 21 [.c (xI x)] [] (vB (secB4 x)) [] := by
 unfold secB4
 refine X_fn mixedX Try.func21 rfl (by kernel_rfl) (Nat.le_of_ble_eq_true (by kernel_rfl)) (by kernel_rfl) rfl rfl (Nat.le_of_ble_eq_true rfl) rfl rfl ?_
 simp only [sl0, Nat.zero_add, Nat.reduceAdd]
 repeat' (first
  |with_reducible (first|refine q_and ?_ ?_|exact True.intro|exact TkEq.nil _|refine Red.o (by constructor) ?_|refine blockK_o' rfl ?_|refine LoopX_e' rfl ?_|assumption)
  |((with_reducible apply q_CI);intro hbq;(try simp only [bq] at hbq);(try (exfalso;omega)))
  |with_reducible (first|refine W_seq ?_|refine W_block ?_)
  |((with_reducible apply q_cond);refine X_cond rfl ?_ ?_;all_goals (intro hbq;(try simp only [bq] at hbq);(try (exfalso;omega))))
  |refine Rex.o (by (with_reducible constructor);apply Eq.refl) ?_
  |(intro (hgq : (_ : Bool) = true);(try simp only [bq] at hgq))
  |(intro (hgq : (_ : Bool) = false);(try simp only [bq] at hgq))
  |((with_reducible apply q_VOk);exact fun _ => ⟨rfl,rfl⟩)|(intro _;exact rfl)|((with_reducible apply q_CRB);kernel_rfl)|((with_reducible apply q_bt);simp only [bq])|((with_reducible apply q_eqN);rfl)|((with_reducible apply q_FE);exact rfl)|with_reducible (first|exact isByte_wrap _|exact isByte_nat _)|(simp only [hgq,bq];done)|omega|(dsimp only;omega))
 repeat' (first|with_reducible (first|refine Wk.o (by constructor) ?_|refine q_and ?_ ?_|exact True.intro)|refine VEq.c ?_|refine VEq.agg ?_|refine VEq.tup ?_|refine TkEq.cells ?_ ?_|refine TkEq.els ?_ ?_|refine SEqL.cons ?_ ?_|refine TEqL.agg ?_ ?_|refine CEq.rows ?_|refine CEq.int ?_|rfl|omega)
theorem rWalk_bad (L : Lay) (hL : LayFits L) (st : List Stp) (ov : Int) (hl : st.length ≤ 9223372036854775807) (ho : -9223372036854775808 ≤ ov ∧ ov ≤ 9223372036854775807) (nm : ByteArray) (l sp ac br rd late : Int) (gs : List Int) (hgl : gs.length ≤ 9223372036854775807) (h : ¬ wlkErr L st ov l sp ac br gs rd late = 0) : OkV Try.prog 9 [vLay L, vR2 st ov, vS5 nm l sp ac br, .c (xI rd), .c (rInt gs), .c (xI late)] [] (.tup [.c (rLeg []), .c (xI (wlkErr L st ov l sp ac br gs rd late))]) [] := by
 have hF := rFits_ok L hL st ov hl ho nm l sp ac br
 unfold wlkErr at h ⊢
 by_cases hm : motErr L ⟨st, ov⟩ l sp ac br = 0
 ·have hR := rte_of (cel_rte (fit_of (mot_of hm).1).1)
  have g1 := hR.ov0
  have g2 := hR.ov
  have g3 := hR.len
  have g4 := hR.two
  simp only at g1 g2 g3 g4
  have hla := rLast_ok st ov hl (by omega)
  rw [hm] at hF h ⊢
  rw [if_neg (by decide)] at h ⊢
  by_cases hg : (gs.length : Int) = st.length - ov
  ·rw [if_neg (by simpa using hg)] at h ⊢
   have hb : (secB4 rd && secB4 late && gs.all secB4) = false := Classical.byContradiction fun hn => h (if_neg hn)
   rw [if_pos hb]
   have s1 := bounded_ok rd
   have s2 := bounded_ok late
   have s3 := fun i => bounded_ok (gs.getD i 0)
   unfold vLay at hF ⊢
   refine X_fn mixedX Try.func9 rfl (by kernel_rfl) (Nat.le_of_ble_eq_true (by kernel_rfl)) (by kernel_rfl) rfl rfl (Nat.le_of_ble_eq_true rfl) rfl rfl ?_
   simp only [sl0, Nat.zero_add, Nat.reduceAdd]
   repeat' (first
    |with_reducible (first|refine q_and ?_ ?_|exact True.intro|exact TkEq.nil _|refine Red.o (by constructor) ?_|refine blockK_o' rfl ?_|refine LoopX_e' rfl ?_|assumption)
    |((with_reducible apply q_call);first|refine X_pure (hF) rfl ?_|refine X_pure (hla) rfl ?_)
    |((with_reducible apply q_CI);intro hbq;(try simp only [bq] at hbq);(try (exfalso;omega)))
    |with_reducible (first|refine W_seq ?_|refine W_block ?_)
    |((with_reducible apply q_cond);refine X_cond rfl ?_ ?_;all_goals (intro hbq;(try simp only [bq] at hbq);(try (exfalso;omega))))
    |refine Rex.o (by (with_reducible constructor);apply Eq.refl) ?_
    |(intro (hgq : (_ : Bool) = true);(try simp only [bq] at hgq))
    |(intro (hgq : (_ : Bool) = false);(try simp only [bq] at hgq))
    |((with_reducible apply q_VOk);exact fun _ => ⟨rfl,rfl⟩)|(intro _;exact rfl)|((with_reducible apply q_CRB);kernel_rfl)|((with_reducible apply q_bt);simp only [bq])|((with_reducible apply q_eqN);rfl)|((with_reducible apply q_FE);exact rfl)|with_reducible (first|exact isByte_wrap _|exact isByte_nat _)|(simp only [hgq,bq];done)|omega|(dsimp only;omega))
   clear hF hla
   refine W_loopS (fun i : Nat => SS [sI 3 rd, sI 5 late, sC 43 (rInt gs), sI 44 gs.length, sI 45 i] [none, none, none]) (fun i => i ≤ gs.length ∧ ∀ j, j < i → secB4 (gs.getD j 0) = true) (fun i => gs.length - i) 0 ?_ ⟨by omega, fun j hj => by omega⟩ ?_
   ·
    refine X_weak rfl rfl rfl ?_ ?_ <;> repeat' (first|with_reducible (first|refine Wk.o (by constructor) ?_|refine q_and ?_ ?_|exact True.intro)|refine q_AgS rfl ?_ ?_|exact CLe.nil_tipS|exact CLe.nil_rowS|refine HLe.cells ?_ ?_|refine HLe.els ?_ ?_|refine SLe.cons ?_ ?_|exact (rfl : known _ = _)|with_reducible rfl|omega)
    all_goals rfl
   rintro i ⟨hi, hno⟩
   by_cases hil : i < gs.length
   ·have s4 : OkV Try.prog 21 [.c (xI (gs.getD (i : Int).toNat 0))] [] (vB (secB4 (gs.getD i 0))) [] := s3 i
    by_cases h3 : secB4 (gs.getD i 0) = true
    ·rw [h3] at s4
     repeat' (first
      |with_reducible (first|refine q_and ?_ ?_|exact True.intro|exact TkEq.nil _|refine Red.o (by constructor) ?_|refine blockK_o' rfl ?_|refine LoopX_e' rfl ?_|assumption)
      |((with_reducible apply q_call);refine X_pure (s4) rfl ?_)
      |((with_reducible apply q_CI);intro hbq;(try simp only [bq] at hbq);(try (exfalso;omega)))
      |with_reducible (first|refine W_seq ?_|refine W_block ?_)
      |((with_reducible apply q_cond);refine X_cond rfl ?_ ?_;all_goals (intro hbq;(try simp only [bq] at hbq);(try (exfalso;omega))))
      |refine Rex.o (by (with_reducible constructor);apply Eq.refl) ?_
      |(intro (hgq : (_ : Bool) = true);(try simp only [bq] at hgq))
      |(intro (hgq : (_ : Bool) = false);(try simp only [bq] at hgq))
      |((with_reducible apply q_VOk);exact fun _ => ⟨rfl,rfl⟩)|(intro _;exact rfl)|((with_reducible apply q_CRB);kernel_rfl)|((with_reducible apply q_bt);simp only [bq])|((with_reducible apply q_eqN);rfl)|((with_reducible apply q_FE);exact rfl)|with_reducible (first|exact isByte_wrap _|exact isByte_nat _)|(simp only [hgq,bq];done)|omega|(dsimp only;omega))
     ·
      refine LoopK_n (i + 1) ?_ (⟨by omega, upto_succ hno h3⟩) (by (try dsimp only); omega)
      refine X_weak rfl rfl rfl ?_ ?_ <;> repeat' (first|with_reducible (first|refine Wk.o (by constructor) ?_|refine q_and ?_ ?_|exact True.intro)|refine q_AgS rfl ?_ ?_|exact CLe.nil_tipS|exact CLe.nil_rowS|refine HLe.cells ?_ ?_|refine HLe.els ?_ ?_|refine SLe.cons ?_ ?_|exact (rfl : known _ = _)|with_reducible rfl|omega)
    ·have h3 : secB4 (gs.getD i 0) = false := by simpa using h3
     rw [h3] at s4
     repeat' (first
      |with_reducible (first|refine q_and ?_ ?_|exact True.intro|exact TkEq.nil _|refine Red.o (by constructor) ?_|refine blockK_o' rfl ?_|refine LoopX_e' rfl ?_|assumption)
      |((with_reducible apply q_call);refine X_pure (s4) rfl ?_)
      |((with_reducible apply q_CI);intro hbq;(try simp only [bq] at hbq);(try (exfalso;omega)))
      |with_reducible (first|refine W_seq ?_|refine W_block ?_)
      |((with_reducible apply q_cond);refine X_cond rfl ?_ ?_;all_goals (intro hbq;(try simp only [bq] at hbq);(try (exfalso;omega))))
      |refine Rex.o (by (with_reducible constructor);apply Eq.refl) ?_
      |(intro (hgq : (_ : Bool) = true);(try simp only [bq] at hgq))
      |(intro (hgq : (_ : Bool) = false);(try simp only [bq] at hgq))
      |((with_reducible apply q_VOk);exact fun _ => ⟨rfl,rfl⟩)|(intro _;exact rfl)|((with_reducible apply q_CRB);kernel_rfl)|((with_reducible apply q_bt);simp only [bq])|((with_reducible apply q_eqN);rfl)|((with_reducible apply q_FE);exact rfl)|with_reducible (first|exact isByte_wrap _|exact isByte_nat _)|(simp only [hgq,bq];done)|omega|(dsimp only;omega))
     all_goals rfl
   ·rw [gs_some fun j hj => hno j (by omega), Bool.and_true] at hb
    by_cases h1 : secB4 rd = true
    ·rw [h1, Bool.true_and] at hb
     rw [h1] at s1
     rw [hb] at s2
     repeat' (first
      |with_reducible (first|refine q_and ?_ ?_|exact True.intro|exact TkEq.nil _|refine Red.o (by constructor) ?_|refine blockK_o' rfl ?_|refine LoopX_e' rfl ?_|assumption)
      |((with_reducible apply q_call);refine X_pure (s1) rfl ?_)
      |((with_reducible apply q_callG);refine X_pureG ((fun _ => s2)) rfl ?_ ?_)
      |((with_reducible apply q_CI);intro hbq;(try simp only [bq] at hbq);(try (exfalso;omega)))
      |with_reducible (first|refine W_seq ?_|refine W_block ?_)
      |((with_reducible apply q_cond);refine X_cond rfl ?_ ?_;all_goals (intro hbq;(try simp only [bq] at hbq);(try (exfalso;omega))))
      |refine Rex.o (by (with_reducible constructor);apply Eq.refl) ?_
      |(intro (hgq : (_ : Bool) = true);(try simp only [bq] at hgq))
      |(intro (hgq : (_ : Bool) = false);(try simp only [bq] at hgq))
      |((with_reducible apply q_VOk);exact fun _ => ⟨rfl,rfl⟩)|(intro _;exact rfl)|((with_reducible apply q_CRB);kernel_rfl)|((with_reducible apply q_bt);simp only [bq])|((with_reducible apply q_eqN);rfl)|((with_reducible apply q_FE);exact rfl)|with_reducible (first|exact isByte_wrap _|exact isByte_nat _)|(simp only [hgq,bq];done)|omega|(dsimp only;omega))
     all_goals rfl
    ·have h1 : secB4 rd = false := by simpa using h1
     rw [h1] at s1
     repeat' (first
      |with_reducible (first|refine q_and ?_ ?_|exact True.intro|exact TkEq.nil _|refine Red.o (by constructor) ?_|refine blockK_o' rfl ?_|refine LoopX_e' rfl ?_|assumption)
      |((with_reducible apply q_call);refine X_pure (s1) rfl ?_)
      |((with_reducible apply q_callG);refine X_pureG ((fun _ => s2)) rfl ?_ ?_)
      |((with_reducible apply q_CI);intro hbq;(try simp only [bq] at hbq);(try (exfalso;omega)))
      |with_reducible (first|refine W_seq ?_|refine W_block ?_)
      |((with_reducible apply q_cond);refine X_cond rfl ?_ ?_;all_goals (intro hbq;(try simp only [bq] at hbq);(try (exfalso;omega))))
      |refine Rex.o (by (with_reducible constructor);apply Eq.refl) ?_
      |(intro (hgq : (_ : Bool) = true);(try simp only [bq] at hgq))
      |(intro (hgq : (_ : Bool) = false);(try simp only [bq] at hgq))
      |((with_reducible apply q_VOk);exact fun _ => ⟨rfl,rfl⟩)|(intro _;exact rfl)|((with_reducible apply q_CRB);kernel_rfl)|((with_reducible apply q_bt);simp only [bq])|((with_reducible apply q_eqN);rfl)|((with_reducible apply q_FE);exact rfl)|with_reducible (first|exact isByte_wrap _|exact isByte_nat _)|(simp only [hgq,bq];done)|omega|(dsimp only;omega))
     all_goals rfl
  ·rw [if_pos hg]
   unfold vLay at hF ⊢
   refine X_fn mixedX Try.func9 rfl (by kernel_rfl) (Nat.le_of_ble_eq_true (by kernel_rfl)) (by kernel_rfl) rfl rfl (Nat.le_of_ble_eq_true rfl) rfl rfl ?_
   simp only [sl0, Nat.zero_add, Nat.reduceAdd]
   repeat' (first
    |with_reducible (first|refine q_and ?_ ?_|exact True.intro|exact TkEq.nil _|refine Red.o (by constructor) ?_|refine blockK_o' rfl ?_|refine LoopX_e' rfl ?_|assumption)
    |((with_reducible apply q_call);first|refine X_pure (hF) rfl ?_|refine X_pure (hla) rfl ?_)
    |((with_reducible apply q_CI);intro hbq;(try simp only [bq] at hbq);(try (exfalso;omega)))
    |with_reducible (first|refine W_seq ?_|refine W_block ?_)
    |((with_reducible apply q_cond);refine X_cond rfl ?_ ?_;all_goals (intro hbq;(try simp only [bq] at hbq);(try (exfalso;omega))))
    |refine Rex.o (by (with_reducible constructor);apply Eq.refl) ?_
    |(intro (hgq : (_ : Bool) = true);(try simp only [bq] at hgq))
    |(intro (hgq : (_ : Bool) = false);(try simp only [bq] at hgq))
    |((with_reducible apply q_VOk);exact fun _ => ⟨rfl,rfl⟩)|(intro _;exact rfl)|((with_reducible apply q_CRB);kernel_rfl)|((with_reducible apply q_bt);simp only [bq])|((with_reducible apply q_eqN);rfl)|((with_reducible apply q_FE);exact rfl)|with_reducible (first|exact isByte_wrap _|exact isByte_nat _)|(simp only [hgq,bq];done)|omega|(dsimp only;omega))
   all_goals rfl
 ·rw [if_pos hm]
  unfold vLay at hF ⊢
  refine X_fn mixedX Try.func9 rfl (by kernel_rfl) (Nat.le_of_ble_eq_true (by kernel_rfl)) (by kernel_rfl) rfl rfl (Nat.le_of_ble_eq_true rfl) rfl rfl ?_
  simp only [sl0, Nat.zero_add, Nat.reduceAdd]
  repeat' (first
   |with_reducible (first|refine q_and ?_ ?_|exact True.intro|exact TkEq.nil _|refine Red.o (by constructor) ?_|refine blockK_o' rfl ?_|refine LoopX_e' rfl ?_|assumption)
   |((with_reducible apply q_call);refine X_pure (hF) rfl ?_)
   |((with_reducible apply q_CI);intro hbq;(try simp only [bq] at hbq);(try (exfalso;omega)))
   |with_reducible (first|refine W_seq ?_|refine W_block ?_)
   |((with_reducible apply q_cond);refine X_cond rfl ?_ ?_;all_goals (intro hbq;(try simp only [bq] at hbq);(try (exfalso;omega))))
   |refine Rex.o (by (with_reducible constructor);apply Eq.refl) ?_
   |(intro (hgq : (_ : Bool) = true);(try simp only [bq] at hgq))
   |(intro (hgq : (_ : Bool) = false);(try simp only [bq] at hgq))
   |((with_reducible apply q_VOk);exact fun _ => ⟨rfl,rfl⟩)|(intro _;exact rfl)|((with_reducible apply q_CRB);kernel_rfl)|((with_reducible apply q_bt);simp only [bq])|((with_reducible apply q_eqN);rfl)|((with_reducible apply q_FE);exact rfl)|with_reducible (first|exact isByte_wrap _|exact isByte_nat _)|(simp only [hgq,bq];done)|omega|(dsimp only;omega))
  all_goals rfl
theorem rWalk_ok (L : Lay) (hL : LayFits L) (st : List Stp) (ov : Int) (hl : st.length ≤ 9223372036854775807) (ho : -9223372036854775808 ≤ ov ∧ ov ≤ 9223372036854775807) (nm : ByteArray) (l sp ac br rd late : Int) (gs : List Int) (h : wlkErr L st ov l sp ac br gs rd late = 0) : OkV Try.prog 9 [vLay L, vR2 st ov, vS5 nm l sp ac br, .c (xI rd), .c (rInt gs), .c (xI late)] [] (.tup [.c (rLeg (walkL L st ov l sp ac br gs rd late)), .c (xI 0)]) [] := by
 have hF := rFits_ok L hL st ov hl ho nm l sp ac br
 obtain ⟨hm, hg, h1, h2, h3⟩ := wlk_of h
 clear h
 have hf := (mot_of hm).1
 have hR := rte_of (cel_rte (fit_of hf).1)
 have g1 := hR.ov0
 have g2 := hR.ov
 have g3 := hR.len
 have g4 := hR.two
 simp only at g1 g2 g3 g4
 have hla := rLast_ok st ov hl (by omega)
 rw [hm] at hF
 have s1 := bounded_ok rd
 have s2 := bounded_ok late
 have s3 := fun i => bounded_ok (gs.getD i 0)
 rw [h1] at s1
 rw [h2] at s2
 obtain ⟨hn1, hn2, hn3⟩ := last_n hR
 have hga := fun i (hi : i < gs.length) => gs_all h3 hi
 have hN := fun a (ha : a < lastN st ov) k (hk : k ≤ lastN st ov - a) => needN_rng hf ha hk
 have hO := fun a (ha : a < lastN st ov) => ovlN_rng hf ha
 have hU := fun a b (hab : a < b) (hb : b ≤ lastN st ov) => runN_rng hf hab hb
 have hP := fun a b (hab : a < b) (hb : b ≤ lastN st ov) => rMake_ok L hL st ov hl ho nm l sp ac br a b hm hab (by omega)
 unfold walkL
 generalize hT : wlk (fun i => gs.getD i 0) (lastN st ov) (needN L st ov l sp ac br) (runN L st ov l sp ac br) (ovlN L st ov l sp ac br) ov late (lastN st ov + 1) 0 rd = T
 unfold secB4 at h1 h2
 simp only [Bool.and_eq_true, decide_eq_true_eq] at h1 h2
 unfold lPro at hP
 unfold vLay at hF hP ⊢
 rw [← hn1] at hla
 refine X_fn mixedX Try.func9 rfl (by kernel_rfl) (Nat.le_of_ble_eq_true (by kernel_rfl)) (by kernel_rfl) rfl rfl (Nat.le_of_ble_eq_true rfl) rfl rfl ?_
 simp only [sl0, Nat.zero_add, Nat.reduceAdd]
 repeat' (first
  |with_reducible (first|refine q_and ?_ ?_|exact True.intro|exact TkEq.nil _|refine Red.o (by constructor) ?_|refine blockK_o' rfl ?_|refine LoopX_e' rfl ?_|assumption)
  |((with_reducible apply q_call);first|refine X_pure (hF) rfl ?_|refine X_pure (hla) rfl ?_)
  |((with_reducible apply q_CI);intro hbq;(try simp only [bq] at hbq);(try (exfalso;omega)))
  |with_reducible (first|refine W_seq ?_|refine W_block ?_)
  |((with_reducible apply q_cond);refine X_cond rfl ?_ ?_;all_goals (intro hbq;(try simp only [bq] at hbq);(try (exfalso;omega))))
  |refine Rex.o (by (with_reducible constructor);apply Eq.refl) ?_
  |(intro (hgq : (_ : Bool) = true);(try simp only [bq] at hgq))
  |(intro (hgq : (_ : Bool) = false);(try simp only [bq] at hgq))
  |((with_reducible apply q_VOk);exact fun _ => ⟨rfl,rfl⟩)|(intro _;exact rfl)|((with_reducible apply q_CRB);kernel_rfl)|((with_reducible apply q_bt);simp only [bq])|((with_reducible apply q_eqN);rfl)|((with_reducible apply q_FE);exact rfl)|with_reducible (first|exact isByte_wrap _|exact isByte_nat _)|(simp only [hgq,bq];done)|omega|(dsimp only;omega))
 clear hF
 refine W_loopS (fun i : Nat => SS [sI 3 rd, sC 4 (rInt gs), sI 5 late, sC 6 (pB 0), sC 7 (pB 1), sC 8 (pB 2), sI 15 (lastN st ov : Nat), sC 43 (rInt gs), sI 44 gs.length, sI 45 i] [bLay L, bRte st ov, bS5 nm l sp ac br]) (fun i => i ≤ gs.length) (fun i => gs.length - i) 0 ?_ (by omega) ?_
 ·
  refine X_weak rfl rfl rfl ?_ ?_ <;> repeat' (first|with_reducible (first|refine Wk.o (by constructor) ?_|refine q_and ?_ ?_|exact True.intro)|refine q_AgS rfl ?_ ?_|exact CLe.nil_tipS|exact CLe.nil_rowS|refine HLe.cells ?_ ?_|refine HLe.els ?_ ?_|refine SLe.cons ?_ ?_|exact (rfl : known _ = _)|with_reducible rfl|omega)
  all_goals rfl
 intro i hi
 by_cases hil : i < gs.length
 ·have s4 : OkV Try.prog 21 [.c (xI (gs.getD (i : Int).toNat 0))] [] (vB (secB4 (gs.getD i 0))) [] := s3 i
  have h4 : secB4 (gs.getD i 0) = true := by
   rw [List.getD_eq_getElem?_getD, List.getElem?_eq_getElem hil]
   exact List.all_eq_true.1 h3 _ (List.getElem_mem hil)
  rw [h4] at s4
  repeat' (first
   |with_reducible (first|refine q_and ?_ ?_|exact True.intro|exact TkEq.nil _|refine Red.o (by constructor) ?_|refine blockK_o' rfl ?_|refine LoopX_e' rfl ?_|assumption)
   |((with_reducible apply q_call);refine X_pure (s4) rfl ?_)
   |((with_reducible apply q_CI);intro hbq;(try simp only [bq] at hbq);(try (exfalso;omega)))
   |with_reducible (first|refine W_seq ?_|refine W_block ?_)
   |((with_reducible apply q_cond);refine X_cond rfl ?_ ?_;all_goals (intro hbq;(try simp only [bq] at hbq);(try (exfalso;omega))))
   |refine Rex.o (by (with_reducible constructor);apply Eq.refl) ?_
   |(intro (hgq : (_ : Bool) = true);(try simp only [bq] at hgq))
   |(intro (hgq : (_ : Bool) = false);(try simp only [bq] at hgq))
   |((with_reducible apply q_VOk);exact fun _ => ⟨rfl,rfl⟩)|(intro _;exact rfl)|((with_reducible apply q_CRB);kernel_rfl)|((with_reducible apply q_bt);simp only [bq])|((with_reducible apply q_eqN);rfl)|((with_reducible apply q_FE);exact rfl)|with_reducible (first|exact isByte_wrap _|exact isByte_nat _)|(simp only [hgq,bq];done)|omega|(dsimp only;omega))
  ·
   refine LoopK_n (i + 1) ?_ ((by omega)) (by (try dsimp only); omega)
   refine X_weak rfl rfl rfl ?_ ?_ <;> repeat' (first|with_reducible (first|refine Wk.o (by constructor) ?_|refine q_and ?_ ?_|exact True.intro)|refine q_AgS rfl ?_ ?_|exact CLe.nil_tipS|exact CLe.nil_rowS|refine HLe.cells ?_ ?_|refine HLe.els ?_ ?_|refine SLe.cons ?_ ?_|exact (rfl : known _ = _)|with_reducible rfl|omega)
 ·
  have hP1 : ∀ a, a < lastN st ov → ∃ Y Z, OkV Try.prog 7 [.agg [rStr L.sts, rStr L.pts, rSec L.secs, rLnk L.lnks], vR2 st ov, vS5 nm l sp ac br, .c (xI a), .c (xI (lastN st ov : Nat))] [] (.tup [.agg (lPro7 a (lastN st ov : Nat) (row (lastN st ov - a) (needN L st ov l sp ac br a)) Y Z (ovlN L st ov l sp ac br a) (runN L st ov l sp ac br a (lastN st ov))), .c (xI 0)]) [] := fun a ha => ⟨_, _, hP a _ ha (Nat.le_refl _)⟩
  have hP2 : ∀ a b : Nat, a < b → b ≤ lastN st ov → ∃ X Y Z o, OkV Try.prog 7 [.agg [rStr L.sts, rStr L.pts, rSec L.secs, rLnk L.lnks], vR2 st ov, vS5 nm l sp ac br, .c (xI a), .c (xI b)] [] (.tup [.agg (lPro7 a b X Y Z o (runN L st ov l sp ac br a b)), .c (xI 0)]) [] := fun a b hab hb => ⟨_, _, _, _, hP a b hab hb⟩
  clear hP s3 h3 hm hf hla
  generalize needN L st ov l sp ac br = N at *
  generalize ovlN L st ov l sp ac br = O at *
  generalize runN L st ov l sp ac br = R at *
  generalize lastN st ov = m at *
  have hie : i = gs.length := by omega
  subst hie
  repeat' (first
   |with_reducible (first|refine q_and ?_ ?_|exact True.intro|exact TkEq.nil _|refine Red.o (by constructor) ?_|refine blockK_o' rfl ?_|refine LoopX_e' rfl ?_|assumption)
   |((with_reducible apply q_call);refine X_pure (s1) rfl ?_)
   |((with_reducible apply q_callG);refine X_pureG ((fun _ => s2)) rfl ?_ ?_)
   |((with_reducible apply q_CI);intro hbq;(try simp only [bq] at hbq);(try (exfalso;omega)))
   |with_reducible (first|refine W_seq ?_|refine W_block ?_)
   |((with_reducible apply q_cond);refine X_cond rfl ?_ ?_;all_goals (intro hbq;(try simp only [bq] at hbq);(try (exfalso;omega))))
   |refine Rex.o (by (with_reducible constructor);apply Eq.refl) ?_
   |(intro (hgq : (_ : Bool) = true);(try simp only [bq] at hgq))
   |(intro (hgq : (_ : Bool) = false);(try simp only [bq] at hgq))
   |((with_reducible apply q_VOk);exact fun _ => ⟨rfl,rfl⟩)|(intro _;exact rfl)|((with_reducible apply q_CRB);kernel_rfl)|((with_reducible apply q_bt);simp only [bq])|((with_reducible apply q_eqN);rfl)|((with_reducible apply q_FE);exact rfl)|with_reducible (first|exact isByte_wrap _|exact isByte_nat _)|(simp only [hgq,bq];done)|omega|(dsimp only;omega))
  refine W_loopS (fun q : Nat × Int × List Leg => SS [sC 4 (rInt gs), sI 5 late, sC 6 (pB 0), sC 7 (pB 1), sC 8 (pB 2), sI 15 m, sC 18 (tLeg q.2.2), sI 19 q.1, sI 20 q.2.1] [bLay L, bRte st ov, bS5 nm l sp ac br]) (fun q => q.1 ≤ m ∧ -4194304 ≤ q.2.1 ∧ q.2.1 ≤ 4194400 + 100000 * q.1 ∧ q.2.2.length ≤ q.1 ∧ ∃ f, m + 1 ≤ q.1 + f ∧ q.2.2 ++ wlk (fun i => gs.getD i 0) m N R O ov late f q.1 q.2.1 = T) (fun q => m - q.1) (0, rd, []) ?_ ⟨by simp only; omega, by simp only; omega, by simp only; omega, Nat.le_refl _, m + 1, by simp only; omega, hT⟩ ?_
  ·
   refine X_weak rfl rfl rfl ?_ ?_ <;> repeat' (first|with_reducible (first|refine Wk.o (by constructor) ?_|refine q_and ?_ ?_|exact True.intro)|refine q_AgS rfl ?_ ?_|exact CLe.nil_tipS|exact CLe.nil_rowS|refine HLe.cells ?_ ?_|refine HLe.els ?_ ?_|refine SLe.cons ?_ ?_|exact (rfl : known _ = _)|with_reducible rfl|omega)
   all_goals rfl
  clear s1 s2
  rintro ⟨a, x, legs⟩ ⟨q1, q2, q3, q4, f, q5, q6⟩
  simp only at q1 q2 q3 q4 q5 q6
  by_cases ham : a < m
  ·obtain ⟨f, rfl⟩ : ∃ k, f = k + 1 := ⟨f - 1, by omega⟩
   unfold wlk at q6
   rw [if_pos ham] at q6
   obtain ⟨Y, Z, hp1⟩ := hP1 a ham
   have hgn := hga (a + 1) (by omega)
   have eg : gs.getD ((a : Int) + 1).toNat 0 = gs.getD (a + 1) 0 := by congr 1
   have ed : max x (gs.getD ((a : Int) + 1).toNat 0 + 16) = legD (fun i => gs.getD i 0) a x := by rw [eg]; rfl
   have hd1 : x ≤ legD (fun i => gs.getD i 0) a x ∧ legD (fun i => gs.getD i 0) a x ≤ 4194400 + 100000 * a := by rw [← ed, eg]; omega
   have hB := legB_rng (fun i => gs.getD i 0) m N x ham
   have hrm := legR_le (fun i => gs.getD i 0) m N x ham
   have hOa := hO a ham
   have hUa := hU a m ham (Nat.le_refl _)
   have hBe : legB (fun i => gs.getD i 0) m N a x = if 0 < legR (fun i => gs.getD i 0) m N a x then legR (fun i => gs.getD i 0) m N a x - 1 else m := rfl
   have hSe : legS (fun i => gs.getD i 0) m N R O ov late a x = if 0 < legR (fun i => gs.getD i 0) m N a x then legD (fun i => gs.getD i 0) a x + R a (legR (fun i => gs.getD i 0) m N a x - 1) else if 0 < ov ∧ legD (fun i => gs.getD i 0) a x + O a < late then legD (fun i => gs.getD i 0) a x + R a m + 30 else legD (fun i => gs.getD i 0) a x + R a m := rfl
   have hRe : legR (fun i => gs.getD i 0) m N a x = refI (fun i => gs.getD i 0) m N a (legD (fun i => gs.getD i 0) a x) (m + 1) (a + 2) := rfl
   rw [hSe] at q6
   rw [hBe] at hB q6
   generalize legR (fun i => gs.getD i 0) m N a x = r at *
   generalize legD (fun i => gs.getD i 0) a x = d at *
   have hst := fun i (hi : i ≤ m) => refI_step (fun i => gs.getD i 0) m N a d (i := i) hi
   have hen := refI_end (fun i => gs.getD i 0) m N a d
   generalize refI (fun i => gs.getD i 0) m N a d (m + 1) = rI at *
   subst ed
   clear hBe hSe hT
   repeat' (first
    |with_reducible (first|refine q_and ?_ ?_|exact True.intro|exact TkEq.nil _|refine Red.o (by constructor) ?_|refine blockK_o' rfl ?_|refine LoopX_e' rfl ?_|assumption)
    |((with_reducible apply q_call);refine X_pure (hp1) rfl ?_)
    |((with_reducible apply q_CI);intro hbq;(try simp only [bq] at hbq);(try (exfalso;omega)))
    |with_reducible (first|refine W_seq ?_|refine W_block ?_)
    |((with_reducible apply q_cond);refine X_cond rfl ?_ ?_;all_goals (intro hbq;(try simp only [bq] at hbq);(try (exfalso;omega))))
    |refine Rex.o (by (with_reducible constructor);apply Eq.refl) ?_
    |(intro (hgq : (_ : Bool) = true);(try simp only [bq] at hgq))
    |(intro (hgq : (_ : Bool) = false);(try simp only [bq] at hgq))
    |((with_reducible apply q_VOk);exact fun _ => ⟨rfl,rfl⟩)|(intro _;exact rfl)|((with_reducible apply q_CRB);kernel_rfl)|((with_reducible apply q_bt);simp only [bq])|((with_reducible apply q_eqN);rfl)|((with_reducible apply q_FE);exact rfl)|with_reducible (first|exact isByte_wrap _|exact isByte_nat _)|(simp only [hgq,bq];done)|omega|(dsimp only;omega))
   clear hp1
   refine W_loopS (fun i : Nat => SS [sC 4 (rInt gs), sI 5 late, sC 6 (pB 0), sC 7 (pB 1), sC 8 (pB 2), sI 15 m, sC 18 (tLeg legs), sI 19 a, sI 21 (max x (gs.getD ((a : Int) + 1).toNat 0 + 16)), sC 22 (pB 3), sI 24 (if 0 < rI (i + 1) then rI (i + 1) - 1 else m : Nat), sI 25 i] [bLay L, bRte st ov, bS5 nm l sp ac br, some (.cells (lPro7 a m (row (m - a) (N a)) Y Z (O a) (R a m)))]) (fun i => a + 1 ≤ i ∧ i ≤ m) (fun i => i) m ?_ ⟨by omega, by omega⟩ ?_
   ·
    refine X_weak rfl rfl rfl ?_ ?_ <;> repeat' (first|with_reducible (first|refine Wk.o (by constructor) ?_|refine q_and ?_ ?_|exact True.intro)|refine q_AgS rfl ?_ ?_|exact CLe.nil_tipS|exact CLe.nil_rowS|refine HLe.cells ?_ ?_|refine HLe.els ?_ ?_|refine SLe.cons ?_ ?_|exact (rfl : known _ = _)|with_reducible rfl|omega)
    all_goals first
     | rfl
     | (rw [hen, if_neg (by omega)])
   rintro i ⟨hi1, hi2⟩
   have hsi := hst i hi2
   by_cases hil : a + 1 < i
   ·have c1 : (row (m - a) (N a)).getD ((i : Int) - a - 1).toNat 0 = N a (i - a - 1) := by rw [show ((i : Int) - a - 1).toNat = i - a - 1 by omega]; exact row_get (by omega)
    have c2 : gs.getD (i : Int).toNat 0 = gs.getD i 0 := rfl
    have c3 := hN a ham (i - a - 1) (by omega)
    have c4 := row_len (m - a) (N a)
    have c5 : i - 1 + 1 = i := by omega
    by_cases hc : max x (gs.getD ((a : Int) + 1).toNat 0 + 16) + N a (i - a - 1) < gs.getD i 0
    ·rw [if_pos hc] at hsi
     repeat' (first
      |with_reducible (first|refine q_and ?_ ?_|exact True.intro|exact TkEq.nil _|refine Red.o (by constructor) ?_|refine blockK_o' rfl ?_|refine LoopX_e' rfl ?_|assumption)
      |((with_reducible apply q_CI);intro hbq;(try simp only [bq] at hbq);(try (exfalso;omega)))
      |with_reducible (first|refine W_seq ?_|refine W_block ?_)
      |((with_reducible apply q_cond);refine X_cond rfl ?_ ?_;all_goals (intro hbq;(try simp only [bq] at hbq);(try (exfalso;omega))))
      |refine Rex.o (by (with_reducible constructor);apply Eq.refl) ?_
      |(intro (hgq : (_ : Bool) = true);(try simp only [bq] at hgq))
      |(intro (hgq : (_ : Bool) = false);(try simp only [bq] at hgq))
      |((with_reducible apply q_VOk);exact fun _ => ⟨rfl,rfl⟩)|(intro _;exact rfl)|((with_reducible apply q_CRB);kernel_rfl)|((with_reducible apply q_bt);simp only [bq])|((with_reducible apply q_eqN);rfl)|((with_reducible apply q_FE);exact rfl)|with_reducible (first|exact isByte_wrap _|exact isByte_nat _)|(simp only [hgq,bq];done)|omega|(dsimp only;omega))
     ·
      refine LoopK_n (i - 1) ?_ (⟨by omega, by omega⟩) (by (try dsimp only); omega)
      refine X_weak rfl rfl rfl ?_ ?_ <;> repeat' (first|with_reducible (first|refine Wk.o (by constructor) ?_|refine q_and ?_ ?_|exact True.intro)|refine q_AgS rfl ?_ ?_|exact CLe.nil_tipS|exact CLe.nil_rowS|refine HLe.cells ?_ ?_|refine HLe.els ?_ ?_|refine SLe.cons ?_ ?_|exact (rfl : known _ = _)|with_reducible rfl|omega)
      all_goals (rw [c5, hsi]; try rw [if_pos (show 0 < i by omega)]; try omega)
    ·rw [if_neg hc] at hsi
     repeat' (first
      |with_reducible (first|refine q_and ?_ ?_|exact True.intro|exact TkEq.nil _|refine Red.o (by constructor) ?_|refine blockK_o' rfl ?_|refine LoopX_e' rfl ?_|assumption)
      |((with_reducible apply q_CI);intro hbq;(try simp only [bq] at hbq);(try (exfalso;omega)))
      |with_reducible (first|refine W_seq ?_|refine W_block ?_)
      |((with_reducible apply q_cond);refine X_cond rfl ?_ ?_;all_goals (intro hbq;(try simp only [bq] at hbq);(try (exfalso;omega))))
      |refine Rex.o (by (with_reducible constructor);apply Eq.refl) ?_
      |(intro (hgq : (_ : Bool) = true);(try simp only [bq] at hgq))
      |(intro (hgq : (_ : Bool) = false);(try simp only [bq] at hgq))
      |((with_reducible apply q_VOk);exact fun _ => ⟨rfl,rfl⟩)|(intro _;exact rfl)|((with_reducible apply q_CRB);kernel_rfl)|((with_reducible apply q_bt);simp only [bq])|((with_reducible apply q_eqN);rfl)|((with_reducible apply q_FE);exact rfl)|with_reducible (first|exact isByte_wrap _|exact isByte_nat _)|(simp only [hgq,bq];done)|omega|(dsimp only;omega))
     ·
      refine LoopK_n (i - 1) ?_ (⟨by omega, by omega⟩) (by (try dsimp only); omega)
      refine X_weak rfl rfl rfl ?_ ?_ <;> repeat' (first|with_reducible (first|refine Wk.o (by constructor) ?_|refine q_and ?_ ?_|exact True.intro)|refine q_AgS rfl ?_ ?_|exact CLe.nil_tipS|exact CLe.nil_rowS|refine HLe.cells ?_ ?_|refine HLe.els ?_ ?_|refine SLe.cons ?_ ?_|exact (rfl : known _ = _)|with_reducible rfl|omega)
      all_goals (rw [c5, hsi]; try omega)
   ·have hie : i = a + 1 := by omega
    subst hie
    rw [show a + 1 + 1 = a + 2 by omega, ← hRe]
    clear hst hen hsi
    have hbb : a < (if 0 < r then r - 1 else m) ∧ (if 0 < r then r - 1 else m) ≤ m := hB
    obtain ⟨X2, Y2, Z2, o2, hp2⟩ := hP2 a _ hB.1 hB.2
    have hUb := hU a _ hB.1 hB.2
    clear hP1 hP2 hRe
    by_cases hr0 : 0 < r
    ·rw [if_pos hr0] at hB hp2 hUb ⊢
     rw [if_pos hr0, if_pos hr0] at q6
     repeat' (first
      |with_reducible (first|refine q_and ?_ ?_|exact True.intro|exact TkEq.nil _|refine Red.o (by constructor) ?_|refine blockK_o' rfl ?_|refine LoopX_e' rfl ?_|assumption)
      |((with_reducible apply q_call);refine X_pure (hp2) rfl ?_)
      |((with_reducible apply q_CI);intro hbq;(try simp only [bq] at hbq);(try (exfalso;omega)))
      |with_reducible (first|refine W_seq ?_|refine W_block ?_)
      |((with_reducible apply q_cond);refine X_cond rfl ?_ ?_;all_goals (intro hbq;(try simp only [bq] at hbq);(try (exfalso;omega))))
      |refine Rex.o (by (with_reducible constructor);apply Eq.refl) ?_
      |(intro (hgq : (_ : Bool) = true);(try simp only [bq] at hgq))
      |(intro (hgq : (_ : Bool) = false);(try simp only [bq] at hgq))
      |((with_reducible apply q_VOk);exact fun _ => ⟨rfl,rfl⟩)|(intro _;exact rfl)|((with_reducible apply q_CRB);kernel_rfl)|((with_reducible apply q_bt);simp only [bq])|((with_reducible apply q_eqN);rfl)|((with_reducible apply q_FE);exact rfl)|with_reducible (first|exact isByte_wrap _|exact isByte_nat _)|(simp only [hgq,bq];done)|omega|(dsimp only;omega))
     all_goals first
      | (exfalso; omega)
      | (
       refine LoopK_n ((r - 1, max x (gs.getD ((a : Int) + 1).toNat 0 + 16) + R a (r - 1), legs ++ [⟨a, (r - 1 : Nat), max x (gs.getD ((a : Int) + 1).toNat 0 + 16), max x (gs.getD ((a : Int) + 1).toNat 0 + 16) + R a (r - 1)⟩])) ?_ (⟨by simp only; omega, by simp only; omega, by simp only; omega, by simp only [List.length_append, List.length_singleton]; omega, f, by simp only; omega, by simp only; rw [List.append_assoc]; exact q6⟩) (by (try dsimp only); omega)
       refine X_weak rfl rfl rfl ?_ ?_ <;> repeat' (first|with_reducible (first|refine Wk.o (by constructor) ?_|refine q_and ?_ ?_|exact True.intro)|refine q_AgS rfl ?_ ?_|exact CLe.nil_tipS|exact CLe.nil_rowS|refine HLe.cells ?_ ?_|refine HLe.els ?_ ?_|refine SLe.cons ?_ ?_|exact (rfl : known _ = _)|with_reducible rfl|omega)
       all_goals first
        | omega
        | rfl
        | (simp only [List.length_append, List.length_singleton]; done)
        | (simp [fLeg, fI]; done)
        | (simp [fLeg, fI]; omega))
    ·rw [if_neg hr0] at hB hp2 hUb ⊢
     rw [if_neg hr0, if_neg hr0] at q6
     by_cases hv : 0 < ov ∧ max x (gs.getD ((a : Int) + 1).toNat 0 + 16) + O a < late
     ·rw [if_pos hv] at q6
      repeat' (first
       |with_reducible (first|refine q_and ?_ ?_|exact True.intro|exact TkEq.nil _|refine Red.o (by constructor) ?_|refine blockK_o' rfl ?_|refine LoopX_e' rfl ?_|assumption)
       |((with_reducible apply q_call);refine X_pure (hp2) rfl ?_)
       |((with_reducible apply q_CI);intro hbq;(try simp only [bq] at hbq);(try (exfalso;omega)))
       |with_reducible (first|refine W_seq ?_|refine W_block ?_)
       |((with_reducible apply q_cond);refine X_cond rfl ?_ ?_;all_goals (intro hbq;(try simp only [bq] at hbq);(try (exfalso;omega))))
       |refine Rex.o (by (with_reducible constructor);apply Eq.refl) ?_
       |(intro (hgq : (_ : Bool) = true);(try simp only [bq] at hgq))
       |(intro (hgq : (_ : Bool) = false);(try simp only [bq] at hgq))
       |((with_reducible apply q_VOk);exact fun _ => ⟨rfl,rfl⟩)|(intro _;exact rfl)|((with_reducible apply q_CRB);kernel_rfl)|((with_reducible apply q_bt);simp only [bq])|((with_reducible apply q_eqN);rfl)|((with_reducible apply q_FE);exact rfl)|with_reducible (first|exact isByte_wrap _|exact isByte_nat _)|(simp only [hgq,bq];done)|omega|(dsimp only;omega))
      all_goals first
       | (exfalso; omega)
       | (
        refine LoopK_n ((m, max x (gs.getD ((a : Int) + 1).toNat 0 + 16) + R a m + 30, legs ++ [⟨a, (m : Nat), max x (gs.getD ((a : Int) + 1).toNat 0 + 16), max x (gs.getD ((a : Int) + 1).toNat 0 + 16) + R a m + 30⟩])) ?_ (⟨by simp only; omega, by simp only; omega, by simp only; omega, by simp only [List.length_append, List.length_singleton]; omega, f, by simp only; omega, by simp only; rw [List.append_assoc]; exact q6⟩) (by (try dsimp only); omega)
        refine X_weak rfl rfl rfl ?_ ?_ <;> repeat' (first|with_reducible (first|refine Wk.o (by constructor) ?_|refine q_and ?_ ?_|exact True.intro)|refine q_AgS rfl ?_ ?_|exact CLe.nil_tipS|exact CLe.nil_rowS|refine HLe.cells ?_ ?_|refine HLe.els ?_ ?_|refine SLe.cons ?_ ?_|exact (rfl : known _ = _)|with_reducible rfl|omega)
        all_goals first
         | omega
         | rfl
         | (simp only [List.length_append, List.length_singleton]; done)
         | (simp [fLeg, fI]; done)
         | (simp [fLeg, fI]; omega))
     ·rw [if_neg hv] at q6
      repeat' (first
       |with_reducible (first|refine q_and ?_ ?_|exact True.intro|exact TkEq.nil _|refine Red.o (by constructor) ?_|refine blockK_o' rfl ?_|refine LoopX_e' rfl ?_|assumption)
       |((with_reducible apply q_call);refine X_pure (hp2) rfl ?_)
       |((with_reducible apply q_CI);intro hbq;(try simp only [bq] at hbq);(try (exfalso;omega)))
       |with_reducible (first|refine W_seq ?_|refine W_block ?_)
       |((with_reducible apply q_cond);refine X_cond rfl ?_ ?_;all_goals (intro hbq;(try simp only [bq] at hbq);(try (exfalso;omega))))
       |refine Rex.o (by (with_reducible constructor);apply Eq.refl) ?_
       |(intro (hgq : (_ : Bool) = true);(try simp only [bq] at hgq))
       |(intro (hgq : (_ : Bool) = false);(try simp only [bq] at hgq))
       |((with_reducible apply q_VOk);exact fun _ => ⟨rfl,rfl⟩)|(intro _;exact rfl)|((with_reducible apply q_CRB);kernel_rfl)|((with_reducible apply q_bt);simp only [bq])|((with_reducible apply q_eqN);rfl)|((with_reducible apply q_FE);exact rfl)|with_reducible (first|exact isByte_wrap _|exact isByte_nat _)|(simp only [hgq,bq];done)|omega|(dsimp only;omega))
      all_goals first
       | (exfalso; omega)
       | (
        refine LoopK_n ((m, max x (gs.getD ((a : Int) + 1).toNat 0 + 16) + R a m, legs ++ [⟨a, (m : Nat), max x (gs.getD ((a : Int) + 1).toNat 0 + 16), max x (gs.getD ((a : Int) + 1).toNat 0 + 16) + R a m⟩])) ?_ (⟨by simp only; omega, by simp only; omega, by simp only; omega, by simp only [List.length_append, List.length_singleton]; omega, f, by simp only; omega, by simp only; rw [List.append_assoc]; exact q6⟩) (by (try dsimp only); omega)
        refine X_weak rfl rfl rfl ?_ ?_ <;> repeat' (first|with_reducible (first|refine Wk.o (by constructor) ?_|refine q_and ?_ ?_|exact True.intro)|refine q_AgS rfl ?_ ?_|exact CLe.nil_tipS|exact CLe.nil_rowS|refine HLe.cells ?_ ?_|refine HLe.els ?_ ?_|refine SLe.cons ?_ ?_|exact (rfl : known _ = _)|with_reducible rfl|omega)
        all_goals first
         | omega
         | rfl
         | (simp only [List.length_append, List.length_singleton]; done)
         | (simp [fLeg, fI]; done)
         | (simp [fLeg, fI]; omega))
  ·have hT2 : legs = T := by
    rw [← q6]
    cases f with
    | zero => exact (List.append_nil _).symm
    | succ f => unfold wlk; rw [if_neg ham]; exact (List.append_nil _).symm
   subst hT2
   repeat' (first
    |with_reducible (first|refine q_and ?_ ?_|exact True.intro|exact TkEq.nil _|refine Red.o (by constructor) ?_|refine blockK_o' rfl ?_|refine LoopX_e' rfl ?_|assumption)
    |((with_reducible apply q_CI);intro hbq;(try simp only [bq] at hbq);(try (exfalso;omega)))
    |with_reducible (first|refine W_seq ?_|refine W_block ?_)
    |((with_reducible apply q_cond);refine X_cond rfl ?_ ?_;all_goals (intro hbq;(try simp only [bq] at hbq);(try (exfalso;omega))))
    |refine Rex.o (by (with_reducible constructor);apply Eq.refl) ?_
    |(intro (hgq : (_ : Bool) = true);(try simp only [bq] at hgq))
    |(intro (hgq : (_ : Bool) = false);(try simp only [bq] at hgq))
    |((with_reducible apply q_VOk);exact fun _ => ⟨rfl,rfl⟩)|(intro _;exact rfl)|((with_reducible apply q_CRB);kernel_rfl)|((with_reducible apply q_bt);simp only [bq])|((with_reducible apply q_eqN);rfl)|((with_reducible apply q_FE);exact rfl)|with_reducible (first|exact isByte_wrap _|exact isByte_nat _)|(simp only [hgq,bq];done)|omega|(dsimp only;omega))
   all_goals rfl
theorem same_int_ok (l : List Int) (hl : l.length ≤ 9223372036854775807) : OkV Try.prog 23 [.c (rInt l), .c (rInt l)] [] (vB true) [] := by
 refine X_fnP mixedX Try.func23 rfl (by kernel_rfl) (Nat.le_of_ble_eq_true (by kernel_rfl)) (by kernel_rfl) rfl rfl ?_
 simp only [sl0, Nat.zero_add, Nat.reduceAdd]
 repeat' (first
  |with_reducible (first|refine q_and ?_ ?_|exact True.intro|exact TkEq.nil _|refine Red.o (by constructor) ?_|refine blockK_o' rfl ?_|refine LoopX_e' rfl ?_|assumption)
  |((with_reducible apply q_CI);intro hbq;(try simp only [bq] at hbq);(try (exfalso;omega)))
  |with_reducible (first|refine W_seq ?_|refine W_block ?_)
  |((with_reducible apply q_cond);refine X_cond rfl ?_ ?_;all_goals (intro hbq;(try simp only [bq] at hbq);(try (exfalso;omega))))
  |refine Rex.o (by (with_reducible constructor);apply Eq.refl) ?_
  |(intro (hgq : (_ : Bool) = true);(try simp only [bq] at hgq))
  |(intro (hgq : (_ : Bool) = false);(try simp only [bq] at hgq))
  |((with_reducible apply q_VOk);exact fun _ => ⟨rfl,rfl⟩)|(intro _;exact rfl)|((with_reducible apply q_CRB);kernel_rfl)|((with_reducible apply q_bt);simp only [bq])|((with_reducible apply q_eqN);rfl)|((with_reducible apply q_FE);exact rfl)|with_reducible (first|exact isByte_wrap _|exact isByte_nat _)|(simp only [hgq,bq];done)|omega|(dsimp only;omega))
 refine W_loopS (fun i : Nat => SS [sC 0 (rInt l), sC 1 (rInt l), sI 12 l.length, sI 13 i] []) (fun i => i ≤ l.length) (fun i => l.length - i) 0 ?_ (by omega) ?_
 ·
  refine X_weak rfl rfl rfl ?_ ?_ <;> repeat' (first|with_reducible (first|refine Wk.o (by constructor) ?_|refine q_and ?_ ?_|exact True.intro)|refine q_AgS rfl ?_ ?_|exact CLe.nil_tipS|exact CLe.nil_rowS|refine HLe.cells ?_ ?_|refine HLe.els ?_ ?_|refine SLe.cons ?_ ?_|exact (rfl : known _ = _)|with_reducible rfl|omega)
 ·intro i hi
  repeat' (first
   |with_reducible (first|refine q_and ?_ ?_|exact True.intro|exact TkEq.nil _|refine Red.o (by constructor) ?_|refine blockK_o' rfl ?_|refine LoopX_e' rfl ?_|assumption)
   |((with_reducible apply q_CI);intro hbq;(try simp only [bq] at hbq);(try (exfalso;omega)))
   |with_reducible (first|refine W_seq ?_|refine W_block ?_)
   |((with_reducible apply q_cond);refine X_cond rfl ?_ ?_;all_goals (intro hbq;(try simp only [bq] at hbq);(try (exfalso;omega))))
   |refine Rex.o (by (with_reducible constructor);apply Eq.refl) ?_
   |(intro (hgq : (_ : Bool) = true);(try simp only [bq] at hgq))
   |(intro (hgq : (_ : Bool) = false);(try simp only [bq] at hgq))
   |((with_reducible apply q_VOk);exact fun _ => ⟨rfl,rfl⟩)|(intro _;exact rfl)|((with_reducible apply q_CRB);kernel_rfl)|((with_reducible apply q_bt);simp only [bq])|((with_reducible apply q_eqN);rfl)|((with_reducible apply q_FE);exact rfl)|with_reducible (first|exact isByte_wrap _|exact isByte_nat _)|(simp only [hgq,bq];done)|omega|(dsimp only;omega))
  ·
   refine LoopK_n (i + 1) ?_ ((by omega)) (by (try dsimp only); omega)
   refine X_weak rfl rfl rfl ?_ ?_ <;> repeat' (first|with_reducible (first|refine Wk.o (by constructor) ?_|refine q_and ?_ ?_|exact True.intro)|refine q_AgS rfl ?_ ?_|exact CLe.nil_tipS|exact CLe.nil_rowS|refine HLe.cells ?_ ?_|refine HLe.els ?_ ?_|refine SLe.cons ?_ ?_|exact (rfl : known _ = _)|with_reducible rfl|omega)
  ·rfl
def exTxt : List UInt8 := [115, 101, 99, 116, 105, 111, 110, 32, 65, 32, 52, 48, 32, 51, 48, 48, 48, 48, 32, 48, 10, 115, 101, 99, 116, 105, 111, 110, 32, 66, 32, 50, 48, 32, 51, 48, 48, 48, 48, 32, 48, 10, 115, 101, 99, 116, 105, 111, 110, 32, 67, 32, 50, 48, 32, 51, 48, 48, 48, 48, 32, 48, 10, 108, 105, 110, 107, 32, 65, 32, 66, 32, 66, 32, 65, 10, 108, 105, 110, 107, 32, 66, 32, 66, 32, 67, 32, 65, 10]
def exL : Lay := ⟨[], [], [⟨bL [65], 40, 30000, 0, -1⟩, ⟨bL [66], 20, 30000, 0, -1⟩, ⟨bL [67], 20, 30000, 0, -1⟩], [⟨0, 1, 1, 0, -1, 0⟩, ⟨1, 1, 2, 0, -1, 0⟩]⟩
def exSt : List Stp := [⟨0, 0⟩, ⟨1, 0⟩, ⟨2, 0⟩]
theorem exL_fits : LayFits exL := ⟨fun x hx => (by cases hx), fun x hx => (by cases hx), fun x hx => (by
 simp only [exL, List.map_cons, List.map_nil, List.mem_cons, List.not_mem_nil, or_false] at hx
 rcases hx with rfl | rfl | rfl <;> decide), by decide, by decide, by decide, by decide⟩
theorem exL_ok : layErr exL = 0 := by kernel_rfl
theorem ex_parse : parseL exTxt = some exL := by kernel_rfl
theorem ex_lines : okF (exTxt.length + 1) exTxt 1 = true := by kernel_rfl
theorem ex_many : (linesF (exTxt.length + 1) exTxt 1).length ≤ 500 := by
 have h : (linesF (exTxt.length + 1) exTxt 1).length = 5 := by kernel_rfl
 omega
theorem ex_mot : motErr exL ⟨exSt, 0⟩ 20 30000 500 500 = 0 := by kernel_rfl
theorem ex_need : row 2 (needF exL (partR exSt 0 0 2) 20 30000 500 500) = [-16, -16] := by kernel_rfl
theorem example_ok : OkV Try.prog 22 [] [] (.tup [.agg [rStr exL.sts, rStr exL.pts, rSec exL.secs, rLnk exL.lnks], .agg [rStp exSt, xI 0], .agg [xS ⟨#[]⟩, xI 20, xI 30000, xI 500, xI 500]]) [] := by
 have hP := parse_ok exTxt exL (by decide) ex_lines ex_parse ex_many exL_ok exL_fits
 generalize exL = L at *
 unfold exTxt bL at hP
 unfold exSt
 refine X_fnP mixedX Try.func22 rfl (by kernel_rfl) (Nat.le_of_ble_eq_true (by kernel_rfl)) (by kernel_rfl) rfl rfl ?_
 simp only [sl0, Nat.zero_add, Nat.reduceAdd]
 repeat' (first
  |with_reducible (first|refine q_and ?_ ?_|exact True.intro|exact TkEq.nil _|refine Red.o (by constructor) ?_|refine blockK_o' rfl ?_|refine LoopX_e' rfl ?_|assumption)
  |((with_reducible apply q_call);refine X_pure (hP) rfl ?_)
  |((with_reducible apply q_CI);intro hbq;(try simp only [bq] at hbq);(try (exfalso;omega)))
  |with_reducible (first|refine W_seq ?_|refine W_block ?_)
  |((with_reducible apply q_cond);refine X_cond rfl ?_ ?_;all_goals (intro hbq;(try simp only [bq] at hbq);(try (exfalso;omega))))
  |refine Rex.o (by (with_reducible constructor);apply Eq.refl) ?_
  |(intro (hgq : (_ : Bool) = true);(try simp only [bq] at hgq))
  |(intro (hgq : (_ : Bool) = false);(try simp only [bq] at hgq))
  |((with_reducible apply q_VOk);exact fun _ => ⟨rfl,rfl⟩)|(intro _;exact rfl)|((with_reducible apply q_CRB);kernel_rfl)|((with_reducible apply q_bt);simp only [bq])|((with_reducible apply q_eqN);rfl)|((with_reducible apply q_FE);exact rfl)|with_reducible (first|exact isByte_wrap _|exact isByte_nat _)|(simp only [hgq,bq];done)|omega|(dsimp only;omega))
 repeat' (first|with_reducible (first|refine Wk.o (by constructor) ?_|refine q_and ?_ ?_|exact True.intro)|refine VEq.c ?_|refine VEq.agg ?_|refine VEq.tup ?_|refine TkEq.cells ?_ ?_|refine TkEq.els ?_ ?_|refine SEqL.cons ?_ ?_|refine TEqL.agg ?_ ?_|refine CEq.rows ?_|refine CEq.int ?_|rfl|omega)
theorem ex_walk0 : wlkErr exL exSt 0 20 30000 500 500 [0, -100, 500] 0 0 = 0 := by kernel_rfl
theorem ride_le {L : Lay} {r : Rte} {l sp ac br : Int} (h : Ride L r l sp ac br) {j : Nat} (hj : j ≤ endA L (trv r) ((trv r).length - 1)) : rideT L r l sp ac br j ≤ 20000 * (j : Int) := by
 obtain ⟨hc, hn, hall, h0, h2⟩ := bad_zero h.bad
 obtain ⟨l1, l2, l3, l4, l5, l6, l7, l8⟩ := chk_of hc
 have h1 := h.one
 have h3 := h.all
 unfold rideT
 exact (tim_range (start := (celOne L r).toNat) (l := l.toNat) l3 l4 l5 l6 l7 l8 hall (by omega) j (by omega)).2
theorem ex_run : runN exL exSt 0 20 30000 500 500 0 1 ≤ 400 := by
 have hR := ride_of (partR_fit (a := 0) (b := 1) (mot_of ex_mot).1 (by omega) (by decide))
 have e : endA exL (trv (partR exSt 0 0 1)) ((trv (partR exSt 0 0 1)).length - 1) = 20 := by kernel_rfl
 have h := ride_le hR (Nat.le_refl _)
 have g := hR.rng _ (Nat.le_refl _)
 obtain ⟨b1, b2⟩ := Pl.cdiv_bracket (rideT exL (partR exSt 0 0 1) 20 30000 500 500 (endA exL (trv (partR exSt 0 0 1)) ((trv (partR exSt 0 0 1)).length - 1))) 1000 (by omega)
 unfold runN runI
 rw [e] at *
 omega
theorem ex_need1 : needN exL exSt 0 20 30000 500 500 0 1 = -16 := by
 have h : (row 2 (needF exL (partR exSt 0 0 2) 20 30000 500 500)).getD 1 0 = needF exL (partR exSt 0 0 2) 20 30000 500 500 1 := row_get (by omega)
 rw [ex_need] at h
 exact h.symm
theorem ex_walk : ∃ u v, walkL exL exSt 0 20 30000 500 500 [0, -100, 500] 0 0 = [⟨0, 1, 0, u⟩, ⟨1, 2, 516, v⟩] := by
 have h1 := ex_need1
 have h2 := ex_run
 unfold walkL
 rw [show lastN exSt 0 = 2 from rfl]
 generalize needN exL exSt 0 20 30000 500 500 = N at *
 generalize runN exL exSt 0 20 30000 500 500 = R at *
 generalize ovlN exL exSt 0 20 30000 500 500 = O at *
 have d0 : legD (fun i => ([0, -100, 500] : List Int).getD i 0) 0 0 = 0 := by decide
 have r0 : legR (fun i => ([0, -100, 500] : List Int).getD i 0) 2 N 0 0 = 2 := by
  unfold legR
  rw [d0, refI, if_neg (by omega), if_pos (by rw [h1]; decide)]
 have b0 : legB (fun i => ([0, -100, 500] : List Int).getD i 0) 2 N 0 0 = 1 := by unfold legB; rw [r0]; rfl
 have s0 : legS (fun i => ([0, -100, 500] : List Int).getD i 0) 2 N R O 0 0 0 0 = R 0 1 := by unfold legS; rw [r0, d0, if_pos (by omega)]; exact Int.zero_add _
 have d1 : legD (fun i => ([0, -100, 500] : List Int).getD i 0) 1 (R 0 1) = 516 := by
  show max (R 0 1) (500 + 16) = 516
  omega
 have r1 : legR (fun i => ([0, -100, 500] : List Int).getD i 0) 2 N 1 (R 0 1) = 0 := by
  unfold legR
  rw [refI, if_pos (by omega)]
 have b1 : legB (fun i => ([0, -100, 500] : List Int).getD i 0) 2 N 1 (R 0 1) = 2 := by unfold legB; rw [r1]; rfl
 refine ⟨R 0 1, legS (fun i => ([0, -100, 500] : List Int).getD i 0) 2 N R O 0 0 1 (R 0 1), ?_⟩
 rw [wlk, if_pos (by omega), b0, s0, d0, wlk, if_pos (by omega), b1, d1, wlk, if_neg (by omega)]
 rfl
theorem awake_ok : OkV Try.prog 10 [] [] (vB true) [] := by
 have h1 := example_ok
 have h2 := make_ok exL exL_fits exSt 0 (by decide) (by omega) ⟨#[]⟩ 20 30000 500 500 0 2 ex_mot (by omega) (by decide)
 have h3 := walk_ok exL exL_fits exSt 0 (by decide) (by omega) ⟨#[]⟩ 20 30000 500 500 0 0 [0, -100, 500] ex_walk0
 obtain ⟨u, v, hw⟩ := ex_walk
 rw [hw] at h3
 have w1 : [(⟨0, 1, 0, u⟩ : Leg), ⟨1, 2, 516, v⟩].length = 2 := rfl
 have w2 : ([(⟨0, 1, 0, u⟩ : Leg), ⟨1, 2, 516, v⟩].getD (1 : Int).toNat { a := 0, b := 0, go := 0, stop := 0 }).go = 516 := rfl
 have w3 : ([(⟨0, 1, 0, u⟩ : Leg), ⟨1, 2, 516, v⟩].getD (1 : Int).toNat { a := 0, b := 0, go := 0, stop := 0 }).a = 1 := rfl
 unfold lPro at h2
 rw [show 2 - 0 = 2 from rfl, ex_need] at h2
 generalize [(⟨0, 1, 0, u⟩ : Leg), ⟨1, 2, 516, v⟩] = W at *
 generalize row 2 (passF exL (partR exSt 0 0 2) 20 30000 500 500) = P1 at *
 generalize row 2 (clrF exL (partR exSt 0 0 2) 20 30000 500 500) = P2 at *
 generalize ovlF exL (partR exSt 0 0 2) 20 30000 500 500 2 = P3 at *
 generalize runI exL (partR exSt 0 0 2) 20 30000 500 500 = P4 at *
 generalize exL = L at *
 generalize exSt = st at *
 unfold vLay at h2 h3
 have h2 : OkV Try.prog 6 [.agg [rStr L.sts, rStr L.pts, rSec L.secs, rLnk L.lnks], vR2 st 0, vS5 ⟨#[]⟩ 20 30000 500 500, .c (xI 0), .c (xI 2)] [] (.tup [.agg (lPro7 0 2 [-16, -16] P1 P2 P3 P4), .c (xI 0)]) [] := h2
 have h3 : OkV Try.prog 8 [.agg [rStr L.sts, rStr L.pts, rSec L.secs, rLnk L.lnks], vR2 st 0, vS5 ⟨#[]⟩ 20 30000 500 500, .c (xI 0), .c (.c (.f (.row [.v (.int .i64 0), .v (.int .i64 (-100)), .v (.int .i64 500)] 3))), .c (xI 0)] [] (.tup [.c (rLeg W), .c (xI 0)]) [] := h3
 have hQ := same_int_ok [-16, -16] (by show 2 ≤ 9223372036854775807; omega)
 have hQ2 : OkV Try.prog 23 [.c (rInt [-16, -16]), .c (.c (.f (.row [.v (.int .i64 (-16)), .v (.int .i64 (-16))] 2)))] [] (vB true) [] := hQ
 refine X_fnP mixedX Try.func10 rfl (by kernel_rfl) (Nat.le_of_ble_eq_true (by kernel_rfl)) (by kernel_rfl) rfl rfl ?_
 simp only [sl0, Nat.zero_add, Nat.reduceAdd]
 repeat' (first
  |with_reducible (first|refine q_and ?_ ?_|exact True.intro|exact TkEq.nil _|refine Red.o (by constructor) ?_|refine blockK_o' rfl ?_|refine LoopX_e' rfl ?_|assumption)
  |((with_reducible apply q_call);first|refine X_pure (h1) rfl ?_|refine X_pure (h2) rfl ?_|refine X_pure (h3) rfl ?_)
  |((with_reducible apply q_callG);refine X_pureG ((fun _ => hQ2)) rfl ?_ ?_)
  |((with_reducible apply q_CI);intro hbq;(try simp only [bq] at hbq);(try (exfalso;omega)))
  |with_reducible (first|refine W_seq ?_|refine W_block ?_)
  |((with_reducible apply q_cond);refine X_cond rfl ?_ ?_;all_goals (intro hbq;(try simp only [bq] at hbq);(try (exfalso;omega))))
  |refine Rex.o (by (with_reducible constructor);apply Eq.refl) ?_
  |(intro (hgq : (_ : Bool) = true);(try simp only [bq] at hgq))
  |(intro (hgq : (_ : Bool) = false);(try simp only [bq] at hgq))
  |((with_reducible apply q_VOk);exact fun _ => ⟨rfl,rfl⟩)|(intro _;exact rfl)|((with_reducible apply q_CRB);kernel_rfl)|((with_reducible apply q_bt);simp only [bq])|((with_reducible apply q_eqN);rfl)|((with_reducible apply q_FE);exact rfl)|with_reducible (first|exact isByte_wrap _|exact isByte_nat _)|(simp only [hgq,bq];done)|omega|(dsimp only;omega))
 all_goals (rw [w2, w3, w1]; rfl)
theorem mak_of {L : Lay} {st : List Stp} {ov l sp ac br a b : Int} (h : makErr L st ov l sp ac br a b = 0) : motErr L ⟨st, ov⟩ l sp ac br = 0 ∧ 0 ≤ a ∧ a < b ∧ b ≤ st.length - ov - 1 := by
 unfold makErr at h
 by_cases h1 : motErr L ⟨st, ov⟩ l sp ac br = 0
 ·rw [if_neg (by simpa using h1)] at h
  by_cases h2 : a < 0 ∨ b ≤ a ∨ (st.length : Int) - ov - 1 < b
  ·rw [if_pos h2] at h; cases h
  ·exact ⟨h1, by omega, by omega, by omega⟩
 ·rw [if_pos h1] at h; exact absurd h h1
section
variable (L : Lay) (hL : LayFits L) (st : List Stp) (ov : Int) (hl : st.length ≤ 9223372036854775807) (ho : -9223372036854775808 ≤ ov ∧ ov ≤ 9223372036854775807) (nm : ByteArray) (l sp ac br : Int)
include hL hl ho
theorem make_ex (a b : Int) : ∃ p q : Int, ∃ x y z : List Int, ∃ o n e : Int, OkV Try.prog 6 [vLay L, vR2 st ov, vS5 nm l sp ac br, .c (xI a), .c (xI b)] [] (.tup [.agg (lPro7 p q x y z o n), .c (xI e)]) [] ∧ OkV Try.prog 7 [vLay L, vR2 st ov, vS5 nm l sp ac br, .c (xI a), .c (xI b)] [] (.tup [.agg (lPro7 p q x y z o n), .c (xI e)]) [] ∧ x.length ≤ 24 ∧ y.length ≤ 24 ∧ z.length ≤ 24 := by
 by_cases h : makErr L st ov l sp ac br a b = 0
 ·obtain ⟨h1, h2, h3, h4⟩ := mak_of h
  obtain ⟨a, rfl⟩ := Int.eq_ofNat_of_zero_le h2
  obtain ⟨b, rfl⟩ := Int.eq_ofNat_of_zero_le (show 0 ≤ b by omega)
  have hR := rte_of (cel_rte (fit_of (mot_of h1).1).1)
  have g1 := hR.ov0
  have g3 := hR.len
  simp only at g1 g3
  exact ⟨_, _, _, _, _, _, _, _, make_ok L hL st ov hl ho nm l sp ac br a b h1 (by omega) h4, rMake_ok L hL st ov hl ho nm l sp ac br a b h1 (by omega) h4, by rw [row_len]; omega, by rw [row_len]; omega, by rw [row_len]; omega⟩
 ·exact ⟨_, _, _, _, _, _, _, _, make_bad L hL st ov hl ho nm l sp ac br a b h, rMake_bad L hL st ov hl ho nm l sp ac br a b h, by simp, by simp, by simp⟩
theorem walk_ex (rd late : Int) (gs : List Int) (hgl : gs.length ≤ 9223372036854775807) : ∃ w : List Leg, ∃ e : Int, OkV Try.prog 8 [vLay L, vR2 st ov, vS5 nm l sp ac br, .c (xI rd), .c (rInt gs), .c (xI late)] [] (.tup [.c (rLeg w), .c (xI e)]) [] ∧ OkV Try.prog 9 [vLay L, vR2 st ov, vS5 nm l sp ac br, .c (xI rd), .c (rInt gs), .c (xI late)] [] (.tup [.c (rLeg w), .c (xI e)]) [] := by
 by_cases h : wlkErr L st ov l sp ac br gs rd late = 0
 ·exact ⟨_, _, walk_ok L hL st ov hl ho nm l sp ac br rd late gs h, rWalk_ok L hL st ov hl ho nm l sp ac br rd late gs h⟩
 ·exact ⟨_, _, walk_bad L hL st ov hl ho nm l sp ac br rd late gs hgl h, rWalk_bad L hL st ov hl ho nm l sp ac br rd late gs hgl h⟩
theorem errors_ok (a b rd late : Int) (gs : List Int) (hgl : gs.length ≤ 9223372036854775807) : OkV Try.prog 3 [vLay L, vR2 st ov, vS5 nm l sp ac br, .c (xI a), .c (xI b), .c (xI rd), .c (rInt gs), .c (xI late)] [] (vB true) [] := by
 have h0 := awake_ok
 obtain ⟨p, q, x, y, z, o, n, e, h1, h2, _, _, _⟩ := make_ex L hL st ov hl ho nm l sp ac br a b
 obtain ⟨w, f, h3, h4⟩ := walk_ex L hL st ov hl ho nm l sp ac br rd late gs hgl
 unfold vLay at h1 h2 h3 h4 ⊢
 refine X_fnP mixedX Try.func3 rfl (by kernel_rfl) (Nat.le_of_ble_eq_true (by kernel_rfl)) (by kernel_rfl) rfl rfl ?_
 simp only [sl0, Nat.zero_add, Nat.reduceAdd]
 repeat' (first
  |with_reducible (first|refine q_and ?_ ?_|exact True.intro|exact TkEq.nil _|refine Red.o (by constructor) ?_|refine blockK_o' rfl ?_|refine LoopX_e' rfl ?_|assumption)
  |((with_reducible apply q_call);first|refine X_pure (h1) rfl ?_|refine X_pure (h2) rfl ?_|refine X_pure (h3) rfl ?_|refine X_pure (h4) rfl ?_|refine X_pure (h0) rfl ?_)
  |((with_reducible apply q_CI);intro hbq;(try simp only [bq] at hbq);(try (exfalso;omega)))
  |with_reducible (first|refine W_seq ?_|refine W_block ?_)
  |((with_reducible apply q_cond);refine X_cond rfl ?_ ?_;all_goals (intro hbq;(try simp only [bq] at hbq);(try (exfalso;omega))))
  |refine Rex.o (by (with_reducible constructor);apply Eq.refl) ?_
  |(intro (hgq : (_ : Bool) = true);(try simp only [bq] at hgq))
  |(intro (hgq : (_ : Bool) = false);(try simp only [bq] at hgq))
  |((with_reducible apply q_VOk);exact fun _ => ⟨rfl,rfl⟩)|(intro _;exact rfl)|((with_reducible apply q_CRB);kernel_rfl)|((with_reducible apply q_bt);simp only [bq])|((with_reducible apply q_eqN);rfl)|((with_reducible apply q_FE);exact rfl)|with_reducible (first|exact isByte_wrap _|exact isByte_nat _)|(simp only [hgq,bq];done)|omega|(dsimp only;omega))
 all_goals first | rfl | (refine VEq.c (CEq.bool ?_); simp; done) | (simp; done)
end
open Go.RowKit
theorem okWide_spot {P : Program} {w : World} {r : Reach} {base : Nat} {t e : TypeId} {v : Value} (ht : P.underlying t = some (.slice e)) (h : Value.okWide P w r base t v) {a : Addr} {len cap : Nat} (hv : v = .slice (some a) len cap) : a.spot = none := by
 subst hv
 simp only [Value.okWide, ht, Cell.okWide, Cell.ok] at h
 exact h.2.2.2.1
abbrev IsRowI (w : World) (a : Option Addr) (len cap : Nat) (zs : List Int) : Prop :=
 (a = none ∧ len = 0 ∧ cap = 0 ∧ zs = []) ∨ ∃ x, a = some x ∧ len ≤ cap ∧ cap ≤ maxLen ∧ zs.length = cap ∧ (∀ i, i < zs.length → w.cell? (x.add i) = some (.int .i64 (zs.getD i 0))) ∧ ∀ n ∈ zs, (Lit.int .i64 n).wf = true
theorem flat_int (l : List Int) : l.flatMap fInt = l.map fI := by
 induction l with
 | nil => rfl
 | cons x r ih => rw [List.flatMap_cons, ih]; rfl
theorem rowI_rep {w : World} {a : Option Addr} {len cap : Nat} {zs : List Int} (h : IsRowI w a len cap zs) (hs : ∀ x, a = some x → x.spot = none) : (∀ l, RepA w (fun _ => .lock none) id l (SV.den (.c (rInt (zs.take len)))) (.slice a len cap)) ∧ (zs.take len).length ≤ 9223372036854775807 := by
 rcases h with ⟨rfl, rfl, rfl, rfl⟩ | ⟨x, rfl, hl, hm, hz, hc, _⟩
 ·exact ⟨fun l => .nil0, by simp⟩
 ·unfold maxLen at hm
  have hlen : (zs.take len).length = len := by rw [List.length_take]; omega
  refine ⟨fun l => ?_, by omega⟩
  obtain ⟨g, o, sp⟩ := x
  have hsp : sp = none := hs _ rfl
  subst hsp
  show RepF w _ (.row ((zs.take len).flatMap fInt) (zs.take len).length) _
  rw [hlen, flat_int]
  have hcell : ∀ i (h : i < (zs.take len).length), w.cell? ⟨g, o + i, none⟩ = some (.int .i64 (zs.take len)[i]) := fun i h => by
   have h1 := hc i (by omega)
   have e : (⟨g, o, none⟩ : Addr).add i = ⟨g, o + i, none⟩ := by
    unfold Addr.add
    split
    ·rename_i h0; subst h0; rfl
    ·rfl
   rw [e] at h1
   rw [h1, List.getElem_take, List.getD_eq_getElem?_getD, List.getElem?_eq_getElem (by omega)]
   rfl
  refine repF_rowI ⟨g, o, cap, rfl, hl, ⟨fun i hi => ?_, fun hne => ?_⟩⟩
  ·rw [List.length_map] at hi
   exact ⟨_, hcell i hi, by rw [List.getElem_map]; exact RepF.v _ rfl⟩
  ·refine ⟨?_, trivial⟩
   have h0 : 0 < (zs.take len).length := List.length_pos_iff.2 (fun e => hne (by rw [e]; rfl))
   exact World.block_lt_of_cell? w _ (hcell 0 h0)
theorem law_calls {f : FuncId} {args : List AVal} (hO : Ok Try.prog f args [] (aB true) []) (w : World) (vals : Array Value) (hs : vals.size = args.length) (hr : ∀ i (h : i < args.length) (h' : i < vals.size) l, RepA w (fun _ => .lock none) id l args[i] vals[i]) (hok : ∀ x ∈ args, x.ok 0 = true) :
  Calls Try.prog f vals w fun e w' => e = .returned (.bool true) ∧ Below w.heap.size w w' := by
 refine (hO.run w (fun _ => .lock none) id vals hs hr hok ⟨fun b cs h => by simp at h, fun b cs h => by simp at h⟩).mono ?_
 rintro e w' ⟨v, κ', ρ', rfl, hv, _, hfr, _⟩
 have hv : RepF w' κ' (.v (.bool true)) v := hv (.slot 0)
 rw [(repF_v.1 hv).1]
 exact ⟨rfl, hfr.os, hfr.tape, hfr.output, hfr.size, fun k hk => (hfr.lock k none hk rfl).2⟩
end Go.Proofs.Ytalfibohepbhfaa.Av
namespace Go.Proofs.Ytalfibohepbhfaa
open Go.ChangeShapes Go.WideShapes Go.Deep Go.RowKit
section
variable {H : Type} {enc : TypeId × Value → H} {P : Program} {w : World} {base : Nat} {spare : Nat → Bool} {held : Bool}
def Legible (enc : TypeId × Value → H) (P : Program) (w : World) (base : Nat) (spare : Nat → Bool) (held : Bool) (t : TypeId) (v : Value) : Prop :=
 ∃ n y, DataW.trod enc P w base spare held n t [v] = some y
theorem Legible.int {t : TypeId} {v : Value} {k : IntKind} (h : Legible enc P w base spare held t v) (ht : P.underlying t = some (.int k)) : ∃ n, v = .int k n ∧ (Lit.int k n).wf = true := by
 obtain ⟨m, y, hm⟩ := h
 obtain ⟨n, e, _, hw⟩ := DataW.trod_int ht hm
 exact ⟨n, by simpa using e, hw⟩
theorem Legible.str {t : TypeId} {v : Value} (h : Legible enc P w base spare held t v) (ht : P.underlying t = some .string) : ∃ s, v = .string s ∧ s.size ≤ maxLen := by
 obtain ⟨m, y, hm⟩ := h
 obtain ⟨s, e, _, hw⟩ := DataW.trod_string ht hm
 exact ⟨s, by simpa using e, hw⟩
theorem fields_legible {t : TypeId} {fs : Array Field} {fuel : Nat} {cs : List Value} {x : DataW H × List MemPlace} (hs : P.underlying t = some (.struct fs)) (hone : oneCellFields P fs = true) (hC : P.cellsOf t = fs.size)
  (h : DataW.trod enc P w base spare held fuel t cs = some x) : cs.length = fs.size ∧ ∀ (j : Nat) (f : Field), fs[j]? = some f → ∃ v, cs[j]? = some v ∧ Legible enc P w base spare held f.type v := by
 obtain ⟨xs, n, _, _, hl, hxl, hf⟩ := DataW.trod_struct hs h
 refine ⟨hl.trans hC, fun j f hj => ?_⟩
 have hlt : j < fs.size := (Array.getElem?_eq_some_iff.1 hj).1
 have hjc : j < cs.length := by omega
 have hjx : j < xs.length := by omega
 obtain ⟨ho, hk⟩ := hone_of hone j f hj
 have h1 := hf j f hj
 have e : (cs.drop f.offset).take (P.cellsOf f.type) = [cs[j]] := by
  rw [ho, hk, List.drop_eq_getElem_cons hjc, List.take_succ_cons, List.take_zero]
 rw [e, List.getElem?_eq_getElem hjx] at h1
 exact ⟨cs[j], List.getElem?_eq_getElem hjc, n, _, h1⟩
theorem agg_legible {r : Reach} {b0 : Nat} {t : TypeId} {fs : Array Field} {v : Value} {d : DataW H} {p : List MemPlace} (hs : P.underlying t = some (.struct fs)) (hone : oneCellFields P fs = true) (hC : P.cellsOf t = fs.size)
  (hv : Value.okWide P w r b0 t v) (h : DataW.Trod enc P w base spare held t v d p) :
  ∃ cs : List Value, v = .agg cs.toArray ∧ cs.length = fs.size ∧ ∀ (j : Nat) (f : Field), fs[j]? = some f → ∃ u, cs[j]? = some u ∧ Legible enc P w base spare held f.type u := by
 obtain ⟨⟨cs⟩, rfl, _⟩ := okWide_struct hs hv
 obtain ⟨fuel, hf⟩ := h
 obtain ⟨h1, h2⟩ := fields_legible hs hone hC hf
 exact ⟨cs, rfl, by simpa [Value.cells] using h1, fun j f hj => by simpa [Value.cells] using h2 j f hj⟩
theorem rows_legible {t e : TypeId} {fs : Array Field} {v : Value} (ht : P.underlying t = some (.slice e)) (he : P.underlying e = some (.struct fs)) (hone : oneCellFields P fs = true) (hC : P.cellsOf e = fs.size) (hpos : 0 < fs.size)
  (h : Legible enc P w base spare held t v) :
  ∃ A len cap, v = .slice A len cap ∧ len ≤ cap ∧ cap ≤ maxLen ∧ ∀ i, i < len → ∃ b off, A = some ⟨b, off, none⟩ ∧ b < w.heap.size ∧
   ∀ (j : Nat) (f : Field), fs[j]? = some f → ∃ u, w.cell? ⟨b, off + i * fs.size + j, none⟩ = some u ∧ Legible enc P w base spare held f.type u := by
 obtain ⟨fuel, y, hf⟩ := h
 rcases open_slice ht hf with ⟨h0, _⟩ | ⟨a, len, cap, m, n, D, Pl, hcs, hb, hl, hm, hmm, hx, hi⟩
 ·exact ⟨none, 0, 0, by simpa using h0, Nat.le_refl _, by simp [maxLen], fun i hi => absurd hi (Nat.not_lt_zero _)⟩
 ·refine ⟨some a, len, cap, by simpa using hcs, hl, hm, fun i him => ?_⟩
  have him' : i < m := by rw [hmm]; split <;> omega
  obtain ⟨cs', hc, ht'⟩ := hi i him'
  rw [hC] at hc
  obtain ⟨hlen, hfl⟩ := fields_legible he hone hC ht'
  obtain ⟨_, hcl, hat⟩ := World.cells?_some hc
  have h0 : w.cell? (a.add (i * fs.size)) = some (cs'[0]'(by omega)) := by
   have := hat 0 hpos
   rw [List.getElem?_eq_getElem (by omega)] at this
   simpa [Addr.add] using this
  obtain ⟨b, off, spot⟩ := a
  have hspot : spot = none := by
   by_cases hz : i * fs.size = 0
   ·rw [hz] at h0; simpa [Addr.add] using World.cell?_spot h0
   ·have h00 := (hi 0 (by omega))
    obtain ⟨cs0, hc0, ht0⟩ := h00
    rw [hC] at hc0
    obtain ⟨_, hcl0, hat0⟩ := World.cells?_some hc0
    have := hat0 0 hpos
    rw [List.getElem?_eq_getElem (by omega)] at this
    simpa [Addr.add] using World.cell?_spot this
  subst hspot
  have hlt := World.block_lt_of_cell? w _ h0
  refine ⟨b, off, rfl, by simpa [Go.WideShapes.add_plain] using hlt, fun j f hj => ?_⟩
  obtain ⟨u, hu, hleg⟩ := hfl j f hj
  have hjl : j < fs.size := (Array.getElem?_eq_some_iff.1 hj).1
  have := hat j hjl
  rw [Go.WideShapes.add_plain, Go.WideShapes.add_plain, hu] at this
  exact ⟨u, this, hleg⟩
theorem row1_legible {t e : TypeId} {v : Value} (ht : P.underlying t = some (.slice e)) (hC : P.cellsOf e = 1)
  (h : Legible enc P w base spare held t v) :
  ∃ A len cap, v = .slice A len cap ∧ len ≤ cap ∧ cap ≤ maxLen ∧ ∀ i, i < len → ∃ b off, A = some ⟨b, off, none⟩ ∧ b < w.heap.size ∧
   ∃ u, w.cell? ⟨b, off + i, none⟩ = some u ∧ Legible enc P w base spare held e u := by
 obtain ⟨fuel, y, hf⟩ := h
 rcases open_slice ht hf with ⟨h0, _⟩ | ⟨a, len, cap, m, n, D, Pl, hcs, hb, hl, hm, hmm, hx, hi⟩
 ·exact ⟨none, 0, 0, by simpa using h0, Nat.le_refl _, by simp [maxLen], fun i hi => absurd hi (Nat.not_lt_zero _)⟩
 ·refine ⟨some a, len, cap, by simpa using hcs, hl, hm, fun i him => ?_⟩
  have key : ∀ k, k < m → ∃ u, w.cell? (a.add k) = some u ∧ Legible enc P w base spare held e u := by
   intro k hk
   obtain ⟨cs', hc, ht'⟩ := hi k hk
   rw [hC, Nat.mul_one] at hc
   obtain ⟨_, hcl, hat⟩ := World.cells?_some hc
   match cs', hcl with
   | [u], _ => exact ⟨u, by simpa [Addr.add] using hat 0 (by omega), n, _, ht'⟩
  have him' : i < m := by rw [hmm]; split <;> omega
  obtain ⟨u0, h0, _⟩ := key 0 (by omega)
  obtain ⟨u, hu, hleg⟩ := key i him'
  obtain ⟨b, off, spot⟩ := a
  have hspot : spot = none := by simpa [Addr.add] using World.cell?_spot h0
  subst hspot
  rw [Go.WideShapes.add_plain] at hu
  exact ⟨b, off, rfl, World.block_lt_of_cell? w _ hu, u, hu, hleg⟩
end
theorem list_of {α : Type} {Q : Nat → α → Prop} : ∀ (n : Nat), (∀ i, i < n → ∃ a, Q i a) → ∃ l : List α, l.length = n ∧ ∀ i (h : i < l.length), Q i l[i]
 | 0, _ => ⟨[], rfl, fun i h => absurd h (Nat.not_lt_zero _)⟩
 | n + 1, h => by
  obtain ⟨l, hl, hq⟩ := list_of n (fun i hi => h i (by omega))
  obtain ⟨a, ha⟩ := h n (by omega)
  refine ⟨l ++ [a], by simp [hl], fun i hi => ?_⟩
  by_cases hin : i < l.length
  ·rw [List.getElem_append_left hin]; exact hq i hin
  ·have : i = l.length := by simp at hi; omega
   subst this
   simp [hl, ha]
end Go.Proofs.Ytalfibohepbhfaa
