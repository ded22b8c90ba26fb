/- What the claims use of their texts: Rt4, Rt5, Rt6, Rt7, Plain, DynPlain, PermPlain, Dy1, Dy2, Arith, Arith2, BrA, Dy3, Dy4, Bl1, Bl2, Bl3, Bl7, La1, La3, La4, Mo1, Mo2, Mo3, Mo4, Mo5, Mo6, Mo7, Mo8, Sm, Mw1, Kp1. -/
import Derived.Test.YtalfibohepbhfaaGreatPID
set_option linter.unusedVariables false
set_option linter.unusedSimpArgs false
set_option maxRecDepth 4000
set_option maxHeartbeats 4000000
namespace Go.Proofs.YtalfibohepbhfaaGreat.Av
theorem in_ok (n lo hi : Int) : OkV Tryz.prog 57 [.c (xI n), .c (xI lo), .c (xI hi)] [] (vB (decide (lo ≤ n) && decide (n ≤ hi))) [] := by
 refine X_fn mixedX Tryz.func57 rfl (by kernel_rfl) (Nat.le_of_ble_eq_true (by kernel_rfl)) (by kernel_rfl) rfl rfl (Nat.le_of_ble_eq_true rfl) rfl rfl ?_
 simp only [sl0, Nat.zero_add, Nat.reduceAdd]
 repeat' (first|with_reducible (first|refine q_and ?_ ?_|exact True.intro|exact TkEq.nil _|assumption)|refine Rex.o (by (with_reducible constructor);apply Eq.refl) ?_|(intro (hgq : (_ : Bool) = true);(try simp only [bq] at hgq))|((with_reducible apply q_bt);simp only [bq]))
 repeat' (first|with_reducible (first|refine Wk.o (by constructor) ?_|exact True.intro)|refine VEq.c ?_)
theorem dup_at {st : List Stp} {i j : Nat} (hi : i < st.length) (hj : j < i) (h : (st.getD j st0).sec = (st.getD i st0).sec) : dupAt st i = true := by
 unfold dupAt
 rw [List.any_eq_true]
 refine ⟨st.getD j st0, ?_, by simpa using h⟩
 rw [List.getD_eq_getElem?_getD, List.getElem?_eq_getElem (by omega)]
 rw [List.mem_take_iff_getElem]
 exact ⟨j, by omega, rfl⟩
theorem dup_nat {st : List Stp} {i : Nat} (hi : i < st.length) (h : ∀ j, j < i → (st.getD j st0).sec ≠ (st.getD i st0).sec) : dupAt st i = false := by
 unfold dupAt
 rw [List.any_eq_false]
 intro x hx
 rw [List.mem_take_iff_getElem] at hx
 obtain ⟨j, hj, rfl⟩ := hx
 have := h j (by omega)
 rw [List.getD_eq_getElem?_getD, List.getElem?_eq_getElem (by omega)] at this
 simpa using this
theorem refRte_ok (L : Lay) (hL : LayFits L) (st : List Stp) (ov : Int) (hl : st.length ≤ 9223372036854775807) (ho : -9223372036854775808 ≤ ov ∧ ov ≤ 9223372036854775807) : OkV Tryz.prog 43 [vLay L, .agg [rStp st, xI ov]] [] (vI (rteErr L ⟨st, ov⟩)) [] := by
 have hC := refCheck_okV L hL
 have hl3 := hL.m3
 unfold vLay at hC ⊢
 refine X_fn mixedX Tryz.func43 rfl (by kernel_rfl) (Nat.le_of_ble_eq_true (by kernel_rfl)) (by kernel_rfl) rfl rfl (Nat.le_of_ble_eq_true rfl) rfl rfl ?_
 simp only [sl0, Nat.zero_add, Nat.reduceAdd]
 repeat' (first|with_reducible (first|refine q_and ?_ ?_|exact True.intro|exact TkEq.nil _|refine Red.o (by constructor) ?_|assumption)|((with_reducible apply q_call);refine X_pure (hC) rfl ?_)|((with_reducible apply q_CI);intro hbq;(try simp only [bq] at hbq);(try (exfalso;omega)))|refine Rex.o (by (with_reducible constructor);apply Eq.refl) ?_|(intro (hgq : (_ : Bool) = true);(try simp only [bq] at hgq))|(intro (hgq : (_ : Bool) = false);(try simp only [bq] at hgq))|((with_reducible apply q_bt);simp only [bq])|omega)
 ·rw [rte_1 hbq]; rfl
 ·rename_i a1
  rw [rte_7 (by omega) (by simp only; omega)]; rfl
 ·rename_i a1 a2
  rw [rte_4 (by omega) (by simp only; omega) (by simp only; omega)]; rfl
 rename_i a1 a2
 clear hC
 have b1 : layErr L = 0 := by omega
 have b2 : ¬ (24 < st.length ∨ 2 < ov) := by omega
 have b3 : ¬ (ov < 0 ∨ (st.length : Int) - ov < 2) := by omega
 have hV := valid_of b1
 have hn3 := hV.n3
 refine W_loopS (fun i : Nat => SS [sC 2 (pB 0), sC 3 (pB 1), sI 5 i] [bLay L, bRte st ov]) (fun i => i ≤ st.length ∧ ∀ j, j < i → (st.getD j st0).ok L = true) (fun i => st.length - i) 0 ?_ ⟨by omega, fun j hj => by omega⟩ ?_
 ·
  refine X_weak rfl rfl rfl ?_ ?_ <;> repeat' (first|with_reducible (first|refine Wk.o (by constructor) ?_|refine q_and ?_ ?_|exact True.intro)|refine q_AgS rfl ?_ ?_|exact (rfl : known _ = _)|omega)
 intro i hi
 obtain ⟨hi, hok⟩ := hi
 have h1 := in_ok (st.getD (i : Int).toNat st0).sec 0 (L.secs.length - 1)
 have h2 := in_ok (st.getD (i : Int).toNat st0).dir 0 1
 repeat' (first|with_reducible (first|refine q_and ?_ ?_|exact True.intro|exact TkEq.nil _|refine Red.o (by constructor) ?_|assumption)|((with_reducible apply q_call);refine X_pure (h1) rfl ?_)|((with_reducible apply q_callG);refine X_pureG ((fun _ => h2)) rfl ?_ ?_)|((with_reducible apply q_CI);intro hbq;(try simp only [bq] at hbq);(try (exfalso;omega)))|refine Rex.o (by (with_reducible constructor);apply Eq.refl) ?_|(intro (hgq : (_ : Bool) = true);(try simp only [bq] at hgq))|(intro (hgq : (_ : Bool) = false);(try simp only [bq] at hgq))|((with_reducible apply q_VOk);exact fun _ => ⟨rfl,rfl⟩)|((with_reducible apply q_CRB);kernel_rfl)|((with_reducible apply q_bt);simp only [bq])|(simp only [hgq,bq];done)|omega)
 ·have hb : (st.getD (i : Int).toNat st0).ok L = false := by
   unfold Stp.ok
   simp only [Bool.and_eq_false_iff, Bool.or_eq_false_iff, decide_eq_false_iff_not]
   omega
  rw [rte_4b (r := ⟨st, ov⟩) b1 b2 b3 (all_no (l := st) (i := i) (by omega) hb)]; rfl
 ·have hb : (st.getD (i : Int).toNat st0).ok L = true := by
   unfold Stp.ok
   simp only [Bool.and_eq_true, Bool.or_eq_true, decide_eq_true_eq]
   omega
  refine LoopK_n (i + 1) ?_ (⟨by omega, upto_succ hok hb⟩) (by (try dsimp only); omega)
  refine X_weak rfl rfl rfl ?_ ?_ <;> repeat' (first|with_reducible (first|refine Wk.o (by constructor) ?_|refine q_and ?_ ?_|exact True.intro)|refine q_AgS rfl ?_ ?_|exact (rfl : known _ = _)|omega)
 have hie : i = st.length := by omega
 subst hie
 clear h1 h2
 have b4 : st.all (Stp.ok L) = true := all_yes hok
 clear hok hi hbq
 refine W_loopS (fun i : Nat => SS [sC 2 (pB 0), sC 3 (pB 1), sI 6 i] [bLay L, bRte st ov]) (fun i => i ≤ st.length ∧ ∀ j, j < i → dupAt st j = false) (fun i => st.length - i) 0 ?_ ⟨by omega, fun j hj => by omega⟩ ?_
 ·
  refine X_weak rfl rfl rfl ?_ ?_ <;> repeat' (first|with_reducible (first|refine Wk.o (by constructor) ?_|refine q_and ?_ ?_|exact True.intro)|refine q_AgS rfl ?_ ?_|exact (rfl : known _ = _)|omega)
 intro i hi
 obtain ⟨hi, hno⟩ := hi
 repeat' (first|with_reducible (first|refine q_and ?_ ?_|exact True.intro|refine Red.o (by constructor) ?_|fail)|((with_reducible apply q_CI);intro hbq;(try simp only [bq] at hbq);(try (exfalso;omega)))|refine Rex.o (by (with_reducible constructor);apply Eq.refl) ?_|fail)
 ·rename_i c1
  refine W_loopS (fun k : Nat => SS [sC 2 (pB 0), sC 3 (pB 1), sI 6 i, sI 7 k] [bLay L, bRte st ov]) (fun k => k ≤ i ∧ ∀ j, j < k → (st.getD j st0).sec ≠ (st.getD (i : Int).toNat st0).sec) (fun k => i - k) 0 ?_ ⟨by omega, fun j hj => by omega⟩ ?_
  ·
   refine X_weak rfl rfl rfl ?_ ?_ <;> repeat' (first|with_reducible (first|refine Wk.o (by constructor) ?_|refine q_and ?_ ?_|exact True.intro)|refine q_AgS rfl ?_ ?_|exact (rfl : known _ = _)|omega)
  intro k hk
  obtain ⟨hk, hne⟩ := hk
  repeat' (first|with_reducible (first|refine q_and ?_ ?_|exact True.intro|exact TkEq.nil _|refine Red.o (by constructor) ?_|assumption)|((with_reducible apply q_CI);intro hbq;(try simp only [bq] at hbq);(try (exfalso;omega)))|refine Rex.o (by (with_reducible constructor);apply Eq.refl) ?_|((with_reducible apply q_VOk);exact fun _ => ⟨rfl,rfl⟩)|((with_reducible apply q_CRB);kernel_rfl)|omega)
  ·rw [rte_5 (r := ⟨st, ov⟩) b1 b2 b3 b4 (dup_yes (st := st) (i := i) (by omega) (dup_at (j := k) (by omega) (by omega) (by simpa using hbq)))]; rfl
  ·
   refine LoopK_n (k + 1) ?_ (⟨by omega, upto_succ hne (by simpa using hbq)⟩) (by (try dsimp only); omega)
   refine X_weak rfl rfl rfl ?_ ?_ <;> repeat' (first|with_reducible (first|refine Wk.o (by constructor) ?_|refine q_and ?_ ?_|exact True.intro)|refine q_AgS rfl ?_ ?_|exact (rfl : known _ = _)|omega)
  ·have hki : k = i := by omega
   subst hki
   refine LoopK_n (k + 1) ?_ (⟨by omega, upto_succ hno (dup_nat (by omega) (by simpa using hne))⟩) (by (try dsimp only); omega)
   refine X_weak rfl rfl rfl ?_ ?_ <;> repeat' (first|with_reducible (first|refine Wk.o (by constructor) ?_|refine q_and ?_ ?_|exact True.intro)|refine q_AgS rfl ?_ ?_|exact (rfl : known _ = _)|omega)
 have hie : i = st.length := by omega
 subst hie
 have b5 : dupB st = false := dup_no hno
 clear hno hi hbq
 refine W_loopS (fun i : Nat => SS [sC 2 (pB 0), sC 3 (pB 1), sI 8 (i + 1 : Nat)] [bLay L, bRte st ov]) (fun i => i ≤ st.length - 1 ∧ ∀ j, j < i → (linkAt L st j).isSome = true) (fun i => st.length - 1 - i) 0 ?_ ⟨by omega, fun j hj => by omega⟩ ?_
 ·
  refine X_weak rfl rfl rfl ?_ ?_ <;> repeat' (first|with_reducible (first|refine Wk.o (by constructor) ?_|refine q_and ?_ ?_|exact True.intro)|refine q_AgS rfl ?_ ?_|exact (rfl : known _ = _)|omega)
 intro i hi
 obtain ⟨hi, hno⟩ := hi
 have hJ := joined_ok L (st.getD (((i + 1 : Nat) : Int) - 1).toNat st0) (st.getD ((i + 1 : Nat) : Int).toNat st0) hV
 have e1 : (((i + 1 : Nat) : Int) - 1).toNat = i := by omega
 have e2 : joinL L (st.getD (((i + 1 : Nat) : Int) - 1).toNat st0) (st.getD ((i + 1 : Nat) : Int).toNat st0) = linkAt L st i := by rw [e1, Int.toNat_natCast]; rfl
 rw [e2] at hJ
 unfold vLay at hJ
 repeat' (first|with_reducible (first|refine q_and ?_ ?_|exact True.intro|exact TkEq.nil _|refine Red.o (by constructor) ?_|assumption)|((with_reducible apply q_call);refine X_pure (hJ) rfl ?_)|((with_reducible apply q_CI);intro hbq;(try simp only [bq] at hbq);(try (exfalso;omega)))|refine Rex.o (by (with_reducible constructor);apply Eq.refl) ?_|((with_reducible apply q_VOk);exact fun _ => ⟨rfl,rfl⟩)|((with_reducible apply q_CRB);kernel_rfl)|omega)
 ·rw [rte_11 (r := ⟨st, ov⟩) b1 b2 b3 b4 b5 (link_no (i := i) (by simp only; omega) hbq)]; rfl
 ·
  refine LoopK_n (i + 1) ?_ (⟨by omega, upto_succ hno hbq⟩) (by (try dsimp only); omega)
  refine X_weak rfl rfl rfl ?_ ?_ <;> repeat' (first|with_reducible (first|refine Wk.o (by constructor) ?_|refine q_and ?_ ?_|exact True.intro)|refine q_AgS rfl ?_ ?_|exact (rfl : known _ = _)|omega)
 ·rw [rte_0 (r := ⟨st, ov⟩) b1 b2 b3 b4 b5 (link_yes fun j hj => hno j (by simp only at hj; omega))]; rfl
abbrev secA (L : Lay) (s : Stp) : Sec := L.secs.getD s.sec.toNat sec0
def celOf (L : Lay) (s : Stp) : Int × Int := ((secA L s).lim, if s.dir = 1 then -(secA L s).grd else (secA L s).grd)
def celsOf (L : Lay) (s : Stp) : List (Int × Int) := List.replicate (secA L s).len.toNat (celOf L s)
def celL (L : Lay) (l : List Stp) : List (Int × Int) := l.flatMap (celsOf L)
def trv (r : Rte) : List Stp := r.st.take ((r.st.length : Int) - r.ov).toNat
def celErr (L : Lay) (r : Rte) : Int := if rteErr L r ≠ 0 then rteErr L r else if 4000 < (celL L (trv r)).length then 7 else 0
def celOut (L : Lay) (r : Rte) : List (Int × Int) := if celErr L r = 0 then celL L (trv r) else []
def celOne (L : Lay) (r : Rte) : Int := if celErr L r = 0 then (secA L (r.st.getD 0 st0)).len else 0
theorem celErr_1 {L : Lay} {r : Rte} (h : ¬ rteErr L r = 0) : celErr L r = rteErr L r := if_pos h
theorem celErr_7 {L : Lay} {r : Rte} (h : rteErr L r = 0) (h2 : 4000 < (celL L (trv r)).length) : celErr L r = 7 := by unfold celErr; rw [if_neg (by simpa using h), if_pos h2]
theorem celErr_0 {L : Lay} {r : Rte} (h : rteErr L r = 0) (h2 : ¬ 4000 < (celL L (trv r)).length) : celErr L r = 0 := by unfold celErr; rw [if_neg (by simpa using h), if_neg h2]
theorem celL_snoc (L : Lay) {l : List Stp} {i : Nat} (h : i < l.length) : celL L (l.take (i + 1)) = celL L (l.take i) ++ celsOf L (l.getD i st0) := by
 unfold celL
 rw [take_snoc h, List.flatMap_append]
 simp
theorem sec_of {L : Lay} (hV : Valid L) {i : Nat} (h : i < L.secs.length) : secB L.sts.length (L.secs.getD i sec0) = true := by
 rw [List.getD_eq_getElem?_getD, List.getElem?_eq_getElem h]
 exact (hV.v3 _ (List.getElem_mem h)).2
theorem celL_len {L : Lay} (hV : Valid L) : ∀ {l : List Stp}, l.all (Stp.ok L) = true → (celL L l).length ≤ 400 * l.length
 | [], _ => Nat.le_refl _
 | s :: l, h => by
  rw [List.all_cons, Bool.and_eq_true] at h
  have ih := celL_len hV h.2
  obtain ⟨a, b, _⟩ := ok_dir h.1
  have h2 := secB_of (sec_of hV (i := s.sec.toNat) (by omega))
  have : (celsOf L s).length ≤ 400 := by unfold celsOf secA; rw [List.length_replicate]; omega
  unfold celL at ih ⊢
  rw [List.flatMap_cons, List.length_append, List.length_cons]
  omega
theorem all_take {L : Lay} {l : List Stp} (h : l.all (Stp.ok L) = true) (n : Nat) : (l.take n).all (Stp.ok L) = true := by
 rw [List.all_eq_true] at h ⊢
 exact fun x hx => h x (List.mem_of_mem_take hx)
theorem refCells_ok (L : Lay) (hL : LayFits L) (st : List Stp) (ov : Int) (hl : st.length ≤ 9223372036854775807) (ho : -9223372036854775808 ≤ ov ∧ ov ≤ 9223372036854775807) : OkV Tryz.prog 52 [vLay L, .agg [rStp st, xI ov]] [] (.tup [.c (rCell (celOut L ⟨st, ov⟩)), .c (xI (celOne L ⟨st, ov⟩)), .c (xI (celErr L ⟨st, ov⟩))]) [] := by
 have hC := refRte_ok L hL st ov hl ho
 unfold celOut celOne
 unfold vLay at hC ⊢
 refine X_fn mixedX Tryz.func52 rfl (by kernel_rfl) (Nat.le_of_ble_eq_true (by kernel_rfl)) (by kernel_rfl) rfl rfl (Nat.le_of_ble_eq_true rfl) rfl rfl ?_
 simp only [sl0, Nat.zero_add, Nat.reduceAdd]
 repeat' (first|with_reducible (first|refine q_and ?_ ?_|exact True.intro|exact TkEq.nil _|refine Red.o (by constructor) ?_|fail)|((with_reducible apply q_call);refine X_pure (hC) rfl ?_)|((with_reducible apply q_CI);intro hbq;(try simp only [bq] at hbq);(try (exfalso;omega)))|refine Rex.o (by (with_reducible constructor);apply Eq.refl) ?_|fail)
 ·rw [celErr_1 hbq, if_neg hbq, if_neg hbq]; rfl
 clear hC
 have hr := rte_of (L := L) (r := ⟨st, ov⟩) (by omega)
 obtain ⟨r1, r2, r3, r4, r5, r6, r7, r8⟩ := hr
 simp only at r1 r2 r3 r4 r5 r6 r7 r8
 have hV := valid_of r1
 have hn3 := hV.n3
 refine W_loopS (fun i : Nat => SS [sC 2 (pB 0), sC 3 (pB 1), sC 8 (tCell (celL L (st.take i))), sI 9 i] [bLay L, bRte st ov]) (fun i => (i : Int) ≤ st.length - ov) (fun i => st.length - i) 0 ?_ (by omega) ?_
 ·
  refine X_weak rfl rfl rfl ?_ ?_ <;> repeat' (first|with_reducible (first|refine Wk.o (by constructor) ?_|refine q_and ?_ ?_|exact True.intro)|refine q_AgS rfl ?_ ?_|exact CLe.nil_tipS|exact (rfl : known _ = _)|omega)
  all_goals rfl
 intro i hi
 have hsec : (i : Int) < st.length - ov → (0 ≤ (st.getD (i : Int).toNat { sec := 0, dir := 0 }).sec ∧ (st.getD (i : Int).toNat { sec := 0, dir := 0 }).sec < L.secs.length) ∧ ((L.secs.getD (st.getD (i : Int).toNat { sec := 0, dir := 0 }).sec.toNat sec0).len ≤ 400 ∧ 1 ≤ (L.secs.getD (st.getD (i : Int).toNat { sec := 0, dir := 0 }).sec.toNat sec0).len) ∧ (-40 ≤ (L.secs.getD (st.getD (i : Int).toNat { sec := 0, dir := 0 }).sec.toNat sec0).grd ∧ (L.secs.getD (st.getD (i : Int).toNat { sec := 0, dir := 0 }).sec.toNat sec0).grd ≤ 40) := fun h => by
  obtain ⟨x, y, _⟩ := ok_dir (all_at (i := i) r6 (by omega))
  rw [Int.toNat_natCast]
  have h2 := secB_of (sec_of hV (i := (st.getD i st0).sec.toNat) (by omega))
  exact ⟨⟨x, y⟩, ⟨h2.2.1, h2.1⟩, h2.2.2.2.2.1, h2.2.2.2.2.2.1⟩
 have hs0 : 0 ≤ (st.getD (Int.toNat 0) { sec := 0, dir := 0 }).sec ∧ (st.getD (Int.toNat 0) { sec := 0, dir := 0 }).sec < L.secs.length := by
  obtain ⟨x, y, _⟩ := ok_dir (all_at (i := 0) r6 (by omega))
  exact ⟨x, y⟩
 have hcl := celL_len hV (all_take r6 i)
 rw [List.length_take] at hcl
 repeat' (first|with_reducible (first|refine q_and ?_ ?_|exact True.intro|exact TkEq.nil _|refine Red.o (by constructor) ?_|fail)|((with_reducible apply q_CI);intro hbq;(try simp only [bq] at hbq);(try (exfalso;omega)))|refine Rex.o (by (with_reducible constructor);apply Eq.refl) ?_|((with_reducible apply q_VOk);exact fun _ => ⟨rfl,rfl⟩)|((with_reducible apply q_CRB);kernel_rfl)|omega)
 ·rename_i c1
  generalize hS : L.secs.getD (st.getD (i : Int).toNat { sec := 0, dir := 0 }).sec.toNat sec0 = S at *
  have hc : celsOf L (st.getD (i : Int).toNat { sec := 0, dir := 0 }) = List.replicate S.len.toNat (S.lim, (-S.grd)) := by
   unfold celsOf celOf secA
   rw [hS]
   first | rw [if_pos hbq] | rw [if_neg hbq]
  have hs := (hsec c1).2
  clear hsec
  refine W_loopS (fun k : Nat => SS [sC 2 (pB 0), sC 3 (pB 1), sC 8 (tCell (celL L (st.take i) ++ List.replicate k (S.lim, (-S.grd)))), sI 9 i, sC 10 (pB 2), sI 11 (-S.grd), sI 12 k] [bLay L, bRte st ov, some (.cells [xS S.nm, xI S.len, xI S.lim, xI S.grd, xI S.stn])]) (fun k => k ≤ S.len) (fun k => S.len.toNat - k) 0 ?_ (by omega) ?_
  ·
   refine X_weak rfl rfl rfl ?_ ?_ <;> repeat' (first|with_reducible (first|refine Wk.o (by constructor) ?_|refine q_and ?_ ?_|exact True.intro)|refine q_AgS rfl ?_ ?_|exact (rfl : known _ = _)|omega)
   all_goals simp
  intro k hk
  have hkn : (celL L (st.take i) ++ List.replicate k (S.lim, (-S.grd))).length ≤ 20000 := by rw [List.length_append, List.length_replicate]; omega
  repeat' (first|with_reducible (first|refine q_and ?_ ?_|exact True.intro|refine Red.o (by constructor) ?_|fail)|((with_reducible apply q_CI);intro hbq;(try simp only [bq] at hbq);(try (exfalso;omega)))|refine Rex.o (by (with_reducible constructor);apply Eq.refl) ?_|((with_reducible apply q_eqN);rfl)|omega)
  ·
   refine LoopK_n (k + 1) ?_ ((by omega)) (by (try dsimp only); omega)
   refine X_weak rfl rfl rfl ?_ ?_ <;> repeat' (first|with_reducible (first|refine Wk.o (by constructor) ?_|refine q_and ?_ ?_|exact True.intro)|refine q_AgS rfl ?_ ?_|exact (rfl : known _ = _)|omega)
   all_goals (rw [List.replicate_succ', ← List.append_assoc]; simp [fCell, fI, Nat.add_assoc])
  ·have hkl : k = S.len.toNat := by omega
   subst hkl
   refine LoopK_n (i + 1) ?_ ((by omega)) (by (try dsimp only); omega)
   refine X_weak rfl rfl rfl ?_ ?_ <;> repeat' (first|with_reducible (first|refine Wk.o (by constructor) ?_|refine q_and ?_ ?_|exact True.intro)|refine q_AgS rfl ?_ ?_|exact (rfl : known _ = _)|omega)
   all_goals (rw [celL_snoc L (by omega), ← hc]; try rfl)
 ·rename_i c1
  generalize hS : L.secs.getD (st.getD (i : Int).toNat { sec := 0, dir := 0 }).sec.toNat sec0 = S at *
  have hc : celsOf L (st.getD (i : Int).toNat { sec := 0, dir := 0 }) = List.replicate S.len.toNat (S.lim, S.grd) := by
   unfold celsOf celOf secA
   rw [hS]
   first | rw [if_pos hbq] | rw [if_neg hbq]
  have hs := (hsec c1).2
  clear hsec
  refine W_loopS (fun k : Nat => SS [sC 2 (pB 0), sC 3 (pB 1), sC 8 (tCell (celL L (st.take i) ++ List.replicate k (S.lim, S.grd))), sI 9 i, sC 10 (pB 2), sI 11 S.grd, sI 12 k] [bLay L, bRte st ov, some (.cells [xS S.nm, xI S.len, xI S.lim, xI S.grd, xI S.stn])]) (fun k => k ≤ S.len) (fun k => S.len.toNat - k) 0 ?_ (by omega) ?_
  ·
   refine X_weak rfl rfl rfl ?_ ?_ <;> repeat' (first|with_reducible (first|refine Wk.o (by constructor) ?_|refine q_and ?_ ?_|exact True.intro)|refine q_AgS rfl ?_ ?_|exact (rfl : known _ = _)|omega)
   all_goals simp
  intro k hk
  have hkn : (celL L (st.take i) ++ List.replicate k (S.lim, S.grd)).length ≤ 20000 := by rw [List.length_append, List.length_replicate]; omega
  repeat' (first|with_reducible (first|refine q_and ?_ ?_|exact True.intro|refine Red.o (by constructor) ?_|fail)|((with_reducible apply q_CI);intro hbq;(try simp only [bq] at hbq);(try (exfalso;omega)))|refine Rex.o (by (with_reducible constructor);apply Eq.refl) ?_|((with_reducible apply q_eqN);rfl)|omega)
  ·
   refine LoopK_n (k + 1) ?_ ((by omega)) (by (try dsimp only); omega)
   refine X_weak rfl rfl rfl ?_ ?_ <;> repeat' (first|with_reducible (first|refine Wk.o (by constructor) ?_|refine q_and ?_ ?_|exact True.intro)|refine q_AgS rfl ?_ ?_|exact (rfl : known _ = _)|omega)
   all_goals (rw [List.replicate_succ', ← List.append_assoc]; simp [fCell, fI, Nat.add_assoc])
  ·have hkl : k = S.len.toNat := by omega
   subst hkl
   refine LoopK_n (i + 1) ?_ ((by omega)) (by (try dsimp only); omega)
   refine X_weak rfl rfl rfl ?_ ?_ <;> repeat' (first|with_reducible (first|refine Wk.o (by constructor) ?_|refine q_and ?_ ?_|exact True.intro)|refine q_AgS rfl ?_ ?_|exact (rfl : known _ = _)|omega)
   all_goals (rw [celL_snoc L (by omega), ← hc]; try rfl)
 ·have hie : i = ((st.length : Int) - ov).toNat := by omega
  subst hie
  rw [celErr_7 (r := ⟨st, ov⟩) (by omega) (by unfold trv; simp only; omega)]; rfl
 ·have hie : i = ((st.length : Int) - ov).toNat := by omega
  subst hie
  rw [celErr_0 (r := ⟨st, ov⟩) (by omega) (by unfold trv; simp only; omega)]; rfl
abbrev xU (n : Int) : SC := .c (.f (.v (.int .u64 n)))
theorem two_u {a b c d : Int} (h : a = c ∧ b = d) : (packS [ST.c (xU a), ST.c (xU b)]).den = (SV.tup [.c (xU c), .c (xU d)]).den := by
 rw [h.1, h.2]; rfl
theorem mul64_ok (n : Int) (h0 : 0 ≤ n) (h1 : n < 512) : OkV Tryz.prog 129 [.c (xU 1), .c (xU n)] [] (.tup [.c (xU 0), .c (xU n)]) [] := by
 refine X_fn mixedX Tryz.func129 rfl (by kernel_rfl) (Nat.le_of_ble_eq_true (by kernel_rfl)) (by kernel_rfl) rfl rfl (Nat.le_of_ble_eq_true rfl) rfl rfl ?_
 simp only [sl0, Nat.zero_add, Nat.reduceAdd]
 repeat' (first|with_reducible (first|refine q_and ?_ ?_|exact True.intro|exact TkEq.nil _)|refine Rex.o (by (with_reducible constructor);apply Eq.refl) ?_|omega)
 obtain ⟨m, rfl⟩ := Int.eq_ofNat_of_zero_le h0
 have h2 : m < 512 := by omega
 clear h0 h1
 apply two_u
 revert m
 decide +kernel
theorem mul_ok (n : Int) (h0 : 0 ≤ n) (h1 : n < 512) : OkV Tryz.prog 122 [.c (xU 1), .c (xU n)] [] (.tup [.c (xU 0), .c (xU n)]) [] := by
 have hM := mul64_ok n h0 h1
 refine X_fn mixedX Tryz.func122 rfl (by kernel_rfl) (Nat.le_of_ble_eq_true (by kernel_rfl)) (by kernel_rfl) rfl rfl (Nat.le_of_ble_eq_true rfl) rfl rfl ?_
 simp only [sl0, Nat.zero_add, Nat.reduceAdd]
 repeat' (first|with_reducible (first|refine q_and ?_ ?_|exact True.intro|exact TkEq.nil _|refine Red.o (by constructor) ?_|fail)|((with_reducible apply q_call);refine X_pure (hM) rfl ?_)|((with_reducible apply q_CI);intro hbq;(try simp only [bq] at hbq);(try (exfalso;omega)))|refine Rex.o (by (with_reducible constructor);apply Eq.refl) ?_|fail)
 repeat' (first|with_reducible (first|refine Wk.o (by constructor) ?_|refine q_and ?_ ?_|exact True.intro)|refine VEq.tup ?_)
abbrev bCell (l : List (Int × Int)) : Option SB := some (.els 2 fCell vCell mCell (0, 0) l)
theorem u64_id (n : Int) (h0 : 0 ≤ n) (h1 : n < 512) : IntKind.u64.wrap n = n := by
 simp only [IntKind.wrap]
 simp [IntKind.bits, IntKind.signed]
 omega
def repK (c : Int × Int) (n k : Nat) : List (Int × Int) := List.replicate k c ++ List.replicate (n - k) (0, 0)
theorem rep_1 (c : Int × Int) (N : Nat) (h : 1 ≤ N) : spliceL (List.replicate N (0, 0)) (0 / 2) (List.take (min 1 N) [c]) = repK c N 1 := by
 rw [Nat.min_eq_left h]
 unfold spliceL repK
 simp
theorem rep_dbl (c : Int × Int) (N k : Nat) (h2 : k ≤ N) : spliceL (repK c N k) k ((repK c N k).take (min k (N - k))) = repK c N (k + min k (N - k)) := by
 have e : (repK c N k).take (min k (N - k)) = List.replicate (min k (N - k)) c := by
  unfold repK
  rw [List.take_append_of_le_length (by simp; omega), List.take_replicate]
  congr 1; omega
 rw [e]
 unfold spliceL repK
 rw [List.take_append_of_le_length (by simp), List.take_of_length_le (by simp), List.drop_append, List.drop_of_length_le (by simp), List.length_replicate, List.length_replicate, List.drop_replicate, List.nil_append, ← List.replicate_append_replicate]
 congr 2; omega
theorem repeat_ok (a b : Int) (n : Int) (h0 : 1 ≤ n) (h1 : n < 512) : OkV Tryz.prog 106 [.c (.c (.f (.row [fI a, fI b] 1))), .c (xI n)] [] (.c (rCell (List.replicate n.toNat (a, b)))) [] := by
 have e1 : IntKind.u64.wrap n = n := u64_id n (by omega) (by omega)
 have e2 : IntKind.u64.wrap ((1 : Nat) : Int) = 1 := u64_id 1 (by omega) (by omega)
 have hM : OkV Tryz.prog 122 [.c (xU (IntKind.u64.wrap ((1 : Nat) : Int))), .c (xU (IntKind.u64.wrap n))] [] (.tup [.c (xU 0), .c (xU n)]) [] := by
  rw [e1, e2]; exact mul_ok n (by omega) h1
 refine X_fnP mixedX Tryz.func106 rfl (by kernel_rfl) (Nat.le_of_ble_eq_true (by kernel_rfl)) (by kernel_rfl) rfl rfl ?_
 simp only [sl0, Nat.zero_add, Nat.reduceAdd]
 have hN : (n.toNat : Int) = n := by omega
 generalize n.toNat = N at hN ⊢
 subst hN
 have hrl : ∀ k, k ≤ N → (repK (a, b) N k).length = N := fun k hk => by unfold repK; simp; omega
 repeat' (first|with_reducible (first|refine q_and ?_ ?_|exact True.intro|refine Red.o (by constructor) ?_|assumption)|((with_reducible apply q_call);refine X_pure (hM) rfl ?_)|((with_reducible apply q_CI);intro hbq;(try simp only [bq] at hbq);(try (exfalso;omega)))|refine Rex.o (by (with_reducible constructor);apply Eq.refl) ?_|(intro (hgq : (_ : Bool) = true);(try simp only [bq] at hgq))|(intro (hgq : (_ : Bool) = false);(try simp only [bq] at hgq))|(intro _;exact rfl)|((with_reducible apply q_bt);simp only [bq])|((with_reducible apply q_eqN);rfl)|omega|(dsimp only;omega))
 ·simp
 ·rfl
 refine W_loopS (fun k : Nat => SS [sI 8 k, sC 7 (.c (.arr 0 0 N N))] [bCell (repK (a, b) N k)]) (fun k => 1 ≤ k ∧ k ≤ N) (fun k => N - k) 1 ?_ (by omega) ?_
 ·
  refine X_weak rfl rfl rfl ?_ ?_ <;> repeat' (first|with_reducible (first|refine Wk.o (by constructor) ?_|refine q_and ?_ ?_|exact True.intro)|refine q_AgS rfl ?_ ?_|exact (rfl : known _ = _)|omega)
  all_goals first
   | exact rep_1 (a, b) N (by omega)
 intro k hk
 have hrk := hrl k hk.2
 repeat' (first|with_reducible (first|refine q_and ?_ ?_|exact True.intro|refine Red.o (by constructor) ?_|assumption)|((with_reducible apply q_CI);intro hbq;(try simp only [bq] at hbq);(try (exfalso;omega)))|refine Rex.o (by (with_reducible constructor);apply Eq.refl) ?_|(intro _;exact rfl)|((with_reducible apply q_CRB);kernel_rfl)|((with_reducible apply q_eqN);rfl)|omega)
 ·
  refine LoopK_n (k + min k (N - k)) ?_ ((by omega)) (by (try dsimp only); omega)
  refine X_weak rfl rfl rfl ?_ ?_ <;> repeat' (first|with_reducible (first|refine Wk.o (by constructor) ?_|refine q_and ?_ ?_|exact True.intro)|refine q_AgS rfl ?_ ?_|exact (rfl : known _ = _)|omega)
  all_goals (rw [show ((k : Int).toNat : Nat) = k from rfl, show ((N : Int) - (k : Int)).toNat = N - k by omega]; first | (rw [Nat.zero_add, Nat.mul_div_cancel k (by decide : 0 < 2)]; exact rep_dbl (a, b) N k hk.2))
 have hkN : k = N := by omega
 subst hkN
 rw [show repK (a, b) k k = List.replicate k (a, b) by unfold repK; simp]
 rfl
theorem cells_ok (L : Lay) (hL : LayFits L) (st : List Stp) (ov : Int) (hl : st.length ≤ 9223372036854775807) (ho : -9223372036854775808 ≤ ov ∧ ov ≤ 9223372036854775807) : OkV Tryz.prog 85 [vLay L, .agg [rStp st, xI ov]] [] (.tup [.c (rCell (celOut L ⟨st, ov⟩)), .c (xI (celOne L ⟨st, ov⟩)), .c (xI (celErr L ⟨st, ov⟩))]) [] := by
 have hC := rteCheck_ok L hL st ov hl ho
 have hR : rteErr L { st := st, ov := ov } = 0 → ov ≤ 2 ∧ 0 ≤ ov ∧ ov + 2 ≤ st.length := fun h => by
  have hr := rte_of h
  exact ⟨hr.ov, hr.ov0, hr.two⟩
 unfold celOut celOne
 unfold vLay at hC ⊢
 refine X_fn mixedX Tryz.func85 rfl (by kernel_rfl) (Nat.le_of_ble_eq_true (by kernel_rfl)) (by kernel_rfl) rfl rfl (Nat.le_of_ble_eq_true rfl) rfl rfl ?_
 simp only [sl0, Nat.zero_add, Nat.reduceAdd]
 repeat' (first|with_reducible (first|refine q_and ?_ ?_|exact True.intro|exact TkEq.nil _|refine Red.o (by constructor) ?_|fail)|((with_reducible apply q_call);refine X_pure (hC) rfl ?_)|((with_reducible apply q_CI);intro hbq;(try simp only [bq] at hbq);(try (exfalso;omega)))|refine Rex.o (by (with_reducible constructor);apply Eq.refl) ?_|(intro _;exact rfl)|omega)
 ·rw [celErr_1 hbq, if_neg hbq, if_neg hbq]; rfl
 clear hC
 have hr := rte_of (L := L) (r := ⟨st, ov⟩) (by omega)
 obtain ⟨r1, r2, r3, r4, r5, r6, r7, r8⟩ := hr
 simp only at r1 r2 r3 r4 r5 r6 r7 r8
 have hV := valid_of r1
 have hn3 := hV.n3
 have htl : (st.take ((st.length : Int) - ov).toNat).length = ((st.length : Int) - ov).toNat := by rw [List.length_take]; omega
 refine W_loopS (fun i : Nat => SS [sC 2 (pB 0), sC 3 (pB 1), sC 8 (tCell (celL L (st.take i))), sC 27 (rStp (st.take ((st.length : Int) - ov).toNat)), sI 28 (st.length - ov), sI 29 i] [bLay L, bRte st ov]) (fun i => (i : Int) ≤ st.length - ov) (fun i => st.length - i) 0 ?_ (by omega) ?_
 ·
  refine X_weak rfl rfl rfl ?_ ?_ <;> repeat' (first|with_reducible (first|refine Wk.o (by constructor) ?_|refine q_and ?_ ?_|exact True.intro)|refine q_AgS rfl ?_ ?_|exact CLe.nil_tipS|exact (rfl : known _ = _)|omega)
 intro i hi
 have hg : (i : Int) < st.length - ov → (st.take ((st.length : Int) - ov).toNat).getD (i : Int).toNat { sec := 0, dir := 0 } = st.getD (i : Int).toNat { sec := 0, dir := 0 } := fun h => by
  rw [List.getD_eq_getElem?_getD, List.getD_eq_getElem?_getD, List.getElem?_take_of_lt (by omega)]
 have hcl := celL_len hV (all_take r6 i)
 rw [List.length_take] at hcl
 have hs0 : 0 ≤ (st.getD (Int.toNat 0) { sec := 0, dir := 0 }).sec ∧ (st.getD (Int.toNat 0) { sec := 0, dir := 0 }).sec < L.secs.length := by
  obtain ⟨x, y, _⟩ := ok_dir (all_at (i := 0) r6 (by omega))
  exact ⟨x, y⟩
 have hsec : (i : Int) < st.length - ov → (0 ≤ ((st.take ((st.length : Int) - ov).toNat).getD (i : Int).toNat { sec := 0, dir := 0 }).sec ∧ ((st.take ((st.length : Int) - ov).toNat).getD (i : Int).toNat { sec := 0, dir := 0 }).sec < L.secs.length) ∧ (1 ≤ (L.secs.getD ((st.take ((st.length : Int) - ov).toNat).getD (i : Int).toNat { sec := 0, dir := 0 }).sec.toNat sec0).len ∧ (L.secs.getD ((st.take ((st.length : Int) - ov).toNat).getD (i : Int).toNat { sec := 0, dir := 0 }).sec.toNat sec0).len < 512) ∧ (-40 ≤ (L.secs.getD ((st.take ((st.length : Int) - ov).toNat).getD (i : Int).toNat { sec := 0, dir := 0 }).sec.toNat sec0).grd ∧ (L.secs.getD ((st.take ((st.length : Int) - ov).toNat).getD (i : Int).toNat { sec := 0, dir := 0 }).sec.toNat sec0).grd ≤ 40) := fun h => by
  rw [hg h]
  obtain ⟨x, y, _⟩ := ok_dir (all_at (i := i) r6 (by omega))
  rw [Int.toNat_natCast]
  have h2 := secB_of (sec_of hV (i := (st.getD i st0).sec.toNat) (by omega))
  exact ⟨⟨x, y⟩, ⟨h2.1, Int.lt_of_le_of_lt h2.2.1 (by decide)⟩, h2.2.2.2.2.1, h2.2.2.2.2.2.1⟩
 generalize hT : (st.take ((st.length : Int) - ov).toNat).getD (i : Int).toNat { sec := 0, dir := 0 } = t at *
 by_cases hlt : (i : Int) < st.length - ov
 ·have hX1 := repeat_ok (L.secs.getD t.sec.toNat sec0).lim (-(L.secs.getD t.sec.toNat sec0).grd) (L.secs.getD t.sec.toNat sec0).len (hsec hlt).2.1.1 (hsec hlt).2.1.2
  have hX2 := repeat_ok (L.secs.getD t.sec.toNat sec0).lim (L.secs.getD t.sec.toNat sec0).grd (L.secs.getD t.sec.toNat sec0).len (hsec hlt).2.1.1 (hsec hlt).2.1.2
  subst hT
  repeat' (first|with_reducible (first|refine q_and ?_ ?_|exact True.intro|refine Red.o (by constructor) ?_|fail)|((with_reducible apply q_call);first|refine X_pure (hX1) rfl ?_|refine X_pure (hX2) rfl ?_)|((with_reducible apply q_CI);intro hbq;(try simp only [bq] at hbq);(try (exfalso;omega)))|refine Rex.o (by (with_reducible constructor);apply Eq.refl) ?_|((with_reducible apply q_VOk);exact fun _ => ⟨rfl,rfl⟩)|(intro _;exact rfl)|omega)
  all_goals (try (exfalso; omega))
  all_goals (try (rw [List.length_replicate]; have := (hsec hlt).2.1; omega))
  ·generalize hSA : secA L (st.getD i st0) = SA
   have hc : celsOf L (st.getD i st0) = List.replicate SA.len.toNat (SA.lim, (-(SA).grd)) := by
    unfold celsOf celOf
    rw [if_pos (by rw [hg hlt, Int.toNat_natCast] at hbq; exact hbq), hSA]
   rw [hg hlt, Int.toNat_natCast]
   refine LoopK_n (i + 1) ?_ ((by omega)) (by (try dsimp only); omega)
   refine X_weak rfl rfl rfl ?_ ?_ <;> repeat' (first|with_reducible (first|refine Wk.o (by constructor) ?_|refine q_and ?_ ?_|exact True.intro)|refine q_AgS rfl ?_ ?_|exact (rfl : known _ = _)|omega)
   all_goals (rw [celL_snoc L (by omega), hc]; unfold secA at hSA; rw [hSA]; simp)
  ·generalize hSA : secA L (st.getD i st0) = SA
   have hc : celsOf L (st.getD i st0) = List.replicate SA.len.toNat (SA.lim, (SA).grd) := by
    unfold celsOf celOf
    rw [if_neg (by rw [hg hlt, Int.toNat_natCast] at hbq; exact hbq), hSA]
   rw [hg hlt, Int.toNat_natCast]
   refine LoopK_n (i + 1) ?_ ((by omega)) (by (try dsimp only); omega)
   refine X_weak rfl rfl rfl ?_ ?_ <;> repeat' (first|with_reducible (first|refine Wk.o (by constructor) ?_|refine q_and ?_ ?_|exact True.intro)|refine q_AgS rfl ?_ ?_|exact (rfl : known _ = _)|omega)
   all_goals (rw [celL_snoc L (by omega), hc]; unfold secA at hSA; rw [hSA]; simp)
 ·subst hT
  repeat' (first|with_reducible (first|refine q_and ?_ ?_|exact True.intro|exact TkEq.nil _|refine Red.o (by constructor) ?_|fail)|((with_reducible apply q_CI);intro hbq;(try simp only [bq] at hbq);(try (exfalso;omega)))|refine Rex.o (by (with_reducible constructor);apply Eq.refl) ?_|((with_reducible apply q_VOk);exact fun _ => ⟨rfl,rfl⟩)|((with_reducible apply q_CRB);kernel_rfl)|omega)
  all_goals (try (exfalso; omega))
  ·have hie : i = ((st.length : Int) - ov).toNat := by omega
   subst hie
   rw [celErr_7 (r := ⟨st, ov⟩) (by omega) (by unfold trv; simp only; omega)]; rfl
  ·have hie : i = ((st.length : Int) - ov).toNat := by omega
   subst hie
   rw [celErr_0 (r := ⟨st, ov⟩) (by omega) (by unfold trv; simp only; omega)]; rfl
end Go.Proofs.YtalfibohepbhfaaGreat.Av
namespace Go.Proofs.YtalfibohepbhfaaGreat.Pl
theorem tmod_of_neg (a b : Int) (ha : a < 0) (hb : 1 ≤ b) :
  -b < a.tmod b ∧ a.tmod b ≤ 0 ∧ (a.tmod b < 0 → a.tmod b + b = a % b) ∧ (¬ a.tmod b < 0 → a.tmod b = a % b) := by
 have h1 := Int.emod_nonneg a (show b ≠ 0 by omega)
 have h2 := Int.emod_lt_of_pos a (show 0 < b by omega)
 have h3 := Int.tmod_eq_emod (a := a) (b := b)
 by_cases hd : b ∣ a
 ·have h4 : a % b = 0 := Int.emod_eq_zero_of_dvd hd
  rw [if_pos (Or.inr hd)] at h3
  omega
 ·have h4 : a % b ≠ 0 := fun h => hd (Int.dvd_of_emod_eq_zero h)
  rw [if_neg (by rintro (h | h); omega; exact hd h)] at h3
  omega
theorem tdiv_of_neg (a b : Int) (ha : a < 0) (hb : 1 ≤ b) :
  a ≤ a.tdiv b ∧ a.tdiv b ≤ 0 ∧ (a.tmod b < 0 → a < a.tdiv b ∧ a.tdiv b - 1 = a / b) ∧ (¬ a.tmod b < 0 → a.tdiv b = a / b) := by
 have h1 := Int.emod_nonneg a (show b ≠ 0 by omega)
 have h2 := Int.emod_lt_of_pos a (show 0 < b by omega)
 have h3 := Int.tmod_eq_emod (a := a) (b := b)
 have h5 := Int.tdiv_eq_ediv (a := a) (b := b)
 have e6 : a.tdiv b = -((-a) / b) := by
  have : a.tdiv b = -((-a).tdiv b) := by rw [Int.neg_tdiv]; omega
  rw [this, Int.tdiv_eq_ediv_of_nonneg (by omega)]
 have h7 : (-a) / b * b + (-a) % b = -a := Int.ediv_mul_add_emod (-a) b
 have h8 := Int.emod_nonneg (-a) (show b ≠ 0 by omega)
 have h9 : 0 ≤ (-a) / b := Int.ediv_nonneg (by omega) (by omega)
 have h10 : (-a) / b ≤ -a := Int.ediv_le_self b (by omega)
 have hs : b.sign = 1 := Int.sign_eq_one_of_pos (by omega)
 by_cases hd : b ∣ a
 ·have h4 : a % b = 0 := Int.emod_eq_zero_of_dvd hd
  rw [if_pos (Or.inr hd)] at h3 h5
  omega
 ·have h4 : a % b ≠ 0 := fun h => hd (Int.dvd_of_emod_eq_zero h)
  rw [if_neg (by rintro (h | h); omega; exact hd h)] at h3 h5
  rw [hs] at h5
  refine ⟨by omega, by omega, fun _ => ⟨?_, by omega⟩, by omega⟩
  have hb2 : 2 ≤ b := by
   rcases Int.lt_or_le 1 b with h | h
   ·omega
   ·obtain rfl : b = 1 := by omega
    exact absurd (Int.one_dvd a) hd
  have h11 : (-a) / b * 2 ≤ (-a) / b * b := Int.mul_le_mul_of_nonneg_left hb2 h9
  omega
def cdiv (a b : Int) : Int := -((-a) / b)
theorem cdiv_pos (a b : Int) (ha : 0 ≤ a) (hb : 1 ≤ b) (h : 0 < a % b) : cdiv a b = a / b + 1 := by
 unfold cdiv
 have h7 : a / b * b + a % b = a := Int.ediv_mul_add_emod a b
 have h2 := Int.emod_lt_of_pos a (show 0 < b by omega)
 have : -a / b = -(a / b) - 1 := by
  have h8 : -a = (b - a % b) + (-(a / b) - 1) * b := by rw [Int.sub_mul, Int.neg_mul]; omega
  rw [h8, Int.add_mul_ediv_right _ _ (by omega), Int.ediv_eq_zero_of_lt (by omega) (by omega)]
  omega
 omega
theorem cdiv_zero (a b : Int) (hb : 1 ≤ b) (h : a % b = 0) : cdiv a b = a / b := by
 unfold cdiv
 rw [Int.neg_ediv_of_dvd (Int.dvd_of_emod_eq_zero h)]; omega
theorem cdiv_neg (a b : Int) (ha : a < 0) (hb : 1 ≤ b) : cdiv a b = a.tdiv b := by
 unfold cdiv
 have : a.tdiv b = -((-a).tdiv b) := by rw [Int.neg_tdiv]; omega
 rw [this, Int.tdiv_eq_ediv_of_nonneg (by omega)]
theorem cdiv_bracket (a b : Int) (hb : 1 ≤ b) : a ≤ cdiv a b * b ∧ cdiv a b * b < a + b := by
 unfold cdiv
 have h7 : (-a) / b * b + (-a) % b = -a := Int.ediv_mul_add_emod (-a) b
 have h2 := Int.emod_lt_of_pos (-a) (show 0 < b by omega)
 have h1 := Int.emod_nonneg (-a) (show b ≠ 0 by omega)
 rw [Int.neg_mul]; omega
theorem ediv_le_self' (a b : Int) (ha : 0 ≤ a) (hb : 1 ≤ b) : 0 ≤ a / b ∧ a / b ≤ a := by
 exact ⟨Int.ediv_nonneg ha (by omega), Int.ediv_le_self b ha⟩
def isqrt : Nat → Nat
 | 0 => 0
 | n + 1 => if (isqrt n + 1) * (isqrt n + 1) ≤ n + 1 then isqrt n + 1 else isqrt n
theorem isqrt_spec (n : Nat) : isqrt n * isqrt n ≤ n ∧ n < (isqrt n + 1) * (isqrt n + 1) := by
 induction n with
 | zero => simp [isqrt]
 | succ n ih =>
  unfold isqrt
  split
  ·rename_i h
   refine ⟨h, ?_⟩
   have : (isqrt n + 1 + 1) * (isqrt n + 1 + 1) = (isqrt n + 1) * (isqrt n + 1) + 2 * (isqrt n + 1) + 1 := by
    simp [Nat.add_mul, Nat.mul_add]; omega
   omega
  ·omega
theorem isqrt_unique (n r : Nat) (h1 : r * r ≤ n) (h2 : n < (r + 1) * (r + 1)) : r = isqrt n := by
 obtain ⟨h3, h4⟩ := isqrt_spec n
 rcases Nat.lt_trichotomy r (isqrt n) with h | h | h
 ·have := Nat.mul_le_mul (show r + 1 ≤ isqrt n by omega) (show r + 1 ≤ isqrt n by omega); omega
 ·exact h
 ·have := Nat.mul_le_mul (show isqrt n + 1 ≤ r by omega) (show isqrt n + 1 ≤ r by omega); omega
theorem isqrt_mono {m n : Nat} (h : m ≤ n) : isqrt m ≤ isqrt n := by
 obtain ⟨h1, h2⟩ := isqrt_spec m
 obtain ⟨h3, h4⟩ := isqrt_spec n
 rcases Nat.lt_or_ge (isqrt n) (isqrt m) with h5 | h5
 ·have := Nat.mul_le_mul (show isqrt n + 1 ≤ isqrt m by omega) (show isqrt n + 1 ≤ isqrt m by omega); omega
 ·exact h5
end Go.Proofs.YtalfibohepbhfaaGreat.Pl
namespace Go.Proofs.YtalfibohepbhfaaGreat
def chkB (l sp ac br : Int) : Bool := decide (1 ≤ l ∧ l ≤ 40 ∧ 1000 ≤ sp ∧ sp ≤ 100000 ∧ 100 ≤ ac ∧ ac ≤ 2000 ∧ 100 ≤ br ∧ br ≤ 2000)
theorem chk_of {l sp ac br : Int} (h : chkB l sp ac br = true) : 1 ≤ l ∧ l ≤ 40 ∧ 1000 ≤ sp ∧ sp ≤ 100000 ∧ 100 ≤ ac ∧ ac ≤ 2000 ∧ 100 ≤ br ∧ br ≤ 2000 := by
 simpa [chkB] using h
def gainOf (g ac : Int) : Int := 20000 * (if 0 < g then max 50 (ac - 10 * g) else ac)
def lossOf (g br : Int) : Int := 20000 * (if g < 0 then max 50 (br + 10 * g) else br)
def cellB (c : Int × Int) : Bool := decide (1000 ≤ c.1 ∧ c.1 ≤ 100000 ∧ -40 ≤ c.2 ∧ c.2 ≤ 40)
theorem cell_of {c : Int × Int} (h : cellB c = true) : 1000 ≤ c.1 ∧ c.1 ≤ 100000 ∧ -40 ≤ c.2 ∧ c.2 ≤ 40 := by simpa [cellB] using h
theorem gain_range (g ac : Int) (h5 : 100 ≤ ac) (h6 : ac ≤ 2000) : 1000000 ≤ gainOf g ac ∧ gainOf g ac ≤ 40000000 := by unfold gainOf; split <;> omega
theorem loss_range (g br : Int) (h5 : 100 ≤ br) (h6 : br ≤ 2000) : 1000000 ≤ lossOf g br ∧ lossOf g br ≤ 40000000 := by unfold lossOf; split <;> omega
theorem getD_at {α : Type} (cs : List α) (d : α) {k : Nat} (h : k < cs.length) : cs.getD k d = cs[k] := by simp [List.getD, h]
def badRun (cs : List (Int × Int)) (start l sp ac br : Int) : Int :=
 if chkB l sp ac br = false then 1 else if 4000 < cs.length then 7 else if cs.all cellB = false then 4 else if start < 0 ∨ (cs.length : Int) - 2 < start then 4 else 0
def limitOf (cs : List (Int × Int)) (k l : Nat) (sp : Int) : Int := ((cs.take (k + 1)).drop (k - l)).foldl (fun m c => min m c.1) sp
def limTo (cs : List (Int × Int)) (lo j : Nat) (sp : Int) : Int := ((cs.drop lo).take j).foldl (fun m c => min m c.1) sp
theorem limTo_all (cs : List (Int × Int)) (k l : Nat) (sp : Int) : limTo cs (k - l) (k + 1 - (k - l)) sp = limitOf cs k l sp := by
 unfold limTo limitOf
 rw [List.drop_take]
def fwd (cs : List (Int × Int)) (start l : Nat) (sp ac : Int) : Nat → Int
 | 0 => 0
 | j + 1 => min (min (limitOf cs (start + j) l sp) (limitOf cs (start + j + 1) l sp) * min (limitOf cs (start + j) l sp) (limitOf cs (start + j + 1) l sp)) (fwd cs start l sp ac j + gainOf (cs.getD (start + j) (0, 0)).2 ac)
def bwd (cs : List (Int × Int)) (start l : Nat) (sp ac br : Int) : Nat → Int
 | 0 => 0
 | d + 1 => min (fwd cs start l sp ac (cs.length - start - (d + 1))) (bwd cs start l sp ac br d + lossOf (cs.getD (cs.length - (d + 1)) (0, 0)).2 br)
def sqW (cs : List (Int × Int)) (start l : Nat) (sp ac br : Int) (j : Nat) : Int := if j = 0 then 0 else bwd cs start l sp ac br (cs.length - start - j)
theorem foldl_min_range (L : List (Int × Int)) (sp lo hi : Int) (h1 : lo ≤ sp) (h2 : sp ≤ hi) (h : ∀ c ∈ L, lo ≤ c.1) : lo ≤ L.foldl (fun m c => min m c.1) sp ∧ L.foldl (fun m c => min m c.1) sp ≤ sp := by
 induction L generalizing sp with
 | nil => exact ⟨h1, Int.le_refl _⟩
 | cons c L ih =>
  have hc := h c (List.mem_cons_self ..)
  have := ih (min sp c.1) (by omega) (by omega) (fun d hd => h d (List.mem_cons_of_mem _ hd))
  simp only [List.foldl_cons]
  omega
theorem limit_range (cs : List (Int × Int)) (k l : Nat) (sp : Int) (h1 : 1000 ≤ sp) (h : cs.all cellB = true) : 1000 ≤ limitOf cs k l sp ∧ limitOf cs k l sp ≤ sp :=
 foldl_min_range _ sp 1000 sp h1 (Int.le_refl _) (fun c hc => (cell_of (List.all_eq_true.1 h c (List.mem_of_mem_take (List.mem_of_mem_drop hc)))).1)
theorem sq_range (x y : Int) (hx : 1000 ≤ x) (hx' : x ≤ 100000) (hy : 1000 ≤ y) (hy' : y ≤ 100000) : 1000000 ≤ min x y * min x y ∧ min x y * min x y ≤ 10000000000 := by
 have h1 : 1000 ≤ min x y := by omega
 have h2 : min x y ≤ 100000 := by omega
 have a := Int.mul_le_mul h1 h1 (by omega) (by omega)
 have b := Int.mul_le_mul h2 h2 (by omega) (by omega)
 omega
theorem fwd_range (cs : List (Int × Int)) (start l : Nat) (sp ac : Int) (h1 : 1000 ≤ sp) (h2 : sp ≤ 100000) (h3 : 100 ≤ ac) (h4 : ac ≤ 2000) (h : cs.all cellB = true) (j : Nat) :
  0 ≤ fwd cs start l sp ac j ∧ fwd cs start l sp ac j ≤ 10000000000 ∧ (0 < j → 1000000 ≤ fwd cs start l sp ac j) := by
 induction j with
 | zero => simp [fwd]
 | succ j ih =>
  have a := limit_range cs (start + j) l sp h1 h
  have b := limit_range cs (start + j + 1) l sp h1 h
  have c := sq_range (limitOf cs (start + j) l sp) (limitOf cs (start + j + 1) l sp) (by omega) (by omega) (by omega) (by omega)
  have d := gain_range (cs.getD (start + j) (0, 0)).2 ac h3 h4
  simp only [fwd]
  omega
theorem bwd_range (cs : List (Int × Int)) (start l : Nat) (sp ac br : Int) (h1 : 1000 ≤ sp) (h2 : sp ≤ 100000) (h3 : 100 ≤ ac) (h4 : ac ≤ 2000) (h5 : 100 ≤ br) (h6 : br ≤ 2000) (h : cs.all cellB = true) (d : Nat) :
  0 ≤ bwd cs start l sp ac br d ∧ bwd cs start l sp ac br d ≤ 10000000000 ∧ (0 < d → d < cs.length - start → 1000000 ≤ bwd cs start l sp ac br d) := by
 induction d with
 | zero => simp [bwd]
 | succ d ih =>
  have a := fwd_range cs start l sp ac h1 h2 h3 h4 h (cs.length - start - (d + 1))
  have c := loss_range (cs.getD (cs.length - (d + 1)) (0, 0)).2 br h5 h6
  simp only [bwd]
  refine ⟨by omega, by omega, fun _ hd => ?_⟩
  have := a.2.2 (by omega)
  omega
def spd (cs : List (Int × Int)) (start l : Nat) (sp ac br : Int) (j : Nat) : Nat := Pl.isqrt (sqW cs start l sp ac br j).toNat
def tim (cs : List (Int × Int)) (start l : Nat) (sp ac br : Int) : Nat → Int
 | 0 => 0
 | j + 1 => tim cs start l sp ac br j + Pl.cdiv 20000000 ((spd cs start l sp ac br j : Int) + spd cs start l sp ac br (j + 1))
theorem bad_zero {cs : List (Int × Int)} {start l sp ac br : Int} (h : badRun cs start l sp ac br = 0) :
  chkB l sp ac br = true ∧ cs.length ≤ 4000 ∧ cs.all cellB = true ∧ 0 ≤ start ∧ start + 2 ≤ cs.length := by
 unfold badRun at h
 by_cases h1 : chkB l sp ac br = false
 ·rw [if_pos h1] at h; omega
 ·rw [if_neg h1] at h
  by_cases h2 : 4000 < cs.length
  ·rw [if_pos h2] at h; omega
  ·rw [if_neg h2] at h
   by_cases h3 : cs.all cellB = false
   ·rw [if_pos h3] at h; omega
   ·rw [if_neg h3] at h
    by_cases h4 : start < 0 ∨ (cs.length : Int) - 2 < start
    ·rw [if_pos h4] at h; omega
    ·exact ⟨by simpa using h1, by omega, by simpa using h3, by omega, by omega⟩
section
variable {cs : List (Int × Int)} {start l : Nat} {sp ac br : Int} (h1 : 1000 ≤ sp) (h2 : sp ≤ 100000) (h3 : 100 ≤ ac) (h4 : ac ≤ 2000) (h5 : 100 ≤ br) (h6 : br ≤ 2000) (h : cs.all cellB = true)
include h1 h2 h3 h4 h5 h6 h
theorem sqW_range (j : Nat) : 0 ≤ sqW cs start l sp ac br j ∧ sqW cs start l sp ac br j ≤ 10000000000 ∧ (0 < j → j < cs.length - start → 1000000 ≤ sqW cs start l sp ac br j) := by
 unfold sqW
 by_cases hj : j = 0
 ·rw [if_pos hj]; omega
 ·rw [if_neg hj]
  have := bwd_range cs start l sp ac br h1 h2 h3 h4 h5 h6 h (cs.length - start - j)
  exact ⟨this.1, this.2.1, fun _ hlt => this.2.2 (by omega) (by omega)⟩
theorem spd_range (j : Nat) : spd cs start l sp ac br j ≤ 100000 ∧ (0 < j → j < cs.length - start → 1000 ≤ spd cs start l sp ac br j) := by
 have h0 := sqW_range (start := start) (l := l) h1 h2 h3 h4 h5 h6 h j
 unfold spd
 constructor
 ·have := Pl.isqrt_mono (show (sqW cs start l sp ac br j).toNat ≤ 10000000000 by omega)
  have e := Pl.isqrt_unique 10000000000 100000 (by omega) (by omega)
  omega
 ·intro hj hlt
  have := Pl.isqrt_mono (show 1000000 ≤ (sqW cs start l sp ac br j).toNat by have := h0.2.2 hj hlt; omega)
  have e := Pl.isqrt_unique 1000000 1000 (by omega) (by omega)
  omega
theorem spd_sum (hst : start + 2 ≤ cs.length) (j : Nat) (hj : j < cs.length - start) : 1000 ≤ spd cs start l sp ac br j + spd cs start l sp ac br (j + 1) ∧ spd cs start l sp ac br j + spd cs start l sp ac br (j + 1) ≤ 200000 := by
 have a := spd_range (start := start) (l := l) h1 h2 h3 h4 h5 h6 h j
 have b := spd_range (start := start) (l := l) h1 h2 h3 h4 h5 h6 h (j + 1)
 refine ⟨?_, by omega⟩
 by_cases h0 : 0 < j
 ·have := a.2 h0 hj; omega
 ·have := b.2 (by omega) (by omega); omega
theorem step_range (hst : start + 2 ≤ cs.length) (j : Nat) (hj : j < cs.length - start) : 100 ≤ Pl.cdiv 20000000 ((spd cs start l sp ac br j : Int) + spd cs start l sp ac br (j + 1)) ∧ Pl.cdiv 20000000 ((spd cs start l sp ac br j : Int) + spd cs start l sp ac br (j + 1)) ≤ 20000 := by
 have a := spd_sum (start := start) (l := l) h1 h2 h3 h4 h5 h6 h hst j hj
 obtain ⟨b, c⟩ := Pl.cdiv_bracket 20000000 ((spd cs start l sp ac br j : Int) + spd cs start l sp ac br (j + 1)) (by omega)
 generalize Pl.cdiv 20000000 ((spd cs start l sp ac br j : Int) + spd cs start l sp ac br (j + 1)) = q at *
 generalize hs : (spd cs start l sp ac br j : Int) + spd cs start l sp ac br (j + 1) = s at *
 have hs1 : 1000 ≤ s := by omega
 have hs2 : s ≤ 200000 := by omega
 constructor
 ·rcases Int.lt_or_le q 100 with hq | hq
  ·rcases Int.lt_or_le q 0 with h0 | h0
   ·have := Int.mul_neg_of_neg_of_pos h0 (show 0 < s by omega); omega
   ·have := Int.mul_le_mul (show q ≤ 99 by omega) hs2 (by omega) (by omega); omega
  ·exact hq
 ·rcases Int.lt_or_le 20000 q with hq | hq
  ·have : 20001 * s ≤ q * s := Int.mul_le_mul_of_nonneg_right (by omega) (by omega)
   omega
  ·exact hq
theorem tim_range (hst : start + 2 ≤ cs.length) (j : Nat) (hj : j ≤ cs.length - start) : 100 * (j : Int) ≤ tim cs start l sp ac br j ∧ tim cs start l sp ac br j ≤ 20000 * (j : Int) := by
 induction j with
 | zero => simp [tim]
 | succ j ih =>
  have a := ih (by omega)
  have b := step_range (start := start) (l := l) h1 h2 h3 h4 h5 h6 h hst j (by omega)
  simp only [tim]
  omega
end
section
variable {cs : List (Int × Int)} {start l : Nat} {sp ac br : Int} (h1 : 1000 ≤ sp) (h2 : sp ≤ 100000) (h3 : 100 ≤ ac) (h4 : ac ≤ 2000) (h5 : 100 ≤ br) (h6 : br ≤ 2000) (h : cs.all cellB = true)
theorem sqW_zero : sqW cs start l sp ac br 0 = 0 := by simp [sqW]
theorem sqW_end (hm : 0 < cs.length - start) : sqW cs start l sp ac br (cs.length - start) = 0 := by
 unfold sqW; rw [if_neg (by omega), Nat.sub_self]; rfl
theorem sqW_mid (j : Nat) (hj : 0 < j) (hj2 : j < cs.length - start) : sqW cs start l sp ac br j = min (fwd cs start l sp ac j) (sqW cs start l sp ac br (j + 1) + lossOf (cs.getD (start + j) (0, 0)).2 br) := by
 unfold sqW
 rw [if_neg (by omega), if_neg (by omega), show cs.length - start - j = (cs.length - start - (j + 1)) + 1 by omega]
 simp only [bwd]
 rw [show cs.length - start - (cs.length - start - (j + 1) + 1) = j by omega, show cs.length - (cs.length - start - (j + 1) + 1) = start + j by omega]
include h1 h2 h3 h4 h in
include h1 h2 h3 h4 h5 h6 h in
include h1 h2 h3 h4 h5 h6 h in
include h1 h2 h3 h4 h5 h6 h in
end
end Go.Proofs.YtalfibohepbhfaaGreat
namespace Go.Proofs.YtalfibohepbhfaaGreat.Av
abbrev vS5 (nm : ByteArray) (l sp ac br : Int) : SV := .agg [xS nm, xI l, xI sp, xI ac, xI br]
abbrev bS5 (nm : ByteArray) (l sp ac br : Int) : Option SB := some (.cells [xS nm, xI l, xI sp, xI ac, xI br])
abbrev vCe (c : Int × Int) : SV := .agg [xI c.1, xI c.2]
theorem chk_bb (l sp ac br : Int) : chkB l sp ac br = (decide (1 ≤ l) && decide (l ≤ 40) && decide (1000 ≤ sp) && decide (sp ≤ 100000) && decide (100 ≤ ac) && decide (ac ≤ 2000) && decide (100 ≤ br) && decide (br ≤ 2000)) := by
 rw [Bool.eq_iff_iff]
 simp [chkB, and_assoc]
section
variable {cs : List (Int × Int)} {start l sp ac br : Int}
theorem bad_1 (h : ¬ chkB l sp ac br = true) : badRun cs start l sp ac br = 1 := if_pos (by simpa using h)
theorem bad_7 (h : chkB l sp ac br = true) (h2 : 4000 < cs.length) : badRun cs start l sp ac br = 7 := by unfold badRun; rw [if_neg (by rw [h]; decide), if_pos h2]
theorem bad_4 (h : chkB l sp ac br = true) (h2 : ¬ 4000 < cs.length) (h3 : cs.all cellB = false) : badRun cs start l sp ac br = 4 := by unfold badRun; rw [if_neg (by rw [h]; decide), if_neg h2, if_pos h3]
theorem bad_4s (h : chkB l sp ac br = true) (h2 : ¬ 4000 < cs.length) (h3 : cs.all cellB = true) (h4 : start < 0 ∨ (cs.length : Int) - 2 < start) : badRun cs start l sp ac br = 4 := by unfold badRun; rw [if_neg (by rw [h]; decide), if_neg h2, if_neg (by rw [h3]; decide), if_pos h4]
theorem bad_0 (h : chkB l sp ac br = true) (h2 : ¬ 4000 < cs.length) (h3 : cs.all cellB = true) (h4 : ¬ (start < 0 ∨ (cs.length : Int) - 2 < start)) : badRun cs start l sp ac br = 0 := by unfold badRun; rw [if_neg (by rw [h]; decide), if_neg h2, if_neg (by rw [h3]; decide), if_neg h4]
theorem cells_no {p : Int × Int → Bool} {i : Nat} (hi : i < cs.length) (h : p (cs.getD i (0, 0)) = false) : cs.all p = false := by
 rw [List.getD_eq_getElem?_getD, List.getElem?_eq_getElem hi] at h
 rw [Bool.eq_false_iff]
 intro ha
 have := List.all_eq_true.1 ha _ (List.getElem_mem hi)
 rw [show (some cs[i]).getD (0, 0) = cs[i] from rfl, this] at h
 cases h
theorem cells_yes {p : Int × Int → Bool} (h : ∀ j, j < cs.length → p (cs.getD j (0, 0)) = true) : cs.all p = true := by
 rw [List.all_eq_true]
 intro x hx
 obtain ⟨i, hi, rfl⟩ := List.mem_iff_getElem.1 hx
 have := h i hi
 rwa [List.getD_eq_getElem?_getD, List.getElem?_eq_getElem hi] at this
end
theorem uptoS {q : Nat → Prop} {i : Nat} (h : ∀ j, j < i → q j) (hi : q i) : ∀ j, j < i + 1 → q j := fun j hj => by
 rcases Nat.lt_succ_iff_lt_or_eq.1 hj with h1 | h1
 ·exact h j h1
 ·exact h1 ▸ hi
theorem foldl_snoc {α β : Type} {f : β → α → β} {b : β} {l : List α} {i : Nat} {d : α} (h : i < l.length) : (l.take (i + 1)).foldl f b = f ((l.take i).foldl f b) (l.getD i d) := by
 rw [List.take_succ_eq_append_getElem h, List.foldl_append, List.getD_eq_getElem?_getD, List.getElem?_eq_getElem h]
 rfl
theorem chk_ok (nm : ByteArray) (l sp ac br : Int) : OkV Tryz.prog 86 [vS5 nm l sp ac br] [] (vB (chkB l sp ac br)) [] := by
 rw [chk_bb]
 refine X_fn mixedX Tryz.func86 rfl (by kernel_rfl) (Nat.le_of_ble_eq_true (by kernel_rfl)) (by kernel_rfl) rfl rfl (Nat.le_of_ble_eq_true rfl) rfl rfl ?_
 simp only [sl0, Nat.zero_add, Nat.reduceAdd]
 repeat' (first|with_reducible (first|refine q_and ?_ ?_|exact True.intro|exact TkEq.nil _|assumption)|refine Rex.o (by (with_reducible constructor);apply Eq.refl) ?_|(intro (hgq : (_ : Bool) = true);(try simp only [bq] at hgq))|((with_reducible apply q_bt);simp only [bq])|(simp only [hgq,bq];done))
 repeat' (first|with_reducible (first|refine Wk.o (by constructor) ?_|exact True.intro)|refine VEq.c ?_)
theorem checkRun_ok (cs : List (Int × Int)) (start : Int) (nm : ByteArray) (l sp ac br : Int) (hl : cs.length ≤ 4611686018427387904) : OkV Tryz.prog 107 [.c (rCell cs), .c (xI start), vS5 nm l sp ac br] [] (vI (badRun cs start l sp ac br)) [] := by
 have hC := chk_ok nm l sp ac br
 refine X_fn mixedX Tryz.func107 rfl (by kernel_rfl) (Nat.le_of_ble_eq_true (by kernel_rfl)) (by kernel_rfl) rfl rfl (Nat.le_of_ble_eq_true rfl) rfl rfl ?_
 simp only [sl0, Nat.zero_add, Nat.reduceAdd]
 repeat' (first|with_reducible (first|refine q_and ?_ ?_|exact True.intro|exact TkEq.nil _|refine Red.o (by constructor) ?_|fail)|((with_reducible apply q_call);refine X_pure (hC) rfl ?_)|((with_reducible apply q_CI);intro hbq;(try simp only [bq] at hbq);(try (exfalso;omega)))|refine Rex.o (by (with_reducible constructor);apply Eq.refl) ?_|fail)
 ·rw [bad_1 (by simpa using hbq)]; rfl
 ·rename_i a1
  rw [bad_7 (by simpa using a1) (by omega)]; rfl
 rename_i a1
 clear hC
 have b1 : chkB l sp ac br = true := by simpa using a1
 have b2 : ¬ 4000 < cs.length := by omega
 refine W_loopS (fun i : Nat => SS [sC 0 (rCell cs), sI 1 start, sC 17 (rCell cs), sI 18 cs.length, sI 19 i] []) (fun i => i ≤ cs.length ∧ ∀ j, j < i → cellB (cs.getD j (0, 0)) = true) (fun i => cs.length - i) 0 ?_ ⟨by omega, fun j hj => by omega⟩ ?_
 ·
  refine X_weak rfl rfl rfl ?_ ?_ <;> repeat' (first|with_reducible (first|refine Wk.o (by constructor) ?_|refine q_and ?_ ?_|exact True.intro)|refine q_AgS rfl ?_ ?_|exact (rfl : known _ = _)|omega)
 intro i hi
 obtain ⟨hi, hok⟩ := hi
 repeat' (first|with_reducible (first|refine q_and ?_ ?_|exact True.intro|exact TkEq.nil _|refine Red.o (by constructor) ?_|assumption)|((with_reducible apply q_CI);intro hbq;(try simp only [bq] at hbq);(try (exfalso;omega)))|refine Rex.o (by (with_reducible constructor);apply Eq.refl) ?_|(intro (hgq : (_ : Bool) = true);(try simp only [bq] at hgq))|(intro (hgq : (_ : Bool) = false);(try simp only [bq] at hgq))|((with_reducible apply q_VOk);exact fun _ => ⟨rfl,rfl⟩)|((with_reducible apply q_bt);simp only [bq])|(simp only [hgq,bq];done)|omega)
 ·have hb : cellB (cs.getD (i : Int).toNat (0, 0)) = false := by unfold cellB; rw [decide_eq_false_iff_not]; omega
  rw [bad_4 b1 b2 (cells_no (i := i) (by omega) hb)]; rfl
 ·have hb : cellB (cs.getD (i : Int).toNat (0, 0)) = true := by unfold cellB; rw [decide_eq_true_eq]; omega
  refine LoopK_n (i + 1) ?_ (⟨by omega, uptoS hok hb⟩) (by (try dsimp only); omega)
  refine X_weak rfl rfl rfl ?_ ?_ <;> repeat' (first|with_reducible (first|refine Wk.o (by constructor) ?_|refine q_and ?_ ?_|exact True.intro)|refine q_AgS rfl ?_ ?_|exact (rfl : known _ = _)|omega)
 ·have hie : i = cs.length := by omega
  subst hie
  rw [bad_4s b1 b2 (cells_yes hok) (by omega)]; rfl
 ·have hie : i = cs.length := by omega
  subst hie
  rw [bad_0 b1 b2 (cells_yes hok) (by omega)]; rfl
theorem limit_ok (cs : List (Int × Int)) (k : Nat) (nm : ByteArray) (l sp ac br : Int) (hk : k < cs.length) (hl : cs.length ≤ 4000) (h0 : 0 ≤ l) (h1 : l ≤ 40) : OkV Tryz.prog 123 [.c (rCell cs), .c (xI k), vS5 nm l sp ac br] [] (vI (limitOf cs k l.toNat sp)) [] := by
 refine X_fn mixedX Tryz.func123 rfl (by kernel_rfl) (Nat.le_of_ble_eq_true (by kernel_rfl)) (by kernel_rfl) rfl rfl (Nat.le_of_ble_eq_true rfl) rfl rfl ?_
 simp only [sl0, Nat.zero_add, Nat.reduceAdd]
 repeat' (first|with_reducible (first|refine q_and ?_ ?_|exact True.intro)|refine Rex.o (by (with_reducible constructor);apply Eq.refl) ?_|(intro _;exact rfl)|omega)
 generalize hxs : (cs.drop (max 0 ((k : Int) - l)).toNat).take ((k : Int) + 1 - max 0 ((k : Int) - l)).toNat = xs
 have hxl : xs.length ≤ 4000 := by rw [← hxs, List.length_take, List.length_drop]; omega
 have hL : limitOf cs k l.toNat sp = xs.foldl (fun m c => min m c.1) sp := by
  rw [← limTo_all, ← hxs, show (max 0 ((k : Int) - l)).toNat = k - l.toNat by omega, show ((k : Int) + 1 - max 0 ((k : Int) - l)).toNat = k + 1 - (k - l.toNat) by omega]
  rfl
 rw [hL]
 clear hL hxs
 refine W_loopS (fun i : Nat => SS [sI 7 ((xs.take i).foldl (fun m c => min m c.1) sp), sC 20 (rCell xs), sI 21 xs.length, sI 22 i] []) (fun i => i ≤ xs.length) (fun i => xs.length - i) 0 ?_ (by omega) ?_
 ·
  refine X_weak rfl rfl rfl ?_ ?_ <;> repeat' (first|with_reducible (first|refine Wk.o (by constructor) ?_|refine q_and ?_ ?_|exact True.intro)|refine q_AgS rfl ?_ ?_|exact (rfl : known _ = _)|omega)
  all_goals rfl
 intro i hi
 repeat' (first|with_reducible (first|refine q_and ?_ ?_|exact True.intro|exact TkEq.nil _|refine Red.o (by constructor) ?_|assumption)|((with_reducible apply q_CI);intro hbq;(try simp only [bq] at hbq);(try (exfalso;omega)))|refine Rex.o (by (with_reducible constructor);apply Eq.refl) ?_|((with_reducible apply q_VOk);exact fun _ => ⟨rfl,rfl⟩)|omega)
 ·
  refine LoopK_n (i + 1) ?_ ((by omega)) (by (try dsimp only); omega)
  refine X_weak rfl rfl rfl ?_ ?_ <;> repeat' (first|with_reducible (first|refine Wk.o (by constructor) ?_|refine q_and ?_ ?_|exact True.intro)|refine q_AgS rfl ?_ ?_|exact (rfl : known _ = _)|omega)
  all_goals (rw [foldl_snoc (d := (0, 0)) (by omega)]; rfl)
 ·have hie : i = xs.length := by omega
  subst hie
  rw [List.take_length]; rfl
theorem gain_ok (c : Int × Int) (nm : ByteArray) (l sp ac br : Int) (h0 : -40 ≤ c.2 ∧ c.2 ≤ 40) (h5 : 100 ≤ ac) (h6 : ac ≤ 2000) : OkV Tryz.prog 124 [vCe c, vS5 nm l sp ac br] [] (vI (gainOf c.2 ac)) [] := by
 unfold gainOf
 refine X_fn mixedX Tryz.func124 rfl (by kernel_rfl) (Nat.le_of_ble_eq_true (by kernel_rfl)) (by kernel_rfl) rfl rfl (Nat.le_of_ble_eq_true rfl) rfl rfl ?_
 simp only [sl0, Nat.zero_add, Nat.reduceAdd]
 repeat' (first|with_reducible (first|refine q_and ?_ ?_|exact True.intro|exact TkEq.nil _)|((with_reducible apply q_CI);intro hbq;(try simp only [bq] at hbq);(try (exfalso;omega)))|refine Rex.o (by (with_reducible constructor);apply Eq.refl) ?_|omega)
 ·rw [if_pos (by omega)]; rfl
 ·rw [if_neg (by omega)]; rfl
theorem loss_ok (c : Int × Int) (nm : ByteArray) (l sp ac br : Int) (h0 : -40 ≤ c.2 ∧ c.2 ≤ 40) (h5 : 100 ≤ br) (h6 : br ≤ 2000) : OkV Tryz.prog 125 [vCe c, vS5 nm l sp ac br] [] (vI (lossOf c.2 br)) [] := by
 unfold lossOf
 refine X_fn mixedX Tryz.func125 rfl (by kernel_rfl) (Nat.le_of_ble_eq_true (by kernel_rfl)) (by kernel_rfl) rfl rfl (Nat.le_of_ble_eq_true rfl) rfl rfl ?_
 simp only [sl0, Nat.zero_add, Nat.reduceAdd]
 repeat' (first|with_reducible (first|refine q_and ?_ ?_|exact True.intro|exact TkEq.nil _)|((with_reducible apply q_CI);intro hbq;(try simp only [bq] at hbq);(try (exfalso;omega)))|refine Rex.o (by (with_reducible constructor);apply Eq.refl) ?_|omega)
 ·rw [if_pos (by omega)]; rfl
 ·rw [if_neg (by omega)]; rfl
abbrev bInt (l : List Int) : Option SB := some (.els 1 fInt vInt mInt 0 l)
def row (n : Nat) (f : Nat → Int) : List Int := (List.range n).map f
theorem row_len (n : Nat) (f : Nat → Int) : (row n f).length = n := by simp [row]
theorem row_get {n : Nat} {f : Nat → Int} {i : Nat} (h : i < n) : (row n f).getD i 0 = f i := by simp [row, List.getD_eq_getElem?_getD, h]
theorem row_set {n : Nat} {f g : Nat → Int} {i : Nat} {x : Int} (hx : g i = x) (h : ∀ j, j < n → j ≠ i → g j = f j) : (row n f).set i x = row n g := by
 apply List.ext_getElem
 ·simp [row]
 ·intro j h1 h2
  have hj : j < n := by simpa [row] using h2
  rw [List.getElem_set]
  split
  ·rename_i e; subst e; simp [row, hx]
  ·rename_i e; simp only [row, List.getElem_map, List.getElem_range]; exact (h j hj (fun e' => e e'.symm)).symm
theorem row_ext {n : Nat} {f g : Nat → Int} (h : ∀ j, j < n → f j = g j) : row n f = row n g := by
 unfold row
 exact List.map_congr_left fun j hj => h j (List.mem_range.1 hj)
theorem row_zero (n : Nat) : List.replicate n (0 : Int) = row n fun _ => 0 := by
 apply List.ext_getElem
 ·simp [row]
 ·intro j h1 h2; simp [row]
theorem squares_ok (cs : List (Int × Int)) (s : Nat) (nm : ByteArray) (l sp ac br : Int) (h : badRun cs s l sp ac br = 0) : OkV Tryz.prog 108 [.c (rCell cs), .c (xI s), vS5 nm l sp ac br] [] (.c (.c (.arr 1 0 (cs.length - s + 1) (cs.length - s + 1)))) [bS5 nm l sp ac br, bInt (row (cs.length - s + 1) (sqW cs s l.toNat sp ac br))] := by
 obtain ⟨hc, hn, hall, h0, h2⟩ := bad_zero h
 obtain ⟨l1, l2, l3, l4, l5, l6, l7, l8⟩ := chk_of hc
 have hL := limit_ok cs s nm l sp ac br (by omega) hn (by omega) l2
 refine X_fn mixedX Tryz.func108 rfl (by kernel_rfl) (Nat.le_of_ble_eq_true (by kernel_rfl)) (by kernel_rfl) rfl rfl (Nat.le_of_ble_eq_true rfl) rfl rfl ?_
 simp only [sl0, Nat.zero_add, Nat.reduceAdd]
 repeat' (first|with_reducible (first|refine q_and ?_ ?_|exact True.intro|refine Red.o (by constructor) ?_|fail)|((with_reducible apply q_call);refine X_pure (hL) rfl ?_)|refine Rex.o (by (with_reducible constructor);apply Eq.refl) ?_|omega|(dsimp only;omega))
 clear hL
 have eN : ((cs.length : Int) - s + 1).toNat = cs.length - s + 1 := by omega
 refine W_loopS (fun i : Nat => SS [sC 0 (rCell cs), sI 1 s, sC 5 (pB 0), sI 7 cs.length, sC 8 (.c (.arr 1 0 (cs.length - s + 1) (cs.length - s + 1))), sI 9 (limitOf cs (s + i) l.toNat sp), sI 10 (s + i + 1 : Nat)] [bS5 nm l sp ac br, bInt (row (cs.length - s + 1) fun j => if j ≤ i then fwd cs s l.toNat sp ac j else 0)]) (fun i => s + i + 1 ≤ cs.length) (fun i => cs.length - i) 0 ?_ (by omega) ?_
 ·
  refine X_weak rfl rfl rfl ?_ ?_ <;> repeat' (first|with_reducible (first|refine Wk.o (by constructor) ?_|refine q_and ?_ ?_|exact True.intro)|refine q_AgS rfl ?_ ?_|exact (rfl : known _ = _)|omega)
  ·rw [eN, row_zero]
   refine row_ext fun j hj => ?_
   by_cases hj0 : j ≤ 0
   ·rw [if_pos hj0, show j = 0 by omega]; rfl
   ·rw [if_neg hj0]
  ·rfl
 intro i hi
 by_cases hlt : s + i + 1 < cs.length
 ·have hL := limit_ok cs (s + i + 1) nm l sp ac br hlt hn (by omega) l2
  have hce := cell_of (List.all_eq_true.1 hall _ (List.getElem_mem (show s + i < cs.length by omega)))
  have eg : cs.getD (((s + i + 1 : Nat) : Int) - 1).toNat (0, 0) = cs[s + i] := by
   rw [show (((s + i + 1 : Nat) : Int) - 1).toNat = s + i by omega]; exact getD_at _ _ _
  rw [← eg] at hce
  have hG := gain_ok (cs.getD (((s + i + 1 : Nat) : Int) - 1).toNat (0, 0)) nm l sp ac br ⟨hce.2.2.1, hce.2.2.2⟩ l5 l6
  have hgr := gain_range (cs.getD (((s + i + 1 : Nat) : Int) - 1).toNat (0, 0)).2 ac l5 l6
  have a1 := limit_range cs (s + i) l.toNat sp l3 hall
  have a2 := limit_range cs (s + i + 1) l.toNat sp l3 hall
  have a3 := sq_range (limitOf cs (s + i) l.toNat sp) (limitOf cs (s + i + 1) l.toNat sp) a1.1 (by omega) a2.1 (by omega)
  have a4 := fwd_range cs s l.toNat sp ac l3 l4 l5 l6 hall i
  have a5 : (row (cs.length - s + 1) fun j => if j ≤ i then fwd cs s l.toNat sp ac j else 0).getD (((s + i + 1 : Nat) : Int) - 1 - s).toNat 0 = fwd cs s l.toNat sp ac i := by
   rw [show (((s + i + 1 : Nat) : Int) - 1 - s).toNat = i by omega, row_get (by omega), if_pos (Nat.le_refl _)]
  rw [← a5] at a4
  have a6 := row_len (cs.length - s + 1) fun j => if j ≤ i then fwd cs s l.toNat sp ac j else 0
  repeat' (first|with_reducible (first|refine q_and ?_ ?_|exact True.intro|refine Red.o (by constructor) ?_|fail)|((with_reducible apply q_call);first|refine X_pure (hL) rfl ?_|refine X_pure (hG) rfl ?_)|((with_reducible apply q_CI);intro hbq;(try simp only [bq] at hbq);(try (exfalso;omega)))|refine Rex.o (by (with_reducible constructor);apply Eq.refl) ?_|((with_reducible apply q_VOk);exact fun _ => ⟨rfl,rfl⟩)|((with_reducible apply q_CRB);kernel_rfl)|omega)
  ·rfl
  ·
   refine LoopK_n (i + 1) ?_ ((by omega)) (by (try dsimp only); omega)
   refine X_weak rfl rfl rfl ?_ ?_ <;> repeat' (first|with_reducible (first|refine Wk.o (by constructor) ?_|refine q_and ?_ ?_|exact True.intro)|refine q_AgS rfl ?_ ?_|exact (rfl : known _ = _)|omega)
   ·rw [a5, show (((s + i + 1 : Nat) : Int) - s).toNat = i + 1 by omega, show (((s + i + 1 : Nat) : Int) - 1).toNat = s + i by omega]
    refine row_set (i := i + 1) ?_ fun j hj hne => ?_
    ·rw [if_pos (Nat.le_refl _)]; rfl
    ·by_cases hji : j ≤ i
     ·rw [if_pos hji, if_pos (by omega)]
     ·rw [if_neg hji, if_neg (by omega)]
   ·rfl
 ·
  repeat' (first|with_reducible (first|refine q_and ?_ ?_|exact True.intro|refine Red.o (by constructor) ?_|fail)|((with_reducible apply q_CI);intro hbq;(try simp only [bq] at hbq);(try (exfalso;omega)))|refine Rex.o (by (with_reducible constructor);apply Eq.refl) ?_|omega)
  refine W_loopS (fun d : Nat => SS [sC 0 (rCell cs), sI 1 s, sC 5 (pB 0), sI 7 cs.length, sC 8 (.c (.arr 1 0 (cs.length - s + 1) (cs.length - s + 1))), sI 13 ((cs.length : Int) - 1 - d)] [bS5 nm l sp ac br, bInt (row (cs.length - s + 1) fun j => if j + d < cs.length - s then fwd cs s l.toNat sp ac j else sqW cs s l.toNat sp ac br j)]) (fun d => s + d + 1 ≤ cs.length) (fun d => cs.length - d) 0 ?_ (by omega) ?_
  ·
   refine X_weak rfl rfl rfl ?_ ?_ <;> repeat' (first|with_reducible (first|refine Wk.o (by constructor) ?_|refine q_and ?_ ?_|exact True.intro)|refine q_AgS rfl ?_ ?_|exact (rfl : known _ = _)|omega)
   all_goals (
    refine row_ext fun j hj => ?_
    by_cases hji : j ≤ i
    ·rw [if_pos hji, if_pos (by omega)]
    ·rw [if_neg hji, if_neg (by omega), show j = cs.length - s by omega, sqW_end (by omega)])
  intro d hd
  by_cases hdl : s + d + 1 < cs.length
  ·generalize he : cs.length - 1 - d - s = e
   have e1 : ((cs.length : Int) - 1 - d).toNat = s + e := by omega
   have hce := cell_of (List.all_eq_true.1 hall _ (List.getElem_mem (show s + e < cs.length by omega)))
   have eg : cs.getD ((cs.length : Int) - 1 - d).toNat (0, 0) = cs[s + e] := by rw [e1]; exact getD_at _ _ _
   rw [← eg] at hce
   have hG := loss_ok (cs.getD ((cs.length : Int) - 1 - d).toNat (0, 0)) nm l sp ac br ⟨hce.2.2.1, hce.2.2.2⟩ l7 l8
   have hgr := loss_range (cs.getD ((cs.length : Int) - 1 - d).toNat (0, 0)).2 br l7 l8
   have a6 := row_len (cs.length - s + 1) fun j => if j + d < cs.length - s then fwd cs s l.toNat sp ac j else sqW cs s l.toNat sp ac br j
   have a4 := sqW_range (start := s) (l := l.toNat) l3 l4 l5 l6 l7 l8 hall (e + 1)
   have a5 : (row (cs.length - s + 1) fun j => if j + d < cs.length - s then fwd cs s l.toNat sp ac j else sqW cs s l.toNat sp ac br j).getD ((cs.length : Int) - 1 - d + 1 - s).toNat 0 = sqW cs s l.toNat sp ac br (e + 1) := by
    rw [show ((cs.length : Int) - 1 - d + 1 - s).toNat = e + 1 by omega, row_get (by omega), if_neg (by omega)]
   have a7 : (row (cs.length - s + 1) fun j => if j + d < cs.length - s then fwd cs s l.toNat sp ac j else sqW cs s l.toNat sp ac br j).getD ((cs.length : Int) - 1 - d - s).toNat 0 = fwd cs s l.toNat sp ac e := by
    rw [show ((cs.length : Int) - 1 - d - s).toNat = e by omega, row_get (by omega), if_pos (by omega)]
   rw [← a5] at a4
   repeat' (first|with_reducible (first|refine q_and ?_ ?_|exact True.intro|refine Red.o (by constructor) ?_|fail)|((with_reducible apply q_call);refine X_pure (hG) rfl ?_)|((with_reducible apply q_CI);intro hbq;(try simp only [bq] at hbq);(try (exfalso;omega)))|refine Rex.o (by (with_reducible constructor);apply Eq.refl) ?_|((with_reducible apply q_VOk);exact fun _ => ⟨rfl,rfl⟩)|((with_reducible apply q_CRB);kernel_rfl)|omega)
   ·rfl
   ·
    refine LoopK_n (d + 1) ?_ ((by omega)) (by (try dsimp only); omega)
    refine X_weak rfl rfl rfl ?_ ?_ <;> repeat' (first|with_reducible (first|refine Wk.o (by constructor) ?_|refine q_and ?_ ?_|exact True.intro)|refine q_AgS rfl ?_ ?_|exact (rfl : known _ = _)|omega)
    all_goals (
     rw [a5, a7, show ((cs.length : Int) - 1 - d - s).toNat = e by omega, e1]
     refine row_set (i := e) ?_ fun j hj hne => ?_
     ·rw [if_neg (by omega)]
      exact sqW_mid e (by omega) (by omega)
     ·by_cases hji : j + d < cs.length - s
      ·rw [if_pos hji, if_pos (by omega)]
      ·rw [if_neg hji, if_neg (by omega)])
  ·
   have hr : row (cs.length - s + 1) (fun j => if j + d < cs.length - s then fwd cs s l.toNat sp ac j else sqW cs s l.toNat sp ac br j) = row (cs.length - s + 1) (sqW cs s l.toNat sp ac br) := row_ext fun j hj => by
    by_cases hj0 : j + d < cs.length - s
    ·rw [if_pos hj0, show j = 0 by omega, sqW_zero]; rfl
    ·rw [if_neg hj0]
   repeat' (first|with_reducible (first|refine q_and ?_ ?_|exact True.intro|refine Red.o (by constructor) ?_|fail)|((with_reducible apply q_CI);intro hbq;(try simp only [bq] at hbq);(try (exfalso;omega)))|refine Rex.o (by (with_reducible constructor);apply Eq.refl) ?_|fail)
   ·rfl
   ·rw [hr]
    repeat' (first|with_reducible (first|refine Wk.o (by constructor) ?_|refine q_and ?_ ?_|exact True.intro)|rfl)
end Go.Proofs.YtalfibohepbhfaaGreat.Av
namespace Go.Proofs.YtalfibohepbhfaaGreat
open Go.RowKit
theorem refFloor_any (a b : Int) (w : World) (ha : -9223372036854775808 ≤ a) (ha' : a ≤ 9223372036854775807) (hb : 1 ≤ b) (hb' : b ≤ 9223372036854775807) :
  Calls Tryz.prog 58 #[.int .i64 a, .int .i64 b] w fun e w' => e = .returned (.int .i64 (a / b)) ∧ w = w' := by
 by_cases h : 0 ≤ a
 ·have h1 := Int.emod_nonneg a (show b ≠ 0 by omega)
  have h2 := Pl.ediv_le_self' a b h hb
  go_enter Tryz.func58, Tryz.ntmps58
  go_wp2
  go_ret
  exact ⟨rfl, rfl⟩
 ·obtain ⟨h1, h2, h3, h4⟩ := Pl.tdiv_of_neg a b (by omega) hb
  have H4 := Lib.hid h4
  clear h4
  by_cases ht : a.tmod b < 0
  ·obtain ⟨h5, h6⟩ := h3 ht
   have H6 := Lib.hid h6
   clear h3 h6
   go_enter Tryz.func58, Tryz.ntmps58
   go_wp2
   go_ret
   exact ⟨ret_int H6.out, rfl⟩
  ·clear h3
   go_enter Tryz.func58, Tryz.ntmps58
   go_wp2
   go_ret
   exact ⟨ret_int (H4.out ht), rfl⟩
theorem refCeil_any (a b : Int) (w : World) (ha : -9223372036854775808 ≤ a) (ha' : a ≤ 9223372036854775807) (hb : 1 ≤ b) (hb' : b ≤ 9223372036854775807) :
  Calls Tryz.prog 54 #[.int .i64 a, .int .i64 b] w fun e w' => e = .returned (.int .i64 (Pl.cdiv a b)) ∧ w = w' := by
 by_cases h : 0 ≤ a
 ·have h1 := Int.emod_nonneg a (show b ≠ 0 by omega)
  have h2 := Pl.ediv_le_self' a b h hb
  by_cases hr : 0 < a % b
  ·have h3 : a / b < a := by
    have := Int.ediv_mul_add_emod a b
    have := Int.mul_le_mul_of_nonneg_left hb h2.1
    omega
   have H := Lib.hid (Pl.cdiv_pos a b h hb hr)
   go_enter Tryz.func54, Tryz.ntmps54
   go_wp2
   go_ret
   exact ⟨ret_int H.out.symm, rfl⟩
  ·have H := Lib.hid (Pl.cdiv_zero a b hb (by omega))
   go_enter Tryz.func54, Tryz.ntmps54
   go_wp2
   go_ret
   exact ⟨ret_int H.out.symm, rfl⟩
 ·obtain ⟨h1, h2, h3, h4⟩ := Pl.tdiv_of_neg a b (by omega) hb
  obtain ⟨g1, g2, g3, g4⟩ := Pl.tmod_of_neg a b (by omega) hb
  have H := Lib.hid (Pl.cdiv_neg a b (by omega) hb)
  clear h4 h3 g3 g4
  go_enter Tryz.func54, Tryz.ntmps54
  go_wp2
  go_ret
  exact ⟨ret_int H.out.symm, rfl⟩
theorem ceilDiv_any (a b : Int) (w : World) (ha : -9223372036854775808 ≤ a) (ha' : a ≤ 9223372036854775807) (hb : 1 ≤ b) (hb' : b ≤ 9223372036854775807) :
  Calls Tryz.prog 89 #[.int .i64 a, .int .i64 b] w fun e w' => e = .returned (.tuple #[.int .i64 (Pl.cdiv a b), .int .i64 0]) ∧ w = w' := by
 by_cases h : 0 ≤ a
 ·have h1 := Int.emod_nonneg a (show b ≠ 0 by omega)
  have h2 := Pl.ediv_le_self' a b h hb
  by_cases hr : 0 < a % b
  ·have h3 : a / b < a := by
    have := Int.ediv_mul_add_emod a b
    have := Int.mul_le_mul_of_nonneg_left hb h2.1
    omega
   have H := Lib.hid (Pl.cdiv_pos a b h hb hr)
   go_enter Tryz.func89, Tryz.ntmps89
   go_wp2
   go_ret2
   exact ⟨ret_int2 H.out.symm rfl, rfl⟩
  ·have H := Lib.hid (Pl.cdiv_zero a b hb (by omega))
   go_enter Tryz.func89, Tryz.ntmps89
   go_wp2
   go_ret2
   exact ⟨ret_int2 H.out.symm rfl, rfl⟩
 ·obtain ⟨h1, h2, h3, h4⟩ := Pl.tdiv_of_neg a b (by omega) hb
  obtain ⟨g1, g2, g3, g4⟩ := Pl.tmod_of_neg a b (by omega) hb
  have H := Lib.hid (Pl.cdiv_neg a b (by omega) hb)
  clear h4 h3 g3 g4
  go_enter Tryz.func89, Tryz.ntmps89
  go_wp2
  go_ret2
  exact ⟨ret_int2 H.out.symm rfl, rfl⟩
end Go.Proofs.YtalfibohepbhfaaGreat
namespace Go.Proofs.YtalfibohepbhfaaGreat
open Go.RowKit
theorem sqrt_any (n : Nat) (w : World) (hn : (n : Int) ≤ 9223372036854775807) :
  Calls Tryz.prog 109 #[.int .i64 n] w fun e w' => e = .returned (.int .i64 (Pl.isqrt n : Nat)) ∧ w = w' := by
 go_enter Tryz.func109, Tryz.ntmps109
 go_wp2
 go_loop [3, 4] (fun u v => ∃ k p r : Nat, Hid (p = 2 ^ k) ∧ k ≤ 32 ∧ r + p ≤ 4294967296 ∧ Hid (r * r ≤ n ∧ n < (r + p) * (r + p)) ∧ u = .int .i64 r ∧ v = .int .i64 ((p / 2 : Nat) : Int)) (fun _ v => (intOf v).toNat)
 case atStart => exact ⟨32, 4294967296, 0, Lib.hid rfl, by omega, by omega, Lib.hid (by omega), rfl, rfl⟩
 case round =>
  obtain ⟨k, p, r, Hp, hk, hr, Hn, rfl, rfl⟩ := hrel
  cases k with
  | zero =>
   have hp : p = 1 := Hp.out
   subst hp
   go_wp2
   go_ret
   exact ⟨ret_int (by rw [Pl.isqrt_unique n r Hn.out.1 Hn.out.2]), rfl⟩
  | succ k =>
   obtain ⟨q, Hq⟩ : ∃ q : Nat, Hid (q = 2 ^ k) := ⟨_, Lib.hid rfl⟩
   obtain rfl : p = 2 * q := by rw [Hp.out, Hq.out, Nat.pow_succ]; omega
   have hq : 1 ≤ q := by rw [Hq.out]; exact Nat.one_le_two_pow
   have hle : Hid (r + q ≤ n / (r + q) ↔ (r + q) * (r + q) ≤ n) := Lib.hid (Nat.le_div_iff_mul_le (by omega))
   have hi1 : (n : Int) / ((r : Int) + (q : Int)) = ((n / (r + q) : Nat) : Int) := by simp
   have hi2 : (n : Int) / ((r : Int) + (q : Int)) ≤ 9223372036854775807 := by
    rw [hi1]; have := Nat.div_le_self n (r + q); omega
   rw [show 2 * q / 2 = q by omega]
   by_cases hd : r + q ≤ n / (r + q)
   ·have hi3 : (r : Int) + (q : Int) ≤ (n : Int) / ((r : Int) + (q : Int)) := by rw [hi1]; omega
    have Hm : Hid ((r + q) * (r + q) ≤ n ∧ n < (r + q + q) * (r + q + q)) := Lib.hid ⟨hle.out.1 hd, by rw [Nat.add_assoc, ← Nat.two_mul]; exact Hn.out.2⟩
    clear hi1 hd
    go_wp2
    go_round
    case rel => exact ⟨k, q, r + q, Hq, by omega, by omega, Hm, by go_num, by go_num⟩
    case measure => simp [intOf]; omega
   ·have hi3 : (n : Int) / ((r : Int) + (q : Int)) < (r : Int) + (q : Int) := by rw [hi1]; omega
    have hi4 : 0 ≤ (n : Int) / ((r : Int) + (q : Int)) := by rw [hi1]; exact Int.natCast_nonneg _
    have Hm : Hid (r * r ≤ n ∧ n < (r + q) * (r + q)) := Lib.hid ⟨Hn.out.1, Nat.lt_of_not_le (fun h => hd (hle.out.2 h))⟩
    clear hi1 hd
    go_wp2
    go_round
    case rel => exact ⟨k, q, r, Hq, by omega, by omega, Hm, rfl, by go_num⟩
    case measure => simp [intOf]; omega
end Go.Proofs.YtalfibohepbhfaaGreat
namespace Go.Proofs.YtalfibohepbhfaaGreat.Av
open Go.RowKit
theorem two_arg {vals : Array Value} (h : vals.size = 2) : vals = #[vals[0], vals[1]] := by
 apply Array.ext
 ·simp [h]
 ·intro i h1 h2
  match i, h2 with
  | 0, _ => rfl
  | 1, _ => rfl
theorem refFloor_ok (a b : Int) (ha : -9223372036854775808 ≤ a ∧ a ≤ 9223372036854775807) (hb : 1 ≤ b ∧ b ≤ 9223372036854775807) : Ok Tryz.prog 58 [i64 a, i64 b] [] (i64 (HDiv.hDiv a b)) [] := by
 refine ok_old _ Tryz.func58 (by kernel_rfl) (by kernel_rfl) rfl rfl fun w κ ρ vals hv hr => ⟨_, plain_i, ?_⟩
 have hv : vals.size = 2 := hv
 have h0 : vals[0] = .int .i64 a := (repF_v.1 (hr 0 (by simp) (by omega) (.slot 0))).1
 have h1 : vals[1] = .int .i64 b := (repF_v.1 (hr 1 (by simp) (by omega) (.slot 0))).1
 rw [two_arg hv, h0, h1]
 exact (refFloor_any a b w ha.1 ha.2 hb.1 hb.2).mono fun e w' ⟨h1, h2⟩ => ⟨h1, by subst h2; exact Below.refl _ _⟩
theorem ceilDiv_ok (a b : Int) (ha : -9223372036854775808 ≤ a ∧ a ≤ 9223372036854775807) (hb : 1 ≤ b ∧ b ≤ 9223372036854775807) : Ok Tryz.prog 89 [i64 a, i64 b] [] (.tup [.c (.f (.v (.int .i64 (Pl.cdiv a b)))), .c (.f (.v (.int .i64 0)))]) [] := by
 refine ok_old _ Tryz.func89 (by kernel_rfl) (by kernel_rfl) rfl rfl fun w κ ρ vals hv hr => ⟨_, plain_2 plain_i plain_i rfl rfl, ?_⟩
 have hv : vals.size = 2 := hv
 have h0 : vals[0] = .int .i64 a := (repF_v.1 (hr 0 (by simp) (by omega) (.slot 0))).1
 have h1 : vals[1] = .int .i64 b := (repF_v.1 (hr 1 (by simp) (by omega) (.slot 0))).1
 rw [two_arg hv, h0, h1]
 exact (ceilDiv_any a b w ha.1 ha.2 hb.1 hb.2).mono fun e w' ⟨h1, h2⟩ => ⟨h1, by subst h2; exact Below.refl _ _⟩
theorem ceilDiv_okV (a b : Int) (ha : -9223372036854775808 ≤ a ∧ a ≤ 9223372036854775807) (hb : 1 ≤ b ∧ b ≤ 9223372036854775807) : OkV Tryz.prog 89 [.c (xI a), .c (xI b)] [] (.tup [.c (xI (Pl.cdiv a b)), .c (xI 0)]) [] := ceilDiv_ok a b ha hb
theorem sqrt_ok (a : Int) (ha : 0 ≤ a ∧ a ≤ 9223372036854775807) : Ok Tryz.prog 109 [i64 a] [] (i64 (Pl.isqrt a.toNat : Nat)) [] := by
 refine ok_old _ Tryz.func109 (by kernel_rfl) (by kernel_rfl) rfl rfl fun w κ ρ vals hv hr => ⟨_, plain_i, ?_⟩
 have hv : vals.size = 1 := hv
 have h0 : vals[0] = .int .i64 a := (repF_v.1 (hr 0 (by simp) (by omega) (.slot 0))).1
 rw [one_arg hv, h0]
 obtain ⟨m, rfl⟩ := Int.eq_ofNat_of_zero_le ha.1
 exact (sqrt_any m w ha.2).mono fun e w' ⟨h1, h2⟩ => ⟨h1, by subst h2; exact Below.refl _ _⟩
theorem sqrt_okV (a : Int) (ha : 0 ≤ a ∧ a ≤ 9223372036854775807) : OkV Tryz.prog 109 [.c (xI a)] [] (vI (Pl.isqrt a.toNat : Nat)) [] := sqrt_ok a ha
end Go.Proofs.YtalfibohepbhfaaGreat.Av
namespace Go.Proofs.YtalfibohepbhfaaGreat.Av
def speedL (cs : List (Int × Int)) (s : Int) (l sp ac br : Int) : List Int := if badRun cs s l sp ac br = 0 then row (cs.length - s.toNat + 1) (fun j => ((spd cs s.toNat l.toNat sp ac br j : Nat) : Int)) else []
def timeL (cs : List (Int × Int)) (s : Int) (l sp ac br : Int) : List Int := if badRun cs s l sp ac br = 0 then row (cs.length - s.toNat + 1) (tim cs s.toNat l.toNat sp ac br) else []
theorem speeds_ok (cs : List (Int × Int)) (start : Int) (nm : ByteArray) (l sp ac br : Int) (hl : cs.length ≤ 4611686018427387904) : OkV Tryz.prog 88 [.c (rCell cs), .c (xI start), vS5 nm l sp ac br] [] (.tup [.c (rInt (speedL cs start l sp ac br)), .c (xI (badRun cs start l sp ac br))]) [] := by
 have hC := checkRun_ok cs start nm l sp ac br hl
 unfold speedL
 by_cases h : badRun cs start l sp ac br = 0
 ·obtain ⟨hc, hn, hall, h0, h2⟩ := bad_zero h
  obtain ⟨l1, l2, l3, l4, l5, l6, l7, l8⟩ := chk_of hc
  obtain ⟨s, rfl⟩ := Int.eq_ofNat_of_zero_le h0
  have hS := squares_ok cs s nm l sp ac br h
  rw [h] at hC ⊢
  rw [if_pos rfl]
  simp only [Int.toNat_natCast]
  refine X_fnP mixedX Tryz.func88 rfl (by kernel_rfl) (Nat.le_of_ble_eq_true (by kernel_rfl)) (by kernel_rfl) rfl rfl ?_
  simp only [sl0, Nat.zero_add, Nat.reduceAdd]
  repeat' (first|with_reducible (first|refine q_and ?_ ?_|exact True.intro|refine Red.o (by constructor) ?_|fail)|((with_reducible apply q_call);first|refine X_pure (hC) rfl ?_|refine X_call [] (hS) rfl rfl rfl rfl rfl rfl rfl rfl rfl rfl rfl rfl rfl ?_)|((with_reducible apply q_CI);intro hbq;(try simp only [bq] at hbq);(try (exfalso;omega)))|refine Rex.o (by (with_reducible constructor);apply Eq.refl) ?_|fail)
  clear hC hS
  refine W_loopS (fun i : Nat => SS [sC 9 (.c (.arr 2 0 (cs.length - s + 1) (cs.length - s + 1))), sC 23 (.c (.arr 2 0 (cs.length - s + 1) (cs.length - s + 1))), sI 24 (cs.length - s + 1 : Nat), sI 25 i] [none, none, bInt (row (cs.length - s + 1) fun j => if j < i then ((spd cs s l.toNat sp ac br j : Nat) : Int) else sqW cs s l.toNat sp ac br j)]) (fun i => i ≤ cs.length - s + 1) (fun i => cs.length - s + 1 - i) 0 ?_ (by omega) ?_
  ·
   refine X_weak rfl rfl rfl ?_ ?_ <;> repeat' (first|with_reducible (first|refine Wk.o (by constructor) ?_|refine q_and ?_ ?_|exact True.intro)|refine q_AgS rfl ?_ ?_|exact (rfl : known _ = _)|omega)
   all_goals rfl
  intro i hi
  have a6 := row_len (cs.length - s + 1) fun j => if j < i then ((spd cs s l.toNat sp ac br j : Nat) : Int) else sqW cs s l.toNat sp ac br j
  have a4 := sqW_range (start := s) (l := l.toNat) l3 l4 l5 l6 l7 l8 hall i
  by_cases hil : i < cs.length - s + 1
  ·have a5 : (row (cs.length - s + 1) fun j => if j < i then ((spd cs s l.toNat sp ac br j : Nat) : Int) else sqW cs s l.toNat sp ac br j).getD (i : Int).toNat 0 = sqW cs s l.toNat sp ac br i := by
    rw [Int.toNat_natCast, row_get hil, if_neg (by omega)]
   have hQ := sqrt_okV ((row (cs.length - s + 1) fun j => if j < i then ((spd cs s l.toNat sp ac br j : Nat) : Int) else sqW cs s l.toNat sp ac br j).getD (i : Int).toNat 0) (by rw [a5]; omega)
   repeat' (first|with_reducible (first|refine q_and ?_ ?_|exact True.intro|refine Red.o (by constructor) ?_|assumption)|((with_reducible apply q_call);refine X_pure (hQ) rfl ?_)|((with_reducible apply q_CI);intro hbq;(try simp only [bq] at hbq);(try (exfalso;omega)))|refine Rex.o (by (with_reducible constructor);apply Eq.refl) ?_|((with_reducible apply q_VOk);exact fun _ => ⟨rfl,rfl⟩)|omega)
   ·rfl
   ·
    refine LoopK_n (i + 1) ?_ ((by omega)) (by (try dsimp only); omega)
    refine X_weak rfl rfl rfl ?_ ?_ <;> repeat' (first|with_reducible (first|refine Wk.o (by constructor) ?_|refine q_and ?_ ?_|exact True.intro)|refine q_AgS rfl ?_ ?_|exact (rfl : known _ = _)|omega)
    all_goals (
     rw [a5, Int.toNat_natCast]
     refine row_set (i := i) ?_ fun j hj hne => ?_
     ·rw [if_pos (by omega)]; rfl
     ·by_cases hji : j < i
      ·rw [if_pos hji, if_pos (by omega)]
      ·rw [if_neg hji, if_neg (by omega)])
  ·have hr : row (cs.length - s + 1) (fun j => if j < i then ((spd cs s l.toNat sp ac br j : Nat) : Int) else sqW cs s l.toNat sp ac br j) = row (cs.length - s + 1) fun j => ((spd cs s l.toNat sp ac br j : Nat) : Int) := row_ext fun j hj => if_pos (by omega)
   repeat' (first|with_reducible (first|refine q_and ?_ ?_|exact True.intro|refine Red.o (by constructor) ?_|assumption)|((with_reducible apply q_CI);intro hbq;(try simp only [bq] at hbq);(try (exfalso;omega)))|refine Rex.o (by (with_reducible constructor);apply Eq.refl) ?_|(intro _;exact rfl)|((with_reducible apply q_eqN);rfl))
   rw [hr]; rfl
 ·rw [if_neg h]
  refine X_fn mixedX Tryz.func88 rfl (by kernel_rfl) (Nat.le_of_ble_eq_true (by kernel_rfl)) (by kernel_rfl) rfl rfl (Nat.le_of_ble_eq_true rfl) rfl rfl ?_
  simp only [sl0, Nat.zero_add, Nat.reduceAdd]
  repeat' (first|with_reducible (first|refine q_and ?_ ?_|exact True.intro|exact TkEq.nil _|refine Red.o (by constructor) ?_|fail)|((with_reducible apply q_call);refine X_pure (hC) rfl ?_)|((with_reducible apply q_CI);intro hbq;(try simp only [bq] at hbq);(try (exfalso;omega)))|refine Rex.o (by (with_reducible constructor);apply Eq.refl) ?_|fail)
  ·rfl
theorem times_ok (cs : List (Int × Int)) (start : Int) (nm : ByteArray) (l sp ac br : Int) (hl : cs.length ≤ 4611686018427387904) : OkV Tryz.prog 72 [.c (rCell cs), .c (xI start), vS5 nm l sp ac br] [] (.tup [.c (rInt (timeL cs start l sp ac br)), .c (xI (badRun cs start l sp ac br))]) [] := by
 have hC := speeds_ok cs start nm l sp ac br hl
 unfold timeL
 by_cases h : badRun cs start l sp ac br = 0
 ·obtain ⟨hc, hn, hall, h0, h2⟩ := bad_zero h
  obtain ⟨l1, l2, l3, l4, l5, l6, l7, l8⟩ := chk_of hc
  obtain ⟨s, rfl⟩ := Int.eq_ofNat_of_zero_le h0
  unfold speedL at hC
  rw [h, if_pos rfl] at hC
  rw [h, if_pos rfl]
  simp only [Int.toNat_natCast] at hC ⊢
  have b6 := row_len (cs.length - s + 1) fun j => ((spd cs s l.toNat sp ac br j : Nat) : Int)
  have b5 : ∀ j, j < cs.length - s + 1 → (row (cs.length - s + 1) fun j => ((spd cs s l.toNat sp ac br j : Nat) : Int)).getD j 0 = spd cs s l.toNat sp ac br j := fun j hj => row_get hj
  generalize (row (cs.length - s + 1) fun j => ((spd cs s l.toNat sp ac br j : Nat) : Int)) = vs at hC b6 b5
  refine X_fnP mixedX Tryz.func72 rfl (by kernel_rfl) (Nat.le_of_ble_eq_true (by kernel_rfl)) (by kernel_rfl) rfl rfl ?_
  simp only [sl0, Nat.zero_add, Nat.reduceAdd]
  repeat' (first|with_reducible (first|refine q_and ?_ ?_|exact True.intro|refine Red.o (by constructor) ?_|fail)|((with_reducible apply q_call);refine X_pure (hC) rfl ?_)|((with_reducible apply q_CI);intro hbq;(try simp only [bq] at hbq);(try (exfalso;omega)))|refine Rex.o (by (with_reducible constructor);apply Eq.refl) ?_|omega|(dsimp only;omega))
  clear hC
  refine W_loopS (fun i : Nat => SS [sC 8 (rInt vs), sC 10 (.c (.arr 1 0 (cs.length - s + 1) (cs.length - s + 1))), sI 11 (i + 1 : Nat)] [none, bInt (row (cs.length - s + 1) fun j => if j ≤ i then tim cs s l.toNat sp ac br j else 0)]) (fun i => i ≤ cs.length - s) (fun i => cs.length - s - i) 0 ?_ (by omega) ?_
  ·
   refine X_weak rfl rfl rfl ?_ ?_ <;> repeat' (first|with_reducible (first|refine Wk.o (by constructor) ?_|refine q_and ?_ ?_|exact True.intro)|refine q_AgS rfl ?_ ?_|exact (rfl : known _ = _)|omega)
   all_goals first
    | (rw [b6]; rfl)
    | (
     rw [b6, Int.toNat_natCast, row_zero]
     refine row_ext fun j hj => ?_
     by_cases hj0 : j ≤ 0
     ·rw [if_pos hj0, show j = 0 by omega]; rfl
     ·rw [if_neg hj0])
  intro i hi
  have a6 := row_len (cs.length - s + 1) fun j => if j ≤ i then tim cs s l.toNat sp ac br j else 0
  by_cases hil : i < cs.length - s
  ·have e1 : (((i + 1 : Nat) : Int) - 1).toNat = i := by omega
   have e2 : ((i + 1 : Nat) : Int).toNat = i + 1 := by omega
   have a5 : (row (cs.length - s + 1) fun j => if j ≤ i then tim cs s l.toNat sp ac br j else 0).getD (((i + 1 : Nat) : Int) - 1).toNat 0 = tim cs s l.toNat sp ac br i := by
    rw [e1, row_get (by omega), if_pos (Nat.le_refl _)]
   have a4 := tim_range (start := s) (l := l.toNat) l3 l4 l5 l6 l7 l8 hall (by omega) i (by omega)
   have a7 := spd_sum (start := s) (l := l.toNat) l3 l4 l5 l6 l7 l8 hall (by omega) i hil
   have a8 := step_range (start := s) (l := l.toNat) l3 l4 l5 l6 l7 l8 hall (by omega) i hil
   have c1 := b5 i (by omega)
   have c2 := b5 (i + 1) (by omega)
   have c3 : vs.getD (((i + 1 : Nat) : Int) - 1).toNat 0 = spd cs s l.toNat sp ac br i := by rw [e1, c1]
   have c4 : vs.getD ((i + 1 : Nat) : Int).toNat 0 = spd cs s l.toNat sp ac br (i + 1) := by rw [e2, c2]
   have c5 : Pl.cdiv 20000000 (vs.getD (((i + 1 : Nat) : Int) - 1).toNat 0 + vs.getD ((i + 1 : Nat) : Int).toNat 0) = Pl.cdiv 20000000 ((spd cs s l.toNat sp ac br i : Int) + spd cs s l.toNat sp ac br (i + 1)) := by rw [c3, c4]
   rw [← c5] at a8
   have hQ := ceilDiv_okV 20000000 (vs.getD (((i + 1 : Nat) : Int) - 1).toNat 0 + vs.getD ((i + 1 : Nat) : Int).toNat 0) (by omega) (by rw [c3, c4]; omega)
   repeat' (first|with_reducible (first|refine q_and ?_ ?_|exact True.intro|refine Red.o (by constructor) ?_|assumption)|((with_reducible apply q_call);refine X_pure (hQ) rfl ?_)|((with_reducible apply q_CI);intro hbq;(try simp only [bq] at hbq);(try (exfalso;omega)))|refine Rex.o (by (with_reducible constructor);apply Eq.refl) ?_|((with_reducible apply q_VOk);exact fun _ => ⟨rfl,rfl⟩)|((with_reducible apply q_CRB);kernel_rfl)|omega)
   ·rfl
   ·
    refine LoopK_n (i + 1) ?_ ((by omega)) (by (try dsimp only); omega)
    refine X_weak rfl rfl rfl ?_ ?_ <;> repeat' (first|with_reducible (first|refine Wk.o (by constructor) ?_|refine q_and ?_ ?_|exact True.intro)|refine q_AgS rfl ?_ ?_|exact (rfl : known _ = _)|omega)
    all_goals (
     rw [a5, c5, e2]
     refine row_set (i := i + 1) ?_ fun j hj hne => ?_
     ·rw [if_pos (by omega)]; rfl
     ·by_cases hji : j ≤ i
      ·rw [if_pos hji, if_pos (by omega)]
      ·rw [if_neg hji, if_neg (by omega)])
  ·have hr : row (cs.length - s + 1) (fun j => if j ≤ i then tim cs s l.toNat sp ac br j else 0) = row (cs.length - s + 1) (tim cs s l.toNat sp ac br) := row_ext fun j hj => if_pos (by omega)
   repeat' (first|with_reducible (first|refine q_and ?_ ?_|exact True.intro|refine Red.o (by constructor) ?_|assumption)|((with_reducible apply q_CI);intro hbq;(try simp only [bq] at hbq);(try (exfalso;omega)))|refine Rex.o (by (with_reducible constructor);apply Eq.refl) ?_|(intro _;exact rfl)|((with_reducible apply q_eqN);rfl))
   rw [hr]; rfl
 ·unfold speedL at hC
  rw [if_neg h] at hC ⊢
  refine X_fn mixedX Tryz.func72 rfl (by kernel_rfl) (Nat.le_of_ble_eq_true (by kernel_rfl)) (by kernel_rfl) rfl rfl (Nat.le_of_ble_eq_true rfl) rfl rfl ?_
  simp only [sl0, Nat.zero_add, Nat.reduceAdd]
  repeat' (first|with_reducible (first|refine q_and ?_ ?_|exact True.intro|exact TkEq.nil _|refine Red.o (by constructor) ?_|fail)|((with_reducible apply q_call);refine X_pure (hC) rfl ?_)|((with_reducible apply q_CI);intro hbq;(try simp only [bq] at hbq);(try (exfalso;omega)))|refine Rex.o (by (with_reducible constructor);apply Eq.refl) ?_|fail)
  ·rfl
theorem inR_ok (n lo hi : Int) : OkV Tryz.prog 57 [.c (xI n), .c (xI lo), .c (xI hi)] [] (vB (decide (lo ≤ n) && decide (n ≤ hi))) [] := by
 refine X_fn mixedX Tryz.func57 rfl (by kernel_rfl) (Nat.le_of_ble_eq_true (by kernel_rfl)) (by kernel_rfl) rfl rfl (Nat.le_of_ble_eq_true rfl) rfl rfl ?_
 simp only [sl0, Nat.zero_add, Nat.reduceAdd]
 repeat' (first|with_reducible (first|refine q_and ?_ ?_|exact True.intro|exact TkEq.nil _|assumption)|refine Rex.o (by (with_reducible constructor);apply Eq.refl) ?_|(intro (hgq : (_ : Bool) = true);(try simp only [bq] at hgq))|((with_reducible apply q_bt);simp only [bq]))
 repeat' (first|with_reducible (first|refine Wk.o (by constructor) ?_|exact True.intro)|refine VEq.c ?_)
theorem chk_b4 (l sp ac br : Int) : chkB l sp ac br = ((decide (1 ≤ l) && decide (l ≤ 40)) && (decide (1000 ≤ sp) && decide (sp ≤ 100000)) && (decide (100 ≤ ac) && decide (ac ≤ 2000)) && (decide (100 ≤ br) && decide (br ≤ 2000))) := by
 rw [Bool.eq_iff_iff]
 simp [chkB, and_assoc]
theorem chkStock_ok (nm : ByteArray) (l sp ac br : Int) : OkV Tryz.prog 56 [vS5 nm l sp ac br] [] (vB (chkB l sp ac br)) [] := by
 have h1 := inR_ok l 1 40
 have h2 := inR_ok sp 1000 100000
 have h3 := inR_ok ac 100 2000
 have h4 := inR_ok br 100 2000
 rw [chk_b4]
 refine X_fn mixedX Tryz.func56 rfl (by kernel_rfl) (Nat.le_of_ble_eq_true (by kernel_rfl)) (by kernel_rfl) rfl rfl (Nat.le_of_ble_eq_true rfl) rfl rfl ?_
 simp only [sl0, Nat.zero_add, Nat.reduceAdd]
 repeat' (first|with_reducible (first|refine q_and ?_ ?_|exact True.intro|exact TkEq.nil _|refine Red.o (by constructor) ?_|fail)|((with_reducible apply q_call);refine X_pure (h1) rfl ?_)|((with_reducible apply q_callG);refine X_pureG ((fun _ => h2)) rfl ?_ ?_)|((with_reducible apply q_callG);refine X_pureG ((fun _ => h3)) rfl ?_ ?_)|((with_reducible apply q_callG);refine X_pureG ((fun _ => h4)) rfl ?_ ?_)|refine Rex.o (by (with_reducible constructor);apply Eq.refl) ?_|(intro (hgq : (_ : Bool) = true);(try simp only [bq] at hgq))|((with_reducible apply q_bt);simp only [bq])|(simp only [hgq,bq];done))
 repeat' (first|with_reducible (first|refine Wk.o (by constructor) ?_|exact True.intro)|refine VEq.c ?_)
abbrev vR2 (st : List Stp) (ov : Int) : SV := .agg [rStp st, xI ov]
def tight (L : Lay) (l : Int) (s : Stp) : Bool := decide ((secA L s).len < max 2 l)
def fitErr (L : Lay) (r : Rte) (l sp ac br : Int) : Int := if celErr L r ≠ 0 then celErr L r else if chkB l sp ac br = false then 1 else if (trv r).any (tight L l) = true then 12 else 0
section
variable {L : Lay} {r : Rte} {l sp ac br : Int}
theorem fit_c (h : ¬ celErr L r = 0) : fitErr L r l sp ac br = celErr L r := if_pos h
theorem fit_1 (h : celErr L r = 0) (h2 : chkB l sp ac br = false) : fitErr L r l sp ac br = 1 := by unfold fitErr; rw [if_neg (by simpa using h), if_pos h2]
theorem fit_12 (h : celErr L r = 0) (h2 : chkB l sp ac br = true) (h3 : (trv r).any (tight L l) = true) : fitErr L r l sp ac br = 12 := by unfold fitErr; rw [if_neg (by simpa using h), if_neg (by rw [h2]; decide), if_pos h3]
theorem fit_0 (h : celErr L r = 0) (h2 : chkB l sp ac br = true) (h3 : (trv r).any (tight L l) = false) : fitErr L r l sp ac br = 0 := by unfold fitErr; rw [if_neg (by simpa using h), if_neg (by rw [h2]; decide), if_neg (by rw [h3]; decide)]
theorem cel_rte (h : celErr L r = 0) : rteErr L r = 0 := by
 unfold celErr at h
 split at h
 ·exact h
 ·rename_i h2; simpa using h2
theorem trv_len (h : RteOk L r) : ((trv r).length : Int) = r.st.length - r.ov := by
 have := h.ov0; have := h.two; have := h.ov
 unfold trv; rw [List.length_take]; omega
theorem trv_at (h : RteOk L r) {i : Nat} (hi : (i : Int) < r.st.length - r.ov) : (trv r).getD i st0 = r.st.getD i st0 := by
 unfold trv
 rw [List.getD_eq_getElem?_getD, List.getD_eq_getElem?_getD, List.getElem?_take_of_lt (by omega)]
theorem any_at {l : List Stp} {p : Stp → Bool} {i : Nat} (hi : i < l.length) (h : p (l.getD i st0) = true) : l.any p = true := by
 rw [List.getD_eq_getElem?_getD, List.getElem?_eq_getElem hi] at h
 exact List.any_eq_true.2 ⟨_, List.getElem_mem hi, h⟩
theorem any_not {l : List Stp} {p : Stp → Bool} (h : ∀ j, j < l.length → p (l.getD j st0) = false) : l.any p = false := by
 rw [Bool.eq_false_iff]
 intro ha
 obtain ⟨x, hx, h1⟩ := List.any_eq_true.1 ha
 obtain ⟨i, hi, rfl⟩ := List.mem_iff_getElem.1 hx
 have := h i hi
 rw [List.getD_eq_getElem?_getD, List.getElem?_eq_getElem hi] at this
 rw [show (some l[i]).getD st0 = l[i] from rfl] at this
 rw [this] at h1; cases h1
end
theorem travelled_ok (st : List Stp) (ov : Int) (hl : st.length ≤ 9223372036854775807) (h0 : 0 ≤ ov ∧ ov ≤ st.length) : OkV Tryz.prog 73 [vR2 st ov] [] (.c (rStp (trv ⟨st, ov⟩))) [] := by
 unfold trv
 refine X_fn mixedX Tryz.func73 rfl (by kernel_rfl) (Nat.le_of_ble_eq_true (by kernel_rfl)) (by kernel_rfl) rfl rfl (Nat.le_of_ble_eq_true rfl) rfl rfl ?_
 simp only [sl0, Nat.zero_add, Nat.reduceAdd]
 repeat' (first|with_reducible (first|refine q_and ?_ ?_|exact True.intro|exact TkEq.nil _)|refine Rex.o (by (with_reducible constructor);apply Eq.refl) ?_|(intro _;exact rfl)|omega)
 repeat' (first|with_reducible (first|refine Wk.o (by constructor) ?_|exact True.intro)|refine VEq.c ?_)
theorem fit_ok (L : Lay) (hL : LayFits L) (st : List Stp) (ov : Int) (hl : st.length ≤ 9223372036854775807) (ho : -9223372036854775808 ≤ ov ∧ ov ≤ 9223372036854775807) (nm : ByteArray) (l sp ac br : Int) : OkV Tryz.prog 65 [vLay L, vR2 st ov, vS5 nm l sp ac br] [] (.tup [.agg [rCell (if fitErr L ⟨st, ov⟩ l sp ac br = 0 then celL L (trv ⟨st, ov⟩) else []), xI (if fitErr L ⟨st, ov⟩ l sp ac br = 0 then celOne L ⟨st, ov⟩ else 0)], .c (xI (fitErr L ⟨st, ov⟩ l sp ac br))]) [] := by
 have hC := cells_ok L hL st ov hl ho
 have hK := chk_ok nm l sp ac br
 by_cases hc : celErr L ⟨st, ov⟩ = 0
 ·have hr := rte_of (cel_rte hc)
  have hT := travelled_ok st ov hl ⟨hr.ov0, by have := hr.two; simp only at this; omega⟩
  have htl := trv_len hr
  have hr1 := hr.ov0
  have hr3 := hr.len
  simp only at hr1 hr3
  have hV := valid_of hr.lay
  have hn3 := hV.n3
  have hok := all_take hr.ok ((st.length : Int) - ov).toNat
  change (trv ⟨st, ov⟩).all (Stp.ok L) = true at hok
  unfold celOut at hC
  rw [hc, if_pos rfl] at hC
  generalize hts : trv ⟨st, ov⟩ = ts at *
  simp only at htl
  generalize celOne L ⟨st, ov⟩ = one at hC ⊢
  unfold vLay at hC ⊢
  refine X_fn mixedX Tryz.func65 rfl (by kernel_rfl) (Nat.le_of_ble_eq_true (by kernel_rfl)) (by kernel_rfl) rfl rfl (Nat.le_of_ble_eq_true rfl) rfl rfl ?_
  simp only [sl0, Nat.zero_add, Nat.reduceAdd]
  repeat' (first|with_reducible (first|refine q_and ?_ ?_|exact True.intro|exact TkEq.nil _|refine Red.o (by constructor) ?_|fail)|((with_reducible apply q_call);first|refine X_pure (hC) rfl ?_|refine X_pure (hK) rfl ?_|refine X_pure (hT) rfl ?_)|((with_reducible apply q_CI);intro hbq;(try simp only [bq] at hbq);(try (exfalso;omega)))|refine Rex.o (by (with_reducible constructor);apply Eq.refl) ?_|fail)
  ·rw [fit_1 hc hbq]; rfl
  have hb' := hbq
  clear hC hK hT
  have hq := chk_of hbq
  refine W_loopS (fun i : Nat => SS [sC 3 (pB 0), sC 5 (pB 2), sC 6 (pB 3), sC 8 (rCell (celL L ts)), sI 9 one, sC 29 (rStp ts), sI 30 ts.length, sI 31 i] [bLay L, none, bS5 nm l sp ac br, some (.cells [.c (.f .nils), xI 0])]) (fun i => i ≤ ts.length ∧ ∀ j, j < i → tight L l (ts.getD j st0) = false) (fun i => ts.length - i) 0 ?_ ⟨by omega, fun j hj => by omega⟩ ?_
  ·
   refine X_weak rfl rfl rfl ?_ ?_ <;> repeat' (first|with_reducible (first|refine Wk.o (by constructor) ?_|refine q_and ?_ ?_|exact True.intro)|refine q_AgS rfl ?_ ?_|exact (rfl : known _ = _)|omega)
  intro i hi
  obtain ⟨hi, hno⟩ := hi
  have hsec : (i : Int) < ts.length → 0 ≤ (ts.getD (i : Int).toNat { sec := 0, dir := 0 }).sec ∧ (ts.getD (i : Int).toNat { sec := 0, dir := 0 }).sec < L.secs.length := fun h => by
   obtain ⟨x, y, _⟩ := ok_dir (all_at (i := i) hok (by omega))
   exact ⟨x, y⟩
  repeat' (first|with_reducible (first|refine q_and ?_ ?_|exact True.intro|exact TkEq.nil _|refine Red.o (by constructor) ?_|assumption)|((with_reducible apply q_CI);intro hbq;(try simp only [bq] at hbq);(try (exfalso;omega)))|refine Rex.o (by (with_reducible constructor);apply Eq.refl) ?_|((with_reducible apply q_VOk);exact fun _ => ⟨rfl,rfl⟩)|((with_reducible apply q_CRB);kernel_rfl)|omega)
  ·rw [fit_12 hc hb' (any_at (i := i) (by rw [hts]; omega) (by rw [hts]; unfold tight secA; simpa using hbq))]; rfl
  ·
   refine LoopK_n (i + 1) ?_ (⟨by omega, upto_succ hno (by unfold tight secA; simpa using hbq)⟩) (by (try dsimp only); omega)
   refine X_weak rfl rfl rfl ?_ ?_ <;> repeat' (first|with_reducible (first|refine Wk.o (by constructor) ?_|refine q_and ?_ ?_|exact True.intro)|refine q_AgS rfl ?_ ?_|exact (rfl : known _ = _)|omega)
  ·rw [fit_0 hc hb' (by rw [hts]; exact any_not fun j hj => hno j (by omega))]; rfl
 ·rw [fit_c hc, if_neg hc, if_neg hc]
  unfold celOut celOne at hC
  rw [if_neg hc, if_neg hc] at hC
  unfold vLay at hC ⊢
  refine X_fn mixedX Tryz.func65 rfl (by kernel_rfl) (Nat.le_of_ble_eq_true (by kernel_rfl)) (by kernel_rfl) rfl rfl (Nat.le_of_ble_eq_true rfl) rfl rfl ?_
  simp only [sl0, Nat.zero_add, Nat.reduceAdd]
  repeat' (first|with_reducible (first|refine q_and ?_ ?_|exact True.intro|exact TkEq.nil _|refine Red.o (by constructor) ?_|fail)|((with_reducible apply q_call);refine X_pure (hC) rfl ?_)|((with_reducible apply q_CI);intro hbq;(try simp only [bq] at hbq);(try (exfalso;omega)))|refine Rex.o (by (with_reducible constructor);apply Eq.refl) ?_|fail)
  ·rfl
theorem fits_ok (L : Lay) (hL : LayFits L) (st : List Stp) (ov : Int) (hl : st.length ≤ 9223372036854775807) (ho : -9223372036854775808 ≤ ov ∧ ov ≤ 9223372036854775807) (nm : ByteArray) (l sp ac br : Int) : OkV Tryz.prog 44 [vLay L, vR2 st ov, vS5 nm l sp ac br] [] (vI (fitErr L ⟨st, ov⟩ l sp ac br)) [] := by
 have hF := fit_ok L hL st ov hl ho nm l sp ac br
 unfold vLay at hF ⊢
 refine X_fn mixedX Tryz.func44 rfl (by kernel_rfl) (Nat.le_of_ble_eq_true (by kernel_rfl)) (by kernel_rfl) rfl rfl (Nat.le_of_ble_eq_true rfl) rfl rfl ?_
 simp only [sl0, Nat.zero_add, Nat.reduceAdd]
 repeat' (first|with_reducible (first|refine q_and ?_ ?_|exact True.intro|exact TkEq.nil _|refine Red.o (by constructor) ?_|fail)|((with_reducible apply q_call);refine X_pure (hF) rfl ?_)|refine Rex.o (by (with_reducible constructor);apply Eq.refl) ?_|fail)
 repeat' (first|with_reducible (first|refine Wk.o (by constructor) ?_|exact True.intro)|refine VEq.c ?_)
theorem refFits_ok (L : Lay) (hL : LayFits L) (st : List Stp) (ov : Int) (hl : st.length ≤ 9223372036854775807) (ho : -9223372036854775808 ≤ ov ∧ ov ≤ 9223372036854775807) (nm : ByteArray) (l sp ac br : Int) : OkV Tryz.prog 35 [vLay L, vR2 st ov, vS5 nm l sp ac br] [] (vI (fitErr L ⟨st, ov⟩ l sp ac br)) [] := by
 have hC := refCells_ok L hL st ov hl ho
 have hK := chkStock_ok nm l sp ac br
 by_cases hc : celErr L ⟨st, ov⟩ = 0
 ·have hr := rte_of (cel_rte hc)
  have hr1 := hr.ov0
  have hr2 := hr.two
  have hr3 := hr.len
  have hr4 := hr.ok
  simp only at hr1 hr2 hr3 hr4
  have htl := trv_len hr
  have hV := valid_of hr.lay
  have hn3 := hV.n3
  rw [hc] at hC
  unfold vLay at hC ⊢
  refine X_fn mixedX Tryz.func35 rfl (by kernel_rfl) (Nat.le_of_ble_eq_true (by kernel_rfl)) (by kernel_rfl) rfl rfl (Nat.le_of_ble_eq_true rfl) rfl rfl ?_
  simp only [sl0, Nat.zero_add, Nat.reduceAdd]
  repeat' (first|with_reducible (first|refine q_and ?_ ?_|exact True.intro|exact TkEq.nil _|refine Red.o (by constructor) ?_|fail)|((with_reducible apply q_call);first|refine X_pure (hC) rfl ?_|refine X_pure (hK) rfl ?_)|((with_reducible apply q_CI);intro hbq;(try simp only [bq] at hbq);(try (exfalso;omega)))|refine Rex.o (by (with_reducible constructor);apply Eq.refl) ?_|fail)
  ·rw [fit_1 hc hbq]; rfl
  have hb' := hbq
  clear hC hK
  have hq := chk_of hbq
  refine W_loopS (fun i : Nat => SS [sC 3 (pB 0), sC 4 (pB 1), sC 5 (pB 2), sI 10 i] [bLay L, bRte st ov, bS5 nm l sp ac br]) (fun i => (i : Int) ≤ st.length - ov ∧ ∀ j, j < i → tight L l (st.getD j st0) = false) (fun i => st.length - i) 0 ?_ ⟨by omega, fun j hj => by omega⟩ ?_
  ·
   refine X_weak rfl rfl rfl ?_ ?_ <;> repeat' (first|with_reducible (first|refine Wk.o (by constructor) ?_|refine q_and ?_ ?_|exact True.intro)|refine q_AgS rfl ?_ ?_|exact (rfl : known _ = _)|omega)
  intro i hi
  obtain ⟨hi, hno⟩ := hi
  have hsec : (i : Int) < st.length - ov → 0 ≤ (st.getD (i : Int).toNat { sec := 0, dir := 0 }).sec ∧ (st.getD (i : Int).toNat { sec := 0, dir := 0 }).sec < L.secs.length := fun h => by
   obtain ⟨x, y, _⟩ := ok_dir (all_at (i := i) hr4 (by omega))
   exact ⟨x, y⟩
  repeat' (first|with_reducible (first|refine q_and ?_ ?_|exact True.intro|exact TkEq.nil _|refine Red.o (by constructor) ?_|fail)|((with_reducible apply q_CI);intro hbq;(try simp only [bq] at hbq);(try (exfalso;omega)))|refine Rex.o (by (with_reducible constructor);apply Eq.refl) ?_|((with_reducible apply q_VOk);exact fun _ => ⟨rfl,rfl⟩)|((with_reducible apply q_CRB);kernel_rfl)|omega)
  ·rw [fit_12 hc hb' (any_at (i := i) (by have := htl; simp only at this; omega) (by rw [trv_at hr (by simp only; omega)]; unfold tight secA; simpa using hbq))]; rfl
  ·
   refine LoopK_n (i + 1) ?_ (⟨by omega, upto_succ hno (by unfold tight secA; simpa using hbq)⟩) (by (try dsimp only); omega)
   refine X_weak rfl rfl rfl ?_ ?_ <;> repeat' (first|with_reducible (first|refine Wk.o (by constructor) ?_|refine q_and ?_ ?_|exact True.intro)|refine q_AgS rfl ?_ ?_|exact (rfl : known _ = _)|omega)
  ·rw [fit_0 hc hb' (any_not fun j hj => by rw [trv_at hr (by simp only at htl ⊢; omega)]; exact hno j (by simp only at htl; omega))]; rfl
 ·rw [fit_c hc]
  unfold vLay at hC ⊢
  refine X_fn mixedX Tryz.func35 rfl (by kernel_rfl) (Nat.le_of_ble_eq_true (by kernel_rfl)) (by kernel_rfl) rfl rfl (Nat.le_of_ble_eq_true rfl) rfl rfl ?_
  simp only [sl0, Nat.zero_add, Nat.reduceAdd]
  repeat' (first|with_reducible (first|refine q_and ?_ ?_|exact True.intro|exact TkEq.nil _|refine Red.o (by constructor) ?_|fail)|((with_reducible apply q_call);refine X_pure (hC) rfl ?_)|((with_reducible apply q_CI);intro hbq;(try simp only [bq] at hbq);(try (exfalso;omega)))|refine Rex.o (by (with_reducible constructor);apply Eq.refl) ?_|fail)
  ·rfl
abbrev secN (L : Lay) (ts : List Stp) (k : Nat) : Nat := (L.secs.getD (ts.getD k st0).sec.toNat sec0).len.toNat
def endA (L : Lay) (ts : List Stp) : Nat → Nat
 | 0 => 0
 | k + 1 => endA L ts k + secN L ts (k + 1)
def rideT (L : Lay) (r : Rte) (l sp ac br : Int) : Nat → Int := tim (celL L (trv r)) (celOne L r).toNat l.toNat sp ac br
structure Ride (L : Lay) (r : Rte) (l sp ac br : Int) : Prop where
 rt : RteOk L r
 cel : celErr L r = 0
 chk : chkB l sp ac br = true
 n : ((trv r).length : Int) = r.st.length - r.ov
 n2 : 2 ≤ (trv r).length
 n24 : (trv r).length ≤ 24
 sec : ∀ k, k < (trv r).length → 0 ≤ ((trv r).getD k st0).sec ∧ ((trv r).getD k st0).sec < L.secs.length
 len : ∀ k, k < (trv r).length → 2 ≤ secN L (trv r) k ∧ l ≤ secN L (trv r) k ∧ secN L (trv r) k ≤ 400
 leni : ∀ k, k < (trv r).length → (L.secs.getD ((trv r).getD k st0).sec.toNat sec0).len = secN L (trv r) k
 one : celOne L r = secN L (trv r) 0
 all : (celL L (trv r)).length = secN L (trv r) 0 + endA L (trv r) ((trv r).length - 1)
 bad : badRun (celL L (trv r)) (celOne L r) l sp ac br = 0
 tl : timeL (celL L (trv r)) (celOne L r) l sp ac br = row (endA L (trv r) ((trv r).length - 1) + 1) (rideT L r l sp ac br)
 rng : ∀ j, j ≤ endA L (trv r) ((trv r).length - 1) → 0 ≤ rideT L r l sp ac br j ∧ rideT L r l sp ac br j ≤ 80000000
theorem endA_mono (L : Lay) (ts : List Stp) {i j : Nat} (h : i ≤ j) : endA L ts i ≤ endA L ts j := by
 induction j with
 | zero => rw [Nat.le_zero.1 h]; exact Nat.le_refl _
 | succ j ih =>
  rcases Nat.lt_or_ge i (j + 1) with h1 | h1
  ·exact Nat.le_trans (ih (by omega)) (Nat.le_add_right _ _)
  ·rw [show i = j + 1 by omega]; exact Nat.le_refl _
theorem celL_endA (L : Lay) (ts : List Stp) : ∀ k, k < ts.length → (celL L (ts.take (k + 1))).length = secN L ts 0 + endA L ts k
 | 0, h => by
  rw [celL_snoc L h, List.length_append]
  simp [celL, celsOf, secN, endA]
 | k + 1, h => by
  rw [celL_snoc L h, List.length_append, celL_endA L ts k (by omega)]
  simp only [celsOf, List.length_replicate, endA, secN, secA]
  omega
theorem cel_all {L : Lay} (hV : Valid L) : ∀ {l : List Stp}, l.all (Stp.ok L) = true → (celL L l).all cellB = true
 | [], _ => rfl
 | s :: l, h => by
  rw [List.all_cons, Bool.and_eq_true] at h
  have ih := cel_all hV h.2
  obtain ⟨a, b, _⟩ := ok_dir h.1
  have h2 := secB_of (sec_of hV (i := s.sec.toNat) (by omega))
  unfold celL at ih ⊢
  rw [List.flatMap_cons, List.all_append, ih, Bool.and_true, List.all_eq_true]
  intro c hc
  rw [(List.mem_replicate.1 hc).2]
  unfold celOf cellB secA
  rw [decide_eq_true_eq]
  split <;> (simp only; omega)
theorem ride_of {L : Lay} {r : Rte} {l sp ac br : Int} (h : fitErr L r l sp ac br = 0) : Ride L r l sp ac br := by
 have hc : celErr L r = 0 := by
  unfold fitErr at h
  split at h
  ·exact h
  ·rename_i h2; simpa using h2
 unfold fitErr at h
 rw [if_neg (by simpa using hc)] at h
 by_cases hk : chkB l sp ac br = false
 ·rw [if_pos hk] at h; cases h
 rw [if_neg hk] at h
 by_cases ht : (trv r).any (tight L l) = true
 ·rw [if_pos ht] at h; cases h
 clear h
 have hk : chkB l sp ac br = true := by simpa using hk
 have hq := chk_of hk
 have hr := rte_of (cel_rte hc)
 have hV := valid_of hr.lay
 have hn := trv_len hr
 have h1 := hr.two
 have h2 := hr.ov0
 have h3 := hr.len
 have hok : (trv r).all (Stp.ok L) = true := all_take hr.ok _
 have hsec : ∀ k, k < (trv r).length → 0 ≤ ((trv r).getD k st0).sec ∧ ((trv r).getD k st0).sec < L.secs.length := fun k hk => by
  obtain ⟨a, b, _⟩ := ok_dir (all_at hok hk)
  exact ⟨a, b⟩
 have hb : ∀ k, k < (trv r).length → 1 ≤ (secA L ((trv r).getD k st0)).len ∧ (secA L ((trv r).getD k st0)).len ≤ 400 ∧ max 2 l ≤ (secA L ((trv r).getD k st0)).len := fun k hk => by
  have h4 := secB_of (sec_of hV (i := ((trv r).getD k st0).sec.toNat) (by have := hsec k hk; omega))
  have h5 : tight L l ((trv r).getD k st0) = false := by
   cases e : tight L l ((trv r).getD k st0)
   ·rfl
   ·exact absurd (any_at hk e) ht
  unfold tight at h5
  rw [decide_eq_false_iff_not] at h5
  exact ⟨h4.1, h4.2.1, by omega⟩
 have hlen : ∀ k, k < (trv r).length → 2 ≤ secN L (trv r) k ∧ l ≤ secN L (trv r) k ∧ secN L (trv r) k ≤ 400 := fun k hk => by
  have := hb k hk
  unfold secA at this
  unfold secN
  omega
 have hli : ∀ k, k < (trv r).length → (L.secs.getD ((trv r).getD k st0).sec.toNat sec0).len = secN L (trv r) k := fun k hk => by
  have := hb k hk
  unfold secA at this
  unfold secN
  omega
 have hall := celL_endA L (trv r) ((trv r).length - 1) (by omega)
 rw [show (trv r).length - 1 + 1 = (trv r).length by omega, List.take_length] at hall
 have hone : celOne L r = secN L (trv r) 0 := by
  unfold celOne
  rw [if_pos hc, ← hli 0 (by omega), trv_at hr (by omega)]
 have hc4 : (celL L (trv r)).length ≤ 4000 := by
  unfold celErr at hc
  rw [if_neg (by simpa using cel_rte hc)] at hc
  split at hc
  ·cases hc
  ·omega
 have he1 : endA L (trv r) 1 ≤ endA L (trv r) ((trv r).length - 1) := endA_mono L (trv r) (by omega)
 have he2 : endA L (trv r) 1 = secN L (trv r) 1 := Nat.zero_add _
 have hl1 := hlen 1 (by omega)
 have hbad : badRun (celL L (trv r)) (celOne L r) l sp ac br = 0 := bad_0 hk (by omega) (cel_all hV hok) (by rw [hone]; omega)
 have htl : timeL (celL L (trv r)) (celOne L r) l sp ac br = row (endA L (trv r) ((trv r).length - 1) + 1) (rideT L r l sp ac br) := by
  unfold timeL rideT
  rw [if_pos hbad, hall, hone, Int.toNat_natCast, Nat.add_sub_cancel_left]
 refine ⟨hr, hc, hk, hn, by omega, by omega, hsec, hlen, hli, hone, hall, hbad, htl, fun j hj => ?_⟩
 have h5 := tim_range (start := (celOne L r).toNat) (l := l.toNat) hq.2.2.1 hq.2.2.2.1 hq.2.2.2.2.1 hq.2.2.2.2.2.1 hq.2.2.2.2.2.2.1 hq.2.2.2.2.2.2.2 (cel_all hV hok) (by rw [hone, Int.toNat_natCast]; omega) j (by rw [hone, Int.toNat_natCast]; omega)
 unfold rideT
 omega
def entL (L : Lay) (r : Rte) (l sp ac br : Int) (n : Nat) : List Int := row n fun k => rideT L r l sp ac br (endA L (trv r) (k - 1))
def levF (L : Lay) (r : Rte) (l sp ac br : Int) (k : Nat) : Int := rideT L r l sp ac br (if k + 1 < (trv r).length then endA L (trv r) k + l.toNat else endA L (trv r) k)
def levL (L : Lay) (r : Rte) (l sp ac br : Int) (n : Nat) : List Int := row n (levF L r l sp ac br)
def runI (L : Lay) (r : Rte) (l sp ac br : Int) : Int := Pl.cdiv (rideT L r l sp ac br (endA L (trv r) ((trv r).length - 1))) 1000
theorem row_snoc (n : Nat) (f : Nat → Int) : row (n + 1) f = row n f ++ [f n] := by
 unfold row; rw [List.range_succ, List.map_append]; rfl
theorem snoc_den (X : List Int) (v : Int) : (SC.c (CVal.f (FVal.row (List.flatMap fInt X ++ [FVal.v (.int .i64 v)]) (X.length + 1)))).den = (rInt (X ++ [v])).den := by
 show CVal.f (FVal.row (List.flatMap fInt X ++ [FVal.v (.int .i64 v)]) (X.length + 1)) = CVal.f (FVal.row (List.flatMap fInt (X ++ [v])) (X ++ [v]).length)
 rw [List.flatMap_append, List.length_append]
 rfl
theorem tup_snoc (A C D : SC) (X : List Int) (v : Int) : (packS [ST.c A, ST.c (SC.c (CVal.f (FVal.row (List.flatMap fInt X ++ [FVal.v (.int .i64 v)]) (X.length + 1)))), ST.c C, ST.c D]).den = (SV.tup [ST.c A, ST.c (rInt (X ++ [v])), ST.c C, ST.c D]).den := by
 show AVal.tup [.c A.den, .c (SC.den _), .c C.den, .c D.den] = AVal.tup [.c A.den, .c (SC.den _), .c C.den, .c D.den]
 rw [snoc_den]
theorem up_ok (a : Int) (ha : -9223372036854775808 ≤ a ∧ a ≤ 9223372036854775807) : OkV Tryz.prog 74 [.c (xI a)] [] (vI (Pl.cdiv a 1000)) [] := by
 have h := ceilDiv_okV a 1000 ha (by omega)
 refine X_fn mixedX Tryz.func74 rfl (by kernel_rfl) (Nat.le_of_ble_eq_true (by kernel_rfl)) (by kernel_rfl) rfl rfl (Nat.le_of_ble_eq_true rfl) rfl rfl ?_
 simp only [sl0, Nat.zero_add, Nat.reduceAdd]
 repeat' (first|with_reducible (first|refine q_and ?_ ?_|exact True.intro|exact TkEq.nil _|refine Red.o (by constructor) ?_|fail)|((with_reducible apply q_call);refine X_pure (h) rfl ?_)|refine Rex.o (by (with_reducible constructor);apply Eq.refl) ?_|fail)
 repeat' (first|with_reducible (first|refine Wk.o (by constructor) ?_|exact True.intro)|refine VEq.c ?_)
theorem btimes_bad (L : Lay) (hL : LayFits L) (st : List Stp) (ov : Int) (hl : st.length ≤ 9223372036854775807) (ho : -9223372036854775808 ≤ ov ∧ ov ≤ 9223372036854775807) (nm : ByteArray) (l sp ac br : Int) (h : ¬ fitErr L ⟨st, ov⟩ l sp ac br = 0) : OkV Tryz.prog 51 [vLay L, vR2 st ov, vS5 nm l sp ac br] [] (.tup [.c (rInt []), .c (rInt []), .c (xI 0), .c (xI (fitErr L ⟨st, ov⟩ l sp ac br))]) [] := by
 have hF := fit_ok L hL st ov hl ho nm l sp ac br
 rw [if_neg h, if_neg h] at hF
 unfold vLay at hF ⊢
 refine X_fn mixedX Tryz.func51 rfl (by kernel_rfl) (Nat.le_of_ble_eq_true (by kernel_rfl)) (by kernel_rfl) rfl rfl (Nat.le_of_ble_eq_true rfl) rfl rfl ?_
 simp only [sl0, Nat.zero_add, Nat.reduceAdd]
 repeat' (first|with_reducible (first|refine q_and ?_ ?_|exact True.intro|exact TkEq.nil _|refine Red.o (by constructor) ?_|fail)|((with_reducible apply q_call);refine X_pure (hF) rfl ?_)|((with_reducible apply q_CI);intro hbq;(try simp only [bq] at hbq);(try (exfalso;omega)))|refine Rex.o (by (with_reducible constructor);apply Eq.refl) ?_|fail)
 ·rfl
theorem btimes_ok (L : Lay) (hL : LayFits L) (st : List Stp) (ov : Int) (hl : st.length ≤ 9223372036854775807) (ho : -9223372036854775808 ≤ ov ∧ ov ≤ 9223372036854775807) (nm : ByteArray) (l sp ac br : Int) (h : fitErr L ⟨st, ov⟩ l sp ac br = 0) : OkV Tryz.prog 51 [vLay L, vR2 st ov, vS5 nm l sp ac br] [] (.tup [.c (rInt (entL L ⟨st, ov⟩ l sp ac br (trv ⟨st, ov⟩).length)), .c (rInt (levL L ⟨st, ov⟩ l sp ac br (trv ⟨st, ov⟩).length)), .c (xI (runI L ⟨st, ov⟩ l sp ac br)), .c (xI 0)]) [] := by
 have hF := fit_ok L hL st ov hl ho nm l sp ac br
 rw [h, if_pos rfl, if_pos rfl] at hF
 have hR := ride_of h
 obtain ⟨r1, r2, r3, r4, r5, r6, r7, r8, r9, r10, r11, r12, r13, r14⟩ := hR
 have hq := chk_of r3
 have hr1 := r1.ov0
 have hr2 := r1.two
 simp only at hr1 hr2 r4
 have hn3 := (valid_of r1.lay).n3
 have hm := times_ok (celL L (trv ⟨st, ov⟩)) (celOne L ⟨st, ov⟩) nm l sp ac br (by
  have := (bad_zero r12).2.1; omega)
 rw [r13, r12] at hm
 have hT := travelled_ok st ov hl ⟨by omega, by omega⟩
 unfold entL levL levF runI
 generalize hT' : rideT L ⟨st, ov⟩ l sp ac br = T at *
 generalize hts : trv ⟨st, ov⟩ = ts at *
 unfold vLay at hF ⊢
 refine X_fn mixedX Tryz.func51 rfl (by kernel_rfl) (Nat.le_of_ble_eq_true (by kernel_rfl)) (by kernel_rfl) rfl rfl (Nat.le_of_ble_eq_true rfl) rfl rfl ?_
 simp only [sl0, Nat.zero_add, Nat.reduceAdd]
 repeat' (first|with_reducible (first|refine q_and ?_ ?_|exact True.intro|refine Red.o (by constructor) ?_|fail)|((with_reducible apply q_call);first|refine X_pure (hF) rfl ?_|refine X_pure (hm) rfl ?_|refine X_pure (hT) rfl ?_)|((with_reducible apply q_CI);intro hbq;(try simp only [bq] at hbq);(try (exfalso;omega)))|refine Rex.o (by (with_reducible constructor);apply Eq.refl) ?_|fail)
 clear hF hm hT r13 r12 r11 r10
 have hrl : (row (endA L ts (ts.length - 1) + 1) T).length = _ := row_len _ _
 have hE : ∀ j, j + 1 ≤ ts.length → endA L ts j ≤ endA L ts (ts.length - 1) := fun j hj => endA_mono L ts (by omega)
 have hEb : endA L ts (ts.length - 1) ≤ 400 * 24 := by
  have : ∀ j, j + 1 ≤ ts.length → endA L ts j ≤ 400 * j := by
   intro j
   induction j with
   | zero => intro _; exact Nat.le_refl _
   | succ j ih => intro hj; have := ih (by omega); have := (r8 (j + 1) (by omega)).2.2; simp only [endA]; omega
  have := this (ts.length - 1) (by omega)
  omega
 refine W_loopS (fun k : Nat => SS [sC 3 (pB 0), sC 5 (pB 2), sC 6 (tInt (row k fun k => T (endA L ts (k - 1)))), sC 7 (tInt (row (min k (ts.length - 1)) fun k => T (endA L ts k + l.toNat))), sC 11 (rInt (row (endA L ts (ts.length - 1) + 1) T)), sC 13 (rStp ts), sI 14 (endA L ts (k - 1)), sC 38 (rStp ts), sI 39 ts.length, sI 40 k] [bLay L, none, bS5 nm l sp ac br]) (fun k => k ≤ ts.length) (fun k => ts.length - k) 0 ?_ (by omega) ?_
 ·
  refine X_weak rfl rfl rfl ?_ ?_ <;> repeat' (first|with_reducible (first|refine Wk.o (by constructor) ?_|refine q_and ?_ ?_|exact True.intro)|refine q_AgS rfl ?_ ?_|exact CLe.nil_tipS|exact (rfl : known _ = _)|omega)
  all_goals rfl
 intro k hk
 have hl1 := row_len k fun k => T (endA L ts (k - 1))
 have hl2 := row_len (min k (ts.length - 1)) fun k => T (endA L ts k + l.toNat)
 by_cases hkn : k < ts.length
 ·have f0 := hE (k - 1) (by omega)
  have f2 := hE k (by omega)
  have f1 : 0 < k → endA L ts k = endA L ts (k - 1) + secN L ts k := fun h => by
   obtain ⟨j, rfl⟩ : ∃ j, k = j + 1 := ⟨k - 1, by omega⟩
   rfl
  have f3 : k + 1 < ts.length → endA L ts k + l.toNat ≤ endA L ts (ts.length - 1) := fun h => by
   have a := hE (k + 1) (by omega)
   have b := (r8 (k + 1) h).2.1
   simp only [endA] at a
   omega
  have g1 : 0 ≤ (ts.getD (k : Int).toNat { sec := 0, dir := 0 }).sec ∧ (ts.getD (k : Int).toNat { sec := 0, dir := 0 }).sec < L.secs.length := r7 k hkn
  have g2 : (L.secs.getD (ts.getD (k : Int).toNat { sec := 0, dir := 0 }).sec.toNat sec0).len = (secN L ts k : Nat) := r9 k hkn
  have g3 := r8 k hkn
  generalize secN L ts k = sk at *
  have hex : (row (endA L ts (ts.length - 1) + 1) T).getD ((endA L ts (k - 1) : Nat) : Int).toNat 0 = T (endA L ts (k - 1)) := by rw [Int.toNat_natCast, row_get (by omega)]
  have f5 : endA L ts (k + 1 - 1) = endA L ts k := rfl
  have f6 : k = 0 → endA L ts (k - 1) = endA L ts k := fun h => by rw [h]
  have m1 : k + 1 < ts.length → min (k + 1) (ts.length - 1) = min k (ts.length - 1) + 1 := fun h => by omega
  have m2 : k + 1 < ts.length → min k (ts.length - 1) = k := fun h => by omega
  have m3 : ¬ k + 1 < ts.length → min (k + 1) (ts.length - 1) = min k (ts.length - 1) := fun h => by omega
  repeat' (first|with_reducible (first|refine q_and ?_ ?_|exact True.intro|assumption)|((with_reducible apply q_CI);intro hbq;(try simp only [bq] at hbq);(try (exfalso;omega)))|refine Rex.o (by (with_reducible constructor);apply Eq.refl) ?_|((with_reducible apply q_VOk);exact fun _ => ⟨rfl,rfl⟩)|((with_reducible apply q_eqN);rfl)|omega)
  ·have c : k + 1 < ts.length := by omega
   have hex2 : (row (endA L ts (ts.length - 1) + 1) T).getD ((endA L ts (k - 1) : Nat) + (L.secs.getD (ts.getD (k : Int).toNat { sec := 0, dir := 0 }).sec.toNat sec0).len + l).toNat 0 = T (endA L ts k + l.toNat) := by
    rw [show ((endA L ts (k - 1) : Nat) + (L.secs.getD (ts.getD (k : Int).toNat { sec := 0, dir := 0 }).sec.toNat sec0).len + l).toNat = endA L ts k + l.toNat by omega, row_get (by omega)]
   refine LoopK_n (k + 1) ?_ ((by omega)) (by (try dsimp only); omega)
   refine X_weak rfl rfl rfl ?_ ?_ <;> repeat' (first|with_reducible (first|refine Wk.o (by constructor) ?_|refine q_and ?_ ?_|exact True.intro)|refine q_AgS rfl ?_ ?_|exact (rfl : known _ = _)|omega)
   ·rw [hex, row_snoc]; simp [fInt, fI]
   ·rw [row_len, row_len]
   ·rw [hex2, m1 c, row_snoc, m2 c]; simp [fInt, fI]
   ·rw [row_len, row_len, m1 c]
  ·have c : ¬ k + 1 < ts.length := by omega
   refine LoopK_n (k + 1) ?_ ((by omega)) (by (try dsimp only); omega)
   refine X_weak rfl rfl rfl ?_ ?_ <;> repeat' (first|with_reducible (first|refine Wk.o (by constructor) ?_|refine q_and ?_ ?_|exact True.intro)|refine q_AgS rfl ?_ ?_|exact (rfl : known _ = _)|omega)
   ·rw [hex, row_snoc]; simp [fInt, fI]
   ·rw [row_len, row_len]
   ·rw [m3 c]
  ·have c : k + 1 < ts.length := by omega
   have hex2 : (row (endA L ts (ts.length - 1) + 1) T).getD ((endA L ts (k - 1) : Nat) + l).toNat 0 = T (endA L ts k + l.toNat) := by
    rw [show ((endA L ts (k - 1) : Nat) + l).toNat = endA L ts k + l.toNat by omega, row_get (by omega)]
   refine LoopK_n (k + 1) ?_ ((by omega)) (by (try dsimp only); omega)
   refine X_weak rfl rfl rfl ?_ ?_ <;> repeat' (first|with_reducible (first|refine Wk.o (by constructor) ?_|refine q_and ?_ ?_|exact True.intro)|refine q_AgS rfl ?_ ?_|exact (rfl : known _ = _)|omega)
   ·rw [hex, row_snoc]; simp [fInt, fI]
   ·rw [row_len, row_len]
   ·rw [hex2, m1 c, row_snoc, m2 c]; simp [fInt, fI]
   ·rw [row_len, row_len, m1 c]
 ·have hkn : k = ts.length := by omega
  subst hkn
  have hex : (row (endA L ts (ts.length - 1) + 1) T).getD ((endA L ts (ts.length - 1) : Nat) : Int).toNat 0 = T (endA L ts (ts.length - 1)) := by rw [Int.toNat_natCast, row_get (by omega)]
  have hr := r14 _ (Nat.le_refl _)
  have hU := up_ok ((row (endA L ts (ts.length - 1) + 1) T).getD ((endA L ts (ts.length - 1) : Nat) : Int).toNat 0) (by rw [hex]; omega)
  repeat' (first|with_reducible (first|refine q_and ?_ ?_|exact True.intro|exact TkEq.nil _|refine Red.o (by constructor) ?_|fail)|((with_reducible apply q_call);refine X_pure (hU) rfl ?_)|((with_reducible apply q_CI);intro hbq;(try simp only [bq] at hbq);(try (exfalso;omega)))|refine Rex.o (by (with_reducible constructor);apply Eq.refl) ?_|((with_reducible apply q_VOk);exact fun _ => ⟨rfl,rfl⟩)|((with_reducible apply q_eqN);rfl)|omega)
  have hlev : (row ts.length fun k => T (if k + 1 < ts.length then endA L ts k + l.toNat else endA L ts k)) = (row (min ts.length (ts.length - 1)) fun k => T (endA L ts k + l.toNat)) ++ [T (endA L ts (ts.length - 1))] := by
   have e : ts.length = ts.length - 1 + 1 := by omega
   rw [Nat.min_eq_right (by omega)]
   conv => lhs; rw [show row ts.length = row (ts.length - 1 + 1) by rw [← e]]
   rw [row_snoc, if_neg (by omega)]
   congr 1
   exact row_ext fun j hj => by rw [if_pos (by omega)]
  rw [hlev]
  simp only [hex]
  apply tup_snoc
section
variable (L : Lay) (r : Rte) (l sp ac br bf af : Int)
def entF (k : Nat) : Int := rideT L r l sp ac br (endA L (trv r) (k - 1))
end
theorem ride_mono {L : Lay} {r : Rte} {l sp ac br : Int} (h : Ride L r l sp ac br) {i j : Nat} (hij : i ≤ j) (hj : j ≤ endA L (trv r) ((trv r).length - 1)) : rideT L r l sp ac br i ≤ rideT L r l sp ac br j := by
 have hq := chk_of h.chk
 have hb := bad_zero h.bad
 have ha := h.all
 have ho := h.one
 induction j with
 | zero => rw [Nat.le_zero.1 hij]; exact Int.le_refl _
 | succ j ih =>
  rcases Nat.lt_or_ge i (j + 1) with h1 | h1
  ·refine Int.le_trans (ih (by omega) (by omega)) ?_
   have := step_range (start := (celOne L r).toNat) (l := l.toNat) hq.2.2.1 hq.2.2.2.1 hq.2.2.2.2.1 hq.2.2.2.2.2.1 hq.2.2.2.2.2.2.1 hq.2.2.2.2.2.2.2 hb.2.2.1 (by omega) j (by omega)
   unfold rideT
   simp only [tim]
   omega
  ·rw [show i = j + 1 by omega]; exact Int.le_refl _
section
variable {L : Lay} {r : Rte} {l sp ac br bf af : Int} (h : Ride L r l sp ac br)
include h
theorem lev_in {j : Nat} (hj : j < (trv r).length) : endA L (trv r) j ≤ (if j + 1 < (trv r).length then endA L (trv r) j + l.toNat else endA L (trv r) j) ∧ (if j + 1 < (trv r).length then endA L (trv r) j + l.toNat else endA L (trv r) j) ≤ endA L (trv r) ((trv r).length - 1) := by
 have a := endA_mono L (trv r) (show j ≤ (trv r).length - 1 by omega)
 split
 ·rename_i c
  have b := endA_mono L (trv r) (show j + 1 ≤ (trv r).length - 1 by omega)
  have d := (h.len (j + 1) c).2.1
  have hq := chk_of h.chk
  simp only [endA] at b
  omega
 ·omega
end
theorem hop_pt {L : Lay} (hV : Valid L) {a : Stp} {h : Hop} (hm : h ∈ hopsL L a) : -1 ≤ h.pt ∧ h.pt < L.pts.length := by
 unfold hopsL at hm
 obtain ⟨k, hk, e⟩ := List.mem_filterMap.1 hm
 have hl := linkB_of (hV.v4 k hk)
 unfold hopK at e
 split at e
 ·injection e with e; subst e; exact ⟨hl.2.2.2.2.2.2.2.2.1, hl.2.2.2.2.2.2.2.2.2.1⟩
 ·split at e
  ·injection e with e; subst e; exact ⟨hl.2.2.2.2.2.2.2.2.1, hl.2.2.2.2.2.2.2.2.2.1⟩
  ·cases e
theorem join_at {L : Lay} {r : Rte} (h : RteOk L r) {i : Nat} (h0 : 0 < i) (hi : i < r.st.length) : ∃ k, joinL L (r.st.getD (i - 1) st0) (r.st.getD i st0) = some k ∧ -1 ≤ k.pt ∧ k.pt < L.pts.length := by
 have hk := List.all_eq_true.1 h.link (i - 1) (List.mem_range.2 (by omega))
 unfold linkAt at hk
 rw [Nat.sub_add_cancel h0] at hk
 obtain ⟨k, hk⟩ := Option.isSome_iff_exists.1 hk
 refine ⟨k, hk, ?_⟩
 unfold joinL at hk
 exact hop_pt (valid_of h.lay) (List.mem_of_find?_eq_some hk)
section
variable {L : Lay} {r : Rte} {l sp ac br : Int} (h : Ride L r l sp ac br)
include h
theorem ride_lt {i j : Nat} (hij : i < j) (hj : j ≤ endA L (trv r) ((trv r).length - 1)) : rideT L r l sp ac br i < rideT L r l sp ac br j := by
 have a := ride_mono h (i := i + 1) (j := j) (by omega) hj
 have hq := chk_of h.chk
 have hb := bad_zero h.bad
 have hall := h.all
 have ho := h.one
 have b := step_range (start := (celOne L r).toNat) (l := l.toNat) hq.2.2.1 hq.2.2.2.1 hq.2.2.2.2.1 hq.2.2.2.2.2.1 hq.2.2.2.2.2.2.1 hq.2.2.2.2.2.2.2 hb.2.2.1 (by omega) i (by omega)
 unfold rideT at a ⊢
 simp only [tim] at a
 omega
theorem endA_lt {i j : Nat} (hij : i < j) (hj : j < (trv r).length) : endA L (trv r) i < endA L (trv r) j := by
 have a := endA_mono L (trv r) (show i + 1 ≤ j by omega)
 have b := (h.len (i + 1) (by omega)).1
 simp only [endA] at a
 omega
end
theorem step_ne {L : Lay} {r : Rte} (h : RteOk L r) {i j : Nat} (hij : i < j) (hj : j < r.st.length) : (r.st.getD i st0).sec.toNat ≠ (r.st.getD j st0).sec.toNat := by
 intro e
 have ai := all_at h.ok (i := i) (by omega)
 have aj := all_at h.ok hj
 obtain ⟨a1, _, _⟩ := ok_dir ai
 obtain ⟨b1, _, _⟩ := ok_dir aj
 have hd : dupAt r.st j = true := by
  unfold dupAt
  rw [List.any_eq_true]
  refine ⟨r.st.getD i st0, ?_, by simp only [decide_eq_true_eq]; omega⟩
  rw [List.getD_eq_getElem?_getD, List.getElem?_eq_getElem (show i < r.st.length by omega), Option.getD_some, List.mem_iff_getElem]
  exact ⟨i, by rw [List.length_take]; omega, by rw [List.getElem_take]⟩
 have := dup_yes hj hd
 rw [h.dup] at this
 cases this
section
variable {L : Lay} {st : List Stp} {ov : Int} (h : RteOk L ⟨st, ov⟩) (F T P : Nat → Int)
include h
end
theorem fit_of {L : Lay} {r : Rte} {l sp ac br : Int} (h : fitErr L r l sp ac br = 0) : celErr L r = 0 ∧ chkB l sp ac br = true ∧ (trv r).any (tight L l) = false := by
 have hc : celErr L r = 0 := by
  unfold fitErr at h
  split at h
  ·exact h
  ·rename_i h2; simpa using h2
 unfold fitErr at h
 rw [if_neg (by simpa using hc)] at h
 by_cases hk : chkB l sp ac br = false
 ·rw [if_pos hk] at h; cases h
 rw [if_neg hk] at h
 by_cases ht : (trv r).any (tight L l) = true
 ·rw [if_pos ht] at h; cases h
 exact ⟨hc, by simpa using hk, by simpa using ht⟩
theorem celL_app (L : Lay) (a b : List Stp) : celL L (a ++ b) = celL L a ++ celL L b := by unfold celL; rw [List.flatMap_append]
theorem part_get (st : List Stp) {a n i : Nat} (h : i < n) : ((st.drop a).take n).getD i st0 = st.getD (a + i) st0 := by
 rw [List.getD_eq_getElem?_getD, List.getElem?_take_of_lt h, List.getElem?_drop, ← List.getD_eq_getElem?_getD]
theorem any_of_not {l : List Stp} {p : Stp → Bool} (h : l.any p = false) {i : Nat} (hi : i < l.length) : p (l.getD i st0) = false := by
 cases e : p (l.getD i st0) with
 | false => rfl
 | true => rw [any_at hi e] at h; cases h
theorem run_pos {L : Lay} {r : Rte} {l sp ac br : Int} (h : Ride L r l sp ac br) : 0 < runI L r l sp ac br := by
 have hn := h.n2
 have a := endA_lt h (i := 0) (j := (trv r).length - 1) (by omega) (by omega)
 have b := ride_lt h (i := 0) (j := endA L (trv r) ((trv r).length - 1)) (by simp only [endA] at a; exact a) (Nat.le_refl _)
 have e : rideT L r l sp ac br 0 = 0 := rfl
 have c := Pl.cdiv_bracket (rideT L r l sp ac br (endA L (trv r) ((trv r).length - 1))) 1000 (by omega)
 unfold runI
 omega
theorem part_fit2 {L : Lay} {st : List Stp} {ov l sp ac br : Int} (h : fitErr L ⟨st, ov⟩ l sp ac br = 0) {a m : Nat} {o : Int} (h0 : 0 ≤ o) (ho : o ≤ 2) (hm : o + 2 ≤ m) (hb : a + m ≤ st.length) (hc : ((a + m : Nat) : Int) - o ≤ st.length - ov) : fitErr L ⟨(st.drop a).take m, o⟩ l sp ac br = 0 := by
 obtain ⟨h1, h2, h3⟩ := fit_of h
 have hr := rte_of (cel_rte h1)
 have g1 := hr.ov0
 have g2 := hr.two
 have g3 := hr.len
 simp only at g1 g2 g3
 have htl := trv_len hr
 simp only at htl
 have hpl : ((st.drop a).take m).length = m := by rw [List.length_take, List.length_drop]; omega
 have hpg : ∀ i, i < m → ((st.drop a).take m).getD i st0 = st.getD (a + i) st0 := fun i hi => part_get st hi
 have htg : ∀ i : Nat, (i : Int) < st.length - ov → (trv ⟨st, ov⟩).getD i st0 = st.getD i st0 := fun i hi => trv_at hr hi
 have hR : rteErr L ⟨(st.drop a).take m, o⟩ = 0 := by
  refine rte_0 hr.lay ?_ ?_ ?_ ?_ ?_
  ·simp only [hpl]; omega
  ·simp only [hpl]; omega
  ·refine all_yes fun j hj => ?_
   simp only [hpl] at hj ⊢
   rw [hpg j hj]
   exact all_at hr.ok (by simp only; omega)
  ·refine dup_no fun j hj => ?_
   simp only [hpl] at hj ⊢
   cases e : dupAt ((st.drop a).take m) j with
   | false => rfl
   | true =>
    exfalso
    unfold dupAt at e
    obtain ⟨x, hx, e2⟩ := List.any_eq_true.1 e
    obtain ⟨i, hi, rfl⟩ := List.mem_iff_getElem.1 hx
    rw [List.length_take, hpl] at hi
    have hi2 : i < j := by omega
    have e3 : ((List.take m (st.drop a)).take j)[i] = st.getD (a + i) st0 := by
     rw [← hpg i (by omega), List.getElem_take, List.getD_eq_getElem?_getD, List.getElem?_eq_getElem (by omega)]
     rfl
    rw [decide_eq_true_eq] at e2
    rw [e3, hpg j hj] at e2
    exact step_ne hr (i := a + i) (j := a + j) (by omega) (by simp only; omega) (by simp only; rw [e2])
  ·refine link_yes fun j hj => ?_
   simp only [hpl] at hj ⊢
   unfold linkAt
   rw [hpg j (by omega), hpg (j + 1) hj]
   have := List.all_eq_true.1 hr.link (a + j) (List.mem_range.2 (by simp only; omega))
   exact this
 have htr : trv ⟨(st.drop a).take m, o⟩ = ((trv ⟨st, ov⟩).drop a).take (m - o.toNat) := by
  unfold trv
  simp only [hpl]
  rw [List.take_take, List.drop_take, List.take_take]
  congr 1
  omega
 have hC : celErr L ⟨(st.drop a).take m, o⟩ = 0 := by
  refine celErr_0 hR ?_
  rw [htr]
  have h4 : ¬ 4000 < (celL L (trv ⟨st, ov⟩)).length := by
   intro h5
   rw [celErr_7 (cel_rte h1) h5] at h1
   cases h1
  have e1 := congrArg (fun x => (celL L x).length) (List.take_append_drop a (trv ⟨st, ov⟩))
  have e2 := congrArg (fun x => (celL L x).length) (List.take_append_drop (m - o.toNat) ((trv ⟨st, ov⟩).drop a))
  simp only [celL_app, List.length_append] at e1 e2
  omega
 refine fit_0 hC h2 (any_not fun j hj => ?_)
 rw [htr] at hj ⊢
 rw [List.length_take, List.length_drop] at hj
 rw [part_get _ (by omega)]
 exact any_of_not h3 (by omega)
theorem linksErr_at (n p : Nat) : ∀ (r : List Lnk) (prev : List Lnk), linksErr n p prev r = 0 → ∀ i, (h : i < r.length) → linkErr n p (prev ++ r.take i) r[i] = 0
 | [], _, _, i, h => by simp at h
 | x :: r, prev, hz, i, h => by
  simp only [linksErr] at hz
  by_cases hx : linkErr n p prev x = 0
  ·rw [if_pos hx] at hz
   cases i with
   | zero => simpa using hx
   | succ i =>
    have := linksErr_at n p r (prev ++ [x]) hz i (by simpa using h)
    simpa [List.append_assoc] using this
  ·rw [if_neg hx] at hz; exact absurd hz hx
theorem link_once {L : Lay} (hv : layErr L = 0) {i j : Nat} (hij : i < j) (hj : j < L.lnks.length) {s t : Stp} (h1 : trK s t (L.lnks.getD i lnk0) = true) (h2 : trK s t (L.lnks.getD j lnk0) = true) : False := by
 have hl : linksErr L.secs.length L.pts.length [] L.lnks = 0 := by
  unfold layErr at hv
  split at hv
  ·cases hv
  ·split at hv
   ·cases hv
   ·exact (orErr_zero (orErr_zero (orErr_zero hv).2).2).2
 have hx := linksErr_at _ _ L.lnks [] hl j hj
 rw [List.nil_append] at hx
 have ei : L.lnks.getD i lnk0 = L.lnks[i] := by rw [List.getD_eq_getElem?_getD, List.getElem?_eq_getElem (by omega)]; rfl
 have ej : L.lnks.getD j lnk0 = L.lnks[j] := by rw [List.getD_eq_getElem?_getD, List.getElem?_eq_getElem hj]; rfl
 rw [ei] at h1
 rw [ej] at h2
 unfold linkErr at hx
 split at hx
 ·cases hx
 ·split at hx
  ·cases hx
  ·split at hx
   ·cases hx
   ·rename_i hno
    apply hno
    refine List.any_eq_true.2 ⟨L.lnks[i], List.mem_iff_getElem.2 ⟨i, by rw [List.length_take]; omega, List.getElem_take ..⟩, ?_⟩
    unfold trK at h1 h2
    unfold hasE
    rw [Bool.or_eq_true, decide_eq_true_eq, decide_eq_true_eq] at h1 h2
    rw [Bool.and_eq_true, decide_eq_true_eq, decide_eq_true_eq]
    rcases h1 with ⟨⟨a1, a2⟩, a3, a4⟩ | ⟨⟨a1, a2⟩, a3, a4⟩ <;> rcases h2 with ⟨⟨b1, b2⟩, b3, b4⟩ | ⟨⟨b1, b2⟩, b3, b4⟩
    ·exact ⟨.inl ⟨a1.trans b1.symm, a2.trans b2.symm⟩, .inr ⟨a3.trans b3.symm, a4.trans b4.symm⟩⟩
    ·exact ⟨.inr ⟨a3.trans b1.symm, a4.trans b2.symm⟩, .inl ⟨a1.trans b3.symm, a2.trans b4.symm⟩⟩
    ·exact ⟨.inr ⟨a3.trans b1.symm, a4.trans b2.symm⟩, .inl ⟨a1.trans b3.symm, a2.trans b4.symm⟩⟩
    ·exact ⟨.inl ⟨a1.trans b1.symm, a2.trans b2.symm⟩, .inr ⟨a3.trans b3.symm, a4.trans b4.symm⟩⟩
def ptI (L : Lay) (st : List Stp) (i : Nat) : Int := if i = 0 then -1 else ((joinL L (st.getD (i - 1) st0) (st.getD i st0)).map Hop.pt).getD (-1)
def lastP (s t : Stp) (l : List Lnk) : Int := l.foldl (fun v k => if trK s t k = true then k.pt else v) (-1)
theorem lastP_snoc (s t : Stp) (l : List Lnk) (k : Lnk) : lastP s t (l ++ [k]) = if trK s t k = true then k.pt else lastP s t l := by unfold lastP; rw [List.foldl_append]; rfl
theorem lastP_no {s t : Stp} : ∀ {l : List Lnk} {v : Int}, (∀ k ∈ l, trK s t k = false) → l.foldl (fun v k => if trK s t k = true then k.pt else v) v = v
 | [], v, _ => rfl
 | k :: l, v, h => by
  rw [List.foldl_cons, if_neg (by rw [h k (List.mem_cons_self ..)]; decide)]
  exact lastP_no fun x hx => h x (List.mem_cons_of_mem _ hx)
theorem lastP_eq {s t : Stp} : ∀ {l : List Lnk} {v : Int}, (∀ i j, i < j → j < l.length → trK s t (l.getD i lnk0) = true → trK s t (l.getD j lnk0) = true → False) → l.foldl (fun v k => if trK s t k = true then k.pt else v) v = ((l.find? (trK s t)).map Lnk.pt).getD v
 | [], v, _ => rfl
 | k :: l, v, h => by
  rw [List.foldl_cons, List.find?_cons]
  cases e : trK s t k with
  | true =>
   rw [if_pos rfl]
   show _ = k.pt
   refine lastP_no fun x hx => ?_
   obtain ⟨i, hi, rfl⟩ := List.mem_iff_getElem.1 hx
   cases e2 : trK s t l[i] with
   | false => rfl
   | true =>
    exfalso
    refine h 0 (i + 1) (by omega) (by simpa using hi) e ?_
    rw [List.getD_cons_succ, List.getD_eq_getElem?_getD, List.getElem?_eq_getElem hi]
    exact e2
  | false =>
   rw [if_neg (by decide)]
   exact lastP_eq fun i j hij hj h1 h2 => h (i + 1) (j + 1) (by omega) (by simpa using hj) h1 h2
theorem lastP_pt {L : Lay} (hv : layErr L = 0) {s t : Stp} (hs : s.dir = 0 ∨ s.dir = 1) (ht : t.dir = 0 ∨ t.dir = 1) : lastP s t L.lnks = ((joinL L s t).map Hop.pt).getD (-1) := by
 have h1 := lastP_eq (s := s) (t := t) (l := L.lnks) (v := -1) fun i j hij hj h1 h2 => link_once hv hij hj h1 h2
 have h2 := trans_join hv hs ht
 unfold transL at h2
 unfold lastP
 rw [h1, h2]
def dupP (L : Lay) (st : List Stp) : Bool := (List.range st.length).any fun i => decide (0 ≤ ptI L st i) && (List.range i).any fun j => decide (ptI L st j = ptI L st i)
def motErr (L : Lay) (r : Rte) (l sp ac br : Int) : Int := if fitErr L r l sp ac br ≠ 0 then fitErr L r l sp ac br else if dupP L r.st = true then 13 else 0
def partR (st : List Stp) (ov : Int) (a b : Nat) : Rte := if (b : Int) = st.length - ov - 1 then ⟨st.drop a, ov⟩ else ⟨(st.drop a).take (b + 1 - a), 0⟩
theorem partR_fit {L : Lay} {st : List Stp} {ov l sp ac br : Int} (h : fitErr L ⟨st, ov⟩ l sp ac br = 0) {a b : Nat} (hab : a < b) (hb : (b : Int) ≤ st.length - ov - 1) : fitErr L (partR st ov a b) l sp ac br = 0 := by
 have hr := rte_of (cel_rte (fit_of h).1)
 have g1 := hr.ov0
 have g2 := hr.ov
 simp only at g1 g2
 unfold partR
 split
 ·rename_i e
  have := part_fit2 h (a := a) (m := st.length - a) (o := ov) g1 g2 (by omega) (by omega) (by omega)
  rwa [List.take_of_length_le (by rw [List.length_drop]; omega)] at this
 ·exact part_fit2 h (a := a) (m := b + 1 - a) (o := 0) (by omega) (by omega) (by omega) (by omega) (by omega)
theorem partR_len {L : Lay} {st : List Stp} {ov l sp ac br : Int} (h : fitErr L ⟨st, ov⟩ l sp ac br = 0) {a b : Nat} (hab : a < b) (hb : (b : Int) ≤ st.length - ov - 1) : (trv (partR st ov a b)).length = b - a + 1 := by
 have hr := rte_of (cel_rte (fit_of h).1)
 have g1 := hr.ov0
 simp only at g1
 unfold partR
 split
 ·rename_i e
  unfold trv
  simp only [List.length_take, List.length_drop]
  omega
 ·unfold trv
  simp only [List.length_take, List.length_drop]
  omega
section
variable (L : Lay) (r : Rte) (l sp ac br : Int)
def needF (k : Nat) : Int := entF L r l sp ac br k / 1000 - 16
def passF (k : Nat) : Int := entF L r l sp ac br (k + 1) / 1000
def clrF (k : Nat) : Int := (levF L r l sp ac br k + 999) / 1000 + 4
def ovlF (n : Nat) : Int := if 0 < r.ov then entF L r l sp ac br n / 1000 - 16 else 0
end
theorem prof_rng {L : Lay} {r : Rte} {l sp ac br : Int} (h : Ride L r l sp ac br) {k : Nat} (hk : k < (trv r).length) : 0 ≤ entF L r l sp ac br k ∧ entF L r l sp ac br k ≤ 80000000 ∧ 0 ≤ levF L r l sp ac br k ∧ levF L r l sp ac br k ≤ 80000000 := by
 have a := h.rng _ (endA_mono L (trv r) (show k - 1 ≤ (trv r).length - 1 by omega))
 have b := h.rng _ (lev_in h hk).2
 exact ⟨a.1, a.2, b.1, b.2⟩
theorem run_rng {L : Lay} {r : Rte} {l sp ac br : Int} (h : Ride L r l sp ac br) : 0 < runI L r l sp ac br ∧ runI L r l sp ac br ≤ 80001 := by
 have a := h.rng _ (Nat.le_refl _)
 obtain ⟨b1, b2⟩ := Pl.cdiv_bracket (rideT L r l sp ac br (endA L (trv r) ((trv r).length - 1))) 1000 (by omega)
 refine ⟨run_pos h, ?_⟩
 unfold runI
 omega
section
variable (g : Nat → Int) (m : Nat) (N : Nat → Nat → Int) (R : Nat → Nat → Int) (O : Nat → Int) (ov late : Int)
def refI (a : Nat) (d : Int) : Nat → Nat → Nat
 | 0, _ => 0
 | f + 1, i => if m < i then 0 else if d + N a (i - a - 1) < g i then i else refI a d f (i + 1)
def legD (a : Nat) (x : Int) : Int := max x (g (a + 1) + 16)
def legR (a : Nat) (x : Int) : Nat := refI g m N a (legD g a x) (m + 1) (a + 2)
def legB (a : Nat) (x : Int) : Nat := if 0 < legR g m N a x then legR g m N a x - 1 else m
def legS (a : Nat) (x : Int) : Int := if 0 < legR g m N a x then legD g a x + R a (legR g m N a x - 1) else if 0 < ov ∧ legD g a x + O a < late then legD g a x + R a m + 30 else legD g a x + R a m
def wlk : Nat → Nat → Int → List Leg
 | 0, _, _ => []
 | f + 1, a, x => if a < m then ⟨a, legB g m N a x, legD g a x, legS g m N R O ov late a x⟩ :: wlk f (legB g m N a x) (legS g m N R O ov late a x) else []
theorem refI_of (a : Nat) (d : Int) : ∀ f i, i + f = m + 1 → (refI g m N a d f i = 0 ∧ ∀ j, i ≤ j → j ≤ m → ¬ d + N a (j - a - 1) < g j) ∨ (i ≤ refI g m N a d f i ∧ refI g m N a d f i ≤ m ∧ d + N a (refI g m N a d f i - a - 1) < g (refI g m N a d f i) ∧ ∀ j, i ≤ j → j < refI g m N a d f i → ¬ d + N a (j - a - 1) < g j)
 | 0, i, h => .inl ⟨rfl, fun j h1 h2 => by omega⟩
 | f + 1, i, h => by
  unfold refI
  rw [if_neg (by omega)]
  by_cases hc : d + N a (i - a - 1) < g i
  ·rw [if_pos hc]
   exact .inr ⟨Nat.le_refl _, by omega, hc, fun j h1 h2 => by omega⟩
  ·rw [if_neg hc]
   rcases refI_of a d f (i + 1) (by omega) with ⟨h1, h2⟩ | ⟨h1, h2, h3, h4⟩
   ·refine .inl ⟨h1, fun j hj1 hj2 => ?_⟩
    rcases Nat.eq_or_lt_of_le hj1 with e | e
    ·exact e ▸ hc
    ·exact h2 j e hj2
   ·refine .inr ⟨by omega, h2, h3, fun j hj1 hj2 => ?_⟩
    rcases Nat.eq_or_lt_of_le hj1 with e | e
    ·exact e ▸ hc
    ·exact h4 j e hj2
theorem refI_f (a : Nat) (d : Int) : ∀ f f' i, m + 1 ≤ i + f → m + 1 ≤ i + f' → refI g m N a d f i = refI g m N a d f' i
 | 0, 0, i, _, _ => rfl
 | 0, f' + 1, i, h1, h2 => by unfold refI; rw [if_pos (by omega)]
 | f + 1, 0, i, h1, h2 => by unfold refI; rw [if_pos (by omega)]
 | f + 1, f' + 1, i, h1, h2 => by
  unfold refI
  rw [refI_f a d f f' (i + 1) (by omega) (by omega)]
theorem legB_rng {a : Nat} (x : Int) (h : a < m) : a < legB g m N a x ∧ legB g m N a x ≤ m := by
 unfold legB legR
 rcases Nat.lt_or_ge m (a + 2) with h1 | h1
 ·have : refI g m N a (legD g a x) (m + 1) (a + 2) = 0 := by unfold refI; rw [if_pos (by omega)]
  rw [this, if_neg (by omega)]
  omega
 ·have e := refI_f g m N a (legD g a x) (m + 1) (m + 1 - (a + 2)) (a + 2) (by omega) (by omega)
  rcases refI_of g m N a (legD g a x) (m + 1 - (a + 2)) (a + 2) (by omega) with ⟨h2, _⟩ | ⟨h2, h3, _⟩
  ·rw [e, h2, if_neg (by omega)]; omega
  ·rw [e, if_pos (by omega)]; omega
end
def rowT {α : Type} (n : Nat) (f : Nat → α) : List α := (List.range n).map f
theorem rowT_len {α : Type} (n : Nat) (f : Nat → α) : (rowT n f).length = n := by simp [rowT]
theorem rowT_get {α : Type} {n : Nat} {f : Nat → α} {i : Nat} {d : α} (h : i < n) : (rowT n f).getD i d = f i := by simp [rowT, List.getD_eq_getElem?_getD, h]
theorem rowT_set {α : Type} {n : Nat} {f g : Nat → α} {i : Nat} {x : α} (hx : g i = x) (h : ∀ j, j < n → j ≠ i → g j = f j) : (rowT n f).set i x = rowT n g := by
 apply List.ext_getElem
 ·simp [rowT]
 ·intro j h1 h2
  have hj : j < n := by simpa [rowT] using h2
  rw [List.getElem_set]
  split
  ·rename_i e; subst e; simp [rowT, hx]
  ·rename_i e; simp only [rowT, List.getElem_map, List.getElem_range]; exact (h j hj (fun e' => e e'.symm)).symm
theorem rowT_ext {α : Type} {n : Nat} {f g : Nat → α} (h : ∀ j, j < n → f j = g j) : rowT n f = rowT n g := by
 unfold rowT
 exact List.map_congr_left fun j hj => h j (List.mem_range.1 hj)
theorem rowT_rep {α : Type} (n : Nat) (d : α) : List.replicate n d = rowT n fun _ => d := by
 apply List.ext_getElem
 ·simp [rowT]
 ·intro j h1 h2; simp [rowT]
def seenP (L : Lay) (st : List Stp) (i : Nat) (p : Nat) : Bool := (List.range i).any fun j => decide (ptI L st j = (p : Int))
def dupPA (L : Lay) (st : List Stp) (i : Nat) : Bool := decide (0 ≤ ptI L st i) && (List.range i).any fun j => decide (ptI L st j = ptI L st i)
theorem dupP_yes {L : Lay} {st : List Stp} {i : Nat} (hi : i < st.length) (h : dupPA L st i = true) : dupP L st = true := List.any_eq_true.2 ⟨i, List.mem_range.2 hi, h⟩
theorem dupP_no {L : Lay} {st : List Stp} (h : ∀ i, i < st.length → dupPA L st i = false) : dupP L st = false := by
 unfold dupP
 rw [List.any_eq_false]
 intro i hi
 have := h i (List.mem_range.1 hi)
 unfold dupPA at this
 rw [this]
 exact Bool.false_ne_true
theorem seenP_succ (L : Lay) (st : List Stp) (i p : Nat) : seenP L st (i + 1) p = (seenP L st i p || decide (ptI L st i = (p : Int))) := by
 unfold seenP
 rw [List.range_succ, List.any_append, List.any_cons, List.any_nil, Bool.or_false]
theorem seenP_dup {L : Lay} {st : List Stp} {i : Nat} (h0 : 0 ≤ ptI L st i) : dupPA L st i = seenP L st i (ptI L st i).toNat := by
 unfold dupPA seenP
 rw [decide_eq_true h0, Bool.true_and, Int.toNat_of_nonneg h0]
theorem ptI_rng {L : Lay} {r : Rte} (h : RteOk L r) {i : Nat} (hi : i < r.st.length) : -1 ≤ ptI L r.st i ∧ ptI L r.st i < L.pts.length := by
 unfold ptI
 split
 ·omega
 ·obtain ⟨k, h1, h2, h3⟩ := join_at h (i := i) (by omega) hi
  rw [h1]
  exact ⟨h2, h3⟩
theorem lnk_snoc {l : List Lnk} {i : Nat} (hi : i < l.length) : l.take (i + 1) = l.take i ++ [l.getD i lnk0] := by rw [List.take_succ_eq_append_getElem hi, List.getD_eq_getElem?_getD, List.getElem?_eq_getElem hi]; rfl
theorem mLeave_ok (s : Stp) : OkV Tryz.prog 62 [vSt s] [] (vI (lvE s.dir)) [] := by
 unfold lvE
 refine X_fn mixedX Tryz.func62 rfl (by kernel_rfl) (Nat.le_of_ble_eq_true (by kernel_rfl)) (by kernel_rfl) rfl rfl (Nat.le_of_ble_eq_true rfl) rfl rfl ?_
 simp only [sl0, Nat.zero_add, Nat.reduceAdd]
 repeat' (first|with_reducible (first|refine q_and ?_ ?_|exact True.intro|exact TkEq.nil _|refine Red.o (by constructor) ?_|fail)|with_reducible (refine W_seq ?_)|((with_reducible apply q_cond);refine X_cond rfl ?_ ?_;all_goals (intro hbq;(try simp only [bq] at hbq);(try (exfalso;omega))))|refine Rex.o (by (with_reducible constructor);apply Eq.refl) ?_|fail)
 ·rw [if_pos hbq]
  repeat' (first|with_reducible (first|refine Wk.o (by constructor) ?_|exact True.intro)|refine VEq.c ?_)
 ·rw [if_neg hbq]
  repeat' (first|with_reducible (first|refine Wk.o (by constructor) ?_|exact True.intro)|refine VEq.c ?_)
theorem mEnter_ok (s : Stp) (h : s.dir = 0 ∨ s.dir = 1) : OkV Tryz.prog 63 [vSt s] [] (vI (lvE (revD s.dir))) [] := by
 unfold lvE revD
 refine X_fn mixedX Tryz.func63 rfl (by kernel_rfl) (Nat.le_of_ble_eq_true (by kernel_rfl)) (by kernel_rfl) rfl rfl (Nat.le_of_ble_eq_true rfl) rfl rfl ?_
 simp only [sl0, Nat.zero_add, Nat.reduceAdd]
 repeat' (first|with_reducible (first|refine q_and ?_ ?_|exact True.intro|exact TkEq.nil _|refine Red.o (by constructor) ?_|fail)|with_reducible (refine W_seq ?_)|((with_reducible apply q_cond);refine X_cond rfl ?_ ?_;all_goals (intro hbq;(try simp only [bq] at hbq);(try (exfalso;omega))))|refine Rex.o (by (with_reducible constructor);apply Eq.refl) ?_|fail)
 ·rw [if_pos hbq]
  repeat' (first|with_reducible (first|refine Wk.o (by constructor) ?_|fail)|refine VEq.c ?_|rfl)
 ·rw [if_neg hbq]
  repeat' (first|with_reducible (first|refine Wk.o (by constructor) ?_|fail)|refine VEq.c ?_|rfl)
theorem mPoints_ok (L : Lay) (hL : LayFits L) (st : List Stp) (ov : Int) (hR : RteOk L ⟨st, ov⟩) : OkV Tryz.prog 42 [vLay L, vR2 st ov] [] (.c (rInt (row st.length (ptI L st)))) [] := by
 have hV := valid_of hR.lay
 have hn := hR.len
 simp only at hn
 have hn4 := hV.n4
 have hdir : ∀ i, i < st.length → (st.getD i st0).dir = 0 ∨ (st.getD i st0).dir = 1 := fun i hi => (ok_dir (all_at hR.ok hi)).2.2
 have hpt : ∀ i, 0 < i → i < st.length → lastP (st.getD (i - 1) st0) (st.getD i st0) L.lnks = ptI L st i := fun i h0 hi => by
  rw [lastP_pt hR.lay (hdir _ (by omega)) (hdir _ hi)]
  unfold ptI
  rw [if_neg (by omega)]
 unfold vLay
 refine X_fnP mixedX Tryz.func42 rfl (by kernel_rfl) (Nat.le_of_ble_eq_true (by kernel_rfl)) (by kernel_rfl) rfl rfl ?_
 simp only [sl0, Nat.zero_add, Nat.reduceAdd]
 repeat' (first|with_reducible (first|refine q_and ?_ ?_|exact True.intro|refine Red.o (by constructor) ?_|fail)|with_reducible (first|refine W_seq ?_|refine W_block ?_)|refine Rex.o (by (with_reducible constructor);apply Eq.refl) ?_|omega|(dsimp only;omega))
 refine W_loopS (fun i : Nat => SS [sC 2 (pB 0), sC 3 (pB 1), sC 5 (.c (.arr 2 0 st.length st.length)), sI 18 st.length, sI 19 i] [bLay L, bRte st ov, bInt (row st.length fun j => if j < i then ptI L st j else 0)]) (fun i => i ≤ st.length) (fun i => st.length - i) 0 ?_ (by omega) ?_
 ·
  refine X_weak rfl rfl rfl ?_ ?_ <;> repeat' (first|with_reducible (first|refine Wk.o (by constructor) ?_|refine q_and ?_ ?_|exact True.intro)|refine q_AgS rfl ?_ ?_|exact (rfl : known _ = _)|omega)
  all_goals first
   | rfl
   | (rw [Int.toNat_natCast, row_zero]; rfl)
 intro i hi
 have hrl := row_len st.length fun j => if j < i then ptI L st j else 0
 by_cases hil : i < st.length
 ·by_cases hi0 : i = 0
  ·
   repeat' (first|with_reducible (first|refine q_and ?_ ?_|exact True.intro|refine Red.o (by constructor) ?_|assumption)|with_reducible (first|refine W_seq ?_|refine W_block ?_)|((with_reducible apply q_cond);refine X_cond rfl ?_ ?_;all_goals (intro hbq;(try simp only [bq] at hbq);(try (exfalso;omega))))|refine Rex.o (by (with_reducible constructor);apply Eq.refl) ?_|((with_reducible apply q_VOk);exact fun _ => ⟨rfl,rfl⟩)|omega)
   ·rfl
   ·
    refine LoopK_n (i + 1) ?_ ((by omega)) (by (try dsimp only); omega)
    refine X_weak rfl rfl rfl ?_ ?_ <;> repeat' (first|with_reducible (first|refine Wk.o (by constructor) ?_|refine q_and ?_ ?_|exact True.intro)|refine q_AgS rfl ?_ ?_|exact (rfl : known _ = _)|omega)
    all_goals (
     rw [Int.toNat_natCast]
     refine row_set (i := i) ?_ fun j hj hne => ?_
     ·rw [if_pos (by omega), hi0]; rfl
     ·by_cases h1 : j < i
      ·rw [if_pos h1, if_pos (by omega)]
      ·rw [if_neg h1, if_neg (by omega)])
  ·
   have e0 : (row st.length fun j => if j < i then ptI L st j else 0).set (i : Int).toNat (-1) = row st.length fun j => if j < i then ptI L st j else if j = i then lastP (st.getD (i - 1) st0) (st.getD i st0) (L.lnks.take 0) else 0 := by
    rw [Int.toNat_natCast]
    refine row_set (i := i) ?_ fun j hj hne => ?_
    ·rw [if_neg (by omega), if_pos rfl]; rfl
    ·by_cases h1 : j < i
     ·rw [if_pos h1, if_pos h1]
     ·rw [if_neg h1, if_neg h1, if_neg hne]
   have e1 : ((i : Int) - 1).toNat = i - 1 := by omega
   have hpi := hpt i (by omega) hil
   have d1 := hdir (i - 1) (by omega)
   have d2 := hdir i hil
   clear hpt hdir
   repeat' (first|with_reducible (first|refine q_and ?_ ?_|exact True.intro|refine Red.o (by constructor) ?_|assumption)|((with_reducible apply q_W);refine W_two [0, 1, 2, 3, 4, 5, 6, 7, 8, 9, 10] 11 12 [13, 14] 3 (by kernel_rfl) rfl rfl rfl rfl ?_)|((with_reducible apply q_TB);kernel_rfl)|((with_reducible apply q_LB);exact LB_SS rfl)|((with_reducible apply q_RK);refine RK_SS rfl ?_)|with_reducible (first|refine W_seq ?_|refine W_block ?_)|((with_reducible apply q_cond);refine X_cond rfl ?_ ?_;all_goals (intro hbq;(try simp only [bq] at hbq);(try (exfalso;omega))))|refine Rex.o (by (with_reducible constructor);apply Eq.refl) ?_|((with_reducible apply q_VOk);exact fun _ => ⟨rfl,rfl⟩)|omega)
   ·rfl
   all_goals (
    rw [e0, e1, Int.toNat_natCast]
    generalize hA : st.getD (i - 1) st0 = a at *
    generalize hB : st.getD i st0 = b at *
    have hl1 := mLeave_ok a
    have hl2 := mEnter_ok b d2
    refine W_loopS (fun k : Nat => SS [sC 2 (pB 0), sC 3 (pB 1), sC 5 (.c (.arr 2 0 st.length st.length)), sI 6 i, sC 7 (pB 3), sC 8 (pB 4), sI 18 st.length, sI 19 i, sC 39 (rLnk L.lnks), sI 40 L.lnks.length, sI 41 k] [bLay L, bRte st ov, bInt (row st.length fun j => if j < i then ptI L st j else if j = i then lastP a b (L.lnks.take k) else 0), some (.cells [xI a.sec, xI a.dir]), some (.cells [xI b.sec, xI b.dir])]) (fun k => k ≤ L.lnks.length) (fun k => L.lnks.length - k) 0 ?_ (by omega) ?_
    ·
     refine X_weak rfl rfl rfl ?_ ?_ <;> repeat' (first|with_reducible (first|refine Wk.o (by constructor) ?_|refine q_and ?_ ?_|exact True.intro)|refine q_AgS rfl ?_ ?_|exact (rfl : known _ = _)|with_reducible rfl|omega)
    intro k hk
    have hrl2 := row_len st.length fun j => if j < i then ptI L st j else if j = i then lastP a b (L.lnks.take k) else 0
    by_cases hkl : k < L.lnks.length
    ·have e2 : L.lnks.take (k + 1) = L.lnks.take k ++ [L.lnks.getD k lnk0] := lnk_snoc hkl
     repeat' (first|with_reducible (first|refine q_and ?_ ?_|exact True.intro|refine Red.o (by constructor) ?_|assumption)|((with_reducible apply q_callG);refine X_pureG ((fun _ => hl1)) rfl ?_ ?_)|((with_reducible apply q_callG);refine X_pureG ((fun _ => hl2)) rfl ?_ ?_)|with_reducible (first|refine W_seq ?_|refine W_block ?_)|((with_reducible apply q_cond);refine X_cond rfl ?_ ?_;all_goals (intro hbq;(try simp only [bq] at hbq);(try (exfalso;omega))))|refine Rex.o (by (with_reducible constructor);apply Eq.refl) ?_|(intro (hgq : (_ : Bool) = true);(try simp only [bq] at hgq))|(intro (hgq : (_ : Bool) = false);(try simp only [bq] at hgq))|((with_reducible apply q_VOk);exact fun _ => ⟨rfl,rfl⟩)|((with_reducible apply q_CRB);kernel_rfl)|((with_reducible apply q_bt);simp only [bq])|(simp only [hgq,bq];done)|omega)
     ·rfl
     ·have ht : trK a b (L.lnks.getD k lnk0) = true := by
       simp only [Int.toNat_natCast] at hbq
       unfold trK
       simp only [Bool.or_eq_true, decide_eq_true_eq]
       omega
      refine LoopK_n (k + 1) ?_ ((by omega)) (by (try dsimp only); omega)
      refine X_weak rfl rfl rfl ?_ ?_ <;> repeat' (first|with_reducible (first|refine Wk.o (by constructor) ?_|refine q_and ?_ ?_|exact True.intro)|refine q_AgS rfl ?_ ?_|exact (rfl : known _ = _)|omega)
      all_goals (
       simp only [Int.toNat_natCast]
       rw [e2]
       refine row_set (i := i) ?_ fun j hj hne => ?_
       ·rw [if_neg (by omega), if_pos rfl, lastP_snoc, if_pos ht]
       ·by_cases h1 : j < i
        ·rw [if_pos h1, if_pos h1]
        ·rw [if_neg h1, if_neg h1, if_neg hne, if_neg hne])
     ·have ht : ¬ trK a b (L.lnks.getD k lnk0) = true := by
       simp only [Int.toNat_natCast] at hbq
       unfold trK
       simp only [Bool.or_eq_true, decide_eq_true_eq]
       omega
      refine LoopK_n (k + 1) ?_ ((by omega)) (by (try dsimp only); omega)
      refine X_weak rfl rfl rfl ?_ ?_ <;> repeat' (first|with_reducible (first|refine Wk.o (by constructor) ?_|refine q_and ?_ ?_|exact True.intro)|refine q_AgS rfl ?_ ?_|exact (rfl : known _ = _)|omega)
      all_goals (rw [e2, lastP_snoc, if_neg ht])
    ·have hke : k = L.lnks.length := by omega
     subst hke
     rw [List.take_length] at *
     repeat' (first|with_reducible (first|refine q_and ?_ ?_|exact True.intro|refine Red.o (by constructor) ?_|fail)|with_reducible (refine W_seq ?_)|((with_reducible apply q_cond);refine X_cond rfl ?_ ?_;all_goals (intro hbq;(try simp only [bq] at hbq);(try (exfalso;omega))))|refine Rex.o (by (with_reducible constructor);apply Eq.refl) ?_|omega)
     ·
      refine LoopK_n (i + 1) ?_ ((by omega)) (by (try dsimp only); omega)
      refine X_weak rfl rfl rfl ?_ ?_ <;> repeat' (first|with_reducible (first|refine Wk.o (by constructor) ?_|refine q_and ?_ ?_|exact True.intro)|refine q_AgS rfl ?_ ?_|exact (rfl : known _ = _)|omega)
      all_goals (
       refine row_ext fun j hj => ?_
       by_cases h1 : j < i
       ·rw [if_pos h1, if_pos (by omega)]
       ·by_cases h2 : j = i
        ·rw [if_neg h1, if_pos h2, if_pos (by omega), h2, hpi]
        ·rw [if_neg h1, if_neg h2, if_neg (by omega)]))
 ·have hie : i = st.length := by omega
  subst hie
  have hr : (row st.length fun j => if j < st.length then ptI L st j else 0) = row st.length (ptI L st) := row_ext fun j hj => if_pos hj
  repeat' (first|with_reducible (first|refine q_and ?_ ?_|exact True.intro|refine Red.o (by constructor) ?_|assumption)|with_reducible (refine W_seq ?_)|((with_reducible apply q_cond);refine X_cond rfl ?_ ?_;all_goals (intro hbq;(try simp only [bq] at hbq);(try (exfalso;omega))))|refine Rex.o (by (with_reducible constructor);apply Eq.refl) ?_|(intro _;exact rfl)|((with_reducible apply q_eqN);rfl))
  rw [hr]
  rfl
theorem mLast_ok (st : List Stp) (ov : Int) (hl : st.length ≤ 9223372036854775807) (h0 : 0 ≤ ov ∧ ov ≤ st.length) : OkV Tryz.prog 29 [vR2 st ov] [] (vI (st.length - ov - 1)) [] := by
 refine X_fn mixedX Tryz.func29 rfl (by kernel_rfl) (Nat.le_of_ble_eq_true (by kernel_rfl)) (by kernel_rfl) rfl rfl (Nat.le_of_ble_eq_true rfl) rfl rfl ?_
 simp only [sl0, Nat.zero_add, Nat.reduceAdd]
 repeat' (first|with_reducible (first|refine q_and ?_ ?_|exact True.intro|exact TkEq.nil _|refine Red.o (by constructor) ?_|fail)|with_reducible (refine W_seq ?_)|refine Rex.o (by (with_reducible constructor);apply Eq.refl) ?_|omega)
 repeat' (first|with_reducible (first|refine Wk.o (by constructor) ?_|exact True.intro)|refine VEq.c ?_)
theorem rLast_ok (st : List Stp) (ov : Int) (hl : st.length ≤ 9223372036854775807) (h0 : 0 ≤ ov ∧ ov ≤ st.length) : OkV Tryz.prog 15 [vR2 st ov] [] (vI (st.length - ov - 1)) [] := by
 refine X_fn mixedX Tryz.func15 rfl (by kernel_rfl) (Nat.le_of_ble_eq_true (by kernel_rfl)) (by kernel_rfl) rfl rfl (Nat.le_of_ble_eq_true rfl) rfl rfl ?_
 simp only [sl0, Nat.zero_add, Nat.reduceAdd]
 repeat' (first|with_reducible (first|refine q_and ?_ ?_|exact True.intro|exact TkEq.nil _|refine Red.o (by constructor) ?_|fail)|with_reducible (refine W_seq ?_)|refine Rex.o (by (with_reducible constructor);apply Eq.refl) ?_|omega)
 repeat' (first|with_reducible (first|refine Wk.o (by constructor) ?_|exact True.intro)|refine VEq.c ?_)
theorem mFits_ok (L : Lay) (hL : LayFits L) (st : List Stp) (ov : Int) (hl : st.length ≤ 9223372036854775807) (ho : -9223372036854775808 ≤ ov ∧ ov ≤ 9223372036854775807) (nm : ByteArray) (l sp ac br : Int) : OkV Tryz.prog 25 [vLay L, vR2 st ov, vS5 nm l sp ac br] [] (vI (motErr L ⟨st, ov⟩ l sp ac br)) [] := by
 have hF := fits_ok L hL st ov hl ho nm l sp ac br
 unfold motErr
 by_cases h : fitErr L ⟨st, ov⟩ l sp ac br = 0
 ·have hR := rte_of (cel_rte (fit_of h).1)
  have hV := valid_of hR.lay
  have hn := hR.len
  have hn2 := hV.n2
  have hP := mPoints_ok L hL st ov hR
  have hpr : ∀ i, i < st.length → -1 ≤ ptI L st i ∧ ptI L st i < L.pts.length := fun i hi => ptI_rng hR hi
  simp only at hn
  rw [h] at hF
  rw [h, if_neg (by decide)]
  unfold vLay at hF hP ⊢
  have hpl := row_len st.length (ptI L st)
  refine X_fn mixedX Tryz.func25 rfl (by kernel_rfl) (Nat.le_of_ble_eq_true (by kernel_rfl)) (by kernel_rfl) rfl rfl (Nat.le_of_ble_eq_true rfl) rfl rfl ?_
  simp only [sl0, Nat.zero_add, Nat.reduceAdd]
  repeat' (first|with_reducible (first|refine q_and ?_ ?_|exact True.intro|refine Red.o (by constructor) ?_|fail)|((with_reducible apply q_call);first|refine X_pure (hF) rfl ?_|refine X_pure (hP) rfl ?_)|with_reducible (first|refine W_seq ?_|refine W_block ?_)|((with_reducible apply q_cond);refine X_cond rfl ?_ ?_;all_goals (intro hbq;(try simp only [bq] at hbq);(try (exfalso;omega))))|refine Rex.o (by (with_reducible constructor);apply Eq.refl) ?_|omega|(dsimp only;omega))
  clear hF hP
  refine W_loopS (fun i : Nat => SS [sC 8 (.c (.arr 3 0 L.pts.length L.pts.length)), sC 24 (rInt (row st.length (ptI L st))), sI 25 st.length, sI 26 i] [none, none, none, bBool (rowT L.pts.length (seenP L st i))]) (fun i => i ≤ st.length ∧ ∀ j, j < i → dupPA L st j = false) (fun i => st.length - i) 0 ?_ ⟨by omega, fun j hj => by omega⟩ ?_
  ·
   refine X_weak rfl rfl rfl ?_ ?_ <;> repeat' (first|with_reducible (first|refine Wk.o (by constructor) ?_|refine q_and ?_ ?_|exact True.intro)|refine q_AgS rfl ?_ ?_|exact (rfl : known _ = _)|omega)
   all_goals first
    | rfl
    | (rw [Int.toNat_natCast, rowT_rep]; rfl)
    | (rw [row_len])
  intro i hi
  obtain ⟨hi, hno⟩ := hi
  have hsl := rowT_len L.pts.length (seenP L st i)
  by_cases hil : i < st.length
  ·have hg : (row st.length (ptI L st)).getD (i : Int).toNat 0 = ptI L st i := row_get hil
   have hpi := hpr i hil
   by_cases h0 : 0 ≤ ptI L st i
   ·have hd := seenP_dup h0
    have hg2 : (rowT L.pts.length (seenP L st i)).getD ((row st.length (ptI L st)).getD (i : Int).toNat 0).toNat false = seenP L st i (ptI L st i).toNat := by rw [hg]; exact rowT_get (by omega)
    by_cases hs : seenP L st i (ptI L st i).toNat = true
    ·rw [hs] at hg2 hd
     rw [if_pos (dupP_yes hil hd)]
     repeat' (first|with_reducible (first|refine q_and ?_ ?_|exact True.intro|exact TkEq.nil _|refine Red.o (by constructor) ?_|fail)|((with_reducible apply q_cond);refine X_cond rfl ?_ ?_;all_goals (intro hbq;(try simp only [bq,and_true,true_and,and_false,false_and,or_true,true_or,or_false,false_or,not_true_eq_false,not_false_eq_true,Bool.true_eq_false,Bool.false_eq_true,hg2] at hbq);(try (exfalso;omega))))|with_reducible (first|refine W_seq ?_|refine W_block ?_)|refine Rex.o (by (with_reducible constructor);apply Eq.refl) ?_|((with_reducible apply q_VOk);exact fun _ => ⟨rfl,rfl⟩)|omega)
     ·rfl
    ·have hs : seenP L st i (ptI L st i).toNat = false := by simpa using hs
     rw [hs] at hg2 hd
     repeat' (first|with_reducible (first|refine q_and ?_ ?_|exact True.intro|refine Red.o (by constructor) ?_|fail)|((with_reducible apply q_cond);refine X_cond rfl ?_ ?_;all_goals (intro hbq;(try simp only [bq,and_true,true_and,and_false,false_and,or_true,true_or,or_false,false_or,not_true_eq_false,not_false_eq_true,Bool.true_eq_false,Bool.false_eq_true,hg2] at hbq);(try (exfalso;omega))))|with_reducible (first|refine W_seq ?_|refine W_block ?_)|refine Rex.o (by (with_reducible constructor);apply Eq.refl) ?_|((with_reducible apply q_VOk);exact fun _ => ⟨rfl,rfl⟩)|omega)
     ·rfl
     ·
      refine LoopK_n (i + 1) ?_ (⟨by omega, upto_succ hno hd⟩) (by (try dsimp only); omega)
      refine X_weak rfl rfl rfl ?_ ?_ <;> repeat' (first|with_reducible (first|refine Wk.o (by constructor) ?_|refine q_and ?_ ?_|exact True.intro)|refine q_AgS rfl ?_ ?_|exact (rfl : known _ = _)|omega)
      all_goals (
       rw [hg]
       refine rowT_set (i := (ptI L st i).toNat) ?_ fun p hp hne => ?_
       ·rw [seenP_succ, decide_eq_true (show ptI L st i = ((ptI L st i).toNat : Int) by omega), Bool.or_true]
       ·rw [seenP_succ, decide_eq_false (show ¬ ptI L st i = (p : Int) by omega), Bool.or_false])
   ·
    have hd : dupPA L st i = false := by unfold dupPA; rw [decide_eq_false h0, Bool.false_and]
    repeat' (first|with_reducible (first|refine q_and ?_ ?_|exact True.intro|refine Red.o (by constructor) ?_|fail)|with_reducible (first|refine W_seq ?_|refine W_block ?_)|((with_reducible apply q_cond);refine X_cond rfl ?_ ?_;all_goals (intro hbq;(try simp only [bq] at hbq);(try (exfalso;omega))))|refine Rex.o (by (with_reducible constructor);apply Eq.refl) ?_|((with_reducible apply q_VOk);exact fun _ => ⟨rfl,rfl⟩)|omega)
    ·
     refine LoopK_n (i + 1) ?_ (⟨by omega, upto_succ hno hd⟩) (by (try dsimp only); omega)
     refine X_weak rfl rfl rfl ?_ ?_ <;> repeat' (first|with_reducible (first|refine Wk.o (by constructor) ?_|refine q_and ?_ ?_|exact True.intro)|refine q_AgS rfl ?_ ?_|exact (rfl : known _ = _)|omega)
     all_goals (
      refine rowT_ext fun p hp => ?_
      rw [seenP_succ, decide_eq_false (show ¬ ptI L st i = (p : Int) by omega), Bool.or_false])
  ·have hie : i = st.length := by omega
   subst hie
   rw [dupP_no hno, if_neg (by decide)]
   repeat' (first|with_reducible (first|refine q_and ?_ ?_|exact True.intro|exact TkEq.nil _|refine Red.o (by constructor) ?_|fail)|with_reducible (refine W_seq ?_)|((with_reducible apply q_cond);refine X_cond rfl ?_ ?_;all_goals (intro hbq;(try simp only [bq] at hbq);(try (exfalso;omega))))|refine Rex.o (by (with_reducible constructor);apply Eq.refl) ?_|fail)
   all_goals rfl
 ·rw [if_pos h]
  unfold vLay at hF ⊢
  refine X_fn mixedX Tryz.func25 rfl (by kernel_rfl) (Nat.le_of_ble_eq_true (by kernel_rfl)) (by kernel_rfl) rfl rfl (Nat.le_of_ble_eq_true rfl) rfl rfl ?_
  simp only [sl0, Nat.zero_add, Nat.reduceAdd]
  repeat' (first|with_reducible (first|refine q_and ?_ ?_|exact True.intro|exact TkEq.nil _|refine Red.o (by constructor) ?_|fail)|((with_reducible apply q_call);refine X_pure (hF) rfl ?_)|with_reducible (refine W_seq ?_)|((with_reducible apply q_cond);refine X_cond rfl ?_ ?_;all_goals (intro hbq;(try simp only [bq] at hbq);(try (exfalso;omega))))|refine Rex.o (by (with_reducible constructor);apply Eq.refl) ?_|fail)
  all_goals rfl
abbrev lPro7 (a b : Int) (x y z : List Int) (o n : Int) : List SC := [xI a, xI b, rInt x, rInt y, rInt z, xI o, xI n]
def lPro (L : Lay) (r : Rte) (l sp ac br : Int) (a b : Nat) : List SC := lPro7 a b (row (b - a) (needF L r l sp ac br)) (row (b - a) (passF L r l sp ac br)) (row (b - a) (clrF L r l sp ac br)) (ovlF L r l sp ac br (b - a)) (runI L r l sp ac br)
abbrev lPro0 : List SC := lPro7 0 0 [] [] [] 0 0
def partdrop (st : List Stp) (a b : Nat) : List Stp := st.drop (a : Int).toNat
def parttake (st : List Stp) (a b : Nat) : List Stp := (st.drop (a : Int).toNat).take ((b : Int) + 1 - a).toNat
theorem profile_ok (L : Lay) (hL : LayFits L) (st : List Stp) (ov : Int) (nm : ByteArray) (l sp ac br : Int) (h : fitErr L ⟨st, ov⟩ l sp ac br = 0) (a b : Nat) (hab : a < b) (hb : (b : Int) ≤ st.length - ov - 1) : OkV Tryz.prog 30 [vLay L, vR2 st ov, vS5 nm l sp ac br, .c (xI a), .c (xI b)] [] (.agg (lPro L (partR st ov a b) l sp ac br a b)) [] := by
 have hR := rte_of (cel_rte (fit_of h).1)
 have g1 := hR.ov0
 have g2 := hR.ov
 have g3 := hR.len
 simp only at g1 g2 g3
 have hf := partR_fit h hab hb
 have hpl := partR_len h hab hb
 have hla := mLast_ok st ov (by omega) (by omega)
 have hps : (partR st ov a b).st.length ≤ 24 := by unfold partR; split <;> simp only [List.length_take, List.length_drop] <;> omega
 clear hR
 unfold lPro ovlF
 by_cases e : (b : Int) = st.length - ov - 1
 ·have hpe : partR st ov a b = ⟨partdrop st a b, ov⟩ := by
   unfold partR
   first
    | (rw [if_pos e]; rfl)
    | (rw [if_neg e]; unfold parttake; rw [Int.toNat_natCast, show ((b : Int) + 1 - a).toNat = b + 1 - a by omega])
  rw [hpe] at hf hpl hps ⊢
  simp only at hps
  have hT := btimes_ok L hL (partdrop st a b) ov (by omega) (by omega) nm l sp ac br hf
  have hRd := ride_of hf
  have hE1 := row_len (trv ⟨partdrop st a b, ov⟩).length fun k => rideT L ⟨partdrop st a b, ov⟩ l sp ac br (endA L (trv ⟨partdrop st a b, ov⟩) (k - 1))
  have hL1 := row_len (trv ⟨partdrop st a b, ov⟩).length (levF L ⟨partdrop st a b, ov⟩ l sp ac br)
  change (entL L ⟨partdrop st a b, ov⟩ l sp ac br (trv ⟨partdrop st a b, ov⟩).length).length = _ at hE1
  change (levL L ⟨partdrop st a b, ov⟩ l sp ac br (trv ⟨partdrop st a b, ov⟩).length).length = _ at hL1
  have hE2 : ∀ k, k < b - a + 1 → (entL L ⟨partdrop st a b, ov⟩ l sp ac br (trv ⟨partdrop st a b, ov⟩).length).getD k 0 = entF L ⟨partdrop st a b, ov⟩ l sp ac br k ∧ 0 ≤ entF L ⟨partdrop st a b, ov⟩ l sp ac br k ∧ entF L ⟨partdrop st a b, ov⟩ l sp ac br k ≤ 80000000 := fun k hk => ⟨row_get (by omega), (prof_rng hRd (by omega)).1, (prof_rng hRd (by omega)).2.1⟩
  have hL2 : ∀ k, k < b - a + 1 → (levL L ⟨partdrop st a b, ov⟩ l sp ac br (trv ⟨partdrop st a b, ov⟩).length).getD k 0 = levF L ⟨partdrop st a b, ov⟩ l sp ac br k ∧ 0 ≤ levF L ⟨partdrop st a b, ov⟩ l sp ac br k ∧ levF L ⟨partdrop st a b, ov⟩ l sp ac br k ≤ 80000000 := fun k hk => ⟨row_get (by omega), (prof_rng hRd (by omega)).2.2⟩
  have hN : ∀ k, k < b - a + 1 → needF L ⟨partdrop st a b, ov⟩ l sp ac br k = (entF L ⟨partdrop st a b, ov⟩ l sp ac br k) / 1000 - 16 := fun k hk => rfl
  have hPa : ∀ k, passF L ⟨partdrop st a b, ov⟩ l sp ac br k = (entF L ⟨partdrop st a b, ov⟩ l sp ac br (k + 1)) / 1000 := fun k => rfl
  have hCl : ∀ k, clrF L ⟨partdrop st a b, ov⟩ l sp ac br k = (levF L ⟨partdrop st a b, ov⟩ l sp ac br k + 999) / 1000 + 4 := fun k => rfl
  clear hRd hf
  generalize needF L ⟨partdrop st a b, ov⟩ l sp ac br = F1 at *
  generalize passF L ⟨partdrop st a b, ov⟩ l sp ac br = F2 at *
  generalize clrF L ⟨partdrop st a b, ov⟩ l sp ac br = F3 at *
  generalize entF L ⟨partdrop st a b, ov⟩ l sp ac br = E1 at *
  generalize levF L ⟨partdrop st a b, ov⟩ l sp ac br = E2 at *
  generalize entL L ⟨partdrop st a b, ov⟩ l sp ac br (trv ⟨partdrop st a b, ov⟩).length = es at *
  generalize levL L ⟨partdrop st a b, ov⟩ l sp ac br (trv ⟨partdrop st a b, ov⟩).length = lv at *
  generalize runI L ⟨partdrop st a b, ov⟩ l sp ac br = run at *
  have hE1 : es.length = b - a + 1 := hE1.trans hpl
  have hL1 : lv.length = b - a + 1 := hL1.trans hpl
  clear hpl hpe
  unfold partdrop at hps hT
  unfold vLay at hT ⊢
  refine X_fnP mixedX Tryz.func30 rfl (by kernel_rfl) (Nat.le_of_ble_eq_true (by kernel_rfl)) (by kernel_rfl) rfl rfl ?_
  simp only [sl0, Nat.zero_add, Nat.reduceAdd]
  repeat' (first|with_reducible (first|refine q_and ?_ ?_|exact True.intro|refine Red.o (by constructor) ?_|fail)|((with_reducible apply q_call);first|refine X_pure (hla) rfl ?_|refine X_pure (hT) rfl ?_)|with_reducible (first|refine W_seq ?_|refine W_block ?_)|((with_reducible apply q_cond);refine X_cond rfl ?_ ?_;all_goals (intro hbq;(try simp only [bq] at hbq);(try (exfalso;omega))))|refine Rex.o (by (with_reducible constructor);apply Eq.refl) ?_|(intro _;exact rfl)|((with_reducible apply q_CRB);kernel_rfl)|omega)
  clear hT hla
  refine W_loopS (fun k : Nat => SS [sC 10 (pB 3), sC 11 (pB 4), sC 12 (rInt es), sC 13 (rInt lv), sC 16 (pB 5), sI 17 ((b : Int) - a), sI 55 ((b : Int) - a), sI 56 k] [none, none, none, some (.cells [xI 0, xI 0, .c (.f .nils), .c (.f .nils), .c (.f .nils), xI 0, xI 0]), bRte (partdrop st a b) ov, some (.cells [xI a, xI b, tInt (row k F1), tInt (row k F2), tInt (row k F3), xI 0, xI run])]) (fun k => k ≤ b - a) (fun k => b - a - k) 0 ?_ (by omega) ?_
  ·
   refine X_weak rfl rfl rfl ?_ ?_ <;> repeat' (first|with_reducible (first|refine Wk.o (by constructor) ?_|refine q_and ?_ ?_|exact True.intro)|refine q_AgS rfl ?_ ?_|exact CLe.nil_tipS|exact (rfl : known _ = _)|omega)
   all_goals rfl
  intro k hk
  have q1 := row_len k F1
  have q2 := row_len k F2
  have q3 := row_len k F3
  have m1 : es.getD (k : Int).toNat 0 = E1 k := (hE2 k (by omega)).1
  have m2 := (hE2 k (by omega)).2
  have n1 : lv.getD (k : Int).toNat 0 = E2 k := (hL2 k (by omega)).1
  have n2 := (hL2 k (by omega)).2
  by_cases hkn : k < b - a
  ·have m3 : es.getD ((k : Int) + 1).toNat 0 = E1 (k + 1) := (hE2 (k + 1) (by omega)).1
   have m4 := (hE2 (k + 1) (by omega)).2
   repeat' (first|with_reducible (first|refine q_and ?_ ?_|exact True.intro|refine Red.o (by constructor) ?_|fail)|with_reducible (first|refine W_seq ?_|refine W_block ?_)|((with_reducible apply q_cond);refine X_cond rfl ?_ ?_;all_goals (intro hbq;(try simp only [bq] at hbq);(try (exfalso;omega))))|refine Rex.o (by (with_reducible constructor);apply Eq.refl) ?_|((with_reducible apply q_VOk);exact fun _ => ⟨rfl,rfl⟩)|((with_reducible apply q_CRB);kernel_rfl)|((with_reducible apply q_eqN);rfl)|omega)
   ·
    refine LoopK_n (k + 1) ?_ ((by omega)) (by (try dsimp only); omega)
    refine X_weak rfl rfl rfl ?_ ?_ <;> repeat' (first|with_reducible (first|refine Wk.o (by constructor) ?_|refine q_and ?_ ?_|exact True.intro)|refine q_AgS rfl ?_ ?_|exact (rfl : known _ = _)|omega)
    ·rw [row_snoc k F1, hN k (by omega), m1]; simp [fInt, fI]
    ·rw [row_len, row_len]
    ·rw [row_snoc k F2, hPa k, m3]; simp [fInt, fI]
    ·rw [row_len, row_len]
    ·rw [row_snoc k F3, hCl k, n1]; simp [fInt, fI]
    ·rw [row_len, row_len]
  ·have hke : k = b - a := by omega
   subst hke
   have e3 : es.getD ((b : Int) - a).toNat 0 = E1 (b - a) := by rw [← m1]; congr 1; omega
   repeat' (first|with_reducible (first|refine q_and ?_ ?_|exact True.intro|refine Red.o (by constructor) ?_|fail)|with_reducible (refine W_seq ?_)|((with_reducible apply q_cond);refine X_cond rfl ?_ ?_;all_goals (intro hbq;(try simp only [bq] at hbq);(try (exfalso;omega))))|refine Rex.o (by (with_reducible constructor);apply Eq.refl) ?_|((with_reducible apply q_VOk);exact fun _ => ⟨rfl,rfl⟩)|omega)
   all_goals first
    | (rw [e3]; omega)
    | (rw [e3, if_pos hbq]; rfl)
    | (rw [if_neg (by first | exact hbq | simp)]; rfl)
 ·have hpe : partR st ov a b = ⟨parttake st a b, 0⟩ := by
   unfold partR
   first
    | (rw [if_pos e]; rfl)
    | (rw [if_neg e]; unfold parttake; rw [Int.toNat_natCast, show ((b : Int) + 1 - a).toNat = b + 1 - a by omega])
  rw [hpe] at hf hpl hps ⊢
  simp only at hps
  have hT := btimes_ok L hL (parttake st a b) 0 (by omega) (by omega) nm l sp ac br hf
  have hRd := ride_of hf
  have hE1 := row_len (trv ⟨parttake st a b, 0⟩).length fun k => rideT L ⟨parttake st a b, 0⟩ l sp ac br (endA L (trv ⟨parttake st a b, 0⟩) (k - 1))
  have hL1 := row_len (trv ⟨parttake st a b, 0⟩).length (levF L ⟨parttake st a b, 0⟩ l sp ac br)
  change (entL L ⟨parttake st a b, 0⟩ l sp ac br (trv ⟨parttake st a b, 0⟩).length).length = _ at hE1
  change (levL L ⟨parttake st a b, 0⟩ l sp ac br (trv ⟨parttake st a b, 0⟩).length).length = _ at hL1
  have hE2 : ∀ k, k < b - a + 1 → (entL L ⟨parttake st a b, 0⟩ l sp ac br (trv ⟨parttake st a b, 0⟩).length).getD k 0 = entF L ⟨parttake st a b, 0⟩ l sp ac br k ∧ 0 ≤ entF L ⟨parttake st a b, 0⟩ l sp ac br k ∧ entF L ⟨parttake st a b, 0⟩ l sp ac br k ≤ 80000000 := fun k hk => ⟨row_get (by omega), (prof_rng hRd (by omega)).1, (prof_rng hRd (by omega)).2.1⟩
  have hL2 : ∀ k, k < b - a + 1 → (levL L ⟨parttake st a b, 0⟩ l sp ac br (trv ⟨parttake st a b, 0⟩).length).getD k 0 = levF L ⟨parttake st a b, 0⟩ l sp ac br k ∧ 0 ≤ levF L ⟨parttake st a b, 0⟩ l sp ac br k ∧ levF L ⟨parttake st a b, 0⟩ l sp ac br k ≤ 80000000 := fun k hk => ⟨row_get (by omega), (prof_rng hRd (by omega)).2.2⟩
  have hN : ∀ k, k < b - a + 1 → needF L ⟨parttake st a b, 0⟩ l sp ac br k = (entF L ⟨parttake st a b, 0⟩ l sp ac br k) / 1000 - 16 := fun k hk => rfl
  have hPa : ∀ k, passF L ⟨parttake st a b, 0⟩ l sp ac br k = (entF L ⟨parttake st a b, 0⟩ l sp ac br (k + 1)) / 1000 := fun k => rfl
  have hCl : ∀ k, clrF L ⟨parttake st a b, 0⟩ l sp ac br k = (levF L ⟨parttake st a b, 0⟩ l sp ac br k + 999) / 1000 + 4 := fun k => rfl
  clear hRd hf
  generalize needF L ⟨parttake st a b, 0⟩ l sp ac br = F1 at *
  generalize passF L ⟨parttake st a b, 0⟩ l sp ac br = F2 at *
  generalize clrF L ⟨parttake st a b, 0⟩ l sp ac br = F3 at *
  generalize entF L ⟨parttake st a b, 0⟩ l sp ac br = E1 at *
  generalize levF L ⟨parttake st a b, 0⟩ l sp ac br = E2 at *
  generalize entL L ⟨parttake st a b, 0⟩ l sp ac br (trv ⟨parttake st a b, 0⟩).length = es at *
  generalize levL L ⟨parttake st a b, 0⟩ l sp ac br (trv ⟨parttake st a b, 0⟩).length = lv at *
  generalize runI L ⟨parttake st a b, 0⟩ l sp ac br = run at *
  have hE1 : es.length = b - a + 1 := hE1.trans hpl
  have hL1 : lv.length = b - a + 1 := hL1.trans hpl
  clear hpl hpe
  unfold parttake at hps hT
  unfold vLay at hT ⊢
  refine X_fnP mixedX Tryz.func30 rfl (by kernel_rfl) (Nat.le_of_ble_eq_true (by kernel_rfl)) (by kernel_rfl) rfl rfl ?_
  simp only [sl0, Nat.zero_add, Nat.reduceAdd]
  repeat' (first|with_reducible (first|refine q_and ?_ ?_|exact True.intro|refine Red.o (by constructor) ?_|fail)|((with_reducible apply q_call);first|refine X_pure (hla) rfl ?_|refine X_pure (hT) rfl ?_)|with_reducible (first|refine W_seq ?_|refine W_block ?_)|((with_reducible apply q_cond);refine X_cond rfl ?_ ?_;all_goals (intro hbq;(try simp only [bq] at hbq);(try (exfalso;omega))))|refine Rex.o (by (with_reducible constructor);apply Eq.refl) ?_|(intro _;exact rfl)|omega)
  clear hT hla
  refine W_loopS (fun k : Nat => SS [sC 10 (pB 3), sC 11 (pB 4), sC 12 (rInt es), sC 13 (rInt lv), sC 16 (pB 5), sI 17 ((b : Int) - a), sI 55 ((b : Int) - a), sI 56 k] [none, none, none, some (.cells [xI 0, xI 0, .c (.f .nils), .c (.f .nils), .c (.f .nils), xI 0, xI 0]), bRte (parttake st a b) 0, some (.cells [xI a, xI b, tInt (row k F1), tInt (row k F2), tInt (row k F3), xI 0, xI run])]) (fun k => k ≤ b - a) (fun k => b - a - k) 0 ?_ (by omega) ?_
  ·
   refine X_weak rfl rfl rfl ?_ ?_ <;> repeat' (first|with_reducible (first|refine Wk.o (by constructor) ?_|refine q_and ?_ ?_|exact True.intro)|refine q_AgS rfl ?_ ?_|exact CLe.nil_tipS|exact (rfl : known _ = _)|omega)
   all_goals rfl
  intro k hk
  have q1 := row_len k F1
  have q2 := row_len k F2
  have q3 := row_len k F3
  have m1 : es.getD (k : Int).toNat 0 = E1 k := (hE2 k (by omega)).1
  have m2 := (hE2 k (by omega)).2
  have n1 : lv.getD (k : Int).toNat 0 = E2 k := (hL2 k (by omega)).1
  have n2 := (hL2 k (by omega)).2
  by_cases hkn : k < b - a
  ·have m3 : es.getD ((k : Int) + 1).toNat 0 = E1 (k + 1) := (hE2 (k + 1) (by omega)).1
   have m4 := (hE2 (k + 1) (by omega)).2
   repeat' (first|with_reducible (first|refine q_and ?_ ?_|exact True.intro|refine Red.o (by constructor) ?_|fail)|with_reducible (first|refine W_seq ?_|refine W_block ?_)|((with_reducible apply q_cond);refine X_cond rfl ?_ ?_;all_goals (intro hbq;(try simp only [bq] at hbq);(try (exfalso;omega))))|refine Rex.o (by (with_reducible constructor);apply Eq.refl) ?_|((with_reducible apply q_VOk);exact fun _ => ⟨rfl,rfl⟩)|((with_reducible apply q_CRB);kernel_rfl)|((with_reducible apply q_eqN);rfl)|omega)
   ·
    refine LoopK_n (k + 1) ?_ ((by omega)) (by (try dsimp only); omega)
    refine X_weak rfl rfl rfl ?_ ?_ <;> repeat' (first|with_reducible (first|refine Wk.o (by constructor) ?_|refine q_and ?_ ?_|exact True.intro)|refine q_AgS rfl ?_ ?_|exact (rfl : known _ = _)|omega)
    ·rw [row_snoc k F1, hN k (by omega), m1]; simp [fInt, fI]
    ·rw [row_len, row_len]
    ·rw [row_snoc k F2, hPa k, m3]; simp [fInt, fI]
    ·rw [row_len, row_len]
    ·rw [row_snoc k F3, hCl k, n1]; simp [fInt, fI]
    ·rw [row_len, row_len]
  ·have hke : k = b - a := by omega
   subst hke
   have e3 : es.getD ((b : Int) - a).toNat 0 = E1 (b - a) := by rw [← m1]; congr 1; omega
   repeat' (first|with_reducible (first|refine q_and ?_ ?_|exact True.intro|refine Red.o (by constructor) ?_|fail)|with_reducible (refine W_seq ?_)|((with_reducible apply q_cond);refine X_cond rfl ?_ ?_;all_goals (intro hbq;(try simp only [bq] at hbq);(try (exfalso;omega))))|refine Rex.o (by (with_reducible constructor);apply Eq.refl) ?_|fail)
   all_goals first
    | (rw [e3]; omega)
    | (rw [e3, if_pos hbq]; rfl)
    | (rw [if_neg (by first | exact hbq | simp)]; rfl)
theorem mot_of {L : Lay} {r : Rte} {l sp ac br : Int} (h : motErr L r l sp ac br = 0) : fitErr L r l sp ac br = 0 ∧ dupP L r.st = false := by
 unfold motErr at h
 by_cases h1 : fitErr L r l sp ac br = 0
 ·refine ⟨h1, ?_⟩
  rw [if_neg (by simpa using h1)] at h
  cases e : dupP L r.st with
  | false => rfl
  | true => rw [e] at h; cases h
 ·rw [if_pos h1] at h; exact absurd h h1
def makErr (L : Lay) (st : List Stp) (ov l sp ac br a b : Int) : Int := if motErr L ⟨st, ov⟩ l sp ac br ≠ 0 then motErr L ⟨st, ov⟩ l sp ac br else if a < 0 ∨ b ≤ a ∨ (st.length : Int) - ov - 1 < b then 4 else 0
theorem make_bad (L : Lay) (hL : LayFits L) (st : List Stp) (ov : Int) (hl : st.length ≤ 9223372036854775807) (ho : -9223372036854775808 ≤ ov ∧ ov ≤ 9223372036854775807) (nm : ByteArray) (l sp ac br a b : Int) (h : ¬ makErr L st ov l sp ac br a b = 0) : OkV Tryz.prog 10 [vLay L, vR2 st ov, vS5 nm l sp ac br, .c (xI a), .c (xI b)] [] (.tup [.agg lPro0, .c (xI (makErr L st ov l sp ac br a b))]) [] := by
 have hF := mFits_ok L hL st ov hl ho nm l sp ac br
 unfold makErr at h ⊢
 by_cases hm : motErr L ⟨st, ov⟩ l sp ac br = 0
 ·have hR := rte_of (cel_rte (fit_of (mot_of hm).1).1)
  have g1 := hR.ov0
  have g2 := hR.ov
  have g3 := hR.len
  have g4 := hR.two
  simp only at g1 g2 g3 g4
  have hla := mLast_ok st ov hl (by omega)
  rw [hm] at hF h ⊢
  rw [if_neg (by decide)] at h ⊢
  have hc : a < 0 ∨ b ≤ a ∨ (st.length : Int) - ov - 1 < b := Classical.byContradiction fun hn => h (if_neg hn)
  rw [if_pos hc]
  unfold vLay at hF ⊢
  refine X_fnP mixedX Tryz.func10 rfl (by kernel_rfl) (Nat.le_of_ble_eq_true (by kernel_rfl)) (by kernel_rfl) rfl rfl ?_
  simp only [sl0, Nat.zero_add, Nat.reduceAdd]
  repeat' (first|with_reducible (first|refine q_and ?_ ?_|exact True.intro|refine Red.o (by constructor) ?_|assumption)|((with_reducible apply q_call);refine X_pure (hF) rfl ?_)|((with_reducible apply q_callG);refine X_pureG ((fun _ => hla)) rfl ?_ ?_)|with_reducible (refine W_seq ?_)|((with_reducible apply q_cond);refine X_cond rfl ?_ ?_;all_goals (intro hbq;(try simp only [bq] at hbq);(try (exfalso;omega))))|refine Rex.o (by (with_reducible constructor);apply Eq.refl) ?_|(intro (hgq : (_ : Bool) = true);(try simp only [bq] at hgq))|(intro (hgq : (_ : Bool) = false);(try simp only [bq] at hgq))|((with_reducible apply q_bt);simp only [bq])|(simp only [hgq,bq];done))
  all_goals rfl
 ·rw [if_pos hm]
  unfold vLay at hF ⊢
  refine X_fnP mixedX Tryz.func10 rfl (by kernel_rfl) (Nat.le_of_ble_eq_true (by kernel_rfl)) (by kernel_rfl) rfl rfl ?_
  simp only [sl0, Nat.zero_add, Nat.reduceAdd]
  repeat' (first|with_reducible (first|refine q_and ?_ ?_|exact True.intro|refine Red.o (by constructor) ?_|fail)|((with_reducible apply q_call);refine X_pure (hF) rfl ?_)|with_reducible (refine W_seq ?_)|((with_reducible apply q_cond);refine X_cond rfl ?_ ?_;all_goals (intro hbq;(try simp only [bq] at hbq);(try (exfalso;omega))))|refine Rex.o (by (with_reducible constructor);apply Eq.refl) ?_|fail)
  all_goals rfl
theorem make_ok (L : Lay) (hL : LayFits L) (st : List Stp) (ov : Int) (hl : st.length ≤ 9223372036854775807) (ho : -9223372036854775808 ≤ ov ∧ ov ≤ 9223372036854775807) (nm : ByteArray) (l sp ac br : Int) (a b : Nat) (h : motErr L ⟨st, ov⟩ l sp ac br = 0) (hab : a < b) (hb : (b : Int) ≤ st.length - ov - 1) : OkV Tryz.prog 10 [vLay L, vR2 st ov, vS5 nm l sp ac br, .c (xI a), .c (xI b)] [] (.tup [.agg (lPro L (partR st ov a b) l sp ac br a b), .c (xI 0)]) [] := by
 have hF := mFits_ok L hL st ov hl ho nm l sp ac br
 have hf := (mot_of h).1
 have hR := rte_of (cel_rte (fit_of hf).1)
 have g1 := hR.ov0
 have g2 := hR.ov
 have g3 := hR.len
 have g4 := hR.two
 simp only at g1 g2 g3 g4
 have hla := mLast_ok st ov hl (by omega)
 have hP := profile_ok L hL st ov nm l sp ac br hf a b hab hb
 rw [h] at hF
 unfold lPro at hP ⊢
 unfold vLay at hF hP ⊢
 refine X_fnP mixedX Tryz.func10 rfl (by kernel_rfl) (Nat.le_of_ble_eq_true (by kernel_rfl)) (by kernel_rfl) rfl rfl ?_
 simp only [sl0, Nat.zero_add, Nat.reduceAdd]
 repeat' (first|with_reducible (first|refine q_and ?_ ?_|exact True.intro|refine Red.o (by constructor) ?_|assumption)|((with_reducible apply q_call);first|refine X_pure (hF) rfl ?_|refine X_pure (hP) rfl ?_)|((with_reducible apply q_callG);refine X_pureG ((fun _ => hla)) rfl ?_ ?_)|with_reducible (refine W_seq ?_)|((with_reducible apply q_cond);refine X_cond rfl ?_ ?_;all_goals (intro hbq;(try simp only [bq] at hbq);(try (exfalso;omega))))|refine Rex.o (by (with_reducible constructor);apply Eq.refl) ?_|(intro (hgq : (_ : Bool) = true);(try simp only [bq] at hgq))|(intro (hgq : (_ : Bool) = false);(try simp only [bq] at hgq))|((with_reducible apply q_bt);simp only [bq])|(simp only [hgq,bq];done))
 all_goals rfl
theorem refused_ok (g : Nat → Int) (m : Nat) (N : Nat → Nat → Int) (a : Nat) (x y z gs : List Int) (o n d : Int) (hgl : gs.length = m + 1) (hg : ∀ i, i < m + 1 → gs.getD i 0 = g i) (hxl : x.length = m - a) (hx : ∀ k, k < m - a → x.getD k 0 = N a k) (hm : m ≤ 100) (ham : a ≤ m) (hb : ∀ k, k ≤ m - a → -100 ≤ N a k ∧ N a k ≤ 100000) (hd : -1000000000 ≤ d ∧ d ≤ 1000000000) : OkV Tryz.prog 39 [.agg (lPro7 a m x y z o n), .c (rInt gs), .c (xI d)] [] (vI (refI g m N a d (m + 1) (a + 2))) [] := by
 generalize hR : refI g m N a d (m + 1) (a + 2) = R
 refine X_fn mixedX Tryz.func39 rfl (by kernel_rfl) (Nat.le_of_ble_eq_true (by kernel_rfl)) (by kernel_rfl) rfl rfl (Nat.le_of_ble_eq_true rfl) rfl rfl ?_
 simp only [sl0, Nat.zero_add, Nat.reduceAdd]
 repeat' (first|with_reducible (first|refine q_and ?_ ?_|exact True.intro|refine Red.o (by constructor) ?_|fail)|with_reducible (first|refine W_seq ?_|refine W_block ?_)|refine Rex.o (by (with_reducible constructor);apply Eq.refl) ?_|omega)
 refine W_loopS (fun i : Nat => SS [sC 1 (rInt gs), sI 2 d, sC 3 (pB 0), sI 7 i] [some (.cells (lPro7 a m x y z o n))]) (fun i => a + 2 ≤ i ∧ i ≤ m + 2 ∧ ∃ f, m + 1 ≤ i + f ∧ refI g m N a d f i = R) (fun i => m + 2 - i) (a + 2) ?_ ⟨by omega, by omega, m + 1, by omega, hR⟩ ?_
 ·
  refine X_weak rfl rfl rfl ?_ ?_ <;> repeat' (first|with_reducible (first|refine Wk.o (by constructor) ?_|refine q_and ?_ ?_|exact True.intro)|refine q_AgS rfl ?_ ?_|exact (rfl : known _ = _)|omega)
  all_goals rfl
 rintro i ⟨hi1, hi2, f, hf, hr⟩
 by_cases him : i ≤ m
 ·obtain ⟨f, rfl⟩ : ∃ k, f = k + 1 := ⟨f - 1, by omega⟩
  unfold refI at hr
  rw [if_neg (by omega)] at hr
  have c1 : x.getD ((i : Int) - a - 1).toNat 0 = N a (i - a - 1) := by rw [show ((i : Int) - a - 1).toNat = i - a - 1 by omega]; exact hx _ (by omega)
  have c2 : gs.getD (i : Int).toNat 0 = g i := hg i (by omega)
  have c3 := hb (i - a - 1) (by omega)
  by_cases hc : d + N a (i - a - 1) < g i
  ·rw [if_pos hc] at hr
   subst hr
   repeat' (first|with_reducible (first|refine q_and ?_ ?_|exact True.intro|exact TkEq.nil _|refine Red.o (by constructor) ?_|fail)|with_reducible (first|refine W_seq ?_|refine W_block ?_)|((with_reducible apply q_cond);refine X_cond rfl ?_ ?_;all_goals (intro hbq;(try simp only [bq] at hbq);(try (exfalso;omega))))|refine Rex.o (by (with_reducible constructor);apply Eq.refl) ?_|((with_reducible apply q_VOk);exact fun _ => ⟨rfl,rfl⟩)|((with_reducible apply q_CRB);kernel_rfl)|omega)
   all_goals rfl
  ·rw [if_neg hc] at hr
   repeat' (first|with_reducible (first|refine q_and ?_ ?_|exact True.intro|refine Red.o (by constructor) ?_|fail)|with_reducible (first|refine W_seq ?_|refine W_block ?_)|((with_reducible apply q_cond);refine X_cond rfl ?_ ?_;all_goals (intro hbq;(try simp only [bq] at hbq);(try (exfalso;omega))))|refine Rex.o (by (with_reducible constructor);apply Eq.refl) ?_|((with_reducible apply q_VOk);exact fun _ => ⟨rfl,rfl⟩)|((with_reducible apply q_CRB);kernel_rfl)|omega)
   ·
    refine LoopK_n (i + 1) ?_ (⟨by omega, by omega, f, by omega, hr⟩) (by (try dsimp only); omega)
    refine X_weak rfl rfl rfl ?_ ?_ <;> repeat' (first|with_reducible (first|refine Wk.o (by constructor) ?_|refine q_and ?_ ?_|exact True.intro)|refine q_AgS rfl ?_ ?_|exact (rfl : known _ = _)|omega)
 ·have hr0 : R = 0 := by
   rw [← hr]
   cases f with
   | zero => rfl
   | succ f => unfold refI; rw [if_pos (by omega)]
  subst hr0
  repeat' (first|with_reducible (first|refine q_and ?_ ?_|exact True.intro|exact TkEq.nil _|refine Red.o (by constructor) ?_|fail)|with_reducible (refine W_seq ?_)|((with_reducible apply q_cond);refine X_cond rfl ?_ ?_;all_goals (intro hbq;(try simp only [bq] at hbq);(try (exfalso;omega))))|refine Rex.o (by (with_reducible constructor);apply Eq.refl) ?_|fail)
  all_goals rfl
def secB4 (x : Int) : Bool := decide (-4194304 ≤ x) && decide (x ≤ 4194304)
def wlkErr (L : Lay) (st : List Stp) (ov l sp ac br : Int) (gs : List Int) (rd late : Int) : Int := if motErr L ⟨st, ov⟩ l sp ac br ≠ 0 then motErr L ⟨st, ov⟩ l sp ac br else if (gs.length : Int) ≠ st.length - ov then 1 else if (secB4 rd && secB4 late && gs.all secB4) = false then 4 else 0
section
variable (L : Lay) (st : List Stp) (ov l sp ac br : Int)
def lastN : Nat := st.length - ov.toNat - 1
def needN (a k : Nat) : Int := needF L (partR st ov a (lastN st ov)) l sp ac br k
def runN (a b : Nat) : Int := runI L (partR st ov a b) l sp ac br
def ovlN (a : Nat) : Int := ovlF L (partR st ov a (lastN st ov)) l sp ac br (lastN st ov - a)
def walkL (gs : List Int) (rd late : Int) : List Leg := wlk (fun i => gs.getD i 0) (lastN st ov) (needN L st ov l sp ac br) (runN L st ov l sp ac br) (ovlN L st ov l sp ac br) ov late (lastN st ov + 1) 0 rd
end
theorem last_n {L : Lay} {st : List Stp} {ov : Int} (hR : RteOk L ⟨st, ov⟩) : ((lastN st ov : Nat) : Int) = st.length - ov - 1 ∧ 1 ≤ lastN st ov ∧ lastN st ov ≤ 23 := by
 have g1 := hR.ov0
 have g3 := hR.len
 have g4 := hR.two
 simp only at g1 g3 g4
 unfold lastN
 omega
theorem needN_rng {L : Lay} {st : List Stp} {ov l sp ac br : Int} (h : fitErr L ⟨st, ov⟩ l sp ac br = 0) {a : Nat} (ha : a < lastN st ov) {k : Nat} (hk : k ≤ lastN st ov - a) : -16 ≤ needN L st ov l sp ac br a k ∧ needN L st ov l sp ac br a k ≤ 80000 := by
 have hn := last_n (rte_of (cel_rte (fit_of h).1))
 have hf := partR_fit h (a := a) (b := lastN st ov) ha (by omega)
 have hl := partR_len h (a := a) (b := lastN st ov) ha (by omega)
 have := prof_rng (ride_of hf) (k := k) (by omega)
 unfold needN needF
 omega
theorem ovlN_rng {L : Lay} {st : List Stp} {ov l sp ac br : Int} (h : fitErr L ⟨st, ov⟩ l sp ac br = 0) {a : Nat} (ha : a < lastN st ov) : -16 ≤ ovlN L st ov l sp ac br a ∧ ovlN L st ov l sp ac br a ≤ 80000 := by
 have := needN_rng h ha (k := lastN st ov - a) (Nat.le_refl _)
 unfold needN needF at this
 unfold ovlN ovlF
 split <;> omega
theorem runN_rng {L : Lay} {st : List Stp} {ov l sp ac br : Int} (h : fitErr L ⟨st, ov⟩ l sp ac br = 0) {a b : Nat} (hab : a < b) (hb : b ≤ lastN st ov) : 0 < runN L st ov l sp ac br a b ∧ runN L st ov l sp ac br a b ≤ 80001 := by
 have hn := last_n (rte_of (cel_rte (fit_of h).1))
 exact run_rng (ride_of (partR_fit h hab (by omega)))
theorem isSecond_ok (x : Int) : OkV Tryz.prog 38 [.c (xI x)] [] (vB (secB4 x)) [] := by
 unfold secB4
 refine X_fn mixedX Tryz.func38 rfl (by kernel_rfl) (Nat.le_of_ble_eq_true (by kernel_rfl)) (by kernel_rfl) rfl rfl (Nat.le_of_ble_eq_true rfl) rfl rfl ?_
 simp only [sl0, Nat.zero_add, Nat.reduceAdd]
 repeat' (first|with_reducible (first|refine q_and ?_ ?_|exact True.intro|exact TkEq.nil _|refine Red.o (by constructor) ?_|assumption)|with_reducible (refine W_seq ?_)|refine Rex.o (by (with_reducible constructor);apply Eq.refl) ?_|(intro (hgq : (_ : Bool) = true);(try simp only [bq] at hgq))|((with_reducible apply q_bt);simp only [bq]))
 repeat' (first|with_reducible (first|refine Wk.o (by constructor) ?_|exact True.intro)|refine VEq.c ?_)
theorem gs_all {gs : List Int} (h : gs.all secB4 = true) {i : Nat} (hi : i < gs.length) : -4194304 ≤ gs.getD i 0 ∧ gs.getD i 0 ≤ 4194304 := by
 have := List.all_eq_true.1 h _ (List.getElem_mem hi)
 rw [List.getD_eq_getElem?_getD, List.getElem?_eq_getElem hi]
 unfold secB4 at this
 simpa using this
theorem wlk_of {L : Lay} {st : List Stp} {ov l sp ac br rd late : Int} {gs : List Int} (h : wlkErr L st ov l sp ac br gs rd late = 0) : motErr L ⟨st, ov⟩ l sp ac br = 0 ∧ (gs.length : Int) = st.length - ov ∧ secB4 rd = true ∧ secB4 late = true ∧ gs.all secB4 = true := by
 unfold wlkErr at h
 by_cases h1 : motErr L ⟨st, ov⟩ l sp ac br = 0
 ·rw [if_neg (by simpa using h1)] at h
  by_cases h2 : (gs.length : Int) = st.length - ov
  ·rw [if_neg (by simpa using h2)] at h
   by_cases h3 : (secB4 rd && secB4 late && gs.all secB4) = false
   ·rw [if_pos h3] at h; cases h
   ·have h3 := (Bool.not_eq_false _).mp h3
    simp only [Bool.and_eq_true] at h3
    exact ⟨h1, h2, h3.1.1, h3.1.2, h3.2⟩
  ·rw [if_pos h2] at h; cases h
 ·rw [if_pos h1] at h; exact absurd h h1
theorem walk_ok (L : Lay) (hL : LayFits L) (st : List Stp) (ov : Int) (hl : st.length ≤ 9223372036854775807) (ho : -9223372036854775808 ≤ ov ∧ ov ≤ 9223372036854775807) (nm : ByteArray) (l sp ac br rd late : Int) (gs : List Int) (h : wlkErr L st ov l sp ac br gs rd late = 0) : OkV Tryz.prog 20 [vLay L, vR2 st ov, vS5 nm l sp ac br, .c (xI rd), .c (rInt gs), .c (xI late)] [] (.tup [.c (rLeg (walkL L st ov l sp ac br gs rd late)), .c (xI 0)]) [] := by
 have hF := mFits_ok L hL st ov hl ho nm l sp ac br
 obtain ⟨hm, hg, h1, h2, h3⟩ := wlk_of h
 clear h
 have hf := (mot_of hm).1
 have hR := rte_of (cel_rte (fit_of hf).1)
 have g1 := hR.ov0
 have g2 := hR.ov
 have g3 := hR.len
 have g4 := hR.two
 simp only at g1 g2 g3 g4
 have hla := mLast_ok st ov hl (by omega)
 rw [hm] at hF
 have s1 := isSecond_ok rd
 have s2 := isSecond_ok late
 have s3 := fun i => isSecond_ok (gs.getD i 0)
 rw [h1] at s1
 rw [h2] at s2
 obtain ⟨hn1, hn2, hn3⟩ := last_n hR
 have hga := fun i (hi : i < gs.length) => gs_all h3 hi
 have hN := fun a (ha : a < lastN st ov) k (hk : k ≤ lastN st ov - a) => needN_rng hf ha hk
 have hO := fun a (ha : a < lastN st ov) => ovlN_rng hf ha
 have hU := fun a b (hab : a < b) (hb : b ≤ lastN st ov) => runN_rng hf hab hb
 have hP := fun a b (hab : a < b) (hb : b ≤ lastN st ov) => profile_ok L hL st ov nm l sp ac br hf a b hab (by omega)
 have e1 : ∀ a b, runI L (partR st ov a b) l sp ac br = runN L st ov l sp ac br a b := fun _ _ => rfl
 unfold walkL
 generalize hT : wlk (fun i => gs.getD i 0) (lastN st ov) (needN L st ov l sp ac br) (runN L st ov l sp ac br) (ovlN L st ov l sp ac br) ov late (lastN st ov + 1) 0 rd = T
 unfold secB4 at h1 h2
 simp only [Bool.and_eq_true, decide_eq_true_eq] at h1 h2
 unfold lPro at hP
 unfold vLay at hF hP ⊢
 rw [← hn1] at hla
 refine X_fn mixedX Tryz.func20 rfl (by kernel_rfl) (Nat.le_of_ble_eq_true (by kernel_rfl)) (by kernel_rfl) rfl rfl (Nat.le_of_ble_eq_true rfl) rfl rfl ?_
 simp only [sl0, Nat.zero_add, Nat.reduceAdd]
 repeat' (first|with_reducible (first|refine q_and ?_ ?_|exact True.intro|refine Red.o (by constructor) ?_|fail)|((with_reducible apply q_call);first|refine X_pure (hF) rfl ?_|refine X_pure (hla) rfl ?_|refine X_pure (s1) rfl ?_)|((with_reducible apply q_callG);refine X_pureG ((fun _ => s2)) rfl ?_ ?_)|with_reducible (first|refine W_seq ?_|refine W_block ?_)|((with_reducible apply q_cond);refine X_cond rfl ?_ ?_;all_goals (intro hbq;(try simp only [bq] at hbq);(try (exfalso;omega))))|refine Rex.o (by (with_reducible constructor);apply Eq.refl) ?_|(intro (hgq : (_ : Bool) = true);(try simp only [bq] at hgq))|(intro (hgq : (_ : Bool) = false);(try simp only [bq] at hgq))|((with_reducible apply q_bt);simp only [bq])|omega)
 clear hF hla s1 s2
 refine W_loopS (fun i : Nat => SS [sI 3 rd, sC 4 (rInt gs), sI 5 late, sC 6 (pB 0), sC 7 (pB 1), sC 8 (pB 2), sI 15 (lastN st ov : Nat), sC 47 (rInt gs), sI 48 gs.length, sI 49 i] [bLay L, bRte st ov, bS5 nm l sp ac br]) (fun i => i ≤ gs.length) (fun i => gs.length - i) 0 ?_ (by omega) ?_
 ·
  refine X_weak rfl rfl rfl ?_ ?_ <;> repeat' (first|with_reducible (first|refine Wk.o (by constructor) ?_|refine q_and ?_ ?_|exact True.intro)|refine q_AgS rfl ?_ ?_|exact (rfl : known _ = _)|omega)
  all_goals rfl
 intro i hi
 by_cases hil : i < gs.length
 ·have s4 : OkV Tryz.prog 38 [.c (xI (gs.getD (i : Int).toNat 0))] [] (vB (secB4 (gs.getD i 0))) [] := s3 i
  have h4 : secB4 (gs.getD i 0) = true := by
   rw [List.getD_eq_getElem?_getD, List.getElem?_eq_getElem hil]
   exact List.all_eq_true.1 h3 _ (List.getElem_mem hil)
  rw [h4] at s4
  repeat' (first|with_reducible (first|refine q_and ?_ ?_|exact True.intro|refine Red.o (by constructor) ?_|assumption)|((with_reducible apply q_call);refine X_pure (s4) rfl ?_)|with_reducible (first|refine W_seq ?_|refine W_block ?_)|((with_reducible apply q_cond);refine X_cond rfl ?_ ?_;all_goals (intro hbq;(try simp only [bq] at hbq);(try (exfalso;omega))))|refine Rex.o (by (with_reducible constructor);apply Eq.refl) ?_|((with_reducible apply q_VOk);exact fun _ => ⟨rfl,rfl⟩)|omega)
  ·
   refine LoopK_n (i + 1) ?_ ((by omega)) (by (try dsimp only); omega)
   refine X_weak rfl rfl rfl ?_ ?_ <;> repeat' (first|with_reducible (first|refine Wk.o (by constructor) ?_|refine q_and ?_ ?_|exact True.intro)|refine q_AgS rfl ?_ ?_|exact (rfl : known _ = _)|omega)
 ·
  have hP1 : ∀ a, a < lastN st ov → ∃ Y Z, OkV Tryz.prog 30 [.agg [rStr L.sts, rStr L.pts, rSec L.secs, rLnk L.lnks], vR2 st ov, vS5 nm l sp ac br, .c (xI a), .c (xI (lastN st ov : Nat))] [] (.agg (lPro7 a (lastN st ov : Nat) (row (lastN st ov - a) (needN L st ov l sp ac br a)) Y Z (ovlN L st ov l sp ac br a) (runN L st ov l sp ac br a (lastN st ov)))) [] := fun a ha => ⟨_, _, hP a _ ha (Nat.le_refl _)⟩
  have hP2 : ∀ a b : Nat, a < b → b ≤ lastN st ov → ∃ X Y Z o, OkV Tryz.prog 30 [.agg [rStr L.sts, rStr L.pts, rSec L.secs, rLnk L.lnks], vR2 st ov, vS5 nm l sp ac br, .c (xI a), .c (xI b)] [] (.agg (lPro7 a b X Y Z o (runN L st ov l sp ac br a b))) [] := fun a b hab hb => ⟨_, _, _, _, hP a b hab hb⟩
  clear hP e1 s3 h3 hm hf
  generalize needN L st ov l sp ac br = N at *
  generalize ovlN L st ov l sp ac br = O at *
  generalize runN L st ov l sp ac br = R at *
  generalize lastN st ov = m at *
  have hie : i = gs.length := by omega
  subst hie
  repeat' (first|with_reducible (first|refine q_and ?_ ?_|exact True.intro|refine Red.o (by constructor) ?_|fail)|with_reducible (first|refine W_seq ?_|refine W_block ?_)|((with_reducible apply q_cond);refine X_cond rfl ?_ ?_;all_goals (intro hbq;(try simp only [bq] at hbq);(try (exfalso;omega))))|refine Rex.o (by (with_reducible constructor);apply Eq.refl) ?_|fail)
  refine W_loopS (fun q : Nat × Int × List Leg => SS [sC 4 (rInt gs), sI 5 late, sC 6 (pB 0), sC 7 (pB 1), sC 8 (pB 2), sI 15 m, sC 18 (tLeg q.2.2), sI 19 q.1, sI 20 q.2.1] [bLay L, bRte st ov, bS5 nm l sp ac br]) (fun q => q.1 ≤ m ∧ -4194304 ≤ q.2.1 ∧ q.2.1 ≤ 4194400 + 100000 * q.1 ∧ q.2.2.length ≤ q.1 ∧ ∃ f, m + 1 ≤ q.1 + f ∧ q.2.2 ++ wlk (fun i => gs.getD i 0) m N R O ov late f q.1 q.2.1 = T) (fun q => m - q.1) (0, rd, []) ?_ ⟨by simp only; omega, by simp only; omega, by simp only; omega, Nat.le_refl _, m + 1, by simp only; omega, hT⟩ ?_
  ·
   refine X_weak rfl rfl rfl ?_ ?_ <;> repeat' (first|with_reducible (first|refine Wk.o (by constructor) ?_|refine q_and ?_ ?_|exact True.intro)|refine q_AgS rfl ?_ ?_|exact (rfl : known _ = _)|omega)
   all_goals rfl
  rintro ⟨a, x, legs⟩ ⟨q1, q2, q3, q4, f, q5, q6⟩
  simp only at q1 q2 q3 q4 q5 q6
  by_cases ham : a < m
  ·obtain ⟨f, rfl⟩ : ∃ k, f = k + 1 := ⟨f - 1, by omega⟩
   unfold wlk at q6
   rw [if_pos ham] at q6
   obtain ⟨Y, Z, hp1⟩ := hP1 a ham
   have hgn := hga (a + 1) (by omega)
   have eg : gs.getD ((a : Int) + 1).toNat 0 = gs.getD (a + 1) 0 := by congr 1
   have ed : max x (gs.getD ((a : Int) + 1).toNat 0 + 16) = legD (fun i => gs.getD i 0) a x := by rw [eg]; rfl
   have hd1 : x ≤ legD (fun i => gs.getD i 0) a x ∧ legD (fun i => gs.getD i 0) a x ≤ 4194400 + 100000 * a := by rw [← ed, eg]; omega
   have hrf : OkV Tryz.prog 39 [.agg (lPro7 a m (row (m - a) (N a)) Y Z (O a) (R a m)), .c (rInt gs), .c (xI (legD (fun i => gs.getD i 0) a x))] [] (vI (legR (fun i => gs.getD i 0) m N a x)) [] := refused_ok (fun i => gs.getD i 0) m N a (row (m - a) (N a)) Y Z gs (O a) (R a m) (legD (fun i => gs.getD i 0) a x) (by omega) (fun i hi => rfl) (row_len _ _) (fun k hk => row_get hk) (by omega) (by omega) (fun k hk => by have := hN a ham k hk; omega) (by omega)
   have hB := legB_rng (fun i => gs.getD i 0) m N x ham
   have hOa := hO a ham
   have hUa := hU a m ham (Nat.le_refl _)
   have hBe : legB (fun i => gs.getD i 0) m N a x = if 0 < legR (fun i => gs.getD i 0) m N a x then legR (fun i => gs.getD i 0) m N a x - 1 else m := rfl
   have hSe : legS (fun i => gs.getD i 0) m N R O ov late a x = if 0 < legR (fun i => gs.getD i 0) m N a x then legD (fun i => gs.getD i 0) a x + R a (legR (fun i => gs.getD i 0) m N a x - 1) else if 0 < ov ∧ legD (fun i => gs.getD i 0) a x + O a < late then legD (fun i => gs.getD i 0) a x + R a m + 30 else legD (fun i => gs.getD i 0) a x + R a m := rfl
   rw [hSe] at q6
   rw [hBe] at hB q6
   generalize legR (fun i => gs.getD i 0) m N a x = r at *
   generalize legD (fun i => gs.getD i 0) a x = d at *
   subst ed
   clear hBe hSe
   by_cases hr0 : 0 < r
   ·rw [if_pos hr0] at hB
    rw [if_pos hr0, if_pos hr0] at q6
    obtain ⟨X2, Y2, Z2, o2, hp2⟩ := hP2 a _ hB.1 hB.2
    have hUb := hU a _ hB.1 hB.2
    rw [show ((r - 1 : Nat) : Int) = (r : Int) - 1 by omega] at hp2
    repeat' (first|with_reducible (first|refine q_and ?_ ?_|exact True.intro|refine Red.o (by constructor) ?_|fail)|((with_reducible apply q_call);first|refine X_pure (hp1) rfl ?_|refine X_pure (hrf) rfl ?_|refine X_pure (hp2) rfl ?_)|with_reducible (first|refine W_seq ?_|refine W_block ?_)|((with_reducible apply q_cond);refine X_cond rfl ?_ ?_;all_goals (intro hbq;(try simp only [bq] at hbq);(try (exfalso;omega))))|refine Rex.o (by (with_reducible constructor);apply Eq.refl) ?_|((with_reducible apply q_VOk);exact fun _ => ⟨rfl,rfl⟩)|((with_reducible apply q_CRB);kernel_rfl)|((with_reducible apply q_eqN);rfl)|omega|(dsimp only;omega))
    ·
     refine LoopK_n ((r - 1, max x (gs.getD ((a : Int) + 1).toNat 0 + 16) + R a (r - 1), legs ++ [⟨a, (r - 1 : Nat), max x (gs.getD ((a : Int) + 1).toNat 0 + 16), max x (gs.getD ((a : Int) + 1).toNat 0 + 16) + R a (r - 1)⟩])) ?_ (⟨by simp only; omega, by simp only; omega, by simp only; omega, by simp only [List.length_append, List.length_singleton]; omega, f, by simp only; omega, by simp only; rw [List.append_assoc]; exact q6⟩) (by (try dsimp only); omega)
     refine X_weak rfl rfl rfl ?_ ?_ <;> repeat' (first|with_reducible (first|refine Wk.o (by constructor) ?_|refine q_and ?_ ?_|exact True.intro)|refine q_AgS rfl ?_ ?_|exact (rfl : known _ = _)|omega)
     all_goals first
      | omega
      | rfl
      | (simp only [List.length_append, List.length_singleton]; done)
      | (simp [fLeg, fI]; done)
      | (simp [fLeg, fI]; omega)
   ·rw [if_neg hr0] at hB
    rw [if_neg hr0, if_neg hr0] at q6
    have hr1 : r = 0 := by omega
    subst hr1
    clear hP2
    by_cases hv : 0 < ov ∧ max x (gs.getD ((a : Int) + 1).toNat 0 + 16) + O a < late
    ·rw [if_pos hv] at q6
     repeat' (first|with_reducible (first|refine q_and ?_ ?_|exact True.intro|refine Red.o (by constructor) ?_|assumption)|((with_reducible apply q_call);first|refine X_pure (hp1) rfl ?_|refine X_pure (hrf) rfl ?_)|with_reducible (first|refine W_seq ?_|refine W_block ?_)|((with_reducible apply q_cond);refine X_cond rfl ?_ ?_;all_goals (intro hbq;(try simp only [bq] at hbq);(try (exfalso;omega))))|refine Rex.o (by (with_reducible constructor);apply Eq.refl) ?_|(intro (hgq : (_ : Bool) = true);(try simp only [bq] at hgq))|((with_reducible apply q_VOk);exact fun _ => ⟨rfl,rfl⟩)|((with_reducible apply q_CRB);kernel_rfl)|((with_reducible apply q_bt);simp only [bq])|((with_reducible apply q_eqN);rfl)|omega|(dsimp only;omega))
     ·
      refine LoopK_n ((m, max x (gs.getD ((a : Int) + 1).toNat 0 + 16) + R a m + 30, legs ++ [⟨a, (m : Nat), max x (gs.getD ((a : Int) + 1).toNat 0 + 16), max x (gs.getD ((a : Int) + 1).toNat 0 + 16) + R a m + 30⟩])) ?_ (⟨by simp only; omega, by simp only; omega, by simp only; omega, by simp only [List.length_append, List.length_singleton]; omega, f, by simp only; omega, by simp only; rw [List.append_assoc]; exact q6⟩) (by (try dsimp only); omega)
      refine X_weak rfl rfl rfl ?_ ?_ <;> repeat' (first|with_reducible (first|refine Wk.o (by constructor) ?_|refine q_and ?_ ?_|exact True.intro)|refine q_AgS rfl ?_ ?_|exact (rfl : known _ = _))
      all_goals first
       | omega
       | rfl
       | (simp only [List.length_append, List.length_singleton]; done)
       | (simp [fLeg, fI]; done)
       | (simp [fLeg, fI]; omega)
    ·rw [if_neg hv] at q6
     repeat' (first|with_reducible (first|refine q_and ?_ ?_|exact True.intro|refine Red.o (by constructor) ?_|assumption)|((with_reducible apply q_call);first|refine X_pure (hp1) rfl ?_|refine X_pure (hrf) rfl ?_)|with_reducible (first|refine W_seq ?_|refine W_block ?_)|((with_reducible apply q_cond);refine X_cond rfl ?_ ?_;all_goals (intro hbq;(try simp only [bq] at hbq);(try (exfalso;omega))))|refine Rex.o (by (with_reducible constructor);apply Eq.refl) ?_|(intro (hgq : (_ : Bool) = true);(try simp only [bq] at hgq))|((with_reducible apply q_VOk);exact fun _ => ⟨rfl,rfl⟩)|((with_reducible apply q_CRB);kernel_rfl)|((with_reducible apply q_bt);simp only [bq])|((with_reducible apply q_eqN);rfl)|omega|(dsimp only;omega))
     ·
      refine LoopK_n ((m, max x (gs.getD ((a : Int) + 1).toNat 0 + 16) + R a m, legs ++ [⟨a, (m : Nat), max x (gs.getD ((a : Int) + 1).toNat 0 + 16), max x (gs.getD ((a : Int) + 1).toNat 0 + 16) + R a m⟩])) ?_ (⟨by simp only; omega, by simp only; omega, by simp only; omega, by simp only [List.length_append, List.length_singleton]; omega, f, by simp only; omega, by simp only; rw [List.append_assoc]; exact q6⟩) (by (try dsimp only); omega)
      refine X_weak rfl rfl rfl ?_ ?_ <;> repeat' (first|with_reducible (first|refine Wk.o (by constructor) ?_|refine q_and ?_ ?_|exact True.intro)|refine q_AgS rfl ?_ ?_|exact (rfl : known _ = _))
      all_goals first
       | omega
       | rfl
       | (simp only [List.length_append, List.length_singleton]; done)
       | (simp [fLeg, fI]; done)
       | (simp [fLeg, fI]; omega)
  ·have hT2 : legs = T := by
    rw [← q6]
    cases f with
    | zero => exact (List.append_nil _).symm
    | succ f => unfold wlk; rw [if_neg ham]; exact (List.append_nil _).symm
   subst hT2
   repeat' (first|with_reducible (first|refine q_and ?_ ?_|exact True.intro|exact TkEq.nil _|refine Red.o (by constructor) ?_|fail)|with_reducible (refine W_seq ?_)|((with_reducible apply q_cond);refine X_cond rfl ?_ ?_;all_goals (intro hbq;(try simp only [bq] at hbq);(try (exfalso;omega))))|refine Rex.o (by (with_reducible constructor);apply Eq.refl) ?_|fail)
   all_goals rfl
def ptR (L : Lay) (a b : Stp) : Int := if ((joinL L a b).map Hop.pt).getD (-1) < 0 then -1 else L.secs.length + ((joinL L a b).map Hop.pt).getD (-1)
theorem pointOf_ok (L : Lay) (a b : Stp) (hV : Valid L) (hj : ∀ k, joinL L a b = some k → k.pt < L.pts.length) : OkV Tryz.prog 36 [vLay L, vSt a, vSt b] [] (vI (ptR L a b)) [] := by
 have hH := refHops_ok L a hV
 have hlen : (hopsL L a).length ≤ 192 := Nat.le_trans (List.length_filterMap_le _ _) hV.n4
 have n2 := hV.n2
 have n3 := hV.n3
 unfold ptR
 unfold joinL at hj ⊢
 generalize hopsL L a = hs at *
 unfold vLay at hH ⊢
 refine X_fn mixedX Tryz.func36 rfl (by kernel_rfl) (Nat.le_of_ble_eq_true (by kernel_rfl)) (by kernel_rfl) rfl rfl (Nat.le_of_ble_eq_true rfl) rfl rfl ?_
 simp only [sl0, Nat.zero_add, Nat.reduceAdd]
 repeat' (first|with_reducible (first|refine q_and ?_ ?_|exact True.intro|refine Red.o (by constructor) ?_|fail)|((with_reducible apply q_call);refine X_pure (hH) rfl ?_)|with_reducible (first|refine W_seq ?_|refine W_block ?_)|refine Rex.o (by (with_reducible constructor);apply Eq.refl) ?_|fail)
 clear hH
 refine W_loopS (fun i : Nat => SS [sC 3 (pB 0), sC 5 (pB 2), sC 7 (rHop hs), sI 13 hs.length, sI 14 i] [bLay L, none, some (.cells [xI b.sec, xI b.dir])]) (fun i => i ≤ hs.length ∧ ∀ j, j < i → toB b (hs.getD j ⟨0, 0, 0, 0⟩) = false) (fun i => hs.length - i) 0 ?_ ⟨by omega, fun j hj => by omega⟩ ?_
 ·
  refine X_weak rfl rfl rfl ?_ ?_ <;> repeat' (first|with_reducible (first|refine Wk.o (by constructor) ?_|refine q_and ?_ ?_|exact True.intro)|refine q_AgS rfl ?_ ?_|exact (rfl : known _ = _)|omega)
 rintro i ⟨hi, hno⟩
 by_cases hil : i < hs.length
 ·by_cases ht : toB b (hs.getD i ⟨0, 0, 0, 0⟩) = true
  ·have hf := find_at (p := toB b) (d := ⟨0, 0, 0, 0⟩) (l := hs) (i := i) hil ht hno
   have hb : (hs.getD (i : Int).toNat ⟨0, 0, 0, 0⟩).pt < L.pts.length := hj _ hf
   rw [hf]
   simp only [Option.map_some, Option.getD_some]
   have ht2 : (hs.getD (i : Int).toNat ⟨0, 0, 0, 0⟩).sec = b.sec ∧ (hs.getD (i : Int).toNat ⟨0, 0, 0, 0⟩).dir = b.dir := by
    unfold toB at ht
    simpa using ht
   by_cases hp : (hs.getD (i : Int).toNat ⟨0, 0, 0, 0⟩).pt < 0
   ·rw [if_pos (by exact hp)]
    repeat' (first|with_reducible (first|refine q_and ?_ ?_|exact True.intro|exact TkEq.nil _|refine Red.o (by constructor) ?_|assumption)|with_reducible (first|refine W_seq ?_|refine W_block ?_)|((with_reducible apply q_cond);refine X_cond rfl ?_ ?_;all_goals (intro hbq;(try simp only [bq] at hbq);(try (exfalso;omega))))|refine Rex.o (by (with_reducible constructor);apply Eq.refl) ?_|((with_reducible apply q_VOk);exact fun _ => ⟨rfl,rfl⟩)|((with_reducible apply q_CRB);kernel_rfl)|omega)
    all_goals first | rfl | (exfalso; simp_all; done)
   ·rw [if_neg (by exact hp)]
    repeat' (first|with_reducible (first|refine q_and ?_ ?_|exact True.intro|exact TkEq.nil _|refine Red.o (by constructor) ?_|assumption)|with_reducible (first|refine W_seq ?_|refine W_block ?_)|((with_reducible apply q_cond);refine X_cond rfl ?_ ?_;all_goals (intro hbq;(try simp only [bq] at hbq);(try (exfalso;omega))))|refine Rex.o (by (with_reducible constructor);apply Eq.refl) ?_|((with_reducible apply q_VOk);exact fun _ => ⟨rfl,rfl⟩)|((with_reducible apply q_CRB);kernel_rfl)|omega)
    all_goals first | rfl | (exfalso; simp_all; done)
  ·have ht : toB b (hs.getD i ⟨0, 0, 0, 0⟩) = false := by simpa using ht
   have ht2 : ¬ ((hs.getD (i : Int).toNat ⟨0, 0, 0, 0⟩).sec = b.sec ∧ (hs.getD (i : Int).toNat ⟨0, 0, 0, 0⟩).dir = b.dir) := by
    unfold toB at ht
    simpa using ht
   repeat' (first|with_reducible (first|refine q_and ?_ ?_|exact True.intro|refine Red.o (by constructor) ?_|assumption)|with_reducible (first|refine W_seq ?_|refine W_block ?_)|((with_reducible apply q_cond);refine X_cond rfl ?_ ?_;all_goals (intro hbq;(try simp only [bq] at hbq);(try (exfalso;omega))))|refine Rex.o (by (with_reducible constructor);apply Eq.refl) ?_|((with_reducible apply q_VOk);exact fun _ => ⟨rfl,rfl⟩)|((with_reducible apply q_CRB);kernel_rfl)|omega)
   all_goals first
    | (exfalso; omega)
    | (
     refine LoopK_n (i + 1) ?_ (⟨by omega, upto_succ hno ht⟩) (by (try dsimp only); omega)
     refine X_weak rfl rfl rfl ?_ ?_ <;> repeat' (first|with_reducible (first|refine Wk.o (by constructor) ?_|refine q_and ?_ ?_|exact True.intro)|refine q_AgS rfl ?_ ?_|exact (rfl : known _ = _)|omega)
     done)
 ·have hf := find_no (p := toB b) (d := ⟨0, 0, 0, 0⟩) (l := hs) (fun j hj => hno j (by omega))
  rw [hf]
  repeat' (first|with_reducible (first|refine q_and ?_ ?_|exact True.intro|exact TkEq.nil _|refine Red.o (by constructor) ?_|fail)|with_reducible (refine W_seq ?_)|((with_reducible apply q_cond);refine X_cond rfl ?_ ?_;all_goals (intro hbq;(try simp only [bq] at hbq);(try (exfalso;omega))))|refine Rex.o (by (with_reducible constructor);apply Eq.refl) ?_|fail)
  all_goals rfl
def seenR (L : Lay) (st : List Stp) (i : Nat) (q : Nat) : Bool := decide (L.secs.length ≤ q) && seenP L st i (q - L.secs.length)
theorem seenR_pt (L : Lay) (st : List Stp) (i p : Nat) : seenR L st i (L.secs.length + p) = seenP L st i p := by
 unfold seenR
 rw [decide_eq_true (by omega), Bool.true_and, show L.secs.length + p - L.secs.length = p by omega]
theorem seenR_step {L : Lay} {st : List Stp} {i : Nat} (h : ptI L st i < 0) (q : Nat) : seenR L st (i + 1) q = seenR L st i q := by
 unfold seenR
 rw [seenP_succ, decide_eq_false (show ¬ ptI L st i = ((q - L.secs.length : Nat) : Int) by omega), Bool.or_false]
theorem rFits_ok (L : Lay) (hL : LayFits L) (st : List Stp) (ov : Int) (hl : st.length ≤ 9223372036854775807) (ho : -9223372036854775808 ≤ ov ∧ ov ≤ 9223372036854775807) (nm : ByteArray) (l sp ac br : Int) : OkV Tryz.prog 14 [vLay L, vR2 st ov, vS5 nm l sp ac br] [] (vI (motErr L ⟨st, ov⟩ l sp ac br)) [] := by
 have hF := refFits_ok L hL st ov hl ho nm l sp ac br
 unfold motErr
 by_cases h : fitErr L ⟨st, ov⟩ l sp ac br = 0
 ·have hR := rte_of (cel_rte (fit_of h).1)
  have hV := valid_of hR.lay
  have hn := hR.len
  have h2 := hR.two
  have h3 := hR.ov0
  have hn2 := hV.n2
  have hn3 := hV.n3
  have hpr : ∀ i, i < st.length → -1 ≤ ptI L st i ∧ ptI L st i < L.pts.length := fun i hi => ptI_rng hR hi
  have hP : ∀ i, i + 1 < st.length → OkV Tryz.prog 36 [vLay L, vSt (st.getD (i : Int).toNat st0), vSt (st.getD ((i : Int) + 1).toNat st0)] [] (vI (if ptI L st (i + 1) < 0 then -1 else L.secs.length + ptI L st (i + 1))) [] := fun i hi => by
   have hj := join_at hR (i := i + 1) (by omega) hi
   have hp := pointOf_ok L (st.getD i st0) (st.getD (i + 1) st0) hV (fun k hk => by
    obtain ⟨k2, e, _, b⟩ := hj
    rw [show i + 1 - 1 = i by omega] at e
    simp only at e
    rw [hk] at e
    injection e with e
    rw [e]; exact b)
   unfold ptR at hp
   have ei : ptI L st (i + 1) = ((joinL L (st.getD i st0) (st.getD (i + 1) st0)).map Hop.pt).getD (-1) := by unfold ptI; rw [if_neg (by omega)]; rfl
   rw [ei, Int.toNat_natCast, show ((i : Int) + 1).toNat = i + 1 by omega]
   exact hp
  simp only at hn h2 h3
  rw [h] at hF
  rw [h, if_neg (by decide)]
  unfold vLay at hF hP ⊢
  have z2 : ptI L st 0 < 0 := by unfold ptI; rw [if_pos rfl]; decide
  have z1 : dupPA L st 0 = false := by unfold dupPA; rw [decide_eq_false (by omega), Bool.false_and]
  refine X_fn mixedX Tryz.func14 rfl (by kernel_rfl) (Nat.le_of_ble_eq_true (by kernel_rfl)) (by kernel_rfl) rfl rfl (Nat.le_of_ble_eq_true rfl) rfl rfl ?_
  simp only [sl0, Nat.zero_add, Nat.reduceAdd]
  repeat' (first|with_reducible (first|refine q_and ?_ ?_|exact True.intro|refine Red.o (by constructor) ?_|fail)|((with_reducible apply q_call);refine X_pure (hF) rfl ?_)|with_reducible (first|refine W_seq ?_|refine W_block ?_)|((with_reducible apply q_cond);refine X_cond rfl ?_ ?_;all_goals (intro hbq;(try simp only [bq] at hbq);(try (exfalso;omega))))|refine Rex.o (by (with_reducible constructor);apply Eq.refl) ?_|fail)
  clear hF
  refine W_loopS (fun i : Nat => SS [sC 3 (pB 0), sC 4 (pB 1), sC 8 (pB 3), sI 9 i] [bLay L, bRte st ov, none, bBool (rowT 144 (seenR L st (i + 1)))]) (fun i => i + 1 ≤ st.length ∧ ∀ j, j < i + 1 → dupPA L st j = false) (fun i => st.length - i) 0 ?_ ⟨by omega, fun j hj => by rw [show j = 0 by omega]; exact z1⟩ ?_
  ·
   refine X_weak rfl rfl rfl ?_ ?_ <;> repeat' (first|with_reducible (first|refine Wk.o (by constructor) ?_|refine q_and ?_ ?_|exact True.intro)|refine q_AgS rfl ?_ ?_|exact (rfl : known _ = _)|omega)
   all_goals first
    | rfl
    | (
     rw [rowT_rep]
     refine rowT_ext fun q hq => ?_
     rw [seenR_step z2]
     unfold seenR seenP
     rw [List.range_zero, List.any_nil, Bool.and_false])
  rintro i ⟨hi, hno⟩
  have hsl := rowT_len 144 (seenR L st (i + 1))
  by_cases hil : i + 1 < st.length
  ·have hpi := hpr (i + 1) hil
   have hPi := hP i hil
   by_cases h0 : 0 ≤ ptI L st (i + 1)
   ·rw [if_neg (by omega)] at hPi
    have hd := seenP_dup h0
    have hg2 : (rowT 144 (seenR L st (i + 1))).getD ((L.secs.length : Int) + ptI L st (i + 1)).toNat false = seenP L st (i + 1) (ptI L st (i + 1)).toNat := by
     rw [show ((L.secs.length : Int) + ptI L st (i + 1)).toNat = L.secs.length + (ptI L st (i + 1)).toNat by omega, ← seenR_pt]
     exact rowT_get (by omega)
    by_cases hs : seenP L st (i + 1) (ptI L st (i + 1)).toNat = true
    ·rw [hs] at hg2 hd
     rw [if_pos (dupP_yes hil hd)]
     repeat' (first|with_reducible (first|refine q_and ?_ ?_|exact True.intro|exact TkEq.nil _|refine Red.o (by constructor) ?_|assumption)|((with_reducible apply q_call);refine X_pure (hPi) rfl ?_)|((with_reducible apply q_cond);refine X_cond rfl ?_ ?_;all_goals (intro hbq;(try simp only [bq,and_true,true_and,and_false,false_and,or_true,true_or,or_false,false_or,not_true_eq_false,not_false_eq_true,Bool.true_eq_false,Bool.false_eq_true,hg2] at hbq);(try (exfalso;omega))))|with_reducible (first|refine W_seq ?_|refine W_block ?_)|refine Rex.o (by (with_reducible constructor);apply Eq.refl) ?_|(intro (hgq : (_ : Bool) = true);(try simp only [bq] at hgq))|((with_reducible apply q_VOk);exact fun _ => ⟨rfl,rfl⟩)|((with_reducible apply q_CRB);kernel_rfl)|((with_reducible apply q_bt);simp only [bq])|omega)
     all_goals rfl
    ·have hs : seenP L st (i + 1) (ptI L st (i + 1)).toNat = false := by simpa using hs
     rw [hs] at hg2 hd
     repeat' (first|with_reducible (first|refine q_and ?_ ?_|exact True.intro|refine Red.o (by constructor) ?_|assumption)|((with_reducible apply q_call);refine X_pure (hPi) rfl ?_)|((with_reducible apply q_cond);refine X_cond rfl ?_ ?_;all_goals (intro hbq;(try simp only [bq,and_true,true_and,and_false,false_and,or_true,true_or,or_false,false_or,not_true_eq_false,not_false_eq_true,Bool.true_eq_false,Bool.false_eq_true,hg2] at hbq);(try (exfalso;omega))))|with_reducible (first|refine W_seq ?_|refine W_block ?_)|refine Rex.o (by (with_reducible constructor);apply Eq.refl) ?_|(intro (hgq : (_ : Bool) = true);(try simp only [bq] at hgq))|((with_reducible apply q_VOk);exact fun _ => ⟨rfl,rfl⟩)|((with_reducible apply q_CRB);kernel_rfl)|((with_reducible apply q_bt);simp only [bq])|omega)
     ·rfl
     ·
      refine LoopK_n (i + 1) ?_ (⟨by omega, upto_succ hno hd⟩) (by (try dsimp only); omega)
      refine X_weak rfl rfl rfl ?_ ?_ <;> repeat' (first|with_reducible (first|refine Wk.o (by constructor) ?_|refine q_and ?_ ?_|exact True.intro)|refine q_AgS rfl ?_ ?_|exact (rfl : known _ = _)|omega)
      all_goals (
       rw [show ((L.secs.length : Int) + ptI L st (i + 1)).toNat = L.secs.length + (ptI L st (i + 1)).toNat by omega]
       refine rowT_set (i := L.secs.length + (ptI L st (i + 1)).toNat) ?_ fun q hq hne => ?_
       ·rw [seenR_pt, seenP_succ, decide_eq_true (show ptI L st (i + 1) = ((ptI L st (i + 1)).toNat : Int) by omega), Bool.or_true]
       ·unfold seenR
        by_cases hlq : L.secs.length ≤ q
        ·rw [seenP_succ, decide_eq_false (show ¬ ptI L st (i + 1) = ((q - L.secs.length : Nat) : Int) by omega), Bool.or_false]
        ·rw [decide_eq_false hlq, Bool.false_and, Bool.false_and])
   ·rw [if_pos (by omega)] at hPi
    have hd : dupPA L st (i + 1) = false := by unfold dupPA; rw [decide_eq_false h0, Bool.false_and]
    repeat' (first|with_reducible (first|refine q_and ?_ ?_|exact True.intro|refine Red.o (by constructor) ?_|assumption)|((with_reducible apply q_call);refine X_pure (hPi) rfl ?_)|with_reducible (first|refine W_seq ?_|refine W_block ?_)|((with_reducible apply q_cond);refine X_cond rfl ?_ ?_;all_goals (intro hbq;(try simp only [bq] at hbq);(try (exfalso;omega))))|refine Rex.o (by (with_reducible constructor);apply Eq.refl) ?_|(intro (hgq : (_ : Bool) = true);(try simp only [bq] at hgq))|((with_reducible apply q_VOk);exact fun _ => ⟨rfl,rfl⟩)|((with_reducible apply q_CRB);kernel_rfl)|((with_reducible apply q_bt);simp only [bq])|omega)
    ·
     refine LoopK_n (i + 1) ?_ (⟨by omega, upto_succ hno hd⟩) (by (try dsimp only); omega)
     refine X_weak rfl rfl rfl ?_ ?_ <;> repeat' (first|with_reducible (first|refine Wk.o (by constructor) ?_|refine q_and ?_ ?_|exact True.intro)|refine q_AgS rfl ?_ ?_|exact (rfl : known _ = _)|omega)
     all_goals (
      refine rowT_ext fun q hq => ?_
      exact (seenR_step (i := i + 1) (by omega) q).symm)
  ·have hie : st.length = i + 1 := by omega
   rw [dupP_no (fun j hj => hno j (by omega)), if_neg (by decide)]
   repeat' (first|with_reducible (first|refine q_and ?_ ?_|exact True.intro|exact TkEq.nil _|refine Red.o (by constructor) ?_|fail)|with_reducible (refine W_seq ?_)|((with_reducible apply q_cond);refine X_cond rfl ?_ ?_;all_goals (intro hbq;(try simp only [bq] at hbq);(try (exfalso;omega))))|refine Rex.o (by (with_reducible constructor);apply Eq.refl) ?_|omega)
   all_goals rfl
 ·rw [if_pos h]
  unfold vLay at hF ⊢
  refine X_fn mixedX Tryz.func14 rfl (by kernel_rfl) (Nat.le_of_ble_eq_true (by kernel_rfl)) (by kernel_rfl) rfl rfl (Nat.le_of_ble_eq_true rfl) rfl rfl ?_
  simp only [sl0, Nat.zero_add, Nat.reduceAdd]
  repeat' (first|with_reducible (first|refine q_and ?_ ?_|exact True.intro|exact TkEq.nil _|refine Red.o (by constructor) ?_|fail)|((with_reducible apply q_call);refine X_pure (hF) rfl ?_)|with_reducible (refine W_seq ?_)|((with_reducible apply q_cond);refine X_cond rfl ?_ ?_;all_goals (intro hbq;(try simp only [bq] at hbq);(try (exfalso;omega))))|refine Rex.o (by (with_reducible constructor);apply Eq.refl) ?_|fail)
  all_goals rfl
theorem same_int_ok (l : List Int) (hl : l.length ≤ 9223372036854775807) : OkV Tryz.prog 33 [.c (rInt l), .c (rInt l)] [] (vB true) [] := by
 refine X_fnP mixedX Tryz.func33 rfl (by kernel_rfl) (Nat.le_of_ble_eq_true (by kernel_rfl)) (by kernel_rfl) rfl rfl ?_
 simp only [sl0, Nat.zero_add, Nat.reduceAdd]
 repeat' (first|with_reducible (first|refine q_and ?_ ?_|exact True.intro|refine Red.o (by constructor) ?_|fail)|with_reducible (first|refine W_seq ?_|refine W_block ?_)|((with_reducible apply q_cond);refine X_cond rfl ?_ ?_;all_goals (intro hbq;(try simp only [bq] at hbq);(try (exfalso;omega))))|refine Rex.o (by (with_reducible constructor);apply Eq.refl) ?_|fail)
 refine W_loopS (fun i : Nat => SS [sC 0 (rInt l), sC 1 (rInt l), sI 12 l.length, sI 13 i] []) (fun i => i ≤ l.length) (fun i => l.length - i) 0 ?_ (by omega) ?_
 ·
  refine X_weak rfl rfl rfl ?_ ?_ <;> repeat' (first|with_reducible (first|refine Wk.o (by constructor) ?_|refine q_and ?_ ?_|exact True.intro)|refine q_AgS rfl ?_ ?_|exact (rfl : known _ = _)|omega)
 ·intro i hi
  repeat' (first|with_reducible (first|refine q_and ?_ ?_|exact True.intro|refine Red.o (by constructor) ?_|assumption)|with_reducible (first|refine W_seq ?_|refine W_block ?_)|((with_reducible apply q_cond);refine X_cond rfl ?_ ?_;all_goals (intro hbq;(try simp only [bq] at hbq);(try (exfalso;omega))))|refine Rex.o (by (with_reducible constructor);apply Eq.refl) ?_|((with_reducible apply q_VOk);exact fun _ => ⟨rfl,rfl⟩)|((with_reducible apply q_CRB);kernel_rfl)|omega)
  ·
   refine LoopK_n (i + 1) ?_ ((by omega)) (by (try dsimp only); omega)
   refine X_weak rfl rfl rfl ?_ ?_ <;> repeat' (first|with_reducible (first|refine Wk.o (by constructor) ?_|refine q_and ?_ ?_|exact True.intro)|refine q_AgS rfl ?_ ?_|exact (rfl : known _ = _)|omega)
  ·rfl
def exTxt : List UInt8 := [115, 101, 99, 116, 105, 111, 110, 32, 65, 32, 52, 48, 32, 51, 48, 48, 48, 48, 32, 48, 10, 115, 101, 99, 116, 105, 111, 110, 32, 66, 32, 50, 48, 32, 51, 48, 48, 48, 48, 32, 48, 10, 115, 101, 99, 116, 105, 111, 110, 32, 67, 32, 50, 48, 32, 51, 48, 48, 48, 48, 32, 48, 10, 108, 105, 110, 107, 32, 65, 32, 66, 32, 66, 32, 65, 10, 108, 105, 110, 107, 32, 66, 32, 66, 32, 67, 32, 65, 10]
def exL : Lay := ⟨[], [], [⟨bL [65], 40, 30000, 0, -1⟩, ⟨bL [66], 20, 30000, 0, -1⟩, ⟨bL [67], 20, 30000, 0, -1⟩], [⟨0, 1, 1, 0, -1, 0⟩, ⟨1, 1, 2, 0, -1, 0⟩]⟩
def exSt : List Stp := [⟨0, 0⟩, ⟨1, 0⟩, ⟨2, 0⟩]
theorem exL_fits : LayFits exL := ⟨fun x hx => (by cases hx), fun x hx => (by cases hx), fun x hx => (by
 simp only [exL, List.map_cons, List.map_nil, List.mem_cons, List.not_mem_nil, or_false] at hx
 rcases hx with rfl | rfl | rfl <;> decide), by decide, by decide, by decide, by decide⟩
theorem exL_ok : layErr exL = 0 := by kernel_rfl
theorem ex_parse : parseL exTxt = some exL := by kernel_rfl
theorem ex_lines : okF (exTxt.length + 1) exTxt 1 = true := by kernel_rfl
theorem ex_many : (linesF (exTxt.length + 1) exTxt 1).length ≤ 500 := by
 have h : (linesF (exTxt.length + 1) exTxt 1).length = 5 := by kernel_rfl
 omega
theorem ex_mot : motErr exL ⟨exSt, 0⟩ 20 30000 500 500 = 0 := by kernel_rfl
theorem ex_need : row 2 (needF exL (partR exSt 0 0 2) 20 30000 500 500) = [-16, -16] := by kernel_rfl
theorem example_ok : OkV Tryz.prog 34 [] [] (.tup [.agg [rStr exL.sts, rStr exL.pts, rSec exL.secs, rLnk exL.lnks], .agg [rStp exSt, xI 0], .agg [xS ⟨#[]⟩, xI 20, xI 30000, xI 500, xI 500]]) [] := by
 have hP := parse_ok exTxt exL (by decide) ex_lines ex_parse ex_many exL_ok exL_fits
 generalize exL = L at *
 unfold exTxt bL at hP
 unfold exSt
 refine X_fnP mixedX Tryz.func34 rfl (by kernel_rfl) (Nat.le_of_ble_eq_true (by kernel_rfl)) (by kernel_rfl) rfl rfl ?_
 simp only [sl0, Nat.zero_add, Nat.reduceAdd]
 repeat' (first|with_reducible (first|refine q_and ?_ ?_|exact True.intro|refine Red.o (by constructor) ?_|fail)|((with_reducible apply q_call);refine X_pure (hP) rfl ?_)|with_reducible (refine W_seq ?_)|refine Rex.o (by (with_reducible constructor);apply Eq.refl) ?_|fail)
 repeat' (first|with_reducible (first|refine Wk.o (by constructor) ?_|refine q_and ?_ ?_|exact True.intro)|refine VEq.tup ?_|rfl)
theorem ex_walk0 : wlkErr exL exSt 0 20 30000 500 500 [0, -100, 500] 0 0 = 0 := by kernel_rfl
theorem ride_le {L : Lay} {r : Rte} {l sp ac br : Int} (h : Ride L r l sp ac br) {j : Nat} (hj : j ≤ endA L (trv r) ((trv r).length - 1)) : rideT L r l sp ac br j ≤ 20000 * (j : Int) := by
 obtain ⟨hc, hn, hall, h0, h2⟩ := bad_zero h.bad
 obtain ⟨l1, l2, l3, l4, l5, l6, l7, l8⟩ := chk_of hc
 have h1 := h.one
 have h3 := h.all
 unfold rideT
 exact (tim_range (start := (celOne L r).toNat) (l := l.toNat) l3 l4 l5 l6 l7 l8 hall (by omega) j (by omega)).2
theorem ex_run : runN exL exSt 0 20 30000 500 500 0 1 ≤ 400 := by
 have hR := ride_of (partR_fit (a := 0) (b := 1) (mot_of ex_mot).1 (by omega) (by decide))
 have e : endA exL (trv (partR exSt 0 0 1)) ((trv (partR exSt 0 0 1)).length - 1) = 20 := by kernel_rfl
 have h := ride_le hR (Nat.le_refl _)
 have g := hR.rng _ (Nat.le_refl _)
 obtain ⟨b1, b2⟩ := Pl.cdiv_bracket (rideT exL (partR exSt 0 0 1) 20 30000 500 500 (endA exL (trv (partR exSt 0 0 1)) ((trv (partR exSt 0 0 1)).length - 1))) 1000 (by omega)
 unfold runN runI
 rw [e] at *
 omega
theorem ex_need1 : needN exL exSt 0 20 30000 500 500 0 1 = -16 := by
 have h : (row 2 (needF exL (partR exSt 0 0 2) 20 30000 500 500)).getD 1 0 = needF exL (partR exSt 0 0 2) 20 30000 500 500 1 := row_get (by omega)
 rw [ex_need] at h
 exact h.symm
theorem ex_walk : ∃ u v, walkL exL exSt 0 20 30000 500 500 [0, -100, 500] 0 0 = [⟨0, 1, 0, u⟩, ⟨1, 2, 516, v⟩] := by
 have h1 := ex_need1
 have h2 := ex_run
 unfold walkL
 rw [show lastN exSt 0 = 2 from rfl]
 generalize needN exL exSt 0 20 30000 500 500 = N at *
 generalize runN exL exSt 0 20 30000 500 500 = R at *
 generalize ovlN exL exSt 0 20 30000 500 500 = O at *
 have d0 : legD (fun i => ([0, -100, 500] : List Int).getD i 0) 0 0 = 0 := by decide
 have r0 : legR (fun i => ([0, -100, 500] : List Int).getD i 0) 2 N 0 0 = 2 := by
  unfold legR
  rw [d0, refI, if_neg (by omega), if_pos (by rw [h1]; decide)]
 have b0 : legB (fun i => ([0, -100, 500] : List Int).getD i 0) 2 N 0 0 = 1 := by unfold legB; rw [r0]; rfl
 have s0 : legS (fun i => ([0, -100, 500] : List Int).getD i 0) 2 N R O 0 0 0 0 = R 0 1 := by unfold legS; rw [r0, d0, if_pos (by omega)]; exact Int.zero_add _
 have d1 : legD (fun i => ([0, -100, 500] : List Int).getD i 0) 1 (R 0 1) = 516 := by
  show max (R 0 1) (500 + 16) = 516
  omega
 have r1 : legR (fun i => ([0, -100, 500] : List Int).getD i 0) 2 N 1 (R 0 1) = 0 := by
  unfold legR
  rw [refI, if_pos (by omega)]
 have b1 : legB (fun i => ([0, -100, 500] : List Int).getD i 0) 2 N 1 (R 0 1) = 2 := by unfold legB; rw [r1]; rfl
 refine ⟨R 0 1, legS (fun i => ([0, -100, 500] : List Int).getD i 0) 2 N R O 0 0 1 (R 0 1), ?_⟩
 rw [wlk, if_pos (by omega), b0, s0, d0, wlk, if_pos (by omega), b1, d1, wlk, if_neg (by omega)]
 rfl
theorem awake_ok : OkV Tryz.prog 13 [] [] (vB true) [] := by
 have h1 := example_ok
 have h2 := make_ok exL exL_fits exSt 0 (by decide) (by omega) ⟨#[]⟩ 20 30000 500 500 0 2 ex_mot (by omega) (by decide)
 have h3 := walk_ok exL exL_fits exSt 0 (by decide) (by omega) ⟨#[]⟩ 20 30000 500 500 0 0 [0, -100, 500] ex_walk0
 obtain ⟨u, v, hw⟩ := ex_walk
 rw [hw] at h3
 have w1 : [(⟨0, 1, 0, u⟩ : Leg), ⟨1, 2, 516, v⟩].length = 2 := rfl
 have w2 : ([(⟨0, 1, 0, u⟩ : Leg), ⟨1, 2, 516, v⟩].getD (1 : Int).toNat { a := 0, b := 0, go := 0, stop := 0 }).go = 516 := rfl
 have w3 : ([(⟨0, 1, 0, u⟩ : Leg), ⟨1, 2, 516, v⟩].getD (1 : Int).toNat { a := 0, b := 0, go := 0, stop := 0 }).a = 1 := rfl
 unfold lPro at h2
 rw [show 2 - 0 = 2 from rfl, ex_need] at h2
 generalize [(⟨0, 1, 0, u⟩ : Leg), ⟨1, 2, 516, v⟩] = W at *
 generalize row 2 (passF exL (partR exSt 0 0 2) 20 30000 500 500) = P1 at *
 generalize row 2 (clrF exL (partR exSt 0 0 2) 20 30000 500 500) = P2 at *
 generalize ovlF exL (partR exSt 0 0 2) 20 30000 500 500 2 = P3 at *
 generalize runI exL (partR exSt 0 0 2) 20 30000 500 500 = P4 at *
 generalize exL = L at *
 generalize exSt = st at *
 unfold vLay at h2 h3
 have h2 : OkV Tryz.prog 10 [.agg [rStr L.sts, rStr L.pts, rSec L.secs, rLnk L.lnks], vR2 st 0, vS5 ⟨#[]⟩ 20 30000 500 500, .c (xI 0), .c (xI 2)] [] (.tup [.agg (lPro7 0 2 [-16, -16] P1 P2 P3 P4), .c (xI 0)]) [] := h2
 have h3 : OkV Tryz.prog 20 [.agg [rStr L.sts, rStr L.pts, rSec L.secs, rLnk L.lnks], vR2 st 0, vS5 ⟨#[]⟩ 20 30000 500 500, .c (xI 0), .c (.c (.f (.row [.v (.int .i64 0), .v (.int .i64 (-100)), .v (.int .i64 500)] 3))), .c (xI 0)] [] (.tup [.c (rLeg W), .c (xI 0)]) [] := h3
 have hQ := same_int_ok [-16, -16] (by show 2 ≤ 9223372036854775807; omega)
 have hQ2 : OkV Tryz.prog 33 [.c (rInt [-16, -16]), .c (.c (.f (.row [.v (.int .i64 (-16)), .v (.int .i64 (-16))] 2)))] [] (vB true) [] := hQ
 refine X_fnP mixedX Tryz.func13 rfl (by kernel_rfl) (Nat.le_of_ble_eq_true (by kernel_rfl)) (by kernel_rfl) rfl rfl ?_
 simp only [sl0, Nat.zero_add, Nat.reduceAdd]
 repeat' (first|with_reducible (first|refine q_and ?_ ?_|exact True.intro|refine Red.o (by constructor) ?_|assumption)|((with_reducible apply q_call);first|refine X_pure (h1) rfl ?_|refine X_pure (h2) rfl ?_|refine X_pure (h3) rfl ?_)|((with_reducible apply q_callG);refine X_pureG ((fun _ => hQ2)) rfl ?_ ?_)|with_reducible (refine W_seq ?_)|refine Rex.o (by (with_reducible constructor);apply Eq.refl) ?_|(intro (hgq : (_ : Bool) = true);(try simp only [bq] at hgq))|((with_reducible apply q_VOk);exact fun _ => ⟨rfl,rfl⟩)|((with_reducible apply q_bt);simp only [bq])|(simp only [hgq,bq];done)|omega)
 all_goals (rw [w2, w3, w1]; rfl)
def pick (v : Int) (n : Nat) : Nat := (v % 18446744073709551616).toNat % n
theorem pick_lt (v : Int) {n : Nat} (h : 0 < n) : pick v n < n := Nat.mod_lt _ h
theorem wrapU64 (v : Int) : IntKind.u64.wrap v = v % 18446744073709551616 := by
 simp only [IntKind.wrap]
 simp [IntKind.bits, IntKind.signed]
theorem pick_eq (v : Int) (n : Nat) (h0 : 0 < n) (hn : n ≤ 9223372036854775807) : (IntKind.u64.wrap v).tmod (IntKind.u64.wrap (n : Int)) = (pick v n : Int) := by
 have e1 : IntKind.u64.wrap (n : Int) = n := by rw [wrapU64]; omega
 rw [e1, wrapU64]
 have h1 : 0 ≤ v % 18446744073709551616 := Int.emod_nonneg _ (by omega)
 obtain ⟨m, hm⟩ := Int.eq_ofNat_of_zero_le h1
 rw [hm, ← Int.ofNat_tmod]
 unfold pick
 rw [hm, Int.toNat_natCast]
theorem pick_ok (v : Int) (n : Nat) (h0 : 0 < n) (hn : n ≤ 9223372036854775807) : OkV Tryz.prog 18 [vI v, vI n] [] (vI (pick v n)) [] := by
 have e1 : IntKind.u64.wrap (n : Int) = n := by rw [wrapU64]; omega
 have hz : IntKind.u64.wrap (n : Int) ≠ 0 := by rw [e1]; omega
 have e2 := pick_eq v n h0 hn
 have e3 := pick_lt v h0
 refine X_fnP mixedX Tryz.func18 rfl (by kernel_rfl) (Nat.le_of_ble_eq_true (by kernel_rfl)) (by kernel_rfl) rfl rfl ?_
 simp only [sl0, Nat.zero_add, Nat.reduceAdd]
 repeat' (first|with_reducible (first|refine W_seq ?_|refine seqK_n ?_|refine W_ret ?_|refine W_region (WOps_WR ?_)|refine WR_nil ?_|refine q_and ?_ ?_|exact True.intro|assumption)|((with_reducible apply q_WR);refine X_run rfl ?_ ?_)|((with_reducible apply q_retP);refine X_retP tabOk trivial rfl rfl ?_ ?_)|omega)
 repeat' (first|with_reducible (refine CEq.int ?_)|refine VEq.c ?_|omega)
structure Src where
 l : List Int
 i : Nat
def Src.ok (s : Src) : Prop := s.i ≤ s.l.length ∧ s.l.length ≤ 9223372036854775807
def Src.box (s : Src) : SB := .cells [rInt s.l, xI s.i]
def Src.nx (s : Src) (n : Nat) : Nat := match s.l[s.i]? with
 | some v => pick v n
 | none => 0
def Src.af (s : Src) : Src := if s.i < s.l.length then { s with i := s.i + 1 } else s
theorem Src.nx_lt (s : Src) {n : Nat} (h : 0 < n) : s.nx n < n := by
 unfold Src.nx
 split
 ·exact pick_lt _ h
 ·exact h
theorem Src.af_ok {s : Src} (h : s.ok) : s.af.ok := by
 obtain ⟨h1, h2⟩ := h
 unfold Src.af
 split
 ·exact ⟨by simp only; omega, h2⟩
 ·exact ⟨h1, h2⟩
theorem next_ok (s : Src) (n : Nat) (hs : s.ok) (h0 : 0 < n) (hn : n ≤ 9223372036854775807) : OkV Tryz.prog 19 [.c (pB 0), vI n] [some s.box] (vI (s.nx n)) [some s.af.box] := by
 obtain ⟨l, i⟩ := s
 obtain ⟨h1, h2⟩ := hs
 simp only at h1 h2
 unfold Src.box Src.nx Src.af
 simp only
 refine X_fn mixedX Tryz.func19 rfl (by kernel_rfl) (Nat.le_of_ble_eq_true (by kernel_rfl)) (by kernel_rfl) rfl rfl (Nat.le_of_ble_eq_true rfl) rfl rfl ?_
 simp only [sl0, Nat.zero_add, Nat.reduceAdd]
 have hP := pick_ok (l.getD ((i : Int) + 1 - 1).toNat 0) n h0 hn
 repeat' (first|with_reducible (first|refine WR_pd ?_|refine W_seq ?_|refine seqK_n ?_|refine seqK_r ?_|refine W_skip ?_|refine W_ret ?_|refine W_region (WOps_WR ?_)|refine W_draw (WOpsD_WR ?_)|refine WR_nil ?_|refine q_and ?_ ?_|exact True.intro)|((with_reducible apply q_call);refine X_pure (hP) rfl ?_)|((with_reducible apply q_WR);first|refine X_run rfl ?_ ?_|refine WR_nilD (by kernel_rfl) ?_|fail)|((with_reducible apply q_cond);refine X_cond rfl ?_ ?_;all_goals (intro hbq;(try simp only [bq] at hbq);(try (exfalso;omega))))|((with_reducible apply q_ret);refine X_ret tabOk trivial rfl rfl ?_ ?_)|((with_reducible apply q_VOk);exact fun _ => ⟨rfl,rfl⟩)|omega)
 ·rw [List.getElem?_eq_none (by omega)]
  repeat' (first|with_reducible (refine CEq.int ?_)|refine VEq.c ?_|rfl)
 ·rw [if_neg (by omega)]
  repeat' (with_reducible (first|exact TkEq.nil _|refine TkEq.cells ?_ ?_|exact SEqL.nil|refine SEqL.cons ?_ ?_|exact CEq.refl _))
 ·rw [show ((i : Int) + 1 - 1).toNat = ((i : Int)).toNat by omega, ← Int.toNat_natCast i, getD_nth (d := 0) (l := l) (by omega) (by omega)]
  repeat' (first|with_reducible (refine CEq.int ?_)|refine VEq.c ?_|rfl)
 ·rw [if_pos (by omega)]
  repeat' (first|with_reducible (first|exact TkEq.nil _|refine TkEq.cells ?_ ?_|exact SEqL.nil|refine SEqL.cons ?_ ?_|exact CEq.refl _|refine CEq.int ?_)|rfl)
def digits : ByteArray := ⟨#[48, 49, 50, 51, 52, 53, 54, 55, 56, 57]⟩
def nameN (w : ByteArray) (n : Nat) : ByteArray := w ++ digits.extract (n % 10) (n % 10 + 1)
theorem digit_size (n : Nat) : (digits.extract (n % 10) (n % 10 + 1)).size = 1 := by
 rw [ByteArray.size_extract]
 have : digits.size = 10 := rfl
 omega
theorem named_ok (w : ByteArray) (n : Nat) (hw : w.size ≤ 1000) (hn : n ≤ 1000000) : OkV Tryz.prog 66 [vS w, vI n] [] (vS (nameN w n)) [] := by
 have z : (⟨#[48, 49, 50, 51, 52, 53, 54, 55, 56, 57]⟩ : ByteArray).size = 10 := rfl
 have e1 : ((n : Int) % 10).toNat = n % 10 := by omega
 have e2 : ((n : Int) % 10 + 1).toNat = n % 10 + 1 := by omega
 have hsz := digit_size n
 unfold digits at hsz
 unfold nameN digits
 refine X_fnP mixedX Tryz.func66 rfl (by kernel_rfl) (Nat.le_of_ble_eq_true (by kernel_rfl)) (by kernel_rfl) rfl rfl ?_
 simp only [sl0, Nat.zero_add, Nat.reduceAdd]
 repeat' (first|with_reducible (first|refine W_seq ?_|refine seqK_n ?_|refine W_ret ?_|refine W_region (WOps_WR ?_)|refine WR_nil ?_|refine q_and ?_ ?_|exact True.intro)|((with_reducible apply q_WR);refine X_run rfl ?_ ?_)|((with_reducible apply q_retP);refine X_retP tabOk trivial rfl rfl ?_ ?_)|omega)
 ·rw [e1, e2, hsz]; omega
 ·rw [e1, e2]
  repeat' (first|with_reducible (exact CEq.refl _)|refine VEq.c ?_)
theorem nameN_size (w : ByteArray) (n : Nat) : (nameN w n).size = w.size + 1 := by
 unfold nameN
 rw [ByteArray.size_append, digit_size]
def Src.sec (s : Src) (nm : ByteArray) (st : Int) : Sec := ⟨nm, 2 + s.nx 9, 5000 + 5000 * s.af.nx 7, s.af.af.nx 21 - 10, st⟩
theorem section_ok (s : Src) (nm : ByteArray) (st : Int) (hs : s.ok) : OkV Tryz.prog 67 [.c (pB 0), vS nm, vI st] [some s.box] (.agg (vSec (s.sec nm st))) [some s.af.af.af.box] := by
 have k1 := s.nx_lt (n := 9) (by omega)
 have k2 := s.af.nx_lt (n := 7) (by omega)
 have k3 := s.af.af.nx_lt (n := 21) (by omega)
 have h1 := next_ok s 9 hs (by omega) (by omega)
 have h2 := next_ok s.af 7 (Src.af_ok hs) (by omega) (by omega)
 have h3 := next_ok s.af.af 21 (Src.af_ok (Src.af_ok hs)) (by omega) (by omega)
 refine X_fn mixedX Tryz.func67 rfl (by kernel_rfl) (Nat.le_of_ble_eq_true (by kernel_rfl)) (by kernel_rfl) rfl rfl (Nat.le_of_ble_eq_true rfl) rfl rfl ?_
 simp only [sl0, Nat.zero_add, Nat.reduceAdd]
 repeat' (first|with_reducible (first|refine WR_pp ?_|refine W_seq ?_|refine seqK_n ?_|refine W_ret ?_|refine W_region (WOps_WR ?_)|refine WR_nil ?_|refine q_and ?_ ?_|exact True.intro)|((with_reducible apply q_call);first|refine X_call [0] (h1) rfl rfl rfl rfl rfl rfl rfl rfl rfl rfl rfl rfl rfl ?_|refine X_call [0] (h2) rfl rfl rfl rfl rfl rfl rfl rfl rfl rfl rfl rfl rfl ?_|refine X_call [0] (h3) rfl rfl rfl rfl rfl rfl rfl rfl rfl rfl rfl rfl rfl ?_)|((with_reducible apply q_WR);refine X_run rfl ?_ ?_)|((with_reducible apply q_ret);refine X_ret tabOk trivial rfl rfl ?_ ?_)|omega)
 repeat' (first|with_reducible (first|exact TkEq.nil _|exact SEqL.nil|refine SEqL.cons ?_ ?_|exact CEq.refl _|refine CEq.int ?_|refine CEq.str ?_)|refine VEq.agg ?_|refine TkEq.cells ?_ ?_|refine SEqL.cons ?_ ?_|rfl)
structure Bld where
 L : Lay
 tracks : List (List Int)
 between : List (List Int)
def Bld.box (b : Bld) : SB := .cells [tStr b.L.sts, tStr b.L.pts, tSec b.L.secs, tLnk b.L.lnks, tTrk b.tracks, tTrk b.between, .c (.f .nils)]
structure Bld.small (b : Bld) : Prop where
 s1 : b.L.sts.length ≤ 1000
 s2 : b.L.pts.length ≤ 1000
 s3 : b.L.secs.length ≤ 1000
 s4 : b.L.lnks.length ≤ 1000
def Bld.add (b : Bld) (x : Sec) : Bld := { b with L := { b.L with secs := b.L.secs ++ [x] } }
def Bld.link (b : Bld) (k : Lnk) : Bld := { b with L := { b.L with lnks := b.L.lnks ++ [k] } }
def Bld.pt (b : Bld) : Bld := { b with L := { b.L with pts := b.L.pts ++ [nameN ⟨#[80]⟩ b.L.pts.length] } }
theorem add_ok (b : Bld) (x : Sec) (hb : b.small) : OkV Tryz.prog 68 [.c (pB 0), .agg (vSec x)] [some b.box] (vI b.L.secs.length) [some (b.add x).box] := by
 have h3 := hb.s3
 refine X_fn mixedX Tryz.func68 rfl (by kernel_rfl) (Nat.le_of_ble_eq_true (by kernel_rfl)) (by kernel_rfl) rfl rfl (Nat.le_of_ble_eq_true rfl) rfl rfl ?_
 simp only [sl0, Nat.zero_add, Nat.reduceAdd]
 repeat' (first|with_reducible (first|refine W_seq ?_|refine seqK_n ?_|refine W_ret ?_|refine W_region (WOps_WR ?_)|refine W_draw (WOpsD_WR ?_)|refine WR_nil ?_|refine q_and ?_ ?_|exact True.intro)|((with_reducible apply q_WR);first|refine X_run rfl ?_ ?_|refine WR_nilD (by kernel_rfl) ?_|fail)|((with_reducible apply q_ret);refine X_ret tabOk trivial rfl rfl ?_ ?_)|((with_reducible apply q_eqN);rfl)|omega)
 repeat' (first|with_reducible (first|exact TkEq.nil _|exact SEqL.nil|refine SEqL.cons ?_ ?_|exact CEq.refl _|refine CEq.int ?_|refine CEq.tips ?_|refine CEq.tip ?_ ?_)|refine VEq.c ?_|refine TkEq.cells ?_ ?_|rfl|omega)
 all_goals simp [fSec, Bld.add, fS, fI]
theorem link_ok (b : Bld) (p q pt ps : Int) (hb : b.small) : OkV Tryz.prog 69 [.c (pB 0), vI p, vI q, vI pt, vI ps] [some b.box] (.tup []) [some (b.link ⟨p, 1, q, 0, pt, ps⟩).box] := by
 have h4 := hb.s4
 refine X_fn mixedX Tryz.func69 rfl (by kernel_rfl) (Nat.le_of_ble_eq_true (by kernel_rfl)) (by kernel_rfl) rfl rfl (Nat.le_of_ble_eq_true rfl) rfl rfl ?_
 simp only [sl0, Nat.zero_add, Nat.reduceAdd]
 repeat' (first|with_reducible (first|refine W_region (WOps_WR ?_)|refine WR_nil ?_|refine q_and ?_ ?_|exact True.intro)|((with_reducible apply q_WR);refine X_run rfl ?_ ?_)|((with_reducible apply q_ret);refine X_ret tabOk trivial rfl rfl ?_ ?_)|((with_reducible apply q_eqN);rfl)|omega)
 repeat' (first|with_reducible (first|exact TkEq.nil _|exact SEqL.nil|refine SEqL.cons ?_ ?_|exact TEqL.nil|exact CEq.refl _|refine CEq.tips ?_|refine CEq.tip ?_ ?_)|refine VEq.tup ?_|refine TkEq.cells ?_ ?_|rfl)
 all_goals simp [fLnk, Bld.link, fI]
theorem point_ok (b : Bld) (hb : b.small) : OkV Tryz.prog 87 [.c (pB 0)] [some b.box] (vI b.L.pts.length) [some b.pt.box] := by
 have h2 := hb.s2
 have hN := named_ok ⟨#[80]⟩ b.L.pts.length (by decide) (by omega)
 refine X_fn mixedX Tryz.func87 rfl (by kernel_rfl) (Nat.le_of_ble_eq_true (by kernel_rfl)) (by kernel_rfl) rfl rfl (Nat.le_of_ble_eq_true rfl) rfl rfl ?_
 simp only [sl0, Nat.zero_add, Nat.reduceAdd]
 repeat' (first|with_reducible (first|refine WR_pd ?_|refine W_seq ?_|refine seqK_n ?_|refine W_ret ?_|refine W_region (WOps_WR ?_)|refine W_draw (WOpsD_WR ?_)|refine WR_nil ?_|refine q_and ?_ ?_|exact True.intro)|((with_reducible apply q_call);refine X_pure (hN) rfl ?_)|((with_reducible apply q_WR);first|refine X_run rfl ?_ ?_|refine WR_nilD (by kernel_rfl) ?_|fail)|((with_reducible apply q_ret);refine X_ret tabOk trivial rfl rfl ?_ ?_)|((with_reducible apply q_eqN);rfl)|omega)
 repeat' (first|with_reducible (first|exact TkEq.nil _|exact SEqL.nil|refine SEqL.cons ?_ ?_|exact CEq.refl _|refine CEq.int ?_|refine CEq.tips ?_|refine CEq.tip ?_ ?_)|refine VEq.c ?_|refine TkEq.cells ?_ ?_|rfl|omega)
 all_goals simp [fStr, Bld.pt, fS]
def Bld.links (b : Bld) (x pt : Int) (east : Bool) (ts : List Int) : Nat → Bld
 | 0 => b
 | i + 1 => (b.links x pt east ts i).link (if east = true then ⟨x, 1, ts.getD i 0, 0, pt, i⟩ else ⟨ts.getD i 0, 1, x, 0, pt, i⟩)
def Bld.fan (b : Bld) (x : Int) (ts : List Int) (east : Bool) : Bld :=
 if 1 < ts.length then b.pt.links x b.L.pts.length east ts ts.length else b.links x (-1) east ts ts.length
theorem links_small {b : Bld} (hb : b.small) (x pt : Int) (east : Bool) (ts : List Int) : ∀ i, (b.links x pt east ts i).L.sts = b.L.sts ∧ (b.links x pt east ts i).L.pts = b.L.pts ∧ (b.links x pt east ts i).L.secs = b.L.secs ∧ (b.links x pt east ts i).L.lnks.length = b.L.lnks.length + i
 | 0 => ⟨rfl, rfl, rfl, rfl⟩
 | i + 1 => by
  obtain ⟨h1, h2, h3, h4⟩ := links_small hb x pt east ts i
  refine ⟨h1, h2, h3, ?_⟩
  simp only [Bld.links, Bld.link, List.length_append, h4, List.length_singleton]
  omega
theorem fan_ok (b : Bld) (x : Int) (ts : List Int) (east : Bool) (hb : b.small) (ht : ts.length ≤ 10) (hb2 : b.L.lnks.length ≤ 900) (hb3 : b.L.pts.length ≤ 900) : OkV Tryz.prog 70 [.c (pB 0), vI x, .c (rInt ts), vB east] [some b.box] (.tup []) [some (b.fan x ts east).box] := by
 have hP := point_ok b hb
 refine X_fn mixedX Tryz.func70 rfl (by kernel_rfl) (Nat.le_of_ble_eq_true (by kernel_rfl)) (by kernel_rfl) rfl rfl (Nat.le_of_ble_eq_true rfl) rfl rfl ?_
 simp only [sl0, Nat.zero_add, Nat.reduceAdd]
 repeat' (first|with_reducible (first|refine WR_pp ?_|refine W_seq ?_|refine seqK_n ?_|refine W_block ?_|refine W_skip ?_|refine W_region (WOps_WR ?_)|refine WR_nil ?_|refine q_and ?_ ?_|exact True.intro)|((with_reducible apply q_call);refine X_call [0] (hP) rfl rfl rfl rfl rfl rfl rfl rfl rfl rfl rfl rfl rfl ?_)|((with_reducible apply q_WR);refine X_run rfl ?_ ?_)|((with_reducible apply q_cond);refine X_cond rfl ?_ ?_;all_goals (intro hbq;(try simp only [bq] at hbq);(try (exfalso;omega)))))
 ·have hB : (b.pt).small ∧ (b.pt).L.lnks.length ≤ 900 := by
   refine ⟨⟨hb.s1, ?_, hb.s3, hb.s4⟩, hb2⟩
   (try simp only [Bld.pt, List.length_append, List.length_singleton])
   omega
  have hf : b.fan x ts east = (b.pt).links x (b.L.pts.length : Int) east ts ts.length := by unfold Bld.fan; rw [if_pos (by omega)]
  rw [hf]
  obtain ⟨hB, hB2⟩ := hB
  have hL : ∀ i, i ≤ ts.length → ((b.pt).links x (b.L.pts.length : Int) east ts i).small := fun i hi => by
   obtain ⟨k1, k2, k3, k4⟩ := links_small hB x (b.L.pts.length : Int) east ts i
   exact ⟨by rw [k1]; exact hB.s1, by rw [k2]; exact hB.s2, by rw [k3]; exact hB.s3, by rw [k4]; omega⟩
  clear hP hf
  refine W_loopS (fun i : Nat => SS [sC 0 (pB 0), sI 1 x, sC 2 (rInt ts), sB 3 east, sI 8 (b.L.pts.length : Int), sI 16 ts.length, sI 17 i] [some ((b.pt).links x (b.L.pts.length : Int) east ts i).box]) (fun i => i ≤ ts.length) (fun i => ts.length - i) 0 ?_ (by omega) ?_
  ·
   refine X_weak rfl rfl rfl ?_ ?_ <;> repeat' (first|with_reducible (first|exact q_AgS0|exact HLe.nil _|exact SLe.nil|refine SLe.cons ?_ ?_|exact ELe.refl _|refine ELe.c rfl ?_|exact CLe.refl _|exact CLe.int (by omega)|refine CLe.tips ?_)|refine q_AgS rfl ?_ ?_|refine HLe.cells ?_ ?_)
   all_goals rfl
  ·intro i hi
   have hK1 := link_ok ((b.pt).links x (b.L.pts.length : Int) east ts i) x (ts.getD (i : Int).toNat 0) (b.L.pts.length : Int) i (hL i hi)
   have hK2 := link_ok ((b.pt).links x (b.L.pts.length : Int) east ts i) (ts.getD (i : Int).toNat 0) x (b.L.pts.length : Int) i (hL i hi)
   repeat' (first|with_reducible (first|refine WR_pp ?_|refine W_seq ?_|refine seqK_n ?_|refine seqK_e ?_|refine W_block ?_|refine blockK_n ?_|refine LoopK_e ?_|refine W_skip ?_|refine W_exit ?_|refine W_region (WOps_WR ?_)|refine WR_nil ?_|refine q_and ?_ ?_|exact True.intro|assumption|refine blockK_e rfl ?_)|((with_reducible apply q_call);first|refine X_call [0] (hK1) rfl rfl rfl rfl rfl rfl rfl rfl rfl rfl rfl rfl rfl ?_|refine X_call [0] (hK2) rfl rfl rfl rfl rfl rfl rfl rfl rfl rfl rfl rfl rfl ?_)|((with_reducible apply q_WR);refine X_run rfl ?_ ?_)|((with_reducible apply q_cond);refine X_cond rfl ?_ ?_;all_goals (intro hbq;(try simp only [bq] at hbq);(try (exfalso;omega))))|((with_reducible apply q_ret);refine X_ret tabOk trivial rfl rfl ?_ ?_)|((with_reducible apply q_VOk);exact fun _ => ⟨rfl,rfl⟩)|omega)
   ·
    refine LoopK_n (i + 1) ?_ ?_ ?_
    rotate_left
    ·(try dsimp only); omega
    ·(try dsimp only); omega
    refine X_weak rfl rfl rfl ?_ ?_ <;> repeat' (first|with_reducible (first|exact q_AgS0|exact HLe.nil _|exact SLe.nil|refine SLe.cons ?_ ?_|exact ELe.refl _|refine ELe.c rfl ?_|exact CLe.refl _|exact CLe.int (by omega)|refine CLe.tips ?_)|refine q_AgS rfl ?_ ?_|refine HLe.cells ?_ ?_)
    all_goals (subst hbq; rfl)
   ·
    refine LoopK_n (i + 1) ?_ ?_ ?_
    rotate_left
    ·(try dsimp only); omega
    ·(try dsimp only); omega
    refine X_weak rfl rfl rfl ?_ ?_ <;> repeat' (first|with_reducible (first|exact q_AgS0|exact HLe.nil _|exact SLe.nil|refine SLe.cons ?_ ?_|exact ELe.refl _|refine ELe.c rfl ?_|exact CLe.refl _|exact CLe.int (by omega)|refine CLe.tips ?_)|refine q_AgS rfl ?_ ?_|refine HLe.cells ?_ ?_)
    all_goals (subst hbq; rfl)
   ·have hie : i = ts.length := by omega
    subst hie
    repeat' (first|with_reducible (exact TEqL.nil)|refine VEq.tup ?_)
   ·have hie : i = ts.length := by omega
    subst hie
    repeat' (first|with_reducible (first|exact TkEq.nil _|exact SEqL.nil|refine SEqL.cons ?_ ?_|exact CEq.refl _)|refine TkEq.cells ?_ ?_)
 ·have hB : (b).small ∧ (b).L.lnks.length ≤ 900 := by
   refine ⟨⟨hb.s1, ?_, hb.s3, hb.s4⟩, hb2⟩
   (try simp only [Bld.pt, List.length_append, List.length_singleton])
   omega
  have hf : b.fan x ts east = (b).links x (-1) east ts ts.length := by unfold Bld.fan; rw [if_neg (by omega)]
  rw [hf]
  obtain ⟨hB, hB2⟩ := hB
  have hL : ∀ i, i ≤ ts.length → ((b).links x (-1) east ts i).small := fun i hi => by
   obtain ⟨k1, k2, k3, k4⟩ := links_small hB x (-1) east ts i
   exact ⟨by rw [k1]; exact hB.s1, by rw [k2]; exact hB.s2, by rw [k3]; exact hB.s3, by rw [k4]; omega⟩
  clear hP hf
  refine W_loopS (fun i : Nat => SS [sC 0 (pB 0), sI 1 x, sC 2 (rInt ts), sB 3 east, sI 8 (-1), sI 16 ts.length, sI 17 i] [some ((b).links x (-1) east ts i).box]) (fun i => i ≤ ts.length) (fun i => ts.length - i) 0 ?_ (by omega) ?_
  ·
   refine X_weak rfl rfl rfl ?_ ?_ <;> repeat' (first|with_reducible (first|exact q_AgS0|exact HLe.nil _|exact SLe.nil|refine SLe.cons ?_ ?_|exact ELe.refl _|refine ELe.c rfl ?_|exact CLe.refl _|exact CLe.int (by omega)|refine CLe.tips ?_)|refine q_AgS rfl ?_ ?_|refine HLe.cells ?_ ?_)
   all_goals rfl
  ·intro i hi
   have hK1 := link_ok ((b).links x (-1) east ts i) x (ts.getD (i : Int).toNat 0) (-1) i (hL i hi)
   have hK2 := link_ok ((b).links x (-1) east ts i) (ts.getD (i : Int).toNat 0) x (-1) i (hL i hi)
   repeat' (first|with_reducible (first|refine WR_pp ?_|refine W_seq ?_|refine seqK_n ?_|refine seqK_e ?_|refine W_block ?_|refine blockK_n ?_|refine LoopK_e ?_|refine W_skip ?_|refine W_exit ?_|refine W_region (WOps_WR ?_)|refine WR_nil ?_|refine q_and ?_ ?_|exact True.intro|assumption|refine blockK_e rfl ?_)|((with_reducible apply q_call);first|refine X_call [0] (hK1) rfl rfl rfl rfl rfl rfl rfl rfl rfl rfl rfl rfl rfl ?_|refine X_call [0] (hK2) rfl rfl rfl rfl rfl rfl rfl rfl rfl rfl rfl rfl rfl ?_)|((with_reducible apply q_WR);refine X_run rfl ?_ ?_)|((with_reducible apply q_cond);refine X_cond rfl ?_ ?_;all_goals (intro hbq;(try simp only [bq] at hbq);(try (exfalso;omega))))|((with_reducible apply q_ret);refine X_ret tabOk trivial rfl rfl ?_ ?_)|((with_reducible apply q_VOk);exact fun _ => ⟨rfl,rfl⟩)|omega)
   ·
    refine LoopK_n (i + 1) ?_ ?_ ?_
    rotate_left
    ·(try dsimp only); omega
    ·(try dsimp only); omega
    refine X_weak rfl rfl rfl ?_ ?_ <;> repeat' (first|with_reducible (first|exact q_AgS0|exact HLe.nil _|exact SLe.nil|refine SLe.cons ?_ ?_|exact ELe.refl _|refine ELe.c rfl ?_|exact CLe.refl _|exact CLe.int (by omega)|refine CLe.tips ?_)|refine q_AgS rfl ?_ ?_|refine HLe.cells ?_ ?_)
    all_goals (subst hbq; rfl)
   ·
    refine LoopK_n (i + 1) ?_ ?_ ?_
    rotate_left
    ·(try dsimp only); omega
    ·(try dsimp only); omega
    refine X_weak rfl rfl rfl ?_ ?_ <;> repeat' (first|with_reducible (first|exact q_AgS0|exact HLe.nil _|exact SLe.nil|refine SLe.cons ?_ ?_|exact ELe.refl _|refine ELe.c rfl ?_|exact CLe.refl _|exact CLe.int (by omega)|refine CLe.tips ?_)|refine q_AgS rfl ?_ ?_|refine HLe.cells ?_ ?_)
    all_goals (subst hbq; rfl)
   ·have hie : i = ts.length := by omega
    subst hie
    repeat' (first|with_reducible (exact TEqL.nil)|refine VEq.tup ?_)
   ·have hie : i = ts.length := by omega
    subst hie
    repeat' (first|with_reducible (first|exact TkEq.nil _|exact SEqL.nil|refine SEqL.cons ?_ ?_|exact CEq.refl _)|refine TkEq.cells ?_ ?_)
end Go.Proofs.YtalfibohepbhfaaGreat.Av
