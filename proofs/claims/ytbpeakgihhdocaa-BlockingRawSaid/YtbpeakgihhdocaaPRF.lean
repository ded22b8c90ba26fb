/- What the claims use of their texts: Bl2, Bl3, Bl4, Bl5, Bl6, Bl7, Bl8, Bl9, BlA, Sm, BlB, Lb7, Fr, Opens, OpR, Wb7. -/
import Derived.Test.YtbpeakgihhdocaaPRE
namespace Go.Proofs.Ytbpeakgihhdocaa.Av
set_option linter.unusedVariables false
set_option linter.unusedSimpArgs false
abbrev secN (L : Lay) (ts : List Stp) (k : Nat) : Nat := (L.secs.getD (ts.getD k st0).sec.toNat sec0).len.toNat
def endA (L : Lay) (ts : List Stp) : Nat → Nat
  | 0 => 0
  | k + 1 => endA L ts k + secN L ts (k + 1)
def rideT (L : Lay) (r : Rte) (l sp ac br : Int) : Nat → Int := tim (celL L (trv r)) (celOne L r).toNat l.toNat sp ac br
structure Ride (L : Lay) (r : Rte) (l sp ac br : Int) : Prop where
  rt : RteOk L r
  cel : celErr L r = 0
  chk : chkB l sp ac br = true
  n : ((trv r).length : Int) = r.st.length - r.ov
  n2 : 2 ≤ (trv r).length
  n24 : (trv r).length ≤ 24
  sec : ∀ k, k < (trv r).length → 0 ≤ ((trv r).getD k st0).sec ∧ ((trv r).getD k st0).sec < L.secs.length
  len : ∀ k, k < (trv r).length → 2 ≤ secN L (trv r) k ∧ l ≤ secN L (trv r) k ∧ secN L (trv r) k ≤ 400
  leni : ∀ k, k < (trv r).length → (L.secs.getD ((trv r).getD k st0).sec.toNat sec0).len = secN L (trv r) k
  one : celOne L r = secN L (trv r) 0
  all : (celL L (trv r)).length = secN L (trv r) 0 + endA L (trv r) ((trv r).length - 1)
  bad : badRun (celL L (trv r)) (celOne L r) l sp ac br = 0
  tl : timeL (celL L (trv r)) (celOne L r) l sp ac br = row (endA L (trv r) ((trv r).length - 1) + 1) (rideT L r l sp ac br)
  rng : ∀ j, j ≤ endA L (trv r) ((trv r).length - 1) → 0 ≤ rideT L r l sp ac br j ∧ rideT L r l sp ac br j ≤ 80000000
theorem endA_mono (L : Lay) (ts : List Stp) {i j : Nat} (h : i ≤ j) : endA L ts i ≤ endA L ts j := by
  induction j with
  | zero => rw [Nat.le_zero.1 h]; exact Nat.le_refl _
  | succ j ih =>
    rcases Nat.lt_or_ge i (j + 1) with h1 | h1
    · exact Nat.le_trans (ih (by omega)) (Nat.le_add_right _ _)
    · rw [show i = j + 1 by omega]; exact Nat.le_refl _
theorem celL_endA (L : Lay) (ts : List Stp) : ∀ k, k < ts.length → (celL L (ts.take (k + 1))).length = secN L ts 0 + endA L ts k
  | 0, h => by
    rw [celL_snoc L h, List.length_append]
    simp [celL, celsOf, secN, endA]
  | k + 1, h => by
    rw [celL_snoc L h, List.length_append, celL_endA L ts k (by omega)]
    simp only [celsOf, List.length_replicate, endA, secN, secA]
    omega
theorem cel_all {L : Lay} (hV : Valid L) : ∀ {l : List Stp}, l.all (Stp.ok L) = true → (celL L l).all cellB = true
  | [], _ => rfl
  | s :: l, h => by
    rw [List.all_cons, Bool.and_eq_true] at h
    have ih := cel_all hV h.2
    obtain ⟨a, b, _⟩ := ok_dir h.1
    have h2 := secB_of (sec_of hV (i := s.sec.toNat) (by omega))
    unfold celL at ih ⊢
    rw [List.flatMap_cons, List.all_append, ih, Bool.and_true, List.all_eq_true]
    intro c hc
    rw [(List.mem_replicate.1 hc).2]
    unfold celOf cellB secA
    rw [decide_eq_true_eq]
    split <;> (simp only; omega)
theorem ride_of {L : Lay} {r : Rte} {l sp ac br : Int} (h : fitErr L r l sp ac br = 0) : Ride L r l sp ac br := by
  have hc : celErr L r = 0 := by
    unfold fitErr at h
    split at h
    · exact h
    · rename_i h2; simpa using h2
  unfold fitErr at h
  rw [if_neg (by simpa using hc)] at h
  by_cases hk : chkB l sp ac br = false
  · rw [if_pos hk] at h; cases h
  rw [if_neg hk] at h
  by_cases ht : (trv r).any (tight L l) = true
  · rw [if_pos ht] at h; cases h
  clear h
  have hk : chkB l sp ac br = true := by simpa using hk
  have hq := chk_of hk
  have hr := rte_of (cel_rte hc)
  have hV := valid_of hr.lay
  have hn := trv_len hr
  have h1 := hr.two
  have h2 := hr.ov0
  have h3 := hr.len
  have hok : (trv r).all (Stp.ok L) = true := all_take hr.ok _
  have hsec : ∀ k, k < (trv r).length → 0 ≤ ((trv r).getD k st0).sec ∧ ((trv r).getD k st0).sec < L.secs.length := fun k hk => by
    obtain ⟨a, b, _⟩ := ok_dir (all_at hok hk)
    exact ⟨a, b⟩
  have hb : ∀ k, k < (trv r).length → 1 ≤ (secA L ((trv r).getD k st0)).len ∧ (secA L ((trv r).getD k st0)).len ≤ 400 ∧ max 2 l ≤ (secA L ((trv r).getD k st0)).len := fun k hk => by
    have h4 := secB_of (sec_of hV (i := ((trv r).getD k st0).sec.toNat) (by have := hsec k hk; omega))
    have h5 : tight L l ((trv r).getD k st0) = false := by
      cases e : tight L l ((trv r).getD k st0)
      · rfl
      · exact absurd (any_at hk e) ht
    unfold tight at h5
    rw [decide_eq_false_iff_not] at h5
    exact ⟨h4.1, h4.2.1, by omega⟩
  have hlen : ∀ k, k < (trv r).length → 2 ≤ secN L (trv r) k ∧ l ≤ secN L (trv r) k ∧ secN L (trv r) k ≤ 400 := fun k hk => by
    have := hb k hk
    unfold secA at this
    unfold secN
    omega
  have hli : ∀ k, k < (trv r).length → (L.secs.getD ((trv r).getD k st0).sec.toNat sec0).len = secN L (trv r) k := fun k hk => by
    have := hb k hk
    unfold secA at this
    unfold secN
    omega
  have hall := celL_endA L (trv r) ((trv r).length - 1) (by omega)
  rw [show (trv r).length - 1 + 1 = (trv r).length by omega, List.take_length] at hall
  have hone : celOne L r = secN L (trv r) 0 := by
    unfold celOne
    rw [if_pos hc, ← hli 0 (by omega), trv_at hr (by omega)]
  have hc4 : (celL L (trv r)).length ≤ 4000 := by
    unfold celErr at hc
    rw [if_neg (by simpa using cel_rte hc)] at hc
    split at hc
    · cases hc
    · omega
  have he1 : endA L (trv r) 1 ≤ endA L (trv r) ((trv r).length - 1) := endA_mono L (trv r) (by omega)
  have he2 : endA L (trv r) 1 = secN L (trv r) 1 := Nat.zero_add _
  have hl1 := hlen 1 (by omega)
  have hbad : badRun (celL L (trv r)) (celOne L r) l sp ac br = 0 := bad_0 hk (by omega) (cel_all hV hok) (by rw [hone]; omega)
  have htl : timeL (celL L (trv r)) (celOne L r) l sp ac br = row (endA L (trv r) ((trv r).length - 1) + 1) (rideT L r l sp ac br) := by
    unfold timeL rideT
    rw [if_pos hbad, hall, hone, Int.toNat_natCast, Nat.add_sub_cancel_left]
  refine ⟨hr, hc, hk, hn, by omega, by omega, hsec, hlen, hli, hone, hall, hbad, htl, fun j hj => ?_⟩
  have h5 := tim_range (start := (celOne L r).toNat) (l := l.toNat) hq.2.2.1 hq.2.2.2.1 hq.2.2.2.2.1 hq.2.2.2.2.2.1 hq.2.2.2.2.2.2.1 hq.2.2.2.2.2.2.2 (cel_all hV hok) (by rw [hone, Int.toNat_natCast]; omega) j (by rw [hone, Int.toNat_natCast]; omega)
  unfold rideT
  omega
end Go.Proofs.Ytbpeakgihhdocaa.Av
namespace Go.Proofs.Ytbpeakgihhdocaa.Av
set_option linter.unusedVariables false
set_option linter.unusedSimpArgs false
set_option maxRecDepth 4000
set_option maxHeartbeats 4000000
def entL (L : Lay) (r : Rte) (l sp ac br : Int) (n : Nat) : List Int := row n fun k => rideT L r l sp ac br (endA L (trv r) (k - 1))
def levF (L : Lay) (r : Rte) (l sp ac br : Int) (k : Nat) : Int := rideT L r l sp ac br (if k + 1 < (trv r).length then endA L (trv r) k + l.toNat else endA L (trv r) k)
def levL (L : Lay) (r : Rte) (l sp ac br : Int) (n : Nat) : List Int := row n (levF L r l sp ac br)
def runI (L : Lay) (r : Rte) (l sp ac br : Int) : Int := Pl.cdiv (rideT L r l sp ac br (endA L (trv r) ((trv r).length - 1))) 1000
theorem row_snoc (n : Nat) (f : Nat → Int) : row (n + 1) f = row n f ++ [f n] := by
  unfold row; rw [List.range_succ, List.map_append]; rfl
theorem snoc_den (X : List Int) (v : Int) : (SC.c (CVal.f (FVal.row (List.flatMap fInt X ++ [FVal.v (.int .i64 v)]) (X.length + 1)))).den = (rInt (X ++ [v])).den := by
  show CVal.f (FVal.row (List.flatMap fInt X ++ [FVal.v (.int .i64 v)]) (X.length + 1)) = CVal.f (FVal.row (List.flatMap fInt (X ++ [v])) (X ++ [v]).length)
  rw [List.flatMap_append, List.length_append]
  rfl
theorem tup_snoc (A C D : SC) (X : List Int) (v : Int) : (packS [ST.c A, ST.c (SC.c (CVal.f (FVal.row (List.flatMap fInt X ++ [FVal.v (.int .i64 v)]) (X.length + 1)))), ST.c C, ST.c D]).den = (SV.tup [ST.c A, ST.c (rInt (X ++ [v])), ST.c C, ST.c D]).den := by
  show AVal.tup [.c A.den, .c (SC.den _), .c C.den, .c D.den] = AVal.tup [.c A.den, .c (SC.den _), .c C.den, .c D.den]
  rw [snoc_den]
theorem up_ok (a : Int) (ha : -9223372036854775808 ≤ a ∧ a ≤ 9223372036854775807) : OkV Try.prog 34 [.c (xI a)] [] (vI (Pl.cdiv a 1000)) [] := by
  have h := ceilDiv_okV a 1000 ha (by omega)
  refine X_fn mixedX Try.func34 rfl (by kernel_rfl) (Nat.le_of_ble_eq_true (by kernel_rfl)) (by kernel_rfl) rfl rfl (Nat.le_of_ble_eq_true rfl) rfl rfl ?_
  simp only [sl0, Nat.zero_add, Nat.reduceAdd]
  repeat' (first
    |with_reducible (first|refine q_and ?_ ?_|exact True.intro|exact TkEq.nil _|refine Red.o (by constructor) ?_|refine blockK_o' rfl ?_|refine LoopX_e' rfl ?_|assumption)
    |((with_reducible apply q_call);refine X_pure (h) rfl ?_)
    |((with_reducible apply q_CI);intro hbq;(try simp only [bq] at hbq);(try (exfalso;omega)))
    |refine Rex.o (by (with_reducible constructor);apply Eq.refl) ?_
    |(intro (hgq : (_ : Bool) = true);(try simp only [bq] at hgq))
    |(intro (hgq : (_ : Bool) = false);(try simp only [bq] at hgq))
    |((with_reducible apply q_VOk);exact fun _ => ⟨rfl,rfl⟩)|(intro _;exact rfl)|((with_reducible apply q_CRB);kernel_rfl)|((with_reducible apply q_bt);simp only [bq])|((with_reducible apply q_eqN);rfl)|((with_reducible apply q_FE);exact rfl)|with_reducible (first|exact isByte_wrap _|exact isByte_nat _)|(simp only [hgq,bq];done)|omega|(dsimp only;omega))
  repeat' (first|with_reducible (first|refine Wk.o (by constructor) ?_|refine q_and ?_ ?_|exact True.intro)|refine VEq.c ?_|refine VEq.agg ?_|refine VEq.tup ?_|refine TkEq.cells ?_ ?_|refine TkEq.els ?_ ?_|refine SEqL.cons ?_ ?_|refine TEqL.agg ?_ ?_|refine CEq.rows ?_|refine CEq.int ?_|rfl|omega)
theorem down_ok (a : Int) (ha : -9223372036854775808 ≤ a ∧ a ≤ 9223372036854775807) : OkV Try.prog 63 [.c (xI a)] [] (vI (a / 1000)) [] := by
  have h := floorDiv_okV a 1000 ha (by omega)
  refine X_fn mixedX Try.func63 rfl (by kernel_rfl) (Nat.le_of_ble_eq_true (by kernel_rfl)) (by kernel_rfl) rfl rfl (Nat.le_of_ble_eq_true rfl) rfl rfl ?_
  simp only [sl0, Nat.zero_add, Nat.reduceAdd]
  repeat' (first
    |with_reducible (first|refine q_and ?_ ?_|exact True.intro|exact TkEq.nil _|refine Red.o (by constructor) ?_|refine blockK_o' rfl ?_|refine LoopX_e' rfl ?_|assumption)
    |((with_reducible apply q_call);refine X_pure (h) rfl ?_)
    |((with_reducible apply q_CI);intro hbq;(try simp only [bq] at hbq);(try (exfalso;omega)))
    |refine Rex.o (by (with_reducible constructor);apply Eq.refl) ?_
    |(intro (hgq : (_ : Bool) = true);(try simp only [bq] at hgq))
    |(intro (hgq : (_ : Bool) = false);(try simp only [bq] at hgq))
    |((with_reducible apply q_VOk);exact fun _ => ⟨rfl,rfl⟩)|(intro _;exact rfl)|((with_reducible apply q_CRB);kernel_rfl)|((with_reducible apply q_bt);simp only [bq])|((with_reducible apply q_eqN);rfl)|((with_reducible apply q_FE);exact rfl)|with_reducible (first|exact isByte_wrap _|exact isByte_nat _)|(simp only [hgq,bq];done)|omega|(dsimp only;omega))
  repeat' (first|with_reducible (first|refine Wk.o (by constructor) ?_|refine q_and ?_ ?_|exact True.intro)|refine VEq.c ?_|refine VEq.agg ?_|refine VEq.tup ?_|refine TkEq.cells ?_ ?_|refine TkEq.els ?_ ?_|refine SEqL.cons ?_ ?_|refine TEqL.agg ?_ ?_|refine CEq.rows ?_|refine CEq.int ?_|rfl|omega)
theorem btimes_bad (L : Lay) (hL : LayFits L) (st : List Stp) (ov : Int) (hl : st.length ≤ 9223372036854775807) (ho : -9223372036854775808 ≤ ov ∧ ov ≤ 9223372036854775807) (nm : ByteArray) (l sp ac br : Int) (h : ¬ fitErr L ⟨st, ov⟩ l sp ac br = 0) : OkV Try.prog 12 [vLay L, vR2 st ov, vS5 nm l sp ac br] [] (.tup [.c (rInt []), .c (rInt []), .c (xI 0), .c (xI (fitErr L ⟨st, ov⟩ l sp ac br))]) [] := by
  have hF := fit_ok L hL st ov hl ho nm l sp ac br
  rw [if_neg h, if_neg h] at hF
  unfold vLay at hF ⊢
  refine X_fn mixedX Try.func12 rfl (by kernel_rfl) (Nat.le_of_ble_eq_true (by kernel_rfl)) (by kernel_rfl) rfl rfl (Nat.le_of_ble_eq_true rfl) rfl rfl ?_
  simp only [sl0, Nat.zero_add, Nat.reduceAdd]
  repeat' (first
    |with_reducible (first|refine q_and ?_ ?_|exact True.intro|exact TkEq.nil _|refine Red.o (by constructor) ?_|refine blockK_o' rfl ?_|refine LoopX_e' rfl ?_|assumption)
    |((with_reducible apply q_call);refine X_pure (hF) rfl ?_)
    |((with_reducible apply q_CI);intro hbq;(try simp only [bq] at hbq);(try (exfalso;omega)))
    |refine Rex.o (by (with_reducible constructor);apply Eq.refl) ?_
    |(intro (hgq : (_ : Bool) = true);(try simp only [bq] at hgq))
    |(intro (hgq : (_ : Bool) = false);(try simp only [bq] at hgq))
    |((with_reducible apply q_VOk);exact fun _ => ⟨rfl,rfl⟩)|(intro _;exact rfl)|((with_reducible apply q_CRB);kernel_rfl)|((with_reducible apply q_bt);simp only [bq])|((with_reducible apply q_eqN);rfl)|((with_reducible apply q_FE);exact rfl)|with_reducible (first|exact isByte_wrap _|exact isByte_nat _)|(simp only [hgq,bq];done)|omega|(dsimp only;omega))
  · rfl
theorem btimes_ok (L : Lay) (hL : LayFits L) (st : List Stp) (ov : Int) (hl : st.length ≤ 9223372036854775807) (ho : -9223372036854775808 ≤ ov ∧ ov ≤ 9223372036854775807) (nm : ByteArray) (l sp ac br : Int) (h : fitErr L ⟨st, ov⟩ l sp ac br = 0) : OkV Try.prog 12 [vLay L, vR2 st ov, vS5 nm l sp ac br] [] (.tup [.c (rInt (entL L ⟨st, ov⟩ l sp ac br (trv ⟨st, ov⟩).length)), .c (rInt (levL L ⟨st, ov⟩ l sp ac br (trv ⟨st, ov⟩).length)), .c (xI (runI L ⟨st, ov⟩ l sp ac br)), .c (xI 0)]) [] := by
  have hF := fit_ok L hL st ov hl ho nm l sp ac br
  rw [h, if_pos rfl, if_pos rfl] at hF
  have hR := ride_of h
  obtain ⟨r1, r2, r3, r4, r5, r6, r7, r8, r9, r10, r11, r12, r13, r14⟩ := hR
  have hq := chk_of r3
  have hr1 := r1.ov0
  have hr2 := r1.two
  simp only at hr1 hr2 r4
  have hn3 := (valid_of r1.lay).n3
  have hm := times_ok (celL L (trv ⟨st, ov⟩)) (celOne L ⟨st, ov⟩) nm l sp ac br (by
    have := (bad_zero r12).2.1; omega)
  rw [r13, r12] at hm
  have hT := travelled_ok st ov hl ⟨by omega, by omega⟩
  unfold entL levL levF runI
  generalize hT' : rideT L ⟨st, ov⟩ l sp ac br = T at *
  generalize hts : trv ⟨st, ov⟩ = ts at *
  unfold vLay at hF ⊢
  refine X_fn mixedX Try.func12 rfl (by kernel_rfl) (Nat.le_of_ble_eq_true (by kernel_rfl)) (by kernel_rfl) rfl rfl (Nat.le_of_ble_eq_true rfl) rfl rfl ?_
  simp only [sl0, Nat.zero_add, Nat.reduceAdd]
  repeat' (first
    |with_reducible (first|refine q_and ?_ ?_|exact True.intro|exact TkEq.nil _|refine Red.o (by constructor) ?_|refine blockK_o' rfl ?_|refine LoopX_e' rfl ?_|assumption)
    |((with_reducible apply q_call);first|refine X_pure (hF) rfl ?_|refine X_pure (hm) rfl ?_|refine X_pure (hT) rfl ?_)
    |((with_reducible apply q_CI);intro hbq;(try simp only [bq] at hbq);(try (exfalso;omega)))
    |refine Rex.o (by (with_reducible constructor);apply Eq.refl) ?_
    |(intro (hgq : (_ : Bool) = true);(try simp only [bq] at hgq))
    |(intro (hgq : (_ : Bool) = false);(try simp only [bq] at hgq))
    |((with_reducible apply q_VOk);exact fun _ => ⟨rfl,rfl⟩)|(intro _;exact rfl)|((with_reducible apply q_CRB);kernel_rfl)|((with_reducible apply q_bt);simp only [bq])|((with_reducible apply q_eqN);rfl)|((with_reducible apply q_FE);exact rfl)|with_reducible (first|exact isByte_wrap _|exact isByte_nat _)|(simp only [hgq,bq];done)|omega|(dsimp only;omega))
  clear hF hm hT r13 r12 r11 r10
  have hrl : (row (endA L ts (ts.length - 1) + 1) T).length = _ := row_len _ _
  have hE : ∀ j, j + 1 ≤ ts.length → endA L ts j ≤ endA L ts (ts.length - 1) := fun j hj => endA_mono L ts (by omega)
  have hEb : endA L ts (ts.length - 1) ≤ 400 * 24 := by
    have : ∀ j, j + 1 ≤ ts.length → endA L ts j ≤ 400 * j := by
      intro j
      induction j with
      | zero => intro _; exact Nat.le_refl _
      | succ j ih => intro hj; have := ih (by omega); have := (r8 (j + 1) (by omega)).2.2; simp only [endA]; omega
    have := this (ts.length - 1) (by omega)
    omega
  refine W_loopS (fun k : Nat => SS [sC 3 (pB 0), sC 5 (pB 2), sC 6 (tInt (row k fun k => T (endA L ts (k - 1)))), sC 7 (tInt (row (min k (ts.length - 1)) fun k => T (endA L ts k + l.toNat))), sC 11 (rInt (row (endA L ts (ts.length - 1) + 1) T)), sC 13 (rStp ts), sI 14 (endA L ts (k - 1)), sC 38 (rStp ts), sI 39 ts.length, sI 40 k] [bLay L, none, bS5 nm l sp ac br]) (fun k => k ≤ ts.length) (fun k => ts.length - k) 0 ?_ (by omega) ?_
  ·
    refine X_weak rfl rfl rfl ?_ ?_ <;> repeat' (first|with_reducible (first|refine Wk.o (by constructor) ?_|refine q_and ?_ ?_|exact True.intro)|refine q_AgS rfl ?_ ?_|exact CLe.nil_tipS|exact CLe.nil_rowS|refine HLe.cells ?_ ?_|refine HLe.els ?_ ?_|refine SLe.cons ?_ ?_|exact (rfl : known _ = _)|with_reducible rfl|omega)
    all_goals rfl
  intro k hk
  have hl1 := row_len k fun k => T (endA L ts (k - 1))
  have hl2 := row_len (min k (ts.length - 1)) fun k => T (endA L ts k + l.toNat)
  by_cases hkn : k < ts.length
  · have f0 := hE (k - 1) (by omega)
    have f2 := hE k (by omega)
    have f1 : 0 < k → endA L ts k = endA L ts (k - 1) + secN L ts k := fun h => by
      obtain ⟨j, rfl⟩ : ∃ j, k = j + 1 := ⟨k - 1, by omega⟩
      rfl
    have f3 : k + 1 < ts.length → endA L ts k + l.toNat ≤ endA L ts (ts.length - 1) := fun h => by
      have a := hE (k + 1) (by omega)
      have b := (r8 (k + 1) h).2.1
      simp only [endA] at a
      omega
    have g1 : 0 ≤ (ts.getD (k : Int).toNat { sec := 0, dir := 0 }).sec ∧ (ts.getD (k : Int).toNat { sec := 0, dir := 0 }).sec < L.secs.length := r7 k hkn
    have g2 : (L.secs.getD (ts.getD (k : Int).toNat { sec := 0, dir := 0 }).sec.toNat sec0).len = (secN L ts k : Nat) := r9 k hkn
    have g3 := r8 k hkn
    generalize secN L ts k = sk at *
    have hex : (row (endA L ts (ts.length - 1) + 1) T).getD ((endA L ts (k - 1) : Nat) : Int).toNat 0 = T (endA L ts (k - 1)) := by rw [Int.toNat_natCast, row_get (by omega)]
    have f5 : endA L ts (k + 1 - 1) = endA L ts k := rfl
    have f6 : k = 0 → endA L ts (k - 1) = endA L ts k := fun h => by rw [h]
    have m1 : k + 1 < ts.length → min (k + 1) (ts.length - 1) = min k (ts.length - 1) + 1 := fun h => by omega
    have m2 : k + 1 < ts.length → min k (ts.length - 1) = k := fun h => by omega
    have m3 : ¬ k + 1 < ts.length → min (k + 1) (ts.length - 1) = min k (ts.length - 1) := fun h => by omega
    repeat' (first
      |with_reducible (first|refine q_and ?_ ?_|exact True.intro|exact TkEq.nil _|refine Red.o (by constructor) ?_|refine blockK_o' rfl ?_|refine LoopX_e' rfl ?_|assumption)
      |((with_reducible apply q_CI);intro hbq;(try simp only [bq] at hbq);(try (exfalso;omega)))
      |refine Rex.o (by (with_reducible constructor);apply Eq.refl) ?_
      |(intro (hgq : (_ : Bool) = true);(try simp only [bq] at hgq))
      |(intro (hgq : (_ : Bool) = false);(try simp only [bq] at hgq))
      |((with_reducible apply q_VOk);exact fun _ => ⟨rfl,rfl⟩)|(intro _;exact rfl)|((with_reducible apply q_CRB);kernel_rfl)|((with_reducible apply q_bt);simp only [bq])|((with_reducible apply q_eqN);rfl)|((with_reducible apply q_FE);exact rfl)|with_reducible (first|exact isByte_wrap _|exact isByte_nat _)|(simp only [hgq,bq];done)|omega|(dsimp only;omega))
    · have c : k + 1 < ts.length := by omega
      have hex2 : (row (endA L ts (ts.length - 1) + 1) T).getD ((endA L ts (k - 1) : Nat) + (L.secs.getD (ts.getD (k : Int).toNat { sec := 0, dir := 0 }).sec.toNat sec0).len + l).toNat 0 = T (endA L ts k + l.toNat) := by
        rw [show ((endA L ts (k - 1) : Nat) + (L.secs.getD (ts.getD (k : Int).toNat { sec := 0, dir := 0 }).sec.toNat sec0).len + l).toNat = endA L ts k + l.toNat by omega, row_get (by omega)]
      refine LoopK_n (k + 1) ?_ ((by omega)) (by (try dsimp only); omega)
      refine X_weak rfl rfl rfl ?_ ?_ <;> repeat' (first|with_reducible (first|refine Wk.o (by constructor) ?_|refine q_and ?_ ?_|exact True.intro)|refine q_AgS rfl ?_ ?_|exact CLe.nil_tipS|exact CLe.nil_rowS|refine HLe.cells ?_ ?_|refine HLe.els ?_ ?_|refine SLe.cons ?_ ?_|exact (rfl : known _ = _)|with_reducible rfl|omega)
      · rw [hex, row_snoc]; simp [fInt, fI]
      · rw [row_len, row_len]
      · rw [hex2, m1 c, row_snoc, m2 c]; simp [fInt, fI]
      · rw [row_len, row_len, m1 c]
    · have c : ¬ k + 1 < ts.length := by omega
      refine LoopK_n (k + 1) ?_ ((by omega)) (by (try dsimp only); omega)
      refine X_weak rfl rfl rfl ?_ ?_ <;> repeat' (first|with_reducible (first|refine Wk.o (by constructor) ?_|refine q_and ?_ ?_|exact True.intro)|refine q_AgS rfl ?_ ?_|exact CLe.nil_tipS|exact CLe.nil_rowS|refine HLe.cells ?_ ?_|refine HLe.els ?_ ?_|refine SLe.cons ?_ ?_|exact (rfl : known _ = _)|with_reducible rfl|omega)
      · rw [hex, row_snoc]; simp [fInt, fI]
      · rw [row_len, row_len]
      · rw [m3 c]
    · have c : k + 1 < ts.length := by omega
      have hex2 : (row (endA L ts (ts.length - 1) + 1) T).getD ((endA L ts (k - 1) : Nat) + l).toNat 0 = T (endA L ts k + l.toNat) := by
        rw [show ((endA L ts (k - 1) : Nat) + l).toNat = endA L ts k + l.toNat by omega, row_get (by omega)]
      refine LoopK_n (k + 1) ?_ ((by omega)) (by (try dsimp only); omega)
      refine X_weak rfl rfl rfl ?_ ?_ <;> repeat' (first|with_reducible (first|refine Wk.o (by constructor) ?_|refine q_and ?_ ?_|exact True.intro)|refine q_AgS rfl ?_ ?_|exact CLe.nil_tipS|exact CLe.nil_rowS|refine HLe.cells ?_ ?_|refine HLe.els ?_ ?_|refine SLe.cons ?_ ?_|exact (rfl : known _ = _)|with_reducible rfl|omega)
      · rw [hex, row_snoc]; simp [fInt, fI]
      · rw [row_len, row_len]
      · rw [hex2, m1 c, row_snoc, m2 c]; simp [fInt, fI]
      · rw [row_len, row_len, m1 c]
  · have hkn : k = ts.length := by omega
    subst hkn
    have hex : (row (endA L ts (ts.length - 1) + 1) T).getD ((endA L ts (ts.length - 1) : Nat) : Int).toNat 0 = T (endA L ts (ts.length - 1)) := by rw [Int.toNat_natCast, row_get (by omega)]
    have hr := r14 _ (Nat.le_refl _)
    have hU := up_ok ((row (endA L ts (ts.length - 1) + 1) T).getD ((endA L ts (ts.length - 1) : Nat) : Int).toNat 0) (by rw [hex]; omega)
    repeat' (first
      |with_reducible (first|refine q_and ?_ ?_|exact True.intro|exact TkEq.nil _|refine Red.o (by constructor) ?_|refine blockK_o' rfl ?_|refine LoopX_e' rfl ?_|assumption)
      |((with_reducible apply q_call);refine X_pure (hU) rfl ?_)
      |((with_reducible apply q_CI);intro hbq;(try simp only [bq] at hbq);(try (exfalso;omega)))
      |refine Rex.o (by (with_reducible constructor);apply Eq.refl) ?_
      |(intro (hgq : (_ : Bool) = true);(try simp only [bq] at hgq))
      |(intro (hgq : (_ : Bool) = false);(try simp only [bq] at hgq))
      |((with_reducible apply q_VOk);exact fun _ => ⟨rfl,rfl⟩)|(intro _;exact rfl)|((with_reducible apply q_CRB);kernel_rfl)|((with_reducible apply q_bt);simp only [bq])|((with_reducible apply q_eqN);rfl)|((with_reducible apply q_FE);exact rfl)|with_reducible (first|exact isByte_wrap _|exact isByte_nat _)|(simp only [hgq,bq];done)|omega|(dsimp only;omega))
    have hlev : (row ts.length fun k => T (if k + 1 < ts.length then endA L ts k + l.toNat else endA L ts k)) = (row (min ts.length (ts.length - 1)) fun k => T (endA L ts k + l.toNat)) ++ [T (endA L ts (ts.length - 1))] := by
      have e : ts.length = ts.length - 1 + 1 := by omega
      rw [Nat.min_eq_right (by omega)]
      conv => lhs; rw [show row ts.length = row (ts.length - 1 + 1) by rw [← e]]
      rw [row_snoc, if_neg (by omega)]
      congr 1
      exact row_ext fun j hj => by rw [if_pos (by omega)]
    rw [hlev]
    simp only [hex]
    apply tup_snoc
end Go.Proofs.Ytbpeakgihhdocaa.Av
namespace Go.Proofs.Ytbpeakgihhdocaa.Av
set_option linter.unusedVariables false
set_option linter.unusedSimpArgs false
set_option maxRecDepth 4000
set_option maxHeartbeats 4000000
theorem passing_bad (L : Lay) (hL : LayFits L) (st : List Stp) (ov : Int) (hl : st.length ≤ 9223372036854775807) (ho : -9223372036854775808 ≤ ov ∧ ov ≤ 9223372036854775807) (nm : ByteArray) (l sp ac br : Int) (h : ¬ fitErr L ⟨st, ov⟩ l sp ac br = 0) : OkV Try.prog 40 [vLay L, vR2 st ov, vS5 nm l sp ac br] [] (.tup [.c (rInt []), .c (rInt []), .c (xI 0), .c (xI (fitErr L ⟨st, ov⟩ l sp ac br))]) [] := by
  have hF := refFits_ok L hL st ov hl ho nm l sp ac br
  unfold vLay at hF ⊢
  refine X_fn mixedX Try.func40 rfl (by kernel_rfl) (Nat.le_of_ble_eq_true (by kernel_rfl)) (by kernel_rfl) rfl rfl (Nat.le_of_ble_eq_true rfl) rfl rfl ?_
  simp only [sl0, Nat.zero_add, Nat.reduceAdd]
  repeat' (first
    |with_reducible (first|refine q_and ?_ ?_|exact True.intro|exact TkEq.nil _|refine Red.o (by constructor) ?_|refine blockK_o' rfl ?_|refine LoopX_e' rfl ?_|assumption)
    |((with_reducible apply q_call);refine X_pure (hF) rfl ?_)
    |((with_reducible apply q_CI);intro hbq;(try simp only [bq] at hbq);(try (exfalso;omega)))
    |refine Rex.o (by (with_reducible constructor);apply Eq.refl) ?_
    |(intro (hgq : (_ : Bool) = true);(try simp only [bq] at hgq))
    |(intro (hgq : (_ : Bool) = false);(try simp only [bq] at hgq))
    |((with_reducible apply q_VOk);exact fun _ => ⟨rfl,rfl⟩)|(intro _;exact rfl)|((with_reducible apply q_CRB);kernel_rfl)|((with_reducible apply q_bt);simp only [bq])|((with_reducible apply q_eqN);rfl)|((with_reducible apply q_FE);exact rfl)|with_reducible (first|exact isByte_wrap _|exact isByte_nat _)|(simp only [hgq,bq];done)|omega|(dsimp only;omega))
  · rfl
theorem passing_ok (L : Lay) (hL : LayFits L) (st : List Stp) (ov : Int) (hl : st.length ≤ 9223372036854775807) (ho : -9223372036854775808 ≤ ov ∧ ov ≤ 9223372036854775807) (nm : ByteArray) (l sp ac br : Int) (h : fitErr L ⟨st, ov⟩ l sp ac br = 0) : OkV Try.prog 40 [vLay L, vR2 st ov, vS5 nm l sp ac br] [] (.tup [.c (rInt (entL L ⟨st, ov⟩ l sp ac br (trv ⟨st, ov⟩).length)), .c (rInt (levL L ⟨st, ov⟩ l sp ac br (trv ⟨st, ov⟩).length)), .c (xI (runI L ⟨st, ov⟩ l sp ac br)), .c (xI 0)]) [] := by
  have hF := refFits_ok L hL st ov hl ho nm l sp ac br
  rw [h] at hF
  have hR := ride_of h
  have hat : ∀ i : Nat, (i : Int) < st.length - ov → (trv ⟨st, ov⟩).getD i st0 = st.getD i st0 := fun i hi => trv_at hR.rt hi
  obtain ⟨r1, r2, r3, r4, r5, r6, r7, r8, r9, r10, r11, r12, r13, r14⟩ := hR
  have hq := chk_of r3
  have hr1 := r1.ov0
  have hr2 := r1.two
  simp only at hr1 hr2 r4
  have hn3 := (valid_of r1.lay).n3
  have hC := refCells_ok L hL st ov hl ho
  unfold celOut at hC
  rw [r2, if_pos rfl] at hC
  have hm := refTimes_ok (celL L (trv ⟨st, ov⟩)) (celOne L ⟨st, ov⟩) nm l sp ac br (by
    have := (bad_zero r12).2.1; omega)
  rw [r13, r12] at hm
  unfold entL levL levF runI
  generalize hT' : rideT L ⟨st, ov⟩ l sp ac br = T at *
  generalize hts : trv ⟨st, ov⟩ = ts at *
  unfold vLay at hF hC ⊢
  refine X_fn mixedX Try.func40 rfl (by kernel_rfl) (Nat.le_of_ble_eq_true (by kernel_rfl)) (by kernel_rfl) rfl rfl (Nat.le_of_ble_eq_true rfl) rfl rfl ?_
  simp only [sl0, Nat.zero_add, Nat.reduceAdd]
  repeat' (first
    |with_reducible (first|refine q_and ?_ ?_|exact True.intro|exact TkEq.nil _|refine Red.o (by constructor) ?_|refine blockK_o' rfl ?_|refine LoopX_e' rfl ?_|assumption)
    |((with_reducible apply q_call);first|refine X_pure (hF) rfl ?_|refine X_pure (hC) rfl ?_|refine X_pure (hm) rfl ?_)
    |((with_reducible apply q_CI);intro hbq;(try simp only [bq] at hbq);(try (exfalso;omega)))
    |refine Rex.o (by (with_reducible constructor);apply Eq.refl) ?_
    |(intro (hgq : (_ : Bool) = true);(try simp only [bq] at hgq))
    |(intro (hgq : (_ : Bool) = false);(try simp only [bq] at hgq))
    |((with_reducible apply q_VOk);exact fun _ => ⟨rfl,rfl⟩)|(intro _;exact rfl)|((with_reducible apply q_CRB);kernel_rfl)|((with_reducible apply q_bt);simp only [bq])|((with_reducible apply q_eqN);rfl)|((with_reducible apply q_FE);exact rfl)|with_reducible (first|exact isByte_wrap _|exact isByte_nat _)|(simp only [hgq,bq];done)|omega|(dsimp only;omega))
  clear hF hm hC r13 r12 r11 r10
  have hrl : (row (endA L ts (ts.length - 1) + 1) T).length = _ := row_len _ _
  have hE : ∀ j, j + 1 ≤ ts.length → endA L ts j ≤ endA L ts (ts.length - 1) := fun j hj => endA_mono L ts (by omega)
  have hEb : endA L ts (ts.length - 1) ≤ 400 * 24 := by
    have : ∀ j, j + 1 ≤ ts.length → endA L ts j ≤ 400 * j := by
      intro j
      induction j with
      | zero => intro _; exact Nat.le_refl _
      | succ j ih => intro hj; have := ih (by omega); have := (r8 (j + 1) (by omega)).2.2; simp only [endA]; omega
    have := this (ts.length - 1) (by omega)
    omega
  refine W_loopS (fun k : Nat => SS [sC 3 (pB 0), sC 4 (pB 1), sC 5 (pB 2), sC 6 (tInt (row k fun k => T (endA L ts (k - 1)))), sC 7 (tInt (row k fun k => T (if k + 1 < ts.length then endA L ts k + l.toNat else endA L ts k))), sC 14 (rInt (row (endA L ts (ts.length - 1) + 1) T)), sI 16 (endA L ts (k - 1)), sI 17 k] [bLay L, bRte st ov, bS5 nm l sp ac br]) (fun k => k ≤ ts.length) (fun k => ts.length - k) 0 ?_ (by omega) ?_
  ·
    refine X_weak rfl rfl rfl ?_ ?_ <;> repeat' (first|with_reducible (first|refine Wk.o (by constructor) ?_|refine q_and ?_ ?_|exact True.intro)|refine q_AgS rfl ?_ ?_|exact CLe.nil_tipS|exact CLe.nil_rowS|refine HLe.cells ?_ ?_|refine HLe.els ?_ ?_|refine SLe.cons ?_ ?_|exact (rfl : known _ = _)|with_reducible rfl|omega)
    all_goals rfl
  intro k hk
  have hl1 := row_len k fun k => T (endA L ts (k - 1))
  have hl2 := row_len k fun k => T (if k + 1 < ts.length then endA L ts k + l.toNat else endA L ts k)
  by_cases hkn : k < ts.length
  · have f0 := hE (k - 1) (by omega)
    have f2 := hE k (by omega)
    have f1 : 0 < k → endA L ts k = endA L ts (k - 1) + secN L ts k := fun h => by
      obtain ⟨j, rfl⟩ : ∃ j, k = j + 1 := ⟨k - 1, by omega⟩
      rfl
    have f3 : k + 1 < ts.length → endA L ts k + l.toNat ≤ endA L ts (ts.length - 1) := fun h => by
      have a := hE (k + 1) (by omega)
      have b := (r8 (k + 1) h).2.1
      simp only [endA] at a
      omega
    have f4 : ¬ k + 1 < ts.length → endA L ts k = endA L ts (ts.length - 1) := fun h => by rw [show k = ts.length - 1 by omega]
    have g0 : ts.getD k st0 = st.getD (k : Int).toNat { sec := 0, dir := 0 } := hat k (by omega)
    have g1 : 0 ≤ (st.getD (k : Int).toNat { sec := 0, dir := 0 }).sec ∧ (st.getD (k : Int).toNat { sec := 0, dir := 0 }).sec < L.secs.length := by rw [← g0]; exact r7 k hkn
    have g2 : (L.secs.getD (st.getD (k : Int).toNat { sec := 0, dir := 0 }).sec.toNat sec0).len = (secN L ts k : Nat) := by rw [← g0]; exact r9 k hkn
    have g3 := r8 k hkn
    generalize secN L ts k = sk at *
    have hex : (row (endA L ts (ts.length - 1) + 1) T).getD ((endA L ts (k - 1) : Nat) : Int).toNat 0 = T (endA L ts (k - 1)) := by rw [Int.toNat_natCast, row_get (by omega)]
    have f5 : endA L ts (k + 1 - 1) = endA L ts k := rfl
    have f6 : k = 0 → endA L ts (k - 1) = endA L ts k := fun h => by rw [h]
    have hv : ∀ z : Int, z = min ((endA L ts k : Int) + l) (endA L ts (ts.length - 1) : Int) → (row (endA L ts (ts.length - 1) + 1) T).getD z.toNat 0 = T (if k + 1 < ts.length then endA L ts k + l.toNat else endA L ts k) := fun z hz => by
      by_cases c : k + 1 < ts.length
      · have := f3 c
        rw [if_pos c, show z.toNat = endA L ts k + l.toNat by omega, row_get (by omega)]
      · have := f4 c
        rw [if_neg c, show z.toNat = endA L ts k by omega, row_get (by omega)]
    repeat' (first
      |with_reducible (first|refine q_and ?_ ?_|exact True.intro|exact TkEq.nil _|refine Red.o (by constructor) ?_|refine blockK_o' rfl ?_|refine LoopX_e' rfl ?_|assumption)
      |((with_reducible apply q_CI);intro hbq;(try simp only [bq] at hbq);(try (exfalso;omega)))
      |refine Rex.o (by (with_reducible constructor);apply Eq.refl) ?_
      |(intro (hgq : (_ : Bool) = true);(try simp only [bq] at hgq))
      |(intro (hgq : (_ : Bool) = false);(try simp only [bq] at hgq))
      |((with_reducible apply q_VOk);exact fun _ => ⟨rfl,rfl⟩)|(intro _;exact rfl)|((with_reducible apply q_CRB);kernel_rfl)|((with_reducible apply q_bt);simp only [bq])|((with_reducible apply q_eqN);rfl)|((with_reducible apply q_FE);exact rfl)|with_reducible (first|exact isByte_wrap _|exact isByte_nat _)|(simp only [hgq,bq];done)|omega|(dsimp only;omega))
    ·
      refine LoopK_n (k + 1) ?_ ((by omega)) (by (try dsimp only); omega)
      refine X_weak rfl rfl rfl ?_ ?_ <;> repeat' (first|with_reducible (first|refine Wk.o (by constructor) ?_|refine q_and ?_ ?_|exact True.intro)|refine q_AgS rfl ?_ ?_|exact CLe.nil_tipS|exact CLe.nil_rowS|refine HLe.cells ?_ ?_|refine HLe.els ?_ ?_|refine SLe.cons ?_ ?_|exact (rfl : known _ = _)|with_reducible rfl|omega)
      · rw [hex, row_snoc]; simp [fInt, fI]
      · rw [row_len, row_len]
      · rw [hv _ (by omega), row_snoc]; simp [fInt, fI]
      · rw [row_len, row_len]
    ·
      refine LoopK_n (k + 1) ?_ ((by omega)) (by (try dsimp only); omega)
      refine X_weak rfl rfl rfl ?_ ?_ <;> repeat' (first|with_reducible (first|refine Wk.o (by constructor) ?_|refine q_and ?_ ?_|exact True.intro)|refine q_AgS rfl ?_ ?_|exact CLe.nil_tipS|exact CLe.nil_rowS|refine HLe.cells ?_ ?_|refine HLe.els ?_ ?_|refine SLe.cons ?_ ?_|exact (rfl : known _ = _)|with_reducible rfl|omega)
      · rw [hex, row_snoc]; simp [fInt, fI]
      · rw [row_len, row_len]
      · rw [hv _ (by omega), row_snoc]; simp [fInt, fI]
      · rw [row_len, row_len]
  · have hkn : k = ts.length := by omega
    subst hkn
    have hex : (row (endA L ts (ts.length - 1) + 1) T).getD (((row (endA L ts (ts.length - 1) + 1) T).length : Int) - 1).toNat 0 = T (endA L ts (ts.length - 1)) := by rw [hrl, show (((endA L ts (ts.length - 1) + 1 : Nat) : Int) - 1).toNat = endA L ts (ts.length - 1) by omega, row_get (by omega)]
    have hr := r14 _ (Nat.le_refl _)
    have hU := refCeil_okV ((row (endA L ts (ts.length - 1) + 1) T).getD (((row (endA L ts (ts.length - 1) + 1) T).length : Int) - 1).toNat 0) 1000 (by rw [hex]; omega) (by omega)
    repeat' (first
      |with_reducible (first|refine q_and ?_ ?_|exact True.intro|exact TkEq.nil _|refine Red.o (by constructor) ?_|refine blockK_o' rfl ?_|refine LoopX_e' rfl ?_|assumption)
      |((with_reducible apply q_call);refine X_pure (hU) rfl ?_)
      |((with_reducible apply q_CI);intro hbq;(try simp only [bq] at hbq);(try (exfalso;omega)))
      |refine Rex.o (by (with_reducible constructor);apply Eq.refl) ?_
      |(intro (hgq : (_ : Bool) = true);(try simp only [bq] at hgq))
      |(intro (hgq : (_ : Bool) = false);(try simp only [bq] at hgq))
      |((with_reducible apply q_VOk);exact fun _ => ⟨rfl,rfl⟩)|(intro _;exact rfl)|((with_reducible apply q_CRB);kernel_rfl)|((with_reducible apply q_bt);simp only [bq])|((with_reducible apply q_eqN);rfl)|((with_reducible apply q_FE);exact rfl)|with_reducible (first|exact isByte_wrap _|exact isByte_nat _)|(simp only [hgq,bq];done)|omega|(dsimp only;omega))
    simp only [hex]
    rfl
end Go.Proofs.Ytbpeakgihhdocaa.Av
namespace Go.Proofs.Ytbpeakgihhdocaa.Av
set_option linter.unusedVariables false
set_option linter.unusedSimpArgs false
set_option maxRecDepth 4000
set_option maxHeartbeats 4000000
abbrev bOcc (l : List Occ) : Option SB := some (.els 3 fOcc vOcc mOcc ⟨0, 0, 0⟩ l)
def addO (t : List Occ) (x : Nat) (a b : Int) : List Occ := t.set x (if (t.getD x ⟨0, 0, 0⟩).frm < (t.getD x ⟨0, 0, 0⟩).til then ⟨x, min a (t.getD x ⟨0, 0, 0⟩).frm, max b (t.getD x ⟨0, 0, 0⟩).til⟩ else ⟨x, a, b⟩)
def usedO (o : Occ) : Bool := decide (o.frm < o.til)
theorem newTable_ok (L : Lay) (hV : Valid L) : OkV Try.prog 64 [vLay L] [] (.c (.c (.arr 1 0 (L.secs.length + L.pts.length) (L.secs.length + L.pts.length)))) [bLay L, bOcc (List.replicate (L.secs.length + L.pts.length) ⟨0, 0, 0⟩)] := by
  have h1 := hV.n2
  have h2 := hV.n3
  have e : ((L.secs.length : Int) + L.pts.length).toNat = L.secs.length + L.pts.length := by omega
  unfold vLay
  refine X_fn mixedX Try.func64 rfl (by kernel_rfl) (Nat.le_of_ble_eq_true (by kernel_rfl)) (by kernel_rfl) rfl rfl (Nat.le_of_ble_eq_true rfl) rfl rfl ?_
  simp only [sl0, Nat.zero_add, Nat.reduceAdd]
  repeat' (first
    |with_reducible (first|refine q_and ?_ ?_|exact True.intro|exact TkEq.nil _|refine Red.o (by constructor) ?_|refine blockK_o' rfl ?_|refine LoopX_e' rfl ?_|assumption)
    |((with_reducible apply q_CI);intro hbq;(try simp only [bq] at hbq);(try (exfalso;omega)))
    |refine Rex.o (by (with_reducible constructor);apply Eq.refl) ?_
    |(intro (hgq : (_ : Bool) = true);(try simp only [bq] at hgq))
    |(intro (hgq : (_ : Bool) = false);(try simp only [bq] at hgq))
    |((with_reducible apply q_VOk);exact fun _ => ⟨rfl,rfl⟩)|(intro _;exact rfl)|((with_reducible apply q_CRB);kernel_rfl)|((with_reducible apply q_bt);simp only [bq])|((with_reducible apply q_eqN);rfl)|((with_reducible apply q_FE);exact rfl)|with_reducible (first|exact isByte_wrap _|exact isByte_nat _)|(simp only [hgq,bq];done)|omega|(dsimp only;omega))
  · rw [e]; rfl
  · rw [e]
    repeat' (first|with_reducible (first|refine Wk.o (by constructor) ?_|refine q_and ?_ ?_|exact True.intro)|refine VEq.c ?_|refine VEq.agg ?_|refine VEq.tup ?_|refine TkEq.cells ?_ ?_|refine TkEq.els ?_ ?_|refine SEqL.cons ?_ ?_|refine TEqL.agg ?_ ?_|refine CEq.rows ?_|refine CEq.int ?_|rfl|omega)
theorem tadd_ok (t : List Occ) (x : Nat) (a b : Int) (hx : x < t.length) (hl : t.length ≤ 1000) : OkV Try.prog 65 [.c (.c (.arr 0 0 t.length t.length)), .c (xI x), .c (xI a), .c (xI b)] [bOcc t] (.tup []) [bOcc (addO t x a b)] := by
  unfold addO
  refine X_fn mixedX Try.func65 rfl (by kernel_rfl) (Nat.le_of_ble_eq_true (by kernel_rfl)) (by kernel_rfl) rfl rfl (Nat.le_of_ble_eq_true rfl) rfl rfl ?_
  simp only [sl0, Nat.zero_add, Nat.reduceAdd]
  repeat' (first
    |with_reducible (first|refine q_and ?_ ?_|exact True.intro|exact TkEq.nil _|refine Red.o (by constructor) ?_|refine blockK_o' rfl ?_|refine LoopX_e' rfl ?_|assumption)
    |((with_reducible apply q_CI);intro hbq;(try simp only [bq] at hbq);(try (exfalso;omega)))
    |refine Rex.o (by (with_reducible constructor);apply Eq.refl) ?_
    |(intro (hgq : (_ : Bool) = true);(try simp only [bq] at hgq))
    |(intro (hgq : (_ : Bool) = false);(try simp only [bq] at hgq))
    |((with_reducible apply q_VOk);exact fun _ => ⟨rfl,rfl⟩)|(intro _;exact rfl)|((with_reducible apply q_CRB);kernel_rfl)|((with_reducible apply q_bt);simp only [bq])|((with_reducible apply q_eqN);rfl)|((with_reducible apply q_FE);exact rfl)|with_reducible (first|exact isByte_wrap _|exact isByte_nat _)|(simp only [hgq,bq];done)|omega|(dsimp only;omega))
  · exact Nat.le_refl _
  · rfl
  · rfl
  · rw [if_pos (by simpa using hbq)]
    repeat' (first|with_reducible (first|refine Wk.o (by constructor) ?_|refine q_and ?_ ?_|exact True.intro)|refine VEq.c ?_|refine VEq.agg ?_|refine VEq.tup ?_|refine TkEq.cells ?_ ?_|refine TkEq.els ?_ ?_|refine SEqL.cons ?_ ?_|refine TEqL.agg ?_ ?_|refine CEq.rows ?_|refine CEq.int ?_|rfl|omega)
  · exact Nat.le_refl _
  · rfl
  · rfl
  · rw [if_neg (by simpa using hbq)]
    repeat' (first|with_reducible (first|refine Wk.o (by constructor) ?_|refine q_and ?_ ?_|exact True.intro)|refine VEq.c ?_|refine VEq.agg ?_|refine VEq.tup ?_|refine TkEq.cells ?_ ?_|refine TkEq.els ?_ ?_|refine SEqL.cons ?_ ?_|refine TEqL.agg ?_ ?_|refine CEq.rows ?_|refine CEq.int ?_|rfl|omega)
theorem tadd_okI (t : List Occ) (N : Nat) (x a b : Int) (hx : 0 ≤ x ∧ x < N) (hN : t.length = N) (hl : N ≤ 1000) : OkV Try.prog 65 [.c (.c (.arr 0 0 N N)), .c (xI x), .c (xI a), .c (xI b)] [bOcc t] (.tup []) [bOcc (addO t x.toNat a b)] := by
  have h := tadd_ok t x.toNat a b (by omega) (by omega)
  rwa [hN, Int.toNat_of_nonneg hx.1] at h
theorem tlist_okB (t : List Occ) (N : Nat) (hN : t.length = N) (hl : N ≤ 1000) : OkV Try.prog 67 [.c (.c (.arr 0 0 N N))] [bOcc t] (.c (rOcc (t.filter usedO))) [bOcc t] := by
  refine X_fn mixedX Try.func67 rfl (by kernel_rfl) (Nat.le_of_ble_eq_true (by kernel_rfl)) (by kernel_rfl) rfl rfl (Nat.le_of_ble_eq_true rfl) rfl rfl ?_
  simp only [sl0, Nat.zero_add, Nat.reduceAdd]
  repeat' (first
    |with_reducible (first|refine q_and ?_ ?_|exact True.intro|exact TkEq.nil _|refine Red.o (by constructor) ?_|refine blockK_o' rfl ?_|refine LoopX_e' rfl ?_|assumption)
    |((with_reducible apply q_CI);intro hbq;(try simp only [bq] at hbq);(try (exfalso;omega)))
    |refine Rex.o (by (with_reducible constructor);apply Eq.refl) ?_
    |(intro (hgq : (_ : Bool) = true);(try simp only [bq] at hgq))
    |(intro (hgq : (_ : Bool) = false);(try simp only [bq] at hgq))
    |((with_reducible apply q_VOk);exact fun _ => ⟨rfl,rfl⟩)|(intro _;exact rfl)|((with_reducible apply q_CRB);kernel_rfl)|((with_reducible apply q_bt);simp only [bq])|((with_reducible apply q_eqN);rfl)|((with_reducible apply q_FE);exact rfl)|with_reducible (first|exact isByte_wrap _|exact isByte_nat _)|(simp only [hgq,bq];done)|omega|(dsimp only;omega))
  refine W_loopS (fun i : Nat => SS [sC 3 (tOcc ((t.take i).filter usedO)), sC 6 (.c (.arr 0 0 N N)), sI 7 N, sI 8 i] [bOcc t]) (fun i => i ≤ N) (fun i => N - i) 0 ?_ (by omega) ?_
  ·
    refine X_weak rfl rfl rfl ?_ ?_ <;> repeat' (first|with_reducible (first|refine Wk.o (by constructor) ?_|refine q_and ?_ ?_|exact True.intro)|refine q_AgS rfl ?_ ?_|exact CLe.nil_tipS|exact CLe.nil_rowS|refine HLe.cells ?_ ?_|refine HLe.els ?_ ?_|refine SLe.cons ?_ ?_|exact (rfl : known _ = _)|with_reducible rfl|omega)
  intro i hi
  have hfl : ((t.take i).filter usedO).length ≤ 1000 := by
    have a := List.length_filter_le usedO (t.take i)
    rw [List.length_take] at a
    omega
  have hsn : i < t.length → (t.take (i + 1)).filter usedO = (t.take i).filter usedO ++ (if usedO (t.getD i ⟨0, 0, 0⟩) = true then [t.getD i ⟨0, 0, 0⟩] else []) := fun h => by
    rw [List.take_succ_eq_append_getElem h, List.filter_append, List.getD_eq_getElem?_getD, List.getElem?_eq_getElem h]
    simp only [Option.getD_some, List.filter_cons, List.filter_nil]
  repeat' (first
    |with_reducible (first|refine q_and ?_ ?_|exact True.intro|exact TkEq.nil _|refine Red.o (by constructor) ?_|refine blockK_o' rfl ?_|refine LoopX_e' rfl ?_|assumption)
    |((with_reducible apply q_CI);intro hbq;(try simp only [bq] at hbq);(try (exfalso;omega)))
    |refine Rex.o (by (with_reducible constructor);apply Eq.refl) ?_
    |(intro (hgq : (_ : Bool) = true);(try simp only [bq] at hgq))
    |(intro (hgq : (_ : Bool) = false);(try simp only [bq] at hgq))
    |((with_reducible apply q_VOk);exact fun _ => ⟨rfl,rfl⟩)|(intro _;exact rfl)|((with_reducible apply q_CRB);kernel_rfl)|((with_reducible apply q_bt);simp only [bq])|((with_reducible apply q_eqN);rfl)|((with_reducible apply q_FE);exact rfl)|with_reducible (first|exact isByte_wrap _|exact isByte_nat _)|(simp only [hgq,bq];done)|omega|(dsimp only;omega))
  · have hu : usedO (t.getD i ⟨0, 0, 0⟩) = true := by unfold usedO; simpa using hbq
    refine LoopK_n (i + 1) ?_ ((by omega)) (by (try dsimp only); omega)
    refine X_weak rfl rfl rfl ?_ ?_ <;> repeat' (first|with_reducible (first|refine Wk.o (by constructor) ?_|refine q_and ?_ ?_|exact True.intro)|refine q_AgS rfl ?_ ?_|exact CLe.nil_tipS|exact CLe.nil_rowS|refine HLe.cells ?_ ?_|refine HLe.els ?_ ?_|refine SLe.cons ?_ ?_|exact (rfl : known _ = _)|with_reducible rfl|omega)
    all_goals (rw [hsn (by omega), if_pos hu]; simp [fOcc, fI])
  · have hu : ¬ usedO (t.getD i ⟨0, 0, 0⟩) = true := by unfold usedO; simpa using hbq
    refine LoopK_n (i + 1) ?_ ((by omega)) (by (try dsimp only); omega)
    refine X_weak rfl rfl rfl ?_ ?_ <;> repeat' (first|with_reducible (first|refine Wk.o (by constructor) ?_|refine q_and ?_ ?_|exact True.intro)|refine q_AgS rfl ?_ ?_|exact CLe.nil_tipS|exact CLe.nil_rowS|refine HLe.cells ?_ ?_|refine HLe.els ?_ ?_|refine SLe.cons ?_ ?_|exact (rfl : known _ = _)|with_reducible rfl|omega)
    all_goals (rw [hsn (by omega), if_neg hu]; simp)
  · have hie : i = t.length := by omega
    subst hie
    rw [List.take_length]
    repeat' (first|with_reducible (first|refine Wk.o (by constructor) ?_|refine q_and ?_ ?_|exact True.intro)|refine VEq.c ?_|refine VEq.agg ?_|refine VEq.tup ?_|refine TkEq.cells ?_ ?_|refine TkEq.els ?_ ?_|refine SEqL.cons ?_ ?_|refine TEqL.agg ?_ ?_|refine CEq.rows ?_|refine CEq.int ?_|rfl|omega)
  ·
    repeat' (first|with_reducible (first|refine Wk.o (by constructor) ?_|refine q_and ?_ ?_|exact True.intro)|refine VEq.c ?_|refine VEq.agg ?_|refine VEq.tup ?_|refine TkEq.cells ?_ ?_|refine TkEq.els ?_ ?_|refine SEqL.cons ?_ ?_|refine TEqL.agg ?_ ?_|refine CEq.rows ?_|refine CEq.int ?_|rfl|omega)
end Go.Proofs.Ytbpeakgihhdocaa.Av
namespace Go.Proofs.Ytbpeakgihhdocaa.Av
set_option linter.unusedVariables false
set_option linter.unusedSimpArgs false
set_option maxRecDepth 4000
set_option maxHeartbeats 4000000
abbrev bHull (n : Nat) : Option SB := some (.cells [.c (.arr 1 0 n n), .c (.arr 2 0 n n)])
def addH (hs : List Bool) (t : List Occ) (x : Nat) (a b : Int) : List Occ := t.set x (if hs.getD x false = true then ⟨x, min a (t.getD x ⟨0, 0, 0⟩).frm, max b (t.getD x ⟨0, 0, 0⟩).til⟩ else ⟨x, a, b⟩)
theorem hadd_ok (hs : List Bool) (t : List Occ) (x : Nat) (a b : Int) (hx : x < t.length) (hh : hs.length = t.length) (hl : t.length ≤ 1000) : OkV Try.prog 69 [.c (pB 0), .c (xI x), .c (xI a), .c (xI b)] [bHull t.length, bBool hs, bOcc t] (.tup []) [bHull t.length, bBool (hs.set x true), bOcc (addH hs t x a b)] := by
  unfold addH
  refine X_fn mixedX Try.func69 rfl (by kernel_rfl) (Nat.le_of_ble_eq_true (by kernel_rfl)) (by kernel_rfl) rfl rfl (Nat.le_of_ble_eq_true rfl) rfl rfl ?_
  simp only [sl0, Nat.zero_add, Nat.reduceAdd]
  repeat' (first
    |with_reducible (first|refine q_and ?_ ?_|exact True.intro|exact TkEq.nil _|refine Red.o (by constructor) ?_|refine blockK_o' rfl ?_|refine LoopX_e' rfl ?_|assumption)
    |((with_reducible apply q_CI);intro hbq;(try simp only [bq] at hbq);(try (exfalso;omega)))
    |refine Rex.o (by (with_reducible constructor);apply Eq.refl) ?_
    |(intro (hgq : (_ : Bool) = true);(try simp only [bq] at hgq))
    |(intro (hgq : (_ : Bool) = false);(try simp only [bq] at hgq))
    |((with_reducible apply q_VOk);exact fun _ => ⟨rfl,rfl⟩)|(intro _;exact rfl)|((with_reducible apply q_CRB);kernel_rfl)|((with_reducible apply q_bt);simp only [bq])|((with_reducible apply q_eqN);rfl)|((with_reducible apply q_FE);exact rfl)|with_reducible (first|exact isByte_wrap _|exact isByte_nat _)|(simp only [hgq,bq];done)|omega|(dsimp only;omega))
  · rfl
  · exact Nat.le_refl _
  · rfl
  · rfl
  · rw [if_pos (by simpa using hbq)]
    repeat' (first|with_reducible (first|refine Wk.o (by constructor) ?_|refine q_and ?_ ?_|exact True.intro)|refine VEq.c ?_|refine VEq.agg ?_|refine VEq.tup ?_|refine TkEq.cells ?_ ?_|refine TkEq.els ?_ ?_|refine SEqL.cons ?_ ?_|refine TEqL.agg ?_ ?_|refine CEq.rows ?_|refine CEq.int ?_|rfl|omega)
  · rfl
  · exact Nat.le_refl _
  · rfl
  · rfl
  · rw [if_neg (by simpa using hbq)]
    repeat' (first|with_reducible (first|refine Wk.o (by constructor) ?_|refine q_and ?_ ?_|exact True.intro)|refine VEq.c ?_|refine VEq.agg ?_|refine VEq.tup ?_|refine TkEq.cells ?_ ?_|refine TkEq.els ?_ ?_|refine SEqL.cons ?_ ?_|refine TEqL.agg ?_ ?_|refine CEq.rows ?_|refine CEq.int ?_|rfl|omega)
end Go.Proofs.Ytbpeakgihhdocaa.Av
namespace Go.Proofs.Ytbpeakgihhdocaa.Av
set_option linter.unusedVariables false
set_option linter.unusedSimpArgs false
section
variable (L : Lay) (r : Rte) (l sp ac br bf af : Int)
def entF (k : Nat) : Int := rideT L r l sp ac br (endA L (trv r) (k - 1))
def spF (i : Nat) : Int := if i = 0 then -bf else if i < (trv r).length then entF L r l sp ac br (i - 1) / 1000 - 16 else entF L r l sp ac br ((trv r).length - 1) / 1000 - 16
def spT (i : Nat) : Int := if i + 1 < (trv r).length then Pl.cdiv (levF L r l sp ac br i) 1000 + 4 else if i + 1 = (trv r).length then runI L r l sp ac br + af else runI L r l sp ac br + 20
def ptT (i : Nat) : Int := if i < (trv r).length then spT L r l sp ac br af (i - 1) else spT L r l sp ac br af i
end
theorem ride_mono {L : Lay} {r : Rte} {l sp ac br : Int} (h : Ride L r l sp ac br) {i j : Nat} (hij : i ≤ j) (hj : j ≤ endA L (trv r) ((trv r).length - 1)) : rideT L r l sp ac br i ≤ rideT L r l sp ac br j := by
  have hq := chk_of h.chk
  have hb := bad_zero h.bad
  have ha := h.all
  have ho := h.one
  induction j with
  | zero => rw [Nat.le_zero.1 hij]; exact Int.le_refl _
  | succ j ih =>
    rcases Nat.lt_or_ge i (j + 1) with h1 | h1
    · refine Int.le_trans (ih (by omega) (by omega)) ?_
      have := step_range (start := (celOne L r).toNat) (l := l.toNat) hq.2.2.1 hq.2.2.2.1 hq.2.2.2.2.1 hq.2.2.2.2.2.1 hq.2.2.2.2.2.2.1 hq.2.2.2.2.2.2.2 hb.2.2.1 (by omega) j (by omega)
      unfold rideT
      simp only [tim]
      omega
    · rw [show i = j + 1 by omega]; exact Int.le_refl _
theorem cd_le {a b : Int} (h : a ≤ b) : a / 1000 ≤ Pl.cdiv b 1000 := by
  obtain ⟨b1, b2⟩ := Pl.cdiv_bracket b 1000 (by omega)
  omega
section
variable {L : Lay} {r : Rte} {l sp ac br bf af : Int} (h : Ride L r l sp ac br)
include h
theorem lev_in {j : Nat} (hj : j < (trv r).length) : endA L (trv r) j ≤ (if j + 1 < (trv r).length then endA L (trv r) j + l.toNat else endA L (trv r) j) ∧ (if j + 1 < (trv r).length then endA L (trv r) j + l.toNat else endA L (trv r) j) ≤ endA L (trv r) ((trv r).length - 1) := by
  have a := endA_mono L (trv r) (show j ≤ (trv r).length - 1 by omega)
  split
  · rename_i c
    have b := endA_mono L (trv r) (show j + 1 ≤ (trv r).length - 1 by omega)
    have d := (h.len (j + 1) c).2.1
    have hq := chk_of h.chk
    simp only [endA] at b
    omega
  · omega
theorem ent_le_lev {i j : Nat} (hij : i ≤ j + 1) (hj : j < (trv r).length) : entF L r l sp ac br i ≤ levF L r l sp ac br j := by
  have a := lev_in h hj
  have b := endA_mono L (trv r) (show i - 1 ≤ j by omega)
  exact ride_mono h (by omega) a.2
theorem ent_le_end {i : Nat} (hi : i ≤ (trv r).length) : entF L r l sp ac br i ≤ rideT L r l sp ac br (endA L (trv r) ((trv r).length - 1)) := by
  have b := endA_mono L (trv r) (show i - 1 ≤ (trv r).length - 1 by omega)
  exact ride_mono h b (Nat.le_refl _)
theorem lev_pos {j : Nat} (hj : j < (trv r).length) : 0 ≤ levF L r l sp ac br j := (h.rng _ (lev_in h hj).2).1
theorem spF_lt (hb : 0 ≤ bf) (ha : 0 ≤ af) (i : Nat) : spF L r l sp ac br bf i < spT L r l sp ac br af i := by
  have hn := h.n2
  unfold spF spT runI
  by_cases h0 : i = 0
  · have a := lev_pos h (j := i) (by omega)
    have b := cd_le a
    rw [if_pos h0, if_pos (by omega)]
    omega
  · rw [if_neg h0]
    by_cases h1 : i < (trv r).length
    · rw [if_pos h1]
      by_cases h2 : i + 1 < (trv r).length
      · rw [if_pos h2]
        have := cd_le (ent_le_lev h (i := i - 1) (j := i) (by omega) h1)
        omega
      · rw [if_neg h2, if_pos (by omega)]
        have := cd_le (ent_le_end h (i := i - 1) (by omega))
        omega
    · rw [if_neg h1, if_neg (by omega), if_neg (by omega)]
      have := cd_le (ent_le_end h (i := (trv r).length - 1) (by omega))
      omega
theorem ptF_lt (hb : 0 ≤ bf) (ha : 0 ≤ af) (i : Nat) (hi : 0 < i) : spF L r l sp ac br bf i < ptT L r l sp ac br af i := by
  unfold ptT
  by_cases h1 : i < (trv r).length
  · rw [if_pos h1]
    unfold spF spT
    rw [if_neg (by omega), if_pos h1, if_pos (by omega)]
    have := cd_le (ent_le_lev h (i := i - 1) (j := i - 1) (by omega) (by omega))
    omega
  · rw [if_neg h1]
    exact spF_lt h hb ha i
end
def tabS (L : Lay) (st : List Stp) (F T P : Nat → Int) (i : Nat) (t : List Occ) : List Occ :=
  let t1 := addO t (st.getD i st0).sec.toNat (F i) (T i)
  if i = 0 then t1 else
  match joinL L (st.getD (i - 1) st0) (st.getD i st0) with
  | some k => if k.pt < 0 then t1 else addO t1 (L.secs.length + k.pt.toNat) (F i) (P i)
  | none => t1
def tabL (L : Lay) (st : List Stp) (F T P : Nat → Int) : Nat → List Occ
  | 0 => List.replicate (L.secs.length + L.pts.length) ⟨0, 0, 0⟩
  | i + 1 => tabS L st F T P i (tabL L st F T P i)
theorem addO_len (t : List Occ) (x : Nat) (a b : Int) : (addO t x a b).length = t.length := by unfold addO; rw [List.length_set]
theorem tabS_len (L : Lay) (st : List Stp) (F T P : Nat → Int) (i : Nat) (t : List Occ) : (tabS L st F T P i t).length = t.length := by
  unfold tabS
  simp only
  split
  · rw [addO_len]
  · split
    · split
      · rw [addO_len]
      · rw [addO_len, addO_len]
    · rw [addO_len]
theorem tabL_len (L : Lay) (st : List Stp) (F T P : Nat → Int) : ∀ i, (tabL L st F T P i).length = L.secs.length + L.pts.length
  | 0 => by simp [tabL]
  | i + 1 => by rw [tabL, tabS_len]; exact tabL_len L st F T P i
theorem hop_pt {L : Lay} (hV : Valid L) {a : Stp} {h : Hop} (hm : h ∈ hopsL L a) : -1 ≤ h.pt ∧ h.pt < L.pts.length := by
  unfold hopsL at hm
  obtain ⟨k, hk, e⟩ := List.mem_filterMap.1 hm
  have hl := linkB_of (hV.v4 k hk)
  unfold hopK at e
  split at e
  · injection e with e; subst e; exact ⟨hl.2.2.2.2.2.2.2.2.1, hl.2.2.2.2.2.2.2.2.2.1⟩
  · split at e
    · injection e with e; subst e; exact ⟨hl.2.2.2.2.2.2.2.2.1, hl.2.2.2.2.2.2.2.2.2.1⟩
    · cases e
theorem join_at {L : Lay} {r : Rte} (h : RteOk L r) {i : Nat} (h0 : 0 < i) (hi : i < r.st.length) : ∃ k, joinL L (r.st.getD (i - 1) st0) (r.st.getD i st0) = some k ∧ -1 ≤ k.pt ∧ k.pt < L.pts.length := by
  have hk := List.all_eq_true.1 h.link (i - 1) (List.mem_range.2 (by omega))
  unfold linkAt at hk
  rw [Nat.sub_add_cancel h0] at hk
  obtain ⟨k, hk⟩ := Option.isSome_iff_exists.1 hk
  refine ⟨k, hk, ?_⟩
  unfold joinL at hk
  exact hop_pt (valid_of h.lay) (List.mem_of_find?_eq_some hk)
theorem add_agree {hs : List Bool} {t : List Occ} (hh : hs = t.map usedO) (x : Nat) {a b : Int} (hab : a < b) : addH hs t x a b = addO t x a b ∧ hs.set x true = (addO t x a b).map usedO := by
  unfold addH addO
  by_cases hx : x < t.length
  · have e : hs.getD x false = usedO (t.getD x ⟨0, 0, 0⟩) := by
      rw [hh, List.getD_eq_getElem?_getD, List.getD_eq_getElem?_getD, List.getElem?_map, List.getElem?_eq_getElem hx]
      rfl
    have e2 : (hs.getD x false = true) = ((t.getD x ⟨0, 0, 0⟩).frm < (t.getD x ⟨0, 0, 0⟩).til) := by
      rw [e]; unfold usedO; rw [decide_eq_true_eq]
    refine ⟨by simp only [e2], ?_⟩
    rw [List.map_set, ← hh]
    congr 1
    unfold usedO
    split
    · rename_i c
      symm; rw [decide_eq_true_eq]; simp only; omega
    · symm; rw [decide_eq_true_eq]; exact hab
  · have h1 : ∀ y, t.set x y = t := fun y => List.set_eq_of_length_le (by omega)
    rw [h1, h1]
    exact ⟨rfl, by rw [List.set_eq_of_length_le (by rw [hh, List.length_map]; omega)]; exact hh⟩
end Go.Proofs.Ytbpeakgihhdocaa.Av
namespace Go.Proofs.Ytbpeakgihhdocaa.Av
set_option linter.unusedVariables false
set_option linter.unusedSimpArgs false
set_option maxRecDepth 4000
set_option maxHeartbeats 4000000
def rowO (n : Nat) (F T : Nat → Int) : List Occ := (List.range n).map fun i => ⟨0, F i, T i⟩
theorem rowO_len (n : Nat) (F T : Nat → Int) : (rowO n F T).length = n := by simp [rowO]
theorem rowO_snoc (n : Nat) (F T : Nat → Int) : rowO (n + 1) F T = rowO n F T ++ [⟨0, F n, T n⟩] := by
  unfold rowO; rw [List.range_succ, List.map_append]; rfl
theorem rowO_get {n : Nat} {F T : Nat → Int} {i : Nat} (h : i < n) : (rowO n F T).getD i ⟨0, 0, 0⟩ = ⟨0, F i, T i⟩ := by simp [rowO, List.getD_eq_getElem?_getD, h]
theorem occupations_bad (L : Lay) (hL : LayFits L) (st : List Stp) (ov : Int) (hl : st.length ≤ 9223372036854775807) (ho : -9223372036854775808 ≤ ov ∧ ov ≤ 9223372036854775807) (nm : ByteArray) (l sp ac br bf af : Int) (h : ¬ fitErr L ⟨st, ov⟩ l sp ac br = 0) : OkV Try.prog 38 [vLay L, vR2 st ov, vS5 nm l sp ac br, .c (xI bf), .c (xI af)] [] (.tup [.c (rOcc []), .c (xI 0), .c (xI (fitErr L ⟨st, ov⟩ l sp ac br))]) [] := by
  have hF := btimes_bad L hL st ov hl ho nm l sp ac br h
  unfold vLay at hF ⊢
  refine X_fn mixedX Try.func38 rfl (by kernel_rfl) (Nat.le_of_ble_eq_true (by kernel_rfl)) (by kernel_rfl) rfl rfl (Nat.le_of_ble_eq_true rfl) rfl rfl ?_
  simp only [sl0, Nat.zero_add, Nat.reduceAdd]
  repeat' (first
    |with_reducible (first|refine q_and ?_ ?_|exact True.intro|exact TkEq.nil _|refine Red.o (by constructor) ?_|refine blockK_o' rfl ?_|refine LoopX_e' rfl ?_|assumption)
    |((with_reducible apply q_call);refine X_pure (hF) rfl ?_)
    |((with_reducible apply q_CI);intro hbq;(try simp only [bq] at hbq);(try (exfalso;omega)))
    |refine Rex.o (by (with_reducible constructor);apply Eq.refl) ?_
    |(intro (hgq : (_ : Bool) = true);(try simp only [bq] at hgq))
    |(intro (hgq : (_ : Bool) = false);(try simp only [bq] at hgq))
    |((with_reducible apply q_VOk);exact fun _ => ⟨rfl,rfl⟩)|(intro _;exact rfl)|((with_reducible apply q_CRB);kernel_rfl)|((with_reducible apply q_bt);simp only [bq])|((with_reducible apply q_eqN);rfl)|((with_reducible apply q_FE);exact rfl)|with_reducible (first|exact isByte_wrap _|exact isByte_nat _)|(simp only [hgq,bq];done)|omega|(dsimp only;omega))
  · rfl
theorem occupations_ok (L : Lay) (hL : LayFits L) (st : List Stp) (ov : Int) (hl : st.length ≤ 9223372036854775807) (ho : -9223372036854775808 ≤ ov ∧ ov ≤ 9223372036854775807) (nm : ByteArray) (l sp ac br bf af : Int) (h : fitErr L ⟨st, ov⟩ l sp ac br = 0) (hb : 0 ≤ bf ∧ bf ≤ 1000000) (ha : 0 ≤ af ∧ af ≤ 1000000) : OkV Try.prog 38 [vLay L, vR2 st ov, vS5 nm l sp ac br, .c (xI bf), .c (xI af)] [] (.tup [.c (rOcc ((tabL L st (spF L ⟨st, ov⟩ l sp ac br bf) (spT L ⟨st, ov⟩ l sp ac br af) (ptT L ⟨st, ov⟩ l sp ac br af) st.length).filter usedO)), .c (xI (runI L ⟨st, ov⟩ l sp ac br)), .c (xI 0)]) [] := by
  have hF := btimes_ok L hL st ov hl ho nm l sp ac br h
  have hR := ride_of h
  have hN := newTable_ok L (valid_of hR.rt.lay)
  have hn2 := hR.n2
  have hn24 := hR.n24
  have hE1 := row_len (trv ⟨st, ov⟩).length fun k => rideT L ⟨st, ov⟩ l sp ac br (endA L (trv ⟨st, ov⟩) (k - 1))
  have hE2 : ∀ k, k < (trv ⟨st, ov⟩).length → (entL L ⟨st, ov⟩ l sp ac br (trv ⟨st, ov⟩).length).getD k 0 = entF L ⟨st, ov⟩ l sp ac br k := fun k hk => row_get hk
  have hL1 := row_len (trv ⟨st, ov⟩).length (levF L ⟨st, ov⟩ l sp ac br)
  have hL2 : ∀ k, k < (trv ⟨st, ov⟩).length → (levL L ⟨st, ov⟩ l sp ac br (trv ⟨st, ov⟩).length).getD k 0 = levF L ⟨st, ov⟩ l sp ac br k := fun k hk => row_get hk
  change (entL L ⟨st, ov⟩ l sp ac br (trv ⟨st, ov⟩).length).length = _ at hE1
  change (levL L ⟨st, ov⟩ l sp ac br (trv ⟨st, ov⟩).length).length = _ at hL1
  have hEb : ∀ k, k < (trv ⟨st, ov⟩).length → 0 ≤ entF L ⟨st, ov⟩ l sp ac br k ∧ entF L ⟨st, ov⟩ l sp ac br k ≤ 80000000 := fun k hk => hR.rng _ (endA_mono L _ (by omega))
  have hLb : ∀ k, k < (trv ⟨st, ov⟩).length → 0 ≤ levF L ⟨st, ov⟩ l sp ac br k ∧ levF L ⟨st, ov⟩ l sp ac br k ≤ 80000000 := fun k hk => hR.rng _ (lev_in hR hk).2
  have hrb : -1 ≤ runI L ⟨st, ov⟩ l sp ac br ∧ runI L ⟨st, ov⟩ l sp ac br ≤ 80001 := by
    have a := hR.rng _ (Nat.le_refl _)
    obtain ⟨b1, b2⟩ := Pl.cdiv_bracket (rideT L ⟨st, ov⟩ l sp ac br (endA L (trv ⟨st, ov⟩) ((trv ⟨st, ov⟩).length - 1))) 1000 (by omega)
    unfold runI
    omega
  generalize entL L ⟨st, ov⟩ l sp ac br (trv ⟨st, ov⟩).length = es at *
  generalize levL L ⟨st, ov⟩ l sp ac br (trv ⟨st, ov⟩).length = lv at *
  have hU := up_ok (lv.getD 0 0) (by have := hL2 0 (by omega); have := hLb 0 (by omega); omega)
  have hub := Pl.cdiv_bracket (lv.getD 0 0) 1000 (by omega)
  have hl0 := hL2 0 (by omega)
  have hl0b := hLb 0 (by omega)
  unfold vLay at hF hN ⊢
  refine X_fn mixedX Try.func38 rfl (by kernel_rfl) (Nat.le_of_ble_eq_true (by kernel_rfl)) (by kernel_rfl) rfl rfl (Nat.le_of_ble_eq_true rfl) rfl rfl ?_
  simp only [sl0, Nat.zero_add, Nat.reduceAdd]
  repeat' (first
    |with_reducible (first|refine q_and ?_ ?_|exact True.intro|exact TkEq.nil _|refine Red.o (by constructor) ?_|refine blockK_o' rfl ?_|refine LoopX_e' rfl ?_|assumption)
    |((with_reducible apply q_call);first|refine X_pure (hF) rfl ?_|refine X_pure (hU) rfl ?_)
    |((with_reducible apply q_CI);intro hbq;(try simp only [bq] at hbq);(try (exfalso;omega)))
    |refine Rex.o (by (with_reducible constructor);apply Eq.refl) ?_
    |(intro (hgq : (_ : Bool) = true);(try simp only [bq] at hgq))
    |(intro (hgq : (_ : Bool) = false);(try simp only [bq] at hgq))
    |((with_reducible apply q_VOk);exact fun _ => ⟨rfl,rfl⟩)|(intro _;exact rfl)|((with_reducible apply q_CRB);kernel_rfl)|((with_reducible apply q_bt);simp only [bq])|((with_reducible apply q_eqN);rfl)|((with_reducible apply q_FE);exact rfl)|with_reducible (first|exact isByte_wrap _|exact isByte_nat _)|(simp only [hgq,bq];done)|omega|(dsimp only;omega))
  clear hF
  have hF0 : spF L ⟨st, ov⟩ l sp ac br bf 0 = -bf := rfl
  have hT0 : spT L ⟨st, ov⟩ l sp ac br af 0 = Pl.cdiv (lv.getD 0 0) 1000 + 4 := by rw [hl0]; unfold spT; rw [if_pos (by omega)]
  refine W_loopS (fun k : Nat => SS [sI 3 bf, sI 4 af, sC 5 (pB 0), sC 6 (pB 1), sC 13 (rInt es), sC 14 (rInt lv), sI 15 (runI L ⟨st, ov⟩ l sp ac br), sI 17 ((trv ⟨st, ov⟩).length - 1 : Nat), sC 18 (tOcc (rowO (k + 1) (spF L ⟨st, ov⟩ l sp ac br bf) (spT L ⟨st, ov⟩ l sp ac br af))), sI 19 (k + 1 : Nat)] [bLay L, bRte st ov]) (fun k => k + 1 ≤ (trv ⟨st, ov⟩).length - 1) (fun k => (trv ⟨st, ov⟩).length - k) 0 ?_ (by omega) ?_
  ·
    refine X_weak rfl rfl rfl ?_ ?_ <;> repeat' (first|with_reducible (first|refine Wk.o (by constructor) ?_|refine q_and ?_ ?_|exact True.intro)|refine q_AgS rfl ?_ ?_|exact CLe.nil_tipS|exact CLe.nil_rowS|refine HLe.cells ?_ ?_|refine HLe.els ?_ ?_|refine SLe.cons ?_ ?_|exact (rfl : known _ = _)|with_reducible rfl|omega)
    all_goals first
      | omega
      | (
        rw [← hF0, ← hT0]
        rfl)
      | rw [rowO_len]
  intro k hk
  have hl2 := rowO_len (k + 1) (spF L ⟨st, ov⟩ l sp ac br bf) (spT L ⟨st, ov⟩ l sp ac br af)
  by_cases hkm : k + 1 < (trv ⟨st, ov⟩).length - 1
  · have e1 : (((k + 1 : Nat) : Int) - 1).toNat = k := by omega
    have c1 : es.getD (((k + 1 : Nat) : Int) - 1).toNat 0 = entF L ⟨st, ov⟩ l sp ac br k := by rw [e1]; exact hE2 k (by omega)
    have c2 : lv.getD ((k + 1 : Nat) : Int).toNat 0 = levF L ⟨st, ov⟩ l sp ac br (k + 1) := hL2 (k + 1) (by omega)
    have c3 := hEb k (by omega)
    have c4 := hLb (k + 1) (by omega)
    have hD := down_ok (es.getD (((k + 1 : Nat) : Int) - 1).toNat 0) (by omega)
    have hU2 := up_ok (lv.getD ((k + 1 : Nat) : Int).toNat 0) (by omega)
    have hub2 := Pl.cdiv_bracket (lv.getD ((k + 1 : Nat) : Int).toNat 0) 1000 (by omega)
    have f1 : spF L ⟨st, ov⟩ l sp ac br bf (k + 1) = es.getD (((k + 1 : Nat) : Int) - 1).toNat 0 / 1000 - 16 := by
      rw [c1]; unfold spF; rw [if_neg (by omega), if_pos (by omega)]; rfl
    have f2 : spT L ⟨st, ov⟩ l sp ac br af (k + 1) = Pl.cdiv (lv.getD ((k + 1 : Nat) : Int).toNat 0) 1000 + 4 := by
      rw [c2]; unfold spT; rw [if_pos (by omega)]
    repeat' (first
      |with_reducible (first|refine q_and ?_ ?_|exact True.intro|exact TkEq.nil _|refine Red.o (by constructor) ?_|refine blockK_o' rfl ?_|refine LoopX_e' rfl ?_|assumption)
      |((with_reducible apply q_call);first|refine X_pure (hD) rfl ?_|refine X_pure (hU2) rfl ?_)
      |((with_reducible apply q_CI);intro hbq;(try simp only [bq] at hbq);(try (exfalso;omega)))
      |refine Rex.o (by (with_reducible constructor);apply Eq.refl) ?_
      |(intro (hgq : (_ : Bool) = true);(try simp only [bq] at hgq))
      |(intro (hgq : (_ : Bool) = false);(try simp only [bq] at hgq))
      |((with_reducible apply q_VOk);exact fun _ => ⟨rfl,rfl⟩)|(intro _;exact rfl)|((with_reducible apply q_CRB);kernel_rfl)|((with_reducible apply q_bt);simp only [bq])|((with_reducible apply q_eqN);rfl)|((with_reducible apply q_FE);exact rfl)|with_reducible (first|exact isByte_wrap _|exact isByte_nat _)|(simp only [hgq,bq];done)|omega|(dsimp only;omega))
    ·
      refine LoopK_n (k + 1) ?_ ((by omega)) (by (try dsimp only); omega)
      refine X_weak rfl rfl rfl ?_ ?_ <;> repeat' (first|with_reducible (first|refine Wk.o (by constructor) ?_|refine q_and ?_ ?_|exact True.intro)|refine q_AgS rfl ?_ ?_|exact CLe.nil_tipS|exact CLe.nil_rowS|refine HLe.cells ?_ ?_|refine HLe.els ?_ ?_|refine SLe.cons ?_ ?_|exact (rfl : known _ = _)|with_reducible rfl|omega)
      · rw [rowO_snoc (k + 1), f1, f2]; simp [fOcc, fI]
      · rw [rowO_len, rowO_len]
  have hkn : k + 1 = (trv ⟨st, ov⟩).length - 1 := by omega
  have e1 : ((((trv ⟨st, ov⟩).length - 1 : Nat) : Int) - 1).toNat = k := by omega
  have e2 : (((trv ⟨st, ov⟩).length - 1 : Nat) : Int).toNat = k + 1 := by omega
  have c1 : es.getD ((((trv ⟨st, ov⟩).length - 1 : Nat) : Int) - 1).toNat 0 = entF L ⟨st, ov⟩ l sp ac br k := by rw [e1]; exact hE2 k (by omega)
  have c2 : es.getD (((trv ⟨st, ov⟩).length - 1 : Nat) : Int).toNat 0 = entF L ⟨st, ov⟩ l sp ac br (k + 1) := by rw [e2]; exact hE2 (k + 1) (by omega)
  have c3 := hEb k (by omega)
  have c4 := hEb (k + 1) (by omega)
  have hD1 := down_ok (es.getD ((((trv ⟨st, ov⟩).length - 1 : Nat) : Int) - 1).toNat 0) (by omega)
  have hD2 := down_ok (es.getD (((trv ⟨st, ov⟩).length - 1 : Nat) : Int).toNat 0) (by omega)
  repeat' (first
    |with_reducible (first|refine q_and ?_ ?_|exact True.intro|exact TkEq.nil _|refine Red.o (by constructor) ?_|refine blockK_o' rfl ?_|refine LoopX_e' rfl ?_|assumption)
    |((with_reducible apply q_call);first|refine X_pure (hD1) rfl ?_|refine X_pure (hD2) rfl ?_|refine X_call [] (hN) rfl rfl rfl rfl rfl rfl rfl rfl rfl rfl rfl rfl rfl ?_)
    |((with_reducible apply q_CI);intro hbq;(try simp only [bq] at hbq);(try (exfalso;omega)))
    |refine Rex.o (by (with_reducible constructor);apply Eq.refl) ?_
    |(intro (hgq : (_ : Bool) = true);(try simp only [bq] at hgq))
    |(intro (hgq : (_ : Bool) = false);(try simp only [bq] at hgq))
    |((with_reducible apply q_VOk);exact fun _ => ⟨rfl,rfl⟩)|(intro _;exact rfl)|((with_reducible apply q_CRB);kernel_rfl)|((with_reducible apply q_bt);simp only [bq])|((with_reducible apply q_eqN);rfl)|((with_reducible apply q_FE);exact rfl)|with_reducible (first|exact isByte_wrap _|exact isByte_nat _)|(simp only [hgq,bq];done)|omega|(dsimp only;omega))
  have g1 : spF L ⟨st, ov⟩ l sp ac br bf (k + 1) = es.getD ((((trv ⟨st, ov⟩).length - 1 : Nat) : Int) - 1).toNat 0 / 1000 - 16 := by
    rw [c1]; unfold spF; rw [if_neg (by omega), if_pos (by omega)]; rfl
  have g2 : spT L ⟨st, ov⟩ l sp ac br af (k + 1) = runI L ⟨st, ov⟩ l sp ac br + af := by
    unfold spT; rw [if_neg (by omega), if_pos (by omega)]
  have g3 : ∀ i, (trv ⟨st, ov⟩).length ≤ i → spF L ⟨st, ov⟩ l sp ac br bf i = es.getD (((trv ⟨st, ov⟩).length - 1 : Nat) : Int).toNat 0 / 1000 - 16 := fun i hi => by
    rw [c2]; unfold spF; rw [if_neg (by omega), if_neg (by omega), ← hkn]
  have g4 : ∀ i, (trv ⟨st, ov⟩).length ≤ i → spT L ⟨st, ov⟩ l sp ac br af i = runI L ⟨st, ov⟩ l sp ac br + 20 := fun i hi => by
    unfold spT; rw [if_neg (by omega), if_neg (by omega)]
  have gp1 : ∀ i, 0 < i → i < (trv ⟨st, ov⟩).length → ptT L ⟨st, ov⟩ l sp ac br af i = spT L ⟨st, ov⟩ l sp ac br af (i - 1) := fun i h0 hi => by unfold ptT; rw [if_pos hi]
  have gp2 : ∀ i, (trv ⟨st, ov⟩).length ≤ i → ptT L ⟨st, ov⟩ l sp ac br af i = spT L ⟨st, ov⟩ l sp ac br af i := fun i hi => by unfold ptT; rw [if_neg (by omega)]
  have gb : ∀ i, -1000100 ≤ spF L ⟨st, ov⟩ l sp ac br bf i ∧ spF L ⟨st, ov⟩ l sp ac br bf i ≤ 80001000 := fun i => by
    unfold spF
    split
    · omega
    · split
      · have := hEb (i - 1) (by omega); omega
      · have := hEb ((trv ⟨st, ov⟩).length - 1) (by omega); omega
  have hn4 : (trv ⟨st, ov⟩).length ≤ st.length := by
    have h1 := hR.n
    have h2 := hR.rt.ov0
    simp only at h1 h2
    omega
  have hRt := hR.rt
  have hV := valid_of hRt.lay
  have hsx : ∀ i, i < st.length → Stp.ok L (st.getD i st0) = true := fun i hi => all_at hRt.ok hi
  have hNb : L.secs.length + L.pts.length ≤ 1000 := by have := hV.n2; have := hV.n3; omega
  have hBt := fun a b ha => between_ok L hL hRt.lay a b ha
  have hst24 := hRt.len
  simp only at hst24
  have hgl := fun i => tabL_len L st (spF L ⟨st, ov⟩ l sp ac br bf) (spT L ⟨st, ov⟩ l sp ac br af) (ptT L ⟨st, ov⟩ l sp ac br af) i
  have hjn : ∀ i, 0 < i → i < st.length → ∃ k, joinL L (st.getD (i - 1) st0) (st.getD i st0) = some k ∧ -1 ≤ k.pt ∧ k.pt < L.pts.length := fun i h0 hi => join_at hRt h0 hi
  clear hE2 hL2 hEb hLb hD1 hD2 hN c1 c2 hl0 hT0 hF0 hU hub hl0b hk hn24
  generalize spF L ⟨st, ov⟩ l sp ac br bf = F at *
  generalize spT L ⟨st, ov⟩ l sp ac br af = T at *
  generalize ptT L ⟨st, ov⟩ l sp ac br af = P at *
  generalize runI L ⟨st, ov⟩ l sp ac br = run at *
  generalize hnn : (trv ⟨st, ov⟩).length = n at *
  generalize hov : es.getD ((n - 1 : Nat) : Int).toNat 0 / 1000 - 16 = ovF at *
  have hmx : max 0 n = k + 1 + 1 := by omega
  refine W_loopS (fun i : Nat => SS [sC 5 (pB 0), sC 6 (pB 1), sI 15 run, sI 17 (n - 1 : Nat), sC 18 (uOcc (rowO (max i n) F T)), sC 20 (pB 2), sC 21 (.c (.arr 4 0 (L.secs.length + L.pts.length) (L.secs.length + L.pts.length))), sC 97 (rStp st), sI 98 st.length, sI 99 i] [bLay L, bRte st ov, some (.cells [xI 0, xI ovF, xI (run + 20)]), none, bOcc (tabL L st F T P i)]) (fun i => i ≤ st.length) (fun i => st.length - i) 0 ?_ (by omega) ?_
  ·
    refine X_weak rfl rfl rfl ?_ ?_ <;> repeat' (first|with_reducible (first|refine Wk.o (by constructor) ?_|refine q_and ?_ ?_|exact True.intro)|refine q_AgS rfl ?_ ?_|exact CLe.nil_tipS|exact CLe.nil_rowS|refine HLe.cells ?_ ?_|refine HLe.els ?_ ?_|refine SLe.cons ?_ ?_|exact (rfl : known _ = _)|with_reducible rfl|omega)
    · rfl
    · rw [hmx, rowO_snoc (k + 1), g1, g2]; simp [fOcc, fI]
    · rw [hmx, rowO_len, rowO_len]
  clear g1 g2 hl2
  intro i hi
  have hl3 := rowO_len (max i n) F T
  by_cases hil : i < st.length
  · have s1 : 0 ≤ (st.getD (i : Int).toNat { sec := 0, dir := 0 }).sec ∧ (st.getD (i : Int).toNat { sec := 0, dir := 0 }).sec < L.secs.length := ⟨(ok_dir (hsx i hil)).1, (ok_dir (hsx i hil)).2.1⟩
    have hTl := hgl i
    by_cases hin : i < n
    · have m1 : max i n = n := by omega
      have m2 : max (i + 1) n = n := by omega
      have q1 : (rowO (max i n) F T).getD (i : Int).toNat { res := 0, frm := 0, til := 0 } = ⟨0, F i, T i⟩ := by rw [Int.toNat_natCast]; exact rowO_get (by omega)
      have hA1 := tadd_okI (tabL L st F T P i) (L.secs.length + L.pts.length) (st.getD (i : Int).toNat { sec := 0, dir := 0 }).sec ((rowO (max i n) F T).getD (i : Int).toNat { res := 0, frm := 0, til := 0 }).frm ((rowO (max i n) F T).getD (i : Int).toNat { res := 0, frm := 0, til := 0 }).til ⟨s1.1, by omega⟩ hTl hNb
      have e0 : tabL L st F T P (i + 1) = tabS L st F T P i (tabL L st F T P i) := rfl
      by_cases hi0 : i = 0
      · have e1 : tabL L st F T P (i + 1) = addO (tabL L st F T P i) (st.getD (i : Int).toNat { sec := 0, dir := 0 }).sec.toNat ((rowO (max i n) F T).getD (i : Int).toNat { res := 0, frm := 0, til := 0 }).frm ((rowO (max i n) F T).getD (i : Int).toNat { res := 0, frm := 0, til := 0 }).til := by
          rw [e0, q1, Int.toNat_natCast]; unfold tabS; rw [if_pos hi0]
        repeat' (first
          |with_reducible (first|refine q_and ?_ ?_|exact True.intro|exact TkEq.nil _|refine Red.o (by constructor) ?_|refine blockK_o' rfl ?_|refine LoopX_e' rfl ?_|assumption)
          |((with_reducible apply q_call);refine X_call [4] (hA1) rfl rfl rfl rfl rfl rfl rfl rfl rfl rfl rfl rfl rfl ?_)
          |((with_reducible apply q_CI);intro hbq;(try simp only [bq] at hbq);(try (exfalso;omega)))
          |with_reducible (first|refine W_seq ?_|refine W_block ?_)
          |((with_reducible apply q_cond);refine X_cond rfl ?_ ?_;all_goals (intro hbq;(try simp only [bq] at hbq);(try (exfalso;omega))))
          |refine Rex.o (by (with_reducible constructor);apply Eq.refl) ?_
          |(intro (hgq : (_ : Bool) = true);(try simp only [bq] at hgq))
          |(intro (hgq : (_ : Bool) = false);(try simp only [bq] at hgq))
          |((with_reducible apply q_VOk);exact fun _ => ⟨rfl,rfl⟩)|(intro _;exact rfl)|((with_reducible apply q_CRB);kernel_rfl)|((with_reducible apply q_bt);simp only [bq])|((with_reducible apply q_eqN);rfl)|((with_reducible apply q_FE);exact rfl)|with_reducible (first|exact isByte_wrap _|exact isByte_nat _)|(simp only [hgq,bq];done)|omega|(dsimp only;omega))
        ·
          refine LoopK_n (i + 1) ?_ ((by omega)) (by (try dsimp only); omega)
          refine X_weak rfl rfl rfl ?_ ?_ <;> repeat' (first|with_reducible (first|refine Wk.o (by constructor) ?_|refine q_and ?_ ?_|exact True.intro)|refine q_AgS rfl ?_ ?_|exact CLe.nil_tipS|exact CLe.nil_rowS|refine HLe.cells ?_ ?_|refine HLe.els ?_ ?_|refine SLe.cons ?_ ?_|exact (rfl : known _ = _)|with_reducible rfl|omega)
          · rw [e1]
          · rw [m1, m2]
      · obtain ⟨j, hj, hj1, hj2⟩ := hjn i (by omega) hil
        have eI : ((i : Int) - 1).toNat = i - 1 := by omega
        have q2 : (rowO (max i n) F T).getD ((i : Int) - 1).toNat { res := 0, frm := 0, til := 0 } = ⟨0, F (i - 1), T (i - 1)⟩ := by rw [eI]; exact rowO_get (by omega)
        have hB : OkV Try.prog 66 [vLay L, vSt (st.getD ((i : Int) - 1).toNat { sec := 0, dir := 0 }), vSt (st.getD (i : Int).toNat { sec := 0, dir := 0 })] [] (vI j.pt) [] := by
          have h0 := hBt (st.getD (i - 1) st0) (st.getD i st0) (hsx (i - 1) (by omega))
          rw [hj] at h0
          rw [eI]
          exact h0
        unfold vLay at hB
        generalize hA : addO (tabL L st F T P i) (st.getD (i : Int).toNat { sec := 0, dir := 0 }).sec.toNat ((rowO (max i n) F T).getD (i : Int).toNat { res := 0, frm := 0, til := 0 }).frm ((rowO (max i n) F T).getD (i : Int).toNat { res := 0, frm := 0, til := 0 }).til = A at hA1
        have hAl : A.length = L.secs.length + L.pts.length := by rw [← hA, addO_len, hTl]
        by_cases hjp : j.pt < 0
        · have e1 : tabL L st F T P (i + 1) = A := by
            rw [e0, ← hA, q1, Int.toNat_natCast]; unfold tabS; rw [if_neg hi0, hj]; simp only; rw [if_pos hjp]
          repeat' (first
            |with_reducible (first|refine q_and ?_ ?_|exact True.intro|exact TkEq.nil _|refine Red.o (by constructor) ?_|refine blockK_o' rfl ?_|refine LoopX_e' rfl ?_|assumption)
            |((with_reducible apply q_call);first|refine X_call [4] (hA1) rfl rfl rfl rfl rfl rfl rfl rfl rfl rfl rfl rfl rfl ?_|refine X_pure (hB) rfl ?_)
            |((with_reducible apply q_CI);intro hbq;(try simp only [bq] at hbq);(try (exfalso;omega)))
            |with_reducible (first|refine W_seq ?_|refine W_block ?_)
            |((with_reducible apply q_cond);refine X_cond rfl ?_ ?_;all_goals (intro hbq;(try simp only [bq] at hbq);(try (exfalso;omega))))
            |refine Rex.o (by (with_reducible constructor);apply Eq.refl) ?_
            |(intro (hgq : (_ : Bool) = true);(try simp only [bq] at hgq))
            |(intro (hgq : (_ : Bool) = false);(try simp only [bq] at hgq))
            |((with_reducible apply q_VOk);exact fun _ => ⟨rfl,rfl⟩)|(intro _;exact rfl)|((with_reducible apply q_CRB);kernel_rfl)|((with_reducible apply q_bt);simp only [bq])|((with_reducible apply q_eqN);rfl)|((with_reducible apply q_FE);exact rfl)|with_reducible (first|exact isByte_wrap _|exact isByte_nat _)|(simp only [hgq,bq];done)|omega|(dsimp only;omega))
          ·
            refine LoopK_n (i + 1) ?_ ((by omega)) (by (try dsimp only); omega)
            refine X_weak rfl rfl rfl ?_ ?_ <;> repeat' (first|with_reducible (first|refine Wk.o (by constructor) ?_|refine q_and ?_ ?_|exact True.intro)|refine q_AgS rfl ?_ ?_|exact CLe.nil_tipS|exact CLe.nil_rowS|refine HLe.cells ?_ ?_|refine HLe.els ?_ ?_|refine SLe.cons ?_ ?_|exact (rfl : known _ = _)|with_reducible rfl|omega)
            · rw [e1]
            · rw [m1, m2]
        · have hA2 := tadd_okI A (L.secs.length + L.pts.length) (L.secs.length + j.pt) ((rowO (max i n) F T).getD (i : Int).toNat { res := 0, frm := 0, til := 0 }).frm ((rowO (max i n) F T).getD ((i : Int) - 1).toNat { res := 0, frm := 0, til := 0 }).til ⟨by omega, by omega⟩ hAl hNb
          have e1 : tabL L st F T P (i + 1) = addO A ((L.secs.length : Int) + j.pt).toNat ((rowO (max i n) F T).getD (i : Int).toNat { res := 0, frm := 0, til := 0 }).frm ((rowO (max i n) F T).getD ((i : Int) - 1).toNat { res := 0, frm := 0, til := 0 }).til := by
            rw [e0, ← hA, q1, q2, Int.toNat_natCast]; unfold tabS; rw [if_neg hi0, hj]; simp only; rw [if_neg hjp, gp1 i (by omega) hin, show ((L.secs.length : Int) + j.pt).toNat = L.secs.length + j.pt.toNat by omega]
          repeat' (first
            |with_reducible (first|refine q_and ?_ ?_|exact True.intro|exact TkEq.nil _|refine Red.o (by constructor) ?_|refine blockK_o' rfl ?_|refine LoopX_e' rfl ?_|assumption)
            |((with_reducible apply q_call);first|refine X_call [4] (hA1) rfl rfl rfl rfl rfl rfl rfl rfl rfl rfl rfl rfl rfl ?_|refine X_call [4] (hA2) rfl rfl rfl rfl rfl rfl rfl rfl rfl rfl rfl rfl rfl ?_|refine X_pure (hB) rfl ?_)
            |((with_reducible apply q_CI);intro hbq;(try simp only [bq] at hbq);(try (exfalso;omega)))
            |with_reducible (first|refine W_seq ?_|refine W_block ?_)
            |((with_reducible apply q_cond);refine X_cond rfl ?_ ?_;all_goals (intro hbq;(try simp only [bq] at hbq);(try (exfalso;omega))))
            |refine Rex.o (by (with_reducible constructor);apply Eq.refl) ?_
            |(intro (hgq : (_ : Bool) = true);(try simp only [bq] at hgq))
            |(intro (hgq : (_ : Bool) = false);(try simp only [bq] at hgq))
            |((with_reducible apply q_VOk);exact fun _ => ⟨rfl,rfl⟩)|(intro _;exact rfl)|((with_reducible apply q_CRB);kernel_rfl)|((with_reducible apply q_bt);simp only [bq])|((with_reducible apply q_eqN);rfl)|((with_reducible apply q_FE);exact rfl)|with_reducible (first|exact isByte_wrap _|exact isByte_nat _)|(simp only [hgq,bq];done)|omega|(dsimp only;omega))
          ·
            refine LoopK_n (i + 1) ?_ ((by omega)) (by (try dsimp only); omega)
            refine X_weak rfl rfl rfl ?_ ?_ <;> repeat' (first|with_reducible (first|refine Wk.o (by constructor) ?_|refine q_and ?_ ?_|exact True.intro)|refine q_AgS rfl ?_ ?_|exact CLe.nil_tipS|exact CLe.nil_rowS|refine HLe.cells ?_ ?_|refine HLe.els ?_ ?_|refine SLe.cons ?_ ?_|exact (rfl : known _ = _)|with_reducible rfl|omega)
            · rw [e1]
            · rw [m1, m2]
    · have m1 : max i n = i := by omega
      have m2 : max (i + 1) n = i + 1 := by omega
      have q0 : rowO (max i n) F T ++ [Occ.mk 0 ovF (run + 20)] = rowO (i + 1) F T := by rw [m1, rowO_snoc, g3 i (by omega), g4 i (by omega)]
      have q1 : (rowO (max i n) F T ++ [Occ.mk 0 ovF (run + 20)]).getD (i : Int).toNat { res := 0, frm := 0, til := 0 } = ⟨0, F i, T i⟩ := by rw [q0, Int.toNat_natCast]; exact rowO_get (by omega)
      have q5 : (rowO (max i n) F T ++ [Occ.mk 0 ovF (run + 20)]).length = i + 1 := by rw [q0, rowO_len]
      have hA1 := tadd_okI (tabL L st F T P i) (L.secs.length + L.pts.length) (st.getD (i : Int).toNat { sec := 0, dir := 0 }).sec ((rowO (max i n) F T ++ [Occ.mk 0 ovF (run + 20)]).getD (i : Int).toNat { res := 0, frm := 0, til := 0 }).frm ((rowO (max i n) F T ++ [Occ.mk 0 ovF (run + 20)]).getD (i : Int).toNat { res := 0, frm := 0, til := 0 }).til ⟨s1.1, by omega⟩ hTl hNb
      have e0 : tabL L st F T P (i + 1) = tabS L st F T P i (tabL L st F T P i) := rfl
      have hi0 : ¬ i = 0 := by omega
      obtain ⟨j, hj, hj1, hj2⟩ := hjn i (by omega) hil
      have eI : ((i : Int) - 1).toNat = i - 1 := by omega
      have hB : OkV Try.prog 66 [vLay L, vSt (st.getD ((i : Int) - 1).toNat { sec := 0, dir := 0 }), vSt (st.getD (i : Int).toNat { sec := 0, dir := 0 })] [] (vI j.pt) [] := by
        have h0 := hBt (st.getD (i - 1) st0) (st.getD i st0) (hsx (i - 1) (by omega))
        rw [hj] at h0
        rw [eI]
        exact h0
      unfold vLay at hB
      generalize hA : addO (tabL L st F T P i) (st.getD (i : Int).toNat { sec := 0, dir := 0 }).sec.toNat ((rowO (max i n) F T ++ [Occ.mk 0 ovF (run + 20)]).getD (i : Int).toNat { res := 0, frm := 0, til := 0 }).frm ((rowO (max i n) F T ++ [Occ.mk 0 ovF (run + 20)]).getD (i : Int).toNat { res := 0, frm := 0, til := 0 }).til = A at hA1
      have hAl : A.length = L.secs.length + L.pts.length := by rw [← hA, addO_len, hTl]
      by_cases hjp : j.pt < 0
      · have e1 : tabL L st F T P (i + 1) = A := by
          rw [e0, ← hA, q1, Int.toNat_natCast]; unfold tabS; rw [if_neg hi0, hj]; simp only; rw [if_pos hjp]
        repeat' (first
          |with_reducible (first|refine q_and ?_ ?_|exact True.intro|exact TkEq.nil _|refine Red.o (by constructor) ?_|refine blockK_o' rfl ?_|refine LoopX_e' rfl ?_|assumption)
          |((with_reducible apply q_call);first|refine X_call [4] (hA1) rfl rfl rfl rfl rfl rfl rfl rfl rfl rfl rfl rfl rfl ?_|refine X_pure (hB) rfl ?_)
          |((with_reducible apply q_CI);intro hbq;(try simp only [bq] at hbq);(try (exfalso;omega)))
          |with_reducible (first|refine W_seq ?_|refine W_block ?_)
          |((with_reducible apply q_cond);refine X_cond rfl ?_ ?_;all_goals (intro hbq;(try simp only [bq] at hbq);(try (exfalso;omega))))
          |refine Rex.o (by (with_reducible constructor);apply Eq.refl) ?_
          |(intro (hgq : (_ : Bool) = true);(try simp only [bq] at hgq))
          |(intro (hgq : (_ : Bool) = false);(try simp only [bq] at hgq))
          |((with_reducible apply q_VOk);exact fun _ => ⟨rfl,rfl⟩)|(intro _;exact rfl)|((with_reducible apply q_CRB);kernel_rfl)|((with_reducible apply q_bt);simp only [bq])|((with_reducible apply q_eqN);rfl)|((with_reducible apply q_FE);exact rfl)|with_reducible (first|exact isByte_wrap _|exact isByte_nat _)|(simp only [hgq,bq];done)|omega|(dsimp only;omega))
        ·
          refine LoopK_n (i + 1) ?_ ((by omega)) (by (try dsimp only); omega)
          refine X_weak rfl rfl rfl ?_ ?_ <;> repeat' (first|with_reducible (first|refine Wk.o (by constructor) ?_|refine q_and ?_ ?_|exact True.intro)|refine q_AgS rfl ?_ ?_|exact CLe.nil_tipS|exact CLe.nil_rowS|refine HLe.cells ?_ ?_|refine HLe.els ?_ ?_|refine SLe.cons ?_ ?_|exact (rfl : known _ = _)|with_reducible rfl|omega)
          · rw [e1]
          · rw [q0, m2]
      · have hA2 := tadd_okI A (L.secs.length + L.pts.length) (L.secs.length + j.pt) ovF (run + 20) ⟨by omega, by omega⟩ hAl hNb
        have e1 : tabL L st F T P (i + 1) = addO A ((L.secs.length : Int) + j.pt).toNat ovF (run + 20) := by
          rw [e0, ← hA, q1, Int.toNat_natCast]; unfold tabS; rw [if_neg hi0, hj]; simp only; rw [if_neg hjp, gp2 i (by omega), g3 i (by omega), g4 i (by omega), show ((L.secs.length : Int) + j.pt).toNat = L.secs.length + j.pt.toNat by omega]
        repeat' (first
          |with_reducible (first|refine q_and ?_ ?_|exact True.intro|exact TkEq.nil _|refine Red.o (by constructor) ?_|refine blockK_o' rfl ?_|refine LoopX_e' rfl ?_|assumption)
          |((with_reducible apply q_call);first|refine X_call [4] (hA1) rfl rfl rfl rfl rfl rfl rfl rfl rfl rfl rfl rfl rfl ?_|refine X_call [4] (hA2) rfl rfl rfl rfl rfl rfl rfl rfl rfl rfl rfl rfl rfl ?_|refine X_pure (hB) rfl ?_)
          |((with_reducible apply q_CI);intro hbq;(try simp only [bq] at hbq);(try (exfalso;omega)))
          |with_reducible (first|refine W_seq ?_|refine W_block ?_)
          |((with_reducible apply q_cond);refine X_cond rfl ?_ ?_;all_goals (intro hbq;(try simp only [bq] at hbq);(try (exfalso;omega))))
          |refine Rex.o (by (with_reducible constructor);apply Eq.refl) ?_
          |(intro (hgq : (_ : Bool) = true);(try simp only [bq] at hgq))
          |(intro (hgq : (_ : Bool) = false);(try simp only [bq] at hgq))
          |((with_reducible apply q_VOk);exact fun _ => ⟨rfl,rfl⟩)|(intro _;exact rfl)|((with_reducible apply q_CRB);kernel_rfl)|((with_reducible apply q_bt);simp only [bq])|((with_reducible apply q_eqN);rfl)|((with_reducible apply q_FE);exact rfl)|with_reducible (first|exact isByte_wrap _|exact isByte_nat _)|(simp only [hgq,bq];done)|omega|(dsimp only;omega))
        ·
          refine LoopK_n (i + 1) ?_ ((by omega)) (by (try dsimp only); omega)
          refine X_weak rfl rfl rfl ?_ ?_ <;> repeat' (first|with_reducible (first|refine Wk.o (by constructor) ?_|refine q_and ?_ ?_|exact True.intro)|refine q_AgS rfl ?_ ?_|exact CLe.nil_tipS|exact CLe.nil_rowS|refine HLe.cells ?_ ?_|refine HLe.els ?_ ?_|refine SLe.cons ?_ ?_|exact (rfl : known _ = _)|with_reducible rfl|omega)
          · rw [e1]
          · rw [q0, m2]
  · have hie : i = st.length := by omega
    subst hie
    have hLs := tlist_okB (tabL L st F T P st.length) (L.secs.length + L.pts.length) (hgl _) hNb
    repeat' (first
      |with_reducible (first|refine q_and ?_ ?_|exact True.intro|exact TkEq.nil _|refine Red.o (by constructor) ?_|refine blockK_o' rfl ?_|refine LoopX_e' rfl ?_|assumption)
      |((with_reducible apply q_call);refine X_call [4] (hLs) rfl rfl rfl rfl rfl rfl rfl rfl rfl rfl rfl rfl rfl ?_)
      |((with_reducible apply q_CI);intro hbq;(try simp only [bq] at hbq);(try (exfalso;omega)))
      |with_reducible (first|refine W_seq ?_|refine W_block ?_)
      |((with_reducible apply q_cond);refine X_cond rfl ?_ ?_;all_goals (intro hbq;(try simp only [bq] at hbq);(try (exfalso;omega))))
      |refine Rex.o (by (with_reducible constructor);apply Eq.refl) ?_
      |(intro (hgq : (_ : Bool) = true);(try simp only [bq] at hgq))
      |(intro (hgq : (_ : Bool) = false);(try simp only [bq] at hgq))
      |((with_reducible apply q_VOk);exact fun _ => ⟨rfl,rfl⟩)|(intro _;exact rfl)|((with_reducible apply q_CRB);kernel_rfl)|((with_reducible apply q_bt);simp only [bq])|((with_reducible apply q_eqN);rfl)|((with_reducible apply q_FE);exact rfl)|with_reducible (first|exact isByte_wrap _|exact isByte_nat _)|(simp only [hgq,bq];done)|omega|(dsimp only;omega))
    · rfl
end Go.Proofs.Ytbpeakgihhdocaa.Av
namespace Go.Proofs.Ytbpeakgihhdocaa.Av
set_option linter.unusedVariables false
set_option linter.unusedSimpArgs false
set_option maxRecDepth 4000
set_option maxHeartbeats 4000000
def occL (L : Lay) (st : List Stp) (ov l sp ac br bf af : Int) : List Occ := (tabL L st (spF L ⟨st, ov⟩ l sp ac br bf) (spT L ⟨st, ov⟩ l sp ac br af) (ptT L ⟨st, ov⟩ l sp ac br af) st.length).filter usedO
theorem stairs_bad (L : Lay) (hL : LayFits L) (st : List Stp) (ov : Int) (hl : st.length ≤ 9223372036854775807) (ho : -9223372036854775808 ≤ ov ∧ ov ≤ 9223372036854775807) (nm : ByteArray) (l sp ac br : Int) (h : ¬ fitErr L ⟨st, ov⟩ l sp ac br = 0) : OkV Try.prog 19 [vLay L, vR2 st ov, vS5 nm l sp ac br] [] (.tup [.c (rOcc []), .c (xI 0), .c (xI (fitErr L ⟨st, ov⟩ l sp ac br))]) [] := by
  have hF := occupations_bad L hL st ov hl ho nm l sp ac br 0 0 h
  unfold vLay at hF ⊢
  refine X_fn mixedX Try.func19 rfl (by kernel_rfl) (Nat.le_of_ble_eq_true (by kernel_rfl)) (by kernel_rfl) rfl rfl (Nat.le_of_ble_eq_true rfl) rfl rfl ?_
  simp only [sl0, Nat.zero_add, Nat.reduceAdd]
  repeat' (first
    |with_reducible (first|refine q_and ?_ ?_|exact True.intro|exact TkEq.nil _|refine Red.o (by constructor) ?_|refine blockK_o' rfl ?_|refine LoopX_e' rfl ?_|assumption)
    |((with_reducible apply q_call);refine X_pure (hF) rfl ?_)
    |((with_reducible apply q_CI);intro hbq;(try simp only [bq] at hbq);(try (exfalso;omega)))
    |refine Rex.o (by (with_reducible constructor);apply Eq.refl) ?_
    |(intro (hgq : (_ : Bool) = true);(try simp only [bq] at hgq))
    |(intro (hgq : (_ : Bool) = false);(try simp only [bq] at hgq))
    |((with_reducible apply q_VOk);exact fun _ => ⟨rfl,rfl⟩)|(intro _;exact rfl)|((with_reducible apply q_CRB);kernel_rfl)|((with_reducible apply q_bt);simp only [bq])|((with_reducible apply q_eqN);rfl)|((with_reducible apply q_FE);exact rfl)|with_reducible (first|exact isByte_wrap _|exact isByte_nat _)|(simp only [hgq,bq];done)|omega|(dsimp only;omega))
  all_goals repeat' (first|with_reducible (first|refine Wk.o (by constructor) ?_|refine q_and ?_ ?_|exact True.intro)|refine VEq.c ?_|refine VEq.agg ?_|refine VEq.tup ?_|refine TkEq.cells ?_ ?_|refine TkEq.els ?_ ?_|refine SEqL.cons ?_ ?_|refine TEqL.agg ?_ ?_|refine CEq.rows ?_|refine CEq.int ?_|rfl|omega)
theorem stairs_ok (L : Lay) (hL : LayFits L) (st : List Stp) (ov : Int) (hl : st.length ≤ 9223372036854775807) (ho : -9223372036854775808 ≤ ov ∧ ov ≤ 9223372036854775807) (nm : ByteArray) (l sp ac br : Int) (h : fitErr L ⟨st, ov⟩ l sp ac br = 0) : OkV Try.prog 19 [vLay L, vR2 st ov, vS5 nm l sp ac br] [] (.tup [.c (rOcc (occL L st ov l sp ac br 0 0)), .c (xI (runI L ⟨st, ov⟩ l sp ac br)), .c (xI 0)]) [] := by
  have hF := occupations_ok L hL st ov hl ho nm l sp ac br 0 0 h (by omega) (by omega)
  unfold occL
  generalize (tabL L st (spF L ⟨st, ov⟩ l sp ac br 0) (spT L ⟨st, ov⟩ l sp ac br 0) (ptT L ⟨st, ov⟩ l sp ac br 0) st.length).filter usedO = t at *
  unfold vLay at hF ⊢
  refine X_fn mixedX Try.func19 rfl (by kernel_rfl) (Nat.le_of_ble_eq_true (by kernel_rfl)) (by kernel_rfl) rfl rfl (Nat.le_of_ble_eq_true rfl) rfl rfl ?_
  simp only [sl0, Nat.zero_add, Nat.reduceAdd]
  repeat' (first
    |with_reducible (first|refine q_and ?_ ?_|exact True.intro|exact TkEq.nil _|refine Red.o (by constructor) ?_|refine blockK_o' rfl ?_|refine LoopX_e' rfl ?_|assumption)
    |((with_reducible apply q_call);refine X_pure (hF) rfl ?_)
    |((with_reducible apply q_CI);intro hbq;(try simp only [bq] at hbq);(try (exfalso;omega)))
    |refine Rex.o (by (with_reducible constructor);apply Eq.refl) ?_
    |(intro (hgq : (_ : Bool) = true);(try simp only [bq] at hgq))
    |(intro (hgq : (_ : Bool) = false);(try simp only [bq] at hgq))
    |((with_reducible apply q_VOk);exact fun _ => ⟨rfl,rfl⟩)|(intro _;exact rfl)|((with_reducible apply q_CRB);kernel_rfl)|((with_reducible apply q_bt);simp only [bq])|((with_reducible apply q_eqN);rfl)|((with_reducible apply q_FE);exact rfl)|with_reducible (first|exact isByte_wrap _|exact isByte_nat _)|(simp only [hgq,bq];done)|omega|(dsimp only;omega))
  all_goals repeat' (first|with_reducible (first|refine Wk.o (by constructor) ?_|refine q_and ?_ ?_|exact True.intro)|refine VEq.c ?_|refine VEq.agg ?_|refine VEq.tup ?_|refine TkEq.cells ?_ ?_|refine TkEq.els ?_ ?_|refine SEqL.cons ?_ ?_|refine TEqL.agg ?_ ?_|refine CEq.rows ?_|refine CEq.int ?_|rfl|omega)
def heldErr (L : Lay) (r : Rte) (l sp ac br bf af : Int) : Int := if fitErr L r l sp ac br ≠ 0 then fitErr L r l sp ac br else if bf < 0 ∨ 65536 < bf ∨ af < 0 ∨ 65536 < af then 4 else 0
theorem held_bad (L : Lay) (hL : LayFits L) (st : List Stp) (ov : Int) (hl : st.length ≤ 9223372036854775807) (ho : -9223372036854775808 ≤ ov ∧ ov ≤ 9223372036854775807) (nm : ByteArray) (l sp ac br bf af : Int) (h : ¬ heldErr L ⟨st, ov⟩ l sp ac br bf af = 0) : OkV Try.prog 26 [vLay L, vR2 st ov, vS5 nm l sp ac br, .c (xI bf), .c (xI af)] [] (.tup [.c (rOcc []), .c (xI 0), .c (xI (heldErr L ⟨st, ov⟩ l sp ac br bf af))]) [] := by
  have hF := fits_ok L hL st ov hl ho nm l sp ac br
  unfold heldErr at h ⊢
  generalize fitErr L ⟨st, ov⟩ l sp ac br = e at *
  unfold vLay at hF ⊢
  by_cases he : e = 0
  · rw [if_neg (by simpa using he)] at h ⊢
    have hc : bf < 0 ∨ 65536 < bf ∨ af < 0 ∨ 65536 < af := Classical.byContradiction fun hn => h (if_neg hn)
    rw [if_pos hc]
    subst he
    refine X_fn mixedX Try.func26 rfl (by kernel_rfl) (Nat.le_of_ble_eq_true (by kernel_rfl)) (by kernel_rfl) rfl rfl (Nat.le_of_ble_eq_true rfl) rfl rfl ?_
    simp only [sl0, Nat.zero_add, Nat.reduceAdd]
    repeat' (first
      |with_reducible (first|refine q_and ?_ ?_|exact True.intro|exact TkEq.nil _|refine Red.o (by constructor) ?_|refine blockK_o' rfl ?_|refine LoopX_e' rfl ?_|assumption)
      |((with_reducible apply q_call);refine X_pure (hF) rfl ?_)
      |((with_reducible apply q_CI);intro hbq;(try simp only [bq] at hbq);(try (exfalso;omega)))
      |refine Rex.o (by (with_reducible constructor);apply Eq.refl) ?_
      |(intro (hgq : (_ : Bool) = true);(try simp only [bq] at hgq))
      |(intro (hgq : (_ : Bool) = false);(try simp only [bq] at hgq))
      |((with_reducible apply q_VOk);exact fun _ => ⟨rfl,rfl⟩)|(intro _;exact rfl)|((with_reducible apply q_CRB);kernel_rfl)|((with_reducible apply q_bt);simp only [bq])|((with_reducible apply q_eqN);rfl)|((with_reducible apply q_FE);exact rfl)|with_reducible (first|exact isByte_wrap _|exact isByte_nat _)|(simp only [hgq,bq];done)|omega|(dsimp only;omega))
    · rfl
  · rw [if_pos he]
    refine X_fn mixedX Try.func26 rfl (by kernel_rfl) (Nat.le_of_ble_eq_true (by kernel_rfl)) (by kernel_rfl) rfl rfl (Nat.le_of_ble_eq_true rfl) rfl rfl ?_
    simp only [sl0, Nat.zero_add, Nat.reduceAdd]
    repeat' (first
      |with_reducible (first|refine q_and ?_ ?_|exact True.intro|exact TkEq.nil _|refine Red.o (by constructor) ?_|refine blockK_o' rfl ?_|refine LoopX_e' rfl ?_|assumption)
      |((with_reducible apply q_call);refine X_pure (hF) rfl ?_)
      |((with_reducible apply q_CI);intro hbq;(try simp only [bq] at hbq);(try (exfalso;omega)))
      |refine Rex.o (by (with_reducible constructor);apply Eq.refl) ?_
      |(intro (hgq : (_ : Bool) = true);(try simp only [bq] at hgq))
      |(intro (hgq : (_ : Bool) = false);(try simp only [bq] at hgq))
      |((with_reducible apply q_VOk);exact fun _ => ⟨rfl,rfl⟩)|(intro _;exact rfl)|((with_reducible apply q_CRB);kernel_rfl)|((with_reducible apply q_bt);simp only [bq])|((with_reducible apply q_eqN);rfl)|((with_reducible apply q_FE);exact rfl)|with_reducible (first|exact isByte_wrap _|exact isByte_nat _)|(simp only [hgq,bq];done)|omega|(dsimp only;omega))
    · rfl
theorem held_ok (L : Lay) (hL : LayFits L) (st : List Stp) (ov : Int) (hl : st.length ≤ 9223372036854775807) (ho : -9223372036854775808 ≤ ov ∧ ov ≤ 9223372036854775807) (nm : ByteArray) (l sp ac br bf af : Int) (h : fitErr L ⟨st, ov⟩ l sp ac br = 0) (hb : 0 ≤ bf ∧ bf ≤ 65536) (ha : 0 ≤ af ∧ af ≤ 65536) : OkV Try.prog 26 [vLay L, vR2 st ov, vS5 nm l sp ac br, .c (xI bf), .c (xI af)] [] (.tup [.c (rOcc (occL L st ov l sp ac br bf af)), .c (xI (runI L ⟨st, ov⟩ l sp ac br)), .c (xI 0)]) [] := by
  have hF := fits_ok L hL st ov hl ho nm l sp ac br
  rw [h] at hF
  have hO := occupations_ok L hL st ov hl ho nm l sp ac br bf af h (by omega) (by omega)
  unfold occL
  generalize (tabL L st (spF L ⟨st, ov⟩ l sp ac br bf) (spT L ⟨st, ov⟩ l sp ac br af) (ptT L ⟨st, ov⟩ l sp ac br af) st.length).filter usedO = t at *
  unfold vLay at hF hO ⊢
  refine X_fn mixedX Try.func26 rfl (by kernel_rfl) (Nat.le_of_ble_eq_true (by kernel_rfl)) (by kernel_rfl) rfl rfl (Nat.le_of_ble_eq_true rfl) rfl rfl ?_
  simp only [sl0, Nat.zero_add, Nat.reduceAdd]
  repeat' (first
    |with_reducible (first|refine q_and ?_ ?_|exact True.intro|exact TkEq.nil _|refine Red.o (by constructor) ?_|refine blockK_o' rfl ?_|refine LoopX_e' rfl ?_|assumption)
    |((with_reducible apply q_call);first|refine X_pure (hF) rfl ?_|refine X_pure (hO) rfl ?_)
    |((with_reducible apply q_CI);intro hbq;(try simp only [bq] at hbq);(try (exfalso;omega)))
    |refine Rex.o (by (with_reducible constructor);apply Eq.refl) ?_
    |(intro (hgq : (_ : Bool) = true);(try simp only [bq] at hgq))
    |(intro (hgq : (_ : Bool) = false);(try simp only [bq] at hgq))
    |((with_reducible apply q_VOk);exact fun _ => ⟨rfl,rfl⟩)|(intro _;exact rfl)|((with_reducible apply q_CRB);kernel_rfl)|((with_reducible apply q_bt);simp only [bq])|((with_reducible apply q_eqN);rfl)|((with_reducible apply q_FE);exact rfl)|with_reducible (first|exact isByte_wrap _|exact isByte_nat _)|(simp only [hgq,bq];done)|omega|(dsimp only;omega))
  all_goals repeat' (first|with_reducible (first|refine Wk.o (by constructor) ?_|refine q_and ?_ ?_|exact True.intro)|refine VEq.c ?_|refine VEq.agg ?_|refine VEq.tup ?_|refine TkEq.cells ?_ ?_|refine TkEq.els ?_ ?_|refine SEqL.cons ?_ ?_|refine TEqL.agg ?_ ?_|refine CEq.rows ?_|refine CEq.int ?_|rfl|omega)
end Go.Proofs.Ytbpeakgihhdocaa.Av
namespace Go.Proofs.Ytbpeakgihhdocaa.Av
set_option linter.unusedVariables false
set_option linter.unusedSimpArgs false
set_option maxRecDepth 4000
set_option maxHeartbeats 4000000
theorem hadd_okU (t : List Occ) (N : Nat) (x a b : Int) (hx : 0 ≤ x ∧ x < N) (hN : t.length = N) (hl : N ≤ 1000) (hab : a < b) : OkV Try.prog 69 [.c (pB 0), .c (xI x), .c (xI a), .c (xI b)] [bHull N, bBool (t.map usedO), bOcc t] (.tup []) [bHull N, bBool ((addO t x.toNat a b).map usedO), bOcc (addO t x.toNat a b)] := by
  have h := hadd_ok (t.map usedO) t x.toNat a b (by omega) (by rw [List.length_map]) (by omega)
  obtain ⟨e1, e2⟩ := add_agree (hs := t.map usedO) (t := t) rfl x.toNat hab
  rw [e1, e2, hN, Int.toNat_of_nonneg hx.1] at h
  exact h
abbrev bHs (t : List Occ) : Option SB := bBool (t.map usedO)
def lastT (T : Nat → Int) (i : Nat) : Int := if i = 0 then 0 else T (i - 1)
theorem refHeld_bad (L : Lay) (hL : LayFits L) (st : List Stp) (ov : Int) (hl : st.length ≤ 9223372036854775807) (ho : -9223372036854775808 ≤ ov ∧ ov ≤ 9223372036854775807) (nm : ByteArray) (l sp ac br bf af : Int) (h : ¬ heldErr L ⟨st, ov⟩ l sp ac br bf af = 0) : OkV Try.prog 42 [vLay L, vR2 st ov, vS5 nm l sp ac br, .c (xI bf), .c (xI af)] [] (.tup [.c (rOcc []), .c (xI 0), .c (xI (heldErr L ⟨st, ov⟩ l sp ac br bf af))]) [] := by
  have hF := refFits_ok L hL st ov hl ho nm l sp ac br
  have i1 := in_ok bf 0 65536
  have i2 := in_ok af 0 65536
  unfold heldErr at h ⊢
  generalize fitErr L ⟨st, ov⟩ l sp ac br = e at *
  unfold vLay at hF ⊢
  by_cases he : e = 0
  · rw [if_neg (by simpa using he)] at h ⊢
    have hc : bf < 0 ∨ 65536 < bf ∨ af < 0 ∨ 65536 < af := Classical.byContradiction fun hn => h (if_neg hn)
    rw [if_pos hc]
    subst he
    refine X_fn mixedX Try.func42 rfl (by kernel_rfl) (Nat.le_of_ble_eq_true (by kernel_rfl)) (by kernel_rfl) rfl rfl (Nat.le_of_ble_eq_true rfl) rfl rfl ?_
    simp only [sl0, Nat.zero_add, Nat.reduceAdd]
    repeat' (first
      |with_reducible (first|refine q_and ?_ ?_|exact True.intro|exact TkEq.nil _|refine Red.o (by constructor) ?_|refine blockK_o' rfl ?_|refine LoopX_e' rfl ?_|assumption)
      |((with_reducible apply q_call);first|refine X_pure (hF) rfl ?_|refine X_pure (i1) rfl ?_)
      |((with_reducible apply q_callG);refine X_pureG ((fun _ => i2)) rfl ?_ ?_)
      |((with_reducible apply q_CI);intro hbq;(try simp only [bq] at hbq);(try (exfalso;omega)))
      |with_reducible (first|refine W_seq ?_|refine W_block ?_)
      |((with_reducible apply q_cond);refine X_cond rfl ?_ ?_;all_goals (intro hbq;(try simp only [bq] at hbq);(try (exfalso;omega))))
      |refine Rex.o (by (with_reducible constructor);apply Eq.refl) ?_
      |(intro (hgq : (_ : Bool) = true);(try simp only [bq] at hgq))
      |(intro (hgq : (_ : Bool) = false);(try simp only [bq] at hgq))
      |((with_reducible apply q_VOk);exact fun _ => ⟨rfl,rfl⟩)|(intro _;exact rfl)|((with_reducible apply q_CRB);kernel_rfl)|((with_reducible apply q_bt);simp only [bq])|((with_reducible apply q_eqN);rfl)|((with_reducible apply q_FE);exact rfl)|with_reducible (first|exact isByte_wrap _|exact isByte_nat _)|(simp only [hgq,bq];done)|omega|(dsimp only;omega))
    · rfl
  · rw [if_pos he]
    refine X_fn mixedX Try.func42 rfl (by kernel_rfl) (Nat.le_of_ble_eq_true (by kernel_rfl)) (by kernel_rfl) rfl rfl (Nat.le_of_ble_eq_true rfl) rfl rfl ?_
    simp only [sl0, Nat.zero_add, Nat.reduceAdd]
    repeat' (first
      |with_reducible (first|refine q_and ?_ ?_|exact True.intro|exact TkEq.nil _|refine Red.o (by constructor) ?_|refine blockK_o' rfl ?_|refine LoopX_e' rfl ?_|assumption)
      |((with_reducible apply q_call);refine X_pure (hF) rfl ?_)
      |((with_reducible apply q_CI);intro hbq;(try simp only [bq] at hbq);(try (exfalso;omega)))
      |with_reducible (first|refine W_seq ?_|refine W_block ?_)
      |((with_reducible apply q_cond);refine X_cond rfl ?_ ?_;all_goals (intro hbq;(try simp only [bq] at hbq);(try (exfalso;omega))))
      |refine Rex.o (by (with_reducible constructor);apply Eq.refl) ?_
      |(intro (hgq : (_ : Bool) = true);(try simp only [bq] at hgq))
      |(intro (hgq : (_ : Bool) = false);(try simp only [bq] at hgq))
      |((with_reducible apply q_VOk);exact fun _ => ⟨rfl,rfl⟩)|(intro _;exact rfl)|((with_reducible apply q_CRB);kernel_rfl)|((with_reducible apply q_bt);simp only [bq])|((with_reducible apply q_eqN);rfl)|((with_reducible apply q_FE);exact rfl)|with_reducible (first|exact isByte_wrap _|exact isByte_nat _)|(simp only [hgq,bq];done)|omega|(dsimp only;omega))
    · rfl
theorem refHeld_ok (L : Lay) (hL : LayFits L) (st : List Stp) (ov : Int) (hl : st.length ≤ 9223372036854775807) (ho : -9223372036854775808 ≤ ov ∧ ov ≤ 9223372036854775807) (nm : ByteArray) (l sp ac br bf af : Int) (h : fitErr L ⟨st, ov⟩ l sp ac br = 0) (hb : 0 ≤ bf ∧ bf ≤ 65536) (ha : 0 ≤ af ∧ af ≤ 65536) : OkV Try.prog 42 [vLay L, vR2 st ov, vS5 nm l sp ac br, .c (xI bf), .c (xI af)] [] (.tup [.c (rOcc (occL L st ov l sp ac br bf af)), .c (xI (runI L ⟨st, ov⟩ l sp ac br)), .c (xI 0)]) [] := by
  have hF := refFits_ok L hL st ov hl ho nm l sp ac br
  rw [h] at hF
  have i1 := in_ok bf 0 65536
  have i2 := in_ok af 0 65536
  have hP := passing_ok L hL st ov hl ho nm l sp ac br h
  have hR := ride_of h
  have hn2 := hR.n2
  have hn24 := hR.n24
  have hFT := fun i => spF_lt hR hb.1 ha.1 i
  have hFP := fun i h0 => ptF_lt hR hb.1 ha.1 i h0
  have hE1 := row_len (trv ⟨st, ov⟩).length fun k => rideT L ⟨st, ov⟩ l sp ac br (endA L (trv ⟨st, ov⟩) (k - 1))
  have hE2 : ∀ k, k < (trv ⟨st, ov⟩).length → (entL L ⟨st, ov⟩ l sp ac br (trv ⟨st, ov⟩).length).getD k 0 = entF L ⟨st, ov⟩ l sp ac br k := fun k hk => row_get hk
  have hL1 := row_len (trv ⟨st, ov⟩).length (levF L ⟨st, ov⟩ l sp ac br)
  have hL2 : ∀ k, k < (trv ⟨st, ov⟩).length → (levL L ⟨st, ov⟩ l sp ac br (trv ⟨st, ov⟩).length).getD k 0 = levF L ⟨st, ov⟩ l sp ac br k := fun k hk => row_get hk
  change (entL L ⟨st, ov⟩ l sp ac br (trv ⟨st, ov⟩).length).length = _ at hE1
  change (levL L ⟨st, ov⟩ l sp ac br (trv ⟨st, ov⟩).length).length = _ at hL1
  have hEb : ∀ k, k < (trv ⟨st, ov⟩).length → 0 ≤ entF L ⟨st, ov⟩ l sp ac br k ∧ entF L ⟨st, ov⟩ l sp ac br k ≤ 80000000 := fun k hk => hR.rng _ (endA_mono L _ (by omega))
  have hLb : ∀ k, k < (trv ⟨st, ov⟩).length → 0 ≤ levF L ⟨st, ov⟩ l sp ac br k ∧ levF L ⟨st, ov⟩ l sp ac br k ≤ 80000000 := fun k hk => hR.rng _ (lev_in hR hk).2
  have hrb : -1 ≤ runI L ⟨st, ov⟩ l sp ac br ∧ runI L ⟨st, ov⟩ l sp ac br ≤ 80001 := by
    have a := hR.rng _ (Nat.le_refl _)
    obtain ⟨b1, b2⟩ := Pl.cdiv_bracket (rideT L ⟨st, ov⟩ l sp ac br (endA L (trv ⟨st, ov⟩) ((trv ⟨st, ov⟩).length - 1))) 1000 (by omega)
    unfold runI
    omega
  have f0 : spF L ⟨st, ov⟩ l sp ac br bf 0 = -bf := rfl
  have f1 : ∀ i, 0 < i → i < (trv ⟨st, ov⟩).length → spF L ⟨st, ov⟩ l sp ac br bf i = entF L ⟨st, ov⟩ l sp ac br (i - 1) / 1000 - 16 := fun i h0 hi => by
    unfold spF; rw [if_neg (by omega), if_pos hi]
  have f2 : ∀ i, (trv ⟨st, ov⟩).length ≤ i → spF L ⟨st, ov⟩ l sp ac br bf i = entF L ⟨st, ov⟩ l sp ac br ((trv ⟨st, ov⟩).length - 1) / 1000 - 16 := fun i hi => by
    unfold spF; rw [if_neg (by omega), if_neg (by omega)]
  have t0 : ∀ i, i + 1 < (trv ⟨st, ov⟩).length → spT L ⟨st, ov⟩ l sp ac br af i = Pl.cdiv (levF L ⟨st, ov⟩ l sp ac br i) 1000 + 4 := fun i hi => by
    unfold spT; rw [if_pos hi]
  have t1 : ∀ i, i + 1 = (trv ⟨st, ov⟩).length → spT L ⟨st, ov⟩ l sp ac br af i = runI L ⟨st, ov⟩ l sp ac br + af := fun i hi => by
    unfold spT; rw [if_neg (by omega), if_pos hi]
  have t2 : ∀ i, (trv ⟨st, ov⟩).length ≤ i → spT L ⟨st, ov⟩ l sp ac br af i = runI L ⟨st, ov⟩ l sp ac br + 20 := fun i hi => by
    unfold spT; rw [if_neg (by omega), if_neg (by omega)]
  have p1 : ∀ i, 0 < i → i < (trv ⟨st, ov⟩).length → ptT L ⟨st, ov⟩ l sp ac br af i = spT L ⟨st, ov⟩ l sp ac br af (i - 1) := fun i h0 hi => by unfold ptT; rw [if_pos hi]
  have p2 : ∀ i, (trv ⟨st, ov⟩).length ≤ i → ptT L ⟨st, ov⟩ l sp ac br af i = spT L ⟨st, ov⟩ l sp ac br af i := fun i hi => by unfold ptT; rw [if_neg (by omega)]
  have hRt := hR.rt
  have hV := valid_of hRt.lay
  have hsx : ∀ i, i < st.length → Stp.ok L (st.getD i st0) = true := fun i hi => all_at hRt.ok hi
  have hNb : L.secs.length + L.pts.length ≤ 1000 := by have := hV.n2; have := hV.n3; omega
  have hJ := fun a b => joined_ok L a b hV
  have hst24 := hRt.len
  simp only at hst24
  have hgl := fun i => tabL_len L st (spF L ⟨st, ov⟩ l sp ac br bf) (spT L ⟨st, ov⟩ l sp ac br af) (ptT L ⟨st, ov⟩ l sp ac br af) i
  have hjn : ∀ i, 0 < i → i < st.length → ∃ k, joinL L (st.getD (i - 1) st0) (st.getD i st0) = some k ∧ -1 ≤ k.pt ∧ k.pt < L.pts.length := fun i h0 hi => join_at hRt h0 hi
  have eN : ((L.secs.length : Int) + L.pts.length).toNat = L.secs.length + L.pts.length := by omega
  unfold occL
  generalize entL L ⟨st, ov⟩ l sp ac br (trv ⟨st, ov⟩).length = es at *
  generalize levL L ⟨st, ov⟩ l sp ac br (trv ⟨st, ov⟩).length = lv at *
  generalize spF L ⟨st, ov⟩ l sp ac br bf = F at *
  generalize spT L ⟨st, ov⟩ l sp ac br af = T at *
  generalize ptT L ⟨st, ov⟩ l sp ac br af = P at *
  generalize runI L ⟨st, ov⟩ l sp ac br = run at *
  generalize entF L ⟨st, ov⟩ l sp ac br = E at *
  generalize levF L ⟨st, ov⟩ l sp ac br = V at *
  generalize hnn : (trv ⟨st, ov⟩).length = n at *
  clear hR h hV hRt
  unfold vLay at hF hP hJ ⊢
  refine X_fn mixedX Try.func42 rfl (by kernel_rfl) (Nat.le_of_ble_eq_true (by kernel_rfl)) (by kernel_rfl) rfl rfl (Nat.le_of_ble_eq_true rfl) rfl rfl ?_
  simp only [sl0, Nat.zero_add, Nat.reduceAdd]
  repeat' (first
    |with_reducible (first|refine q_and ?_ ?_|exact True.intro|exact TkEq.nil _|refine Red.o (by constructor) ?_|refine blockK_o' rfl ?_|refine LoopX_e' rfl ?_|assumption)
    |((with_reducible apply q_call);first|refine X_pure (hF) rfl ?_|refine X_pure (i1) rfl ?_|refine X_pure (hP) rfl ?_)
    |((with_reducible apply q_callG);refine X_pureG ((fun _ => i2)) rfl ?_ ?_)
    |((with_reducible apply q_W);refine W_two [0, 2] 1 3 [4, 5, 6] 3 (by kernel_rfl) rfl rfl rfl rfl ?_)
    |((with_reducible apply q_TB);kernel_rfl)
    |((with_reducible apply q_LB);exact LB_SS rfl)
    |((with_reducible apply q_RK);refine RK_SS rfl ?_)
    |((with_reducible apply q_CI);intro hbq;(try simp only [bq] at hbq);(try (exfalso;omega)))
    |with_reducible (first|refine W_seq ?_|refine W_block ?_)
    |((with_reducible apply q_cond);refine X_cond rfl ?_ ?_;all_goals (intro hbq;(try simp only [bq] at hbq);(try (exfalso;omega))))
    |refine Rex.o (by (with_reducible constructor);apply Eq.refl) ?_
    |(intro (hgq : (_ : Bool) = true);(try simp only [bq] at hgq))
    |(intro (hgq : (_ : Bool) = false);(try simp only [bq] at hgq))
    |((with_reducible apply q_VOk);exact fun _ => ⟨rfl,rfl⟩)|(intro _;exact rfl)|((with_reducible apply q_CRB);kernel_rfl)|((with_reducible apply q_bt);simp only [bq])|((with_reducible apply q_eqN);rfl)|((with_reducible apply q_FE);exact rfl)|with_reducible (first|exact isByte_wrap _|exact isByte_nat _)|(simp only [hgq,bq];done)|omega|(dsimp only;omega))
  all_goals (
    refine W_loopS (fun i : Nat => SS [sI 3 bf, sI 4 af, sC 5 (pB 0), sC 6 (pB 1), sC 14 (rInt es), sC 15 (rInt lv), sI 16 run, sI 18 ((L.secs.length : Int) + L.pts.length), sC 19 (pB 5), sI 20 ((n : Int) - 1), sI 21 (lastT T i), sI 22 i] [bLay L, bRte st ov, none, bHs (tabL L st F T P i), bOcc (tabL L st F T P i), some (.cells [.c (.arr 3 0 (L.secs.length + L.pts.length) (L.secs.length + L.pts.length)), .c (.arr 4 0 (L.secs.length + L.pts.length) (L.secs.length + L.pts.length))])]) (fun i => i ≤ st.length) (fun i => st.length - i) 0 ?_ (by omega) ?_
    ·
      refine X_weak rfl rfl rfl ?_ ?_ <;> repeat' (first|with_reducible (first|refine Wk.o (by constructor) ?_|refine q_and ?_ ?_|exact True.intro)|refine q_AgS rfl ?_ ?_|exact CLe.nil_tipS|exact CLe.nil_rowS|refine HLe.cells ?_ ?_|refine HLe.els ?_ ?_|refine SLe.cons ?_ ?_|exact (rfl : known _ = _)|with_reducible rfl|omega)
      all_goals first
        | omega
        | rfl
        | exact eN
        | (rw [eN]; rfl)
        | (rw [eN]; simp [tabL, usedO]; done)
        | (rw [hE1]; done)
    intro i hi
    have hTl := hgl i
    by_cases hil : i < st.length
    · have s1 : 0 ≤ (st.getD (i : Int).toNat { sec := 0, dir := 0 }).sec ∧ (st.getD (i : Int).toNat { sec := 0, dir := 0 }).sec < L.secs.length := ⟨(ok_dir (hsx i hil)).1, (ok_dir (hsx i hil)).2.1⟩
      have e0 : tabL L st F T P (i + 1) = tabS L st F T P i (tabL L st F T P i) := rfl
      have hlt : lastT T (i + 1) = T i := rfl
      by_cases hi0 : i = 0
      · have c1 : lv.getD (0 : Int).toNat 0 = V 0 := hL2 0 (by omega)
        have c2 := hLb 0 (by omega)
        have hU := refCeil_okV (lv.getD (0 : Int).toNat 0) 1000 (by omega) (by omega)
        have hub := Pl.cdiv_bracket (lv.getD (0 : Int).toNat 0) 1000 (by omega)
        have eT : Pl.cdiv (lv.getD (0 : Int).toNat 0) 1000 + 4 = T i := by rw [c1, hi0, t0 0 (by omega)]
        have eF : -bf = F i := by rw [hi0, f0]
        have hA1 := hadd_okU (tabL L st F T P i) (L.secs.length + L.pts.length) (st.getD (i : Int).toNat { sec := 0, dir := 0 }).sec (-bf) (Pl.cdiv (lv.getD (0 : Int).toNat 0) 1000 + 4) ⟨s1.1, by omega⟩ hTl hNb (by rw [eF, eT]; exact hFT i)
        have e1 : tabL L st F T P (i + 1) = addO (tabL L st F T P i) (st.getD (i : Int).toNat { sec := 0, dir := 0 }).sec.toNat (-bf) (Pl.cdiv (lv.getD (0 : Int).toNat 0) 1000 + 4) := by
          rw [e0, eF, eT, Int.toNat_natCast]; unfold tabS; rw [if_pos hi0]
        repeat' (first
          |with_reducible (first|refine q_and ?_ ?_|exact True.intro|exact TkEq.nil _|refine Red.o (by constructor) ?_|refine blockK_o' rfl ?_|refine LoopX_e' rfl ?_|assumption)
          |((with_reducible apply q_call);first|refine X_pure (hU) rfl ?_|refine X_call [5,3,4] (hA1) rfl rfl rfl rfl rfl rfl rfl rfl rfl rfl rfl rfl rfl ?_)
          |((with_reducible apply q_CI);intro hbq;(try simp only [bq] at hbq);(try (exfalso;omega)))
          |with_reducible (first|refine W_seq ?_|refine W_block ?_)
          |((with_reducible apply q_cond);refine X_cond rfl ?_ ?_;all_goals (intro hbq;(try simp only [bq] at hbq);(try (exfalso;omega))))
          |refine Rex.o (by (with_reducible constructor);apply Eq.refl) ?_
          |(intro (hgq : (_ : Bool) = true);(try simp only [bq] at hgq))
          |(intro (hgq : (_ : Bool) = false);(try simp only [bq] at hgq))
          |((with_reducible apply q_VOk);exact fun _ => ⟨rfl,rfl⟩)|(intro _;exact rfl)|((with_reducible apply q_CRB);kernel_rfl)|((with_reducible apply q_bt);simp only [bq])|((with_reducible apply q_eqN);rfl)|((with_reducible apply q_FE);exact rfl)|with_reducible (first|exact isByte_wrap _|exact isByte_nat _)|(simp only [hgq,bq];done)|omega|(dsimp only;omega))
        ·
          refine LoopK_n (i + 1) ?_ ((by omega)) (by (try dsimp only); omega)
          refine X_weak rfl rfl rfl ?_ ?_ <;> repeat' (first|with_reducible (first|refine Wk.o (by constructor) ?_|refine q_and ?_ ?_|exact True.intro)|refine q_AgS rfl ?_ ?_|exact CLe.nil_tipS|exact CLe.nil_rowS|refine HLe.cells ?_ ?_|refine HLe.els ?_ ?_|refine SLe.cons ?_ ?_|exact (rfl : known _ = _)|with_reducible rfl|omega)
          all_goals first
            | (rw [hlt]; exact eT)
            | rw [e1]
      · have q1 : 0 < i := by omega
        obtain ⟨j, hj, hj1, hj2⟩ := hjn i q1 hil
        have eI : ((i : Int) - 1).toNat = i - 1 := by omega
        have hlp : lastT T i = T (i - 1) := if_neg hi0
        have hB := hJ (st.getD ((i : Int) - 1).toNat { sec := 0, dir := 0 }) (st.getD (i : Int).toNat { sec := 0, dir := 0 })
        rw [show joinL L (st.getD ((i : Int) - 1).toNat { sec := 0, dir := 0 }) (st.getD (i : Int).toNat { sec := 0, dir := 0 }) = some j by rw [eI]; exact hj] at hB
        simp only [Option.getD_some, Option.isSome_some] at hB
        have key : ∀ A B : Int, A = F i → B = T i → OkV Try.prog 69 [.c (pB 0), .c (xI (st.getD (i : Int).toNat { sec := 0, dir := 0 }).sec), .c (xI A), .c (xI B)] [bHull (L.secs.length + L.pts.length), bHs (tabL L st F T P i), bOcc (tabL L st F T P i)] (.tup []) [bHull (L.secs.length + L.pts.length), bHs (addO (tabL L st F T P i) (st.getD (i : Int).toNat { sec := 0, dir := 0 }).sec.toNat A B), bOcc (addO (tabL L st F T P i) (st.getD (i : Int).toNat { sec := 0, dir := 0 }).sec.toNat A B)] := fun A B hA hB => hadd_okU _ _ _ _ _ ⟨s1.1, by omega⟩ hTl hNb (by rw [hA, hB]; exact hFT i)
        have hAl : ∀ A B : Int, (addO (tabL L st F T P i) (st.getD (i : Int).toNat { sec := 0, dir := 0 }).sec.toNat A B).length = L.secs.length + L.pts.length := fun A B => by rw [addO_len, hTl]
        have key2 : ¬ j.pt < 0 → ∀ A B Q : Int, A = F i → Q = P i → OkV Try.prog 69 [.c (pB 0), .c (xI ((L.secs.length : Int) + j.pt)), .c (xI A), .c (xI Q)] [bHull (L.secs.length + L.pts.length), bHs (addO (tabL L st F T P i) (st.getD (i : Int).toNat { sec := 0, dir := 0 }).sec.toNat A B), bOcc (addO (tabL L st F T P i) (st.getD (i : Int).toNat { sec := 0, dir := 0 }).sec.toNat A B)] (.tup []) [bHull (L.secs.length + L.pts.length), bHs (addO (addO (tabL L st F T P i) (st.getD (i : Int).toNat { sec := 0, dir := 0 }).sec.toNat A B) ((L.secs.length : Int) + j.pt).toNat A Q), bOcc (addO (addO (tabL L st F T P i) (st.getD (i : Int).toNat { sec := 0, dir := 0 }).sec.toNat A B) ((L.secs.length : Int) + j.pt).toNat A Q)] := fun hp A B Q hA hQ => hadd_okU _ _ _ _ _ ⟨by omega, by omega⟩ (hAl A B) hNb (by rw [hA, hQ]; exact hFP i q1)
        have e1 : j.pt < 0 → ∀ A B : Int, A = F i → B = T i → tabL L st F T P (i + 1) = addO (tabL L st F T P i) (st.getD (i : Int).toNat { sec := 0, dir := 0 }).sec.toNat A B := fun hp A B hA hB => by
          rw [e0, hA, hB, Int.toNat_natCast]; unfold tabS; rw [if_neg hi0, hj]; simp only; rw [if_pos hp]
        have e2 : ¬ j.pt < 0 → ∀ A B Q : Int, A = F i → B = T i → Q = P i → tabL L st F T P (i + 1) = addO (addO (tabL L st F T P i) (st.getD (i : Int).toNat { sec := 0, dir := 0 }).sec.toNat A B) ((L.secs.length : Int) + j.pt).toNat A Q := fun hp A B Q hA hB hQ => by
          rw [e0, hA, hB, hQ, Int.toNat_natCast]; unfold tabS; rw [if_neg hi0, hj]; simp only; rw [if_neg hp, show ((L.secs.length : Int) + j.pt).toNat = L.secs.length + j.pt.toNat by omega]
        rcases Nat.lt_trichotomy (i + 1) n with hin | hin | hin
        · have c1 : es.getD ((i : Int) - 1).toNat 0 = E (i - 1) := by rw [eI]; exact hE2 (i - 1) (by omega)
          have c2 : lv.getD (i : Int).toNat 0 = V i := hL2 i (by omega)
          have c3 := hEb (i - 1) (by omega)
          have c4 := hLb i (by omega)
          have hD := refFloor_okV (es.getD ((i : Int) - 1).toNat 0) 1000 (by omega) (by omega)
          have hU := refCeil_okV (lv.getD (i : Int).toNat 0) 1000 (by omega) (by omega)
          have hub := Pl.cdiv_bracket (lv.getD (i : Int).toNat 0) 1000 (by omega)
          have eF : es.getD ((i : Int) - 1).toNat 0 / 1000 - 16 = F i := by rw [c1, f1 i q1 (by omega)]
          have eT : Pl.cdiv (lv.getD (i : Int).toNat 0) 1000 + 4 = T i := by rw [c2, t0 i hin]
          have eP : lastT T i = P i := by rw [hlp, p1 i q1 (by omega)]
          have hA1 := key _ _ eF eT
          by_cases hjp : j.pt < 0
          · have ee := e1 hjp _ _ eF eT
            clear key key2 e1 e2
            repeat' (first
              |with_reducible (first|refine q_and ?_ ?_|exact True.intro|exact TkEq.nil _|refine Red.o (by constructor) ?_|refine blockK_o' rfl ?_|refine LoopX_e' rfl ?_|assumption)
              |((with_reducible apply q_call);first|refine X_pure (hD) rfl ?_|refine X_pure (hU) rfl ?_|refine X_pure (hB) rfl ?_|refine X_call [5,3,4] (hA1) rfl rfl rfl rfl rfl rfl rfl rfl rfl rfl rfl rfl rfl ?_)
              |((with_reducible apply q_CI);intro hbq;(try simp only [bq] at hbq);(try (exfalso;omega)))
              |with_reducible (first|refine W_seq ?_|refine W_block ?_)
              |((with_reducible apply q_cond);refine X_cond rfl ?_ ?_;all_goals (intro hbq;(try simp only [bq] at hbq);(try (exfalso;omega))))
              |refine Rex.o (by (with_reducible constructor);apply Eq.refl) ?_
              |(intro (hgq : (_ : Bool) = true);(try simp only [bq] at hgq))
              |(intro (hgq : (_ : Bool) = false);(try simp only [bq] at hgq))
              |((with_reducible apply q_VOk);exact fun _ => ⟨rfl,rfl⟩)|(intro _;exact rfl)|((with_reducible apply q_CRB);kernel_rfl)|((with_reducible apply q_bt);simp only [bq])|((with_reducible apply q_eqN);rfl)|((with_reducible apply q_FE);exact rfl)|with_reducible (first|exact isByte_wrap _|exact isByte_nat _)|(simp only [hgq,bq];done)|omega|(dsimp only;omega))
            ·
              refine LoopK_n (i + 1) ?_ ((by omega)) (by (try dsimp only); omega)
              refine X_weak rfl rfl rfl ?_ ?_ <;> repeat' (first|with_reducible (first|refine Wk.o (by constructor) ?_|refine q_and ?_ ?_|exact True.intro)|refine q_AgS rfl ?_ ?_|exact CLe.nil_tipS|exact CLe.nil_rowS|refine HLe.cells ?_ ?_|refine HLe.els ?_ ?_|refine SLe.cons ?_ ?_|exact (rfl : known _ = _)|with_reducible rfl|omega)
              all_goals first
                | (rw [hlt]; exact eT)
                | rw [ee]
          · have ee := e2 hjp _ _ _ eF eT eP
            have hA2 := key2 hjp _ (Pl.cdiv (lv.getD (i : Int).toNat 0) 1000 + 4) _ eF eP
            clear key key2 e1 e2
            repeat' (first
              |with_reducible (first|refine q_and ?_ ?_|exact True.intro|exact TkEq.nil _|refine Red.o (by constructor) ?_|refine blockK_o' rfl ?_|refine LoopX_e' rfl ?_|assumption)
              |((with_reducible apply q_call);first|refine X_pure (hD) rfl ?_|refine X_pure (hU) rfl ?_|refine X_pure (hB) rfl ?_|refine X_call [5,3,4] (hA1) rfl rfl rfl rfl rfl rfl rfl rfl rfl rfl rfl rfl rfl ?_|refine X_call [5,3,4] (hA2) rfl rfl rfl rfl rfl rfl rfl rfl rfl rfl rfl rfl rfl ?_)
              |((with_reducible apply q_CI);intro hbq;(try simp only [bq] at hbq);(try (exfalso;omega)))
              |with_reducible (first|refine W_seq ?_|refine W_block ?_)
              |((with_reducible apply q_cond);refine X_cond rfl ?_ ?_;all_goals (intro hbq;(try simp only [bq] at hbq);(try (exfalso;omega))))
              |refine Rex.o (by (with_reducible constructor);apply Eq.refl) ?_
              |(intro (hgq : (_ : Bool) = true);(try simp only [bq] at hgq))
              |(intro (hgq : (_ : Bool) = false);(try simp only [bq] at hgq))
              |((with_reducible apply q_VOk);exact fun _ => ⟨rfl,rfl⟩)|(intro _;exact rfl)|((with_reducible apply q_CRB);kernel_rfl)|((with_reducible apply q_bt);simp only [bq])|((with_reducible apply q_eqN);rfl)|((with_reducible apply q_FE);exact rfl)|with_reducible (first|exact isByte_wrap _|exact isByte_nat _)|(simp only [hgq,bq];done)|omega|(dsimp only;omega))
            ·
              refine LoopK_n (i + 1) ?_ ((by omega)) (by (try dsimp only); omega)
              refine X_weak rfl rfl rfl ?_ ?_ <;> repeat' (first|with_reducible (first|refine Wk.o (by constructor) ?_|refine q_and ?_ ?_|exact True.intro)|refine q_AgS rfl ?_ ?_|exact CLe.nil_tipS|exact CLe.nil_rowS|refine HLe.cells ?_ ?_|refine HLe.els ?_ ?_|refine SLe.cons ?_ ?_|exact (rfl : known _ = _)|with_reducible rfl|omega)
              all_goals first
                | (rw [hlt]; exact eT)
                | rw [ee]
        · have c1 : es.getD ((n : Int) - 1 - 1).toNat 0 = E (n - 2) := by rw [show ((n : Int) - 1 - 1).toNat = n - 2 by omega]; exact hE2 (n - 2) (by omega)
          have c3 := hEb (n - 2) (by omega)
          have hD := refFloor_okV (es.getD ((n : Int) - 1 - 1).toNat 0) 1000 (by omega) (by omega)
          have eF : es.getD ((n : Int) - 1 - 1).toNat 0 / 1000 - 16 = F i := by rw [c1, f1 i q1 (by omega), show i - 1 = n - 2 by omega]
          have eT : run + af = T i := (t1 i hin).symm
          have eP : lastT T i = P i := by rw [hlp, p1 i q1 (by omega)]
          have hA1 := key _ _ eF eT
          by_cases hjp : j.pt < 0
          · have ee := e1 hjp _ _ eF eT
            clear key key2 e1 e2
            repeat' (first
              |with_reducible (first|refine q_and ?_ ?_|exact True.intro|exact TkEq.nil _|refine Red.o (by constructor) ?_|refine blockK_o' rfl ?_|refine LoopX_e' rfl ?_|assumption)
              |((with_reducible apply q_call);first|refine X_pure (hD) rfl ?_|refine X_pure (hB) rfl ?_|refine X_call [5,3,4] (hA1) rfl rfl rfl rfl rfl rfl rfl rfl rfl rfl rfl rfl rfl ?_)
              |((with_reducible apply q_CI);intro hbq;(try simp only [bq] at hbq);(try (exfalso;omega)))
              |with_reducible (first|refine W_seq ?_|refine W_block ?_)
              |((with_reducible apply q_cond);refine X_cond rfl ?_ ?_;all_goals (intro hbq;(try simp only [bq] at hbq);(try (exfalso;omega))))
              |refine Rex.o (by (with_reducible constructor);apply Eq.refl) ?_
              |(intro (hgq : (_ : Bool) = true);(try simp only [bq] at hgq))
              |(intro (hgq : (_ : Bool) = false);(try simp only [bq] at hgq))
              |((with_reducible apply q_VOk);exact fun _ => ⟨rfl,rfl⟩)|(intro _;exact rfl)|((with_reducible apply q_CRB);kernel_rfl)|((with_reducible apply q_bt);simp only [bq])|((with_reducible apply q_eqN);rfl)|((with_reducible apply q_FE);exact rfl)|with_reducible (first|exact isByte_wrap _|exact isByte_nat _)|(simp only [hgq,bq];done)|omega|(dsimp only;omega))
            ·
              refine LoopK_n (i + 1) ?_ ((by omega)) (by (try dsimp only); omega)
              refine X_weak rfl rfl rfl ?_ ?_ <;> repeat' (first|with_reducible (first|refine Wk.o (by constructor) ?_|refine q_and ?_ ?_|exact True.intro)|refine q_AgS rfl ?_ ?_|exact CLe.nil_tipS|exact CLe.nil_rowS|refine HLe.cells ?_ ?_|refine HLe.els ?_ ?_|refine SLe.cons ?_ ?_|exact (rfl : known _ = _)|with_reducible rfl|omega)
              all_goals first
                | (rw [hlt]; exact eT)
                | rw [ee]
          · have ee := e2 hjp _ _ _ eF eT eP
            have hA2 := key2 hjp _ (run + af) _ eF eP
            clear key key2 e1 e2
            repeat' (first
              |with_reducible (first|refine q_and ?_ ?_|exact True.intro|exact TkEq.nil _|refine Red.o (by constructor) ?_|refine blockK_o' rfl ?_|refine LoopX_e' rfl ?_|assumption)
              |((with_reducible apply q_call);first|refine X_pure (hD) rfl ?_|refine X_pure (hB) rfl ?_|refine X_call [5,3,4] (hA1) rfl rfl rfl rfl rfl rfl rfl rfl rfl rfl rfl rfl rfl ?_|refine X_call [5,3,4] (hA2) rfl rfl rfl rfl rfl rfl rfl rfl rfl rfl rfl rfl rfl ?_)
              |((with_reducible apply q_CI);intro hbq;(try simp only [bq] at hbq);(try (exfalso;omega)))
              |with_reducible (first|refine W_seq ?_|refine W_block ?_)
              |((with_reducible apply q_cond);refine X_cond rfl ?_ ?_;all_goals (intro hbq;(try simp only [bq] at hbq);(try (exfalso;omega))))
              |refine Rex.o (by (with_reducible constructor);apply Eq.refl) ?_
              |(intro (hgq : (_ : Bool) = true);(try simp only [bq] at hgq))
              |(intro (hgq : (_ : Bool) = false);(try simp only [bq] at hgq))
              |((with_reducible apply q_VOk);exact fun _ => ⟨rfl,rfl⟩)|(intro _;exact rfl)|((with_reducible apply q_CRB);kernel_rfl)|((with_reducible apply q_bt);simp only [bq])|((with_reducible apply q_eqN);rfl)|((with_reducible apply q_FE);exact rfl)|with_reducible (first|exact isByte_wrap _|exact isByte_nat _)|(simp only [hgq,bq];done)|omega|(dsimp only;omega))
            ·
              refine LoopK_n (i + 1) ?_ ((by omega)) (by (try dsimp only); omega)
              refine X_weak rfl rfl rfl ?_ ?_ <;> repeat' (first|with_reducible (first|refine Wk.o (by constructor) ?_|refine q_and ?_ ?_|exact True.intro)|refine q_AgS rfl ?_ ?_|exact CLe.nil_tipS|exact CLe.nil_rowS|refine HLe.cells ?_ ?_|refine HLe.els ?_ ?_|refine SLe.cons ?_ ?_|exact (rfl : known _ = _)|with_reducible rfl|omega)
              all_goals first
                | (rw [hlt]; exact eT)
                | rw [ee]
        · have c1 : es.getD ((n : Int) - 1).toNat 0 = E (n - 1) := by rw [show ((n : Int) - 1).toNat = n - 1 by omega]; exact hE2 (n - 1) (by omega)
          have c3 := hEb (n - 1) (by omega)
          have hD := refFloor_okV (es.getD ((n : Int) - 1).toNat 0) 1000 (by omega) (by omega)
          have eF : es.getD ((n : Int) - 1).toNat 0 / 1000 - 16 = F i := by rw [c1, f2 i (by omega)]
          have eT : run + 20 = T i := (t2 i (by omega)).symm
          have eP : run + 20 = P i := by rw [p2 i (by omega), ← eT]
          have hA1 := key _ _ eF eT
          by_cases hjp : j.pt < 0
          · have ee := e1 hjp _ _ eF eT
            clear key key2 e1 e2
            repeat' (first
              |with_reducible (first|refine q_and ?_ ?_|exact True.intro|exact TkEq.nil _|refine Red.o (by constructor) ?_|refine blockK_o' rfl ?_|refine LoopX_e' rfl ?_|assumption)
              |((with_reducible apply q_call);first|refine X_pure (hD) rfl ?_|refine X_pure (hB) rfl ?_|refine X_call [5,3,4] (hA1) rfl rfl rfl rfl rfl rfl rfl rfl rfl rfl rfl rfl rfl ?_)
              |((with_reducible apply q_CI);intro hbq;(try simp only [bq] at hbq);(try (exfalso;omega)))
              |with_reducible (first|refine W_seq ?_|refine W_block ?_)
              |((with_reducible apply q_cond);refine X_cond rfl ?_ ?_;all_goals (intro hbq;(try simp only [bq] at hbq);(try (exfalso;omega))))
              |refine Rex.o (by (with_reducible constructor);apply Eq.refl) ?_
              |(intro (hgq : (_ : Bool) = true);(try simp only [bq] at hgq))
              |(intro (hgq : (_ : Bool) = false);(try simp only [bq] at hgq))
              |((with_reducible apply q_VOk);exact fun _ => ⟨rfl,rfl⟩)|(intro _;exact rfl)|((with_reducible apply q_CRB);kernel_rfl)|((with_reducible apply q_bt);simp only [bq])|((with_reducible apply q_eqN);rfl)|((with_reducible apply q_FE);exact rfl)|with_reducible (first|exact isByte_wrap _|exact isByte_nat _)|(simp only [hgq,bq];done)|omega|(dsimp only;omega))
            ·
              refine LoopK_n (i + 1) ?_ ((by omega)) (by (try dsimp only); omega)
              refine X_weak rfl rfl rfl ?_ ?_ <;> repeat' (first|with_reducible (first|refine Wk.o (by constructor) ?_|refine q_and ?_ ?_|exact True.intro)|refine q_AgS rfl ?_ ?_|exact CLe.nil_tipS|exact CLe.nil_rowS|refine HLe.cells ?_ ?_|refine HLe.els ?_ ?_|refine SLe.cons ?_ ?_|exact (rfl : known _ = _)|with_reducible rfl|omega)
              all_goals first
                | (rw [hlt]; exact eT)
                | rw [ee]
          · have ee := e2 hjp _ _ _ eF eT eP
            have hA2 := key2 hjp _ (run + 20) _ eF eP
            clear key key2 e1 e2
            repeat' (first
              |with_reducible (first|refine q_and ?_ ?_|exact True.intro|exact TkEq.nil _|refine Red.o (by constructor) ?_|refine blockK_o' rfl ?_|refine LoopX_e' rfl ?_|assumption)
              |((with_reducible apply q_call);first|refine X_pure (hD) rfl ?_|refine X_pure (hB) rfl ?_|refine X_call [5,3,4] (hA1) rfl rfl rfl rfl rfl rfl rfl rfl rfl rfl rfl rfl rfl ?_|refine X_call [5,3,4] (hA2) rfl rfl rfl rfl rfl rfl rfl rfl rfl rfl rfl rfl rfl ?_)
              |((with_reducible apply q_CI);intro hbq;(try simp only [bq] at hbq);(try (exfalso;omega)))
              |with_reducible (first|refine W_seq ?_|refine W_block ?_)
              |((with_reducible apply q_cond);refine X_cond rfl ?_ ?_;all_goals (intro hbq;(try simp only [bq] at hbq);(try (exfalso;omega))))
              |refine Rex.o (by (with_reducible constructor);apply Eq.refl) ?_
              |(intro (hgq : (_ : Bool) = true);(try simp only [bq] at hgq))
              |(intro (hgq : (_ : Bool) = false);(try simp only [bq] at hgq))
              |((with_reducible apply q_VOk);exact fun _ => ⟨rfl,rfl⟩)|(intro _;exact rfl)|((with_reducible apply q_CRB);kernel_rfl)|((with_reducible apply q_bt);simp only [bq])|((with_reducible apply q_eqN);rfl)|((with_reducible apply q_FE);exact rfl)|with_reducible (first|exact isByte_wrap _|exact isByte_nat _)|(simp only [hgq,bq];done)|omega|(dsimp only;omega))
            ·
              refine LoopK_n (i + 1) ?_ ((by omega)) (by (try dsimp only); omega)
              refine X_weak rfl rfl rfl ?_ ?_ <;> repeat' (first|with_reducible (first|refine Wk.o (by constructor) ?_|refine q_and ?_ ?_|exact True.intro)|refine q_AgS rfl ?_ ?_|exact CLe.nil_tipS|exact CLe.nil_rowS|refine HLe.cells ?_ ?_|refine HLe.els ?_ ?_|refine SLe.cons ?_ ?_|exact (rfl : known _ = _)|with_reducible rfl|omega)
              all_goals first
                | (rw [hlt]; exact eT)
                | rw [ee]
    · have hie : i = st.length := by omega
      subst hie
      generalize tabL L st F T P st.length = t at *
      generalize hNN : L.secs.length + L.pts.length = N at *
      have hNI : (L.secs.length : Int) + L.pts.length = N := by omega
      rw [hNI]
      repeat' (first
        |with_reducible (first|refine q_and ?_ ?_|exact True.intro|exact TkEq.nil _|refine Red.o (by constructor) ?_|refine blockK_o' rfl ?_|refine LoopX_e' rfl ?_|assumption)
        |((with_reducible apply q_CI);intro hbq;(try simp only [bq] at hbq);(try (exfalso;omega)))
        |with_reducible (first|refine W_seq ?_|refine W_block ?_)
        |((with_reducible apply q_cond);refine X_cond rfl ?_ ?_;all_goals (intro hbq;(try simp only [bq] at hbq);(try (exfalso;omega))))
        |refine Rex.o (by (with_reducible constructor);apply Eq.refl) ?_
        |(intro (hgq : (_ : Bool) = true);(try simp only [bq] at hgq))
        |(intro (hgq : (_ : Bool) = false);(try simp only [bq] at hgq))
        |((with_reducible apply q_VOk);exact fun _ => ⟨rfl,rfl⟩)|(intro _;exact rfl)|((with_reducible apply q_CRB);kernel_rfl)|((with_reducible apply q_bt);simp only [bq])|((with_reducible apply q_eqN);rfl)|((with_reducible apply q_FE);exact rfl)|with_reducible (first|exact isByte_wrap _|exact isByte_nat _)|(simp only [hgq,bq];done)|omega|(dsimp only;omega))
      refine W_loopS (fun i : Nat => SS [sI 16 run, sI 18 N, sC 19 (pB 5), sC 27 (tOcc ((t.take i).filter usedO)), sI 28 i] [none, none, none, bHs t, bOcc t, some (.cells [.c (.arr 3 0 N N), .c (.arr 4 0 N N)])]) (fun i => i ≤ N) (fun i => N - i) 0 ?_ (by omega) ?_
      ·
        refine X_weak rfl rfl rfl ?_ ?_ <;> repeat' (first|with_reducible (first|refine Wk.o (by constructor) ?_|refine q_and ?_ ?_|exact True.intro)|refine q_AgS rfl ?_ ?_|exact CLe.nil_tipS|exact CLe.nil_rowS|refine HLe.cells ?_ ?_|refine HLe.els ?_ ?_|refine SLe.cons ?_ ?_|exact (rfl : known _ = _)|with_reducible rfl|omega)
        all_goals rfl
      intro i hi
      have hfl : ((t.take i).filter usedO).length ≤ 1000 := by
        have a := List.length_filter_le usedO (t.take i)
        rw [List.length_take] at a
        omega
      have hsn : i < t.length → (t.take (i + 1)).filter usedO = (t.take i).filter usedO ++ (if usedO (t.getD i ⟨0, 0, 0⟩) = true then [t.getD i ⟨0, 0, 0⟩] else []) := fun h => by
        rw [List.take_succ_eq_append_getElem h, List.filter_append, List.getD_eq_getElem?_getD, List.getElem?_eq_getElem h]
        simp only [Option.getD_some, List.filter_cons, List.filter_nil]
      have hml : (t.map usedO).length = N := by rw [List.length_map, hTl]
      by_cases hil2 : i < N
      · have hmu : (t.map usedO).getD (i : Int).toNat false = usedO (t.getD i ⟨0, 0, 0⟩) := by
          simp [List.getD_eq_getElem?_getD, List.getElem?_map, List.getElem?_eq_getElem (show i < t.length by omega)]
        by_cases hu : usedO (t.getD i ⟨0, 0, 0⟩) = true
        · have hm1 : (t.map usedO).getD (i : Int).toNat false = true := by rw [hmu, hu]
          repeat' (first
            |with_reducible (first|refine q_and ?_ ?_|exact True.intro|exact TkEq.nil _|refine Red.o (by constructor) ?_|refine blockK_o' rfl ?_|refine LoopX_e' rfl ?_|assumption)
            |((with_reducible apply q_CI);intro hbq;(try simp only [bq,and_true,true_and,and_false,false_and,or_true,true_or,or_false,false_or,not_true_eq_false,not_false_eq_true,Bool.true_eq_false,Bool.false_eq_true,hm1] at hbq);(try (exfalso;omega)))
            |((with_reducible apply q_cond);refine X_cond rfl ?_ ?_;all_goals (intro hbq;(try simp only [bq,and_true,true_and,and_false,false_and,or_true,true_or,or_false,false_or,not_true_eq_false,not_false_eq_true,Bool.true_eq_false,Bool.false_eq_true,hm1] at hbq);(try (exfalso;omega))))
            |((with_reducible apply q_CI);intro hbq;(try simp only [bq] at hbq);(try (exfalso;omega)))
            |with_reducible (first|refine W_seq ?_|refine W_block ?_)
            |((with_reducible apply q_cond);refine X_cond rfl ?_ ?_;all_goals (intro hbq;(try simp only [bq] at hbq);(try (exfalso;omega))))
            |refine Rex.o (by (with_reducible constructor);apply Eq.refl) ?_
            |(intro (hgq : (_ : Bool) = true);(try simp only [bq] at hgq))
            |(intro (hgq : (_ : Bool) = false);(try simp only [bq] at hgq))
            |((with_reducible apply q_VOk);exact fun _ => ⟨rfl,rfl⟩)|(intro _;exact rfl)|((with_reducible apply q_CRB);kernel_rfl)|((with_reducible apply q_bt);simp only [bq])|((with_reducible apply q_eqN);rfl)|((with_reducible apply q_FE);exact rfl)|with_reducible (first|exact isByte_wrap _|exact isByte_nat _)|(simp only [hgq,bq];done)|omega|(dsimp only;omega))
          ·
            refine LoopK_n (i + 1) ?_ ((by omega)) (by (try dsimp only); omega)
            refine X_weak rfl rfl rfl ?_ ?_ <;> repeat' (first|with_reducible (first|refine Wk.o (by constructor) ?_|refine q_and ?_ ?_|exact True.intro)|refine q_AgS rfl ?_ ?_|exact CLe.nil_tipS|exact CLe.nil_rowS|refine HLe.cells ?_ ?_|refine HLe.els ?_ ?_|refine SLe.cons ?_ ?_|exact (rfl : known _ = _)|with_reducible rfl|omega)
            all_goals (rw [hsn (by omega), if_pos hu]; simp [fOcc, fI])
        · have hm1 : (t.map usedO).getD (i : Int).toNat false = false := by rw [hmu]; simpa using hu
          repeat' (first
            |with_reducible (first|refine q_and ?_ ?_|exact True.intro|exact TkEq.nil _|refine Red.o (by constructor) ?_|refine blockK_o' rfl ?_|refine LoopX_e' rfl ?_|assumption)
            |((with_reducible apply q_CI);intro hbq;(try simp only [bq,and_true,true_and,and_false,false_and,or_true,true_or,or_false,false_or,not_true_eq_false,not_false_eq_true,Bool.true_eq_false,Bool.false_eq_true,hm1] at hbq);(try (exfalso;omega)))
            |((with_reducible apply q_cond);refine X_cond rfl ?_ ?_;all_goals (intro hbq;(try simp only [bq,and_true,true_and,and_false,false_and,or_true,true_or,or_false,false_or,not_true_eq_false,not_false_eq_true,Bool.true_eq_false,Bool.false_eq_true,hm1] at hbq);(try (exfalso;omega))))
            |((with_reducible apply q_CI);intro hbq;(try simp only [bq] at hbq);(try (exfalso;omega)))
            |with_reducible (first|refine W_seq ?_|refine W_block ?_)
            |((with_reducible apply q_cond);refine X_cond rfl ?_ ?_;all_goals (intro hbq;(try simp only [bq] at hbq);(try (exfalso;omega))))
            |refine Rex.o (by (with_reducible constructor);apply Eq.refl) ?_
            |(intro (hgq : (_ : Bool) = true);(try simp only [bq] at hgq))
            |(intro (hgq : (_ : Bool) = false);(try simp only [bq] at hgq))
            |((with_reducible apply q_VOk);exact fun _ => ⟨rfl,rfl⟩)|(intro _;exact rfl)|((with_reducible apply q_CRB);kernel_rfl)|((with_reducible apply q_bt);simp only [bq])|((with_reducible apply q_eqN);rfl)|((with_reducible apply q_FE);exact rfl)|with_reducible (first|exact isByte_wrap _|exact isByte_nat _)|(simp only [hgq,bq];done)|omega|(dsimp only;omega))
          ·
            refine LoopK_n (i + 1) ?_ ((by omega)) (by (try dsimp only); omega)
            refine X_weak rfl rfl rfl ?_ ?_ <;> repeat' (first|with_reducible (first|refine Wk.o (by constructor) ?_|refine q_and ?_ ?_|exact True.intro)|refine q_AgS rfl ?_ ?_|exact CLe.nil_tipS|exact CLe.nil_rowS|refine HLe.cells ?_ ?_|refine HLe.els ?_ ?_|refine SLe.cons ?_ ?_|exact (rfl : known _ = _)|with_reducible rfl|omega)
            all_goals (rw [hsn (by omega), if_neg hu]; simp)
      · have hie : i = N := by omega
        subst hie
        rw [← hTl, List.take_length]
        repeat' (first
          |with_reducible (first|refine q_and ?_ ?_|exact True.intro|exact TkEq.nil _|refine Red.o (by constructor) ?_|refine blockK_o' rfl ?_|refine LoopX_e' rfl ?_|assumption)
          |((with_reducible apply q_CI);intro hbq;(try simp only [bq] at hbq);(try (exfalso;omega)))
          |with_reducible (first|refine W_seq ?_|refine W_block ?_)
          |((with_reducible apply q_cond);refine X_cond rfl ?_ ?_;all_goals (intro hbq;(try simp only [bq] at hbq);(try (exfalso;omega))))
          |refine Rex.o (by (with_reducible constructor);apply Eq.refl) ?_
          |(intro (hgq : (_ : Bool) = true);(try simp only [bq] at hgq))
          |(intro (hgq : (_ : Bool) = false);(try simp only [bq] at hgq))
          |((with_reducible apply q_VOk);exact fun _ => ⟨rfl,rfl⟩)|(intro _;exact rfl)|((with_reducible apply q_CRB);kernel_rfl)|((with_reducible apply q_bt);simp only [bq])|((with_reducible apply q_eqN);rfl)|((with_reducible apply q_FE);exact rfl)|with_reducible (first|exact isByte_wrap _|exact isByte_nat _)|(simp only [hgq,bq];done)|omega|(dsimp only;omega))
        · rfl
    )
theorem refStairs_bad (L : Lay) (hL : LayFits L) (st : List Stp) (ov : Int) (hl : st.length ≤ 9223372036854775807) (ho : -9223372036854775808 ≤ ov ∧ ov ≤ 9223372036854775807) (nm : ByteArray) (l sp ac br : Int) (h : ¬ fitErr L ⟨st, ov⟩ l sp ac br = 0) : OkV Try.prog 41 [vLay L, vR2 st ov, vS5 nm l sp ac br] [] (.tup [.c (rOcc []), .c (xI 0), .c (xI (fitErr L ⟨st, ov⟩ l sp ac br))]) [] := by
  have he : heldErr L ⟨st, ov⟩ l sp ac br 0 0 = fitErr L ⟨st, ov⟩ l sp ac br := if_pos h
  have hF := refHeld_bad L hL st ov hl ho nm l sp ac br 0 0 (by rw [he]; exact h)
  rw [he] at hF
  unfold vLay at hF ⊢
  refine X_fn mixedX Try.func41 rfl (by kernel_rfl) (Nat.le_of_ble_eq_true (by kernel_rfl)) (by kernel_rfl) rfl rfl (Nat.le_of_ble_eq_true rfl) rfl rfl ?_
  simp only [sl0, Nat.zero_add, Nat.reduceAdd]
  repeat' (first
    |with_reducible (first|refine q_and ?_ ?_|exact True.intro|exact TkEq.nil _|refine Red.o (by constructor) ?_|refine blockK_o' rfl ?_|refine LoopX_e' rfl ?_|assumption)
    |((with_reducible apply q_call);refine X_pure (hF) rfl ?_)
    |((with_reducible apply q_CI);intro hbq;(try simp only [bq] at hbq);(try (exfalso;omega)))
    |with_reducible (first|refine W_seq ?_|refine W_block ?_)
    |((with_reducible apply q_cond);refine X_cond rfl ?_ ?_;all_goals (intro hbq;(try simp only [bq] at hbq);(try (exfalso;omega))))
    |refine Rex.o (by (with_reducible constructor);apply Eq.refl) ?_
    |(intro (hgq : (_ : Bool) = true);(try simp only [bq] at hgq))
    |(intro (hgq : (_ : Bool) = false);(try simp only [bq] at hgq))
    |((with_reducible apply q_VOk);exact fun _ => ⟨rfl,rfl⟩)|(intro _;exact rfl)|((with_reducible apply q_CRB);kernel_rfl)|((with_reducible apply q_bt);simp only [bq])|((with_reducible apply q_eqN);rfl)|((with_reducible apply q_FE);exact rfl)|with_reducible (first|exact isByte_wrap _|exact isByte_nat _)|(simp only [hgq,bq];done)|omega|(dsimp only;omega))
  all_goals repeat' (first|with_reducible (first|refine Wk.o (by constructor) ?_|refine q_and ?_ ?_|exact True.intro)|refine VEq.c ?_|refine VEq.agg ?_|refine VEq.tup ?_|refine TkEq.cells ?_ ?_|refine TkEq.els ?_ ?_|refine SEqL.cons ?_ ?_|refine TEqL.agg ?_ ?_|refine CEq.rows ?_|refine CEq.int ?_|rfl|omega)
theorem refStairs_ok (L : Lay) (hL : LayFits L) (st : List Stp) (ov : Int) (hl : st.length ≤ 9223372036854775807) (ho : -9223372036854775808 ≤ ov ∧ ov ≤ 9223372036854775807) (nm : ByteArray) (l sp ac br : Int) (h : fitErr L ⟨st, ov⟩ l sp ac br = 0) : OkV Try.prog 41 [vLay L, vR2 st ov, vS5 nm l sp ac br] [] (.tup [.c (rOcc (occL L st ov l sp ac br 0 0)), .c (xI (runI L ⟨st, ov⟩ l sp ac br)), .c (xI 0)]) [] := by
  have hF := refHeld_ok L hL st ov hl ho nm l sp ac br 0 0 h (by omega) (by omega)
  generalize occL L st ov l sp ac br 0 0 = t at *
  unfold vLay at hF ⊢
  refine X_fn mixedX Try.func41 rfl (by kernel_rfl) (Nat.le_of_ble_eq_true (by kernel_rfl)) (by kernel_rfl) rfl rfl (Nat.le_of_ble_eq_true rfl) rfl rfl ?_
  simp only [sl0, Nat.zero_add, Nat.reduceAdd]
  repeat' (first
    |with_reducible (first|refine q_and ?_ ?_|exact True.intro|exact TkEq.nil _|refine Red.o (by constructor) ?_|refine blockK_o' rfl ?_|refine LoopX_e' rfl ?_|assumption)
    |((with_reducible apply q_call);refine X_pure (hF) rfl ?_)
    |((with_reducible apply q_CI);intro hbq;(try simp only [bq] at hbq);(try (exfalso;omega)))
    |with_reducible (first|refine W_seq ?_|refine W_block ?_)
    |((with_reducible apply q_cond);refine X_cond rfl ?_ ?_;all_goals (intro hbq;(try simp only [bq] at hbq);(try (exfalso;omega))))
    |refine Rex.o (by (with_reducible constructor);apply Eq.refl) ?_
    |(intro (hgq : (_ : Bool) = true);(try simp only [bq] at hgq))
    |(intro (hgq : (_ : Bool) = false);(try simp only [bq] at hgq))
    |((with_reducible apply q_VOk);exact fun _ => ⟨rfl,rfl⟩)|(intro _;exact rfl)|((with_reducible apply q_CRB);kernel_rfl)|((with_reducible apply q_bt);simp only [bq])|((with_reducible apply q_eqN);rfl)|((with_reducible apply q_FE);exact rfl)|with_reducible (first|exact isByte_wrap _|exact isByte_nat _)|(simp only [hgq,bq];done)|omega|(dsimp only;omega))
  all_goals repeat' (first|with_reducible (first|refine Wk.o (by constructor) ?_|refine q_and ?_ ?_|exact True.intro)|refine VEq.c ?_|refine VEq.agg ?_|refine VEq.tup ?_|refine TkEq.cells ?_ ?_|refine TkEq.els ?_ ?_|refine SEqL.cons ?_ ?_|refine TEqL.agg ?_ ?_|refine CEq.rows ?_|refine CEq.int ?_|rfl|omega)
end Go.Proofs.Ytbpeakgihhdocaa.Av
namespace Go.Proofs.Ytbpeakgihhdocaa.Av
set_option linter.unusedVariables false
set_option linter.unusedSimpArgs false
set_option maxRecDepth 4000
set_option maxHeartbeats 4000000
theorem same_int_ok (l : List Int) (hl : l.length ≤ 9223372036854775807) : OkV Try.prog 43 [.c (rInt l), .c (rInt l)] [] (vB true) [] := by
  refine X_fnP mixedX Try.func43 rfl (by kernel_rfl) (Nat.le_of_ble_eq_true (by kernel_rfl)) (by kernel_rfl) rfl rfl ?_
  simp only [sl0, Nat.zero_add, Nat.reduceAdd]
  repeat' (first
    |with_reducible (first|refine q_and ?_ ?_|exact True.intro|exact TkEq.nil _|refine Red.o (by constructor) ?_|refine blockK_o' rfl ?_|refine LoopX_e' rfl ?_|assumption)
    |((with_reducible apply q_CI);intro hbq;(try simp only [bq] at hbq);(try (exfalso;omega)))
    |with_reducible (first|refine W_seq ?_|refine W_block ?_)
    |((with_reducible apply q_cond);refine X_cond rfl ?_ ?_;all_goals (intro hbq;(try simp only [bq] at hbq);(try (exfalso;omega))))
    |refine Rex.o (by (with_reducible constructor);apply Eq.refl) ?_
    |(intro (hgq : (_ : Bool) = true);(try simp only [bq] at hgq))
    |(intro (hgq : (_ : Bool) = false);(try simp only [bq] at hgq))
    |((with_reducible apply q_VOk);exact fun _ => ⟨rfl,rfl⟩)|(intro _;exact rfl)|((with_reducible apply q_CRB);kernel_rfl)|((with_reducible apply q_bt);simp only [bq])|((with_reducible apply q_eqN);rfl)|((with_reducible apply q_FE);exact rfl)|with_reducible (first|exact isByte_wrap _|exact isByte_nat _)|(simp only [hgq,bq];done)|omega|(dsimp only;omega))
  refine W_loopS (fun i : Nat => SS [sC 0 (rInt l), sC 1 (rInt l), sI 12 l.length, sI 13 i] []) (fun i => i ≤ l.length) (fun i => l.length - i) 0 ?_ (by omega) ?_
  ·
    refine X_weak rfl rfl rfl ?_ ?_ <;> repeat' (first|with_reducible (first|refine Wk.o (by constructor) ?_|refine q_and ?_ ?_|exact True.intro)|refine q_AgS rfl ?_ ?_|exact CLe.nil_tipS|exact CLe.nil_rowS|refine HLe.cells ?_ ?_|refine HLe.els ?_ ?_|refine SLe.cons ?_ ?_|exact (rfl : known _ = _)|with_reducible rfl|omega)
  · intro i hi
    repeat' (first
      |with_reducible (first|refine q_and ?_ ?_|exact True.intro|exact TkEq.nil _|refine Red.o (by constructor) ?_|refine blockK_o' rfl ?_|refine LoopX_e' rfl ?_|assumption)
      |((with_reducible apply q_CI);intro hbq;(try simp only [bq] at hbq);(try (exfalso;omega)))
      |with_reducible (first|refine W_seq ?_|refine W_block ?_)
      |((with_reducible apply q_cond);refine X_cond rfl ?_ ?_;all_goals (intro hbq;(try simp only [bq] at hbq);(try (exfalso;omega))))
      |refine Rex.o (by (with_reducible constructor);apply Eq.refl) ?_
      |(intro (hgq : (_ : Bool) = true);(try simp only [bq] at hgq))
      |(intro (hgq : (_ : Bool) = false);(try simp only [bq] at hgq))
      |((with_reducible apply q_VOk);exact fun _ => ⟨rfl,rfl⟩)|(intro _;exact rfl)|((with_reducible apply q_CRB);kernel_rfl)|((with_reducible apply q_bt);simp only [bq])|((with_reducible apply q_eqN);rfl)|((with_reducible apply q_FE);exact rfl)|with_reducible (first|exact isByte_wrap _|exact isByte_nat _)|(simp only [hgq,bq];done)|omega|(dsimp only;omega))
    ·
      refine LoopK_n (i + 1) ?_ ((by omega)) (by (try dsimp only); omega)
      refine X_weak rfl rfl rfl ?_ ?_ <;> repeat' (first|with_reducible (first|refine Wk.o (by constructor) ?_|refine q_and ?_ ?_|exact True.intro)|refine q_AgS rfl ?_ ?_|exact CLe.nil_tipS|exact CLe.nil_rowS|refine HLe.cells ?_ ?_|refine HLe.els ?_ ?_|refine SLe.cons ?_ ?_|exact (rfl : known _ = _)|with_reducible rfl|omega)
    · rfl
theorem same_occ_ok (l : List Occ) (hl : l.length ≤ 9223372036854775807) : OkV Try.prog 20 [.c (rOcc l), .c (rOcc l)] [] (vB true) [] := by
  refine X_fnP mixedX Try.func20 rfl (by kernel_rfl) (Nat.le_of_ble_eq_true (by kernel_rfl)) (by kernel_rfl) rfl rfl ?_
  simp only [sl0, Nat.zero_add, Nat.reduceAdd]
  repeat' (first
    |with_reducible (first|refine q_and ?_ ?_|exact True.intro|exact TkEq.nil _|refine Red.o (by constructor) ?_|refine blockK_o' rfl ?_|refine LoopX_e' rfl ?_|assumption)
    |((with_reducible apply q_CI);intro hbq;(try simp only [bq] at hbq);(try (exfalso;omega)))
    |with_reducible (first|refine W_seq ?_|refine W_block ?_)
    |((with_reducible apply q_cond);refine X_cond rfl ?_ ?_;all_goals (intro hbq;(try simp only [bq] at hbq);(try (exfalso;omega))))
    |refine Rex.o (by (with_reducible constructor);apply Eq.refl) ?_
    |(intro (hgq : (_ : Bool) = true);(try simp only [bq] at hgq))
    |(intro (hgq : (_ : Bool) = false);(try simp only [bq] at hgq))
    |((with_reducible apply q_VOk);exact fun _ => ⟨rfl,rfl⟩)|(intro _;exact rfl)|((with_reducible apply q_CRB);kernel_rfl)|((with_reducible apply q_bt);simp only [bq])|((with_reducible apply q_eqN);rfl)|((with_reducible apply q_FE);exact rfl)|with_reducible (first|exact isByte_wrap _|exact isByte_nat _)|(simp only [hgq,bq];done)|omega|(dsimp only;omega))
  refine W_loopS (fun i : Nat => SS [sC 0 (rOcc l), sC 1 (rOcc l), sI 12 l.length, sI 13 i] []) (fun i => i ≤ l.length) (fun i => l.length - i) 0 ?_ (by omega) ?_
  ·
    refine X_weak rfl rfl rfl ?_ ?_ <;> repeat' (first|with_reducible (first|refine Wk.o (by constructor) ?_|refine q_and ?_ ?_|exact True.intro)|refine q_AgS rfl ?_ ?_|exact CLe.nil_tipS|exact CLe.nil_rowS|refine HLe.cells ?_ ?_|refine HLe.els ?_ ?_|refine SLe.cons ?_ ?_|exact (rfl : known _ = _)|with_reducible rfl|omega)
  · intro i hi
    repeat' (first
      |with_reducible (first|refine q_and ?_ ?_|exact True.intro|exact TkEq.nil _|refine Red.o (by constructor) ?_|refine blockK_o' rfl ?_|refine LoopX_e' rfl ?_|assumption)
      |((with_reducible apply q_CI);intro hbq;(try simp only [bq] at hbq);(try (exfalso;omega)))
      |with_reducible (first|refine W_seq ?_|refine W_block ?_)
      |((with_reducible apply q_cond);refine X_cond rfl ?_ ?_;all_goals (intro hbq;(try simp only [bq] at hbq);(try (exfalso;omega))))
      |refine Rex.o (by (with_reducible constructor);apply Eq.refl) ?_
      |(intro (hgq : (_ : Bool) = true);(try simp only [bq] at hgq))
      |(intro (hgq : (_ : Bool) = false);(try simp only [bq] at hgq))
      |((with_reducible apply q_VOk);exact fun _ => ⟨rfl,rfl⟩)|(intro _;exact rfl)|((with_reducible apply q_CRB);kernel_rfl)|((with_reducible apply q_bt);simp only [bq])|((with_reducible apply q_eqN);rfl)|((with_reducible apply q_FE);exact rfl)|with_reducible (first|exact isByte_wrap _|exact isByte_nat _)|(simp only [hgq,bq];done)|omega|(dsimp only;omega))
    ·
      refine LoopK_n (i + 1) ?_ ((by omega)) (by (try dsimp only); omega)
      refine X_weak rfl rfl rfl ?_ ?_ <;> repeat' (first|with_reducible (first|refine Wk.o (by constructor) ?_|refine q_and ?_ ?_|exact True.intro)|refine q_AgS rfl ?_ ?_|exact CLe.nil_tipS|exact CLe.nil_rowS|refine HLe.cells ?_ ?_|refine HLe.els ?_ ?_|refine SLe.cons ?_ ?_|exact (rfl : known _ = _)|with_reducible rfl|omega)
    · rfl
end Go.Proofs.Ytbpeakgihhdocaa.Av
namespace Go.Proofs.Ytbpeakgihhdocaa.Av
set_option linter.unusedVariables false
set_option linter.unusedSimpArgs false
set_option maxRecDepth 4000
set_option maxHeartbeats 4000000
section
variable (L : Lay) (hL : LayFits L) (st : List Stp) (ov : Int) (hl : st.length ≤ 9223372036854775807) (ho : -9223372036854775808 ≤ ov ∧ ov ≤ 9223372036854775807) (nm : ByteArray) (l sp ac br : Int)
include hL hl ho
theorem times_ex : ∃ a b : List Int, ∃ n e : Int, a.length ≤ 1000 ∧ b.length ≤ 1000 ∧ OkV Try.prog 12 [vLay L, vR2 st ov, vS5 nm l sp ac br] [] (.tup [.c (rInt a), .c (rInt b), .c (xI n), .c (xI e)]) [] ∧ OkV Try.prog 40 [vLay L, vR2 st ov, vS5 nm l sp ac br] [] (.tup [.c (rInt a), .c (rInt b), .c (xI n), .c (xI e)]) [] := by
  by_cases h : fitErr L ⟨st, ov⟩ l sp ac br = 0
  · have hR := ride_of h
    have hn := hR.n24
    exact ⟨_, _, _, _, by rw [show (entL L ⟨st, ov⟩ l sp ac br (trv ⟨st, ov⟩).length).length = (trv ⟨st, ov⟩).length from row_len _ _]; omega, by rw [show (levL L ⟨st, ov⟩ l sp ac br (trv ⟨st, ov⟩).length).length = (trv ⟨st, ov⟩).length from row_len _ _]; omega, btimes_ok L hL st ov hl ho nm l sp ac br h, passing_ok L hL st ov hl ho nm l sp ac br h⟩
  · exact ⟨_, _, _, _, by simp, by simp, btimes_bad L hL st ov hl ho nm l sp ac br h, passing_bad L hL st ov hl ho nm l sp ac br h⟩
omit hL hl ho in
theorem occ_len {bf af : Int} (h : fitErr L ⟨st, ov⟩ l sp ac br = 0) : (occL L st ov l sp ac br bf af).length ≤ 1000 := by
  have hV := valid_of (ride_of h).rt.lay
  have h2 := hV.n2
  have h3 := hV.n3
  unfold occL
  refine Nat.le_trans (List.length_filter_le _ _) ?_
  rw [tabL_len]; omega
theorem stairs_ex : ∃ o : List Occ, ∃ n e : Int, o.length ≤ 1000 ∧ OkV Try.prog 19 [vLay L, vR2 st ov, vS5 nm l sp ac br] [] (.tup [.c (rOcc o), .c (xI n), .c (xI e)]) [] ∧ OkV Try.prog 41 [vLay L, vR2 st ov, vS5 nm l sp ac br] [] (.tup [.c (rOcc o), .c (xI n), .c (xI e)]) [] := by
  by_cases h : fitErr L ⟨st, ov⟩ l sp ac br = 0
  · exact ⟨_, _, _, occ_len L st ov l sp ac br h, stairs_ok L hL st ov hl ho nm l sp ac br h, refStairs_ok L hL st ov hl ho nm l sp ac br h⟩
  · exact ⟨_, _, _, by simp, stairs_bad L hL st ov hl ho nm l sp ac br h, refStairs_bad L hL st ov hl ho nm l sp ac br h⟩
theorem held_ex (bf af : Int) : ∃ o : List Occ, ∃ n e : Int, o.length ≤ 1000 ∧ OkV Try.prog 26 [vLay L, vR2 st ov, vS5 nm l sp ac br, .c (xI bf), .c (xI af)] [] (.tup [.c (rOcc o), .c (xI n), .c (xI e)]) [] ∧ OkV Try.prog 42 [vLay L, vR2 st ov, vS5 nm l sp ac br, .c (xI bf), .c (xI af)] [] (.tup [.c (rOcc o), .c (xI n), .c (xI e)]) [] := by
  by_cases h : heldErr L ⟨st, ov⟩ l sp ac br bf af = 0
  · have h1 : fitErr L ⟨st, ov⟩ l sp ac br = 0 := by
      unfold heldErr at h
      split at h
      · exact h
      · rename_i h2; simpa using h2
    have h2 : ¬ (bf < 0 ∨ 65536 < bf ∨ af < 0 ∨ 65536 < af) := fun h3 => by
      unfold heldErr at h
      rw [if_neg (by simpa using h1), if_pos h3] at h
      cases h
    exact ⟨_, _, _, occ_len L st ov l sp ac br h1, held_ok L hL st ov hl ho nm l sp ac br bf af h1 (by omega) (by omega), refHeld_ok L hL st ov hl ho nm l sp ac br bf af h1 (by omega) (by omega)⟩
  · exact ⟨_, _, _, by simp, held_bad L hL st ov hl ho nm l sp ac br bf af h, refHeld_bad L hL st ov hl ho nm l sp ac br bf af h⟩
theorem agrees_ok (bf af : Int) : OkV Try.prog 25 [vLay L, vR2 st ov, vS5 nm l sp ac br, .c (xI bf), .c (xI af)] [] (vB true) [] := by
  obtain ⟨a, b, n, e, za, zb, hT, hP⟩ := times_ex L hL st ov hl ho nm l sp ac br
  obtain ⟨o, p, g, zo, hS, hQ⟩ := stairs_ex L hL st ov hl ho nm l sp ac br
  obtain ⟨x, y, i, zx, hH, hG⟩ := held_ex L hL st ov hl ho nm l sp ac br bf af
  have hF := fits_ok L hL st ov hl ho nm l sp ac br
  have hE := refFits_ok L hL st ov hl ho nm l sp ac br
  generalize fitErr L ⟨st, ov⟩ l sp ac br = w at *
  have s1 := same_int_ok a (by omega)
  have s2 := same_int_ok b (by omega)
  have s3 := same_occ_ok o (by omega)
  have s4 := same_occ_ok x (by omega)
  unfold vLay at hT hP hS hQ hH hG hF hE ⊢
  refine X_fnP mixedX Try.func25 rfl (by kernel_rfl) (Nat.le_of_ble_eq_true (by kernel_rfl)) (by kernel_rfl) rfl rfl ?_
  simp only [sl0, Nat.zero_add, Nat.reduceAdd]
  repeat' (first
    |with_reducible (first|refine q_and ?_ ?_|exact True.intro|exact TkEq.nil _|refine Red.o (by constructor) ?_|refine blockK_o' rfl ?_|refine LoopX_e' rfl ?_|assumption)
    |((with_reducible apply q_call);first|refine X_pure (hT) rfl ?_|refine X_pure (hP) rfl ?_|refine X_pure (hS) rfl ?_|refine X_pure (hQ) rfl ?_|refine X_pure (hH) rfl ?_|refine X_pure (hG) rfl ?_|refine X_pure (hF) rfl ?_|refine X_pure (hE) rfl ?_)
    |((with_reducible apply q_callG);refine X_pureG ((fun _ => s1)) rfl ?_ ?_)
    |((with_reducible apply q_callG);refine X_pureG ((fun _ => s2)) rfl ?_ ?_)
    |((with_reducible apply q_callG);refine X_pureG ((fun _ => s3)) rfl ?_ ?_)
    |((with_reducible apply q_callG);refine X_pureG ((fun _ => s4)) rfl ?_ ?_)
    |((with_reducible apply q_CI);intro hbq;(try simp only [bq] at hbq);(try (exfalso;omega)))
    |with_reducible (first|refine W_seq ?_|refine W_block ?_)
    |((with_reducible apply q_cond);refine X_cond rfl ?_ ?_;all_goals (intro hbq;(try simp only [bq] at hbq);(try (exfalso;omega))))
    |refine Rex.o (by (with_reducible constructor);apply Eq.refl) ?_
    |(intro (hgq : (_ : Bool) = true);(try simp only [bq] at hgq))
    |(intro (hgq : (_ : Bool) = false);(try simp only [bq] at hgq))
    |((with_reducible apply q_VOk);exact fun _ => ⟨rfl,rfl⟩)|(intro _;exact rfl)|((with_reducible apply q_CRB);kernel_rfl)|((with_reducible apply q_bt);simp only [bq])|((with_reducible apply q_eqN);rfl)|((with_reducible apply q_FE);exact rfl)|with_reducible (first|exact isByte_wrap _|exact isByte_nat _)|(simp only [hgq,bq];done)|omega|(dsimp only;omega))
  · refine VEq.c (CEq.bool ?_)
    simp
end
end Go.Proofs.Ytbpeakgihhdocaa.Av
namespace Go.Proofs.Ytbpeakgihhdocaa.Av
set_option linter.unusedVariables false
set_option linter.unusedSimpArgs false
set_option maxRecDepth 4000
set_option maxHeartbeats 4000000
theorem raw_ok (L : Lay) (hL : LayFits L) (st : List Stp) (ov : Int) (hl : st.length ≤ 9223372036854775807) (ho : -9223372036854775808 ≤ ov ∧ ov ≤ 9223372036854775807) (nm : ByteArray) (l sp ac br bf af : Int) : OkV Try.prog 8 [vLay L, vR2 st ov, vS5 nm l sp ac br, .c (xI bf), .c (xI af)] [] (vB true) [] := by
  have h0 := awake_ok
  have h1 := example_ok
  have h2 := whole_ok
  have h3 := agrees_ok L hL st ov hl ho nm l sp ac br bf af
  have h4 := agrees_ok exL exL_fits exSt 0 (by decide) (by omega) nm l sp ac br bf af
  generalize exL = M at *
  generalize exSt = ts at *
  unfold vLay at h1 h3 h4 ⊢
  refine X_fnP mixedX Try.func8 rfl (by kernel_rfl) (Nat.le_of_ble_eq_true (by kernel_rfl)) (by kernel_rfl) rfl rfl ?_
  simp only [sl0, Nat.zero_add, Nat.reduceAdd]
  repeat' (first
    |with_reducible (first|refine q_and ?_ ?_|exact True.intro|exact TkEq.nil _|refine Red.o (by constructor) ?_|refine blockK_o' rfl ?_|refine LoopX_e' rfl ?_|assumption)
    |((with_reducible apply q_call);refine X_pure (h0) rfl ?_)
    |((with_reducible apply q_callG);refine X_pureG ((fun _ => h1)) rfl ?_ ?_)
    |((with_reducible apply q_callG);refine X_pureG ((fun _ => h2)) rfl ?_ ?_)
    |((with_reducible apply q_callG);refine X_pureG ((fun _ => h3)) rfl ?_ ?_)
    |((with_reducible apply q_callG);refine X_pureG ((fun _ => h4)) rfl ?_ ?_)
    |((with_reducible apply q_CI);intro hbq;(try simp only [bq] at hbq);(try (exfalso;omega)))
    |with_reducible (first|refine W_seq ?_|refine W_block ?_)
    |((with_reducible apply q_cond);refine X_cond rfl ?_ ?_;all_goals (intro hbq;(try simp only [bq] at hbq);(try (exfalso;omega))))
    |refine Rex.o (by (with_reducible constructor);apply Eq.refl) ?_
    |(intro (hgq : (_ : Bool) = true);(try simp only [bq] at hgq))
    |(intro (hgq : (_ : Bool) = false);(try simp only [bq] at hgq))
    |((with_reducible apply q_VOk);exact fun _ => ⟨rfl,rfl⟩)|(intro _;exact rfl)|((with_reducible apply q_CRB);kernel_rfl)|((with_reducible apply q_bt);simp only [bq])|((with_reducible apply q_eqN);rfl)|((with_reducible apply q_FE);exact rfl)|with_reducible (first|exact isByte_wrap _|exact isByte_nat _)|(simp only [hgq,bq];done)|omega|(dsimp only;omega))
  · rfl
end Go.Proofs.Ytbpeakgihhdocaa.Av
namespace Go.Proofs.Ytbpeakgihhdocaa.Av
open Go.RowKit
set_option linter.unusedVariables false
set_option linter.unusedSimpArgs false
theorem okWide_spot {P : Program} {w : World} {r : Reach} {base : Nat} {t e : TypeId} {v : Value} (ht : P.underlying t = some (.slice e)) (h : Value.okWide P w r base t v) {a : Addr} {len cap : Nat} (hv : v = .slice (some a) len cap) : a.spot = none := by
  subst hv
  simp only [Value.okWide, ht, Cell.okWide, Cell.ok] at h
  exact h.2.2.2.1
theorem law_calls {f : FuncId} {args : List AVal} (hO : Ok Try.prog f args [] (aB true) []) (w : World) (vals : Array Value) (hs : vals.size = args.length) (hr : ∀ i (h : i < args.length) (h' : i < vals.size) l, RepA w (fun _ => .lock none) id l args[i] vals[i]) (hok : ∀ x ∈ args, x.ok 0 = true) :
    Calls Try.prog f vals w fun e w' => e = .returned (.bool true) ∧ Below w.heap.size w w' := by
  refine (hO.run w (fun _ => .lock none) id vals hs hr hok ⟨fun b cs h => by simp at h, fun b cs h => by simp at h⟩).mono ?_
  rintro e w' ⟨v, κ', ρ', rfl, hv, _, hfr, _⟩
  have hv : RepF w' κ' (.v (.bool true)) v := hv (.slot 0)
  rw [(repF_v.1 hv).1]
  exact ⟨rfl, hfr.os, hfr.tape, hfr.output, hfr.size, fun k hk => (hfr.lock k none hk rfl).2⟩
end Go.Proofs.Ytbpeakgihhdocaa.Av
namespace Go.Proofs.Ytbpeakgihhdocaa
open Go.ChangeShapes Go.WideShapes Go.Deep Go.RowKit
set_option linter.unusedVariables false
section
variable {H : Type} {enc : TypeId × Value → H} {P : Program} {w : World} {base : Nat} {spare : Nat → Bool} {held : Bool}
def Legible (enc : TypeId × Value → H) (P : Program) (w : World) (base : Nat) (spare : Nat → Bool) (held : Bool) (t : TypeId) (v : Value) : Prop :=
  ∃ n y, DataW.trod enc P w base spare held n t [v] = some y
theorem Legible.int {t : TypeId} {v : Value} {k : IntKind} (h : Legible enc P w base spare held t v) (ht : P.underlying t = some (.int k)) : ∃ n, v = .int k n ∧ (Lit.int k n).wf = true := by
  obtain ⟨m, y, hm⟩ := h
  obtain ⟨n, e, _, hw⟩ := DataW.trod_int ht hm
  exact ⟨n, by simpa using e, hw⟩
theorem Legible.str {t : TypeId} {v : Value} (h : Legible enc P w base spare held t v) (ht : P.underlying t = some .string) : ∃ s, v = .string s ∧ s.size ≤ maxLen := by
  obtain ⟨m, y, hm⟩ := h
  obtain ⟨s, e, _, hw⟩ := DataW.trod_string ht hm
  exact ⟨s, by simpa using e, hw⟩
theorem fields_legible {t : TypeId} {fs : Array Field} {fuel : Nat} {cs : List Value} {x : DataW H × List MemPlace} (hs : P.underlying t = some (.struct fs)) (hone : oneCellFields P fs = true) (hC : P.cellsOf t = fs.size)
    (h : DataW.trod enc P w base spare held fuel t cs = some x) : cs.length = fs.size ∧ ∀ (j : Nat) (f : Field), fs[j]? = some f → ∃ v, cs[j]? = some v ∧ Legible enc P w base spare held f.type v := by
  obtain ⟨xs, n, _, _, hl, hxl, hf⟩ := DataW.trod_struct hs h
  refine ⟨hl.trans hC, fun j f hj => ?_⟩
  have hlt : j < fs.size := (Array.getElem?_eq_some_iff.1 hj).1
  have hjc : j < cs.length := by omega
  have hjx : j < xs.length := by omega
  obtain ⟨ho, hk⟩ := hone_of hone j f hj
  have h1 := hf j f hj
  have e : (cs.drop f.offset).take (P.cellsOf f.type) = [cs[j]] := by
    rw [ho, hk, List.drop_eq_getElem_cons hjc, List.take_succ_cons, List.take_zero]
  rw [e, List.getElem?_eq_getElem hjx] at h1
  exact ⟨cs[j], List.getElem?_eq_getElem hjc, n, _, h1⟩
theorem agg_legible {r : Reach} {b0 : Nat} {t : TypeId} {fs : Array Field} {v : Value} {d : DataW H} {p : List MemPlace} (hs : P.underlying t = some (.struct fs)) (hone : oneCellFields P fs = true) (hC : P.cellsOf t = fs.size)
    (hv : Value.okWide P w r b0 t v) (h : DataW.Trod enc P w base spare held t v d p) :
    ∃ cs : List Value, v = .agg cs.toArray ∧ cs.length = fs.size ∧ ∀ (j : Nat) (f : Field), fs[j]? = some f → ∃ u, cs[j]? = some u ∧ Legible enc P w base spare held f.type u := by
  obtain ⟨⟨cs⟩, rfl, _⟩ := okWide_struct hs hv
  obtain ⟨fuel, hf⟩ := h
  obtain ⟨h1, h2⟩ := fields_legible hs hone hC hf
  exact ⟨cs, rfl, by simpa [Value.cells] using h1, fun j f hj => by simpa [Value.cells] using h2 j f hj⟩
theorem rows_legible {t e : TypeId} {fs : Array Field} {v : Value} (ht : P.underlying t = some (.slice e)) (he : P.underlying e = some (.struct fs)) (hone : oneCellFields P fs = true) (hC : P.cellsOf e = fs.size) (hpos : 0 < fs.size)
    (h : Legible enc P w base spare held t v) :
    ∃ A len cap, v = .slice A len cap ∧ len ≤ cap ∧ cap ≤ maxLen ∧ ∀ i, i < len → ∃ b off, A = some ⟨b, off, none⟩ ∧ b < w.heap.size ∧
      ∀ (j : Nat) (f : Field), fs[j]? = some f → ∃ u, w.cell? ⟨b, off + i * fs.size + j, none⟩ = some u ∧ Legible enc P w base spare held f.type u := by
  obtain ⟨fuel, y, hf⟩ := h
  rcases open_slice ht hf with ⟨h0, _⟩ | ⟨a, len, cap, m, n, D, Pl, hcs, hb, hl, hm, hmm, hx, hi⟩
  · exact ⟨none, 0, 0, by simpa using h0, Nat.le_refl _, by simp [maxLen], fun i hi => absurd hi (Nat.not_lt_zero _)⟩
  · refine ⟨some a, len, cap, by simpa using hcs, hl, hm, fun i him => ?_⟩
    have him' : i < m := by rw [hmm]; split <;> omega
    obtain ⟨cs', hc, ht'⟩ := hi i him'
    rw [hC] at hc
    obtain ⟨hlen, hfl⟩ := fields_legible he hone hC ht'
    obtain ⟨_, hcl, hat⟩ := World.cells?_some hc
    have h0 : w.cell? (a.add (i * fs.size)) = some (cs'[0]'(by omega)) := by
      have := hat 0 hpos
      rw [List.getElem?_eq_getElem (by omega)] at this
      simpa [Addr.add] using this
    obtain ⟨b, off, spot⟩ := a
    have hspot : spot = none := by
      by_cases hz : i * fs.size = 0
      · rw [hz] at h0; simpa [Addr.add] using World.cell?_spot h0
      · have h00 := (hi 0 (by omega))
        obtain ⟨cs0, hc0, ht0⟩ := h00
        rw [hC] at hc0
        obtain ⟨_, hcl0, hat0⟩ := World.cells?_some hc0
        have := hat0 0 hpos
        rw [List.getElem?_eq_getElem (by omega)] at this
        simpa [Addr.add] using World.cell?_spot this
    subst hspot
    have hlt := World.block_lt_of_cell? w _ h0
    refine ⟨b, off, rfl, by simpa [Go.WideShapes.add_plain] using hlt, fun j f hj => ?_⟩
    obtain ⟨u, hu, hleg⟩ := hfl j f hj
    have hjl : j < fs.size := (Array.getElem?_eq_some_iff.1 hj).1
    have := hat j hjl
    rw [Go.WideShapes.add_plain, Go.WideShapes.add_plain, hu] at this
    exact ⟨u, this, hleg⟩
theorem row1_legible {t e : TypeId} {v : Value} (ht : P.underlying t = some (.slice e)) (hC : P.cellsOf e = 1)
    (h : Legible enc P w base spare held t v) :
    ∃ A len cap, v = .slice A len cap ∧ len ≤ cap ∧ cap ≤ maxLen ∧ ∀ i, i < len → ∃ b off, A = some ⟨b, off, none⟩ ∧ b < w.heap.size ∧
      ∃ u, w.cell? ⟨b, off + i, none⟩ = some u ∧ Legible enc P w base spare held e u := by
  obtain ⟨fuel, y, hf⟩ := h
  rcases open_slice ht hf with ⟨h0, _⟩ | ⟨a, len, cap, m, n, D, Pl, hcs, hb, hl, hm, hmm, hx, hi⟩
  · exact ⟨none, 0, 0, by simpa using h0, Nat.le_refl _, by simp [maxLen], fun i hi => absurd hi (Nat.not_lt_zero _)⟩
  · refine ⟨some a, len, cap, by simpa using hcs, hl, hm, fun i him => ?_⟩
    have key : ∀ k, k < m → ∃ u, w.cell? (a.add k) = some u ∧ Legible enc P w base spare held e u := by
      intro k hk
      obtain ⟨cs', hc, ht'⟩ := hi k hk
      rw [hC, Nat.mul_one] at hc
      obtain ⟨_, hcl, hat⟩ := World.cells?_some hc
      match cs', hcl with
      | [u], _ => exact ⟨u, by simpa [Addr.add] using hat 0 (by omega), n, _, ht'⟩
    have him' : i < m := by rw [hmm]; split <;> omega
    obtain ⟨u0, h0, _⟩ := key 0 (by omega)
    obtain ⟨u, hu, hleg⟩ := key i him'
    obtain ⟨b, off, spot⟩ := a
    have hspot : spot = none := by simpa [Addr.add] using World.cell?_spot h0
    subst hspot
    rw [Go.WideShapes.add_plain] at hu
    exact ⟨b, off, rfl, World.block_lt_of_cell? w _ hu, u, hu, hleg⟩
end
theorem list_of {α : Type} {Q : Nat → α → Prop} : ∀ (n : Nat), (∀ i, i < n → ∃ a, Q i a) → ∃ l : List α, l.length = n ∧ ∀ i (h : i < l.length), Q i l[i]
  | 0, _ => ⟨[], rfl, fun i h => absurd h (Nat.not_lt_zero _)⟩
  | n + 1, h => by
    obtain ⟨l, hl, hq⟩ := list_of n (fun i hi => h i (by omega))
    obtain ⟨a, ha⟩ := h n (by omega)
    refine ⟨l ++ [a], by simp [hl], fun i hi => ?_⟩
    by_cases hin : i < l.length
    · rw [List.getElem_append_left hin]; exact hq i hin
    · have : i = l.length := by simp at hi; omega
      subst this
      simp [hl, ha]
end Go.Proofs.Ytbpeakgihhdocaa
namespace Go.Proofs.Ytbpeakgihhdocaa.Av
open Go.ChangeShapes Go.WideShapes Go.Deep Go.RowKit
set_option linter.unusedVariables false
set_option maxRecDepth 100000
theorem cell_slice {P : Program} {w : World} {r : Reach} {base : Nat} {t e : TypeId} {A : Option Addr} {len cap : Nat} (ht : P.underlying t = some (.slice e)) (h : Cell.okWide P w r base t (.slice A len cap)) : (A = none ∧ len = 0 ∧ cap = 0) ∨ ∃ b o, A = some ⟨b, o, none⟩ := by
  cases A with
  | none =>
    left
    simp only [Cell.okWide, ht, Cell.ok] at h
    split at h <;> simp_all
  | some a =>
    right
    simp only [Cell.okWide, ht, Cell.ok] at h
    obtain ⟨b, o, sp⟩ := a
    have : sp = none := h.2.2.2.1
    subst this
    exact ⟨b, o, rfl⟩
theorem field_wide {P : Program} {w : World} {r : Reach} {base : Nat} {t : TypeId} {fs : Array Field} {cs : Array Value} {ts : List TypeId} (hs : P.underlying t = some (.struct fs)) (hts : P.cellTypes P.depth t = some ts) (hv : Value.okWide P w r base t (.agg cs)) {i : Nat} {u : TypeId} {v : Value} (hi : i < ts.length) (hu : ts[i]? = some u) (h : cs[i]? = some v) : Cell.okWide P w r base u v := by
  simp only [Value.okWide, hs] at hv
  obtain ⟨cs', e, _, ts', h1, _, h2⟩ := hv
  injection e with e
  subst e
  rw [hts] at h1
  injection h1 with h1
  subst h1
  obtain ⟨u', h3, h4⟩ := h2 i v h
  rw [Nat.mod_eq_of_lt hi, hu] at h3
  injection h3 with h3
  exact h3 ▸ h4
theorem flat_idx {α β : Type} (F : α → List β) (n : Nat) (hn : ∀ x, (F x).length = n) (l : List α) {i : Nat} (h : i < (l.flatMap F).length) (h0 : 0 < n) : ∃ hk : i / n < l.length, (l.flatMap F)[i]? = (F l[i / n])[i % n]? := by
  have hl := flatMap_lenB F n hn l
  have hk : i / n < l.length := by rw [Nat.div_lt_iff_lt_mul h0]; omega
  refine ⟨hk, ?_⟩
  have := flatMap_get F n hn l (i / n) (i % n) l[i / n] (List.getElem?_eq_getElem hk) (Nat.mod_lt _ h0)
  rwa [Nat.mul_comm, Nat.div_add_mod] at this
theorem row_rep {α : Type} {F : α → List FVal} {n : Nat} (hn : ∀ x, (F x).length = n) (h0 : 0 < n) {w : World} {A : Option Addr} {cap : Nat} {l : List α} (hc : l.length ≤ cap) (hs : (A = none ∧ l.length = 0 ∧ cap = 0) ∨ ∃ b o, A = some ⟨b, o, none⟩)
    (hq : ∀ i (h : i < l.length), ∃ b off, A = some ⟨b, off, none⟩ ∧ b < w.heap.size ∧ ∀ j v, (F l[i])[j]? = some v → ∃ u, w.cell? ⟨b, off + i * n + j, none⟩ = some u ∧ RepF w (fun _ => .lock none) v u) : RepF w (fun _ => .lock none) (.row (l.flatMap F) l.length) (.slice A l.length cap) := by
  rcases hs with ⟨rfl, e, rfl⟩ | ⟨b, o, rfl⟩
  · have : l = [] := List.eq_nil_of_length_eq_zero e
    subst this
    exact .nil0
  · refine repF_rowI ⟨b, o, cap, rfl, hc, ⟨fun i hi => ?_, fun hne => ⟨?_, trivial⟩⟩⟩
    · obtain ⟨hk, e⟩ := flat_idx F n hn l hi h0
      obtain ⟨b', o', e1, _, hf⟩ := hq (i / n) hk
      injection e1 with e1
      injection e1 with e2 e3
      subst e2; subst e3
      rw [List.getElem?_eq_getElem hi] at e
      obtain ⟨u, h1, h2⟩ := hf (i % n) _ e.symm
      refine ⟨u, ?_, h2⟩
      rw [Nat.add_assoc, Nat.mul_comm, Nat.div_add_mod] at h1
      exact h1
    · have hl : 0 < l.length := List.length_pos_iff.2 fun e => hne (by rw [e]; rfl)
      obtain ⟨b', o', e1, hb, _⟩ := hq 0 hl
      injection e1 with e1
      injection e1 with e2 e3
      subst e2
      exact hb
section
variable {H : Type} {enc : TypeId × Value → H} {w : World} {base : Nat} {spare : Nat → Bool} {held : Bool} {r : Reach} {b0 : Nat}
theorem open_strsA {A : Option Addr} {len cap : Nat} (hw : Cell.okWide Try.prog w r b0 23 (.slice A len cap)) (h : Legible enc Try.prog w base spare held 23 (.slice A len cap)) : ∃ l : List ByteArray, l.length = len ∧ len ≤ 9223372036854775807 ∧ Short l ∧ RepF w (fun _ => .lock none) (.row (l.flatMap fStr) l.length) (.slice A len cap) := by
  obtain ⟨A', len', cap', e, h1, h2, h3⟩ := row1_legible Try.underlying23 (by kernel_rfl) h
  injection e with e1 e2 e3
  subst e1; subst e2; subst e3
  obtain ⟨l, hl, hq⟩ := list_of (Q := fun i (s : ByteArray) => s.size ≤ 9223372036854775807 ∧ ∃ b off, A = some ⟨b, off, none⟩ ∧ b < w.heap.size ∧ w.cell? ⟨b, off + i, none⟩ = some (.string s)) len (fun i hi => by
    obtain ⟨b, off, e, hb, u, hu, lg⟩ := h3 i hi
    obtain ⟨s, rfl, hz⟩ := lg.str Try.underlying9
    exact ⟨s, by unfold maxLen at hz; omega, b, off, e, hb, hu⟩)
  subst hl
  refine ⟨l, rfl, by unfold maxLen at h2; omega, fun s hs => ?_, row_rep (n := 1) (fun x => rfl) (by omega) h1 (cell_slice Try.underlying23 hw) fun i hi => ?_⟩
  · obtain ⟨i, hi, rfl⟩ := List.mem_iff_getElem.1 hs
    exact (hq i hi).1
  · obtain ⟨_, b, off, e, hb, hu⟩ := hq i hi
    refine ⟨b, off, e, hb, fun j v hv => ?_⟩
    match j, hv with
    | 0, hv =>
      injection hv with hv
      subst hv
      exact ⟨_, by rw [Nat.mul_one, Nat.add_zero]; exact hu, .v _ rfl⟩
theorem open_secsA {A : Option Addr} {len cap : Nat} (hw : Cell.okWide Try.prog w r b0 24 (.slice A len cap)) (h : Legible enc Try.prog w base spare held 24 (.slice A len cap)) : ∃ l : List Sec, l.length = len ∧ len ≤ 9223372036854775807 ∧ Short (l.map Sec.nm) ∧ RepF w (fun _ => .lock none) (.row (l.flatMap fSec) l.length) (.slice A len cap) := by
  obtain ⟨A', len', cap', e, h1, h2, h3⟩ := rows_legible Try.underlying24 Try.underlying72 (by kernel_rfl) (by kernel_rfl) (by decide) h
  injection e with e1 e2 e3
  subst e1; subst e2; subst e3
  obtain ⟨l, hl, hq⟩ := list_of (Q := fun i (s : Sec) => s.nm.size ≤ 9223372036854775807 ∧ ∃ b off, A = some ⟨b, off, none⟩ ∧ b < w.heap.size ∧ ∀ j v, (fSec s)[j]? = some v → ∃ u, w.cell? ⟨b, off + i * 5 + j, none⟩ = some u ∧ RepF w (fun _ => .lock none) v u) len (fun i hi => by
    obtain ⟨b, off, e, hb, hf⟩ := h3 i hi
    obtain ⟨u0, c0, l0⟩ := hf 0 _ rfl
    obtain ⟨u1, c1, l1⟩ := hf 1 _ rfl
    obtain ⟨u2, c2, l2⟩ := hf 2 _ rfl
    obtain ⟨u3, c3, l3⟩ := hf 3 _ rfl
    obtain ⟨u4, c4, l4⟩ := hf 4 _ rfl
    obtain ⟨s, rfl, hz⟩ := l0.str Try.underlying9
    obtain ⟨n1, rfl, _⟩ := l1.int (k := .i64) Try.underlying3
    obtain ⟨n2, rfl, _⟩ := l2.int (k := .i64) Try.underlying3
    obtain ⟨n3, rfl, _⟩ := l3.int (k := .i64) Try.underlying3
    obtain ⟨n4, rfl, _⟩ := l4.int (k := .i64) Try.underlying3
    refine ⟨⟨s, n1, n2, n3, n4⟩, by unfold maxLen at hz; simp only; omega, b, off, e, hb, fun j v hv => ?_⟩
    match j, hv with
    | 0, hv => injection hv with hv; subst hv; exact ⟨_, c0, .v _ rfl⟩
    | 1, hv => injection hv with hv; subst hv; exact ⟨_, c1, .v _ rfl⟩
    | 2, hv => injection hv with hv; subst hv; exact ⟨_, c2, .v _ rfl⟩
    | 3, hv => injection hv with hv; subst hv; exact ⟨_, c3, .v _ rfl⟩
    | 4, hv => injection hv with hv; subst hv; exact ⟨_, c4, .v _ rfl⟩)
  subst hl
  refine ⟨l, rfl, by unfold maxLen at h2; omega, fun s hs => ?_, row_rep (n := 5) (fun x => rfl) (by omega) h1 (cell_slice Try.underlying24 hw) fun i hi => (hq i hi).2⟩
  obtain ⟨x, hx, rfl⟩ := List.mem_map.1 hs
  obtain ⟨i, hi, rfl⟩ := List.mem_iff_getElem.1 hx
  exact (hq i hi).1
theorem open_lnksA {A : Option Addr} {len cap : Nat} (hw : Cell.okWide Try.prog w r b0 25 (.slice A len cap)) (h : Legible enc Try.prog w base spare held 25 (.slice A len cap)) : ∃ l : List Lnk, l.length = len ∧ len ≤ 9223372036854775807 ∧ RepF w (fun _ => .lock none) (.row (l.flatMap fLnk) l.length) (.slice A len cap) := by
  obtain ⟨A', len', cap', e, h1, h2, h3⟩ := rows_legible Try.underlying25 Try.underlying130 (by kernel_rfl) (by kernel_rfl) (by decide) h
  injection e with e1 e2 e3
  subst e1; subst e2; subst e3
  obtain ⟨l, hl, hq⟩ := list_of (Q := fun i (s : Lnk) => ∃ b off, A = some ⟨b, off, none⟩ ∧ b < w.heap.size ∧ ∀ j v, (fLnk s)[j]? = some v → ∃ u, w.cell? ⟨b, off + i * 6 + j, none⟩ = some u ∧ RepF w (fun _ => .lock none) v u) len (fun i hi => by
    obtain ⟨b, off, e, hb, hf⟩ := h3 i hi
    obtain ⟨u0, c0, l0⟩ := hf 0 _ rfl
    obtain ⟨u1, c1, l1⟩ := hf 1 _ rfl
    obtain ⟨u2, c2, l2⟩ := hf 2 _ rfl
    obtain ⟨u3, c3, l3⟩ := hf 3 _ rfl
    obtain ⟨u4, c4, l4⟩ := hf 4 _ rfl
    obtain ⟨u5, c5, l5⟩ := hf 5 _ rfl
    obtain ⟨n0, rfl, _⟩ := l0.int (k := .i64) Try.underlying3
    obtain ⟨n1, rfl, _⟩ := l1.int (k := .i64) Try.underlying3
    obtain ⟨n2, rfl, _⟩ := l2.int (k := .i64) Try.underlying3
    obtain ⟨n3, rfl, _⟩ := l3.int (k := .i64) Try.underlying3
    obtain ⟨n4, rfl, _⟩ := l4.int (k := .i64) Try.underlying3
    obtain ⟨n5, rfl, _⟩ := l5.int (k := .i64) Try.underlying3
    refine ⟨⟨n0, n1, n2, n3, n4, n5⟩, b, off, e, hb, fun j v hv => ?_⟩
    match j, hv with
    | 0, hv => injection hv with hv; subst hv; exact ⟨_, c0, .v _ rfl⟩
    | 1, hv => injection hv with hv; subst hv; exact ⟨_, c1, .v _ rfl⟩
    | 2, hv => injection hv with hv; subst hv; exact ⟨_, c2, .v _ rfl⟩
    | 3, hv => injection hv with hv; subst hv; exact ⟨_, c3, .v _ rfl⟩
    | 4, hv => injection hv with hv; subst hv; exact ⟨_, c4, .v _ rfl⟩
    | 5, hv => injection hv with hv; subst hv; exact ⟨_, c5, .v _ rfl⟩)
  subst hl
  exact ⟨l, rfl, by unfold maxLen at h2; omega, row_rep (n := 6) (fun x => rfl) (by omega) h1 (cell_slice Try.underlying25 hw) hq⟩
theorem open_layA {v : Value} {d : DataW H} {p : List MemPlace} (hv : Value.okWide Try.prog w r b0 27 v) (h : DataW.Trod enc Try.prog w base spare held 27 v d p) : ∃ L : Lay, LayFits L ∧ ∀ l, RepA w (fun _ => .lock none) id l (vLay L).den v := by
  obtain ⟨cs, rfl, hl, hf⟩ := agg_legible Try.underlying27 (by kernel_rfl) (by kernel_rfl) hv h
  have hts : Try.prog.cellTypes Try.prog.depth 27 = some [23, 23, 24, 25] := by kernel_rfl
  match cs, hl with
  | [c0, c1, c2, c3], _ =>
    obtain ⟨u0, e0, l0⟩ := hf 0 _ rfl
    obtain ⟨u1, e1, l1⟩ := hf 1 _ rfl
    obtain ⟨u2, e2, l2⟩ := hf 2 _ rfl
    obtain ⟨u3, e3, l3⟩ := hf 3 _ rfl
    obtain rfl : c0 = u0 := by simpa using e0
    obtain rfl : c1 = u1 := by simpa using e1
    obtain rfl : c2 = u2 := by simpa using e2
    obtain rfl : c3 = u3 := by simpa using e3
    have w0 := field_wide Try.underlying27 hts hv (i := 0) (by decide) rfl (v := c0) rfl
    have w1 := field_wide Try.underlying27 hts hv (i := 1) (by decide) rfl (v := c1) rfl
    have w2 := field_wide Try.underlying27 hts hv (i := 2) (by decide) rfl (v := c2) rfl
    have w3 := field_wide Try.underlying27 hts hv (i := 3) (by decide) rfl (v := c3) rfl
    obtain ⟨A0, n0, k0, rfl, _⟩ := row1_legible Try.underlying23 (by kernel_rfl) l0
    obtain ⟨A1, n1, k1, rfl, _⟩ := row1_legible Try.underlying23 (by kernel_rfl) l1
    obtain ⟨A2, n2, k2, rfl, _⟩ := rows_legible Try.underlying24 Try.underlying72 (by kernel_rfl) (by kernel_rfl) (by decide) l2
    obtain ⟨A3, n3, k3, rfl, _⟩ := rows_legible Try.underlying25 Try.underlying130 (by kernel_rfl) (by kernel_rfl) (by decide) l3
    obtain ⟨a, rfl, za, sa, ra⟩ := open_strsA w0 l0
    obtain ⟨b, rfl, zb, sb, rb⟩ := open_strsA w1 l1
    obtain ⟨c, rfl, zc, sc, rc⟩ := open_secsA w2 l2
    obtain ⟨e, rfl, ze, re⟩ := open_lnksA w3 l3
    refine ⟨⟨a, b, c, e⟩, ⟨sa, sb, sc, za, zb, zc, ze⟩, fun l => ⟨_, rfl, rfl, fun i hi hi' => ?_⟩⟩
    match i, hi' with
    | 0, _ => exact ⟨rfl, ra⟩
    | 1, _ => exact ⟨rfl, rb⟩
    | 2, _ => exact ⟨rfl, rc⟩
    | 3, _ => exact ⟨rfl, re⟩
theorem open_rteA {v : Value} {d : DataW H} {p : List MemPlace} (hv : Value.okWide Try.prog w r b0 30 v) (h : DataW.Trod enc Try.prog w base spare held 30 v d p) : ∃ (st : List Stp) (ov : Int), st.length ≤ 9223372036854775807 ∧ (-9223372036854775808 ≤ ov ∧ ov ≤ 9223372036854775807) ∧ ∀ l, RepA w (fun _ => .lock none) id l (SV.den (.agg [rStp st, xI ov])) v := by
  obtain ⟨cs, rfl, hl, hf⟩ := agg_legible Try.underlying30 (by kernel_rfl) (by kernel_rfl) hv h
  have hts : Try.prog.cellTypes Try.prog.depth 30 = some [28, 3] := by kernel_rfl
  match cs, hl with
  | [c0, c1], _ =>
    obtain ⟨u0, e0, l0⟩ := hf 0 _ rfl
    obtain ⟨u1, e1, l1⟩ := hf 1 _ rfl
    obtain rfl : c0 = u0 := by simpa using e0
    obtain rfl : c1 = u1 := by simpa using e1
    have w0 := field_wide Try.underlying30 hts hv (i := 0) (by decide) rfl (v := c0) rfl
    obtain ⟨ov, rfl, hov⟩ := l1.int (k := .i64) Try.underlying3
    obtain ⟨A, len, cap, rfl, h1, h2, h3⟩ := rows_legible Try.underlying28 Try.underlying60 (by kernel_rfl) (by kernel_rfl) (by decide) l0
    obtain ⟨st, hz, hq⟩ := list_of (Q := fun i (s : Stp) => ∃ b off, A = some ⟨b, off, none⟩ ∧ b < w.heap.size ∧ ∀ j v, (fStp s)[j]? = some v → ∃ u, w.cell? ⟨b, off + i * 2 + j, none⟩ = some u ∧ RepF w (fun _ => .lock none) v u) len (fun i hi => by
      obtain ⟨b, off, e, hb, hf⟩ := h3 i hi
      obtain ⟨u0, c0, l0⟩ := hf 0 _ rfl
      obtain ⟨u1, c1, l1⟩ := hf 1 _ rfl
      obtain ⟨n0, rfl, _⟩ := l0.int (k := .i64) Try.underlying3
      obtain ⟨n1, rfl, _⟩ := l1.int (k := .i64) Try.underlying3
      refine ⟨⟨n0, n1⟩, b, off, e, hb, fun j v hv => ?_⟩
      match j, hv with
      | 0, hv => injection hv with hv; subst hv; exact ⟨_, c0, .v _ rfl⟩
      | 1, hv => injection hv with hv; subst hv; exact ⟨_, c1, .v _ rfl⟩)
    subst hz
    have hb : -9223372036854775808 ≤ ov ∧ ov ≤ 9223372036854775807 := by simpa [Lit.wf, IntKind.min, IntKind.max, IntKind.signed, IntKind.bits] using hov
    refine ⟨st, ov, by unfold maxLen at h2; omega, hb, fun l => ⟨_, rfl, rfl, fun i hi hi' => ?_⟩⟩
    match i, hi' with
    | 0, _ => exact ⟨rfl, row_rep (n := 2) (fun x => rfl) (by omega) h1 (cell_slice Try.underlying28 w0) hq⟩
    | 1, _ => exact ⟨rfl, .v _ rfl⟩
theorem open_stkA {v : Value} {d : DataW H} {p : List MemPlace} (hv : Value.okWide Try.prog w r b0 32 v) (h : DataW.Trod enc Try.prog w base spare held 32 v d p) : ∃ (nm : ByteArray) (l sp ac br : Int), ∀ k, RepA w (fun _ => .lock none) id k (SV.den (.agg [xS nm, xI l, xI sp, xI ac, xI br])) v := by
  obtain ⟨cs, rfl, hl, hf⟩ := agg_legible Try.underlying32 (by kernel_rfl) (by kernel_rfl) hv h
  match cs, hl with
  | [c0, c1, c2, c3, c4], _ =>
    obtain ⟨u0, e0, l0⟩ := hf 0 _ rfl
    obtain ⟨u1, e1, l1⟩ := hf 1 _ rfl
    obtain ⟨u2, e2, l2⟩ := hf 2 _ rfl
    obtain ⟨u3, e3, l3⟩ := hf 3 _ rfl
    obtain ⟨u4, e4, l4⟩ := hf 4 _ rfl
    obtain ⟨s, rfl, _⟩ := l0.str Try.underlying9
    obtain ⟨n1, rfl, _⟩ := l1.int (k := .i64) Try.underlying3
    obtain ⟨n2, rfl, _⟩ := l2.int (k := .i64) Try.underlying3
    obtain ⟨n3, rfl, _⟩ := l3.int (k := .i64) Try.underlying3
    obtain ⟨n4, rfl, _⟩ := l4.int (k := .i64) Try.underlying3
    simp at e0 e1 e2 e3 e4
    subst e0; subst e1; subst e2; subst e3; subst e4
    refine ⟨s, n1, n2, n3, n4, fun k => ⟨_, rfl, rfl, fun i hi hi' => ?_⟩⟩
    match i, hi' with
    | 0, _ => exact ⟨rfl, .v _ rfl⟩
    | 1, _ => exact ⟨rfl, .v _ rfl⟩
    | 2, _ => exact ⟨rfl, .v _ rfl⟩
    | 3, _ => exact ⟨rfl, .v _ rfl⟩
    | 4, _ => exact ⟨rfl, .v _ rfl⟩
end
end Go.Proofs.Ytbpeakgihhdocaa.Av
namespace Go.Proofs.Ytbpeakgihhdocaa
open Go.RowKit Av
set_option linter.unusedVariables false
theorem W.BlockingRaw (v0 v1 v2 : Value) (a3 a4 : Int) (w : World) (L : Lay) (hL : LayFits L) (r0 : ∀ l, RepA w (fun _ => .lock none) id l (vLay L).den v0) (st : List Stp) (ov : Int) (hl : st.length ≤ 9223372036854775807) (ho : -9223372036854775808 ≤ ov ∧ ov ≤ 9223372036854775807) (r1 : ∀ l, RepA w (fun _ => .lock none) id l (SV.den (.agg [rStp st, xI ov])) v1) (nm : ByteArray) (n2 sp ac br : Int) (r2 : ∀ l, RepA w (fun _ => .lock none) id l (SV.den (.agg [xS nm, xI n2, xI sp, xI ac, xI br])) v2) :
    Calls Try.prog 8 #[v0, v1, v2, .int .i64 a3, .int .i64 a4] w fun e w' => e = .returned (.bool true) ∧ Below w.heap.size w w' := by
  refine Av.law_calls (Av.raw_ok L hL st ov hl ho nm n2 sp ac br a3 a4) w _ rfl (fun i hi hi' l => ?_) (fun x hx => by
    simp at hx
    rcases hx with rfl | rfl | rfl | rfl | rfl <;> rfl)
  match i, hi with
  | 0, _ => exact r0 l
  | 1, _ => exact r1 l
  | 2, _ => exact r2 l
  | 3, _ => exact .v _ rfl
  | 4, _ => exact .v _ rfl
end Go.Proofs.Ytbpeakgihhdocaa
