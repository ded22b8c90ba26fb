/- What the claims use of their texts: AvT, AvR3, Bl4, Bl6, Bl7, Bl9, BlA, Sm, BlB, Lz2, Wz2. -/
import Derived.Test.YtbpeakgihhdocaaGreatPYF
set_option linter.unusedVariables false
set_option linter.unusedSimpArgs false
set_option maxRecDepth 4000
set_option maxHeartbeats 4000000
namespace Go.Proofs.YtbpeakgihhdocaaGreat.Av
section
variable {s : St} {H : HB}
theorem ev_same {d : Nat} {x : AVal} : (s.put (some d) x).ev (.tmp d) = x := upd_same _ _ _
theorem ev_other {d t : Nat} {x : AVal} (h : t ≠ d) : (s.put (some d) x).ev (.tmp t) = s.ev (.tmp t) := upd_other _ _ h
theorem ev_setH {x : Operand} : (s.setH H).ev x = s.ev x := by cases x <;> rfl
end
section
variable {P : Program} {D : Array Oper → St → (St → Prop) → Prop} {n0 : Nat} {s : St} {K : AExit → St → Prop}
end
section
variable {P : Program} {ops : Array Oper} {s s' : St} {rest : List Oper} {d : Option Tmp} {ty : TypeId} {pos : String} {af : Array Edge} {g : Option (Nat × Bool)}
end
section
variable {P : Program} {ops : Array Oper} {s s' : St} {rest : List Oper} {d : Option Tmp} {ty : TypeId} {pos : String} {af : Array Edge} {g : Option (Nat × Bool)} {R : Rg}
variable {D : Array Oper → St → (St → Prop) → Prop} {n0 : Nat} {K : AExit → St → Prop}
theorem ee : (∀ (s : St) (d : Nat) (x : AVal), (s.put (some d) x).ev (.tmp d) = x) ∧ (∀ (s : St) (d t : Nat) (x : AVal), t ≠ d → (s.put (some d) x).ev (.tmp t) = s.ev (.tmp t)) ∧ (∀ (s : St) (x : AVal) (y : Operand), (s.put none x).ev y = s.ev y) ∧ (∀ (s : St) (H : HB) (x : Operand), (s.setH H).ev x = s.ev x) ∧
  (∀ (H : HB) (d : Nat) (x : AVal) (l : List (Nat × AVal)), (St.of H ((d, x) :: l)).ev (.tmp d) = x) ∧ (∀ (H : HB) (d t : Nat) (x : AVal) (l : List (Nat × AVal)), t ≠ d → (St.of H ((d, x) :: l)).ev (.tmp t) = (St.of H l).ev (.tmp t)) ∧
  (∀ (s : St) (k : IntKind) (n : Int), s.ev (.const (.int k n)) = .c (.f (.v (.int k n)))) ∧ (∀ (s : St) (b : Bool), s.ev (.const (.bool b)) = .c (.f (.v (.bool b)))) ∧ (∀ (s : St) (b : ByteArray), s.ev (.const (.string b)) = .c (.f (.v (.string b)))) ∧ (∀ s : St, s.ev (.const (.slice none 0 0)) = .c (.f .nils)) ∧ (∀ s : St, s.ev (.const (.pointer none)) = .c (.f (.v (.pointer none)))) ∧
  (∀ a b : Nat, (a ≠ b) = ¬ (a = b)) ∧ ((¬ False) = True) :=
 ⟨fun _ _ _ => ev_same, fun _ _ _ _ h => ev_other h, fun _ _ _ => rfl, fun _ _ _ => ev_setH, fun _ _ _ _ => ev_of_same, fun _ _ _ _ _ h => ev_of_other h, fun _ _ _ => rfl, fun _ _ => rfl, fun _ _ => rfl, fun _ => rfl, fun _ => rfl, fun _ _ => rfl, not_false_eq_true⟩
end
theorem passing_bad (L : Lay) (hL : LayFits L) (st : List Stp) (ov : Int) (hl : st.length ≤ 9223372036854775807) (ho : -9223372036854775808 ≤ ov ∧ ov ≤ 9223372036854775807) (nm : ByteArray) (l sp ac br : Int) (h : ¬ fitErr L ⟨st, ov⟩ l sp ac br = 0) : OkV Tryz.prog 28 [vLay L, vR2 st ov, vS5 nm l sp ac br] [] (.tup [.c (rInt []), .c (rInt []), .c (xI 0), .c (xI (fitErr L ⟨st, ov⟩ l sp ac br))]) [] := by
 have hF := refFits_ok L hL st ov hl ho nm l sp ac br
 unfold vLay at hF ⊢
 refine X_fn mixedX Tryz.func28 rfl (by kernel_rfl) (Nat.le_of_ble_eq_true (by kernel_rfl)) (by kernel_rfl) rfl rfl (Nat.le_of_ble_eq_true rfl) rfl rfl ?_
 simp only [sl0, Nat.zero_add, Nat.reduceAdd]
 repeat' (first
  |with_reducible (first|refine q_and ?_ ?_|exact True.intro|exact TkEq.nil _|refine Red.o (by constructor) ?_|refine blockK_o' rfl ?_|refine LoopX_e' rfl ?_|assumption)
  |((with_reducible apply q_call);refine X_pure (hF) rfl ?_)
  |((with_reducible apply q_CI);intro hbq;(try simp only [bq] at hbq);(try (exfalso;omega)))
  |refine Rex.o (by (with_reducible constructor);apply Eq.refl) ?_
  |(intro (hgq : (_ : Bool) = true);(try simp only [bq] at hgq))
  |(intro (hgq : (_ : Bool) = false);(try simp only [bq] at hgq))
  |((with_reducible apply q_VOk);exact fun _ => ⟨rfl,rfl⟩)|(intro _;exact rfl)|((with_reducible apply q_CRB);kernel_rfl)|((with_reducible apply q_bt);simp only [bq])|((with_reducible apply q_eqN);rfl)|((with_reducible apply q_FE);exact rfl)|with_reducible (first|exact isByte_wrap _|exact isByte_nat _)|(simp only [hgq,bq];done)|omega|(dsimp only;omega))
 ·rfl
theorem passing_ok (L : Lay) (hL : LayFits L) (st : List Stp) (ov : Int) (hl : st.length ≤ 9223372036854775807) (ho : -9223372036854775808 ≤ ov ∧ ov ≤ 9223372036854775807) (nm : ByteArray) (l sp ac br : Int) (h : fitErr L ⟨st, ov⟩ l sp ac br = 0) : OkV Tryz.prog 28 [vLay L, vR2 st ov, vS5 nm l sp ac br] [] (.tup [.c (rInt (entL L ⟨st, ov⟩ l sp ac br (trv ⟨st, ov⟩).length)), .c (rInt (levL L ⟨st, ov⟩ l sp ac br (trv ⟨st, ov⟩).length)), .c (xI (runI L ⟨st, ov⟩ l sp ac br)), .c (xI 0)]) [] := by
 have hF := refFits_ok L hL st ov hl ho nm l sp ac br
 rw [h] at hF
 have hR := ride_of h
 have hat : ∀ i : Nat, (i : Int) < st.length - ov → (trv ⟨st, ov⟩).getD i st0 = st.getD i st0 := fun i hi => trv_at hR.rt hi
 obtain ⟨r1, r2, r3, r4, r5, r6, r7, r8, r9, r10, r11, r12, r13, r14⟩ := hR
 have hq := chk_of r3
 have hr1 := r1.ov0
 have hr2 := r1.two
 simp only at hr1 hr2 r4
 have hn3 := (valid_of r1.lay).n3
 have hC := refCells_ok L hL st ov hl ho
 unfold celOut at hC
 rw [r2, if_pos rfl] at hC
 have hm := refTimes_ok (celL L (trv ⟨st, ov⟩)) (celOne L ⟨st, ov⟩) nm l sp ac br (by
  have := (bad_zero r12).2.1; omega)
 rw [r13, r12] at hm
 unfold entL levL levF runI
 generalize hT' : rideT L ⟨st, ov⟩ l sp ac br = T at *
 generalize hts : trv ⟨st, ov⟩ = ts at *
 unfold vLay at hF hC ⊢
 refine X_fn mixedX Tryz.func28 rfl (by kernel_rfl) (Nat.le_of_ble_eq_true (by kernel_rfl)) (by kernel_rfl) rfl rfl (Nat.le_of_ble_eq_true rfl) rfl rfl ?_
 simp only [sl0, Nat.zero_add, Nat.reduceAdd]
 repeat' (first
  |with_reducible (first|refine q_and ?_ ?_|exact True.intro|exact TkEq.nil _|refine Red.o (by constructor) ?_|refine blockK_o' rfl ?_|refine LoopX_e' rfl ?_|assumption)
  |((with_reducible apply q_call);first|refine X_pure (hF) rfl ?_|refine X_pure (hC) rfl ?_|refine X_pure (hm) rfl ?_)
  |((with_reducible apply q_CI);intro hbq;(try simp only [bq] at hbq);(try (exfalso;omega)))
  |refine Rex.o (by (with_reducible constructor);apply Eq.refl) ?_
  |(intro (hgq : (_ : Bool) = true);(try simp only [bq] at hgq))
  |(intro (hgq : (_ : Bool) = false);(try simp only [bq] at hgq))
  |((with_reducible apply q_VOk);exact fun _ => ⟨rfl,rfl⟩)|(intro _;exact rfl)|((with_reducible apply q_CRB);kernel_rfl)|((with_reducible apply q_bt);simp only [bq])|((with_reducible apply q_eqN);rfl)|((with_reducible apply q_FE);exact rfl)|with_reducible (first|exact isByte_wrap _|exact isByte_nat _)|(simp only [hgq,bq];done)|omega|(dsimp only;omega))
 clear hF hm hC r13 r12 r11 r10
 have hrl : (row (endA L ts (ts.length - 1) + 1) T).length = _ := row_len _ _
 have hE : ∀ j, j + 1 ≤ ts.length → endA L ts j ≤ endA L ts (ts.length - 1) := fun j hj => endA_mono L ts (by omega)
 have hEb : endA L ts (ts.length - 1) ≤ 400 * 24 := by
  have : ∀ j, j + 1 ≤ ts.length → endA L ts j ≤ 400 * j := by
   intro j
   induction j with
   | zero => intro _; exact Nat.le_refl _
   | succ j ih => intro hj; have := ih (by omega); have := (r8 (j + 1) (by omega)).2.2; simp only [endA]; omega
  have := this (ts.length - 1) (by omega)
  omega
 refine W_loopS (fun k : Nat => SS [sC 3 (pB 0), sC 4 (pB 1), sC 5 (pB 2), sC 6 (tInt (row k fun k => T (endA L ts (k - 1)))), sC 7 (tInt (row k fun k => T (if k + 1 < ts.length then endA L ts k + l.toNat else endA L ts k))), sC 14 (rInt (row (endA L ts (ts.length - 1) + 1) T)), sI 16 (endA L ts (k - 1)), sI 17 k] [bLay L, bRte st ov, bS5 nm l sp ac br]) (fun k => k ≤ ts.length) (fun k => ts.length - k) 0 ?_ (by omega) ?_
 ·
  refine X_weak rfl rfl rfl ?_ ?_ <;> repeat' (first|with_reducible (first|refine Wk.o (by constructor) ?_|refine q_and ?_ ?_|exact True.intro)|refine q_AgS rfl ?_ ?_|exact CLe.nil_tipS|exact CLe.nil_rowS|refine HLe.cells ?_ ?_|refine HLe.els ?_ ?_|refine SLe.cons ?_ ?_|exact (rfl : known _ = _)|with_reducible rfl|omega)
  all_goals rfl
 intro k hk
 have hl1 := row_len k fun k => T (endA L ts (k - 1))
 have hl2 := row_len k fun k => T (if k + 1 < ts.length then endA L ts k + l.toNat else endA L ts k)
 by_cases hkn : k < ts.length
 ·have f0 := hE (k - 1) (by omega)
  have f2 := hE k (by omega)
  have f1 : 0 < k → endA L ts k = endA L ts (k - 1) + secN L ts k := fun h => by
   obtain ⟨j, rfl⟩ : ∃ j, k = j + 1 := ⟨k - 1, by omega⟩
   rfl
  have f3 : k + 1 < ts.length → endA L ts k + l.toNat ≤ endA L ts (ts.length - 1) := fun h => by
   have a := hE (k + 1) (by omega)
   have b := (r8 (k + 1) h).2.1
   simp only [endA] at a
   omega
  have f4 : ¬ k + 1 < ts.length → endA L ts k = endA L ts (ts.length - 1) := fun h => by rw [show k = ts.length - 1 by omega]
  have g0 : ts.getD k st0 = st.getD (k : Int).toNat { sec := 0, dir := 0 } := hat k (by omega)
  have g1 : 0 ≤ (st.getD (k : Int).toNat { sec := 0, dir := 0 }).sec ∧ (st.getD (k : Int).toNat { sec := 0, dir := 0 }).sec < L.secs.length := by rw [← g0]; exact r7 k hkn
  have g2 : (L.secs.getD (st.getD (k : Int).toNat { sec := 0, dir := 0 }).sec.toNat sec0).len = (secN L ts k : Nat) := by rw [← g0]; exact r9 k hkn
  have g3 := r8 k hkn
  generalize secN L ts k = sk at *
  have hex : (row (endA L ts (ts.length - 1) + 1) T).getD ((endA L ts (k - 1) : Nat) : Int).toNat 0 = T (endA L ts (k - 1)) := by rw [Int.toNat_natCast, row_get (by omega)]
  have f5 : endA L ts (k + 1 - 1) = endA L ts k := rfl
  have f6 : k = 0 → endA L ts (k - 1) = endA L ts k := fun h => by rw [h]
  have hv : ∀ z : Int, z = min ((endA L ts k : Int) + l) (endA L ts (ts.length - 1) : Int) → (row (endA L ts (ts.length - 1) + 1) T).getD z.toNat 0 = T (if k + 1 < ts.length then endA L ts k + l.toNat else endA L ts k) := fun z hz => by
   by_cases c : k + 1 < ts.length
   ·have := f3 c
    rw [if_pos c, show z.toNat = endA L ts k + l.toNat by omega, row_get (by omega)]
   ·have := f4 c
    rw [if_neg c, show z.toNat = endA L ts k by omega, row_get (by omega)]
  repeat' (first
   |with_reducible (first|refine q_and ?_ ?_|exact True.intro|exact TkEq.nil _|refine Red.o (by constructor) ?_|refine blockK_o' rfl ?_|refine LoopX_e' rfl ?_|assumption)
   |((with_reducible apply q_CI);intro hbq;(try simp only [bq] at hbq);(try (exfalso;omega)))
   |refine Rex.o (by (with_reducible constructor);apply Eq.refl) ?_
   |(intro (hgq : (_ : Bool) = true);(try simp only [bq] at hgq))
   |(intro (hgq : (_ : Bool) = false);(try simp only [bq] at hgq))
   |((with_reducible apply q_VOk);exact fun _ => ⟨rfl,rfl⟩)|(intro _;exact rfl)|((with_reducible apply q_CRB);kernel_rfl)|((with_reducible apply q_bt);simp only [bq])|((with_reducible apply q_eqN);rfl)|((with_reducible apply q_FE);exact rfl)|with_reducible (first|exact isByte_wrap _|exact isByte_nat _)|(simp only [hgq,bq];done)|omega|(dsimp only;omega))
  ·
   refine LoopK_n (k + 1) ?_ ((by omega)) (by (try dsimp only); omega)
   refine X_weak rfl rfl rfl ?_ ?_ <;> repeat' (first|with_reducible (first|refine Wk.o (by constructor) ?_|refine q_and ?_ ?_|exact True.intro)|refine q_AgS rfl ?_ ?_|exact CLe.nil_tipS|exact CLe.nil_rowS|refine HLe.cells ?_ ?_|refine HLe.els ?_ ?_|refine SLe.cons ?_ ?_|exact (rfl : known _ = _)|with_reducible rfl|omega)
   ·rw [hex, row_snoc]; simp [fInt, fI]
   ·rw [row_len, row_len]
   ·rw [hv _ (by omega), row_snoc]; simp [fInt, fI]
   ·rw [row_len, row_len]
  ·
   refine LoopK_n (k + 1) ?_ ((by omega)) (by (try dsimp only); omega)
   refine X_weak rfl rfl rfl ?_ ?_ <;> repeat' (first|with_reducible (first|refine Wk.o (by constructor) ?_|refine q_and ?_ ?_|exact True.intro)|refine q_AgS rfl ?_ ?_|exact CLe.nil_tipS|exact CLe.nil_rowS|refine HLe.cells ?_ ?_|refine HLe.els ?_ ?_|refine SLe.cons ?_ ?_|exact (rfl : known _ = _)|with_reducible rfl|omega)
   ·rw [hex, row_snoc]; simp [fInt, fI]
   ·rw [row_len, row_len]
   ·rw [hv _ (by omega), row_snoc]; simp [fInt, fI]
   ·rw [row_len, row_len]
 ·have hkn : k = ts.length := by omega
  subst hkn
  have hex : (row (endA L ts (ts.length - 1) + 1) T).getD (((row (endA L ts (ts.length - 1) + 1) T).length : Int) - 1).toNat 0 = T (endA L ts (ts.length - 1)) := by rw [hrl, show (((endA L ts (ts.length - 1) + 1 : Nat) : Int) - 1).toNat = endA L ts (ts.length - 1) by omega, row_get (by omega)]
  have hr := r14 _ (Nat.le_refl _)
  have hU := refCeil_okV ((row (endA L ts (ts.length - 1) + 1) T).getD (((row (endA L ts (ts.length - 1) + 1) T).length : Int) - 1).toNat 0) 1000 (by rw [hex]; omega) (by omega)
  repeat' (first
   |with_reducible (first|refine q_and ?_ ?_|exact True.intro|exact TkEq.nil _|refine Red.o (by constructor) ?_|refine blockK_o' rfl ?_|refine LoopX_e' rfl ?_|assumption)
   |((with_reducible apply q_call);refine X_pure (hU) rfl ?_)
   |((with_reducible apply q_CI);intro hbq;(try simp only [bq] at hbq);(try (exfalso;omega)))
   |refine Rex.o (by (with_reducible constructor);apply Eq.refl) ?_
   |(intro (hgq : (_ : Bool) = true);(try simp only [bq] at hgq))
   |(intro (hgq : (_ : Bool) = false);(try simp only [bq] at hgq))
   |((with_reducible apply q_VOk);exact fun _ => ⟨rfl,rfl⟩)|(intro _;exact rfl)|((with_reducible apply q_CRB);kernel_rfl)|((with_reducible apply q_bt);simp only [bq])|((with_reducible apply q_eqN);rfl)|((with_reducible apply q_FE);exact rfl)|with_reducible (first|exact isByte_wrap _|exact isByte_nat _)|(simp only [hgq,bq];done)|omega|(dsimp only;omega))
  simp only [hex]
  rfl
abbrev bHull (n : Nat) : Option SB := some (.cells [.c (.arr 1 0 n n), .c (.arr 2 0 n n)])
def addH (hs : List Bool) (t : List Occ) (x : Nat) (a b : Int) : List Occ := t.set x (if hs.getD x false = true then ⟨x, min a (t.getD x ⟨0, 0, 0⟩).frm, max b (t.getD x ⟨0, 0, 0⟩).til⟩ else ⟨x, a, b⟩)
theorem hadd_ok (hs : List Bool) (t : List Occ) (x : Nat) (a b : Int) (hx : x < t.length) (hh : hs.length = t.length) (hl : t.length ≤ 1000) : OkV Tryz.prog 60 [.c (pB 0), .c (xI x), .c (xI a), .c (xI b)] [bHull t.length, bBool hs, bOcc t] (.tup []) [bHull t.length, bBool (hs.set x true), bOcc (addH hs t x a b)] := by
 unfold addH
 refine X_fn mixedX Tryz.func60 rfl (by kernel_rfl) (Nat.le_of_ble_eq_true (by kernel_rfl)) (by kernel_rfl) rfl rfl (Nat.le_of_ble_eq_true rfl) rfl rfl ?_
 simp only [sl0, Nat.zero_add, Nat.reduceAdd]
 repeat' (first
  |with_reducible (first|refine q_and ?_ ?_|exact True.intro|exact TkEq.nil _|refine Red.o (by constructor) ?_|refine blockK_o' rfl ?_|refine LoopX_e' rfl ?_|assumption)
  |((with_reducible apply q_CI);intro hbq;(try simp only [bq] at hbq);(try (exfalso;omega)))
  |refine Rex.o (by (with_reducible constructor);apply Eq.refl) ?_
  |(intro (hgq : (_ : Bool) = true);(try simp only [bq] at hgq))
  |(intro (hgq : (_ : Bool) = false);(try simp only [bq] at hgq))
  |((with_reducible apply q_VOk);exact fun _ => ⟨rfl,rfl⟩)|(intro _;exact rfl)|((with_reducible apply q_CRB);kernel_rfl)|((with_reducible apply q_bt);simp only [bq])|((with_reducible apply q_eqN);rfl)|((with_reducible apply q_FE);exact rfl)|with_reducible (first|exact isByte_wrap _|exact isByte_nat _)|(simp only [hgq,bq];done)|omega|(dsimp only;omega))
 ·rfl
 ·exact Nat.le_refl _
 ·rfl
 ·rfl
 ·rw [if_pos (by simpa using hbq)]
  repeat' (first|with_reducible (first|refine Wk.o (by constructor) ?_|refine q_and ?_ ?_|exact True.intro)|refine VEq.c ?_|refine VEq.agg ?_|refine VEq.tup ?_|refine TkEq.cells ?_ ?_|refine TkEq.els ?_ ?_|refine SEqL.cons ?_ ?_|refine TEqL.agg ?_ ?_|refine CEq.rows ?_|refine CEq.int ?_|rfl|omega)
 ·rfl
 ·exact Nat.le_refl _
 ·rfl
 ·rfl
 ·rw [if_neg (by simpa using hbq)]
  repeat' (first|with_reducible (first|refine Wk.o (by constructor) ?_|refine q_and ?_ ?_|exact True.intro)|refine VEq.c ?_|refine VEq.agg ?_|refine VEq.tup ?_|refine TkEq.cells ?_ ?_|refine TkEq.els ?_ ?_|refine SEqL.cons ?_ ?_|refine TEqL.agg ?_ ?_|refine CEq.rows ?_|refine CEq.int ?_|rfl|omega)
section
variable (L : Lay) (r : Rte) (l sp ac br bf af : Int)
end
section
variable {L : Lay} {r : Rte} {l sp ac br bf af : Int} (h : Ride L r l sp ac br)
include h
theorem ptF_lt (hb : 0 ≤ bf) (ha : 0 ≤ af) (i : Nat) (hi : 0 < i) : spF L r l sp ac br bf i < ptT L r l sp ac br af i := by
 unfold ptT
 by_cases h1 : i < (trv r).length
 ·rw [if_pos h1]
  unfold spF spT
  rw [if_neg (by omega), if_pos h1, if_pos (by omega)]
  have := cd_le (ent_le_lev h (i := i - 1) (j := i - 1) (by omega) (by omega))
  omega
 ·rw [if_neg h1]
  exact spF_lt h hb ha i
end
theorem add_agree {hs : List Bool} {t : List Occ} (hh : hs = t.map usedO) (x : Nat) {a b : Int} (hab : a < b) : addH hs t x a b = addO t x a b ∧ hs.set x true = (addO t x a b).map usedO := by
 unfold addH addO
 by_cases hx : x < t.length
 ·have e : hs.getD x false = usedO (t.getD x ⟨0, 0, 0⟩) := by
   rw [hh, List.getD_eq_getElem?_getD, List.getD_eq_getElem?_getD, List.getElem?_map, List.getElem?_eq_getElem hx]
   rfl
  have e2 : (hs.getD x false = true) = ((t.getD x ⟨0, 0, 0⟩).frm < (t.getD x ⟨0, 0, 0⟩).til) := by
   rw [e]; unfold usedO; rw [decide_eq_true_eq]
  refine ⟨by simp only [e2], ?_⟩
  rw [List.map_set, ← hh]
  congr 1
  unfold usedO
  split
  ·rename_i c
   symm; rw [decide_eq_true_eq]; simp only; omega
  ·symm; rw [decide_eq_true_eq]; exact hab
 ·have h1 : ∀ y, t.set x y = t := fun y => List.set_eq_of_length_le (by omega)
  rw [h1, h1]
  exact ⟨rfl, by rw [List.set_eq_of_length_le (by rw [hh, List.length_map]; omega)]; exact hh⟩
theorem stairs_bad (L : Lay) (hL : LayFits L) (st : List Stp) (ov : Int) (hl : st.length ≤ 9223372036854775807) (ho : -9223372036854775808 ≤ ov ∧ ov ≤ 9223372036854775807) (nm : ByteArray) (l sp ac br : Int) (h : ¬ fitErr L ⟨st, ov⟩ l sp ac br = 0) : OkV Tryz.prog 9 [vLay L, vR2 st ov, vS5 nm l sp ac br] [] (.tup [.c (rOcc []), .c (xI 0), .c (xI (fitErr L ⟨st, ov⟩ l sp ac br))]) [] := by
 have hF := occupations_bad L hL st ov hl ho nm l sp ac br 0 0 h
 unfold vLay at hF ⊢
 refine X_fn mixedX Tryz.func9 rfl (by kernel_rfl) (Nat.le_of_ble_eq_true (by kernel_rfl)) (by kernel_rfl) rfl rfl (Nat.le_of_ble_eq_true rfl) rfl rfl ?_
 simp only [sl0, Nat.zero_add, Nat.reduceAdd]
 repeat' (first
  |with_reducible (first|refine q_and ?_ ?_|exact True.intro|exact TkEq.nil _|refine Red.o (by constructor) ?_|refine blockK_o' rfl ?_|refine LoopX_e' rfl ?_|assumption)
  |((with_reducible apply q_call);refine X_pure (hF) rfl ?_)
  |((with_reducible apply q_CI);intro hbq;(try simp only [bq] at hbq);(try (exfalso;omega)))
  |refine Rex.o (by (with_reducible constructor);apply Eq.refl) ?_
  |(intro (hgq : (_ : Bool) = true);(try simp only [bq] at hgq))
  |(intro (hgq : (_ : Bool) = false);(try simp only [bq] at hgq))
  |((with_reducible apply q_VOk);exact fun _ => ⟨rfl,rfl⟩)|(intro _;exact rfl)|((with_reducible apply q_CRB);kernel_rfl)|((with_reducible apply q_bt);simp only [bq])|((with_reducible apply q_eqN);rfl)|((with_reducible apply q_FE);exact rfl)|with_reducible (first|exact isByte_wrap _|exact isByte_nat _)|(simp only [hgq,bq];done)|omega|(dsimp only;omega))
 all_goals repeat' (first|with_reducible (first|refine Wk.o (by constructor) ?_|refine q_and ?_ ?_|exact True.intro)|refine VEq.c ?_|refine VEq.agg ?_|refine VEq.tup ?_|refine TkEq.cells ?_ ?_|refine TkEq.els ?_ ?_|refine SEqL.cons ?_ ?_|refine TEqL.agg ?_ ?_|refine CEq.rows ?_|refine CEq.int ?_|rfl|omega)
def heldErr (L : Lay) (r : Rte) (l sp ac br bf af : Int) : Int := if fitErr L r l sp ac br ≠ 0 then fitErr L r l sp ac br else if bf < 0 ∨ 65536 < bf ∨ af < 0 ∨ 65536 < af then 4 else 0
theorem held_bad (L : Lay) (hL : LayFits L) (st : List Stp) (ov : Int) (hl : st.length ≤ 9223372036854775807) (ho : -9223372036854775808 ≤ ov ∧ ov ≤ 9223372036854775807) (nm : ByteArray) (l sp ac br bf af : Int) (h : ¬ heldErr L ⟨st, ov⟩ l sp ac br bf af = 0) : OkV Tryz.prog 30 [vLay L, vR2 st ov, vS5 nm l sp ac br, .c (xI bf), .c (xI af)] [] (.tup [.c (rOcc []), .c (xI 0), .c (xI (heldErr L ⟨st, ov⟩ l sp ac br bf af))]) [] := by
 have hF := fits_ok L hL st ov hl ho nm l sp ac br
 unfold heldErr at h ⊢
 generalize fitErr L ⟨st, ov⟩ l sp ac br = e at *
 unfold vLay at hF ⊢
 by_cases he : e = 0
 ·rw [if_neg (by simpa using he)] at h ⊢
  have hc : bf < 0 ∨ 65536 < bf ∨ af < 0 ∨ 65536 < af := Classical.byContradiction fun hn => h (if_neg hn)
  rw [if_pos hc]
  subst he
  refine X_fn mixedX Tryz.func30 rfl (by kernel_rfl) (Nat.le_of_ble_eq_true (by kernel_rfl)) (by kernel_rfl) rfl rfl (Nat.le_of_ble_eq_true rfl) rfl rfl ?_
  simp only [sl0, Nat.zero_add, Nat.reduceAdd]
  repeat' (first
   |with_reducible (first|refine q_and ?_ ?_|exact True.intro|exact TkEq.nil _|refine Red.o (by constructor) ?_|refine blockK_o' rfl ?_|refine LoopX_e' rfl ?_|assumption)
   |((with_reducible apply q_call);refine X_pure (hF) rfl ?_)
   |((with_reducible apply q_CI);intro hbq;(try simp only [bq] at hbq);(try (exfalso;omega)))
   |refine Rex.o (by (with_reducible constructor);apply Eq.refl) ?_
   |(intro (hgq : (_ : Bool) = true);(try simp only [bq] at hgq))
   |(intro (hgq : (_ : Bool) = false);(try simp only [bq] at hgq))
   |((with_reducible apply q_VOk);exact fun _ => ⟨rfl,rfl⟩)|(intro _;exact rfl)|((with_reducible apply q_CRB);kernel_rfl)|((with_reducible apply q_bt);simp only [bq])|((with_reducible apply q_eqN);rfl)|((with_reducible apply q_FE);exact rfl)|with_reducible (first|exact isByte_wrap _|exact isByte_nat _)|(simp only [hgq,bq];done)|omega|(dsimp only;omega))
  ·rfl
 ·rw [if_pos he]
  refine X_fn mixedX Tryz.func30 rfl (by kernel_rfl) (Nat.le_of_ble_eq_true (by kernel_rfl)) (by kernel_rfl) rfl rfl (Nat.le_of_ble_eq_true rfl) rfl rfl ?_
  simp only [sl0, Nat.zero_add, Nat.reduceAdd]
  repeat' (first
   |with_reducible (first|refine q_and ?_ ?_|exact True.intro|exact TkEq.nil _|refine Red.o (by constructor) ?_|refine blockK_o' rfl ?_|refine LoopX_e' rfl ?_|assumption)
   |((with_reducible apply q_call);refine X_pure (hF) rfl ?_)
   |((with_reducible apply q_CI);intro hbq;(try simp only [bq] at hbq);(try (exfalso;omega)))
   |refine Rex.o (by (with_reducible constructor);apply Eq.refl) ?_
   |(intro (hgq : (_ : Bool) = true);(try simp only [bq] at hgq))
   |(intro (hgq : (_ : Bool) = false);(try simp only [bq] at hgq))
   |((with_reducible apply q_VOk);exact fun _ => ⟨rfl,rfl⟩)|(intro _;exact rfl)|((with_reducible apply q_CRB);kernel_rfl)|((with_reducible apply q_bt);simp only [bq])|((with_reducible apply q_eqN);rfl)|((with_reducible apply q_FE);exact rfl)|with_reducible (first|exact isByte_wrap _|exact isByte_nat _)|(simp only [hgq,bq];done)|omega|(dsimp only;omega))
  ·rfl
theorem held_ok (L : Lay) (hL : LayFits L) (st : List Stp) (ov : Int) (hl : st.length ≤ 9223372036854775807) (ho : -9223372036854775808 ≤ ov ∧ ov ≤ 9223372036854775807) (nm : ByteArray) (l sp ac br bf af : Int) (h : fitErr L ⟨st, ov⟩ l sp ac br = 0) (hb : 0 ≤ bf ∧ bf ≤ 65536) (ha : 0 ≤ af ∧ af ≤ 65536) : OkV Tryz.prog 30 [vLay L, vR2 st ov, vS5 nm l sp ac br, .c (xI bf), .c (xI af)] [] (.tup [.c (rOcc (occL L st ov l sp ac br bf af)), .c (xI (runI L ⟨st, ov⟩ l sp ac br)), .c (xI 0)]) [] := by
 have hF := fits_ok L hL st ov hl ho nm l sp ac br
 rw [h] at hF
 have hO := occupations_ok L hL st ov hl ho nm l sp ac br bf af h (by omega) (by omega)
 unfold occL
 generalize (tabL L st (spF L ⟨st, ov⟩ l sp ac br bf) (spT L ⟨st, ov⟩ l sp ac br af) (ptT L ⟨st, ov⟩ l sp ac br af) st.length).filter usedO = t at *
 unfold vLay at hF hO ⊢
 refine X_fn mixedX Tryz.func30 rfl (by kernel_rfl) (Nat.le_of_ble_eq_true (by kernel_rfl)) (by kernel_rfl) rfl rfl (Nat.le_of_ble_eq_true rfl) rfl rfl ?_
 simp only [sl0, Nat.zero_add, Nat.reduceAdd]
 repeat' (first
  |with_reducible (first|refine q_and ?_ ?_|exact True.intro|exact TkEq.nil _|refine Red.o (by constructor) ?_|refine blockK_o' rfl ?_|refine LoopX_e' rfl ?_|assumption)
  |((with_reducible apply q_call);first|refine X_pure (hF) rfl ?_|refine X_pure (hO) rfl ?_)
  |((with_reducible apply q_CI);intro hbq;(try simp only [bq] at hbq);(try (exfalso;omega)))
  |refine Rex.o (by (with_reducible constructor);apply Eq.refl) ?_
  |(intro (hgq : (_ : Bool) = true);(try simp only [bq] at hgq))
  |(intro (hgq : (_ : Bool) = false);(try simp only [bq] at hgq))
  |((with_reducible apply q_VOk);exact fun _ => ⟨rfl,rfl⟩)|(intro _;exact rfl)|((with_reducible apply q_CRB);kernel_rfl)|((with_reducible apply q_bt);simp only [bq])|((with_reducible apply q_eqN);rfl)|((with_reducible apply q_FE);exact rfl)|with_reducible (first|exact isByte_wrap _|exact isByte_nat _)|(simp only [hgq,bq];done)|omega|(dsimp only;omega))
 all_goals repeat' (first|with_reducible (first|refine Wk.o (by constructor) ?_|refine q_and ?_ ?_|exact True.intro)|refine VEq.c ?_|refine VEq.agg ?_|refine VEq.tup ?_|refine TkEq.cells ?_ ?_|refine TkEq.els ?_ ?_|refine SEqL.cons ?_ ?_|refine TEqL.agg ?_ ?_|refine CEq.rows ?_|refine CEq.int ?_|rfl|omega)
theorem hadd_okU (t : List Occ) (N : Nat) (x a b : Int) (hx : 0 ≤ x ∧ x < N) (hN : t.length = N) (hl : N ≤ 1000) (hab : a < b) : OkV Tryz.prog 60 [.c (pB 0), .c (xI x), .c (xI a), .c (xI b)] [bHull N, bBool (t.map usedO), bOcc t] (.tup []) [bHull N, bBool ((addO t x.toNat a b).map usedO), bOcc (addO t x.toNat a b)] := by
 have h := hadd_ok (t.map usedO) t x.toNat a b (by omega) (by rw [List.length_map]) (by omega)
 obtain ⟨e1, e2⟩ := add_agree (hs := t.map usedO) (t := t) rfl x.toNat hab
 rw [e1, e2, hN, Int.toNat_of_nonneg hx.1] at h
 exact h
abbrev bHs (t : List Occ) : Option SB := bBool (t.map usedO)
def lastT (T : Nat → Int) (i : Nat) : Int := if i = 0 then 0 else T (i - 1)
theorem refHeld_bad (L : Lay) (hL : LayFits L) (st : List Stp) (ov : Int) (hl : st.length ≤ 9223372036854775807) (ho : -9223372036854775808 ≤ ov ∧ ov ≤ 9223372036854775807) (nm : ByteArray) (l sp ac br bf af : Int) (h : ¬ heldErr L ⟨st, ov⟩ l sp ac br bf af = 0) : OkV Tryz.prog 31 [vLay L, vR2 st ov, vS5 nm l sp ac br, .c (xI bf), .c (xI af)] [] (.tup [.c (rOcc []), .c (xI 0), .c (xI (heldErr L ⟨st, ov⟩ l sp ac br bf af))]) [] := by
 have hF := refFits_ok L hL st ov hl ho nm l sp ac br
 have i1 := in_ok bf 0 65536
 have i2 := in_ok af 0 65536
 unfold heldErr at h ⊢
 generalize fitErr L ⟨st, ov⟩ l sp ac br = e at *
 unfold vLay at hF ⊢
 by_cases he : e = 0
 ·rw [if_neg (by simpa using he)] at h ⊢
  have hc : bf < 0 ∨ 65536 < bf ∨ af < 0 ∨ 65536 < af := Classical.byContradiction fun hn => h (if_neg hn)
  rw [if_pos hc]
  subst he
  refine X_fn mixedX Tryz.func31 rfl (by kernel_rfl) (Nat.le_of_ble_eq_true (by kernel_rfl)) (by kernel_rfl) rfl rfl (Nat.le_of_ble_eq_true rfl) rfl rfl ?_
  simp only [sl0, Nat.zero_add, Nat.reduceAdd]
  repeat' (first
   |with_reducible (first|refine q_and ?_ ?_|exact True.intro|exact TkEq.nil _|refine Red.o (by constructor) ?_|refine blockK_o' rfl ?_|refine LoopX_e' rfl ?_|assumption)
   |((with_reducible apply q_call);first|refine X_pure (hF) rfl ?_|refine X_pure (i1) rfl ?_)
   |((with_reducible apply q_callG);refine X_pureG ((fun _ => i2)) rfl ?_ ?_)
   |((with_reducible apply q_CI);intro hbq;(try simp only [bq] at hbq);(try (exfalso;omega)))
   |with_reducible (first|refine W_seq ?_|refine W_block ?_)
   |((with_reducible apply q_cond);refine X_cond rfl ?_ ?_;all_goals (intro hbq;(try simp only [bq] at hbq);(try (exfalso;omega))))
   |refine Rex.o (by (with_reducible constructor);apply Eq.refl) ?_
   |(intro (hgq : (_ : Bool) = true);(try simp only [bq] at hgq))
   |(intro (hgq : (_ : Bool) = false);(try simp only [bq] at hgq))
   |((with_reducible apply q_VOk);exact fun _ => ⟨rfl,rfl⟩)|(intro _;exact rfl)|((with_reducible apply q_CRB);kernel_rfl)|((with_reducible apply q_bt);simp only [bq])|((with_reducible apply q_eqN);rfl)|((with_reducible apply q_FE);exact rfl)|with_reducible (first|exact isByte_wrap _|exact isByte_nat _)|(simp only [hgq,bq];done)|omega|(dsimp only;omega))
  ·rfl
 ·rw [if_pos he]
  refine X_fn mixedX Tryz.func31 rfl (by kernel_rfl) (Nat.le_of_ble_eq_true (by kernel_rfl)) (by kernel_rfl) rfl rfl (Nat.le_of_ble_eq_true rfl) rfl rfl ?_
  simp only [sl0, Nat.zero_add, Nat.reduceAdd]
  repeat' (first
   |with_reducible (first|refine q_and ?_ ?_|exact True.intro|exact TkEq.nil _|refine Red.o (by constructor) ?_|refine blockK_o' rfl ?_|refine LoopX_e' rfl ?_|assumption)
   |((with_reducible apply q_call);refine X_pure (hF) rfl ?_)
   |((with_reducible apply q_CI);intro hbq;(try simp only [bq] at hbq);(try (exfalso;omega)))
   |with_reducible (first|refine W_seq ?_|refine W_block ?_)
   |((with_reducible apply q_cond);refine X_cond rfl ?_ ?_;all_goals (intro hbq;(try simp only [bq] at hbq);(try (exfalso;omega))))
   |refine Rex.o (by (with_reducible constructor);apply Eq.refl) ?_
   |(intro (hgq : (_ : Bool) = true);(try simp only [bq] at hgq))
   |(intro (hgq : (_ : Bool) = false);(try simp only [bq] at hgq))
   |((with_reducible apply q_VOk);exact fun _ => ⟨rfl,rfl⟩)|(intro _;exact rfl)|((with_reducible apply q_CRB);kernel_rfl)|((with_reducible apply q_bt);simp only [bq])|((with_reducible apply q_eqN);rfl)|((with_reducible apply q_FE);exact rfl)|with_reducible (first|exact isByte_wrap _|exact isByte_nat _)|(simp only [hgq,bq];done)|omega|(dsimp only;omega))
  ·rfl
theorem refHeld_ok (L : Lay) (hL : LayFits L) (st : List Stp) (ov : Int) (hl : st.length ≤ 9223372036854775807) (ho : -9223372036854775808 ≤ ov ∧ ov ≤ 9223372036854775807) (nm : ByteArray) (l sp ac br bf af : Int) (h : fitErr L ⟨st, ov⟩ l sp ac br = 0) (hb : 0 ≤ bf ∧ bf ≤ 65536) (ha : 0 ≤ af ∧ af ≤ 65536) : OkV Tryz.prog 31 [vLay L, vR2 st ov, vS5 nm l sp ac br, .c (xI bf), .c (xI af)] [] (.tup [.c (rOcc (occL L st ov l sp ac br bf af)), .c (xI (runI L ⟨st, ov⟩ l sp ac br)), .c (xI 0)]) [] := by
 have hF := refFits_ok L hL st ov hl ho nm l sp ac br
 rw [h] at hF
 have i1 := in_ok bf 0 65536
 have i2 := in_ok af 0 65536
 have hP := passing_ok L hL st ov hl ho nm l sp ac br h
 have hR := ride_of h
 have hn2 := hR.n2
 have hn24 := hR.n24
 have hFT := fun i => spF_lt hR hb.1 ha.1 i
 have hFP := fun i h0 => ptF_lt hR hb.1 ha.1 i h0
 have hE1 := row_len (trv ⟨st, ov⟩).length fun k => rideT L ⟨st, ov⟩ l sp ac br (endA L (trv ⟨st, ov⟩) (k - 1))
 have hE2 : ∀ k, k < (trv ⟨st, ov⟩).length → (entL L ⟨st, ov⟩ l sp ac br (trv ⟨st, ov⟩).length).getD k 0 = entF L ⟨st, ov⟩ l sp ac br k := fun k hk => row_get hk
 have hL1 := row_len (trv ⟨st, ov⟩).length (levF L ⟨st, ov⟩ l sp ac br)
 have hL2 : ∀ k, k < (trv ⟨st, ov⟩).length → (levL L ⟨st, ov⟩ l sp ac br (trv ⟨st, ov⟩).length).getD k 0 = levF L ⟨st, ov⟩ l sp ac br k := fun k hk => row_get hk
 change (entL L ⟨st, ov⟩ l sp ac br (trv ⟨st, ov⟩).length).length = _ at hE1
 change (levL L ⟨st, ov⟩ l sp ac br (trv ⟨st, ov⟩).length).length = _ at hL1
 have hEb : ∀ k, k < (trv ⟨st, ov⟩).length → 0 ≤ entF L ⟨st, ov⟩ l sp ac br k ∧ entF L ⟨st, ov⟩ l sp ac br k ≤ 80000000 := fun k hk => hR.rng _ (endA_mono L _ (by omega))
 have hLb : ∀ k, k < (trv ⟨st, ov⟩).length → 0 ≤ levF L ⟨st, ov⟩ l sp ac br k ∧ levF L ⟨st, ov⟩ l sp ac br k ≤ 80000000 := fun k hk => hR.rng _ (lev_in hR hk).2
 have hrb : -1 ≤ runI L ⟨st, ov⟩ l sp ac br ∧ runI L ⟨st, ov⟩ l sp ac br ≤ 80001 := by
  have a := hR.rng _ (Nat.le_refl _)
  obtain ⟨b1, b2⟩ := Pl.cdiv_bracket (rideT L ⟨st, ov⟩ l sp ac br (endA L (trv ⟨st, ov⟩) ((trv ⟨st, ov⟩).length - 1))) 1000 (by omega)
  unfold runI
  omega
 have f0 : spF L ⟨st, ov⟩ l sp ac br bf 0 = -bf := rfl
 have f1 : ∀ i, 0 < i → i < (trv ⟨st, ov⟩).length → spF L ⟨st, ov⟩ l sp ac br bf i = entF L ⟨st, ov⟩ l sp ac br (i - 1) / 1000 - 16 := fun i h0 hi => by
  unfold spF; rw [if_neg (by omega), if_pos hi]
 have f2 : ∀ i, (trv ⟨st, ov⟩).length ≤ i → spF L ⟨st, ov⟩ l sp ac br bf i = entF L ⟨st, ov⟩ l sp ac br ((trv ⟨st, ov⟩).length - 1) / 1000 - 16 := fun i hi => by
  unfold spF; rw [if_neg (by omega), if_neg (by omega)]
 have t0 : ∀ i, i + 1 < (trv ⟨st, ov⟩).length → spT L ⟨st, ov⟩ l sp ac br af i = Pl.cdiv (levF L ⟨st, ov⟩ l sp ac br i) 1000 + 4 := fun i hi => by
  unfold spT; rw [if_pos hi]
 have t1 : ∀ i, i + 1 = (trv ⟨st, ov⟩).length → spT L ⟨st, ov⟩ l sp ac br af i = runI L ⟨st, ov⟩ l sp ac br + af := fun i hi => by
  unfold spT; rw [if_neg (by omega), if_pos hi]
 have t2 : ∀ i, (trv ⟨st, ov⟩).length ≤ i → spT L ⟨st, ov⟩ l sp ac br af i = runI L ⟨st, ov⟩ l sp ac br + 20 := fun i hi => by
  unfold spT; rw [if_neg (by omega), if_neg (by omega)]
 have p1 : ∀ i, 0 < i → i < (trv ⟨st, ov⟩).length → ptT L ⟨st, ov⟩ l sp ac br af i = spT L ⟨st, ov⟩ l sp ac br af (i - 1) := fun i h0 hi => by unfold ptT; rw [if_pos hi]
 have p2 : ∀ i, (trv ⟨st, ov⟩).length ≤ i → ptT L ⟨st, ov⟩ l sp ac br af i = spT L ⟨st, ov⟩ l sp ac br af i := fun i hi => by unfold ptT; rw [if_neg (by omega)]
 have hRt := hR.rt
 have hV := valid_of hRt.lay
 have hsx : ∀ i, i < st.length → Stp.ok L (st.getD i st0) = true := fun i hi => all_at hRt.ok hi
 have hNb : L.secs.length + L.pts.length ≤ 1000 := by have := hV.n2; have := hV.n3; omega
 have hJ := fun a b => joined_ok L a b hV
 have hst24 := hRt.len
 simp only at hst24
 have hgl := fun i => tabL_len L st (spF L ⟨st, ov⟩ l sp ac br bf) (spT L ⟨st, ov⟩ l sp ac br af) (ptT L ⟨st, ov⟩ l sp ac br af) i
 have hjn : ∀ i, 0 < i → i < st.length → ∃ k, joinL L (st.getD (i - 1) st0) (st.getD i st0) = some k ∧ -1 ≤ k.pt ∧ k.pt < L.pts.length := fun i h0 hi => join_at hRt h0 hi
 have eN : ((L.secs.length : Int) + L.pts.length).toNat = L.secs.length + L.pts.length := by omega
 unfold occL
 generalize entL L ⟨st, ov⟩ l sp ac br (trv ⟨st, ov⟩).length = es at *
 generalize levL L ⟨st, ov⟩ l sp ac br (trv ⟨st, ov⟩).length = lv at *
 generalize spF L ⟨st, ov⟩ l sp ac br bf = F at *
 generalize spT L ⟨st, ov⟩ l sp ac br af = T at *
 generalize ptT L ⟨st, ov⟩ l sp ac br af = P at *
 generalize runI L ⟨st, ov⟩ l sp ac br = run at *
 generalize entF L ⟨st, ov⟩ l sp ac br = E at *
 generalize levF L ⟨st, ov⟩ l sp ac br = V at *
 generalize hnn : (trv ⟨st, ov⟩).length = n at *
 clear hR h hV hRt
 unfold vLay at hF hP hJ ⊢
 refine X_fn mixedX Tryz.func31 rfl (by kernel_rfl) (Nat.le_of_ble_eq_true (by kernel_rfl)) (by kernel_rfl) rfl rfl (Nat.le_of_ble_eq_true rfl) rfl rfl ?_
 simp only [sl0, Nat.zero_add, Nat.reduceAdd]
 repeat' (first
  |with_reducible (first|refine q_and ?_ ?_|exact True.intro|exact TkEq.nil _|refine Red.o (by constructor) ?_|refine blockK_o' rfl ?_|refine LoopX_e' rfl ?_|assumption)
  |((with_reducible apply q_call);first|refine X_pure (hF) rfl ?_|refine X_pure (i1) rfl ?_|refine X_pure (hP) rfl ?_)
  |((with_reducible apply q_callG);refine X_pureG ((fun _ => i2)) rfl ?_ ?_)
  |((with_reducible apply q_W);refine W_two [0, 2] 1 3 [4, 5, 6] 3 (by kernel_rfl) rfl rfl rfl rfl ?_)
  |((with_reducible apply q_TB);kernel_rfl)
  |((with_reducible apply q_LB);exact LB_SS rfl)
  |((with_reducible apply q_RK);refine RK_SS rfl ?_)
  |((with_reducible apply q_CI);intro hbq;(try simp only [bq] at hbq);(try (exfalso;omega)))
  |with_reducible (first|refine W_seq ?_|refine W_block ?_)
  |((with_reducible apply q_cond);refine X_cond rfl ?_ ?_;all_goals (intro hbq;(try simp only [bq] at hbq);(try (exfalso;omega))))
  |refine Rex.o (by (with_reducible constructor);apply Eq.refl) ?_
  |(intro (hgq : (_ : Bool) = true);(try simp only [bq] at hgq))
  |(intro (hgq : (_ : Bool) = false);(try simp only [bq] at hgq))
  |((with_reducible apply q_VOk);exact fun _ => ⟨rfl,rfl⟩)|(intro _;exact rfl)|((with_reducible apply q_CRB);kernel_rfl)|((with_reducible apply q_bt);simp only [bq])|((with_reducible apply q_eqN);rfl)|((with_reducible apply q_FE);exact rfl)|with_reducible (first|exact isByte_wrap _|exact isByte_nat _)|(simp only [hgq,bq];done)|omega|(dsimp only;omega))
 all_goals (
  refine W_loopS (fun i : Nat => SS [sI 3 bf, sI 4 af, sC 5 (pB 0), sC 6 (pB 1), sC 14 (rInt es), sC 15 (rInt lv), sI 16 run, sI 18 ((L.secs.length : Int) + L.pts.length), sC 19 (pB 5), sI 20 ((n : Int) - 1), sI 21 (lastT T i), sI 22 i] [bLay L, bRte st ov, none, bHs (tabL L st F T P i), bOcc (tabL L st F T P i), some (.cells [.c (.arr 3 0 (L.secs.length + L.pts.length) (L.secs.length + L.pts.length)), .c (.arr 4 0 (L.secs.length + L.pts.length) (L.secs.length + L.pts.length))])]) (fun i => i ≤ st.length) (fun i => st.length - i) 0 ?_ (by omega) ?_
  ·
   refine X_weak rfl rfl rfl ?_ ?_ <;> repeat' (first|with_reducible (first|refine Wk.o (by constructor) ?_|refine q_and ?_ ?_|exact True.intro)|refine q_AgS rfl ?_ ?_|exact CLe.nil_tipS|exact CLe.nil_rowS|refine HLe.cells ?_ ?_|refine HLe.els ?_ ?_|refine SLe.cons ?_ ?_|exact (rfl : known _ = _)|with_reducible rfl|omega)
   all_goals first
    | omega
    | rfl
    | exact eN
    | (rw [eN]; rfl)
    | (rw [eN]; simp [tabL, usedO]; done)
    | (rw [hE1]; done)
  intro i hi
  have hTl := hgl i
  by_cases hil : i < st.length
  ·have s1 : 0 ≤ (st.getD (i : Int).toNat { sec := 0, dir := 0 }).sec ∧ (st.getD (i : Int).toNat { sec := 0, dir := 0 }).sec < L.secs.length := ⟨(ok_dir (hsx i hil)).1, (ok_dir (hsx i hil)).2.1⟩
   have e0 : tabL L st F T P (i + 1) = tabS L st F T P i (tabL L st F T P i) := rfl
   have hlt : lastT T (i + 1) = T i := rfl
   by_cases hi0 : i = 0
   ·have c1 : lv.getD (0 : Int).toNat 0 = V 0 := hL2 0 (by omega)
    have c2 := hLb 0 (by omega)
    have hU := refCeil_okV (lv.getD (0 : Int).toNat 0) 1000 (by omega) (by omega)
    have hub := Pl.cdiv_bracket (lv.getD (0 : Int).toNat 0) 1000 (by omega)
    have eT : Pl.cdiv (lv.getD (0 : Int).toNat 0) 1000 + 4 = T i := by rw [c1, hi0, t0 0 (by omega)]
    have eF : -bf = F i := by rw [hi0, f0]
    have hA1 := hadd_okU (tabL L st F T P i) (L.secs.length + L.pts.length) (st.getD (i : Int).toNat { sec := 0, dir := 0 }).sec (-bf) (Pl.cdiv (lv.getD (0 : Int).toNat 0) 1000 + 4) ⟨s1.1, by omega⟩ hTl hNb (by rw [eF, eT]; exact hFT i)
    have e1 : tabL L st F T P (i + 1) = addO (tabL L st F T P i) (st.getD (i : Int).toNat { sec := 0, dir := 0 }).sec.toNat (-bf) (Pl.cdiv (lv.getD (0 : Int).toNat 0) 1000 + 4) := by
     rw [e0, eF, eT, Int.toNat_natCast]; unfold tabS; rw [if_pos hi0]
    repeat' (first
     |with_reducible (first|refine q_and ?_ ?_|exact True.intro|exact TkEq.nil _|refine Red.o (by constructor) ?_|refine blockK_o' rfl ?_|refine LoopX_e' rfl ?_|assumption)
     |((with_reducible apply q_call);first|refine X_pure (hU) rfl ?_|refine X_call [5,3,4] (hA1) rfl rfl rfl rfl rfl rfl rfl rfl rfl rfl rfl rfl rfl ?_)
     |((with_reducible apply q_CI);intro hbq;(try simp only [bq] at hbq);(try (exfalso;omega)))
     |with_reducible (first|refine W_seq ?_|refine W_block ?_)
     |((with_reducible apply q_cond);refine X_cond rfl ?_ ?_;all_goals (intro hbq;(try simp only [bq] at hbq);(try (exfalso;omega))))
     |refine Rex.o (by (with_reducible constructor);apply Eq.refl) ?_
     |(intro (hgq : (_ : Bool) = true);(try simp only [bq] at hgq))
     |(intro (hgq : (_ : Bool) = false);(try simp only [bq] at hgq))
     |((with_reducible apply q_VOk);exact fun _ => ⟨rfl,rfl⟩)|(intro _;exact rfl)|((with_reducible apply q_CRB);kernel_rfl)|((with_reducible apply q_bt);simp only [bq])|((with_reducible apply q_eqN);rfl)|((with_reducible apply q_FE);exact rfl)|with_reducible (first|exact isByte_wrap _|exact isByte_nat _)|(simp only [hgq,bq];done)|omega|(dsimp only;omega))
    ·
     refine LoopK_n (i + 1) ?_ ((by omega)) (by (try dsimp only); omega)
     refine X_weak rfl rfl rfl ?_ ?_ <;> repeat' (first|with_reducible (first|refine Wk.o (by constructor) ?_|refine q_and ?_ ?_|exact True.intro)|refine q_AgS rfl ?_ ?_|exact CLe.nil_tipS|exact CLe.nil_rowS|refine HLe.cells ?_ ?_|refine HLe.els ?_ ?_|refine SLe.cons ?_ ?_|exact (rfl : known _ = _)|with_reducible rfl|omega)
     all_goals first
      | (rw [hlt]; exact eT)
      | rw [e1]
   ·have q1 : 0 < i := by omega
    obtain ⟨j, hj, hj1, hj2⟩ := hjn i q1 hil
    have eI : ((i : Int) - 1).toNat = i - 1 := by omega
    have hlp : lastT T i = T (i - 1) := if_neg hi0
    have hB := hJ (st.getD ((i : Int) - 1).toNat { sec := 0, dir := 0 }) (st.getD (i : Int).toNat { sec := 0, dir := 0 })
    rw [show joinL L (st.getD ((i : Int) - 1).toNat { sec := 0, dir := 0 }) (st.getD (i : Int).toNat { sec := 0, dir := 0 }) = some j by rw [eI]; exact hj] at hB
    simp only [Option.getD_some, Option.isSome_some] at hB
    have key : ∀ A B : Int, A = F i → B = T i → OkV Tryz.prog 60 [.c (pB 0), .c (xI (st.getD (i : Int).toNat { sec := 0, dir := 0 }).sec), .c (xI A), .c (xI B)] [bHull (L.secs.length + L.pts.length), bHs (tabL L st F T P i), bOcc (tabL L st F T P i)] (.tup []) [bHull (L.secs.length + L.pts.length), bHs (addO (tabL L st F T P i) (st.getD (i : Int).toNat { sec := 0, dir := 0 }).sec.toNat A B), bOcc (addO (tabL L st F T P i) (st.getD (i : Int).toNat { sec := 0, dir := 0 }).sec.toNat A B)] := fun A B hA hB => hadd_okU _ _ _ _ _ ⟨s1.1, by omega⟩ hTl hNb (by rw [hA, hB]; exact hFT i)
    have hAl : ∀ A B : Int, (addO (tabL L st F T P i) (st.getD (i : Int).toNat { sec := 0, dir := 0 }).sec.toNat A B).length = L.secs.length + L.pts.length := fun A B => by rw [addO_len, hTl]
    have key2 : ¬ j.pt < 0 → ∀ A B Q : Int, A = F i → Q = P i → OkV Tryz.prog 60 [.c (pB 0), .c (xI ((L.secs.length : Int) + j.pt)), .c (xI A), .c (xI Q)] [bHull (L.secs.length + L.pts.length), bHs (addO (tabL L st F T P i) (st.getD (i : Int).toNat { sec := 0, dir := 0 }).sec.toNat A B), bOcc (addO (tabL L st F T P i) (st.getD (i : Int).toNat { sec := 0, dir := 0 }).sec.toNat A B)] (.tup []) [bHull (L.secs.length + L.pts.length), bHs (addO (addO (tabL L st F T P i) (st.getD (i : Int).toNat { sec := 0, dir := 0 }).sec.toNat A B) ((L.secs.length : Int) + j.pt).toNat A Q), bOcc (addO (addO (tabL L st F T P i) (st.getD (i : Int).toNat { sec := 0, dir := 0 }).sec.toNat A B) ((L.secs.length : Int) + j.pt).toNat A Q)] := fun hp A B Q hA hQ => hadd_okU _ _ _ _ _ ⟨by omega, by omega⟩ (hAl A B) hNb (by rw [hA, hQ]; exact hFP i q1)
    have e1 : j.pt < 0 → ∀ A B : Int, A = F i → B = T i → tabL L st F T P (i + 1) = addO (tabL L st F T P i) (st.getD (i : Int).toNat { sec := 0, dir := 0 }).sec.toNat A B := fun hp A B hA hB => by
     rw [e0, hA, hB, Int.toNat_natCast]; unfold tabS; rw [if_neg hi0, hj]; simp only; rw [if_pos hp]
    have e2 : ¬ j.pt < 0 → ∀ A B Q : Int, A = F i → B = T i → Q = P i → tabL L st F T P (i + 1) = addO (addO (tabL L st F T P i) (st.getD (i : Int).toNat { sec := 0, dir := 0 }).sec.toNat A B) ((L.secs.length : Int) + j.pt).toNat A Q := fun hp A B Q hA hB hQ => by
     rw [e0, hA, hB, hQ, Int.toNat_natCast]; unfold tabS; rw [if_neg hi0, hj]; simp only; rw [if_neg hp, show ((L.secs.length : Int) + j.pt).toNat = L.secs.length + j.pt.toNat by omega]
    rcases Nat.lt_trichotomy (i + 1) n with hin | hin | hin
    ·have c1 : es.getD ((i : Int) - 1).toNat 0 = E (i - 1) := by rw [eI]; exact hE2 (i - 1) (by omega)
     have c2 : lv.getD (i : Int).toNat 0 = V i := hL2 i (by omega)
     have c3 := hEb (i - 1) (by omega)
     have c4 := hLb i (by omega)
     have hD := refFloor_okV (es.getD ((i : Int) - 1).toNat 0) 1000 (by omega) (by omega)
     have hU := refCeil_okV (lv.getD (i : Int).toNat 0) 1000 (by omega) (by omega)
     have hub := Pl.cdiv_bracket (lv.getD (i : Int).toNat 0) 1000 (by omega)
     have eF : es.getD ((i : Int) - 1).toNat 0 / 1000 - 16 = F i := by rw [c1, f1 i q1 (by omega)]
     have eT : Pl.cdiv (lv.getD (i : Int).toNat 0) 1000 + 4 = T i := by rw [c2, t0 i hin]
     have eP : lastT T i = P i := by rw [hlp, p1 i q1 (by omega)]
     have hA1 := key _ _ eF eT
     by_cases hjp : j.pt < 0
     ·have ee := e1 hjp _ _ eF eT
      clear key key2 e1 e2
      repeat' (first
       |with_reducible (first|refine q_and ?_ ?_|exact True.intro|exact TkEq.nil _|refine Red.o (by constructor) ?_|refine blockK_o' rfl ?_|refine LoopX_e' rfl ?_|assumption)
       |((with_reducible apply q_call);first|refine X_pure (hD) rfl ?_|refine X_pure (hU) rfl ?_|refine X_pure (hB) rfl ?_|refine X_call [5,3,4] (hA1) rfl rfl rfl rfl rfl rfl rfl rfl rfl rfl rfl rfl rfl ?_)
       |((with_reducible apply q_CI);intro hbq;(try simp only [bq] at hbq);(try (exfalso;omega)))
       |with_reducible (first|refine W_seq ?_|refine W_block ?_)
       |((with_reducible apply q_cond);refine X_cond rfl ?_ ?_;all_goals (intro hbq;(try simp only [bq] at hbq);(try (exfalso;omega))))
       |refine Rex.o (by (with_reducible constructor);apply Eq.refl) ?_
       |(intro (hgq : (_ : Bool) = true);(try simp only [bq] at hgq))
       |(intro (hgq : (_ : Bool) = false);(try simp only [bq] at hgq))
       |((with_reducible apply q_VOk);exact fun _ => ⟨rfl,rfl⟩)|(intro _;exact rfl)|((with_reducible apply q_CRB);kernel_rfl)|((with_reducible apply q_bt);simp only [bq])|((with_reducible apply q_eqN);rfl)|((with_reducible apply q_FE);exact rfl)|with_reducible (first|exact isByte_wrap _|exact isByte_nat _)|(simp only [hgq,bq];done)|omega|(dsimp only;omega))
      ·
       refine LoopK_n (i + 1) ?_ ((by omega)) (by (try dsimp only); omega)
       refine X_weak rfl rfl rfl ?_ ?_ <;> repeat' (first|with_reducible (first|refine Wk.o (by constructor) ?_|refine q_and ?_ ?_|exact True.intro)|refine q_AgS rfl ?_ ?_|exact CLe.nil_tipS|exact CLe.nil_rowS|refine HLe.cells ?_ ?_|refine HLe.els ?_ ?_|refine SLe.cons ?_ ?_|exact (rfl : known _ = _)|with_reducible rfl|omega)
       all_goals first
        | (rw [hlt]; exact eT)
        | rw [ee]
     ·have ee := e2 hjp _ _ _ eF eT eP
      have hA2 := key2 hjp _ (Pl.cdiv (lv.getD (i : Int).toNat 0) 1000 + 4) _ eF eP
      clear key key2 e1 e2
      repeat' (first
       |with_reducible (first|refine q_and ?_ ?_|exact True.intro|exact TkEq.nil _|refine Red.o (by constructor) ?_|refine blockK_o' rfl ?_|refine LoopX_e' rfl ?_|assumption)
       |((with_reducible apply q_call);first|refine X_pure (hD) rfl ?_|refine X_pure (hU) rfl ?_|refine X_pure (hB) rfl ?_|refine X_call [5,3,4] (hA1) rfl rfl rfl rfl rfl rfl rfl rfl rfl rfl rfl rfl rfl ?_|refine X_call [5,3,4] (hA2) rfl rfl rfl rfl rfl rfl rfl rfl rfl rfl rfl rfl rfl ?_)
       |((with_reducible apply q_CI);intro hbq;(try simp only [bq] at hbq);(try (exfalso;omega)))
       |with_reducible (first|refine W_seq ?_|refine W_block ?_)
       |((with_reducible apply q_cond);refine X_cond rfl ?_ ?_;all_goals (intro hbq;(try simp only [bq] at hbq);(try (exfalso;omega))))
       |refine Rex.o (by (with_reducible constructor);apply Eq.refl) ?_
       |(intro (hgq : (_ : Bool) = true);(try simp only [bq] at hgq))
       |(intro (hgq : (_ : Bool) = false);(try simp only [bq] at hgq))
       |((with_reducible apply q_VOk);exact fun _ => ⟨rfl,rfl⟩)|(intro _;exact rfl)|((with_reducible apply q_CRB);kernel_rfl)|((with_reducible apply q_bt);simp only [bq])|((with_reducible apply q_eqN);rfl)|((with_reducible apply q_FE);exact rfl)|with_reducible (first|exact isByte_wrap _|exact isByte_nat _)|(simp only [hgq,bq];done)|omega|(dsimp only;omega))
      ·
       refine LoopK_n (i + 1) ?_ ((by omega)) (by (try dsimp only); omega)
       refine X_weak rfl rfl rfl ?_ ?_ <;> repeat' (first|with_reducible (first|refine Wk.o (by constructor) ?_|refine q_and ?_ ?_|exact True.intro)|refine q_AgS rfl ?_ ?_|exact CLe.nil_tipS|exact CLe.nil_rowS|refine HLe.cells ?_ ?_|refine HLe.els ?_ ?_|refine SLe.cons ?_ ?_|exact (rfl : known _ = _)|with_reducible rfl|omega)
       all_goals first
        | (rw [hlt]; exact eT)
        | rw [ee]
    ·have c1 : es.getD ((n : Int) - 1 - 1).toNat 0 = E (n - 2) := by rw [show ((n : Int) - 1 - 1).toNat = n - 2 by omega]; exact hE2 (n - 2) (by omega)
     have c3 := hEb (n - 2) (by omega)
     have hD := refFloor_okV (es.getD ((n : Int) - 1 - 1).toNat 0) 1000 (by omega) (by omega)
     have eF : es.getD ((n : Int) - 1 - 1).toNat 0 / 1000 - 16 = F i := by rw [c1, f1 i q1 (by omega), show i - 1 = n - 2 by omega]
     have eT : run + af = T i := (t1 i hin).symm
     have eP : lastT T i = P i := by rw [hlp, p1 i q1 (by omega)]
     have hA1 := key _ _ eF eT
     by_cases hjp : j.pt < 0
     ·have ee := e1 hjp _ _ eF eT
      clear key key2 e1 e2
      repeat' (first
       |with_reducible (first|refine q_and ?_ ?_|exact True.intro|exact TkEq.nil _|refine Red.o (by constructor) ?_|refine blockK_o' rfl ?_|refine LoopX_e' rfl ?_|assumption)
       |((with_reducible apply q_call);first|refine X_pure (hD) rfl ?_|refine X_pure (hB) rfl ?_|refine X_call [5,3,4] (hA1) rfl rfl rfl rfl rfl rfl rfl rfl rfl rfl rfl rfl rfl ?_)
       |((with_reducible apply q_CI);intro hbq;(try simp only [bq] at hbq);(try (exfalso;omega)))
       |with_reducible (first|refine W_seq ?_|refine W_block ?_)
       |((with_reducible apply q_cond);refine X_cond rfl ?_ ?_;all_goals (intro hbq;(try simp only [bq] at hbq);(try (exfalso;omega))))
       |refine Rex.o (by (with_reducible constructor);apply Eq.refl) ?_
       |(intro (hgq : (_ : Bool) = true);(try simp only [bq] at hgq))
       |(intro (hgq : (_ : Bool) = false);(try simp only [bq] at hgq))
       |((with_reducible apply q_VOk);exact fun _ => ⟨rfl,rfl⟩)|(intro _;exact rfl)|((with_reducible apply q_CRB);kernel_rfl)|((with_reducible apply q_bt);simp only [bq])|((with_reducible apply q_eqN);rfl)|((with_reducible apply q_FE);exact rfl)|with_reducible (first|exact isByte_wrap _|exact isByte_nat _)|(simp only [hgq,bq];done)|omega|(dsimp only;omega))
      ·
       refine LoopK_n (i + 1) ?_ ((by omega)) (by (try dsimp only); omega)
       refine X_weak rfl rfl rfl ?_ ?_ <;> repeat' (first|with_reducible (first|refine Wk.o (by constructor) ?_|refine q_and ?_ ?_|exact True.intro)|refine q_AgS rfl ?_ ?_|exact CLe.nil_tipS|exact CLe.nil_rowS|refine HLe.cells ?_ ?_|refine HLe.els ?_ ?_|refine SLe.cons ?_ ?_|exact (rfl : known _ = _)|with_reducible rfl|omega)
       all_goals first
        | (rw [hlt]; exact eT)
        | rw [ee]
     ·have ee := e2 hjp _ _ _ eF eT eP
      have hA2 := key2 hjp _ (run + af) _ eF eP
      clear key key2 e1 e2
      repeat' (first
       |with_reducible (first|refine q_and ?_ ?_|exact True.intro|exact TkEq.nil _|refine Red.o (by constructor) ?_|refine blockK_o' rfl ?_|refine LoopX_e' rfl ?_|assumption)
       |((with_reducible apply q_call);first|refine X_pure (hD) rfl ?_|refine X_pure (hB) rfl ?_|refine X_call [5,3,4] (hA1) rfl rfl rfl rfl rfl rfl rfl rfl rfl rfl rfl rfl rfl ?_|refine X_call [5,3,4] (hA2) rfl rfl rfl rfl rfl rfl rfl rfl rfl rfl rfl rfl rfl ?_)
       |((with_reducible apply q_CI);intro hbq;(try simp only [bq] at hbq);(try (exfalso;omega)))
       |with_reducible (first|refine W_seq ?_|refine W_block ?_)
       |((with_reducible apply q_cond);refine X_cond rfl ?_ ?_;all_goals (intro hbq;(try simp only [bq] at hbq);(try (exfalso;omega))))
       |refine Rex.o (by (with_reducible constructor);apply Eq.refl) ?_
       |(intro (hgq : (_ : Bool) = true);(try simp only [bq] at hgq))
       |(intro (hgq : (_ : Bool) = false);(try simp only [bq] at hgq))
       |((with_reducible apply q_VOk);exact fun _ => ⟨rfl,rfl⟩)|(intro _;exact rfl)|((with_reducible apply q_CRB);kernel_rfl)|((with_reducible apply q_bt);simp only [bq])|((with_reducible apply q_eqN);rfl)|((with_reducible apply q_FE);exact rfl)|with_reducible (first|exact isByte_wrap _|exact isByte_nat _)|(simp only [hgq,bq];done)|omega|(dsimp only;omega))
      ·
       refine LoopK_n (i + 1) ?_ ((by omega)) (by (try dsimp only); omega)
       refine X_weak rfl rfl rfl ?_ ?_ <;> repeat' (first|with_reducible (first|refine Wk.o (by constructor) ?_|refine q_and ?_ ?_|exact True.intro)|refine q_AgS rfl ?_ ?_|exact CLe.nil_tipS|exact CLe.nil_rowS|refine HLe.cells ?_ ?_|refine HLe.els ?_ ?_|refine SLe.cons ?_ ?_|exact (rfl : known _ = _)|with_reducible rfl|omega)
       all_goals first
        | (rw [hlt]; exact eT)
        | rw [ee]
    ·have c1 : es.getD ((n : Int) - 1).toNat 0 = E (n - 1) := by rw [show ((n : Int) - 1).toNat = n - 1 by omega]; exact hE2 (n - 1) (by omega)
     have c3 := hEb (n - 1) (by omega)
     have hD := refFloor_okV (es.getD ((n : Int) - 1).toNat 0) 1000 (by omega) (by omega)
     have eF : es.getD ((n : Int) - 1).toNat 0 / 1000 - 16 = F i := by rw [c1, f2 i (by omega)]
     have eT : run + 20 = T i := (t2 i (by omega)).symm
     have eP : run + 20 = P i := by rw [p2 i (by omega), ← eT]
     have hA1 := key _ _ eF eT
     by_cases hjp : j.pt < 0
     ·have ee := e1 hjp _ _ eF eT
      clear key key2 e1 e2
      repeat' (first
       |with_reducible (first|refine q_and ?_ ?_|exact True.intro|exact TkEq.nil _|refine Red.o (by constructor) ?_|refine blockK_o' rfl ?_|refine LoopX_e' rfl ?_|assumption)
       |((with_reducible apply q_call);first|refine X_pure (hD) rfl ?_|refine X_pure (hB) rfl ?_|refine X_call [5,3,4] (hA1) rfl rfl rfl rfl rfl rfl rfl rfl rfl rfl rfl rfl rfl ?_)
       |((with_reducible apply q_CI);intro hbq;(try simp only [bq] at hbq);(try (exfalso;omega)))
       |with_reducible (first|refine W_seq ?_|refine W_block ?_)
       |((with_reducible apply q_cond);refine X_cond rfl ?_ ?_;all_goals (intro hbq;(try simp only [bq] at hbq);(try (exfalso;omega))))
       |refine Rex.o (by (with_reducible constructor);apply Eq.refl) ?_
       |(intro (hgq : (_ : Bool) = true);(try simp only [bq] at hgq))
       |(intro (hgq : (_ : Bool) = false);(try simp only [bq] at hgq))
       |((with_reducible apply q_VOk);exact fun _ => ⟨rfl,rfl⟩)|(intro _;exact rfl)|((with_reducible apply q_CRB);kernel_rfl)|((with_reducible apply q_bt);simp only [bq])|((with_reducible apply q_eqN);rfl)|((with_reducible apply q_FE);exact rfl)|with_reducible (first|exact isByte_wrap _|exact isByte_nat _)|(simp only [hgq,bq];done)|omega|(dsimp only;omega))
      ·
       refine LoopK_n (i + 1) ?_ ((by omega)) (by (try dsimp only); omega)
       refine X_weak rfl rfl rfl ?_ ?_ <;> repeat' (first|with_reducible (first|refine Wk.o (by constructor) ?_|refine q_and ?_ ?_|exact True.intro)|refine q_AgS rfl ?_ ?_|exact CLe.nil_tipS|exact CLe.nil_rowS|refine HLe.cells ?_ ?_|refine HLe.els ?_ ?_|refine SLe.cons ?_ ?_|exact (rfl : known _ = _)|with_reducible rfl|omega)
       all_goals first
        | (rw [hlt]; exact eT)
        | rw [ee]
     ·have ee := e2 hjp _ _ _ eF eT eP
      have hA2 := key2 hjp _ (run + 20) _ eF eP
      clear key key2 e1 e2
      repeat' (first
       |with_reducible (first|refine q_and ?_ ?_|exact True.intro|exact TkEq.nil _|refine Red.o (by constructor) ?_|refine blockK_o' rfl ?_|refine LoopX_e' rfl ?_|assumption)
       |((with_reducible apply q_call);first|refine X_pure (hD) rfl ?_|refine X_pure (hB) rfl ?_|refine X_call [5,3,4] (hA1) rfl rfl rfl rfl rfl rfl rfl rfl rfl rfl rfl rfl rfl ?_|refine X_call [5,3,4] (hA2) rfl rfl rfl rfl rfl rfl rfl rfl rfl rfl rfl rfl rfl ?_)
       |((with_reducible apply q_CI);intro hbq;(try simp only [bq] at hbq);(try (exfalso;omega)))
       |with_reducible (first|refine W_seq ?_|refine W_block ?_)
       |((with_reducible apply q_cond);refine X_cond rfl ?_ ?_;all_goals (intro hbq;(try simp only [bq] at hbq);(try (exfalso;omega))))
       |refine Rex.o (by (with_reducible constructor);apply Eq.refl) ?_
       |(intro (hgq : (_ : Bool) = true);(try simp only [bq] at hgq))
       |(intro (hgq : (_ : Bool) = false);(try simp only [bq] at hgq))
       |((with_reducible apply q_VOk);exact fun _ => ⟨rfl,rfl⟩)|(intro _;exact rfl)|((with_reducible apply q_CRB);kernel_rfl)|((with_reducible apply q_bt);simp only [bq])|((with_reducible apply q_eqN);rfl)|((with_reducible apply q_FE);exact rfl)|with_reducible (first|exact isByte_wrap _|exact isByte_nat _)|(simp only [hgq,bq];done)|omega|(dsimp only;omega))
      ·
       refine LoopK_n (i + 1) ?_ ((by omega)) (by (try dsimp only); omega)
       refine X_weak rfl rfl rfl ?_ ?_ <;> repeat' (first|with_reducible (first|refine Wk.o (by constructor) ?_|refine q_and ?_ ?_|exact True.intro)|refine q_AgS rfl ?_ ?_|exact CLe.nil_tipS|exact CLe.nil_rowS|refine HLe.cells ?_ ?_|refine HLe.els ?_ ?_|refine SLe.cons ?_ ?_|exact (rfl : known _ = _)|with_reducible rfl|omega)
       all_goals first
        | (rw [hlt]; exact eT)
        | rw [ee]
  ·have hie : i = st.length := by omega
   subst hie
   generalize tabL L st F T P st.length = t at *
   generalize hNN : L.secs.length + L.pts.length = N at *
   have hNI : (L.secs.length : Int) + L.pts.length = N := by omega
   rw [hNI]
   repeat' (first
    |with_reducible (first|refine q_and ?_ ?_|exact True.intro|exact TkEq.nil _|refine Red.o (by constructor) ?_|refine blockK_o' rfl ?_|refine LoopX_e' rfl ?_|assumption)
    |((with_reducible apply q_CI);intro hbq;(try simp only [bq] at hbq);(try (exfalso;omega)))
    |with_reducible (first|refine W_seq ?_|refine W_block ?_)
    |((with_reducible apply q_cond);refine X_cond rfl ?_ ?_;all_goals (intro hbq;(try simp only [bq] at hbq);(try (exfalso;omega))))
    |refine Rex.o (by (with_reducible constructor);apply Eq.refl) ?_
    |(intro (hgq : (_ : Bool) = true);(try simp only [bq] at hgq))
    |(intro (hgq : (_ : Bool) = false);(try simp only [bq] at hgq))
    |((with_reducible apply q_VOk);exact fun _ => ⟨rfl,rfl⟩)|(intro _;exact rfl)|((with_reducible apply q_CRB);kernel_rfl)|((with_reducible apply q_bt);simp only [bq])|((with_reducible apply q_eqN);rfl)|((with_reducible apply q_FE);exact rfl)|with_reducible (first|exact isByte_wrap _|exact isByte_nat _)|(simp only [hgq,bq];done)|omega|(dsimp only;omega))
   refine W_loopS (fun i : Nat => SS [sI 16 run, sI 18 N, sC 19 (pB 5), sC 27 (tOcc ((t.take i).filter usedO)), sI 28 i] [none, none, none, bHs t, bOcc t, some (.cells [.c (.arr 3 0 N N), .c (.arr 4 0 N N)])]) (fun i => i ≤ N) (fun i => N - i) 0 ?_ (by omega) ?_
   ·
    refine X_weak rfl rfl rfl ?_ ?_ <;> repeat' (first|with_reducible (first|refine Wk.o (by constructor) ?_|refine q_and ?_ ?_|exact True.intro)|refine q_AgS rfl ?_ ?_|exact CLe.nil_tipS|exact CLe.nil_rowS|refine HLe.cells ?_ ?_|refine HLe.els ?_ ?_|refine SLe.cons ?_ ?_|exact (rfl : known _ = _)|with_reducible rfl|omega)
    all_goals rfl
   intro i hi
   have hfl : ((t.take i).filter usedO).length ≤ 1000 := by
    have a := List.length_filter_le usedO (t.take i)
    rw [List.length_take] at a
    omega
   have hsn : i < t.length → (t.take (i + 1)).filter usedO = (t.take i).filter usedO ++ (if usedO (t.getD i ⟨0, 0, 0⟩) = true then [t.getD i ⟨0, 0, 0⟩] else []) := fun h => by
    rw [List.take_succ_eq_append_getElem h, List.filter_append, List.getD_eq_getElem?_getD, List.getElem?_eq_getElem h]
    simp only [Option.getD_some, List.filter_cons, List.filter_nil]
   have hml : (t.map usedO).length = N := by rw [List.length_map, hTl]
   by_cases hil2 : i < N
   ·have hmu : (t.map usedO).getD (i : Int).toNat false = usedO (t.getD i ⟨0, 0, 0⟩) := by
     simp [List.getD_eq_getElem?_getD, List.getElem?_map, List.getElem?_eq_getElem (show i < t.length by omega)]
    by_cases hu : usedO (t.getD i ⟨0, 0, 0⟩) = true
    ·have hm1 : (t.map usedO).getD (i : Int).toNat false = true := by rw [hmu, hu]
     repeat' (first
      |with_reducible (first|refine q_and ?_ ?_|exact True.intro|exact TkEq.nil _|refine Red.o (by constructor) ?_|refine blockK_o' rfl ?_|refine LoopX_e' rfl ?_|assumption)
      |((with_reducible apply q_CI);intro hbq;(try simp only [bq,and_true,true_and,and_false,false_and,or_true,true_or,or_false,false_or,not_true_eq_false,not_false_eq_true,Bool.true_eq_false,Bool.false_eq_true,hm1] at hbq);(try (exfalso;omega)))
      |((with_reducible apply q_cond);refine X_cond rfl ?_ ?_;all_goals (intro hbq;(try simp only [bq,and_true,true_and,and_false,false_and,or_true,true_or,or_false,false_or,not_true_eq_false,not_false_eq_true,Bool.true_eq_false,Bool.false_eq_true,hm1] at hbq);(try (exfalso;omega))))
      |((with_reducible apply q_CI);intro hbq;(try simp only [bq] at hbq);(try (exfalso;omega)))
      |with_reducible (first|refine W_seq ?_|refine W_block ?_)
      |((with_reducible apply q_cond);refine X_cond rfl ?_ ?_;all_goals (intro hbq;(try simp only [bq] at hbq);(try (exfalso;omega))))
      |refine Rex.o (by (with_reducible constructor);apply Eq.refl) ?_
      |(intro (hgq : (_ : Bool) = true);(try simp only [bq] at hgq))
      |(intro (hgq : (_ : Bool) = false);(try simp only [bq] at hgq))
      |((with_reducible apply q_VOk);exact fun _ => ⟨rfl,rfl⟩)|(intro _;exact rfl)|((with_reducible apply q_CRB);kernel_rfl)|((with_reducible apply q_bt);simp only [bq])|((with_reducible apply q_eqN);rfl)|((with_reducible apply q_FE);exact rfl)|with_reducible (first|exact isByte_wrap _|exact isByte_nat _)|(simp only [hgq,bq];done)|omega|(dsimp only;omega))
     ·
      refine LoopK_n (i + 1) ?_ ((by omega)) (by (try dsimp only); omega)
      refine X_weak rfl rfl rfl ?_ ?_ <;> repeat' (first|with_reducible (first|refine Wk.o (by constructor) ?_|refine q_and ?_ ?_|exact True.intro)|refine q_AgS rfl ?_ ?_|exact CLe.nil_tipS|exact CLe.nil_rowS|refine HLe.cells ?_ ?_|refine HLe.els ?_ ?_|refine SLe.cons ?_ ?_|exact (rfl : known _ = _)|with_reducible rfl|omega)
      all_goals (rw [hsn (by omega), if_pos hu]; simp [fOcc, fI])
    ·have hm1 : (t.map usedO).getD (i : Int).toNat false = false := by rw [hmu]; simpa using hu
     repeat' (first
      |with_reducible (first|refine q_and ?_ ?_|exact True.intro|exact TkEq.nil _|refine Red.o (by constructor) ?_|refine blockK_o' rfl ?_|refine LoopX_e' rfl ?_|assumption)
      |((with_reducible apply q_CI);intro hbq;(try simp only [bq,and_true,true_and,and_false,false_and,or_true,true_or,or_false,false_or,not_true_eq_false,not_false_eq_true,Bool.true_eq_false,Bool.false_eq_true,hm1] at hbq);(try (exfalso;omega)))
      |((with_reducible apply q_cond);refine X_cond rfl ?_ ?_;all_goals (intro hbq;(try simp only [bq,and_true,true_and,and_false,false_and,or_true,true_or,or_false,false_or,not_true_eq_false,not_false_eq_true,Bool.true_eq_false,Bool.false_eq_true,hm1] at hbq);(try (exfalso;omega))))
      |((with_reducible apply q_CI);intro hbq;(try simp only [bq] at hbq);(try (exfalso;omega)))
      |with_reducible (first|refine W_seq ?_|refine W_block ?_)
      |((with_reducible apply q_cond);refine X_cond rfl ?_ ?_;all_goals (intro hbq;(try simp only [bq] at hbq);(try (exfalso;omega))))
      |refine Rex.o (by (with_reducible constructor);apply Eq.refl) ?_
      |(intro (hgq : (_ : Bool) = true);(try simp only [bq] at hgq))
      |(intro (hgq : (_ : Bool) = false);(try simp only [bq] at hgq))
      |((with_reducible apply q_VOk);exact fun _ => ⟨rfl,rfl⟩)|(intro _;exact rfl)|((with_reducible apply q_CRB);kernel_rfl)|((with_reducible apply q_bt);simp only [bq])|((with_reducible apply q_eqN);rfl)|((with_reducible apply q_FE);exact rfl)|with_reducible (first|exact isByte_wrap _|exact isByte_nat _)|(simp only [hgq,bq];done)|omega|(dsimp only;omega))
     ·
      refine LoopK_n (i + 1) ?_ ((by omega)) (by (try dsimp only); omega)
      refine X_weak rfl rfl rfl ?_ ?_ <;> repeat' (first|with_reducible (first|refine Wk.o (by constructor) ?_|refine q_and ?_ ?_|exact True.intro)|refine q_AgS rfl ?_ ?_|exact CLe.nil_tipS|exact CLe.nil_rowS|refine HLe.cells ?_ ?_|refine HLe.els ?_ ?_|refine SLe.cons ?_ ?_|exact (rfl : known _ = _)|with_reducible rfl|omega)
      all_goals (rw [hsn (by omega), if_neg hu]; simp)
   ·have hie : i = N := by omega
    subst hie
    rw [← hTl, List.take_length]
    repeat' (first
     |with_reducible (first|refine q_and ?_ ?_|exact True.intro|exact TkEq.nil _|refine Red.o (by constructor) ?_|refine blockK_o' rfl ?_|refine LoopX_e' rfl ?_|assumption)
     |((with_reducible apply q_CI);intro hbq;(try simp only [bq] at hbq);(try (exfalso;omega)))
     |with_reducible (first|refine W_seq ?_|refine W_block ?_)
     |((with_reducible apply q_cond);refine X_cond rfl ?_ ?_;all_goals (intro hbq;(try simp only [bq] at hbq);(try (exfalso;omega))))
     |refine Rex.o (by (with_reducible constructor);apply Eq.refl) ?_
     |(intro (hgq : (_ : Bool) = true);(try simp only [bq] at hgq))
     |(intro (hgq : (_ : Bool) = false);(try simp only [bq] at hgq))
     |((with_reducible apply q_VOk);exact fun _ => ⟨rfl,rfl⟩)|(intro _;exact rfl)|((with_reducible apply q_CRB);kernel_rfl)|((with_reducible apply q_bt);simp only [bq])|((with_reducible apply q_eqN);rfl)|((with_reducible apply q_FE);exact rfl)|with_reducible (first|exact isByte_wrap _|exact isByte_nat _)|(simp only [hgq,bq];done)|omega|(dsimp only;omega))
    ·rfl
  )
theorem refStairs_bad (L : Lay) (hL : LayFits L) (st : List Stp) (ov : Int) (hl : st.length ≤ 9223372036854775807) (ho : -9223372036854775808 ≤ ov ∧ ov ≤ 9223372036854775807) (nm : ByteArray) (l sp ac br : Int) (h : ¬ fitErr L ⟨st, ov⟩ l sp ac br = 0) : OkV Tryz.prog 29 [vLay L, vR2 st ov, vS5 nm l sp ac br] [] (.tup [.c (rOcc []), .c (xI 0), .c (xI (fitErr L ⟨st, ov⟩ l sp ac br))]) [] := by
 have he : heldErr L ⟨st, ov⟩ l sp ac br 0 0 = fitErr L ⟨st, ov⟩ l sp ac br := if_pos h
 have hF := refHeld_bad L hL st ov hl ho nm l sp ac br 0 0 (by rw [he]; exact h)
 rw [he] at hF
 unfold vLay at hF ⊢
 refine X_fn mixedX Tryz.func29 rfl (by kernel_rfl) (Nat.le_of_ble_eq_true (by kernel_rfl)) (by kernel_rfl) rfl rfl (Nat.le_of_ble_eq_true rfl) rfl rfl ?_
 simp only [sl0, Nat.zero_add, Nat.reduceAdd]
 repeat' (first
  |with_reducible (first|refine q_and ?_ ?_|exact True.intro|exact TkEq.nil _|refine Red.o (by constructor) ?_|refine blockK_o' rfl ?_|refine LoopX_e' rfl ?_|assumption)
  |((with_reducible apply q_call);refine X_pure (hF) rfl ?_)
  |((with_reducible apply q_CI);intro hbq;(try simp only [bq] at hbq);(try (exfalso;omega)))
  |with_reducible (first|refine W_seq ?_|refine W_block ?_)
  |((with_reducible apply q_cond);refine X_cond rfl ?_ ?_;all_goals (intro hbq;(try simp only [bq] at hbq);(try (exfalso;omega))))
  |refine Rex.o (by (with_reducible constructor);apply Eq.refl) ?_
  |(intro (hgq : (_ : Bool) = true);(try simp only [bq] at hgq))
  |(intro (hgq : (_ : Bool) = false);(try simp only [bq] at hgq))
  |((with_reducible apply q_VOk);exact fun _ => ⟨rfl,rfl⟩)|(intro _;exact rfl)|((with_reducible apply q_CRB);kernel_rfl)|((with_reducible apply q_bt);simp only [bq])|((with_reducible apply q_eqN);rfl)|((with_reducible apply q_FE);exact rfl)|with_reducible (first|exact isByte_wrap _|exact isByte_nat _)|(simp only [hgq,bq];done)|omega|(dsimp only;omega))
 all_goals repeat' (first|with_reducible (first|refine Wk.o (by constructor) ?_|refine q_and ?_ ?_|exact True.intro)|refine VEq.c ?_|refine VEq.agg ?_|refine VEq.tup ?_|refine TkEq.cells ?_ ?_|refine TkEq.els ?_ ?_|refine SEqL.cons ?_ ?_|refine TEqL.agg ?_ ?_|refine CEq.rows ?_|refine CEq.int ?_|rfl|omega)
theorem refStairs_ok (L : Lay) (hL : LayFits L) (st : List Stp) (ov : Int) (hl : st.length ≤ 9223372036854775807) (ho : -9223372036854775808 ≤ ov ∧ ov ≤ 9223372036854775807) (nm : ByteArray) (l sp ac br : Int) (h : fitErr L ⟨st, ov⟩ l sp ac br = 0) : OkV Tryz.prog 29 [vLay L, vR2 st ov, vS5 nm l sp ac br] [] (.tup [.c (rOcc (occL L st ov l sp ac br 0 0)), .c (xI (runI L ⟨st, ov⟩ l sp ac br)), .c (xI 0)]) [] := by
 have hF := refHeld_ok L hL st ov hl ho nm l sp ac br 0 0 h (by omega) (by omega)
 generalize occL L st ov l sp ac br 0 0 = t at *
 unfold vLay at hF ⊢
 refine X_fn mixedX Tryz.func29 rfl (by kernel_rfl) (Nat.le_of_ble_eq_true (by kernel_rfl)) (by kernel_rfl) rfl rfl (Nat.le_of_ble_eq_true rfl) rfl rfl ?_
 simp only [sl0, Nat.zero_add, Nat.reduceAdd]
 repeat' (first
  |with_reducible (first|refine q_and ?_ ?_|exact True.intro|exact TkEq.nil _|refine Red.o (by constructor) ?_|refine blockK_o' rfl ?_|refine LoopX_e' rfl ?_|assumption)
  |((with_reducible apply q_call);refine X_pure (hF) rfl ?_)
  |((with_reducible apply q_CI);intro hbq;(try simp only [bq] at hbq);(try (exfalso;omega)))
  |with_reducible (first|refine W_seq ?_|refine W_block ?_)
  |((with_reducible apply q_cond);refine X_cond rfl ?_ ?_;all_goals (intro hbq;(try simp only [bq] at hbq);(try (exfalso;omega))))
  |refine Rex.o (by (with_reducible constructor);apply Eq.refl) ?_
  |(intro (hgq : (_ : Bool) = true);(try simp only [bq] at hgq))
  |(intro (hgq : (_ : Bool) = false);(try simp only [bq] at hgq))
  |((with_reducible apply q_VOk);exact fun _ => ⟨rfl,rfl⟩)|(intro _;exact rfl)|((with_reducible apply q_CRB);kernel_rfl)|((with_reducible apply q_bt);simp only [bq])|((with_reducible apply q_eqN);rfl)|((with_reducible apply q_FE);exact rfl)|with_reducible (first|exact isByte_wrap _|exact isByte_nat _)|(simp only [hgq,bq];done)|omega|(dsimp only;omega))
 all_goals repeat' (first|with_reducible (first|refine Wk.o (by constructor) ?_|refine q_and ?_ ?_|exact True.intro)|refine VEq.c ?_|refine VEq.agg ?_|refine VEq.tup ?_|refine TkEq.cells ?_ ?_|refine TkEq.els ?_ ?_|refine SEqL.cons ?_ ?_|refine TEqL.agg ?_ ?_|refine CEq.rows ?_|refine CEq.int ?_|rfl|omega)
theorem same_int_ok (l : List Int) (hl : l.length ≤ 9223372036854775807) : OkV Tryz.prog 32 [.c (rInt l), .c (rInt l)] [] (vB true) [] := by
 refine X_fnP mixedX Tryz.func32 rfl (by kernel_rfl) (Nat.le_of_ble_eq_true (by kernel_rfl)) (by kernel_rfl) rfl rfl ?_
 simp only [sl0, Nat.zero_add, Nat.reduceAdd]
 repeat' (first
  |with_reducible (first|refine q_and ?_ ?_|exact True.intro|exact TkEq.nil _|refine Red.o (by constructor) ?_|refine blockK_o' rfl ?_|refine LoopX_e' rfl ?_|assumption)
  |((with_reducible apply q_CI);intro hbq;(try simp only [bq] at hbq);(try (exfalso;omega)))
  |with_reducible (first|refine W_seq ?_|refine W_block ?_)
  |((with_reducible apply q_cond);refine X_cond rfl ?_ ?_;all_goals (intro hbq;(try simp only [bq] at hbq);(try (exfalso;omega))))
  |refine Rex.o (by (with_reducible constructor);apply Eq.refl) ?_
  |(intro (hgq : (_ : Bool) = true);(try simp only [bq] at hgq))
  |(intro (hgq : (_ : Bool) = false);(try simp only [bq] at hgq))
  |((with_reducible apply q_VOk);exact fun _ => ⟨rfl,rfl⟩)|(intro _;exact rfl)|((with_reducible apply q_CRB);kernel_rfl)|((with_reducible apply q_bt);simp only [bq])|((with_reducible apply q_eqN);rfl)|((with_reducible apply q_FE);exact rfl)|with_reducible (first|exact isByte_wrap _|exact isByte_nat _)|(simp only [hgq,bq];done)|omega|(dsimp only;omega))
 refine W_loopS (fun i : Nat => SS [sC 0 (rInt l), sC 1 (rInt l), sI 12 l.length, sI 13 i] []) (fun i => i ≤ l.length) (fun i => l.length - i) 0 ?_ (by omega) ?_
 ·
  refine X_weak rfl rfl rfl ?_ ?_ <;> repeat' (first|with_reducible (first|refine Wk.o (by constructor) ?_|refine q_and ?_ ?_|exact True.intro)|refine q_AgS rfl ?_ ?_|exact CLe.nil_tipS|exact CLe.nil_rowS|refine HLe.cells ?_ ?_|refine HLe.els ?_ ?_|refine SLe.cons ?_ ?_|exact (rfl : known _ = _)|with_reducible rfl|omega)
 ·intro i hi
  repeat' (first
   |with_reducible (first|refine q_and ?_ ?_|exact True.intro|exact TkEq.nil _|refine Red.o (by constructor) ?_|refine blockK_o' rfl ?_|refine LoopX_e' rfl ?_|assumption)
   |((with_reducible apply q_CI);intro hbq;(try simp only [bq] at hbq);(try (exfalso;omega)))
   |with_reducible (first|refine W_seq ?_|refine W_block ?_)
   |((with_reducible apply q_cond);refine X_cond rfl ?_ ?_;all_goals (intro hbq;(try simp only [bq] at hbq);(try (exfalso;omega))))
   |refine Rex.o (by (with_reducible constructor);apply Eq.refl) ?_
   |(intro (hgq : (_ : Bool) = true);(try simp only [bq] at hgq))
   |(intro (hgq : (_ : Bool) = false);(try simp only [bq] at hgq))
   |((with_reducible apply q_VOk);exact fun _ => ⟨rfl,rfl⟩)|(intro _;exact rfl)|((with_reducible apply q_CRB);kernel_rfl)|((with_reducible apply q_bt);simp only [bq])|((with_reducible apply q_eqN);rfl)|((with_reducible apply q_FE);exact rfl)|with_reducible (first|exact isByte_wrap _|exact isByte_nat _)|(simp only [hgq,bq];done)|omega|(dsimp only;omega))
  ·
   refine LoopK_n (i + 1) ?_ ((by omega)) (by (try dsimp only); omega)
   refine X_weak rfl rfl rfl ?_ ?_ <;> repeat' (first|with_reducible (first|refine Wk.o (by constructor) ?_|refine q_and ?_ ?_|exact True.intro)|refine q_AgS rfl ?_ ?_|exact CLe.nil_tipS|exact CLe.nil_rowS|refine HLe.cells ?_ ?_|refine HLe.els ?_ ?_|refine SLe.cons ?_ ?_|exact (rfl : known _ = _)|with_reducible rfl|omega)
  ·rfl
theorem same_occ_ok (l : List Occ) (hl : l.length ≤ 9223372036854775807) : OkV Tryz.prog 33 [.c (rOcc l), .c (rOcc l)] [] (vB true) [] := by
 refine X_fnP mixedX Tryz.func33 rfl (by kernel_rfl) (Nat.le_of_ble_eq_true (by kernel_rfl)) (by kernel_rfl) rfl rfl ?_
 simp only [sl0, Nat.zero_add, Nat.reduceAdd]
 repeat' (first
  |with_reducible (first|refine q_and ?_ ?_|exact True.intro|exact TkEq.nil _|refine Red.o (by constructor) ?_|refine blockK_o' rfl ?_|refine LoopX_e' rfl ?_|assumption)
  |((with_reducible apply q_CI);intro hbq;(try simp only [bq] at hbq);(try (exfalso;omega)))
  |with_reducible (first|refine W_seq ?_|refine W_block ?_)
  |((with_reducible apply q_cond);refine X_cond rfl ?_ ?_;all_goals (intro hbq;(try simp only [bq] at hbq);(try (exfalso;omega))))
  |refine Rex.o (by (with_reducible constructor);apply Eq.refl) ?_
  |(intro (hgq : (_ : Bool) = true);(try simp only [bq] at hgq))
  |(intro (hgq : (_ : Bool) = false);(try simp only [bq] at hgq))
  |((with_reducible apply q_VOk);exact fun _ => ⟨rfl,rfl⟩)|(intro _;exact rfl)|((with_reducible apply q_CRB);kernel_rfl)|((with_reducible apply q_bt);simp only [bq])|((with_reducible apply q_eqN);rfl)|((with_reducible apply q_FE);exact rfl)|with_reducible (first|exact isByte_wrap _|exact isByte_nat _)|(simp only [hgq,bq];done)|omega|(dsimp only;omega))
 refine W_loopS (fun i : Nat => SS [sC 0 (rOcc l), sC 1 (rOcc l), sI 12 l.length, sI 13 i] []) (fun i => i ≤ l.length) (fun i => l.length - i) 0 ?_ (by omega) ?_
 ·
  refine X_weak rfl rfl rfl ?_ ?_ <;> repeat' (first|with_reducible (first|refine Wk.o (by constructor) ?_|refine q_and ?_ ?_|exact True.intro)|refine q_AgS rfl ?_ ?_|exact CLe.nil_tipS|exact CLe.nil_rowS|refine HLe.cells ?_ ?_|refine HLe.els ?_ ?_|refine SLe.cons ?_ ?_|exact (rfl : known _ = _)|with_reducible rfl|omega)
 ·intro i hi
  repeat' (first
   |with_reducible (first|refine q_and ?_ ?_|exact True.intro|exact TkEq.nil _|refine Red.o (by constructor) ?_|refine blockK_o' rfl ?_|refine LoopX_e' rfl ?_|assumption)
   |((with_reducible apply q_CI);intro hbq;(try simp only [bq] at hbq);(try (exfalso;omega)))
   |with_reducible (first|refine W_seq ?_|refine W_block ?_)
   |((with_reducible apply q_cond);refine X_cond rfl ?_ ?_;all_goals (intro hbq;(try simp only [bq] at hbq);(try (exfalso;omega))))
   |refine Rex.o (by (with_reducible constructor);apply Eq.refl) ?_
   |(intro (hgq : (_ : Bool) = true);(try simp only [bq] at hgq))
   |(intro (hgq : (_ : Bool) = false);(try simp only [bq] at hgq))
   |((with_reducible apply q_VOk);exact fun _ => ⟨rfl,rfl⟩)|(intro _;exact rfl)|((with_reducible apply q_CRB);kernel_rfl)|((with_reducible apply q_bt);simp only [bq])|((with_reducible apply q_eqN);rfl)|((with_reducible apply q_FE);exact rfl)|with_reducible (first|exact isByte_wrap _|exact isByte_nat _)|(simp only [hgq,bq];done)|omega|(dsimp only;omega))
  ·
   refine LoopK_n (i + 1) ?_ ((by omega)) (by (try dsimp only); omega)
   refine X_weak rfl rfl rfl ?_ ?_ <;> repeat' (first|with_reducible (first|refine Wk.o (by constructor) ?_|refine q_and ?_ ?_|exact True.intro)|refine q_AgS rfl ?_ ?_|exact CLe.nil_tipS|exact CLe.nil_rowS|refine HLe.cells ?_ ?_|refine HLe.els ?_ ?_|refine SLe.cons ?_ ?_|exact (rfl : known _ = _)|with_reducible rfl|omega)
  ·rfl
section
variable (L : Lay) (hL : LayFits L) (st : List Stp) (ov : Int) (hl : st.length ≤ 9223372036854775807) (ho : -9223372036854775808 ≤ ov ∧ ov ≤ 9223372036854775807) (nm : ByteArray) (l sp ac br : Int)
include hL hl ho
theorem times_ex : ∃ a b : List Int, ∃ n e : Int, a.length ≤ 1000 ∧ b.length ≤ 1000 ∧ OkV Tryz.prog 27 [vLay L, vR2 st ov, vS5 nm l sp ac br] [] (.tup [.c (rInt a), .c (rInt b), .c (xI n), .c (xI e)]) [] ∧ OkV Tryz.prog 28 [vLay L, vR2 st ov, vS5 nm l sp ac br] [] (.tup [.c (rInt a), .c (rInt b), .c (xI n), .c (xI e)]) [] := by
 by_cases h : fitErr L ⟨st, ov⟩ l sp ac br = 0
 ·have hR := ride_of h
  have hn := hR.n24
  exact ⟨_, _, _, _, by rw [show (entL L ⟨st, ov⟩ l sp ac br (trv ⟨st, ov⟩).length).length = (trv ⟨st, ov⟩).length from row_len _ _]; omega, by rw [show (levL L ⟨st, ov⟩ l sp ac br (trv ⟨st, ov⟩).length).length = (trv ⟨st, ov⟩).length from row_len _ _]; omega, btimes_ok L hL st ov hl ho nm l sp ac br h, passing_ok L hL st ov hl ho nm l sp ac br h⟩
 ·exact ⟨_, _, _, _, by simp, by simp, btimes_bad L hL st ov hl ho nm l sp ac br h, passing_bad L hL st ov hl ho nm l sp ac br h⟩
omit hL hl ho in
theorem occ_len {bf af : Int} (h : fitErr L ⟨st, ov⟩ l sp ac br = 0) : (occL L st ov l sp ac br bf af).length ≤ 1000 := by
 have hV := valid_of (ride_of h).rt.lay
 have h2 := hV.n2
 have h3 := hV.n3
 unfold occL
 refine Nat.le_trans (List.length_filter_le _ _) ?_
 rw [tabL_len]; omega
theorem stairs_ex : ∃ o : List Occ, ∃ n e : Int, o.length ≤ 1000 ∧ OkV Tryz.prog 9 [vLay L, vR2 st ov, vS5 nm l sp ac br] [] (.tup [.c (rOcc o), .c (xI n), .c (xI e)]) [] ∧ OkV Tryz.prog 29 [vLay L, vR2 st ov, vS5 nm l sp ac br] [] (.tup [.c (rOcc o), .c (xI n), .c (xI e)]) [] := by
 by_cases h : fitErr L ⟨st, ov⟩ l sp ac br = 0
 ·exact ⟨_, _, _, occ_len L st ov l sp ac br h, stairs_ok L hL st ov hl ho nm l sp ac br h, refStairs_ok L hL st ov hl ho nm l sp ac br h⟩
 ·exact ⟨_, _, _, by simp, stairs_bad L hL st ov hl ho nm l sp ac br h, refStairs_bad L hL st ov hl ho nm l sp ac br h⟩
theorem held_ex (bf af : Int) : ∃ o : List Occ, ∃ n e : Int, o.length ≤ 1000 ∧ OkV Tryz.prog 30 [vLay L, vR2 st ov, vS5 nm l sp ac br, .c (xI bf), .c (xI af)] [] (.tup [.c (rOcc o), .c (xI n), .c (xI e)]) [] ∧ OkV Tryz.prog 31 [vLay L, vR2 st ov, vS5 nm l sp ac br, .c (xI bf), .c (xI af)] [] (.tup [.c (rOcc o), .c (xI n), .c (xI e)]) [] := by
 by_cases h : heldErr L ⟨st, ov⟩ l sp ac br bf af = 0
 ·have h1 : fitErr L ⟨st, ov⟩ l sp ac br = 0 := by
   unfold heldErr at h
   split at h
   ·exact h
   ·rename_i h2; simpa using h2
  have h2 : ¬ (bf < 0 ∨ 65536 < bf ∨ af < 0 ∨ 65536 < af) := fun h3 => by
   unfold heldErr at h
   rw [if_neg (by simpa using h1), if_pos h3] at h
   cases h
  exact ⟨_, _, _, occ_len L st ov l sp ac br h1, held_ok L hL st ov hl ho nm l sp ac br bf af h1 (by omega) (by omega), refHeld_ok L hL st ov hl ho nm l sp ac br bf af h1 (by omega) (by omega)⟩
 ·exact ⟨_, _, _, by simp, held_bad L hL st ov hl ho nm l sp ac br bf af h, refHeld_bad L hL st ov hl ho nm l sp ac br bf af h⟩
theorem agrees_ok (bf af : Int) : OkV Tryz.prog 13 [vLay L, vR2 st ov, vS5 nm l sp ac br, .c (xI bf), .c (xI af)] [] (vB true) [] := by
 obtain ⟨a, b, n, e, za, zb, hT, hP⟩ := times_ex L hL st ov hl ho nm l sp ac br
 obtain ⟨o, p, g, zo, hS, hQ⟩ := stairs_ex L hL st ov hl ho nm l sp ac br
 obtain ⟨x, y, i, zx, hH, hG⟩ := held_ex L hL st ov hl ho nm l sp ac br bf af
 have hF := fits_ok L hL st ov hl ho nm l sp ac br
 have hE := refFits_ok L hL st ov hl ho nm l sp ac br
 generalize fitErr L ⟨st, ov⟩ l sp ac br = w at *
 have s1 := same_int_ok a (by omega)
 have s2 := same_int_ok b (by omega)
 have s3 := same_occ_ok o (by omega)
 have s4 := same_occ_ok x (by omega)
 unfold vLay at hT hP hS hQ hH hG hF hE ⊢
 refine X_fnP mixedX Tryz.func13 rfl (by kernel_rfl) (Nat.le_of_ble_eq_true (by kernel_rfl)) (by kernel_rfl) rfl rfl ?_
 simp only [sl0, Nat.zero_add, Nat.reduceAdd]
 repeat' (first
  |with_reducible (first|refine q_and ?_ ?_|exact True.intro|exact TkEq.nil _|refine Red.o (by constructor) ?_|refine blockK_o' rfl ?_|refine LoopX_e' rfl ?_|assumption)
  |((with_reducible apply q_call);first|refine X_pure (hT) rfl ?_|refine X_pure (hP) rfl ?_|refine X_pure (hS) rfl ?_|refine X_pure (hQ) rfl ?_|refine X_pure (hH) rfl ?_|refine X_pure (hG) rfl ?_|refine X_pure (hF) rfl ?_|refine X_pure (hE) rfl ?_)
  |((with_reducible apply q_callG);refine X_pureG ((fun _ => s1)) rfl ?_ ?_)
  |((with_reducible apply q_callG);refine X_pureG ((fun _ => s2)) rfl ?_ ?_)
  |((with_reducible apply q_callG);refine X_pureG ((fun _ => s3)) rfl ?_ ?_)
  |((with_reducible apply q_callG);refine X_pureG ((fun _ => s4)) rfl ?_ ?_)
  |((with_reducible apply q_CI);intro hbq;(try simp only [bq] at hbq);(try (exfalso;omega)))
  |with_reducible (first|refine W_seq ?_|refine W_block ?_)
  |((with_reducible apply q_cond);refine X_cond rfl ?_ ?_;all_goals (intro hbq;(try simp only [bq] at hbq);(try (exfalso;omega))))
  |refine Rex.o (by (with_reducible constructor);apply Eq.refl) ?_
  |(intro (hgq : (_ : Bool) = true);(try simp only [bq] at hgq))
  |(intro (hgq : (_ : Bool) = false);(try simp only [bq] at hgq))
  |((with_reducible apply q_VOk);exact fun _ => ⟨rfl,rfl⟩)|(intro _;exact rfl)|((with_reducible apply q_CRB);kernel_rfl)|((with_reducible apply q_bt);simp only [bq])|((with_reducible apply q_eqN);rfl)|((with_reducible apply q_FE);exact rfl)|with_reducible (first|exact isByte_wrap _|exact isByte_nat _)|(simp only [hgq,bq];done)|omega|(dsimp only;omega))
 ·refine VEq.c (CEq.bool ?_)
  simp
end
theorem generated_ok (l c m : List Int) (x y : Int) (hl : l.length ≤ 9223372036854775807) (hc : c.length ≤ 9223372036854775807) (hm : m.length ≤ 9223372036854775807) : OkV Tryz.prog 4 [.c (rInt l), .c (rInt c), .c (rInt m), .c (xI x), .c (xI y)] [] (vB true) [] := by
 have h0 := awake_ok
 have h1 := layout_ok l hl
 have hv := genL_ok l
 have h2 := route_ok (genL l) (valid_of hv) (genL_secs l) c hc
 have h3 := stock_ok m hm
 have hb := gen_rt (genL l) c hc
 have p1 := pick_ok x 400 (by omega) (by omega)
 have ha := pick_lt x (n := 400) (by omega)
 have p2 := pick_ok y 400 (by omega) (by omega)
 have hd := pick_lt y (n := 400) (by omega)
 have h4 := agrees_ok (genL l) (valid_fits (valid_of hv)) (rtG (genL l) c).st (genOv (genL l) c) (by omega) (by omega) ⟨#[88]⟩ (1 + (⟨m, 0⟩ : Src).nx 4) (5000 + 2500 * (⟨m, 0⟩ : Src).af.nx 12) (200 + 100 * (⟨m, 0⟩ : Src).af.af.nx 8) (200 + 100 * (⟨m, 0⟩ : Src).af.af.af.nx 8) ((pick x 400 : Nat) - 1 : Int) ((pick y 400 : Nat) - 1 : Int)
 clear hb hv
 generalize genOv (genL l) c = ov at *
 generalize (rtG (genL l) c).st = st at *
 generalize genL l = L at *
 generalize (1 + ((⟨m, 0⟩ : Src).nx 4 : Int)) = k at *
 generalize (5000 + 2500 * ((⟨m, 0⟩ : Src).af.nx 12 : Int)) = sp at *
 generalize (200 + 100 * ((⟨m, 0⟩ : Src).af.af.nx 8 : Int)) = ac at *
 generalize (200 + 100 * ((⟨m, 0⟩ : Src).af.af.af.nx 8 : Int)) = br at *
 generalize pick x 400 = a at *
 generalize pick y 400 = b at *
 unfold vLay at h1 h2 h4
 refine X_fnP mixedX Tryz.func4 rfl (by kernel_rfl) (Nat.le_of_ble_eq_true (by kernel_rfl)) (by kernel_rfl) rfl rfl ?_
 simp only [sl0, Nat.zero_add, Nat.reduceAdd]
 repeat' (first
  |with_reducible (first|refine q_and ?_ ?_|exact True.intro|exact TkEq.nil _|refine Red.o (by constructor) ?_|refine blockK_o' rfl ?_|refine LoopX_e' rfl ?_|assumption)
  |((with_reducible apply q_call);first|refine X_pure (h1) rfl ?_|refine X_pure (h0) rfl ?_)
  |((with_reducible apply q_callG);refine X_pureG ((fun _ => h2)) rfl ?_ ?_)
  |((with_reducible apply q_callG);refine X_pureG ((fun _ => h3)) rfl ?_ ?_)
  |((with_reducible apply q_callG);refine X_pureG ((fun _ => p1)) rfl ?_ ?_)
  |((with_reducible apply q_callG);refine X_pureG ((fun _ => p2)) rfl ?_ ?_)
  |((with_reducible apply q_callG);refine X_pureG ((fun _ => h4)) rfl ?_ ?_)
  |((with_reducible apply q_CI);intro hbq;(try simp only [bq] at hbq);(try (exfalso;omega)))
  |with_reducible (first|refine W_seq ?_|refine W_block ?_)
  |((with_reducible apply q_cond);refine X_cond rfl ?_ ?_;all_goals (intro hbq;(try simp only [bq] at hbq);(try (exfalso;omega))))
  |refine Rex.o (by (with_reducible constructor);apply Eq.refl) ?_
  |(intro (hgq : (_ : Bool) = true);(try simp only [bq] at hgq))
  |(intro (hgq : (_ : Bool) = false);(try simp only [bq] at hgq))
  |((with_reducible apply q_VOk);exact fun _ => ⟨rfl,rfl⟩)|(intro _;exact rfl)|((with_reducible apply q_CRB);kernel_rfl)|((with_reducible apply q_bt);simp only [bq])|((with_reducible apply q_eqN);rfl)|((with_reducible apply q_FE);exact rfl)|with_reducible (first|exact isByte_wrap _|exact isByte_nat _)|(simp only [hgq,bq];done)|omega|(dsimp only;omega))
 ·rfl
end Go.Proofs.YtbpeakgihhdocaaGreat.Av
namespace Go.Proofs.YtbpeakgihhdocaaGreat
open Go.RowKit
theorem W.BlockingGenerated (a0 : Option Addr) (len0 cap0 : Nat) (z0 : List Int) (a1 : Option Addr) (len1 cap1 : Nat) (z1 : List Int) (a2 : Option Addr) (len2 cap2 : Nat) (z2 : List Int) (a3 : Int) (a4 : Int) (w : World) (w0 : Av.IsRowI w a0 len0 cap0 z0) (w1 : Av.IsRowI w a1 len1 cap1 z1) (w2 : Av.IsRowI w a2 len2 cap2 z2) (w3 : (Lit.int .i64 a3).wf = true) (w4 : (Lit.int .i64 a4).wf = true) (s0 : ∀ x, a0 = some x → x.spot = none) (s1 : ∀ x, a1 = some x → x.spot = none) (s2 : ∀ x, a2 = some x → x.spot = none) :
  Calls Tryz.prog 4 #[.slice a0 len0 cap0, .slice a1 len1 cap1, .slice a2 len2 cap2, .int .i64 a3, .int .i64 a4] w fun e w' => e = .returned (.bool true) ∧ Below w.heap.size w w' := by
 obtain ⟨h0, b0⟩ := Av.rowI_rep w0 s0
 obtain ⟨h1, b1⟩ := Av.rowI_rep w1 s1
 obtain ⟨h2, b2⟩ := Av.rowI_rep w2 s2
 refine Av.law_calls (Av.generated_ok _ _ _ a3 a4 b0 b1 b2) w _ rfl (fun i hi hi' l => ?_) (fun x hx => by
  simp at hx
  rcases hx with rfl | rfl | rfl | rfl | rfl <;> rfl)
 match i, hi with
 | 0, _ => exact h0 l
 | 1, _ => exact h1 l
 | 2, _ => exact h2 l
 | 3, _ => exact .v _ rfl
 | 4, _ => exact .v _ rfl
end Go.Proofs.YtbpeakgihhdocaaGreat
