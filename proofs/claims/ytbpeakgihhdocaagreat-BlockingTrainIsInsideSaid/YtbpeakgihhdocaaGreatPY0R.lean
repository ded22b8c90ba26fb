/- What the claims use of their texts: La2, La1, La3, La5, Lz1, Wz1. -/
import Derived.Test.YtbpeakgihhdocaaGreatPYF
set_option linter.unusedVariables false
set_option linter.unusedSimpArgs false
set_option maxRecDepth 4000
set_option maxHeartbeats 4000000
namespace Go.Proofs.YtbpeakgihhdocaaGreat.Av
structure Drawn where
 L : Lay
 st : List Stp
 ov : Int
 l : Int
 sp : Int
 ac : Int
 br : Int
def Drawn.of (l c m : List Int) : Drawn :=
 ⟨genL l, (rtG (genL l) c).st, genOv (genL l) c, min (1 + (⟨m, 0⟩ : Src).nx 4) 2, 5000 + 2500 * (⟨m, 0⟩ : Src).af.nx 12, 200 + 100 * (⟨m, 0⟩ : Src).af.af.nx 8, 200 + 100 * (⟨m, 0⟩ : Src).af.af.af.nx 8⟩
structure Drawn.Ok (d : Drawn) : Prop where
 lay : layErr d.L = 0
 fits : LayFits d.L
 len : d.st.length ≤ 7
 ov : 0 ≤ d.ov ∧ d.ov ≤ 2
theorem drawn_ok (l c m : List Int) (hc : c.length ≤ 9223372036854775807) : (Drawn.of l c m).Ok :=
 ⟨genL_ok l, valid_fits (valid_of (genL_ok l)), (gen_rt (genL l) c hc).2.2.1, (gen_rt (genL l) c hc).2.2.2⟩
abbrev Drawn.err (d : Drawn) : Int := fitErr d.L ⟨d.st, d.ov⟩ d.l d.sp d.ac d.br
abbrev Drawn.vs (d : Drawn) : SV := .tup [.agg [rStr d.L.sts, rStr d.L.pts, rSec d.L.secs, rLnk d.L.lnks], .agg [rStp d.st, xI d.ov], .agg [xS ⟨#[88]⟩, xI d.l, xI d.sp, xI d.ac, xI d.br], .c (xB (decide (d.err = 0)))]
theorem fitting_ok (l c m : List Int) (hl : l.length ≤ 9223372036854775807) (hc : c.length ≤ 9223372036854775807) (hm : m.length ≤ 9223372036854775807) : OkV Tryz.prog 5 [.c (rInt l), .c (rInt c), .c (rInt m)] [] (Drawn.of l c m).vs [] := by
 have h1 := layout_ok l hl
 have hv := genL_ok l
 have h2 := route_ok (genL l) (valid_of hv) (genL_secs l) c hc
 have h3 := stock_ok m hm
 have hb := gen_rt (genL l) c hc
 have h4 := refFits_ok (genL l) (valid_fits (valid_of hv)) (rtG (genL l) c).st (genOv (genL l) c) (by omega) (by omega) ⟨#[88]⟩ (min (1 + (⟨m, 0⟩ : Src).nx 4) 2) (5000 + 2500 * (⟨m, 0⟩ : Src).af.nx 12) (200 + 100 * (⟨m, 0⟩ : Src).af.af.nx 8) (200 + 100 * (⟨m, 0⟩ : Src).af.af.af.nx 8)
 unfold Drawn.vs Drawn.err Drawn.of
 simp only
 clear hb hv
 generalize genOv (genL l) c = ov at *
 generalize (rtG (genL l) c).st = st at *
 generalize genL l = L at *
 generalize (1 + ((⟨m, 0⟩ : Src).nx 4 : Int)) = k at *
 generalize (5000 + 2500 * ((⟨m, 0⟩ : Src).af.nx 12 : Int)) = sp at *
 generalize (200 + 100 * ((⟨m, 0⟩ : Src).af.af.nx 8 : Int)) = ac at *
 generalize (200 + 100 * ((⟨m, 0⟩ : Src).af.af.af.nx 8 : Int)) = br at *
 generalize fitErr L ⟨st, ov⟩ (min k 2) sp ac br = e at *
 unfold vLay at h1 h2 h4
 refine X_fnP mixedX Tryz.func5 rfl (by kernel_rfl) (Nat.le_of_ble_eq_true (by kernel_rfl)) (by kernel_rfl) rfl rfl ?_
 simp only [sl0, Nat.zero_add, Nat.reduceAdd]
 repeat' (first
  |with_reducible (first|refine q_and ?_ ?_|exact True.intro|exact TkEq.nil _|refine Red.o (by constructor) ?_|refine blockK_o' rfl ?_|refine LoopX_e' rfl ?_|assumption)
  |((with_reducible apply q_call);first|refine X_pure (h1) rfl ?_|refine X_pure (h2) rfl ?_|refine X_pure (h3) rfl ?_|refine X_pure (h4) rfl ?_)
  |((with_reducible apply q_CI);intro hbq;(try simp only [bq] at hbq);(try (exfalso;omega)))
  |with_reducible (first|refine W_seq ?_|refine W_block ?_)
  |((with_reducible apply q_cond);refine X_cond rfl ?_ ?_;all_goals (intro hbq;(try simp only [bq] at hbq);(try (exfalso;omega))))
  |refine Rex.o (by (with_reducible constructor);apply Eq.refl) ?_
  |(intro (hgq : (_ : Bool) = true);(try simp only [bq] at hgq))
  |(intro (hgq : (_ : Bool) = false);(try simp only [bq] at hgq))
  |((with_reducible apply q_VOk);exact fun _ => ⟨rfl,rfl⟩)|(intro _;exact rfl)|((with_reducible apply q_CRB);kernel_rfl)|((with_reducible apply q_bt);simp only [bq])|((with_reducible apply q_eqN);rfl)|((with_reducible apply q_FE);exact rfl)|with_reducible (first|exact isByte_wrap _|exact isByte_nat _)|(simp only [hgq,bq];done)|omega|(dsimp only;omega))
 ·rfl
section
variable {L : Lay} {r : Rte} {l sp ac br : Int} (h : Ride L r l sp ac br)
include h
theorem endA_lt {i j : Nat} (hij : i < j) (hj : j < (trv r).length) : endA L (trv r) i < endA L (trv r) j := by
 have a := endA_mono L (trv r) (show i + 1 ≤ j by omega)
 have b := (h.len (i + 1) (by omega)).1
 simp only [endA] at a
 omega
end
theorem addO_ne (t : List Occ) {x y : Nat} (a b : Int) (h : x ≠ y) : (addO t x a b).getD y oc0 = t.getD y oc0 := by
 unfold addO
 rw [List.getD_eq_getElem?_getD, List.getElem?_set_ne h, ← List.getD_eq_getElem?_getD]
theorem addO_at (t : List Occ) {x : Nat} (a b : Int) (h : x < t.length) : (addO t x a b).getD x oc0 = if (t.getD x oc0).frm < (t.getD x oc0).til then ⟨x, min a (t.getD x oc0).frm, max b (t.getD x oc0).til⟩ else ⟨x, a, b⟩ := by
 unfold addO
 rw [List.getD_eq_getElem?_getD, List.getElem?_set_self h]
 rfl
theorem addO_new (t : List Occ) {x : Nat} (a b : Int) (h : x < t.length) (h0 : t.getD x oc0 = oc0) : (addO t x a b).getD x oc0 = ⟨x, a, b⟩ := by
 rw [addO_at t a b h, h0, if_neg (by decide)]
theorem step_ne {L : Lay} {r : Rte} (h : RteOk L r) {i j : Nat} (hij : i < j) (hj : j < r.st.length) : (r.st.getD i st0).sec.toNat ≠ (r.st.getD j st0).sec.toNat := by
 intro e
 have ai := all_at h.ok (i := i) (by omega)
 have aj := all_at h.ok hj
 obtain ⟨a1, _, _⟩ := ok_dir ai
 obtain ⟨b1, _, _⟩ := ok_dir aj
 have hd : dupAt r.st j = true := by
  unfold dupAt
  rw [List.any_eq_true]
  refine ⟨r.st.getD i st0, ?_, by simp only [decide_eq_true_eq]; omega⟩
  rw [List.getD_eq_getElem?_getD, List.getElem?_eq_getElem (show i < r.st.length by omega), Option.getD_some, List.mem_iff_getElem]
  exact ⟨i, by rw [List.length_take]; omega, by rw [List.getElem_take]⟩
 have := dup_yes hj hd
 rw [h.dup] at this
 cases this
theorem step_in {L : Lay} {r : Rte} (h : RteOk L r) {i : Nat} (hi : i < r.st.length) : (r.st.getD i st0).sec.toNat < L.secs.length := by
 obtain ⟨a1, a2, _⟩ := ok_dir (all_at h.ok hi)
 omega
section
variable {L : Lay} {st : List Stp} {ov : Int} (h : RteOk L ⟨st, ov⟩) (F T P : Nat → Int)
include h
omit h in
theorem tabS_sec {i : Nat} (hi : i < st.length) (t : List Occ) {x : Nat} (hx : x < L.secs.length) : (tabS L st F T P i t).getD x oc0 = (addO t (st.getD i st0).sec.toNat (F i) (T i)).getD x oc0 := by
 unfold tabS
 simp only
 split
 ·rfl
 ·split
  ·split
   ·rfl
   ·rw [addO_ne _ _ _ (by omega)]
  ·rfl
omit h in
theorem tab_none {x : Nat} (hx : x < L.secs.length) : ∀ k, k ≤ st.length → (∀ i, i < k → (st.getD i st0).sec.toNat ≠ x) → (tabL L st F T P k).getD x oc0 = oc0
 | 0, _, _ => by
  have : x < L.secs.length + L.pts.length := by omega
  simp [tabL, List.getD_eq_getElem?_getD, this]
 | k + 1, hk, hn => by
  rw [tabL, tabS_sec F T P (by omega) _ hx, addO_ne _ _ _ (hn k (by omega))]
  exact tab_none hx k (by omega) fun i hi => hn i (by omega)
theorem tab_some : ∀ k, k ≤ st.length → ∀ i, i < k → (tabL L st F T P k).getD (st.getD i st0).sec.toNat oc0 = ⟨((st.getD i st0).sec.toNat : Nat), F i, T i⟩
 | 0, _, i, hi => by omega
 | k + 1, hk, i, hi => by
  have hx := step_in h (i := i) (by simp only; omega)
  simp only at hx
  rw [tabL, tabS_sec F T P (by omega) _ hx]
  rcases Nat.lt_succ_iff_lt_or_eq.1 hi with h1 | h1
  ·rw [addO_ne _ _ _ (fun e => step_ne h h1 (by simp only; omega) e.symm)]
   exact tab_some k (by omega) i h1
  ·subst h1
   refine addO_new _ _ _ (by rw [tabL_len]; omega) (tab_none F T P hx i (by omega) fun j hj e => step_ne h hj (by simp only; omega) e)
omit h in
theorem addO_res {t : List Occ} (ht : ∀ x, usedO (t.getD x oc0) = true → (t.getD x oc0).res = x) (z : Nat) (a b : Int) : ∀ x, usedO ((addO t z a b).getD x oc0) = true → ((addO t z a b).getD x oc0).res = x := fun x hx => by
 by_cases h : z = x
 ·subst h
  by_cases hl : z < t.length
  ·rw [addO_at _ _ _ hl]
   split <;> rfl
  ·have e : addO t z a b = t := by unfold addO; rw [List.set_eq_of_length_le (by omega)]
   rw [e] at hx ⊢
   exact ht _ hx
 ·rw [addO_ne _ _ _ h] at hx ⊢
  exact ht x hx
omit h in
theorem tab_res : ∀ k x, usedO ((tabL L st F T P k).getD x oc0) = true → ((tabL L st F T P k).getD x oc0).res = x
 | 0, x, hx => by
  by_cases hl : x < L.secs.length + L.pts.length
  ·simp [tabL, List.getD_eq_getElem?_getD, hl, usedO] at hx
  ·simp [tabL, List.getD_eq_getElem?_getD, hl, usedO] at hx
 | k + 1, x, hx => by
  have ih := tab_res k
  revert hx
  rw [tabL]
  unfold tabS
  simp only
  have h1 := addO_res ih (st.getD k st0).sec.toNat (F k) (T k)
  split
  ·exact h1 x
  ·split
   ·split
    ·exact h1 x
    ·exact addO_res h1 _ _ _ x
   ·exact h1 x
end
section
variable {L : Lay} {st : List Stp} {ov l sp ac br : Int} (h : Ride L ⟨st, ov⟩ l sp ac br)
include h
theorem ride_n : (trv ⟨st, ov⟩).length ≤ st.length := by
 have h1 := h.n
 have h2 := h.rt.ov0
 simp only at h1 h2
 omega
end
def findO (o : List Occ) (x : Int) : Occ := (o.find? fun w => decide (w.res = x)).getD oc0
theorem find_tab : ∀ {t : List Occ} {b : Nat}, (∀ x, x < t.length → usedO (t.getD x oc0) = true → (t.getD x oc0).res = (b + x : Nat)) → ∀ y, b ≤ y → y < b + t.length → findO (t.filter usedO) y = if usedO (t.getD (y - b) oc0) = true then t.getD (y - b) oc0 else oc0
 | [], b, _, y, h1, h2 => by simp at h2; omega
 | a :: t, b, h, y, h1, h2 => by
  have h0 : usedO a = true → a.res = (b : Int) := fun hu => h 0 (by simp) hu
  have ih := find_tab (t := t) (b := b + 1) fun x hx hu => by
   have := h (x + 1) (by simpa using hx) hu
   rw [show b + 1 + x = b + (x + 1) by omega]; exact this
  have no : ∀ z, z < b + 1 → findO (t.filter usedO) (z : Nat) = oc0 := fun z hz => by
   unfold findO
   rw [List.find?_eq_none.2]
   ·rfl
   ·intro w hw
    obtain ⟨hw1, hw2⟩ := List.mem_filter.1 hw
    obtain ⟨i, hi, rfl⟩ := List.mem_iff_getElem.1 hw1
    have := h (i + 1) (by simpa using hi) (by
     rw [List.getD_cons_succ, List.getD_eq_getElem?_getD, List.getElem?_eq_getElem hi]; exact hw2)
    rw [List.getD_cons_succ, List.getD_eq_getElem?_getD, List.getElem?_eq_getElem hi, Option.getD_some] at this
    rw [decide_eq_true_eq, this]
    omega
  rw [List.filter_cons]
  by_cases hy : y = b
  ·subst hy
   rw [Nat.sub_self, List.getD_cons_zero]
   split
   ·rename_i hu
    unfold findO
    rw [List.find?_cons, decide_eq_true (h0 hu)]
    rfl
   ·exact no y (by omega)
  ·have hy1 : y - b = y - (b + 1) + 1 := by omega
   rw [hy1, List.getD_cons_succ]
   have ih := ih y (by omega) (by rw [List.length_cons] at h2; omega)
   split
   ·rename_i hu
    rw [← ih]
    unfold findO
    rw [List.find?_cons, decide_eq_false (by rw [h0 hu]; omega)]
   ·exact ih
section
variable {L : Lay} {st : List Stp} {ov l sp ac br bf af : Int}
theorem find_occ (h : RteOk L ⟨st, ov⟩) {x : Nat} (hx : x < L.secs.length) : findO (occL L st ov l sp ac br bf af) x = if usedO ((tabL L st (spF L ⟨st, ov⟩ l sp ac br bf) (spT L ⟨st, ov⟩ l sp ac br af) (ptT L ⟨st, ov⟩ l sp ac br af) st.length).getD x oc0) = true then (tabL L st (spF L ⟨st, ov⟩ l sp ac br bf) (spT L ⟨st, ov⟩ l sp ac br af) (ptT L ⟨st, ov⟩ l sp ac br af) st.length).getD x oc0 else oc0 := by
 unfold occL
 have := find_tab (b := 0) (t := tabL L st (spF L ⟨st, ov⟩ l sp ac br bf) (spT L ⟨st, ov⟩ l sp ac br af) (ptT L ⟨st, ov⟩ l sp ac br af) st.length) (fun y hy hu => by
  rw [Nat.zero_add]
  exact tab_res _ _ _ _ y hu) x (by omega) (by rw [tabL_len]; omega)
 rw [Nat.sub_zero] at this
 exact this
theorem find_yes (h : Ride L ⟨st, ov⟩ l sp ac br) (hb : 0 ≤ bf) (ha : 0 ≤ af) {i : Nat} (hi : i < st.length) : findO (occL L st ov l sp ac br bf af) (st.getD i st0).sec = ⟨(st.getD i st0).sec, spF L ⟨st, ov⟩ l sp ac br bf i, spT L ⟨st, ov⟩ l sp ac br af i⟩ := by
 obtain ⟨p2, q2, _⟩ := ok_dir (all_at h.rt.ok (i := i) hi)
 simp only at p2 q2
 have e : (((st.getD i st0).sec.toNat : Nat) : Int) = (st.getD i st0).sec := Int.toNat_of_nonneg p2
 have := find_occ (l := l) (sp := sp) (ac := ac) (br := br) (bf := bf) (af := af) h.rt (x := (st.getD i st0).sec.toNat) (by omega)
 rw [tab_some h.rt _ _ _ st.length (Nat.le_refl _) i hi, e] at this
 rw [this, if_pos (by unfold usedO; exact decide_eq_true (spF_lt h hb ha i))]
end
def insB (x q run : Int) (w : Occ) : Bool := decide (w.res = x) && decide (w.frm ≤ q) && (decide (q < w.til) || decide (run ≤ q))
def begA (L : Lay) (ts : List Stp) (i : Nat) : Nat := if i = 0 then 0 else secN L ts 0 + endA L ts (i - 1)
theorem begA_next (L : Lay) (ts : List Stp) (i : Nat) : begA L ts (i + 1) = begA L ts i + secN L ts i := by
 unfold begA
 rw [if_neg (by omega), Nat.add_sub_cancel]
 cases i with
 | zero => simp [endA]
 | succ i => rw [if_neg (by omega), Nat.add_sub_cancel]; simp only [endA]; omega
section
variable {L : Lay} {st : List Stp} {ov l sp ac br : Int} (h : Ride L ⟨st, ov⟩ l sp ac br)
include h
theorem inside {k i : Nat} (hk : k < endA L (trv ⟨st, ov⟩) ((trv ⟨st, ov⟩).length - 1)) (hi : i < (trv ⟨st, ov⟩).length) (h1 : (begA L (trv ⟨st, ov⟩) i : Int) ≤ secN L (trv ⟨st, ov⟩) 0 + k) (h2 : (secN L (trv ⟨st, ov⟩) 0 : Int) + k - l < begA L (trv ⟨st, ov⟩) i + secN L (trv ⟨st, ov⟩) i) :
  (occL L st ov l sp ac br 0 0).any (insB (st.getD i st0).sec (rideT L ⟨st, ov⟩ l sp ac br k / 1000) (runI L ⟨st, ov⟩ l sp ac br)) = true := by
 have hn := ride_n h
 have hn2 := h.n2
 have hq := chk_of h.chk
 have hb := begA_next L (trv ⟨st, ov⟩) i
 have hb2 : begA L (trv ⟨st, ov⟩) (i + 1) = secN L (trv ⟨st, ov⟩) 0 + endA L (trv ⟨st, ov⟩) i := by unfold begA; rw [if_neg (by omega), Nat.add_sub_cancel]
 have hr := h.rng k (by omega)
 have hf := find_yes h (bf := 0) (af := 0) (Int.le_refl 0) (Int.le_refl 0) (i := i) (by omega)
 unfold findO at hf
 have hlt := spF_lt h (bf := 0) (af := 0) (Int.le_refl 0) (Int.le_refl 0) i
 have hmem : (⟨(st.getD i st0).sec, spF L ⟨st, ov⟩ l sp ac br 0 i, spT L ⟨st, ov⟩ l sp ac br 0 i⟩ : Occ) ∈ occL L st ov l sp ac br 0 0 := by
  revert hf
  cases e : (occL L st ov l sp ac br 0 0).find? (fun w => decide (w.res = (st.getD i st0).sec)) with
  | none =>
   intro hf
   injection hf with e1 e2 e3
   rw [← e2, ← e3] at hlt
   exact absurd hlt (by decide)
  | some w =>
   intro hf
   have hf : w = _ := hf
   rw [← hf]
   exact List.mem_of_find?_eq_some e
 refine List.any_eq_true.2 ⟨_, hmem, ?_⟩
 unfold insB
 rw [decide_eq_true rfl, Bool.true_and, Bool.and_eq_true, Bool.or_eq_true, decide_eq_true_eq, decide_eq_true_eq, decide_eq_true_eq]
 constructor
 ·unfold spF
  by_cases h0 : i = 0
  ·rw [if_pos h0]; simp only; omega
  ·rw [if_neg h0, if_pos hi]
   have hbi : begA L (trv ⟨st, ov⟩) i = secN L (trv ⟨st, ov⟩) 0 + endA L (trv ⟨st, ov⟩) (i - 1) := if_neg h0
   have hm := endA_mono L (trv ⟨st, ov⟩) (show i - 1 - 1 ≤ i - 1 by omega)
   have := ride_mono h (i := endA L (trv ⟨st, ov⟩) (i - 1 - 1)) (j := k) (by omega) (by omega)
   have hd : (⟨(st.getD i st0).sec, entF L ⟨st, ov⟩ l sp ac br (i - 1) / 1000 - 16, spT L ⟨st, ov⟩ l sp ac br 0 i⟩ : Occ).frm = entF L ⟨st, ov⟩ l sp ac br (i - 1) / 1000 - 16 := rfl
   rw [hd]
   unfold entF
   omega
 ·unfold spT
  by_cases h3 : i + 1 < (trv ⟨st, ov⟩).length
  ·left
   rw [if_pos h3]
   have hv := lev_in h hi
   rw [if_pos h3] at hv
   have := ride_mono h (i := k) (j := endA L (trv ⟨st, ov⟩) i + l.toNat) (by omega) hv.2
   unfold levF
   rw [if_pos h3]
   have := cd_le this
   show rideT L ⟨st, ov⟩ l sp ac br k / 1000 < Pl.cdiv (rideT L ⟨st, ov⟩ l sp ac br (endA L (trv ⟨st, ov⟩) i + l.toNat)) 1000 + 4
   omega
  ·rw [if_neg h3, if_pos (by omega)]
   simp only
   omega
end
theorem trainInside_ok (l c m : List Int) (x : Int) (hl : l.length ≤ 9223372036854775807) (hc : c.length ≤ 9223372036854775807) (hm : m.length ≤ 9223372036854775807) : OkV Tryz.prog 3 [.c (rInt l), .c (rInt c), .c (rInt m), .c (xI x)] [] (vB true) [] := by
 have hA := awake_ok
 have hF := fitting_ok l c m hl hc hm
 have hD := drawn_ok l c m hc
 generalize Drawn.of l c m = d at *
 obtain ⟨L, st, ov, ln, sp, ac, br⟩ := d
 obtain ⟨d1, d2, d3, d4⟩ := hD
 simp only at d1 d2 d3 d4
 unfold Drawn.vs Drawn.err at hF
 simp only at hF
 by_cases h : fitErr L ⟨st, ov⟩ ln sp ac br = 0
 ·rw [h] at hF
  have hR := ride_of h
  have hn := hR.n
  have hn2 := hR.n2
  simp only at hn
  have hS := stairs_ok L d2 st ov (by omega) (by omega) ⟨#[88]⟩ ln sp ac br h
  have hC := refCells_ok L d2 st ov (by omega) (by omega)
  unfold celOut at hC
  rw [hR.cel, if_pos rfl] at hC
  have hm := refTimes_ok (celL L (trv ⟨st, ov⟩)) (celOne L ⟨st, ov⟩) ⟨#[88]⟩ ln sp ac br (by
   have := (bad_zero hR.bad).2.1; omega)
  rw [hR.tl, hR.bad, hR.one] at hm
  rw [hR.one] at hC
  have hl1 := row_len (endA L (trv ⟨st, ov⟩) ((trv ⟨st, ov⟩).length - 1) + 1) (rideT L ⟨st, ov⟩ ln sp ac br)
  have hg : ∀ k, k < endA L (trv ⟨st, ov⟩) ((trv ⟨st, ov⟩).length - 1) + 1 → (row (endA L (trv ⟨st, ov⟩) ((trv ⟨st, ov⟩).length - 1) + 1) (rideT L ⟨st, ov⟩ ln sp ac br)).getD k 0 = rideT L ⟨st, ov⟩ ln sp ac br k := fun k hk => row_get hk
  have hE0 := endA_lt hR (i := 0) (j := (trv ⟨st, ov⟩).length - 1) (by omega) (by omega)
  have hEb : endA L (trv ⟨st, ov⟩) ((trv ⟨st, ov⟩).length - 1) ≤ 400 * 24 := by
   have : ∀ j, j + 1 ≤ (trv ⟨st, ov⟩).length → endA L (trv ⟨st, ov⟩) j ≤ 400 * j := by
    intro j
    induction j with
    | zero => intro _; exact Nat.le_refl _
    | succ j ih => intro hj; have := ih (by omega); have := (hR.len (j + 1) (by omega)).2.2; simp only [endA]; omega
   have := this ((trv ⟨st, ov⟩).length - 1) (by omega)
   have := hR.n24
   omega
  have hP := pick_ok x (endA L (trv ⟨st, ov⟩) ((trv ⟨st, ov⟩).length - 1)) (by simp only [endA] at hE0; omega) (by omega)
  have hk := pick_lt x (n := endA L (trv ⟨st, ov⟩) ((trv ⟨st, ov⟩).length - 1)) (by simp only [endA] at hE0; omega)
  generalize pick x (endA L (trv ⟨st, ov⟩) ((trv ⟨st, ov⟩).length - 1)) = k at *
  have hin : ∀ i, i < (trv ⟨st, ov⟩).length → (begA L (trv ⟨st, ov⟩) i : Int) ≤ secN L (trv ⟨st, ov⟩) 0 + k → (secN L (trv ⟨st, ov⟩) 0 : Int) + k - ln < begA L (trv ⟨st, ov⟩) i + secN L (trv ⟨st, ov⟩) i → (occL L st ov ln sp ac br 0 0).any (insB (st.getD i st0).sec (rideT L ⟨st, ov⟩ ln sp ac br k / 1000) (runI L ⟨st, ov⟩ ln sp ac br)) = true := fun i hi h1 h2 => inside hR hk hi h1 h2
  have hbn := begA_next L (trv ⟨st, ov⟩)
  have hlen := hR.len
  have hsec := hR.sec
  have hleni := hR.leni
  have hat : ∀ i : Nat, (i : Int) < st.length - ov → (trv ⟨st, ov⟩).getD i st0 = st.getD i st0 := fun i hi => trv_at hR.rt hi
  have hq := chk_of hR.chk
  have hrg := hR.rng k (by omega)
  have hgk : (row (endA L (trv ⟨st, ov⟩) ((trv ⟨st, ov⟩).length - 1) + 1) (rideT L ⟨st, ov⟩ ln sp ac br)).getD (k : Int).toNat 0 = rideT L ⟨st, ov⟩ ln sp ac br k := hg k (by omega)
  have hol : (occL L st ov ln sp ac br 0 0).length ≤ 1000 := by
   have hV := valid_of d1
   have h2 := hV.n2
   have h3 := hV.n3
   unfold occL
   refine Nat.le_trans (List.length_filter_le _ _) ?_
   rw [tabL_len]; omega
  have hfl := refFloor_okV ((row (endA L (trv ⟨st, ov⟩) ((trv ⟨st, ov⟩).length - 1) + 1) (rideT L ⟨st, ov⟩ ln sp ac br)).getD (k : Int).toNat 0) 1000 (by rw [hgk]; omega) (by omega)
  rw [show ((row (endA L (trv ⟨st, ov⟩) ((trv ⟨st, ov⟩).length - 1) + 1) (rideT L ⟨st, ov⟩ ln sp ac br)).getD (k : Int).toNat 0) / 1000 = rideT L ⟨st, ov⟩ ln sp ac br k / 1000 by rw [hgk]] at hfl
  rw [show ((endA L (trv ⟨st, ov⟩) ((trv ⟨st, ov⟩).length - 1) : Nat) : Int) = ((endA L (trv ⟨st, ov⟩) ((trv ⟨st, ov⟩).length - 1) + 1 : Nat) : Int) - 1 by omega, ← hl1] at hP
  have hqb : 0 ≤ rideT L ⟨st, ov⟩ ln sp ac br k / 1000 ∧ rideT L ⟨st, ov⟩ ln sp ac br k / 1000 ≤ 80000 := by omega
  clear hg hgk hrg hR h
  generalize rideT L ⟨st, ov⟩ ln sp ac br k / 1000 = q at *
  generalize row (endA L (trv ⟨st, ov⟩) ((trv ⟨st, ov⟩).length - 1) + 1) (rideT L ⟨st, ov⟩ ln sp ac br) = tl at *
  generalize occL L st ov ln sp ac br 0 0 = o at *
  generalize runI L ⟨st, ov⟩ ln sp ac br = run at *
  generalize celL L (trv ⟨st, ov⟩) = cs at *
  generalize endA L (trv ⟨st, ov⟩) ((trv ⟨st, ov⟩).length - 1) = M at *
  have g50 := hlen 0 (by omega)
  unfold vLay at hC hS
  refine X_fnP mixedX Tryz.func3 rfl (by kernel_rfl) (Nat.le_of_ble_eq_true (by kernel_rfl)) (by kernel_rfl) rfl rfl ?_
  simp only [sl0, Nat.zero_add, Nat.reduceAdd]
  repeat' (first
   |with_reducible (first|refine q_and ?_ ?_|exact True.intro|exact TkEq.nil _|refine Red.o (by constructor) ?_|refine blockK_o' rfl ?_|refine LoopX_e' rfl ?_|assumption)
   |((with_reducible apply q_call);first|refine X_pure (hF) rfl ?_|refine X_pure (hC) rfl ?_|refine X_pure (hm) rfl ?_|refine X_pure (hS) rfl ?_|refine X_pure (hP) rfl ?_|refine X_pure (hfl) rfl ?_)
   |((with_reducible apply q_CI);intro hbq;(try simp only [bq] at hbq);(try (exfalso;omega)))
   |with_reducible (first|refine W_seq ?_|refine W_block ?_)
   |((with_reducible apply q_cond);refine X_cond rfl ?_ ?_;all_goals (intro hbq;(try simp only [bq] at hbq);(try (exfalso;omega))))
   |refine Rex.o (by (with_reducible constructor);apply Eq.refl) ?_
   |(intro (hgq : (_ : Bool) = true);(try simp only [bq] at hgq))
   |(intro (hgq : (_ : Bool) = false);(try simp only [bq] at hgq))
   |((with_reducible apply q_VOk);exact fun _ => ⟨rfl,rfl⟩)|(intro _;exact rfl)|((with_reducible apply q_CRB);kernel_rfl)|((with_reducible apply q_bt);simp only [bq])|((with_reducible apply q_eqN);rfl)|((with_reducible apply q_FE);exact rfl)|with_reducible (first|exact isByte_wrap _|exact isByte_nat _)|(simp only [hgq,bq];done)|omega|(dsimp only;omega))
  clear hF hC hm hS hP hfl
  have hb0 : ∀ i, i ≤ (trv ⟨st, ov⟩).length → begA L (trv ⟨st, ov⟩) i ≤ 400 * i := by
   intro i
   induction i with
   | zero => intro _; exact Nat.le_refl _
   | succ i ih => intro hi; have := ih (by omega); have := (hlen i (by omega)).2.2; rw [hbn]; omega
  refine W_loopS (fun i : Nat => SS [sC 9 (pB 0), sC 10 (pB 1), sC 11 (pB 2), sC 18 (rOcc o), sI 19 run, sI 22 q, sI 23 ((secN L (trv ⟨st, ov⟩) 0 : Int) + k), sI 24 (begA L (trv ⟨st, ov⟩) i), sI 25 i] [bLay L, bRte st ov, bS5 ⟨#[88]⟩ ln sp ac br]) (fun i => i ≤ (trv ⟨st, ov⟩).length) (fun i => (trv ⟨st, ov⟩).length - i) 0 ?_ (by omega) ?_
  ·
   refine X_weak rfl rfl rfl ?_ ?_ <;> repeat' (first|with_reducible (first|refine Wk.o (by constructor) ?_|refine q_and ?_ ?_|exact True.intro)|refine q_AgS rfl ?_ ?_|exact CLe.nil_tipS|exact CLe.nil_rowS|refine HLe.cells ?_ ?_|refine HLe.els ?_ ?_|refine SLe.cons ?_ ?_|exact (rfl : known _ = _)|with_reducible rfl|omega)
   all_goals rfl
  intro i hi
  have hbi := hb0 i hi
  by_cases hil : i < (trv ⟨st, ov⟩).length
  ·have g0 : (trv ⟨st, ov⟩).getD i st0 = st.getD (i : Int).toNat { sec := 0, dir := 0 } := hat i (by omega)
   have g1 : 0 ≤ (st.getD (i : Int).toNat { sec := 0, dir := 0 }).sec ∧ (st.getD (i : Int).toNat { sec := 0, dir := 0 }).sec < L.secs.length := by rw [← g0]; exact hsec i hil
   have g2 : (L.secs.getD (st.getD (i : Int).toNat { sec := 0, dir := 0 }).sec.toNat sec0).len = (secN L (trv ⟨st, ov⟩) i : Nat) := by rw [← g0]; exact hleni i hil
   have g3 := hlen i hil
   have g4 := hbn i
   have g5 := hlen 0 (by omega)
   have g6 := hin i hil
   by_cases hc : (begA L (trv ⟨st, ov⟩) i : Int) ≤ secN L (trv ⟨st, ov⟩) 0 + k ∧ (secN L (trv ⟨st, ov⟩) 0 : Int) + k - ln < begA L (trv ⟨st, ov⟩) i + secN L (trv ⟨st, ov⟩) i
   ·have hany := g6 hc.1 hc.2
    clear g6 hin
    repeat' (first
     |with_reducible (first|refine q_and ?_ ?_|exact True.intro|exact TkEq.nil _|refine Red.o (by constructor) ?_|refine blockK_o' rfl ?_|refine LoopX_e' rfl ?_|assumption)
     |((with_reducible apply q_CI);intro hbq;(try simp only [bq] at hbq);(try (exfalso;omega)))
     |with_reducible (first|refine W_seq ?_|refine W_block ?_)
     |((with_reducible apply q_cond);refine X_cond rfl ?_ ?_;all_goals (intro hbq;(try simp only [bq] at hbq);(try (exfalso;omega))))
     |refine Rex.o (by (with_reducible constructor);apply Eq.refl) ?_
     |(intro (hgq : (_ : Bool) = true);(try simp only [bq] at hgq))
     |(intro (hgq : (_ : Bool) = false);(try simp only [bq] at hgq))
     |((with_reducible apply q_VOk);exact fun _ => ⟨rfl,rfl⟩)|(intro _;exact rfl)|((with_reducible apply q_CRB);kernel_rfl)|((with_reducible apply q_bt);simp only [bq])|((with_reducible apply q_eqN);rfl)|((with_reducible apply q_FE);exact rfl)|with_reducible (first|exact isByte_wrap _|exact isByte_nat _)|(simp only [hgq,bq];done)|omega|(dsimp only;omega))
    refine W_loopS (fun g : Nat × Bool => SS [sC 9 (pB 0), sC 10 (pB 1), sC 11 (pB 2), sC 18 (rOcc o), sI 19 run, sI 22 q, sI 23 ((secN L (trv ⟨st, ov⟩) 0 : Int) + k), sI 24 (begA L (trv ⟨st, ov⟩) i), sI 25 i, sI 26 (secN L (trv ⟨st, ov⟩) i), sB 27 g.2, sI 113 o.length, sI 114 g.1] [bLay L, bRte st ov, bS5 ⟨#[88]⟩ ln sp ac br]) (fun g => g.1 ≤ o.length ∧ g.2 = (o.take g.1).any (insB (st.getD (i : Int).toNat { sec := 0, dir := 0 }).sec q run)) (fun g => o.length - g.1) (0, false) ?_ ⟨by simp only; omega, rfl⟩ ?_
    ·
     refine X_weak rfl rfl rfl ?_ ?_ <;> repeat' (first|with_reducible (first|refine Wk.o (by constructor) ?_|refine q_and ?_ ?_|exact True.intro)|refine q_AgS rfl ?_ ?_|exact CLe.nil_tipS|exact CLe.nil_rowS|refine HLe.cells ?_ ?_|refine HLe.els ?_ ?_|refine SLe.cons ?_ ?_|exact (rfl : known _ = _)|with_reducible rfl|omega)
    rintro ⟨j, v⟩ ⟨hj, hv⟩
    simp only at hj hv
    by_cases hjl : j < o.length
    ·have hs := any_snoc o (insB (st.getD (i : Int).toNat { sec := 0, dir := 0 }).sec q run) hjl
     obtain ⟨v2, hv2⟩ : ∃ v2, v2 = (v || insB (st.getD (i : Int).toNat { sec := 0, dir := 0 }).sec q run (o.getD (j : Int).toNat { res := 0, frm := 0, til := 0 })) := ⟨_, rfl⟩
     have hv3 : v2 = (o.take (j + 1)).any (insB (st.getD (i : Int).toNat { sec := 0, dir := 0 }).sec q run) := by rw [hs, hv2, hv]; rfl
     unfold insB at hv2
     repeat' (first
      |with_reducible (first|refine q_and ?_ ?_|exact True.intro|exact TkEq.nil _|refine Red.o (by constructor) ?_|refine blockK_o' rfl ?_|refine LoopX_e' rfl ?_|assumption)
      |((with_reducible apply q_CI);intro hbq;(try simp only [bq] at hbq);(try (exfalso;omega)))
      |with_reducible (first|refine W_seq ?_|refine W_block ?_)
      |((with_reducible apply q_cond);refine X_cond rfl ?_ ?_;all_goals (intro hbq;(try simp only [bq] at hbq);(try (exfalso;omega))))
      |refine Rex.o (by (with_reducible constructor);apply Eq.refl) ?_
      |(intro (hgq : (_ : Bool) = true);(try simp only [bq] at hgq))
      |(intro (hgq : (_ : Bool) = false);(try simp only [bq] at hgq))
      |((with_reducible apply q_VOk);exact fun _ => ⟨rfl,rfl⟩)|(intro _;exact rfl)|((with_reducible apply q_CRB);kernel_rfl)|((with_reducible apply q_bt);simp only [bq])|((with_reducible apply q_eqN);rfl)|((with_reducible apply q_FE);exact rfl)|with_reducible (first|exact isByte_wrap _|exact isByte_nat _)|(simp only [hgq,bq];done)|omega|(dsimp only;omega))
     ·rename_i hg1
      exact hg1.1
     ·
      refine LoopK_n ((j + 1, v2)) ?_ (⟨by simp only; omega, hv3⟩) (by (try dsimp only); omega)
      refine X_weak rfl rfl rfl ?_ ?_ <;> repeat' (first|with_reducible (first|refine Wk.o (by constructor) ?_|refine q_and ?_ ?_|exact True.intro)|refine q_AgS rfl ?_ ?_|exact CLe.nil_tipS|exact CLe.nil_rowS|refine HLe.cells ?_ ?_|refine HLe.els ?_ ?_|refine SLe.cons ?_ ?_|exact (rfl : known _ = _)|with_reducible rfl|omega)
      all_goals exact hv2.symm
    ·have hje : j = o.length := by omega
     rw [hje, List.take_length] at hv
     have hv2 : v = true := by rw [hv]; exact hany
     subst hv2
     repeat' (first
      |with_reducible (first|refine q_and ?_ ?_|exact True.intro|exact TkEq.nil _|refine Red.o (by constructor) ?_|refine blockK_o' rfl ?_|refine LoopX_e' rfl ?_|assumption)
      |((with_reducible apply q_CI);intro hbq;(try simp only [bq] at hbq);(try (exfalso;omega)))
      |with_reducible (first|refine W_seq ?_|refine W_block ?_)
      |((with_reducible apply q_cond);refine X_cond rfl ?_ ?_;all_goals (intro hbq;(try simp only [bq] at hbq);(try (exfalso;omega))))
      |refine Rex.o (by (with_reducible constructor);apply Eq.refl) ?_
      |(intro (hgq : (_ : Bool) = true);(try simp only [bq] at hgq))
      |(intro (hgq : (_ : Bool) = false);(try simp only [bq] at hgq))
      |((with_reducible apply q_VOk);exact fun _ => ⟨rfl,rfl⟩)|(intro _;exact rfl)|((with_reducible apply q_CRB);kernel_rfl)|((with_reducible apply q_bt);simp only [bq])|((with_reducible apply q_eqN);rfl)|((with_reducible apply q_FE);exact rfl)|with_reducible (first|exact isByte_wrap _|exact isByte_nat _)|(simp only [hgq,bq];done)|omega|(dsimp only;omega))
     ·
      refine LoopK_n (i + 1) ?_ ((by omega)) (by (try dsimp only); omega)
      refine X_weak rfl rfl rfl ?_ ?_ <;> repeat' (first|with_reducible (first|refine Wk.o (by constructor) ?_|refine q_and ?_ ?_|exact True.intro)|refine q_AgS rfl ?_ ?_|exact CLe.nil_tipS|exact CLe.nil_rowS|refine HLe.cells ?_ ?_|refine HLe.els ?_ ?_|refine SLe.cons ?_ ?_|exact (rfl : known _ = _)|with_reducible rfl|omega)
   ·
    repeat' (first
     |with_reducible (first|refine q_and ?_ ?_|exact True.intro|exact TkEq.nil _|refine Red.o (by constructor) ?_|refine blockK_o' rfl ?_|refine LoopX_e' rfl ?_|assumption)
     |((with_reducible apply q_CI);intro hbq;(try simp only [bq] at hbq);(try (exfalso;omega)))
     |with_reducible (first|refine W_seq ?_|refine W_block ?_)
     |((with_reducible apply q_cond);refine X_cond rfl ?_ ?_;all_goals (intro hbq;(try simp only [bq] at hbq);(try (exfalso;omega))))
     |refine Rex.o (by (with_reducible constructor);apply Eq.refl) ?_
     |(intro (hgq : (_ : Bool) = true);(try simp only [bq] at hgq))
     |(intro (hgq : (_ : Bool) = false);(try simp only [bq] at hgq))
     |((with_reducible apply q_VOk);exact fun _ => ⟨rfl,rfl⟩)|(intro _;exact rfl)|((with_reducible apply q_CRB);kernel_rfl)|((with_reducible apply q_bt);simp only [bq])|((with_reducible apply q_eqN);rfl)|((with_reducible apply q_FE);exact rfl)|with_reducible (first|exact isByte_wrap _|exact isByte_nat _)|(simp only [hgq,bq];done)|omega|(dsimp only;omega))
    ·
     refine LoopK_n (i + 1) ?_ ((by omega)) (by (try dsimp only); omega)
     refine X_weak rfl rfl rfl ?_ ?_ <;> repeat' (first|with_reducible (first|refine Wk.o (by constructor) ?_|refine q_and ?_ ?_|exact True.intro)|refine q_AgS rfl ?_ ?_|exact CLe.nil_tipS|exact CLe.nil_rowS|refine HLe.cells ?_ ?_|refine HLe.els ?_ ?_|refine SLe.cons ?_ ?_|exact (rfl : known _ = _)|with_reducible rfl|omega)
  ·have hie : i = (trv ⟨st, ov⟩).length := by omega
   repeat' (first
    |with_reducible (first|refine q_and ?_ ?_|exact True.intro|exact TkEq.nil _|refine Red.o (by constructor) ?_|refine blockK_o' rfl ?_|refine LoopX_e' rfl ?_|assumption)
    |((with_reducible apply q_call);refine X_pure (hA) rfl ?_)
    |((with_reducible apply q_CI);intro hbq;(try simp only [bq] at hbq);(try (exfalso;omega)))
    |with_reducible (first|refine W_seq ?_|refine W_block ?_)
    |((with_reducible apply q_cond);refine X_cond rfl ?_ ?_;all_goals (intro hbq;(try simp only [bq] at hbq);(try (exfalso;omega))))
    |refine Rex.o (by (with_reducible constructor);apply Eq.refl) ?_
    |(intro (hgq : (_ : Bool) = true);(try simp only [bq] at hgq))
    |(intro (hgq : (_ : Bool) = false);(try simp only [bq] at hgq))
    |((with_reducible apply q_VOk);exact fun _ => ⟨rfl,rfl⟩)|(intro _;exact rfl)|((with_reducible apply q_CRB);kernel_rfl)|((with_reducible apply q_bt);simp only [bq])|((with_reducible apply q_eqN);rfl)|((with_reducible apply q_FE);exact rfl)|with_reducible (first|exact isByte_wrap _|exact isByte_nat _)|(simp only [hgq,bq];done)|omega|(dsimp only;omega))
   all_goals rfl
 ·rw [decide_eq_false h] at hF
  refine X_fnP mixedX Tryz.func3 rfl (by kernel_rfl) (Nat.le_of_ble_eq_true (by kernel_rfl)) (by kernel_rfl) rfl rfl ?_
  simp only [sl0, Nat.zero_add, Nat.reduceAdd]
  repeat' (first
   |with_reducible (first|refine q_and ?_ ?_|exact True.intro|exact TkEq.nil _|refine Red.o (by constructor) ?_|refine blockK_o' rfl ?_|refine LoopX_e' rfl ?_|assumption)
   |((with_reducible apply q_call);first|refine X_pure (hF) rfl ?_|refine X_pure (hA) rfl ?_)
   |((with_reducible apply q_CI);intro hbq;(try simp only [bq] at hbq);(try (exfalso;omega)))
   |with_reducible (first|refine W_seq ?_|refine W_block ?_)
   |((with_reducible apply q_cond);refine X_cond rfl ?_ ?_;all_goals (intro hbq;(try simp only [bq] at hbq);(try (exfalso;omega))))
   |refine Rex.o (by (with_reducible constructor);apply Eq.refl) ?_
   |(intro (hgq : (_ : Bool) = true);(try simp only [bq] at hgq))
   |(intro (hgq : (_ : Bool) = false);(try simp only [bq] at hgq))
   |((with_reducible apply q_VOk);exact fun _ => ⟨rfl,rfl⟩)|(intro _;exact rfl)|((with_reducible apply q_CRB);kernel_rfl)|((with_reducible apply q_bt);simp only [bq])|((with_reducible apply q_eqN);rfl)|((with_reducible apply q_FE);exact rfl)|with_reducible (first|exact isByte_wrap _|exact isByte_nat _)|(simp only [hgq,bq];done)|omega|(dsimp only;omega))
  all_goals rfl
end Go.Proofs.YtbpeakgihhdocaaGreat.Av
namespace Go.Proofs.YtbpeakgihhdocaaGreat
open Go.RowKit
theorem W.BlockingTrainIsInside (a0 : Option Addr) (len0 cap0 : Nat) (z0 : List Int) (a1 : Option Addr) (len1 cap1 : Nat) (z1 : List Int) (a2 : Option Addr) (len2 cap2 : Nat) (z2 : List Int) (a3 : Int) (w : World) (w0 : Av.IsRowI w a0 len0 cap0 z0) (w1 : Av.IsRowI w a1 len1 cap1 z1) (w2 : Av.IsRowI w a2 len2 cap2 z2) (w3 : (Lit.int .i64 a3).wf = true) (s0 : ∀ x, a0 = some x → x.spot = none) (s1 : ∀ x, a1 = some x → x.spot = none) (s2 : ∀ x, a2 = some x → x.spot = none) :
  Calls Tryz.prog 3 #[.slice a0 len0 cap0, .slice a1 len1 cap1, .slice a2 len2 cap2, .int .i64 a3] w fun e w' => e = .returned (.bool true) ∧ Below w.heap.size w w' := by
 obtain ⟨h0, b0⟩ := Av.rowI_rep w0 s0
 obtain ⟨h1, b1⟩ := Av.rowI_rep w1 s1
 obtain ⟨h2, b2⟩ := Av.rowI_rep w2 s2
 refine Av.law_calls (Av.trainInside_ok _ _ _ a3 b0 b1 b2) w _ rfl (fun i hi hi' l => ?_) (fun x hx => by
  simp at hx
  rcases hx with rfl | rfl | rfl | rfl <;> rfl)
 match i, hi with
 | 0, _ => exact h0 l
 | 1, _ => exact h1 l
 | 2, _ => exact h2 l
 | 3, _ => exact .v _ rfl
end Go.Proofs.YtbpeakgihhdocaaGreat
