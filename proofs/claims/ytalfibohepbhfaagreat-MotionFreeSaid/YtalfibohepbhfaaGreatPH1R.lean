/- What the claims use of their texts: AvT, AvR3, AvEl, BrA, Bl5, Bl6, Bl7, Bl9, Mp2, Mn0, Mp3, Sm2, BlA, Mn4, Wn5. -/
import Derived.Test.YtalfibohepbhfaaGreatPHF
set_option linter.unusedVariables false
set_option linter.unusedSimpArgs false
set_option maxRecDepth 4000
set_option maxHeartbeats 4000000
namespace Go.Proofs.YtalfibohepbhfaaGreat.Av
section
variable {s : St} {H : HB}
theorem ev_same {d : Nat} {x : AVal} : (s.put (some d) x).ev (.tmp d) = x := upd_same _ _ _
theorem ev_other {d t : Nat} {x : AVal} (h : t ≠ d) : (s.put (some d) x).ev (.tmp t) = s.ev (.tmp t) := upd_other _ _ h
theorem ev_setH {x : Operand} : (s.setH H).ev x = s.ev x := by cases x <;> rfl
end
section
variable {P : Program} {D : Array Oper → St → (St → Prop) → Prop} {n0 : Nat} {s : St} {K : AExit → St → Prop}
end
section
variable {P : Program} {ops : Array Oper} {s s' : St} {rest : List Oper} {d : Option Tmp} {ty : TypeId} {pos : String} {af : Array Edge} {g : Option (Nat × Bool)}
end
section
variable {P : Program} {ops : Array Oper} {s s' : St} {rest : List Oper} {d : Option Tmp} {ty : TypeId} {pos : String} {af : Array Edge} {g : Option (Nat × Bool)} {R : Rg}
variable {D : Array Oper → St → (St → Prop) → Prop} {n0 : Nat} {K : AExit → St → Prop}
theorem ee : (∀ (s : St) (d : Nat) (x : AVal), (s.put (some d) x).ev (.tmp d) = x) ∧ (∀ (s : St) (d t : Nat) (x : AVal), t ≠ d → (s.put (some d) x).ev (.tmp t) = s.ev (.tmp t)) ∧ (∀ (s : St) (x : AVal) (y : Operand), (s.put none x).ev y = s.ev y) ∧ (∀ (s : St) (H : HB) (x : Operand), (s.setH H).ev x = s.ev x) ∧
  (∀ (H : HB) (d : Nat) (x : AVal) (l : List (Nat × AVal)), (St.of H ((d, x) :: l)).ev (.tmp d) = x) ∧ (∀ (H : HB) (d t : Nat) (x : AVal) (l : List (Nat × AVal)), t ≠ d → (St.of H ((d, x) :: l)).ev (.tmp t) = (St.of H l).ev (.tmp t)) ∧
  (∀ (s : St) (k : IntKind) (n : Int), s.ev (.const (.int k n)) = .c (.f (.v (.int k n)))) ∧ (∀ (s : St) (b : Bool), s.ev (.const (.bool b)) = .c (.f (.v (.bool b)))) ∧ (∀ (s : St) (b : ByteArray), s.ev (.const (.string b)) = .c (.f (.v (.string b)))) ∧ (∀ s : St, s.ev (.const (.slice none 0 0)) = .c (.f .nils)) ∧ (∀ s : St, s.ev (.const (.pointer none)) = .c (.f (.v (.pointer none)))) ∧
  (∀ a b : Nat, (a ≠ b) = ¬ (a = b)) ∧ ((¬ False) = True) :=
 ⟨fun _ _ _ => ev_same, fun _ _ _ _ h => ev_other h, fun _ _ _ => rfl, fun _ _ _ => ev_setH, fun _ _ _ _ => ev_of_same, fun _ _ _ _ _ h => ev_of_other h, fun _ _ _ => rfl, fun _ _ => rfl, fun _ _ => rfl, fun _ => rfl, fun _ => rfl, fun _ _ => rfl, not_false_eq_true⟩
end
abbrev rOcc (l : List Occ) : SC := .row 3 fOcc vOcc ⟨0, 0, 0⟩ l
abbrev tOcc (l : List Occ) : SC := .tipr 3 fOcc vOcc (fun _ => none) ⟨0, 0, 0⟩ l
open Go.RowKit
theorem refFloor_okV (a b : Int) (ha : -9223372036854775808 ≤ a ∧ a ≤ 9223372036854775807) (hb : 1 ≤ b ∧ b ≤ 9223372036854775807) : OkV Tryz.prog 58 [.c (xI a), .c (xI b)] [] (vI (HDiv.hDiv a b)) [] := refFloor_ok a b ha hb
end Go.Proofs.YtalfibohepbhfaaGreat.Av
namespace Go.Proofs.YtalfibohepbhfaaGreat.Av
abbrev bOcc (l : List Occ) : Option SB := some (.els 3 fOcc vOcc mOcc ⟨0, 0, 0⟩ l)
def addO (t : List Occ) (x : Nat) (a b : Int) : List Occ := t.set x (if (t.getD x ⟨0, 0, 0⟩).frm < (t.getD x ⟨0, 0, 0⟩).til then ⟨x, min a (t.getD x ⟨0, 0, 0⟩).frm, max b (t.getD x ⟨0, 0, 0⟩).til⟩ else ⟨x, a, b⟩)
def usedO (o : Occ) : Bool := decide (o.frm < o.til)
abbrev bHull (n : Nat) : Option SB := some (.cells [.c (.arr 1 0 n n), .c (.arr 2 0 n n)])
def addH (hs : List Bool) (t : List Occ) (x : Nat) (a b : Int) : List Occ := t.set x (if hs.getD x false = true then ⟨x, min a (t.getD x ⟨0, 0, 0⟩).frm, max b (t.getD x ⟨0, 0, 0⟩).til⟩ else ⟨x, a, b⟩)
theorem hadd_ok (hs : List Bool) (t : List Occ) (x : Nat) (a b : Int) (hx : x < t.length) (hh : hs.length = t.length) (hl : t.length ≤ 1000) : OkV Tryz.prog 59 [.c (pB 0), .c (xI x), .c (xI a), .c (xI b)] [bHull t.length, bBool hs, bOcc t] (.tup []) [bHull t.length, bBool (hs.set x true), bOcc (addH hs t x a b)] := by
 unfold addH
 refine X_fn mixedX Tryz.func59 rfl (by kernel_rfl) (Nat.le_of_ble_eq_true (by kernel_rfl)) (by kernel_rfl) rfl rfl (Nat.le_of_ble_eq_true rfl) rfl rfl ?_
 simp only [sl0, Nat.zero_add, Nat.reduceAdd]
 repeat' (first|with_reducible (first|refine q_and ?_ ?_|exact True.intro)|((with_reducible apply q_CI);intro hbq;(try simp only [bq] at hbq);(try (exfalso;omega)))|refine Rex.o (by (with_reducible constructor);apply Eq.refl) ?_|((with_reducible apply q_VOk);exact fun _ => ⟨rfl,rfl⟩)|((with_reducible apply q_CRB);kernel_rfl)|omega)
 ·rfl
 ·exact Nat.le_refl _
 ·rfl
 ·rfl
 ·rw [if_pos (by simpa using hbq)]
  repeat' (first|with_reducible (first|refine Wk.o (by constructor) ?_|refine q_and ?_ ?_|exact True.intro)|rfl)
 ·rfl
 ·exact Nat.le_refl _
 ·rfl
 ·rfl
 ·rw [if_neg (by simpa using hbq)]
  repeat' (first|with_reducible (first|refine Wk.o (by constructor) ?_|refine q_and ?_ ?_|exact True.intro)|rfl)
section
variable (L : Lay) (r : Rte) (l sp ac br bf af : Int)
def spF (i : Nat) : Int := if i = 0 then -bf else if i < (trv r).length then entF L r l sp ac br (i - 1) / 1000 - 16 else entF L r l sp ac br ((trv r).length - 1) / 1000 - 16
def spT (i : Nat) : Int := if i + 1 < (trv r).length then Pl.cdiv (levF L r l sp ac br i) 1000 + 4 else if i + 1 = (trv r).length then runI L r l sp ac br + af else runI L r l sp ac br + 20
def ptT (i : Nat) : Int := if i < (trv r).length then spT L r l sp ac br af (i - 1) else spT L r l sp ac br af i
end
theorem cd_le {a b : Int} (h : a ≤ b) : a / 1000 ≤ Pl.cdiv b 1000 := by
 obtain ⟨b1, b2⟩ := Pl.cdiv_bracket b 1000 (by omega)
 omega
section
variable {L : Lay} {r : Rte} {l sp ac br bf af : Int} (h : Ride L r l sp ac br)
include h
theorem ent_le_lev {i j : Nat} (hij : i ≤ j + 1) (hj : j < (trv r).length) : entF L r l sp ac br i ≤ levF L r l sp ac br j := by
 have a := lev_in h hj
 have b := endA_mono L (trv r) (show i - 1 ≤ j by omega)
 exact ride_mono h (by omega) a.2
theorem ent_le_end {i : Nat} (hi : i ≤ (trv r).length) : entF L r l sp ac br i ≤ rideT L r l sp ac br (endA L (trv r) ((trv r).length - 1)) := by
 have b := endA_mono L (trv r) (show i - 1 ≤ (trv r).length - 1 by omega)
 exact ride_mono h b (Nat.le_refl _)
theorem lev_pos {j : Nat} (hj : j < (trv r).length) : 0 ≤ levF L r l sp ac br j := (h.rng _ (lev_in h hj).2).1
theorem spF_lt (hb : 0 ≤ bf) (ha : 0 ≤ af) (i : Nat) : spF L r l sp ac br bf i < spT L r l sp ac br af i := by
 have hn := h.n2
 unfold spF spT runI
 by_cases h0 : i = 0
 ·have a := lev_pos h (j := i) (by omega)
  have b := cd_le a
  rw [if_pos h0, if_pos (by omega)]
  omega
 ·rw [if_neg h0]
  by_cases h1 : i < (trv r).length
  ·rw [if_pos h1]
   by_cases h2 : i + 1 < (trv r).length
   ·rw [if_pos h2]
    have := cd_le (ent_le_lev h (i := i - 1) (j := i) (by omega) h1)
    omega
   ·rw [if_neg h2, if_pos (by omega)]
    have := cd_le (ent_le_end h (i := i - 1) (by omega))
    omega
  ·rw [if_neg h1, if_neg (by omega), if_neg (by omega)]
   have := cd_le (ent_le_end h (i := (trv r).length - 1) (by omega))
   omega
theorem ptF_lt (hb : 0 ≤ bf) (ha : 0 ≤ af) (i : Nat) (hi : 0 < i) : spF L r l sp ac br bf i < ptT L r l sp ac br af i := by
 unfold ptT
 by_cases h1 : i < (trv r).length
 ·rw [if_pos h1]
  unfold spF spT
  rw [if_neg (by omega), if_pos h1, if_pos (by omega)]
  have := cd_le (ent_le_lev h (i := i - 1) (j := i - 1) (by omega) (by omega))
  omega
 ·rw [if_neg h1]
  exact spF_lt h hb ha i
end
def tabS (L : Lay) (st : List Stp) (F T P : Nat → Int) (i : Nat) (t : List Occ) : List Occ :=
 let t1 := addO t (st.getD i st0).sec.toNat (F i) (T i)
 if i = 0 then t1 else
 match joinL L (st.getD (i - 1) st0) (st.getD i st0) with
 | some k => if k.pt < 0 then t1 else addO t1 (L.secs.length + k.pt.toNat) (F i) (P i)
 | none => t1
def tabL (L : Lay) (st : List Stp) (F T P : Nat → Int) : Nat → List Occ
 | 0 => List.replicate (L.secs.length + L.pts.length) ⟨0, 0, 0⟩
 | i + 1 => tabS L st F T P i (tabL L st F T P i)
theorem addO_len (t : List Occ) (x : Nat) (a b : Int) : (addO t x a b).length = t.length := by unfold addO; rw [List.length_set]
theorem tabS_len (L : Lay) (st : List Stp) (F T P : Nat → Int) (i : Nat) (t : List Occ) : (tabS L st F T P i t).length = t.length := by
 unfold tabS
 simp only
 split
 ·rw [addO_len]
 ·split
  ·split
   ·rw [addO_len]
   ·rw [addO_len, addO_len]
  ·rw [addO_len]
theorem tabL_len (L : Lay) (st : List Stp) (F T P : Nat → Int) : ∀ i, (tabL L st F T P i).length = L.secs.length + L.pts.length
 | 0 => by simp [tabL]
 | i + 1 => by rw [tabL, tabS_len]; exact tabL_len L st F T P i
theorem add_agree {hs : List Bool} {t : List Occ} (hh : hs = t.map usedO) (x : Nat) {a b : Int} (hab : a < b) : addH hs t x a b = addO t x a b ∧ hs.set x true = (addO t x a b).map usedO := by
 unfold addH addO
 by_cases hx : x < t.length
 ·have e : hs.getD x false = usedO (t.getD x ⟨0, 0, 0⟩) := by
   rw [hh, List.getD_eq_getElem?_getD, List.getD_eq_getElem?_getD, List.getElem?_map, List.getElem?_eq_getElem hx]
   rfl
  have e2 : (hs.getD x false = true) = ((t.getD x ⟨0, 0, 0⟩).frm < (t.getD x ⟨0, 0, 0⟩).til) := by
   rw [e]; unfold usedO; rw [decide_eq_true_eq]
  refine ⟨by simp only [e2], ?_⟩
  rw [List.map_set, ← hh]
  congr 1
  unfold usedO
  split
  ·rename_i c
   symm; rw [decide_eq_true_eq]; simp only; omega
  ·symm; rw [decide_eq_true_eq]; exact hab
 ·have h1 : ∀ y, t.set x y = t := fun y => List.set_eq_of_length_le (by omega)
  rw [h1, h1]
  exact ⟨rfl, by rw [List.set_eq_of_length_le (by rw [hh, List.length_map]; omega)]; exact hh⟩
def occL (L : Lay) (st : List Stp) (ov l sp ac br bf af : Int) : List Occ := (tabL L st (spF L ⟨st, ov⟩ l sp ac br bf) (spT L ⟨st, ov⟩ l sp ac br af) (ptT L ⟨st, ov⟩ l sp ac br af) st.length).filter usedO
def heldErr (L : Lay) (r : Rte) (l sp ac br bf af : Int) : Int := if fitErr L r l sp ac br ≠ 0 then fitErr L r l sp ac br else if bf < 0 ∨ 65536 < bf ∨ af < 0 ∨ 65536 < af then 4 else 0
section
variable (g : Nat → Int) (m : Nat) (N : Nat → Nat → Int) (R : Nat → Nat → Int) (O : Nat → Int) (ov late : Int)
theorem refI_none (a : Nat) (d : Int) : ∀ f i, (∀ j, i ≤ j → j ≤ m → ¬ d + N a (j - a - 1) < g j) → refI g m N a d f i = 0
 | 0, _, _ => rfl
 | f + 1, i, h => by
  unfold refI
  by_cases hm : m < i
  ·rw [if_pos hm]
  ·rw [if_neg hm, if_neg (h i (Nat.le_refl _) (by omega))]
   exact refI_none a d f (i + 1) fun j h1 h2 => h j (by omega) h2
theorem wlk_free {x : Int} (hm : 0 < m) (hg : ∀ j, j ≤ m → g j ≤ x - 16) (hN : ∀ k, k ≤ m → -16 ≤ N 0 k) : wlk g m N R O ov late (m + 1) 0 x = [⟨0, m, x, if 0 < ov ∧ x + O 0 < late then x + R 0 m + 30 else x + R 0 m⟩] := by
 have hd : legD g 0 x = x := by unfold legD; have := hg (0 + 1) (by omega); omega
 have hr : legR g m N 0 x = 0 := by
  unfold legR
  refine refI_none g m N 0 _ _ _ fun j h1 h2 => ?_
  rw [hd]
  have := hg j h2
  have := hN (j - 0 - 1) (by omega)
  omega
 have hb : legB g m N 0 x = m := by unfold legB; rw [hr, if_neg (by omega)]
 have hs : legS g m N R O ov late 0 x = if 0 < ov ∧ x + O 0 < late then x + R 0 m + 30 else x + R 0 m := by unfold legS; rw [hr, if_neg (by omega), hd]
 have he : ∀ f y, wlk g m N R O ov late f m y = [] := fun f y => by
  cases f with
  | zero => rfl
  | succ f => unfold wlk; rw [if_neg (by omega)]
 rw [wlk, if_pos hm, hb, hd, hs, he]
 rfl
end
section
variable {L : Lay} {st : List Stp} {ov l sp ac br : Int} (h : Ride L ⟨st, ov⟩ l sp ac br)
include h
end
set_option maxHeartbeats 40000000
structure Good (L : Lay) (st : List Stp) (ov ln sp ac br : Int) : Prop where
 mot : motErr L ⟨st, ov⟩ ln sp ac br = 0
 fit : fitErr L ⟨st, ov⟩ ln sp ac br = 0
 m : ((lastN st ov : Nat) : Int) = st.length - ov - 1
 m1 : 1 ≤ lastN st ov
 m2 : lastN st ov ≤ 23
 last : OkV Tryz.prog 15 [vR2 st ov] [] (vI (lastN st ov)) []
theorem good_of {L : Lay} {st : List Stp} {ov ln sp ac br : Int} (h : motErr L ⟨st, ov⟩ ln sp ac br = 0) : Good L st ov ln sp ac br := by
 have hf := (mot_of h).1
 have hR := rte_of (cel_rte (fit_of hf).1)
 obtain ⟨a, b, c⟩ := last_n hR
 have g1 := hR.ov0
 have g2 := hR.ov
 have g3 := hR.len
 simp only at g1 g2 g3
 have hl := rLast_ok st ov (by omega) (by omega)
 rw [← a] at hl
 exact ⟨h, hf, a, b, c, hl⟩
theorem part_whole {st : List Stp} {ov : Int} {m : Nat} (h : (m : Int) = st.length - ov - 1) : partR st ov 0 m = ⟨st, ov⟩ := by
 unfold partR
 rw [if_pos h, List.drop_zero]
theorem wlk_err {L : Lay} {st : List Stp} {ov l sp ac br rd late : Int} {gs : List Int} (hm : motErr L ⟨st, ov⟩ l sp ac br = 0) (hg : (gs.length : Int) = st.length - ov) (h1 : -4194304 ≤ rd ∧ rd ≤ 4194304) (h2 : -4194304 ≤ late ∧ late ≤ 4194304) (h3 : ∀ y ∈ gs, -4194304 ≤ y ∧ y ≤ 4194304) : wlkErr L st ov l sp ac br gs rd late = 0 := by
 have a1 : secB4 rd = true := by unfold secB4; simpa using h1
 have a2 : secB4 late = true := by unfold secB4; simpa using h2
 have a3 : gs.all secB4 = true := by
  rw [List.all_eq_true]
  intro y hy
  unfold secB4
  simpa using h3 y hy
 unfold wlkErr
 rw [if_neg (by simpa using hm), if_neg (by simpa using hg), a1, a2, a3]
 rfl
theorem free_walk {L : Lay} {st : List Stp} {ov l sp ac br rd late : Int} {gs : List Int} (h : fitErr L ⟨st, ov⟩ l sp ac br = 0) (hg : ∀ j, j ≤ lastN st ov → gs.getD j 0 ≤ rd - 16) : walkL L st ov l sp ac br gs rd late = [⟨0, lastN st ov, rd, if 0 < ov ∧ rd + ovlN L st ov l sp ac br 0 < late then rd + runI L ⟨st, ov⟩ l sp ac br + 30 else rd + runI L ⟨st, ov⟩ l sp ac br⟩] := by
 obtain ⟨n1, n2, n3⟩ := last_n (rte_of (cel_rte (fit_of h).1))
 have e : runN L st ov l sp ac br 0 (lastN st ov) = runI L ⟨st, ov⟩ l sp ac br := by
  unfold runN
  rw [part_whole n1]
 unfold walkL
 rw [wlk_free (fun i => gs.getD i 0) (lastN st ov) (needN L st ov l sp ac br) (runN L st ov l sp ac br) (ovlN L st ov l sp ac br) ov late (by omega) hg fun k hk => (needN_rng h (by omega) (by omega)).1, e]
theorem ovl_run {L : Lay} {st : List Stp} {ov l sp ac br : Int} (h : fitErr L ⟨st, ov⟩ l sp ac br = 0) : ovlN L st ov l sp ac br 0 ≤ runI L ⟨st, ov⟩ l sp ac br := by
 have hR := rte_of (cel_rte (fit_of h).1)
 obtain ⟨n1, n2, n3⟩ := last_n hR
 have hr := ride_of h
 have hpos := run_pos hr
 unfold ovlN
 rw [part_whole n1]
 unfold ovlF
 split
 ·have hl := partR_len h (a := 0) (b := lastN st ov) (by omega) (by omega)
  rw [part_whole n1] at hl
  have h1 := ent_le_end hr (i := lastN st ov - 0) (by omega)
  unfold runI
  obtain ⟨b1, b2⟩ := Pl.cdiv_bracket (rideT L ⟨st, ov⟩ l sp ac br (endA L (trv ⟨st, ov⟩) ((trv ⟨st, ov⟩).length - 1))) 1000 (by omega)
  omega
 ·omega
section
variable (g : Nat → Int) (m : Nat) (N : Nat → Nat → Int) (R : Nat → Nat → Int) (O : Nat → Int) (ov late : Int)
end
theorem same_leg_ok (l : List Leg) (hl : l.length ≤ 9223372036854775807) : OkV Tryz.prog 22 [.c (rLeg l), .c (rLeg l)] [] (vB true) [] := by
 refine X_fnP mixedX Tryz.func22 rfl (by kernel_rfl) (Nat.le_of_ble_eq_true (by kernel_rfl)) (by kernel_rfl) rfl rfl ?_
 simp only [sl0, Nat.zero_add, Nat.reduceAdd]
 repeat' (first|with_reducible (first|refine q_and ?_ ?_|exact True.intro|refine Red.o (by constructor) ?_|fail)|with_reducible (first|refine W_seq ?_|refine W_block ?_)|((with_reducible apply q_cond);refine X_cond rfl ?_ ?_;all_goals (intro hbq;(try simp only [bq] at hbq);(try (exfalso;omega))))|refine Rex.o (by (with_reducible constructor);apply Eq.refl) ?_|fail)
 refine W_loopS (fun i : Nat => SS [sC 0 (rLeg l), sC 1 (rLeg l), sI 12 l.length, sI 13 i] []) (fun i => i ≤ l.length) (fun i => l.length - i) 0 ?_ (by omega) ?_
 ·
  refine X_weak rfl rfl rfl ?_ ?_ <;> repeat' (first|with_reducible (first|refine Wk.o (by constructor) ?_|refine q_and ?_ ?_|exact True.intro)|refine q_AgS rfl ?_ ?_|exact (rfl : known _ = _)|omega)
 ·intro i hi
  repeat' (first|with_reducible (first|refine q_and ?_ ?_|exact True.intro|refine Red.o (by constructor) ?_|assumption)|with_reducible (first|refine W_seq ?_|refine W_block ?_)|((with_reducible apply q_cond);refine X_cond rfl ?_ ?_;all_goals (intro hbq;(try simp only [bq] at hbq);(try (exfalso;omega))))|refine Rex.o (by (with_reducible constructor);apply Eq.refl) ?_|((with_reducible apply q_VOk);exact fun _ => ⟨rfl,rfl⟩)|((with_reducible apply q_CRB);kernel_rfl)|omega)
  ·
   refine LoopK_n (i + 1) ?_ ((by omega)) (by (try dsimp only); omega)
   refine X_weak rfl rfl rfl ?_ ?_ <;> repeat' (first|with_reducible (first|refine Wk.o (by constructor) ?_|refine q_and ?_ ?_|exact True.intro)|refine q_AgS rfl ?_ ?_|exact (rfl : known _ = _)|omega)
  ·rfl
theorem hadd_okU (t : List Occ) (N : Nat) (x a b : Int) (hx : 0 ≤ x ∧ x < N) (hN : t.length = N) (hl : N ≤ 1000) (hab : a < b) : OkV Tryz.prog 59 [.c (pB 0), .c (xI x), .c (xI a), .c (xI b)] [bHull N, bBool (t.map usedO), bOcc t] (.tup []) [bHull N, bBool ((addO t x.toNat a b).map usedO), bOcc (addO t x.toNat a b)] := by
 have h := hadd_ok (t.map usedO) t x.toNat a b (by omega) (by rw [List.length_map]) (by omega)
 obtain ⟨e1, e2⟩ := add_agree (hs := t.map usedO) (t := t) rfl x.toNat hab
 rw [e1, e2, hN, Int.toNat_of_nonneg hx.1] at h
 exact h
abbrev bHs (t : List Occ) : Option SB := bBool (t.map usedO)
def lastT (T : Nat → Int) (i : Nat) : Int := if i = 0 then 0 else T (i - 1)
theorem refHeld_bad (L : Lay) (hL : LayFits L) (st : List Stp) (ov : Int) (hl : st.length ≤ 9223372036854775807) (ho : -9223372036854775808 ≤ ov ∧ ov ≤ 9223372036854775807) (nm : ByteArray) (l sp ac br bf af : Int) (h : ¬ heldErr L ⟨st, ov⟩ l sp ac br bf af = 0) : OkV Tryz.prog 37 [vLay L, vR2 st ov, vS5 nm l sp ac br, .c (xI bf), .c (xI af)] [] (.tup [.c (rOcc []), .c (xI 0), .c (xI (heldErr L ⟨st, ov⟩ l sp ac br bf af))]) [] := by
 have hF := refFits_ok L hL st ov hl ho nm l sp ac br
 have i1 := in_ok bf 0 65536
 have i2 := in_ok af 0 65536
 unfold heldErr at h ⊢
 generalize fitErr L ⟨st, ov⟩ l sp ac br = e at *
 unfold vLay at hF ⊢
 by_cases he : e = 0
 ·rw [if_neg (by simpa using he)] at h ⊢
  have hc : bf < 0 ∨ 65536 < bf ∨ af < 0 ∨ 65536 < af := Classical.byContradiction fun hn => h (if_neg hn)
  rw [if_pos hc]
  subst he
  refine X_fn mixedX Tryz.func37 rfl (by kernel_rfl) (Nat.le_of_ble_eq_true (by kernel_rfl)) (by kernel_rfl) rfl rfl (Nat.le_of_ble_eq_true rfl) rfl rfl ?_
  simp only [sl0, Nat.zero_add, Nat.reduceAdd]
  repeat' (first|with_reducible (first|refine q_and ?_ ?_|exact True.intro|exact TkEq.nil _|refine Red.o (by constructor) ?_|fail)|((with_reducible apply q_call);first|refine X_pure (hF) rfl ?_|refine X_pure (i1) rfl ?_)|((with_reducible apply q_callG);refine X_pureG ((fun _ => i2)) rfl ?_ ?_)|with_reducible (refine W_seq ?_)|((with_reducible apply q_cond);refine X_cond rfl ?_ ?_;all_goals (intro hbq;(try simp only [bq] at hbq);(try (exfalso;omega))))|refine Rex.o (by (with_reducible constructor);apply Eq.refl) ?_|(intro (hgq : (_ : Bool) = true);(try simp only [bq] at hgq))|(intro (hgq : (_ : Bool) = false);(try simp only [bq] at hgq))|((with_reducible apply q_bt);simp only [bq])|(simp only [hgq,bq];done))
  ·rfl
 ·rw [if_pos he]
  refine X_fn mixedX Tryz.func37 rfl (by kernel_rfl) (Nat.le_of_ble_eq_true (by kernel_rfl)) (by kernel_rfl) rfl rfl (Nat.le_of_ble_eq_true rfl) rfl rfl ?_
  simp only [sl0, Nat.zero_add, Nat.reduceAdd]
  repeat' (first|with_reducible (first|refine q_and ?_ ?_|exact True.intro|exact TkEq.nil _|refine Red.o (by constructor) ?_|fail)|((with_reducible apply q_call);refine X_pure (hF) rfl ?_)|with_reducible (refine W_seq ?_)|((with_reducible apply q_cond);refine X_cond rfl ?_ ?_;all_goals (intro hbq;(try simp only [bq] at hbq);(try (exfalso;omega))))|refine Rex.o (by (with_reducible constructor);apply Eq.refl) ?_|fail)
  ·rfl
theorem refHeld_ok (L : Lay) (hL : LayFits L) (st : List Stp) (ov : Int) (hl : st.length ≤ 9223372036854775807) (ho : -9223372036854775808 ≤ ov ∧ ov ≤ 9223372036854775807) (nm : ByteArray) (l sp ac br bf af : Int) (h : fitErr L ⟨st, ov⟩ l sp ac br = 0) (hb : 0 ≤ bf ∧ bf ≤ 65536) (ha : 0 ≤ af ∧ af ≤ 65536) : OkV Tryz.prog 37 [vLay L, vR2 st ov, vS5 nm l sp ac br, .c (xI bf), .c (xI af)] [] (.tup [.c (rOcc (occL L st ov l sp ac br bf af)), .c (xI (runI L ⟨st, ov⟩ l sp ac br)), .c (xI 0)]) [] := by
 have hF := refFits_ok L hL st ov hl ho nm l sp ac br
 rw [h] at hF
 have i1 := in_ok bf 0 65536
 have i2 := in_ok af 0 65536
 have hP := passing_ok L hL st ov hl ho nm l sp ac br h
 have hR := ride_of h
 have hn2 := hR.n2
 have hn24 := hR.n24
 have hFT := fun i => spF_lt hR hb.1 ha.1 i
 have hFP := fun i h0 => ptF_lt hR hb.1 ha.1 i h0
 have hE1 := row_len (trv ⟨st, ov⟩).length fun k => rideT L ⟨st, ov⟩ l sp ac br (endA L (trv ⟨st, ov⟩) (k - 1))
 have hE2 : ∀ k, k < (trv ⟨st, ov⟩).length → (entL L ⟨st, ov⟩ l sp ac br (trv ⟨st, ov⟩).length).getD k 0 = entF L ⟨st, ov⟩ l sp ac br k := fun k hk => row_get hk
 have hL1 := row_len (trv ⟨st, ov⟩).length (levF L ⟨st, ov⟩ l sp ac br)
 have hL2 : ∀ k, k < (trv ⟨st, ov⟩).length → (levL L ⟨st, ov⟩ l sp ac br (trv ⟨st, ov⟩).length).getD k 0 = levF L ⟨st, ov⟩ l sp ac br k := fun k hk => row_get hk
 change (entL L ⟨st, ov⟩ l sp ac br (trv ⟨st, ov⟩).length).length = _ at hE1
 change (levL L ⟨st, ov⟩ l sp ac br (trv ⟨st, ov⟩).length).length = _ at hL1
 have hEb : ∀ k, k < (trv ⟨st, ov⟩).length → 0 ≤ entF L ⟨st, ov⟩ l sp ac br k ∧ entF L ⟨st, ov⟩ l sp ac br k ≤ 80000000 := fun k hk => hR.rng _ (endA_mono L _ (by omega))
 have hLb : ∀ k, k < (trv ⟨st, ov⟩).length → 0 ≤ levF L ⟨st, ov⟩ l sp ac br k ∧ levF L ⟨st, ov⟩ l sp ac br k ≤ 80000000 := fun k hk => hR.rng _ (lev_in hR hk).2
 have hrb : -1 ≤ runI L ⟨st, ov⟩ l sp ac br ∧ runI L ⟨st, ov⟩ l sp ac br ≤ 80001 := by
  have a := hR.rng _ (Nat.le_refl _)
  obtain ⟨b1, b2⟩ := Pl.cdiv_bracket (rideT L ⟨st, ov⟩ l sp ac br (endA L (trv ⟨st, ov⟩) ((trv ⟨st, ov⟩).length - 1))) 1000 (by omega)
  unfold runI
  omega
 have f0 : spF L ⟨st, ov⟩ l sp ac br bf 0 = -bf := rfl
 have f1 : ∀ i, 0 < i → i < (trv ⟨st, ov⟩).length → spF L ⟨st, ov⟩ l sp ac br bf i = entF L ⟨st, ov⟩ l sp ac br (i - 1) / 1000 - 16 := fun i h0 hi => by
  unfold spF; rw [if_neg (by omega), if_pos hi]
 have f2 : ∀ i, (trv ⟨st, ov⟩).length ≤ i → spF L ⟨st, ov⟩ l sp ac br bf i = entF L ⟨st, ov⟩ l sp ac br ((trv ⟨st, ov⟩).length - 1) / 1000 - 16 := fun i hi => by
  unfold spF; rw [if_neg (by omega), if_neg (by omega)]
 have t0 : ∀ i, i + 1 < (trv ⟨st, ov⟩).length → spT L ⟨st, ov⟩ l sp ac br af i = Pl.cdiv (levF L ⟨st, ov⟩ l sp ac br i) 1000 + 4 := fun i hi => by
  unfold spT; rw [if_pos hi]
 have t1 : ∀ i, i + 1 = (trv ⟨st, ov⟩).length → spT L ⟨st, ov⟩ l sp ac br af i = runI L ⟨st, ov⟩ l sp ac br + af := fun i hi => by
  unfold spT; rw [if_neg (by omega), if_pos hi]
 have t2 : ∀ i, (trv ⟨st, ov⟩).length ≤ i → spT L ⟨st, ov⟩ l sp ac br af i = runI L ⟨st, ov⟩ l sp ac br + 20 := fun i hi => by
  unfold spT; rw [if_neg (by omega), if_neg (by omega)]
 have p1 : ∀ i, 0 < i → i < (trv ⟨st, ov⟩).length → ptT L ⟨st, ov⟩ l sp ac br af i = spT L ⟨st, ov⟩ l sp ac br af (i - 1) := fun i h0 hi => by unfold ptT; rw [if_pos hi]
 have p2 : ∀ i, (trv ⟨st, ov⟩).length ≤ i → ptT L ⟨st, ov⟩ l sp ac br af i = spT L ⟨st, ov⟩ l sp ac br af i := fun i hi => by unfold ptT; rw [if_neg (by omega)]
 have hRt := hR.rt
 have hV := valid_of hRt.lay
 have hsx : ∀ i, i < st.length → Stp.ok L (st.getD i st0) = true := fun i hi => all_at hRt.ok hi
 have hNb : L.secs.length + L.pts.length ≤ 1000 := by have := hV.n2; have := hV.n3; omega
 have hJ := fun a b => joined_ok L a b hV
 have hst24 := hRt.len
 simp only at hst24
 have hgl := fun i => tabL_len L st (spF L ⟨st, ov⟩ l sp ac br bf) (spT L ⟨st, ov⟩ l sp ac br af) (ptT L ⟨st, ov⟩ l sp ac br af) i
 have hjn : ∀ i, 0 < i → i < st.length → ∃ k, joinL L (st.getD (i - 1) st0) (st.getD i st0) = some k ∧ -1 ≤ k.pt ∧ k.pt < L.pts.length := fun i h0 hi => join_at hRt h0 hi
 have eN : ((L.secs.length : Int) + L.pts.length).toNat = L.secs.length + L.pts.length := by omega
 unfold occL
 generalize entL L ⟨st, ov⟩ l sp ac br (trv ⟨st, ov⟩).length = es at *
 generalize levL L ⟨st, ov⟩ l sp ac br (trv ⟨st, ov⟩).length = lv at *
 generalize spF L ⟨st, ov⟩ l sp ac br bf = F at *
 generalize spT L ⟨st, ov⟩ l sp ac br af = T at *
 generalize ptT L ⟨st, ov⟩ l sp ac br af = P at *
 generalize runI L ⟨st, ov⟩ l sp ac br = run at *
 generalize entF L ⟨st, ov⟩ l sp ac br = E at *
 generalize levF L ⟨st, ov⟩ l sp ac br = V at *
 generalize hnn : (trv ⟨st, ov⟩).length = n at *
 clear hR h hV hRt
 unfold vLay at hF hP hJ ⊢
 refine X_fn mixedX Tryz.func37 rfl (by kernel_rfl) (Nat.le_of_ble_eq_true (by kernel_rfl)) (by kernel_rfl) rfl rfl (Nat.le_of_ble_eq_true rfl) rfl rfl ?_
 simp only [sl0, Nat.zero_add, Nat.reduceAdd]
 repeat' (first|with_reducible (first|refine q_and ?_ ?_|exact True.intro|refine Red.o (by constructor) ?_|fail)|((with_reducible apply q_call);first|refine X_pure (hF) rfl ?_|refine X_pure (i1) rfl ?_|refine X_pure (hP) rfl ?_)|((with_reducible apply q_callG);refine X_pureG ((fun _ => i2)) rfl ?_ ?_)|((with_reducible apply q_W);refine W_two [0, 2] 1 3 [4, 5, 6] 3 (by kernel_rfl) rfl rfl rfl rfl ?_)|((with_reducible apply q_TB);kernel_rfl)|((with_reducible apply q_LB);exact LB_SS rfl)|((with_reducible apply q_RK);refine RK_SS rfl ?_)|with_reducible (first|refine W_seq ?_|refine W_block ?_)|((with_reducible apply q_cond);refine X_cond rfl ?_ ?_;all_goals (intro hbq;(try simp only [bq] at hbq);(try (exfalso;omega))))|refine Rex.o (by (with_reducible constructor);apply Eq.refl) ?_|(intro (hgq : (_ : Bool) = true);(try simp only [bq] at hgq))|(intro (hgq : (_ : Bool) = false);(try simp only [bq] at hgq))|((with_reducible apply q_bt);simp only [bq])|(simp only [hgq,bq];done)|omega|(dsimp only;omega))
 all_goals (
  refine W_loopS (fun i : Nat => SS [sI 3 bf, sI 4 af, sC 5 (pB 0), sC 6 (pB 1), sC 14 (rInt es), sC 15 (rInt lv), sI 16 run, sI 18 ((L.secs.length : Int) + L.pts.length), sC 19 (pB 5), sI 20 ((n : Int) - 1), sI 21 (lastT T i), sI 22 i] [bLay L, bRte st ov, none, bHs (tabL L st F T P i), bOcc (tabL L st F T P i), some (.cells [.c (.arr 3 0 (L.secs.length + L.pts.length) (L.secs.length + L.pts.length)), .c (.arr 4 0 (L.secs.length + L.pts.length) (L.secs.length + L.pts.length))])]) (fun i => i ≤ st.length) (fun i => st.length - i) 0 ?_ (by omega) ?_
  ·
   refine X_weak rfl rfl rfl ?_ ?_ <;> repeat' (first|with_reducible (first|refine Wk.o (by constructor) ?_|refine q_and ?_ ?_|exact True.intro)|refine q_AgS rfl ?_ ?_|exact (rfl : known _ = _)|omega)
   all_goals first
    | omega
    | rfl
    | exact eN
    | (rw [eN]; rfl)
    | (rw [eN]; simp [tabL, usedO]; done)
    | (rw [hE1]; done)
  intro i hi
  have hTl := hgl i
  by_cases hil : i < st.length
  ·have s1 : 0 ≤ (st.getD (i : Int).toNat { sec := 0, dir := 0 }).sec ∧ (st.getD (i : Int).toNat { sec := 0, dir := 0 }).sec < L.secs.length := ⟨(ok_dir (hsx i hil)).1, (ok_dir (hsx i hil)).2.1⟩
   have e0 : tabL L st F T P (i + 1) = tabS L st F T P i (tabL L st F T P i) := rfl
   have hlt : lastT T (i + 1) = T i := rfl
   by_cases hi0 : i = 0
   ·have c1 : lv.getD (0 : Int).toNat 0 = V 0 := hL2 0 (by omega)
    have c2 := hLb 0 (by omega)
    have hU := refCeil_okV (lv.getD (0 : Int).toNat 0) 1000 (by omega) (by omega)
    have hub := Pl.cdiv_bracket (lv.getD (0 : Int).toNat 0) 1000 (by omega)
    have eT : Pl.cdiv (lv.getD (0 : Int).toNat 0) 1000 + 4 = T i := by rw [c1, hi0, t0 0 (by omega)]
    have eF : -bf = F i := by rw [hi0, f0]
    have hA1 := hadd_okU (tabL L st F T P i) (L.secs.length + L.pts.length) (st.getD (i : Int).toNat { sec := 0, dir := 0 }).sec (-bf) (Pl.cdiv (lv.getD (0 : Int).toNat 0) 1000 + 4) ⟨s1.1, by omega⟩ hTl hNb (by rw [eF, eT]; exact hFT i)
    have e1 : tabL L st F T P (i + 1) = addO (tabL L st F T P i) (st.getD (i : Int).toNat { sec := 0, dir := 0 }).sec.toNat (-bf) (Pl.cdiv (lv.getD (0 : Int).toNat 0) 1000 + 4) := by
     rw [e0, eF, eT, Int.toNat_natCast]; unfold tabS; rw [if_pos hi0]
    repeat' (first|with_reducible (first|refine q_and ?_ ?_|exact True.intro|refine Red.o (by constructor) ?_|assumption)|((with_reducible apply q_call);first|refine X_pure (hU) rfl ?_|refine X_call [5,3,4] (hA1) rfl rfl rfl rfl rfl rfl rfl rfl rfl rfl rfl rfl rfl ?_)|with_reducible (first|refine W_seq ?_|refine W_block ?_)|((with_reducible apply q_cond);refine X_cond rfl ?_ ?_;all_goals (intro hbq;(try simp only [bq] at hbq);(try (exfalso;omega))))|refine Rex.o (by (with_reducible constructor);apply Eq.refl) ?_|((with_reducible apply q_VOk);exact fun _ => ⟨rfl,rfl⟩)|omega)
    ·
     refine LoopK_n (i + 1) ?_ ((by omega)) (by (try dsimp only); omega)
     refine X_weak rfl rfl rfl ?_ ?_ <;> repeat' (first|with_reducible (first|refine Wk.o (by constructor) ?_|refine q_and ?_ ?_|exact True.intro)|refine q_AgS rfl ?_ ?_|exact (rfl : known _ = _)|omega)
     all_goals first
      | (rw [hlt]; exact eT)
      | rw [e1]
   ·have q1 : 0 < i := by omega
    obtain ⟨j, hj, hj1, hj2⟩ := hjn i q1 hil
    have eI : ((i : Int) - 1).toNat = i - 1 := by omega
    have hlp : lastT T i = T (i - 1) := if_neg hi0
    have hB := hJ (st.getD ((i : Int) - 1).toNat { sec := 0, dir := 0 }) (st.getD (i : Int).toNat { sec := 0, dir := 0 })
    rw [show joinL L (st.getD ((i : Int) - 1).toNat { sec := 0, dir := 0 }) (st.getD (i : Int).toNat { sec := 0, dir := 0 }) = some j by rw [eI]; exact hj] at hB
    simp only [Option.getD_some, Option.isSome_some] at hB
    have key : ∀ A B : Int, A = F i → B = T i → OkV Tryz.prog 59 [.c (pB 0), .c (xI (st.getD (i : Int).toNat { sec := 0, dir := 0 }).sec), .c (xI A), .c (xI B)] [bHull (L.secs.length + L.pts.length), bHs (tabL L st F T P i), bOcc (tabL L st F T P i)] (.tup []) [bHull (L.secs.length + L.pts.length), bHs (addO (tabL L st F T P i) (st.getD (i : Int).toNat { sec := 0, dir := 0 }).sec.toNat A B), bOcc (addO (tabL L st F T P i) (st.getD (i : Int).toNat { sec := 0, dir := 0 }).sec.toNat A B)] := fun A B hA hB => hadd_okU _ _ _ _ _ ⟨s1.1, by omega⟩ hTl hNb (by rw [hA, hB]; exact hFT i)
    have hAl : ∀ A B : Int, (addO (tabL L st F T P i) (st.getD (i : Int).toNat { sec := 0, dir := 0 }).sec.toNat A B).length = L.secs.length + L.pts.length := fun A B => by rw [addO_len, hTl]
    have key2 : ¬ j.pt < 0 → ∀ A B Q : Int, A = F i → Q = P i → OkV Tryz.prog 59 [.c (pB 0), .c (xI ((L.secs.length : Int) + j.pt)), .c (xI A), .c (xI Q)] [bHull (L.secs.length + L.pts.length), bHs (addO (tabL L st F T P i) (st.getD (i : Int).toNat { sec := 0, dir := 0 }).sec.toNat A B), bOcc (addO (tabL L st F T P i) (st.getD (i : Int).toNat { sec := 0, dir := 0 }).sec.toNat A B)] (.tup []) [bHull (L.secs.length + L.pts.length), bHs (addO (addO (tabL L st F T P i) (st.getD (i : Int).toNat { sec := 0, dir := 0 }).sec.toNat A B) ((L.secs.length : Int) + j.pt).toNat A Q), bOcc (addO (addO (tabL L st F T P i) (st.getD (i : Int).toNat { sec := 0, dir := 0 }).sec.toNat A B) ((L.secs.length : Int) + j.pt).toNat A Q)] := fun hp A B Q hA hQ => hadd_okU _ _ _ _ _ ⟨by omega, by omega⟩ (hAl A B) hNb (by rw [hA, hQ]; exact hFP i q1)
    have e1 : j.pt < 0 → ∀ A B : Int, A = F i → B = T i → tabL L st F T P (i + 1) = addO (tabL L st F T P i) (st.getD (i : Int).toNat { sec := 0, dir := 0 }).sec.toNat A B := fun hp A B hA hB => by
     rw [e0, hA, hB, Int.toNat_natCast]; unfold tabS; rw [if_neg hi0, hj]; simp only; rw [if_pos hp]
    have e2 : ¬ j.pt < 0 → ∀ A B Q : Int, A = F i → B = T i → Q = P i → tabL L st F T P (i + 1) = addO (addO (tabL L st F T P i) (st.getD (i : Int).toNat { sec := 0, dir := 0 }).sec.toNat A B) ((L.secs.length : Int) + j.pt).toNat A Q := fun hp A B Q hA hB hQ => by
     rw [e0, hA, hB, hQ, Int.toNat_natCast]; unfold tabS; rw [if_neg hi0, hj]; simp only; rw [if_neg hp, show ((L.secs.length : Int) + j.pt).toNat = L.secs.length + j.pt.toNat by omega]
    rcases Nat.lt_trichotomy (i + 1) n with hin | hin | hin
    ·have c1 : es.getD ((i : Int) - 1).toNat 0 = E (i - 1) := by rw [eI]; exact hE2 (i - 1) (by omega)
     have c2 : lv.getD (i : Int).toNat 0 = V i := hL2 i (by omega)
     have c3 := hEb (i - 1) (by omega)
     have c4 := hLb i (by omega)
     have hD := refFloor_okV (es.getD ((i : Int) - 1).toNat 0) 1000 (by omega) (by omega)
     have hU := refCeil_okV (lv.getD (i : Int).toNat 0) 1000 (by omega) (by omega)
     have hub := Pl.cdiv_bracket (lv.getD (i : Int).toNat 0) 1000 (by omega)
     have eF : es.getD ((i : Int) - 1).toNat 0 / 1000 - 16 = F i := by rw [c1, f1 i q1 (by omega)]
     have eT : Pl.cdiv (lv.getD (i : Int).toNat 0) 1000 + 4 = T i := by rw [c2, t0 i hin]
     have eP : lastT T i = P i := by rw [hlp, p1 i q1 (by omega)]
     have hA1 := key _ _ eF eT
     by_cases hjp : j.pt < 0
     ·have ee := e1 hjp _ _ eF eT
      clear key key2 e1 e2
      repeat' (first|with_reducible (first|refine q_and ?_ ?_|exact True.intro|refine Red.o (by constructor) ?_|assumption)|((with_reducible apply q_call);first|refine X_pure (hD) rfl ?_|refine X_pure (hU) rfl ?_|refine X_pure (hB) rfl ?_|refine X_call [5,3,4] (hA1) rfl rfl rfl rfl rfl rfl rfl rfl rfl rfl rfl rfl rfl ?_)|with_reducible (first|refine W_seq ?_|refine W_block ?_)|((with_reducible apply q_cond);refine X_cond rfl ?_ ?_;all_goals (intro hbq;(try simp only [bq] at hbq);(try (exfalso;omega))))|refine Rex.o (by (with_reducible constructor);apply Eq.refl) ?_|((with_reducible apply q_VOk);exact fun _ => ⟨rfl,rfl⟩)|((with_reducible apply q_CRB);kernel_rfl)|omega)
      ·
       refine LoopK_n (i + 1) ?_ ((by omega)) (by (try dsimp only); omega)
       refine X_weak rfl rfl rfl ?_ ?_ <;> repeat' (first|with_reducible (first|refine Wk.o (by constructor) ?_|refine q_and ?_ ?_|exact True.intro)|refine q_AgS rfl ?_ ?_|exact (rfl : known _ = _)|omega)
       all_goals first
        | (rw [hlt]; exact eT)
        | rw [ee]
     ·have ee := e2 hjp _ _ _ eF eT eP
      have hA2 := key2 hjp _ (Pl.cdiv (lv.getD (i : Int).toNat 0) 1000 + 4) _ eF eP
      clear key key2 e1 e2
      repeat' (first|with_reducible (first|refine q_and ?_ ?_|exact True.intro|refine Red.o (by constructor) ?_|assumption)|((with_reducible apply q_call);first|refine X_pure (hD) rfl ?_|refine X_pure (hU) rfl ?_|refine X_pure (hB) rfl ?_|refine X_call [5,3,4] (hA1) rfl rfl rfl rfl rfl rfl rfl rfl rfl rfl rfl rfl rfl ?_|refine X_call [5,3,4] (hA2) rfl rfl rfl rfl rfl rfl rfl rfl rfl rfl rfl rfl rfl ?_)|with_reducible (first|refine W_seq ?_|refine W_block ?_)|((with_reducible apply q_cond);refine X_cond rfl ?_ ?_;all_goals (intro hbq;(try simp only [bq] at hbq);(try (exfalso;omega))))|refine Rex.o (by (with_reducible constructor);apply Eq.refl) ?_|((with_reducible apply q_VOk);exact fun _ => ⟨rfl,rfl⟩)|((with_reducible apply q_CRB);kernel_rfl)|omega)
      ·
       refine LoopK_n (i + 1) ?_ ((by omega)) (by (try dsimp only); omega)
       refine X_weak rfl rfl rfl ?_ ?_ <;> repeat' (first|with_reducible (first|refine Wk.o (by constructor) ?_|refine q_and ?_ ?_|exact True.intro)|refine q_AgS rfl ?_ ?_|exact (rfl : known _ = _)|omega)
       all_goals first
        | (rw [hlt]; exact eT)
        | rw [ee]
    ·have c1 : es.getD ((n : Int) - 1 - 1).toNat 0 = E (n - 2) := by rw [show ((n : Int) - 1 - 1).toNat = n - 2 by omega]; exact hE2 (n - 2) (by omega)
     have c3 := hEb (n - 2) (by omega)
     have hD := refFloor_okV (es.getD ((n : Int) - 1 - 1).toNat 0) 1000 (by omega) (by omega)
     have eF : es.getD ((n : Int) - 1 - 1).toNat 0 / 1000 - 16 = F i := by rw [c1, f1 i q1 (by omega), show i - 1 = n - 2 by omega]
     have eT : run + af = T i := (t1 i hin).symm
     have eP : lastT T i = P i := by rw [hlp, p1 i q1 (by omega)]
     have hA1 := key _ _ eF eT
     by_cases hjp : j.pt < 0
     ·have ee := e1 hjp _ _ eF eT
      clear key key2 e1 e2
      repeat' (first|with_reducible (first|refine q_and ?_ ?_|exact True.intro|refine Red.o (by constructor) ?_|assumption)|((with_reducible apply q_call);first|refine X_pure (hD) rfl ?_|refine X_pure (hB) rfl ?_|refine X_call [5,3,4] (hA1) rfl rfl rfl rfl rfl rfl rfl rfl rfl rfl rfl rfl rfl ?_)|with_reducible (first|refine W_seq ?_|refine W_block ?_)|((with_reducible apply q_cond);refine X_cond rfl ?_ ?_;all_goals (intro hbq;(try simp only [bq] at hbq);(try (exfalso;omega))))|refine Rex.o (by (with_reducible constructor);apply Eq.refl) ?_|((with_reducible apply q_VOk);exact fun _ => ⟨rfl,rfl⟩)|((with_reducible apply q_CRB);kernel_rfl)|omega)
      ·
       refine LoopK_n (i + 1) ?_ ((by omega)) (by (try dsimp only); omega)
       refine X_weak rfl rfl rfl ?_ ?_ <;> repeat' (first|with_reducible (first|refine Wk.o (by constructor) ?_|refine q_and ?_ ?_|exact True.intro)|refine q_AgS rfl ?_ ?_|exact (rfl : known _ = _)|omega)
       all_goals first
        | (rw [hlt]; exact eT)
        | rw [ee]
     ·have ee := e2 hjp _ _ _ eF eT eP
      have hA2 := key2 hjp _ (run + af) _ eF eP
      clear key key2 e1 e2
      repeat' (first|with_reducible (first|refine q_and ?_ ?_|exact True.intro|refine Red.o (by constructor) ?_|assumption)|((with_reducible apply q_call);first|refine X_pure (hD) rfl ?_|refine X_pure (hB) rfl ?_|refine X_call [5,3,4] (hA1) rfl rfl rfl rfl rfl rfl rfl rfl rfl rfl rfl rfl rfl ?_|refine X_call [5,3,4] (hA2) rfl rfl rfl rfl rfl rfl rfl rfl rfl rfl rfl rfl rfl ?_)|with_reducible (first|refine W_seq ?_|refine W_block ?_)|((with_reducible apply q_cond);refine X_cond rfl ?_ ?_;all_goals (intro hbq;(try simp only [bq] at hbq);(try (exfalso;omega))))|refine Rex.o (by (with_reducible constructor);apply Eq.refl) ?_|((with_reducible apply q_VOk);exact fun _ => ⟨rfl,rfl⟩)|((with_reducible apply q_CRB);kernel_rfl)|omega)
      ·
       refine LoopK_n (i + 1) ?_ ((by omega)) (by (try dsimp only); omega)
       refine X_weak rfl rfl rfl ?_ ?_ <;> repeat' (first|with_reducible (first|refine Wk.o (by constructor) ?_|refine q_and ?_ ?_|exact True.intro)|refine q_AgS rfl ?_ ?_|exact (rfl : known _ = _)|omega)
       all_goals first
        | (rw [hlt]; exact eT)
        | rw [ee]
    ·have c1 : es.getD ((n : Int) - 1).toNat 0 = E (n - 1) := by rw [show ((n : Int) - 1).toNat = n - 1 by omega]; exact hE2 (n - 1) (by omega)
     have c3 := hEb (n - 1) (by omega)
     have hD := refFloor_okV (es.getD ((n : Int) - 1).toNat 0) 1000 (by omega) (by omega)
     have eF : es.getD ((n : Int) - 1).toNat 0 / 1000 - 16 = F i := by rw [c1, f2 i (by omega)]
     have eT : run + 20 = T i := (t2 i (by omega)).symm
     have eP : run + 20 = P i := by rw [p2 i (by omega), ← eT]
     have hA1 := key _ _ eF eT
     by_cases hjp : j.pt < 0
     ·have ee := e1 hjp _ _ eF eT
      clear key key2 e1 e2
      repeat' (first|with_reducible (first|refine q_and ?_ ?_|exact True.intro|refine Red.o (by constructor) ?_|assumption)|((with_reducible apply q_call);first|refine X_pure (hD) rfl ?_|refine X_pure (hB) rfl ?_|refine X_call [5,3,4] (hA1) rfl rfl rfl rfl rfl rfl rfl rfl rfl rfl rfl rfl rfl ?_)|with_reducible (first|refine W_seq ?_|refine W_block ?_)|((with_reducible apply q_cond);refine X_cond rfl ?_ ?_;all_goals (intro hbq;(try simp only [bq] at hbq);(try (exfalso;omega))))|refine Rex.o (by (with_reducible constructor);apply Eq.refl) ?_|((with_reducible apply q_VOk);exact fun _ => ⟨rfl,rfl⟩)|((with_reducible apply q_CRB);kernel_rfl)|omega)
      ·
       refine LoopK_n (i + 1) ?_ ((by omega)) (by (try dsimp only); omega)
       refine X_weak rfl rfl rfl ?_ ?_ <;> repeat' (first|with_reducible (first|refine Wk.o (by constructor) ?_|refine q_and ?_ ?_|exact True.intro)|refine q_AgS rfl ?_ ?_|exact (rfl : known _ = _)|omega)
       all_goals first
        | (rw [hlt]; exact eT)
        | rw [ee]
     ·have ee := e2 hjp _ _ _ eF eT eP
      have hA2 := key2 hjp _ (run + 20) _ eF eP
      clear key key2 e1 e2
      repeat' (first|with_reducible (first|refine q_and ?_ ?_|exact True.intro|refine Red.o (by constructor) ?_|assumption)|((with_reducible apply q_call);first|refine X_pure (hD) rfl ?_|refine X_pure (hB) rfl ?_|refine X_call [5,3,4] (hA1) rfl rfl rfl rfl rfl rfl rfl rfl rfl rfl rfl rfl rfl ?_|refine X_call [5,3,4] (hA2) rfl rfl rfl rfl rfl rfl rfl rfl rfl rfl rfl rfl rfl ?_)|with_reducible (first|refine W_seq ?_|refine W_block ?_)|((with_reducible apply q_cond);refine X_cond rfl ?_ ?_;all_goals (intro hbq;(try simp only [bq] at hbq);(try (exfalso;omega))))|refine Rex.o (by (with_reducible constructor);apply Eq.refl) ?_|((with_reducible apply q_VOk);exact fun _ => ⟨rfl,rfl⟩)|((with_reducible apply q_CRB);kernel_rfl)|omega)
      ·
       refine LoopK_n (i + 1) ?_ ((by omega)) (by (try dsimp only); omega)
       refine X_weak rfl rfl rfl ?_ ?_ <;> repeat' (first|with_reducible (first|refine Wk.o (by constructor) ?_|refine q_and ?_ ?_|exact True.intro)|refine q_AgS rfl ?_ ?_|exact (rfl : known _ = _)|omega)
       all_goals first
        | (rw [hlt]; exact eT)
        | rw [ee]
  ·have hie : i = st.length := by omega
   subst hie
   generalize tabL L st F T P st.length = t at *
   generalize hNN : L.secs.length + L.pts.length = N at *
   have hNI : (L.secs.length : Int) + L.pts.length = N := by omega
   rw [hNI]
   repeat' (first|with_reducible (first|refine q_and ?_ ?_|exact True.intro|refine Red.o (by constructor) ?_|fail)|with_reducible (first|refine W_seq ?_|refine W_block ?_)|((with_reducible apply q_cond);refine X_cond rfl ?_ ?_;all_goals (intro hbq;(try simp only [bq] at hbq);(try (exfalso;omega))))|refine Rex.o (by (with_reducible constructor);apply Eq.refl) ?_|fail)
   refine W_loopS (fun i : Nat => SS [sI 16 run, sI 18 N, sC 19 (pB 5), sC 27 (tOcc ((t.take i).filter usedO)), sI 28 i] [none, none, none, bHs t, bOcc t, some (.cells [.c (.arr 3 0 N N), .c (.arr 4 0 N N)])]) (fun i => i ≤ N) (fun i => N - i) 0 ?_ (by omega) ?_
   ·
    refine X_weak rfl rfl rfl ?_ ?_ <;> repeat' (first|with_reducible (first|refine Wk.o (by constructor) ?_|refine q_and ?_ ?_|exact True.intro)|refine q_AgS rfl ?_ ?_|exact CLe.nil_tipS|exact (rfl : known _ = _)|with_reducible rfl|omega)
    all_goals rfl
   intro i hi
   have hfl : ((t.take i).filter usedO).length ≤ 1000 := by
    have a := List.length_filter_le usedO (t.take i)
    rw [List.length_take] at a
    omega
   have hsn : i < t.length → (t.take (i + 1)).filter usedO = (t.take i).filter usedO ++ (if usedO (t.getD i ⟨0, 0, 0⟩) = true then [t.getD i ⟨0, 0, 0⟩] else []) := fun h => by
    rw [List.take_succ_eq_append_getElem h, List.filter_append, List.getD_eq_getElem?_getD, List.getElem?_eq_getElem h]
    simp only [Option.getD_some, List.filter_cons, List.filter_nil]
   have hml : (t.map usedO).length = N := by rw [List.length_map, hTl]
   by_cases hil2 : i < N
   ·have hmu : (t.map usedO).getD (i : Int).toNat false = usedO (t.getD i ⟨0, 0, 0⟩) := by
     simp [List.getD_eq_getElem?_getD, List.getElem?_map, List.getElem?_eq_getElem (show i < t.length by omega)]
    by_cases hu : usedO (t.getD i ⟨0, 0, 0⟩) = true
    ·have hm1 : (t.map usedO).getD (i : Int).toNat false = true := by rw [hmu, hu]
     repeat' (first|with_reducible (first|refine q_and ?_ ?_|exact True.intro|refine Red.o (by constructor) ?_|assumption)|((with_reducible apply q_cond);refine X_cond rfl ?_ ?_;all_goals (intro hbq;(try simp only [bq,and_true,true_and,and_false,false_and,or_true,true_or,or_false,false_or,not_true_eq_false,not_false_eq_true,Bool.true_eq_false,Bool.false_eq_true,hm1] at hbq);(try (exfalso;omega))))|with_reducible (first|refine W_seq ?_|refine W_block ?_)|refine Rex.o (by (with_reducible constructor);apply Eq.refl) ?_|((with_reducible apply q_VOk);exact fun _ => ⟨rfl,rfl⟩)|((with_reducible apply q_eqN);rfl)|omega)
     ·
      refine LoopK_n (i + 1) ?_ ((by omega)) (by (try dsimp only); omega)
      refine X_weak rfl rfl rfl ?_ ?_ <;> repeat' (first|with_reducible (first|refine Wk.o (by constructor) ?_|refine q_and ?_ ?_|exact True.intro)|refine q_AgS rfl ?_ ?_|exact (rfl : known _ = _)|with_reducible rfl|omega)
      all_goals (rw [hsn (by omega), if_pos hu]; simp [fOcc, fI])
    ·have hm1 : (t.map usedO).getD (i : Int).toNat false = false := by rw [hmu]; simpa using hu
     repeat' (first|with_reducible (first|refine q_and ?_ ?_|exact True.intro|refine Red.o (by constructor) ?_|assumption)|((with_reducible apply q_cond);refine X_cond rfl ?_ ?_;all_goals (intro hbq;(try simp only [bq,and_true,true_and,and_false,false_and,or_true,true_or,or_false,false_or,not_true_eq_false,not_false_eq_true,Bool.true_eq_false,Bool.false_eq_true,hm1] at hbq);(try (exfalso;omega))))|with_reducible (first|refine W_seq ?_|refine W_block ?_)|refine Rex.o (by (with_reducible constructor);apply Eq.refl) ?_|((with_reducible apply q_VOk);exact fun _ => ⟨rfl,rfl⟩)|omega)
     ·
      refine LoopK_n (i + 1) ?_ ((by omega)) (by (try dsimp only); omega)
      refine X_weak rfl rfl rfl ?_ ?_ <;> repeat' (first|with_reducible (first|refine Wk.o (by constructor) ?_|refine q_and ?_ ?_|exact True.intro)|refine q_AgS rfl ?_ ?_|exact (rfl : known _ = _)|with_reducible rfl|omega)
      all_goals (rw [hsn (by omega), if_neg hu]; simp)
   ·have hie : i = N := by omega
    subst hie
    rw [← hTl, List.take_length]
    repeat' (first|with_reducible (first|refine q_and ?_ ?_|exact True.intro|exact TkEq.nil _|refine Red.o (by constructor) ?_|fail)|with_reducible (refine W_seq ?_)|((with_reducible apply q_cond);refine X_cond rfl ?_ ?_;all_goals (intro hbq;(try simp only [bq] at hbq);(try (exfalso;omega))))|refine Rex.o (by (with_reducible constructor);apply Eq.refl) ?_|fail)
    ·rfl
  )
theorem refStairs_ok (L : Lay) (hL : LayFits L) (st : List Stp) (ov : Int) (hl : st.length ≤ 9223372036854775807) (ho : -9223372036854775808 ≤ ov ∧ ov ≤ 9223372036854775807) (nm : ByteArray) (l sp ac br : Int) (h : fitErr L ⟨st, ov⟩ l sp ac br = 0) : OkV Tryz.prog 16 [vLay L, vR2 st ov, vS5 nm l sp ac br] [] (.tup [.c (rOcc (occL L st ov l sp ac br 0 0)), .c (xI (runI L ⟨st, ov⟩ l sp ac br)), .c (xI 0)]) [] := by
 have hF := refHeld_ok L hL st ov hl ho nm l sp ac br 0 0 h (by omega) (by omega)
 generalize occL L st ov l sp ac br 0 0 = t at *
 unfold vLay at hF ⊢
 refine X_fn mixedX Tryz.func16 rfl (by kernel_rfl) (Nat.le_of_ble_eq_true (by kernel_rfl)) (by kernel_rfl) rfl rfl (Nat.le_of_ble_eq_true rfl) rfl rfl ?_
 simp only [sl0, Nat.zero_add, Nat.reduceAdd]
 repeat' (first|with_reducible (first|refine q_and ?_ ?_|exact True.intro|exact TkEq.nil _|refine Red.o (by constructor) ?_|fail)|((with_reducible apply q_call);refine X_pure (hF) rfl ?_)|with_reducible (refine W_seq ?_)|refine Rex.o (by (with_reducible constructor);apply Eq.refl) ?_|fail)
 all_goals repeat' (first|with_reducible (first|refine Wk.o (by constructor) ?_|refine q_and ?_ ?_|exact True.intro)|refine VEq.tup ?_)
set_option maxHeartbeats 40000000
theorem free_ok (l : List Int) (rd ea : Int) (hl : l.length ≤ 9223372036854775807) : OkV Tryz.prog 7 [.c (rInt l), .c (xI rd), .c (xI ea)] [] (vB true) [] := by
  have hA := awake_ok
  have hR := route2_ok l hl
  have hfit := fits_valid (valid_of (genL_ok l))
  generalize genL l = L at *
  refine X_fnP mixedX Tryz.func7 rfl (by kernel_rfl) (Nat.le_of_ble_eq_true (by kernel_rfl)) (by kernel_rfl) rfl rfl ?_
  simp only [sl0, Nat.zero_add, Nat.reduceAdd]
  repeat' (first|with_reducible (first|refine q_and ?_ ?_|exact True.intro|refine Red.o (by constructor) ?_|fail)|with_reducible (refine W_seq ?_)|refine Rex.o (by (with_reducible constructor);apply Eq.refl) ?_|fail)
  refine X_callG [] hR rfl rfl rfl rfl rfl rfl rfl rfl ?_
  rintro ⟨⟨st, ov⟩, ⟨nm, ln, sp, ac, br⟩⟩ ⟨hd1, hd2, hd3⟩
  refine ⟨_, _, _, _, rfl, rfl, rfl, rfl, rfl, ?_⟩
  simp only at hd1 hd2 hd3
  have hF := rFits_ok L hfit st ov (by omega) (by omega) nm ln sp ac br
  unfold vLay at hF
  by_cases hm : motErr L ⟨st, ov⟩ ln sp ac br = 0
  · rw [hm] at hF
    obtain ⟨_, hf, g1, g2, g3, hL⟩ := good_of hm
    have hP := pick_ok rd 1000 (by omega) (by omega)
    have hp := pick_lt rd (n := 1000) (by omega)
    have hP2 := pick_ok ea 100 (by omega) (by omega)
    have hp2 := pick_lt ea (n := 100) (by omega)
    generalize pick rd 1000 = x at *
    generalize pick ea 100 = y at *
    have hS := refStairs_ok L hfit st ov (by omega) (by omega) nm ln sp ac br hf
    have hrun := run_rng (ride_of hf)
    have ho1 := ovlN_rng hf (a := 0) (by omega)
    have ho2 := ovl_run hf
    have hfw := fun (late : Int) (gs : List Int) hg => free_walk (late := late) (gs := gs) (rd := x) hf hg
    have hW := fun (late : Int) (gs : List Int) hg h2 h3 => walk_ok L hfit st ov (by omega) (by omega) nm ln sp ac br x late gs (wlk_err hm hg (by omega) h2 h3)
    generalize runI L ⟨st, ov⟩ ln sp ac br = run at *
    generalize occL L st ov ln sp ac br 0 0 = oc at *
    generalize ovlN L st ov ln sp ac br 0 = o at *
    generalize hmm : lastN st ov = m at *
    have hW1 : ∀ gs : List Int, (gs.length : Int) = st.length - ov → (∀ y ∈ gs, -4194304 ≤ y ∧ y ≤ 4194304) → (∀ j, j ≤ m → gs.getD j 0 ≤ (x : Int) - 16) → OkV Tryz.prog 20 [vLay L, vR2 st ov, vS5 nm ln sp ac br, .c (xI x), .c (rInt gs), .c (xI ((x : Int) - 16))] [] (.tup [.c (rLeg [⟨0, m, x, (x : Int) + run⟩]), .c (xI 0)]) [] := fun gs a b c => by
      have h := hW ((x : Int) - 16) gs a (by omega) b
      rw [hfw ((x : Int) - 16) gs c, if_neg (by omega)] at h
      exact h
    have hW2 : ∀ gs : List Int, (gs.length : Int) = st.length - ov → (∀ y ∈ gs, -4194304 ≤ y ∧ y ≤ 4194304) → (∀ j, j ≤ m → gs.getD j 0 ≤ (x : Int) - 16) → OkV Tryz.prog 20 [vLay L, vR2 st ov, vS5 nm ln sp ac br, .c (xI x), .c (rInt gs), .c (xI ((x : Int) + run + 1))] [] (.tup [.c (rLeg [⟨0, m, x, (x : Int) + run + (if 0 < ov then 30 else 0)⟩]), .c (xI 0)]) [] := fun gs a b c => by
      have h := hW ((x : Int) + run + 1) gs a (by omega) b
      rw [hfw ((x : Int) + run + 1) gs c] at h
      by_cases h0 : 0 < ov
      · rw [if_pos ⟨h0, by omega⟩] at h
        rw [if_pos h0]
        exact h
      · rw [if_neg fun h => h0 h.1] at h
        rw [if_neg h0, Int.add_zero]
        exact h
    clear hW hfw hm hf
    unfold vLay at hW1 hW2 hS
    repeat' (first|with_reducible (first|refine q_and ?_ ?_|exact True.intro|refine Red.o (by constructor) ?_|fail)|((with_reducible apply q_call);first|refine X_pure (hF) rfl ?_|refine X_pure (hL) rfl ?_|refine X_pure (hP) rfl ?_)|with_reducible (first|refine W_seq ?_|refine W_block ?_)|((with_reducible apply q_cond);refine X_cond rfl ?_ ?_;all_goals (intro hbq;(try simp only [bq] at hbq);(try (exfalso;omega))))|refine Rex.o (by (with_reducible constructor);apply Eq.refl) ?_|omega|(dsimp only;omega))
    clear hF hL hP hR
    have eN : ((m : Int) + 1).toNat = m + 1 := by omega
    refine W_loopX (fun i : Nat => SS [sI 2 ea, sC 7 (pB 0), sC 8 (pB 1), sC 9 (pB 2), sI 10 m, sI 11 x, sC 12 (.c (.arr 3 0 (m + 1) (m + 1))), sI 42 (m + 1 : Nat), sI 43 i] [bLay L, bRte st ov, some (.cells [xS nm, xI ln, xI sp, xI ac, xI br]), bInt (row (m + 1) fun j => if j < i then (x : Int) - 16 - y else 0)]) (fun i => i ≤ m + 1) (fun i => m + 1 - i) 0 _ (fun gs : List Int => SS [sC 7 (pB 0), sC 8 (pB 1), sC 9 (pB 2), sI 10 m, sI 11 x, sC 12 (rInt gs)] [bLay L, bRte st ov, some (.cells [xS nm, xI ln, xI sp, xI ac, xI br])]) (fun gs => gs = row (m + 1) fun _ => (x : Int) - 16 - y) ?_ (by omega) (KCl_block KCl_seq) ?_ ?_
    ·
      refine X_weak rfl rfl rfl ?_ ?_ <;> repeat' (first|with_reducible (first|refine Wk.o (by constructor) ?_|refine q_and ?_ ?_|exact True.intro)|refine q_AgS rfl ?_ ?_|exact (rfl : known _ = _)|omega)
      all_goals first
        | rfl
        | (rw [eN, row_zero]; refine row_ext fun j hj => ?_; rw [if_neg (by omega)]; done)
    · intro i hi
      clear hW1 hW2 hS hA
      have a6 := row_len (m + 1) fun j => if j < i then (x : Int) - 16 - y else 0
      by_cases hil : i < m + 1
      ·
        repeat' (first|with_reducible (first|refine q_and ?_ ?_|exact True.intro|refine Red.o (by constructor) ?_|assumption)|((with_reducible apply q_call);refine X_pure (hP2) rfl ?_)|with_reducible (first|refine W_seq ?_|refine W_block ?_)|((with_reducible apply q_cond);refine X_cond rfl ?_ ?_;all_goals (intro hbq;(try simp only [bq] at hbq);(try (exfalso;omega))))|refine Rex.o (by (with_reducible constructor);apply Eq.refl) ?_|((with_reducible apply q_VOk);exact fun _ => ⟨rfl,rfl⟩)|omega)
        · rfl
        ·
          refine LoopX_n (i + 1) ?_ ((by omega)) (by (try dsimp only); omega)
          refine X_weak rfl rfl rfl ?_ ?_ <;> repeat' (first|with_reducible (first|refine Wk.o (by constructor) ?_|refine q_and ?_ ?_|exact True.intro)|refine q_AgS rfl ?_ ?_|exact (rfl : known _ = _)|omega)
          all_goals first
            | rfl
            | (refine row_set (i := i) ?_ fun j hj hne => ?_
               · rw [if_pos (by omega)]
               · by_cases h : j < i
                 · rw [if_pos h, if_pos (by omega)]
                 · rw [if_neg h, if_neg (by omega)])
      ·
        repeat' (first|with_reducible (first|refine q_and ?_ ?_|exact True.intro|refine Red.o (by constructor) ?_|fail)|with_reducible (refine W_seq ?_)|((with_reducible apply q_cond);refine X_cond rfl ?_ ?_;all_goals (intro hbq;(try simp only [bq] at hbq);(try (exfalso;omega))))|refine Rex.o (by (with_reducible constructor);apply Eq.refl) ?_|fail)
        refine LoopX_x (row (m + 1) fun j => if j < i then (x : Int) - 16 - y else 0) rfl (X_frz 3 12 rfl rfl (by omega) (Nat.le_refl _) rfl ?_) (row_ext fun j hj => if_pos (by omega))
        simp only [List.set_cons_succ, List.set_cons_zero]
        refine X_weak rfl rfl rfl ?_ ?_ <;> repeat' (first|with_reducible (first|refine Wk.o (by constructor) ?_|refine q_and ?_ ?_|exact True.intro)|refine q_AgS rfl ?_ ?_)
    · rintro gs rfl
      have a6 := row_len (m + 1) fun _ => (x : Int) - 16 - y
      have hge : ∀ j, j ≤ m → (row (m + 1) fun _ => (x : Int) - 16 - y).getD j 0 ≤ (x : Int) - 16 := fun j hj => by
        rw [row_get (by omega)]
        omega
      have hgb : ∀ v ∈ (row (m + 1) fun _ => (x : Int) - 16 - y), -4194304 ≤ v ∧ v ≤ 4194304 := fun v hv => by
        unfold row at hv
        obtain ⟨j, hj, rfl⟩ := List.mem_map.1 hv
        omega
      have h1 := hW1 _ (by omega) hgb hge
      have h2 := hW2 _ (by omega) hgb hge
      clear hW1 hW2
      generalize (row (m + 1) fun _ => (x : Int) - 16 - y) = gs at *
      by_cases h0 : 0 < ov
      · rw [if_pos h0] at h2
        have q1 : OkV Tryz.prog 22 [.c (rLeg [⟨0, m, x, (x : Int) + run⟩]), .c (.c (.f (.row [.v (.int .i64 0), .v (.int .i64 m), .v (.int .i64 x), .v (.int .i64 ((x : Int) + run))] 1)))] [] (vB true) [] := same_leg_ok [⟨0, m, x, (x : Int) + run⟩] (by simp)
        have q2 : OkV Tryz.prog 22 [.c (rLeg [⟨0, m, x, (x : Int) + run + 30⟩]), .c (.c (.f (.row [.v (.int .i64 0), .v (.int .i64 m), .v (.int .i64 x), .v (.int .i64 ((x : Int) + run + 30))] 1)))] [] (vB true) [] := same_leg_ok [⟨0, m, x, (x : Int) + run + 30⟩] (by simp)
        repeat' (first|with_reducible (first|refine q_and ?_ ?_|exact True.intro|refine Red.o (by constructor) ?_|fail)|((with_reducible apply q_call);first|refine X_pure (hS) rfl ?_|refine X_pure (h1) rfl ?_|refine X_pure (h2) rfl ?_|refine X_pure (hA) rfl ?_)|((with_reducible apply q_callG);refine X_pureG ((fun _ => q1)) rfl ?_ ?_)|((with_reducible apply q_callG);refine X_pureG ((fun _ => q2)) rfl ?_ ?_)|with_reducible (refine W_seq ?_)|((with_reducible apply q_cond);refine X_cond rfl ?_ ?_;all_goals (intro hbq;(try simp only [bq] at hbq);(try (exfalso;omega))))|refine Rex.o (by (with_reducible constructor);apply Eq.refl) ?_|(intro (hgq : (_ : Bool) = true);(try simp only [bq] at hgq))|((with_reducible apply q_bt);simp only [bq])|omega)
        all_goals first
          | rfl
          | (refine VEq.c (CEq.bool ?_); simp; done)
      · rw [if_neg h0] at h2
        have q1 : OkV Tryz.prog 22 [.c (rLeg [⟨0, m, x, (x : Int) + run⟩]), .c (.c (.f (.row [.v (.int .i64 0), .v (.int .i64 m), .v (.int .i64 x), .v (.int .i64 ((x : Int) + run))] 1)))] [] (vB true) [] := same_leg_ok [⟨0, m, x, (x : Int) + run⟩] (by simp)
        have q2 : OkV Tryz.prog 22 [.c (rLeg [⟨0, m, x, (x : Int) + run + 0⟩]), .c (.c (.f (.row [.v (.int .i64 0), .v (.int .i64 m), .v (.int .i64 x), .v (.int .i64 ((x : Int) + run + 0))] 1)))] [] (vB true) [] := same_leg_ok [⟨0, m, x, (x : Int) + run + 0⟩] (by simp)
        repeat' (first|with_reducible (first|refine q_and ?_ ?_|exact True.intro|refine Red.o (by constructor) ?_|fail)|((with_reducible apply q_call);first|refine X_pure (hS) rfl ?_|refine X_pure (h1) rfl ?_|refine X_pure (h2) rfl ?_|refine X_pure (hA) rfl ?_)|((with_reducible apply q_callG);refine X_pureG ((fun _ => q1)) rfl ?_ ?_)|((with_reducible apply q_callG);refine X_pureG ((fun _ => q2)) rfl ?_ ?_)|with_reducible (refine W_seq ?_)|((with_reducible apply q_cond);refine X_cond rfl ?_ ?_;all_goals (intro hbq;(try simp only [bq] at hbq);(try (exfalso;omega))))|refine Rex.o (by (with_reducible constructor);apply Eq.refl) ?_|(intro (hgq : (_ : Bool) = true);(try simp only [bq] at hgq))|((with_reducible apply q_bt);simp only [bq])|omega)
        all_goals first
          | rfl
          | (refine VEq.c (CEq.bool ?_); simp; done)
  ·
    repeat' (first|with_reducible (first|refine q_and ?_ ?_|exact True.intro|refine Red.o (by constructor) ?_|fail)|((with_reducible apply q_call);first|refine X_pure (hF) rfl ?_|refine X_pure (hA) rfl ?_)|with_reducible (refine W_seq ?_)|((with_reducible apply q_cond);refine X_cond rfl ?_ ?_;all_goals (intro hbq;(try simp only [bq] at hbq);(try (exfalso;omega))))|refine Rex.o (by (with_reducible constructor);apply Eq.refl) ?_|fail)
    all_goals rfl
end Go.Proofs.YtalfibohepbhfaaGreat.Av
namespace Go.Proofs.YtalfibohepbhfaaGreat
open Go.RowKit
theorem W.MotionFree (a0 : Option Addr) (len0 cap0 : Nat) (z0 : List Int) (a1 : Int) (a2 : Int) (w : World) (w0 : Av.IsRowI w a0 len0 cap0 z0) (w1 : (Lit.int .i64 a1).wf = true) (w2 : (Lit.int .i64 a2).wf = true) (s0 : ∀ x, a0 = some x → x.spot = none) :
  Calls Tryz.prog 7 #[.slice a0 len0 cap0, .int .i64 a1, .int .i64 a2] w fun e w' => e = .returned (.bool true) ∧ Below w.heap.size w w' := by
 obtain ⟨h0, b0⟩ := Av.rowI_rep w0 s0
 refine Av.law_calls (Av.free_ok _ a1 a2 b0) w _ rfl (fun i hi hi' l => ?_) (fun x hx => by
  simp at hx
  rcases hx with rfl | rfl | rfl <;> rfl)
 match i, hi with
 | 0, _ => exact h0 l
 | 1, _ => exact .v _ rfl
 | 2, _ => exact .v _ rfl
end Go.Proofs.YtalfibohepbhfaaGreat
