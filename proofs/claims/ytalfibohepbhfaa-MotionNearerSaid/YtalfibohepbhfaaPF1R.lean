/- What the claims use of their texts: Mp1, Mn1, Wn2. -/
import Derived.Test.YtalfibohepbhfaaPFF
set_option linter.unusedVariables false
set_option linter.unusedSimpArgs false
set_option maxRecDepth 4000
set_option maxHeartbeats 4000000
namespace Go.Proofs.Ytalfibohepbhfaa.Av
section
variable {L : Lay} {st : List Stp} {ov l sp ac br : Int} (h : fitErr L ⟨st, ov⟩ l sp ac br = 0)
include h
theorem near_le {a b c : Nat} (hab : a < b) (hbc : b ≤ c) (hc : (c : Int) ≤ st.length - ov - 1) {k : Nat} (hk : k < b - a) : needF L (partR st ov a c) l sp ac br k ≤ needF L (partR st ov a b) l sp ac br k ∧ passF L (partR st ov a c) l sp ac br k ≤ passF L (partR st ov a b) l sp ac br k ∧ clrF L (partR st ov a c) l sp ac br k ≤ clrF L (partR st ov a b) l sp ac br k := by
 obtain ⟨e1, e2, e3⟩ := near_ride h hab hbc hc
 have h1 := ride_of (partR_fit h hab (by omega))
 have n1 := partR_len h hab (by omega)
 have n2 := partR_len h (a := a) (b := c) (by omega) hc
 have m1 := endA_mono L (trv (partR st ov a b)) (show k - 1 ≤ b - a by omega)
 have m2 := endA_mono L (trv (partR st ov a b)) (show k + 1 - 1 ≤ b - a by omega)
 have lv := (lev_in h1 (j := k) (by omega)).2
 rw [if_pos (by omega), n1, show b - a + 1 - 1 = b - a by omega] at lv
 have a1 := e3 _ m1
 have a2 := e3 _ m2
 have a3 := e3 _ lv
 rw [e2 (k - 1) (by omega)] at a1
 rw [e2 (k + 1 - 1) (by omega)] at a2
 rw [e2 k (by omega)] at a3
 unfold needF passF clrF entF levF
 rw [if_pos (by omega), if_pos (by omega), e2 (k - 1) (by omega), e2 (k + 1 - 1) (by omega), e2 k (by omega)]
 omega
end
set_option maxHeartbeats 40000000
theorem nearer_ok (l : List Int) (hl : l.length ≤ 9223372036854775807) : OkV Try.prog 4 [.c (rInt l)] [] (vB true) [] := by
 have hA := awake_ok
 have hR := route2_ok l hl
 have hfit := fits_valid (valid_of (genL_ok l))
 generalize genL l = L at *
 refine X_fnP mixedX Try.func4 rfl (by kernel_rfl) (Nat.le_of_ble_eq_true (by kernel_rfl)) (by kernel_rfl) rfl rfl ?_
 simp only [sl0, Nat.zero_add, Nat.reduceAdd]
 repeat' (first|with_reducible (first|refine q_and ?_ ?_|exact True.intro|refine Red.o (by constructor) ?_|fail)|with_reducible (refine W_seq ?_)|refine Rex.o (by (with_reducible constructor);apply Eq.refl) ?_|fail)
 refine X_callG [] hR rfl rfl rfl rfl rfl rfl rfl rfl ?_
 rintro ⟨⟨st, ov⟩, ⟨nm, ln, sp, ac, br⟩⟩ ⟨hd1, hd2, hd3⟩
 refine ⟨_, _, _, _, rfl, rfl, rfl, rfl, rfl, ?_⟩
 simp only at hd1 hd2 hd3
 have hF := rFits_ok L hfit st ov (by omega) (by omega) nm ln sp ac br
 unfold vLay at hF
 by_cases hm : motErr L ⟨st, ov⟩ ln sp ac br = 0
 ·rw [hm] at hF
  obtain ⟨_, hf, g1, g2, g3, hL⟩ := good_of hm
  obtain ⟨X, Y, Z, O, R, hM, hl3, hN⟩ : ∃ (X Y Z : Nat → Nat → List Int) (O R : Nat → Nat → Int), (∀ a b : Nat, a < b → b ≤ lastN st ov → OkV Try.prog 6 [.agg [rStr L.sts, rStr L.pts, rSec L.secs, rLnk L.lnks], vR2 st ov, vS5 nm ln sp ac br, .c (xI a), .c (xI b)] [] (.tup [.agg (lPro7 a b (X a b) (Y a b) (Z a b) (O a b) (R a b)), .c (xI 0)]) []) ∧ (∀ a b, (X a b).length = b - a ∧ (Y a b).length = b - a ∧ (Z a b).length = b - a) ∧ ∀ a b c k, a < b → b ≤ c → c ≤ lastN st ov → k < b - a → (X a c).getD k 0 ≤ (X a b).getD k 0 ∧ (Y a c).getD k 0 ≤ (Y a b).getD k 0 ∧ (Z a c).getD k 0 ≤ (Z a b).getD k 0 := by
   refine ⟨fun a b => row (b - a) (needF L (partR st ov a b) ln sp ac br), fun a b => row (b - a) (passF L (partR st ov a b) ln sp ac br), fun a b => row (b - a) (clrF L (partR st ov a b) ln sp ac br), fun a b => ovlF L (partR st ov a b) ln sp ac br (b - a), fun a b => runI L (partR st ov a b) ln sp ac br, fun a b h1 h2 => make_ok L hfit st ov (by omega) (by omega) nm ln sp ac br a b hm h1 (by omega), fun a b => ⟨row_len .., row_len .., row_len ..⟩, fun a b c k h1 h2 h3 h4 => ?_⟩
   simp only
   rw [row_get (by omega), row_get (by omega), row_get (by omega), row_get (by omega), row_get (by omega), row_get (by omega)]
   exact near_le hf h1 h2 (by omega) h4
  generalize lastN st ov = m at *
  repeat' (first|with_reducible (first|refine q_and ?_ ?_|exact True.intro|refine Red.o (by constructor) ?_|fail)|((with_reducible apply q_call);first|refine X_pure (hF) rfl ?_|refine X_pure (hL) rfl ?_)|with_reducible (first|refine W_seq ?_|refine W_block ?_)|((with_reducible apply q_cond);refine X_cond rfl ?_ ?_;all_goals (intro hbq;(try simp only [bq] at hbq);(try (exfalso;omega))))|refine Rex.o (by (with_reducible constructor);apply Eq.refl) ?_|fail)
  clear hF hL hR hm hf
  refine W_loopS (fun a : Nat => SS [sC 3 (pB 0), sC 4 (pB 1), sC 5 (pB 2), sI 6 m, sI 7 a] [bLay L, bRte st ov, some (.cells [xS nm, xI ln, xI sp, xI ac, xI br])]) (fun a => a ≤ m) (fun a => m - a) 0 ?_ (by omega) ?_
  ·
   refine X_weak rfl rfl rfl ?_ ?_ <;> repeat' (first|with_reducible (first|refine Wk.o (by constructor) ?_|refine q_and ?_ ?_|exact True.intro)|refine q_AgS rfl ?_ ?_|exact (rfl : known _ = _)|omega)
   all_goals rfl
  rintro a ha
  by_cases ham : a < m
  ·have h0 := hM a m ham (Nat.le_refl _)
   repeat' (first|with_reducible (first|refine q_and ?_ ?_|exact True.intro|refine Red.o (by constructor) ?_|fail)|((with_reducible apply q_call);refine X_pure (h0) rfl ?_)|with_reducible (first|refine W_seq ?_|refine W_block ?_)|((with_reducible apply q_cond);refine X_cond rfl ?_ ?_;all_goals (intro hbq;(try simp only [bq] at hbq);(try (exfalso;omega))))|refine Rex.o (by (with_reducible constructor);apply Eq.refl) ?_|omega)
   clear h0
   refine W_loopS (fun c : Nat => SS [sC 3 (pB 0), sC 4 (pB 1), sC 5 (pB 2), sI 6 m, sI 7 a, sC 8 (pB 3), sI 10 ((c : Int) - 1)] [bLay L, bRte st ov, some (.cells [xS nm, xI ln, xI sp, xI ac, xI br]), some (.cells (lPro7 a c (X a c) (Y a c) (Z a c) (O a c) (R a c)))]) (fun c => a < c ∧ c ≤ m) (fun c => c) m ?_ (by omega) ?_
   ·
    refine X_weak rfl rfl rfl ?_ ?_ <;> repeat' (first|with_reducible (first|refine Wk.o (by constructor) ?_|refine q_and ?_ ?_|exact True.intro)|refine q_AgS rfl ?_ ?_)
    all_goals rfl
   rintro c ⟨hc1, hc2⟩
   by_cases hcb : a + 1 < c
   ·obtain ⟨b, rfl⟩ : ∃ b, c = b + 1 := ⟨c - 1, by omega⟩
    have hbb : ((b + 1 : Nat) : Int) - 1 = b := by omega
    have h1 := hM a b (by omega) (by omega)
    obtain ⟨l1, l2, l3⟩ := hl3 a b
    obtain ⟨l4, l5, l6⟩ := hl3 a (b + 1)
    have hk := fun k h => hN a b (b + 1) k (by omega) (by omega) hc2 h
    simp only [hbb]
    repeat' (first|with_reducible (first|refine q_and ?_ ?_|exact True.intro|refine Red.o (by constructor) ?_|assumption)|((with_reducible apply q_call);refine X_pure (h1) rfl ?_)|with_reducible (first|refine W_seq ?_|refine W_block ?_)|((with_reducible apply q_cond);refine X_cond rfl ?_ ?_;all_goals (intro hbq;(try simp only [bq] at hbq);(try (exfalso;omega))))|refine Rex.o (by (with_reducible constructor);apply Eq.refl) ?_|(intro (hgq : (_ : Bool) = true);(try simp only [bq] at hgq))|(intro (hgq : (_ : Bool) = false);(try simp only [bq] at hgq))|((with_reducible apply q_bt);simp only [bq])|(simp only [hgq,bq];done)|omega)
    clear h1
    refine W_loopS (fun k : Nat => SS [sC 3 (pB 0), sC 4 (pB 1), sC 5 (pB 2), sI 6 m, sI 7 a, sC 8 (pB 3), sI 10 b, sC 11 (pB 4), sI 13 ((b : Int) - a), sI 14 k] [bLay L, bRte st ov, some (.cells [xS nm, xI ln, xI sp, xI ac, xI br]), some (.cells (lPro7 a ((b + 1 : Nat) : Int) (X a (b + 1)) (Y a (b + 1)) (Z a (b + 1)) (O a (b + 1)) (R a (b + 1)))), some (.cells (lPro7 a b (X a b) (Y a b) (Z a b) (O a b) (R a b)))]) (fun k => k ≤ b - a) (fun k => b - a - k) 0 ?_ (by omega) ?_
    ·
     refine X_weak rfl rfl rfl ?_ ?_ <;> repeat' (first|with_reducible (first|refine Wk.o (by constructor) ?_|refine q_and ?_ ?_|exact True.intro)|refine q_AgS rfl ?_ ?_|exact (rfl : known _ = _)|omega)
     all_goals rfl
    intro k hkb
    by_cases hkl : k < b - a
    ·obtain ⟨k1, k2, k3⟩ := hk k hkl
     have k1 : (X a (b + 1)).getD (k : Int).toNat 0 ≤ (X a b).getD (k : Int).toNat 0 := k1
     have k2 : (Y a (b + 1)).getD (k : Int).toNat 0 ≤ (Y a b).getD (k : Int).toNat 0 := k2
     have k3 : (Z a (b + 1)).getD (k : Int).toNat 0 ≤ (Z a b).getD (k : Int).toNat 0 := k3
     repeat' (first|with_reducible (first|refine q_and ?_ ?_|exact True.intro|refine Red.o (by constructor) ?_|assumption)|with_reducible (first|refine W_seq ?_|refine W_block ?_)|((with_reducible apply q_cond);refine X_cond rfl ?_ ?_;all_goals (intro hbq;(try simp only [bq] at hbq);(try (exfalso;omega))))|refine Rex.o (by (with_reducible constructor);apply Eq.refl) ?_|(intro (hgq : (_ : Bool) = true);(try simp only [bq] at hgq))|(intro (hgq : (_ : Bool) = false);(try simp only [bq] at hgq))|((with_reducible apply q_VOk);exact fun _ => ⟨rfl,rfl⟩)|((with_reducible apply q_CRB);kernel_rfl)|((with_reducible apply q_bt);simp only [bq])|(simp only [hgq,bq];done)|omega)
     refine LoopK_n (k + 1) ?_ ((by omega)) (by (try dsimp only); omega)
     refine X_weak rfl rfl rfl ?_ ?_ <;> repeat' (first|with_reducible (first|refine Wk.o (by constructor) ?_|refine q_and ?_ ?_|exact True.intro)|refine q_AgS rfl ?_ ?_|exact (rfl : known _ = _)|omega)
     all_goals rfl
    ·
     repeat' (first|with_reducible (first|refine q_and ?_ ?_|exact True.intro|refine Red.o (by constructor) ?_|fail)|with_reducible (refine W_seq ?_)|((with_reducible apply q_cond);refine X_cond rfl ?_ ?_;all_goals (intro hbq;(try simp only [bq] at hbq);(try (exfalso;omega))))|refine Rex.o (by (with_reducible constructor);apply Eq.refl) ?_|omega)
     refine LoopK_n (b) ?_ ((by omega)) (by (try dsimp only); omega)
     refine X_weak rfl rfl rfl ?_ ?_ <;> repeat' (first|with_reducible (first|refine Wk.o (by constructor) ?_|refine q_and ?_ ?_|exact True.intro)|refine q_AgS rfl ?_ ?_)
     all_goals first
      | rfl
   ·
    repeat' (first|with_reducible (first|refine q_and ?_ ?_|exact True.intro|refine Red.o (by constructor) ?_|fail)|with_reducible (refine W_seq ?_)|((with_reducible apply q_cond);refine X_cond rfl ?_ ?_;all_goals (intro hbq;(try simp only [bq] at hbq);(try (exfalso;omega))))|refine Rex.o (by (with_reducible constructor);apply Eq.refl) ?_|omega)
    refine LoopK_n (a + 1) ?_ ((by omega)) (by (try dsimp only); omega)
    refine X_weak rfl rfl rfl ?_ ?_ <;> repeat' (first|with_reducible (first|refine Wk.o (by constructor) ?_|refine q_and ?_ ?_|exact True.intro)|refine q_AgS rfl ?_ ?_|exact (rfl : known _ = _)|omega)
    all_goals rfl
  ·
   repeat' (first|with_reducible (first|refine q_and ?_ ?_|exact True.intro|refine Red.o (by constructor) ?_|fail)|((with_reducible apply q_call);refine X_pure (hA) rfl ?_)|with_reducible (refine W_seq ?_)|((with_reducible apply q_cond);refine X_cond rfl ?_ ?_;all_goals (intro hbq;(try simp only [bq] at hbq);(try (exfalso;omega))))|refine Rex.o (by (with_reducible constructor);apply Eq.refl) ?_|fail)
   all_goals rfl
 ·
  repeat' (first|with_reducible (first|refine q_and ?_ ?_|exact True.intro|refine Red.o (by constructor) ?_|fail)|((with_reducible apply q_call);first|refine X_pure (hF) rfl ?_|refine X_pure (hA) rfl ?_)|with_reducible (refine W_seq ?_)|((with_reducible apply q_cond);refine X_cond rfl ?_ ?_;all_goals (intro hbq;(try simp only [bq] at hbq);(try (exfalso;omega))))|refine Rex.o (by (with_reducible constructor);apply Eq.refl) ?_|fail)
  all_goals rfl
end Go.Proofs.Ytalfibohepbhfaa.Av
namespace Go.Proofs.Ytalfibohepbhfaa
open Go.RowKit
theorem W.MotionNearer (a0 : Option Addr) (len0 cap0 : Nat) (z0 : List Int) (w : World) (w0 : Av.IsRowI w a0 len0 cap0 z0) (s0 : ∀ x, a0 = some x → x.spot = none) :
  Calls Try.prog 4 #[.slice a0 len0 cap0] w fun e w' => e = .returned (.bool true) ∧ Below w.heap.size w w' := by
 obtain ⟨h0, b0⟩ := Av.rowI_rep w0 s0
 refine Av.law_calls (Av.nearer_ok _ b0) w _ rfl (fun i hi hi' l => ?_) (fun x hx => by
  simp at hx
  subst hx
  rfl)
 match i, hi with
 | 0, _ => exact h0 l
end Go.Proofs.Ytalfibohepbhfaa
