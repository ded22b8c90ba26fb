/- What the claims use of their texts: Mo8, Mo9, Mw2, Sm2, Mn2, Wn3. -/
import Derived.Test.YtalfibohepbhfaaGreatPGF
set_option linter.unusedVariables false
set_option linter.unusedSimpArgs false
set_option maxRecDepth 4000
set_option maxHeartbeats 4000000
namespace Go.Proofs.YtalfibohepbhfaaGreat.Av
theorem rPart_ok (st : List Stp) (ov : Int) (h24 : st.length ≤ 24) (h0 : 0 ≤ ov ∧ ov ≤ st.length) (a b : Nat) (hab : a < b) (hb : (b : Int) ≤ st.length - ov - 1) : OkV Tryz.prog 32 [vR2 st ov, .c (xI a), .c (xI b)] [] (vR2 (partR st ov a b).st (partR st ov a b).ov) [] := by
 have hla := rLast_ok st ov (by omega) (by omega)
 unfold partR
 by_cases e : (b : Int) = st.length - ov - 1
 ·rw [if_pos e]
  have hd : (st.drop (a : Int).toNat).length ≤ 24 := by rw [List.length_drop]; omega
  refine X_fnP mixedX Tryz.func32 rfl (by kernel_rfl) (Nat.le_of_ble_eq_true (by kernel_rfl)) (by kernel_rfl) rfl rfl ?_
  simp only [sl0, Nat.zero_add, Nat.reduceAdd]
  repeat' (first|with_reducible (first|refine q_and ?_ ?_|exact True.intro|refine Red.o (by constructor) ?_|fail)|((with_reducible apply q_call);refine X_pure (hla) rfl ?_)|with_reducible (refine W_seq ?_)|((with_reducible apply q_cond);refine X_cond rfl ?_ ?_;all_goals (intro hbq;(try simp only [bq] at hbq);(try (exfalso;omega))))|refine Rex.o (by (with_reducible constructor);apply Eq.refl) ?_|(intro _;exact rfl)|((with_reducible apply q_CRB);kernel_rfl)|omega)
  all_goals first | omega | rfl
 ·rw [if_neg e]
  have hd : ((st.drop (a : Int).toNat).take ((b : Int) + 1 - a).toNat).length ≤ 24 := by rw [List.length_take, List.length_drop]; omega
  have he : ((b : Int) + 1 - a).toNat = b + 1 - a := by omega
  refine X_fnP mixedX Tryz.func32 rfl (by kernel_rfl) (Nat.le_of_ble_eq_true (by kernel_rfl)) (by kernel_rfl) rfl rfl ?_
  simp only [sl0, Nat.zero_add, Nat.reduceAdd]
  repeat' (first|with_reducible (first|refine q_and ?_ ?_|exact True.intro|refine Red.o (by constructor) ?_|fail)|((with_reducible apply q_call);refine X_pure (hla) rfl ?_)|with_reducible (refine W_seq ?_)|((with_reducible apply q_cond);refine X_cond rfl ?_ ?_;all_goals (intro hbq;(try simp only [bq] at hbq);(try (exfalso;omega))))|refine Rex.o (by (with_reducible constructor);apply Eq.refl) ?_|(intro _;exact rfl)|omega)
  all_goals first | omega | (rw [he]; rfl)
theorem rMake_bad (L : Lay) (hL : LayFits L) (st : List Stp) (ov : Int) (hl : st.length ≤ 9223372036854775807) (ho : -9223372036854775808 ≤ ov ∧ ov ≤ 9223372036854775807) (nm : ByteArray) (l sp ac br a b : Int) (h : ¬ makErr L st ov l sp ac br a b = 0) : OkV Tryz.prog 11 [vLay L, vR2 st ov, vS5 nm l sp ac br, .c (xI a), .c (xI b)] [] (.tup [.agg lPro0, .c (xI (makErr L st ov l sp ac br a b))]) [] := by
 have hF := rFits_ok L hL st ov hl ho nm l sp ac br
 unfold makErr at h ⊢
 by_cases hm : motErr L ⟨st, ov⟩ l sp ac br = 0
 ·have hR := rte_of (cel_rte (fit_of (mot_of hm).1).1)
  have g1 := hR.ov0
  have g2 := hR.ov
  have g3 := hR.len
  have g4 := hR.two
  simp only at g1 g2 g3 g4
  have hla := rLast_ok st ov hl (by omega)
  rw [hm] at hF h ⊢
  rw [if_neg (by decide)] at h ⊢
  have hc : a < 0 ∨ b ≤ a ∨ (st.length : Int) - ov - 1 < b := Classical.byContradiction fun hn => h (if_neg hn)
  rw [if_pos hc]
  unfold vLay at hF ⊢
  refine X_fnP mixedX Tryz.func11 rfl (by kernel_rfl) (Nat.le_of_ble_eq_true (by kernel_rfl)) (by kernel_rfl) rfl rfl ?_
  simp only [sl0, Nat.zero_add, Nat.reduceAdd]
  repeat' (first|with_reducible (first|refine q_and ?_ ?_|exact True.intro|refine Red.o (by constructor) ?_|assumption)|((with_reducible apply q_call);refine X_pure (hF) rfl ?_)|((with_reducible apply q_callG);refine X_pureG ((fun _ => hla)) rfl ?_ ?_)|with_reducible (refine W_seq ?_)|((with_reducible apply q_cond);refine X_cond rfl ?_ ?_;all_goals (intro hbq;(try simp only [bq] at hbq);(try (exfalso;omega))))|refine Rex.o (by (with_reducible constructor);apply Eq.refl) ?_|(intro (hgq : (_ : Bool) = true);(try simp only [bq] at hgq))|(intro (hgq : (_ : Bool) = false);(try simp only [bq] at hgq))|((with_reducible apply q_bt);simp only [bq])|(simp only [hgq,bq];done))
  all_goals rfl
 ·rw [if_pos hm]
  unfold vLay at hF ⊢
  refine X_fnP mixedX Tryz.func11 rfl (by kernel_rfl) (Nat.le_of_ble_eq_true (by kernel_rfl)) (by kernel_rfl) rfl rfl ?_
  simp only [sl0, Nat.zero_add, Nat.reduceAdd]
  repeat' (first|with_reducible (first|refine q_and ?_ ?_|exact True.intro|refine Red.o (by constructor) ?_|fail)|((with_reducible apply q_call);refine X_pure (hF) rfl ?_)|with_reducible (refine W_seq ?_)|((with_reducible apply q_cond);refine X_cond rfl ?_ ?_;all_goals (intro hbq;(try simp only [bq] at hbq);(try (exfalso;omega))))|refine Rex.o (by (with_reducible constructor);apply Eq.refl) ?_|fail)
  all_goals rfl
theorem rMake_ok (L : Lay) (hL : LayFits L) (st : List Stp) (ov : Int) (hl : st.length ≤ 9223372036854775807) (ho : -9223372036854775808 ≤ ov ∧ ov ≤ 9223372036854775807) (nm : ByteArray) (l sp ac br : Int) (a b : Nat) (hm : motErr L ⟨st, ov⟩ l sp ac br = 0) (hab : a < b) (hb : (b : Int) ≤ st.length - ov - 1) : OkV Tryz.prog 11 [vLay L, vR2 st ov, vS5 nm l sp ac br, .c (xI a), .c (xI b)] [] (.tup [.agg (lPro L (partR st ov a b) l sp ac br a b), .c (xI 0)]) [] := by
 have hF := rFits_ok L hL st ov hl ho nm l sp ac br
 have h := (mot_of hm).1
 have hR := rte_of (cel_rte (fit_of h).1)
 have g1 := hR.ov0
 have g2 := hR.ov
 have g3 := hR.len
 simp only at g1 g2 g3
 have hf := partR_fit h hab hb
 have hpl := partR_len h hab hb
 have hla := rLast_ok st ov (by omega) (by omega)
 have hPt := rPart_ok st ov (by omega) (by omega) a b hab hb
 have hps : (partR st ov a b).st.length ≤ 24 := by unfold partR; split <;> simp only [List.length_take, List.length_drop] <;> omega
 have hpo : (partR st ov a b).ov = if (b : Int) = st.length - ov - 1 then ov else 0 := by unfold partR; split <;> rfl
 have hov : ∀ n, ovlF L (partR st ov a b) l sp ac br n = if (b : Int) = st.length - ov - 1 ∧ 0 < ov then entF L (partR st ov a b) l sp ac br n / 1000 - 16 else 0 := fun n => by
  unfold ovlF
  rw [hpo]
  by_cases e : (b : Int) = st.length - ov - 1
  ·rw [if_pos e]
   by_cases e2 : 0 < ov
   ·rw [if_pos e2, if_pos ⟨e, e2⟩]
   ·rw [if_neg e2, if_neg (fun h => e2 h.2)]
  ·rw [if_neg e, if_neg (by decide), if_neg (fun h => e h.1)]
 rw [hm] at hF
 clear hR
 unfold lPro
 rw [hov]
 clear hov
 have hpb : -9223372036854775808 ≤ (partR st ov a b).ov ∧ (partR st ov a b).ov ≤ 9223372036854775807 := by rw [hpo]; split <;> omega
 generalize partR st ov a b = pr at *
 obtain ⟨ps, po⟩ := pr
 simp only at hPt hps hpb
 have hT := passing_ok L hL ps po (by omega) hpb nm l sp ac br hf
 have hRd := ride_of hf
 have hE1 := row_len (trv ⟨ps, po⟩).length fun k => rideT L ⟨ps, po⟩ l sp ac br (endA L (trv ⟨ps, po⟩) (k - 1))
 have hL1 := row_len (trv ⟨ps, po⟩).length (levF L ⟨ps, po⟩ l sp ac br)
 change (entL L ⟨ps, po⟩ l sp ac br (trv ⟨ps, po⟩).length).length = _ at hE1
 change (levL L ⟨ps, po⟩ l sp ac br (trv ⟨ps, po⟩).length).length = _ at hL1
 have hE2 : ∀ k, k < b - a + 1 → (entL L ⟨ps, po⟩ l sp ac br (trv ⟨ps, po⟩).length).getD k 0 = entF L ⟨ps, po⟩ l sp ac br k ∧ 0 ≤ entF L ⟨ps, po⟩ l sp ac br k ∧ entF L ⟨ps, po⟩ l sp ac br k ≤ 80000000 := fun k hk => ⟨row_get (by omega), (prof_rng hRd (by omega)).1, (prof_rng hRd (by omega)).2.1⟩
 have hL2 : ∀ k, k < b - a + 1 → (levL L ⟨ps, po⟩ l sp ac br (trv ⟨ps, po⟩).length).getD k 0 = levF L ⟨ps, po⟩ l sp ac br k ∧ 0 ≤ levF L ⟨ps, po⟩ l sp ac br k ∧ levF L ⟨ps, po⟩ l sp ac br k ≤ 80000000 := fun k hk => ⟨row_get (by omega), (prof_rng hRd (by omega)).2.2⟩
 have hN : ∀ k, k < b - a + 1 → needF L ⟨ps, po⟩ l sp ac br k = (entF L ⟨ps, po⟩ l sp ac br k) / 1000 - 16 := fun k hk => rfl
 have hPa : ∀ k, passF L ⟨ps, po⟩ l sp ac br k = (entF L ⟨ps, po⟩ l sp ac br (k + 1)) / 1000 := fun k => rfl
 have hCl : ∀ k, clrF L ⟨ps, po⟩ l sp ac br k = (levF L ⟨ps, po⟩ l sp ac br k + 999) / 1000 + 4 := fun k => rfl
 clear hRd hf
 generalize needF L ⟨ps, po⟩ l sp ac br = F1 at *
 generalize passF L ⟨ps, po⟩ l sp ac br = F2 at *
 generalize clrF L ⟨ps, po⟩ l sp ac br = F3 at *
 generalize entF L ⟨ps, po⟩ l sp ac br = E1 at *
 generalize levF L ⟨ps, po⟩ l sp ac br = E2 at *
 generalize entL L ⟨ps, po⟩ l sp ac br (trv ⟨ps, po⟩).length = es at *
 generalize levL L ⟨ps, po⟩ l sp ac br (trv ⟨ps, po⟩).length = lv at *
 generalize runI L ⟨ps, po⟩ l sp ac br = run at *
 have hE1 : es.length = b - a + 1 := hE1.trans hpl
 have hL1 : lv.length = b - a + 1 := hL1.trans hpl
 clear hpl hpo
 unfold vLay at hF hT ⊢
 refine X_fnP mixedX Tryz.func11 rfl (by kernel_rfl) (Nat.le_of_ble_eq_true (by kernel_rfl)) (by kernel_rfl) rfl rfl ?_
 simp only [sl0, Nat.zero_add, Nat.reduceAdd]
 repeat' (first|with_reducible (first|refine q_and ?_ ?_|exact True.intro|refine Red.o (by constructor) ?_|assumption)|((with_reducible apply q_call);first|refine X_pure (hF) rfl ?_|refine X_pure (hPt) rfl ?_|refine X_pure (hT) rfl ?_)|((with_reducible apply q_callG);refine X_pureG ((fun _ => hla)) rfl ?_ ?_)|with_reducible (first|refine W_seq ?_|refine W_block ?_)|((with_reducible apply q_cond);refine X_cond rfl ?_ ?_;all_goals (intro hbq;(try simp only [bq] at hbq);(try (exfalso;omega))))|refine Rex.o (by (with_reducible constructor);apply Eq.refl) ?_|(intro (hgq : (_ : Bool) = true);(try simp only [bq] at hgq))|(intro (hgq : (_ : Bool) = false);(try simp only [bq] at hgq))|((with_reducible apply q_CRB);kernel_rfl)|((with_reducible apply q_bt);simp only [bq])|(simp only [hgq,bq];done)|omega)
 clear hF hT hPt
 refine W_loopS (fun k : Nat => SS [sI 4 b, sC 6 (pB 1), sC 10 (pB 3), sC 13 (rInt es), sC 14 (rInt lv), sC 17 (pB 4), sI 18 ((b : Int) - a), sI 19 k] [none, bRte st ov, none, some (.cells [xI 0, xI 0, .c (.f .nils), .c (.f .nils), .c (.f .nils), xI 0, xI 0]), some (.cells [xI a, xI b, tInt (row k F1), tInt (row k F2), tInt (row k F3), xI 0, xI run])]) (fun k => k ≤ b - a) (fun k => b - a - k) 0 ?_ (by omega) ?_
 ·
  refine X_weak rfl rfl rfl ?_ ?_ <;> repeat' (first|with_reducible (first|refine Wk.o (by constructor) ?_|refine q_and ?_ ?_|exact True.intro)|refine q_AgS rfl ?_ ?_|exact CLe.nil_tipS|exact (rfl : known _ = _)|omega)
  all_goals rfl
 intro k hk
 have q1 := row_len k F1
 have q2 := row_len k F2
 have q3 := row_len k F3
 have m1 : es.getD (k : Int).toNat 0 = E1 k := (hE2 k (by omega)).1
 have m2 := (hE2 k (by omega)).2
 have n1 : lv.getD (k : Int).toNat 0 = E2 k := (hL2 k (by omega)).1
 have n2 := (hL2 k (by omega)).2
 by_cases hkn : k < b - a
 ·have m3 : es.getD ((k : Int) + 1).toNat 0 = E1 (k + 1) := (hE2 (k + 1) (by omega)).1
  have m4 := (hE2 (k + 1) (by omega)).2
  repeat' (first|with_reducible (first|refine q_and ?_ ?_|exact True.intro|refine Red.o (by constructor) ?_|fail)|with_reducible (first|refine W_seq ?_|refine W_block ?_)|((with_reducible apply q_cond);refine X_cond rfl ?_ ?_;all_goals (intro hbq;(try simp only [bq] at hbq);(try (exfalso;omega))))|refine Rex.o (by (with_reducible constructor);apply Eq.refl) ?_|((with_reducible apply q_VOk);exact fun _ => ⟨rfl,rfl⟩)|((with_reducible apply q_CRB);kernel_rfl)|((with_reducible apply q_eqN);rfl)|omega)
  ·
   refine LoopK_n (k + 1) ?_ ((by omega)) (by (try dsimp only); omega)
   refine X_weak rfl rfl rfl ?_ ?_ <;> repeat' (first|with_reducible (first|refine Wk.o (by constructor) ?_|refine q_and ?_ ?_|exact True.intro)|refine q_AgS rfl ?_ ?_|exact (rfl : known _ = _)|omega)
   ·rw [row_snoc k F1, hN k (by omega), m1]; simp [fInt, fI]
   ·rw [row_len, row_len]
   ·rw [row_snoc k F2, hPa k, m3]; simp [fInt, fI]
   ·rw [row_len, row_len]
   ·rw [row_snoc k F3, hCl k, n1]; simp [fInt, fI]
   ·rw [row_len, row_len]
 ·have hke : k = b - a := by omega
  subst hke
  have e3 : es.getD ((b : Int) - a).toNat 0 = E1 (b - a) := by rw [← m1]; congr 1; omega
  by_cases e : (b : Int) = st.length - ov - 1 ∧ 0 < ov
  ·rw [if_pos e]
   repeat' (first|with_reducible (first|refine q_and ?_ ?_|exact True.intro|refine Red.o (by constructor) ?_|assumption)|((with_reducible apply q_call);refine X_pure (hla) rfl ?_)|with_reducible (refine W_seq ?_)|((with_reducible apply q_cond);refine X_cond rfl ?_ ?_;all_goals (intro hbq;(try simp only [bq] at hbq);(try (exfalso;omega))))|refine Rex.o (by (with_reducible constructor);apply Eq.refl) ?_|(intro (hgq : (_ : Bool) = true);(try simp only [bq] at hgq))|((with_reducible apply q_VOk);exact fun _ => ⟨rfl,rfl⟩)|((with_reducible apply q_bt);simp only [bq])|omega)
   all_goals first
    | (rw [e3]; omega)
    | (rw [e3]; rfl)
  ·rw [if_neg e]
   repeat' (first|with_reducible (first|refine q_and ?_ ?_|exact True.intro|refine Red.o (by constructor) ?_|assumption)|((with_reducible apply q_call);refine X_pure (hla) rfl ?_)|with_reducible (refine W_seq ?_)|((with_reducible apply q_cond);refine X_cond rfl ?_ ?_;all_goals (intro hbq;(try simp only [bq] at hbq);(try (exfalso;omega))))|refine Rex.o (by (with_reducible constructor);apply Eq.refl) ?_|(intro (hgq : (_ : Bool) = true);(try simp only [bq] at hgq))|((with_reducible apply q_bt);simp only [bq]))
   all_goals first
    | rfl
    | (exfalso; omega)
theorem mak_of {L : Lay} {st : List Stp} {ov l sp ac br a b : Int} (h : makErr L st ov l sp ac br a b = 0) : motErr L ⟨st, ov⟩ l sp ac br = 0 ∧ 0 ≤ a ∧ a < b ∧ b ≤ st.length - ov - 1 := by
 unfold makErr at h
 by_cases h1 : motErr L ⟨st, ov⟩ l sp ac br = 0
 ·rw [if_neg (by simpa using h1)] at h
  by_cases h2 : a < 0 ∨ b ≤ a ∨ (st.length : Int) - ov - 1 < b
  ·rw [if_pos h2] at h; cases h
  ·exact ⟨h1, by omega, by omega, by omega⟩
 ·rw [if_pos h1] at h; exact absurd h h1
section
variable (L : Lay) (hL : LayFits L) (st : List Stp) (ov : Int) (hl : st.length ≤ 9223372036854775807) (ho : -9223372036854775808 ≤ ov ∧ ov ≤ 9223372036854775807) (nm : ByteArray) (l sp ac br : Int)
include hL hl ho
theorem make_ex (a b : Int) : ∃ p q : Int, ∃ x y z : List Int, ∃ o n e : Int, OkV Tryz.prog 10 [vLay L, vR2 st ov, vS5 nm l sp ac br, .c (xI a), .c (xI b)] [] (.tup [.agg (lPro7 p q x y z o n), .c (xI e)]) [] ∧ OkV Tryz.prog 11 [vLay L, vR2 st ov, vS5 nm l sp ac br, .c (xI a), .c (xI b)] [] (.tup [.agg (lPro7 p q x y z o n), .c (xI e)]) [] ∧ x.length ≤ 24 ∧ y.length ≤ 24 ∧ z.length ≤ 24 := by
 by_cases h : makErr L st ov l sp ac br a b = 0
 ·obtain ⟨h1, h2, h3, h4⟩ := mak_of h
  obtain ⟨a, rfl⟩ := Int.eq_ofNat_of_zero_le h2
  obtain ⟨b, rfl⟩ := Int.eq_ofNat_of_zero_le (show 0 ≤ b by omega)
  have hR := rte_of (cel_rte (fit_of (mot_of h1).1).1)
  have g1 := hR.ov0
  have g3 := hR.len
  simp only at g1 g3
  exact ⟨_, _, _, _, _, _, _, _, make_ok L hL st ov hl ho nm l sp ac br a b h1 (by omega) h4, rMake_ok L hL st ov hl ho nm l sp ac br a b h1 (by omega) h4, by rw [row_len]; omega, by rw [row_len]; omega, by rw [row_len]; omega⟩
 ·exact ⟨_, _, _, _, _, _, _, _, make_bad L hL st ov hl ho nm l sp ac br a b h, rMake_bad L hL st ov hl ho nm l sp ac br a b h, by simp, by simp, by simp⟩
end
theorem same_leg_ok (l : List Leg) (hl : l.length ≤ 9223372036854775807) : OkV Tryz.prog 22 [.c (rLeg l), .c (rLeg l)] [] (vB true) [] := by
 refine X_fnP mixedX Tryz.func22 rfl (by kernel_rfl) (Nat.le_of_ble_eq_true (by kernel_rfl)) (by kernel_rfl) rfl rfl ?_
 simp only [sl0, Nat.zero_add, Nat.reduceAdd]
 repeat' (first|with_reducible (first|refine q_and ?_ ?_|exact True.intro|refine Red.o (by constructor) ?_|fail)|with_reducible (first|refine W_seq ?_|refine W_block ?_)|((with_reducible apply q_cond);refine X_cond rfl ?_ ?_;all_goals (intro hbq;(try simp only [bq] at hbq);(try (exfalso;omega))))|refine Rex.o (by (with_reducible constructor);apply Eq.refl) ?_|fail)
 refine W_loopS (fun i : Nat => SS [sC 0 (rLeg l), sC 1 (rLeg l), sI 12 l.length, sI 13 i] []) (fun i => i ≤ l.length) (fun i => l.length - i) 0 ?_ (by omega) ?_
 ·
  refine X_weak rfl rfl rfl ?_ ?_ <;> repeat' (first|with_reducible (first|refine Wk.o (by constructor) ?_|refine q_and ?_ ?_|exact True.intro)|refine q_AgS rfl ?_ ?_|exact (rfl : known _ = _)|omega)
 ·intro i hi
  repeat' (first|with_reducible (first|refine q_and ?_ ?_|exact True.intro|refine Red.o (by constructor) ?_|assumption)|with_reducible (first|refine W_seq ?_|refine W_block ?_)|((with_reducible apply q_cond);refine X_cond rfl ?_ ?_;all_goals (intro hbq;(try simp only [bq] at hbq);(try (exfalso;omega))))|refine Rex.o (by (with_reducible constructor);apply Eq.refl) ?_|((with_reducible apply q_VOk);exact fun _ => ⟨rfl,rfl⟩)|((with_reducible apply q_CRB);kernel_rfl)|omega)
  ·
   refine LoopK_n (i + 1) ?_ ((by omega)) (by (try dsimp only); omega)
   refine X_weak rfl rfl rfl ?_ ?_ <;> repeat' (first|with_reducible (first|refine Wk.o (by constructor) ?_|refine q_and ?_ ?_|exact True.intro)|refine q_AgS rfl ?_ ?_|exact (rfl : known _ = _)|omega)
  ·rfl
theorem sameProfile_ok (a b o n : Int) (x y z : List Int) (hx : x.length ≤ 24) (hy : y.length ≤ 24) (hz : z.length ≤ 24) : OkV Tryz.prog 12 [.agg (lPro7 a b x y z o n), .agg (lPro7 a b x y z o n)] [] (vB true) [] := by
 have h1 := same_int_ok x (by omega)
 have h2 := same_int_ok y (by omega)
 have h3 := same_int_ok z (by omega)
 refine X_fnP mixedX Tryz.func12 rfl (by kernel_rfl) (Nat.le_of_ble_eq_true (by kernel_rfl)) (by kernel_rfl) rfl rfl ?_
 simp only [sl0, Nat.zero_add, Nat.reduceAdd]
 repeat' (first|with_reducible (first|refine q_and ?_ ?_|exact True.intro|refine Red.o (by constructor) ?_|fail)|((with_reducible apply q_callG);refine X_pureG ((fun _ => h1)) rfl ?_ ?_)|((with_reducible apply q_callG);refine X_pureG ((fun _ => h2)) rfl ?_ ?_)|((with_reducible apply q_callG);refine X_pureG ((fun _ => h3)) rfl ?_ ?_)|with_reducible (refine W_seq ?_)|refine Rex.o (by (with_reducible constructor);apply Eq.refl) ?_|(intro (hgq : (_ : Bool) = true);(try simp only [bq] at hgq))|((with_reducible apply q_bt);simp only [bq]))
 all_goals (refine VEq.c (CEq.bool ?_); simp; done)
set_option maxHeartbeats 40000000
theorem makeLaw_ok (l : List Int) (fr to : Int) (hl : l.length ≤ 9223372036854775807) : OkV Tryz.prog 3 [.c (rInt l), .c (xI fr), .c (xI to)] [] (vB true) [] := by
 have hA := awake_ok
 have hR := route2_ok l hl
 have hfit := fits_valid (valid_of (genL_ok l))
 generalize genL l = L at *
 refine X_fnP mixedX Tryz.func3 rfl (by kernel_rfl) (Nat.le_of_ble_eq_true (by kernel_rfl)) (by kernel_rfl) rfl rfl ?_
 simp only [sl0, Nat.zero_add, Nat.reduceAdd]
 repeat' (first|with_reducible (first|refine q_and ?_ ?_|exact True.intro|refine Red.o (by constructor) ?_|fail)|with_reducible (refine W_seq ?_)|refine Rex.o (by (with_reducible constructor);apply Eq.refl) ?_|fail)
 refine X_callG [] hR rfl rfl rfl rfl rfl rfl rfl rfl ?_
 rintro ⟨⟨st, ov⟩, ⟨nm, ln, sp, ac, br⟩⟩ ⟨hd1, hd2, hd3⟩
 refine ⟨_, _, _, _, rfl, rfl, rfl, rfl, rfl, ?_⟩
 simp only at hd1 hd2 hd3
 have hE := fun a b => make_ex L hfit st ov (by omega) (by omega) nm ln sp ac br a b
 unfold vLay at hE
 clear hR
 repeat' (first|with_reducible (first|refine q_and ?_ ?_|exact True.intro|refine Red.o (by constructor) ?_|fail)|with_reducible (first|refine W_seq ?_|refine W_block ?_)|refine Rex.o (by (with_reducible constructor);apply Eq.refl) ?_|fail)
 refine W_loopS (fun i : Nat => SS [sI 1 fr, sI 2 to, sC 7 (pB 0), sC 8 (pB 1), sC 9 (pB 2), sI 10 ((i : Int) - 1)] [bLay L, bRte st ov, some (.cells [xS nm, xI ln, xI sp, xI ac, xI br])]) (fun i => i ≤ st.length + 1) (fun i => st.length + 1 - i) 0 ?_ (by omega) ?_
 ·
  refine X_weak rfl rfl rfl ?_ ?_ <;> repeat' (first|with_reducible (first|refine Wk.o (by constructor) ?_|refine q_and ?_ ?_|exact True.intro)|refine q_AgS rfl ?_ ?_|exact (rfl : known _ = _)|omega)
  all_goals rfl
 intro i hi
 by_cases hil : i < st.length + 1
 ·
  repeat' (first|with_reducible (first|refine q_and ?_ ?_|exact True.intro|refine Red.o (by constructor) ?_|fail)|with_reducible (first|refine W_seq ?_|refine W_block ?_)|((with_reducible apply q_cond);refine X_cond rfl ?_ ?_;all_goals (intro hbq;(try simp only [bq] at hbq);(try (exfalso;omega))))|refine Rex.o (by (with_reducible constructor);apply Eq.refl) ?_|fail)
  refine W_loopS (fun j : Nat => SS [sI 1 fr, sI 2 to, sC 7 (pB 0), sC 8 (pB 1), sC 9 (pB 2), sI 10 ((i : Int) - 1), sI 11 ((j : Int) - 1)] [bLay L, bRte st ov, some (.cells [xS nm, xI ln, xI sp, xI ac, xI br])]) (fun j => j ≤ st.length + 2) (fun j => st.length + 2 - j) 0 ?_ (by omega) ?_
  ·
   refine X_weak rfl rfl rfl ?_ ?_ <;> repeat' (first|with_reducible (first|refine Wk.o (by constructor) ?_|refine q_and ?_ ?_|exact True.intro)|refine q_AgS rfl ?_ ?_|exact (rfl : known _ = _)|omega)
   all_goals rfl
  intro j hj
  by_cases hjl : j < st.length + 2
  ·obtain ⟨p, q, x, y, z, o, n, e, h1, h2, hx, hy, hz⟩ := hE ((i : Int) - 1) ((j : Int) - 1)
   have hS := sameProfile_ok p q o n x y z hx hy hz
   clear hE
   repeat' (first|with_reducible (first|refine q_and ?_ ?_|exact True.intro|refine Red.o (by constructor) ?_|fail)|((with_reducible apply q_call);first|refine X_pure (h1) rfl ?_|refine X_pure (h2) rfl ?_|refine X_pure (hS) rfl ?_)|with_reducible (first|refine W_seq ?_|refine W_block ?_)|((with_reducible apply q_cond);refine X_cond rfl ?_ ?_;all_goals (intro hbq;(try simp only [bq] at hbq);(try (exfalso;omega))))|refine Rex.o (by (with_reducible constructor);apply Eq.refl) ?_|(intro (hgq : (_ : Bool) = true);(try simp only [bq] at hgq))|(intro (hgq : (_ : Bool) = false);(try simp only [bq] at hgq))|((with_reducible apply q_bt);simp only [bq])|omega)
   refine LoopK_n (j + 1) ?_ ((by omega)) (by (try dsimp only); omega)
   refine X_weak rfl rfl rfl ?_ ?_ <;> repeat' (first|with_reducible (first|refine Wk.o (by constructor) ?_|refine q_and ?_ ?_|exact True.intro)|refine q_AgS rfl ?_ ?_|exact (rfl : known _ = _)|omega)
   all_goals first
    | rfl
    | omega
  ·clear hE
   repeat' (first|with_reducible (first|refine q_and ?_ ?_|exact True.intro|refine Red.o (by constructor) ?_|fail)|with_reducible (refine W_seq ?_)|((with_reducible apply q_cond);refine X_cond rfl ?_ ?_;all_goals (intro hbq;(try simp only [bq] at hbq);(try (exfalso;omega))))|refine Rex.o (by (with_reducible constructor);apply Eq.refl) ?_|omega)
   refine LoopK_n (i + 1) ?_ ((by omega)) (by (try dsimp only); omega)
   refine X_weak rfl rfl rfl ?_ ?_ <;> repeat' (first|with_reducible (first|refine Wk.o (by constructor) ?_|refine q_and ?_ ?_|exact True.intro)|refine q_AgS rfl ?_ ?_|exact (rfl : known _ = _)|omega)
   all_goals first
    | rfl
    | omega
 ·obtain ⟨p, q, x, y, z, o, n, e, h1, h2, hx, hy, hz⟩ := hE fr to
  have hS := sameProfile_ok p q o n x y z hx hy hz
  clear hE
  repeat' (first|with_reducible (first|refine q_and ?_ ?_|exact True.intro|refine Red.o (by constructor) ?_|fail)|((with_reducible apply q_call);first|refine X_pure (h1) rfl ?_|refine X_pure (h2) rfl ?_|refine X_pure (hA) rfl ?_)|((with_reducible apply q_callG);refine X_pureG ((fun _ => hS)) rfl ?_ ?_)|with_reducible (refine W_seq ?_)|((with_reducible apply q_cond);refine X_cond rfl ?_ ?_;all_goals (intro hbq;(try simp only [bq] at hbq);(try (exfalso;omega))))|refine Rex.o (by (with_reducible constructor);apply Eq.refl) ?_|(intro (hgq : (_ : Bool) = true);(try simp only [bq] at hgq))|((with_reducible apply q_bt);simp only [bq]))
  all_goals (refine VEq.c (CEq.bool ?_); simp; done)
end Go.Proofs.YtalfibohepbhfaaGreat.Av
namespace Go.Proofs.YtalfibohepbhfaaGreat
open Go.RowKit
theorem W.MotionMake (a0 : Option Addr) (len0 cap0 : Nat) (z0 : List Int) (a1 : Int) (a2 : Int) (w : World) (w0 : Av.IsRowI w a0 len0 cap0 z0) (w1 : (Lit.int .i64 a1).wf = true) (w2 : (Lit.int .i64 a2).wf = true) (s0 : ∀ x, a0 = some x → x.spot = none) :
  Calls Tryz.prog 3 #[.slice a0 len0 cap0, .int .i64 a1, .int .i64 a2] w fun e w' => e = .returned (.bool true) ∧ Below w.heap.size w w' := by
 obtain ⟨h0, b0⟩ := Av.rowI_rep w0 s0
 refine Av.law_calls (Av.makeLaw_ok _ a1 a2 b0) w _ rfl (fun i hi hi' l => ?_) (fun x hx => by
  simp at hx
  rcases hx with rfl | rfl | rfl <;> rfl)
 match i, hi with
 | 0, _ => exact h0 l
 | 1, _ => exact .v _ rfl
 | 2, _ => exact .v _ rfl
end Go.Proofs.YtalfibohepbhfaaGreat
