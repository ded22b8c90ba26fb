/- What the claims use of their texts: Mo8, Mo9, Mp2, Mn0, Mp3, Mn3, Mn5, Wn6. -/
import Derived.Test.YtalfibohepbhfaaGreatPHF
set_option linter.unusedVariables false
set_option linter.unusedSimpArgs false
set_option maxRecDepth 4000
set_option maxHeartbeats 4000000
namespace Go.Proofs.YtalfibohepbhfaaGreat.Av
theorem rPart_ok (st : List Stp) (ov : Int) (h24 : st.length ≤ 24) (h0 : 0 ≤ ov ∧ ov ≤ st.length) (a b : Nat) (hab : a < b) (hb : (b : Int) ≤ st.length - ov - 1) : OkV Tryz.prog 32 [vR2 st ov, .c (xI a), .c (xI b)] [] (vR2 (partR st ov a b).st (partR st ov a b).ov) [] := by
 have hla := rLast_ok st ov (by omega) (by omega)
 unfold partR
 by_cases e : (b : Int) = st.length - ov - 1
 ·rw [if_pos e]
  have hd : (st.drop (a : Int).toNat).length ≤ 24 := by rw [List.length_drop]; omega
  refine X_fnP mixedX Tryz.func32 rfl (by kernel_rfl) (Nat.le_of_ble_eq_true (by kernel_rfl)) (by kernel_rfl) rfl rfl ?_
  simp only [sl0, Nat.zero_add, Nat.reduceAdd]
  repeat' (first|with_reducible (first|refine q_and ?_ ?_|exact True.intro|refine Red.o (by constructor) ?_|fail)|((with_reducible apply q_call);refine X_pure (hla) rfl ?_)|with_reducible (refine W_seq ?_)|((with_reducible apply q_cond);refine X_cond rfl ?_ ?_;all_goals (intro hbq;(try simp only [bq] at hbq);(try (exfalso;omega))))|refine Rex.o (by (with_reducible constructor);apply Eq.refl) ?_|(intro _;exact rfl)|((with_reducible apply q_CRB);kernel_rfl)|omega)
  all_goals first | omega | rfl
 ·rw [if_neg e]
  have hd : ((st.drop (a : Int).toNat).take ((b : Int) + 1 - a).toNat).length ≤ 24 := by rw [List.length_take, List.length_drop]; omega
  have he : ((b : Int) + 1 - a).toNat = b + 1 - a := by omega
  refine X_fnP mixedX Tryz.func32 rfl (by kernel_rfl) (Nat.le_of_ble_eq_true (by kernel_rfl)) (by kernel_rfl) rfl rfl ?_
  simp only [sl0, Nat.zero_add, Nat.reduceAdd]
  repeat' (first|with_reducible (first|refine q_and ?_ ?_|exact True.intro|refine Red.o (by constructor) ?_|fail)|((with_reducible apply q_call);refine X_pure (hla) rfl ?_)|with_reducible (refine W_seq ?_)|((with_reducible apply q_cond);refine X_cond rfl ?_ ?_;all_goals (intro hbq;(try simp only [bq] at hbq);(try (exfalso;omega))))|refine Rex.o (by (with_reducible constructor);apply Eq.refl) ?_|(intro _;exact rfl)|omega)
  all_goals first | omega | (rw [he]; rfl)
theorem rMake_bad (L : Lay) (hL : LayFits L) (st : List Stp) (ov : Int) (hl : st.length ≤ 9223372036854775807) (ho : -9223372036854775808 ≤ ov ∧ ov ≤ 9223372036854775807) (nm : ByteArray) (l sp ac br a b : Int) (h : ¬ makErr L st ov l sp ac br a b = 0) : OkV Tryz.prog 11 [vLay L, vR2 st ov, vS5 nm l sp ac br, .c (xI a), .c (xI b)] [] (.tup [.agg lPro0, .c (xI (makErr L st ov l sp ac br a b))]) [] := by
 have hF := rFits_ok L hL st ov hl ho nm l sp ac br
 unfold makErr at h ⊢
 by_cases hm : motErr L ⟨st, ov⟩ l sp ac br = 0
 ·have hR := rte_of (cel_rte (fit_of (mot_of hm).1).1)
  have g1 := hR.ov0
  have g2 := hR.ov
  have g3 := hR.len
  have g4 := hR.two
  simp only at g1 g2 g3 g4
  have hla := rLast_ok st ov hl (by omega)
  rw [hm] at hF h ⊢
  rw [if_neg (by decide)] at h ⊢
  have hc : a < 0 ∨ b ≤ a ∨ (st.length : Int) - ov - 1 < b := Classical.byContradiction fun hn => h (if_neg hn)
  rw [if_pos hc]
  unfold vLay at hF ⊢
  refine X_fnP mixedX Tryz.func11 rfl (by kernel_rfl) (Nat.le_of_ble_eq_true (by kernel_rfl)) (by kernel_rfl) rfl rfl ?_
  simp only [sl0, Nat.zero_add, Nat.reduceAdd]
  repeat' (first|with_reducible (first|refine q_and ?_ ?_|exact True.intro|refine Red.o (by constructor) ?_|assumption)|((with_reducible apply q_call);refine X_pure (hF) rfl ?_)|((with_reducible apply q_callG);refine X_pureG ((fun _ => hla)) rfl ?_ ?_)|with_reducible (refine W_seq ?_)|((with_reducible apply q_cond);refine X_cond rfl ?_ ?_;all_goals (intro hbq;(try simp only [bq] at hbq);(try (exfalso;omega))))|refine Rex.o (by (with_reducible constructor);apply Eq.refl) ?_|(intro (hgq : (_ : Bool) = true);(try simp only [bq] at hgq))|(intro (hgq : (_ : Bool) = false);(try simp only [bq] at hgq))|((with_reducible apply q_bt);simp only [bq])|(simp only [hgq,bq];done))
  all_goals rfl
 ·rw [if_pos hm]
  unfold vLay at hF ⊢
  refine X_fnP mixedX Tryz.func11 rfl (by kernel_rfl) (Nat.le_of_ble_eq_true (by kernel_rfl)) (by kernel_rfl) rfl rfl ?_
  simp only [sl0, Nat.zero_add, Nat.reduceAdd]
  repeat' (first|with_reducible (first|refine q_and ?_ ?_|exact True.intro|refine Red.o (by constructor) ?_|fail)|((with_reducible apply q_call);refine X_pure (hF) rfl ?_)|with_reducible (refine W_seq ?_)|((with_reducible apply q_cond);refine X_cond rfl ?_ ?_;all_goals (intro hbq;(try simp only [bq] at hbq);(try (exfalso;omega))))|refine Rex.o (by (with_reducible constructor);apply Eq.refl) ?_|fail)
  all_goals rfl
theorem rMake_ok (L : Lay) (hL : LayFits L) (st : List Stp) (ov : Int) (hl : st.length ≤ 9223372036854775807) (ho : -9223372036854775808 ≤ ov ∧ ov ≤ 9223372036854775807) (nm : ByteArray) (l sp ac br : Int) (a b : Nat) (hm : motErr L ⟨st, ov⟩ l sp ac br = 0) (hab : a < b) (hb : (b : Int) ≤ st.length - ov - 1) : OkV Tryz.prog 11 [vLay L, vR2 st ov, vS5 nm l sp ac br, .c (xI a), .c (xI b)] [] (.tup [.agg (lPro L (partR st ov a b) l sp ac br a b), .c (xI 0)]) [] := by
 have hF := rFits_ok L hL st ov hl ho nm l sp ac br
 have h := (mot_of hm).1
 have hR := rte_of (cel_rte (fit_of h).1)
 have g1 := hR.ov0
 have g2 := hR.ov
 have g3 := hR.len
 simp only at g1 g2 g3
 have hf := partR_fit h hab hb
 have hpl := partR_len h hab hb
 have hla := rLast_ok st ov (by omega) (by omega)
 have hPt := rPart_ok st ov (by omega) (by omega) a b hab hb
 have hps : (partR st ov a b).st.length ≤ 24 := by unfold partR; split <;> simp only [List.length_take, List.length_drop] <;> omega
 have hpo : (partR st ov a b).ov = if (b : Int) = st.length - ov - 1 then ov else 0 := by unfold partR; split <;> rfl
 have hov : ∀ n, ovlF L (partR st ov a b) l sp ac br n = if (b : Int) = st.length - ov - 1 ∧ 0 < ov then entF L (partR st ov a b) l sp ac br n / 1000 - 16 else 0 := fun n => by
  unfold ovlF
  rw [hpo]
  by_cases e : (b : Int) = st.length - ov - 1
  ·rw [if_pos e]
   by_cases e2 : 0 < ov
   ·rw [if_pos e2, if_pos ⟨e, e2⟩]
   ·rw [if_neg e2, if_neg (fun h => e2 h.2)]
  ·rw [if_neg e, if_neg (by decide), if_neg (fun h => e h.1)]
 rw [hm] at hF
 clear hR
 unfold lPro
 rw [hov]
 clear hov
 have hpb : -9223372036854775808 ≤ (partR st ov a b).ov ∧ (partR st ov a b).ov ≤ 9223372036854775807 := by rw [hpo]; split <;> omega
 generalize partR st ov a b = pr at *
 obtain ⟨ps, po⟩ := pr
 simp only at hPt hps hpb
 have hT := passing_ok L hL ps po (by omega) hpb nm l sp ac br hf
 have hRd := ride_of hf
 have hE1 := row_len (trv ⟨ps, po⟩).length fun k => rideT L ⟨ps, po⟩ l sp ac br (endA L (trv ⟨ps, po⟩) (k - 1))
 have hL1 := row_len (trv ⟨ps, po⟩).length (levF L ⟨ps, po⟩ l sp ac br)
 change (entL L ⟨ps, po⟩ l sp ac br (trv ⟨ps, po⟩).length).length = _ at hE1
 change (levL L ⟨ps, po⟩ l sp ac br (trv ⟨ps, po⟩).length).length = _ at hL1
 have hE2 : ∀ k, k < b - a + 1 → (entL L ⟨ps, po⟩ l sp ac br (trv ⟨ps, po⟩).length).getD k 0 = entF L ⟨ps, po⟩ l sp ac br k ∧ 0 ≤ entF L ⟨ps, po⟩ l sp ac br k ∧ entF L ⟨ps, po⟩ l sp ac br k ≤ 80000000 := fun k hk => ⟨row_get (by omega), (prof_rng hRd (by omega)).1, (prof_rng hRd (by omega)).2.1⟩
 have hL2 : ∀ k, k < b - a + 1 → (levL L ⟨ps, po⟩ l sp ac br (trv ⟨ps, po⟩).length).getD k 0 = levF L ⟨ps, po⟩ l sp ac br k ∧ 0 ≤ levF L ⟨ps, po⟩ l sp ac br k ∧ levF L ⟨ps, po⟩ l sp ac br k ≤ 80000000 := fun k hk => ⟨row_get (by omega), (prof_rng hRd (by omega)).2.2⟩
 have hN : ∀ k, k < b - a + 1 → needF L ⟨ps, po⟩ l sp ac br k = (entF L ⟨ps, po⟩ l sp ac br k) / 1000 - 16 := fun k hk => rfl
 have hPa : ∀ k, passF L ⟨ps, po⟩ l sp ac br k = (entF L ⟨ps, po⟩ l sp ac br (k + 1)) / 1000 := fun k => rfl
 have hCl : ∀ k, clrF L ⟨ps, po⟩ l sp ac br k = (levF L ⟨ps, po⟩ l sp ac br k + 999) / 1000 + 4 := fun k => rfl
 clear hRd hf
 generalize needF L ⟨ps, po⟩ l sp ac br = F1 at *
 generalize passF L ⟨ps, po⟩ l sp ac br = F2 at *
 generalize clrF L ⟨ps, po⟩ l sp ac br = F3 at *
 generalize entF L ⟨ps, po⟩ l sp ac br = E1 at *
 generalize levF L ⟨ps, po⟩ l sp ac br = E2 at *
 generalize entL L ⟨ps, po⟩ l sp ac br (trv ⟨ps, po⟩).length = es at *
 generalize levL L ⟨ps, po⟩ l sp ac br (trv ⟨ps, po⟩).length = lv at *
 generalize runI L ⟨ps, po⟩ l sp ac br = run at *
 have hE1 : es.length = b - a + 1 := hE1.trans hpl
 have hL1 : lv.length = b - a + 1 := hL1.trans hpl
 clear hpl hpo
 unfold vLay at hF hT ⊢
 refine X_fnP mixedX Tryz.func11 rfl (by kernel_rfl) (Nat.le_of_ble_eq_true (by kernel_rfl)) (by kernel_rfl) rfl rfl ?_
 simp only [sl0, Nat.zero_add, Nat.reduceAdd]
 repeat' (first|with_reducible (first|refine q_and ?_ ?_|exact True.intro|refine Red.o (by constructor) ?_|assumption)|((with_reducible apply q_call);first|refine X_pure (hF) rfl ?_|refine X_pure (hPt) rfl ?_|refine X_pure (hT) rfl ?_)|((with_reducible apply q_callG);refine X_pureG ((fun _ => hla)) rfl ?_ ?_)|with_reducible (first|refine W_seq ?_|refine W_block ?_)|((with_reducible apply q_cond);refine X_cond rfl ?_ ?_;all_goals (intro hbq;(try simp only [bq] at hbq);(try (exfalso;omega))))|refine Rex.o (by (with_reducible constructor);apply Eq.refl) ?_|(intro (hgq : (_ : Bool) = true);(try simp only [bq] at hgq))|(intro (hgq : (_ : Bool) = false);(try simp only [bq] at hgq))|((with_reducible apply q_CRB);kernel_rfl)|((with_reducible apply q_bt);simp only [bq])|(simp only [hgq,bq];done)|omega)
 clear hF hT hPt
 refine W_loopS (fun k : Nat => SS [sI 4 b, sC 6 (pB 1), sC 10 (pB 3), sC 13 (rInt es), sC 14 (rInt lv), sC 17 (pB 4), sI 18 ((b : Int) - a), sI 19 k] [none, bRte st ov, none, some (.cells [xI 0, xI 0, .c (.f .nils), .c (.f .nils), .c (.f .nils), xI 0, xI 0]), some (.cells [xI a, xI b, tInt (row k F1), tInt (row k F2), tInt (row k F3), xI 0, xI run])]) (fun k => k ≤ b - a) (fun k => b - a - k) 0 ?_ (by omega) ?_
 ·
  refine X_weak rfl rfl rfl ?_ ?_ <;> repeat' (first|with_reducible (first|refine Wk.o (by constructor) ?_|refine q_and ?_ ?_|exact True.intro)|refine q_AgS rfl ?_ ?_|exact CLe.nil_tipS|exact (rfl : known _ = _)|omega)
  all_goals rfl
 intro k hk
 have q1 := row_len k F1
 have q2 := row_len k F2
 have q3 := row_len k F3
 have m1 : es.getD (k : Int).toNat 0 = E1 k := (hE2 k (by omega)).1
 have m2 := (hE2 k (by omega)).2
 have n1 : lv.getD (k : Int).toNat 0 = E2 k := (hL2 k (by omega)).1
 have n2 := (hL2 k (by omega)).2
 by_cases hkn : k < b - a
 ·have m3 : es.getD ((k : Int) + 1).toNat 0 = E1 (k + 1) := (hE2 (k + 1) (by omega)).1
  have m4 := (hE2 (k + 1) (by omega)).2
  repeat' (first|with_reducible (first|refine q_and ?_ ?_|exact True.intro|refine Red.o (by constructor) ?_|fail)|with_reducible (first|refine W_seq ?_|refine W_block ?_)|((with_reducible apply q_cond);refine X_cond rfl ?_ ?_;all_goals (intro hbq;(try simp only [bq] at hbq);(try (exfalso;omega))))|refine Rex.o (by (with_reducible constructor);apply Eq.refl) ?_|((with_reducible apply q_VOk);exact fun _ => ⟨rfl,rfl⟩)|((with_reducible apply q_CRB);kernel_rfl)|((with_reducible apply q_eqN);rfl)|omega)
  ·
   refine LoopK_n (k + 1) ?_ ((by omega)) (by (try dsimp only); omega)
   refine X_weak rfl rfl rfl ?_ ?_ <;> repeat' (first|with_reducible (first|refine Wk.o (by constructor) ?_|refine q_and ?_ ?_|exact True.intro)|refine q_AgS rfl ?_ ?_|exact (rfl : known _ = _)|omega)
   ·rw [row_snoc k F1, hN k (by omega), m1]; simp [fInt, fI]
   ·rw [row_len, row_len]
   ·rw [row_snoc k F2, hPa k, m3]; simp [fInt, fI]
   ·rw [row_len, row_len]
   ·rw [row_snoc k F3, hCl k, n1]; simp [fInt, fI]
   ·rw [row_len, row_len]
 ·have hke : k = b - a := by omega
  subst hke
  have e3 : es.getD ((b : Int) - a).toNat 0 = E1 (b - a) := by rw [← m1]; congr 1; omega
  by_cases e : (b : Int) = st.length - ov - 1 ∧ 0 < ov
  ·rw [if_pos e]
   repeat' (first|with_reducible (first|refine q_and ?_ ?_|exact True.intro|refine Red.o (by constructor) ?_|assumption)|((with_reducible apply q_call);refine X_pure (hla) rfl ?_)|with_reducible (refine W_seq ?_)|((with_reducible apply q_cond);refine X_cond rfl ?_ ?_;all_goals (intro hbq;(try simp only [bq] at hbq);(try (exfalso;omega))))|refine Rex.o (by (with_reducible constructor);apply Eq.refl) ?_|(intro (hgq : (_ : Bool) = true);(try simp only [bq] at hgq))|((with_reducible apply q_VOk);exact fun _ => ⟨rfl,rfl⟩)|((with_reducible apply q_bt);simp only [bq])|omega)
   all_goals first
    | (rw [e3]; omega)
    | (rw [e3]; rfl)
  ·rw [if_neg e]
   repeat' (first|with_reducible (first|refine q_and ?_ ?_|exact True.intro|refine Red.o (by constructor) ?_|assumption)|((with_reducible apply q_call);refine X_pure (hla) rfl ?_)|with_reducible (refine W_seq ?_)|((with_reducible apply q_cond);refine X_cond rfl ?_ ?_;all_goals (intro hbq;(try simp only [bq] at hbq);(try (exfalso;omega))))|refine Rex.o (by (with_reducible constructor);apply Eq.refl) ?_|(intro (hgq : (_ : Bool) = true);(try simp only [bq] at hgq))|((with_reducible apply q_bt);simp only [bq]))
   all_goals first
    | rfl
    | (exfalso; omega)
section
variable (g : Nat → Int) (m : Nat) (N : Nat → Nat → Int) (R : Nat → Nat → Int) (O : Nat → Int) (ov late : Int)
theorem leg_refused {a : Nat} (x : Int) (h : a < m) : ∀ i, a + 2 ≤ i → i ≤ legB g m N a x → ¬ legD g a x + N a (i - a - 1) < g i := by
 intro i h1 h2
 unfold legB legR at h2
 rcases Nat.lt_or_ge m (a + 2) with h3 | h3
 ·have : refI g m N a (legD g a x) (m + 1) (a + 2) = 0 := by unfold refI; rw [if_pos (by omega)]
  rw [this, if_neg (by omega)] at h2
  omega
 ·have e := refI_f g m N a (legD g a x) (m + 1) (m + 1 - (a + 2)) (a + 2) (by omega) (by omega)
  rcases refI_of g m N a (legD g a x) (m + 1 - (a + 2)) (a + 2) (by omega) with ⟨h4, h5⟩ | ⟨h4, h5, h6, h7⟩
  ·rw [e, h4, if_neg (by omega)] at h2
   exact h5 i h1 h2
  ·rw [e, if_pos (by omega)] at h2
   exact h7 i h1 (by omega)
structure LegOk (a : Nat) (x : Int) (k : Leg) : Prop where
 frm : k.a = a
 to : (a : Int) < k.b ∧ k.b ≤ m
 go : x ≤ k.go ∧ g (a + 1) + 16 ≤ k.go
 stop : k.go < k.stop
 need : ∀ i, a + 2 ≤ i → (i : Int) ≤ k.b → g i ≤ k.go + N a (i - a - 1)
theorem wlk_step (hR : ∀ a b, a < b → b ≤ m → 0 < R a b) (f : Nat) {a : Nat} {x : Int} (ha : a ≤ m) (hf : m < a + f) : (a = m ∧ wlk g m N R O ov late f a x = []) ∨ (a < m ∧ ∃ k r b f', wlk g m N R O ov late f a x = k :: r ∧ LegOk g m N a x k ∧ k.b = (b : Nat) ∧ a < b ∧ b ≤ m ∧ m < b + f' ∧ r = wlk g m N R O ov late f' b k.stop) := by
 cases f with
 | zero => omega
 | succ f =>
  rcases Nat.lt_or_ge a m with h | h
  ·refine .inr ⟨h, ?_⟩
   have hb := legB_rng g m N x h
   refine ⟨_, _, legB g m N a x, f, by rw [wlk, if_pos h], ⟨rfl, by simp only; omega, ?_, ?_, ?_⟩, rfl, hb.1, hb.2, by omega, rfl⟩
   ·simp only
    unfold legD
    omega
   ·simp only
    unfold legS
    unfold legB at hb
    split
    ·rename_i h1
     rw [if_pos h1] at hb
     have := hR a (legR g m N a x - 1) hb.1 hb.2
     omega
    ·have := hR a m h (Nat.le_refl _)
     split <;> omega
   ·intro i h1 h2
    have := leg_refused g m N x h i h1 (by simp only at h2; omega)
    simp only
    omega
  ·refine .inl ⟨by omega, ?_⟩
   unfold wlk
   rw [if_neg (by omega)]
end
section
variable {L : Lay} {st : List Stp} {ov l sp ac br : Int} (h : Ride L ⟨st, ov⟩ l sp ac br)
include h
end
set_option maxHeartbeats 40000000
structure Good (L : Lay) (st : List Stp) (ov ln sp ac br : Int) : Prop where
 mot : motErr L ⟨st, ov⟩ ln sp ac br = 0
 fit : fitErr L ⟨st, ov⟩ ln sp ac br = 0
 m : ((lastN st ov : Nat) : Int) = st.length - ov - 1
 m1 : 1 ≤ lastN st ov
 m2 : lastN st ov ≤ 23
 last : OkV Tryz.prog 15 [vR2 st ov] [] (vI (lastN st ov)) []
theorem good_of {L : Lay} {st : List Stp} {ov ln sp ac br : Int} (h : motErr L ⟨st, ov⟩ ln sp ac br = 0) : Good L st ov ln sp ac br := by
 have hf := (mot_of h).1
 have hR := rte_of (cel_rte (fit_of hf).1)
 obtain ⟨a, b, c⟩ := last_n hR
 have g1 := hR.ov0
 have g2 := hR.ov
 have g3 := hR.len
 simp only at g1 g2 g3
 have hl := rLast_ok st ov (by omega) (by omega)
 rw [← a] at hl
 exact ⟨h, hf, a, b, c, hl⟩
theorem mem_set {l : List Int} {i : Nat} {v x : Int} (h : x ∈ l.set i v) : x ∈ l ∨ x = v := by
 obtain ⟨j, hj, rfl⟩ := List.mem_iff_getElem.1 h
 rw [List.getElem_set]
 split
 ·exact .inr rfl
 ·exact .inl (List.getElem_mem _)
theorem wlk_err {L : Lay} {st : List Stp} {ov l sp ac br rd late : Int} {gs : List Int} (hm : motErr L ⟨st, ov⟩ l sp ac br = 0) (hg : (gs.length : Int) = st.length - ov) (h1 : -4194304 ≤ rd ∧ rd ≤ 4194304) (h2 : -4194304 ≤ late ∧ late ≤ 4194304) (h3 : ∀ y ∈ gs, -4194304 ≤ y ∧ y ≤ 4194304) : wlkErr L st ov l sp ac br gs rd late = 0 := by
 have a1 : secB4 rd = true := by unfold secB4; simpa using h1
 have a2 : secB4 late = true := by unfold secB4; simpa using h2
 have a3 : gs.all secB4 = true := by
  rw [List.all_eq_true]
  intro y hy
  unfold secB4
  simpa using h3 y hy
 unfold wlkErr
 rw [if_neg (by simpa using hm), if_neg (by simpa using hg), a1, a2, a3]
 rfl
section
variable (g : Nat → Int) (m : Nat) (N : Nat → Nat → Int) (R : Nat → Nat → Int) (O : Nat → Int) (ov late : Int)
theorem wlk_len (g : Nat → Int) (m : Nat) (N R : Nat → Nat → Int) (O : Nat → Int) (ov late : Int) : ∀ f a x, (wlk g m N R O ov late f a x).length ≤ f
 | 0, _, _ => Nat.le_refl _
 | f + 1, a, x => by
  unfold wlk
  split
  ·have := wlk_len g m N R O ov late f (legB g m N a x) (legS g m N R O ov late a x)
   simp only [List.length_cons]; omega
  ·simp
theorem wlk_step2 {B : Int} (hg : ∀ j, j ≤ m → g j + 16 ≤ B) (hR : ∀ a b, a < b → b ≤ m → 0 < R a b ∧ R a b ≤ 80001) (f : Nat) {a : Nat} {x : Int} (ha : a ≤ m) (hf : m < a + f) (hx : x ≤ B + 100000 * a) : (a = m ∧ wlk g m N R O ov late f a x = []) ∨ (a < m ∧ ∃ k r b f', wlk g m N R O ov late f a x = k :: r ∧ LegOk g m N a x k ∧ k.b = (b : Nat) ∧ a < b ∧ b ≤ m ∧ m < b + f' ∧ r = wlk g m N R O ov late f' b k.stop ∧ k.go ≤ B + 100000 * a ∧ k.stop ≤ B + 100000 * b) := by
 rcases wlk_step g m N R O ov late (fun a b h1 h2 => (hR a b h1 h2).1) f ha hf with h | ⟨h, k, r, b, f', h1, h2, h3, h4, h5, h6, h7⟩
 ·exact .inl h
 ·refine .inr ⟨h, k, r, b, f', h1, h2, h3, h4, h5, h6, h7, ?_⟩
  cases f with
  | zero => omega
  | succ f =>
   unfold wlk at h1
   rw [if_pos h] at h1
   injection h1 with e1 e2
   subst e1
   simp only at h3 ⊢
   have hd : legD g a x ≤ B + 100000 * a := by
    unfold legD
    have := hg (a + 1) (by omega)
    omega
   refine ⟨hd, ?_⟩
   have hb := legB_rng g m N x h
   unfold legB at h3 hb
   unfold legS
   split
   ·rename_i h8
    rw [if_pos h8] at h3 hb
    have := (hR a (legR g m N a x - 1) hb.1 hb.2).2
    omega
   ·rename_i h8
    rw [if_neg h8] at h3 hb
    have := (hR a m h (Nat.le_refl _)).2
    split <;> omega
end
theorem drop_cons {α : Type} {l r : List α} {i : Nat} {k d : α} (h : l.drop i = k :: r) : i < l.length ∧ l.getD (i : Int).toNat d = k ∧ l.drop (i + 1) = r := by
 have h1 : i < l.length := by
  have e := congrArg List.length h
  simp only [List.length_drop, List.length_cons] at e
  omega
 refine ⟨h1, ?_, ?_⟩
 ·rw [List.drop_eq_getElem_cons h1] at h
  injection h with e1 e2
  rw [Int.toNat_natCast, List.getD_eq_getElem?_getD, List.getElem?_eq_getElem h1]
  exact e1
 ·rw [List.drop_eq_getElem_cons h1] at h
  injection h
set_option maxHeartbeats 40000000
structure Grn where
 i : Nat
 s : Src
 t : Int
 g : List Int
set_option maxHeartbeats 40000000
structure Lgs where
 i : Nat
 a : Int
 x : Int
theorem legs_ok (l g : List Int) (rd : Int) (hl : l.length ≤ 9223372036854775807) (hgl : g.length ≤ 9223372036854775807) : OkV Tryz.prog 6 [.c (rInt l), .c (rInt g), .c (xI rd)] [] (vB true) [] := by
 have hA := awake_ok
 have hR := route2_ok l hl
 have hfit := fits_valid (valid_of (genL_ok l))
 generalize genL l = L at *
 refine X_fnP mixedX Tryz.func6 rfl (by kernel_rfl) (Nat.le_of_ble_eq_true (by kernel_rfl)) (by kernel_rfl) rfl rfl ?_
 simp only [sl0, Nat.zero_add, Nat.reduceAdd]
 repeat' (first|with_reducible (first|refine q_and ?_ ?_|exact True.intro|refine Red.o (by constructor) ?_|fail)|with_reducible (refine W_seq ?_)|refine Rex.o (by (with_reducible constructor);apply Eq.refl) ?_|fail)
 refine X_callG [] hR rfl rfl rfl rfl rfl rfl rfl rfl ?_
 rintro ⟨⟨st, ov⟩, ⟨nm, ln, sp, ac, br⟩⟩ ⟨hd1, hd2, hd3⟩
 refine ⟨_, _, _, _, rfl, rfl, rfl, rfl, rfl, ?_⟩
 simp only at hd1 hd2 hd3
 have hF := rFits_ok L hfit st ov (by omega) (by omega) nm ln sp ac br
 unfold vLay at hF
 by_cases hm : motErr L ⟨st, ov⟩ ln sp ac br = 0
 ·rw [hm] at hF
  obtain ⟨_, hf, g1, g2, g3, hL⟩ := good_of hm
  have hP := pick_ok rd 100 (by omega) (by omega)
  have hp := pick_lt rd (n := 100) (by omega)
  generalize pick rd 100 = x at *
  have hFr := from_ok g
  have hs0 : Src.ok ⟨g, 0⟩ := ⟨Nat.zero_le _, hgl⟩
  generalize (⟨g, 0⟩ : Src) = z at *
  have hW := fun (late : Int) (gs : List Int) hg h2 h3 => walk_ok L hfit st ov (by omega) (by omega) nm ln sp ac br x late gs (wlk_err hm hg (by omega) h2 h3)
  have hN := fun a (ha : a < lastN st ov) k (hk : k ≤ lastN st ov - a) => needN_rng hf ha hk
  have hU := fun a b (hab : a < b) (hb : b ≤ lastN st ov) => runN_rng hf hab hb
  have hM := fun (a : Nat) (ha : a < lastN st ov) => rMake_ok L hfit st ov (by omega) (by omega) nm ln sp ac br a (lastN st ov) hm ha (by omega)
  have hM1 : ∀ a : Nat, a < lastN st ov → ∃ Y Z o q, OkV Tryz.prog 11 [.agg [rStr L.sts, rStr L.pts, rSec L.secs, rLnk L.lnks], vR2 st ov, vS5 nm ln sp ac br, .c (xI a), .c (xI (lastN st ov : Nat))] [] (.tup [.agg (lPro7 a (lastN st ov : Nat) (row (lastN st ov - a) (needN L st ov ln sp ac br a)) Y Z o q), .c (xI 0)]) [] := fun a ha => ⟨_, _, _, _, hM a ha⟩
  have hm10 : lastN st ov ≤ 10 := by omega
  clear hM hm hf hR
  unfold vLay at hW
  unfold walkL at hW
  generalize needN L st ov ln sp ac br = N at *
  generalize ovlN L st ov ln sp ac br = O at *
  generalize runN L st ov ln sp ac br = R at *
  generalize hmm : lastN st ov = m at *
  repeat' (first|with_reducible (first|refine q_and ?_ ?_|exact True.intro|refine Red.o (by constructor) ?_|fail)|((with_reducible apply q_call);first|refine X_pure (hF) rfl ?_|refine X_pure (hL) rfl ?_|refine X_call [] (hFr) rfl rfl rfl rfl rfl rfl rfl rfl rfl rfl rfl rfl rfl ?_|refine X_pure (hP) rfl ?_)|with_reducible (first|refine W_seq ?_|refine W_block ?_)|((with_reducible apply q_cond);refine X_cond rfl ?_ ?_;all_goals (intro hbq;(try simp only [bq] at hbq);(try (exfalso;omega))))|refine Rex.o (by (with_reducible constructor);apply Eq.refl) ?_|omega|(dsimp only;omega))
  clear hF hL hP hFr
  have eN : ((m : Int) + 1).toNat = m + 1 := by omega
  refine W_loopX (fun q : Grn => SS [sC 7 (pB 0), sC 8 (pB 1), sC 9 (pB 2), sI 10 m, sC 11 (pB 3), sI 12 x, sC 13 (.c (.arr 4 0 (m + 1) (m + 1))), sI 14 q.t, sI 48 (m + 1 : Nat), sI 49 q.i] [bLay L, bRte st ov, some (.cells [xS nm, xI ln, xI sp, xI ac, xI br]), some q.s.box, bInt q.g]) (fun q => q.i ≤ m + 1 ∧ q.s.ok ∧ q.g.length = m + 1 ∧ -40 ≤ q.t ∧ q.t ≤ 60 + 50 * q.i ∧ ∀ y ∈ q.g, -40 ≤ y ∧ y ≤ 700) (fun q => m + 1 - q.i) ⟨0, z, (x : Int) - 40, List.replicate (m + 1) 0⟩ _ (fun q : Grn => SS [sC 7 (pB 0), sC 8 (pB 1), sC 9 (pB 2), sI 10 m, sI 12 x, sC 13 (rInt q.g), sI 14 q.t] [bLay L, bRte st ov, some (.cells [xS nm, xI ln, xI sp, xI ac, xI br])]) (fun q => q.g.length = m + 1 ∧ -40 ≤ q.t ∧ q.t ≤ 700 ∧ ∀ y ∈ q.g, -40 ≤ y ∧ y ≤ 700) ?_ ⟨by simp only; omega, hs0, by simp, by simp only; omega, by simp only; omega, fun y hy => by rw [List.eq_of_mem_replicate hy]; omega⟩ (KCl_block KCl_seq) ?_ ?_
  ·
   refine X_weak rfl rfl rfl ?_ ?_ <;> repeat' (first|with_reducible (first|refine Wk.o (by constructor) ?_|refine q_and ?_ ?_|exact True.intro)|refine q_AgS rfl ?_ ?_|refine HLe.cells ?_ ?_|exact (rfl : known _ = _)|omega)
   all_goals first
    | rfl
    | (rw [eN]; done)
  ·rintro ⟨i, s, t, gs⟩ ⟨q1, q2, q3, q4, q5, q6⟩
   simp only at q1 q2 q3 q4 q5 q6
   clear hW hM1 hN hU hA
   by_cases hil : i < m + 1
   ·obtain ⟨k, s1, h1, d1, c1⟩ := next_ex s 50 q2 (by omega) (by omega)
    repeat' (first|with_reducible (first|refine q_and ?_ ?_|exact True.intro|refine Red.o (by constructor) ?_|assumption)|((with_reducible apply q_call);refine X_callF [3] (c1) rfl rfl rfl rfl rfl rfl rfl rfl rfl rfl rfl rfl rfl rfl ?_)|with_reducible (first|refine W_seq ?_|refine W_block ?_)|((with_reducible apply q_cond);refine X_cond rfl ?_ ?_;all_goals (intro hbq;(try simp only [bq] at hbq);(try (exfalso;omega))))|refine Rex.o (by (with_reducible constructor);apply Eq.refl) ?_|((with_reducible apply q_VOk);exact fun _ => ⟨rfl,rfl⟩)|omega|(dsimp only;omega))
    ·rfl
    ·
     refine LoopX_n ((⟨i + 1, s1, t + k, gs.set (i : Int).toNat (t + k)⟩ : Grn)) ?_ (⟨by simp only; omega, h1, by simp only [List.length_set]; exact q3, by simp only; omega, by simp only; omega, fun y hy => (mem_set hy).elim (q6 y) (fun h => by omega)⟩) (by (try dsimp only); omega)
     refine X_weak rfl rfl rfl ?_ ?_ <;> repeat' (first|with_reducible (first|refine Wk.o (by constructor) ?_|refine q_and ?_ ?_|exact True.intro)|refine q_AgS rfl ?_ ?_|refine HLe.cells ?_ ?_|exact (rfl : known _ = _)|with_reducible rfl)
     all_goals rfl
   ·
    repeat' (first|with_reducible (first|refine q_and ?_ ?_|exact True.intro|refine Red.o (by constructor) ?_|fail)|with_reducible (refine W_seq ?_)|((with_reducible apply q_cond);refine X_cond rfl ?_ ?_;all_goals (intro hbq;(try simp only [bq] at hbq);(try (exfalso;omega))))|refine Rex.o (by (with_reducible constructor);apply Eq.refl) ?_|fail)
    refine LoopX_x (⟨i, s, t, gs⟩ : Grn) rfl (X_frz 4 13 rfl rfl (by simp only; omega) (Nat.le_refl _) rfl ?_) ⟨q3, q4, by simp only; omega, q6⟩
    simp only [List.set_cons_succ, List.set_cons_zero]
    refine X_weak rfl rfl rfl ?_ ?_ <;> repeat' (first|with_reducible (first|refine Wk.o (by constructor) ?_|refine q_and ?_ ?_|exact True.intro)|refine q_AgS rfl ?_ ?_)
  ·rintro ⟨i, s, t, gs⟩ ⟨q3, q4, q5, q6⟩
   simp only at q3 q4 q5 q6
   have hw := hW t gs (by omega) (by omega) fun y hy => by have := q6 y hy; omega
   have hgb : ∀ j, j < gs.length → -40 ≤ gs.getD j 0 ∧ gs.getD j 0 ≤ 700 := fun j hj => by
    rw [List.getD_eq_getElem?_getD, List.getElem?_eq_getElem hj]
    exact q6 _ (List.getElem_mem hj)
   have hstep := fun f a y h1 h2 h3 => wlk_step2 (fun i => gs.getD i 0) m N R O ov t (B := 1000) (fun j hj => by have := hgb j (by omega); omega) hU f (a := a) (x := y) h1 h2 h3
   have hlen := wlk_len (fun i => gs.getD i 0) m N R O ov t (m + 1) 0 x
   have hne : 0 < (wlk (fun i => gs.getD i 0) m N R O ov t (m + 1) 0 x).length := by
    rcases hstep (m + 1) 0 x (by omega) (by omega) (by omega) with ⟨h1, _⟩ | ⟨_, k, r, b, f', h1, _⟩
    ·omega
    ·rw [h1]; simp
   have hI0 : ∃ b f : Nat, (0 : Int) = b ∧ b ≤ m ∧ m < b + f ∧ (x : Int) ≤ 1000 + 100000 * (0 : Int) ∧ wlk (fun i => gs.getD i 0) m N R O ov t f b x = (wlk (fun i => gs.getD i 0) m N R O ov t (m + 1) 0 x).drop 0 := ⟨0, m + 1, rfl, by omega, by omega, by omega, rfl⟩
   generalize wlk (fun i => gs.getD i 0) m N R O ov t (m + 1) 0 x = T at hw hlen hne hI0
   clear hW hU
   repeat' (first|with_reducible (first|refine q_and ?_ ?_|exact True.intro|refine Red.o (by constructor) ?_|fail)|((with_reducible apply q_call);refine X_pure (hw) rfl ?_)|with_reducible (first|refine W_seq ?_|refine W_block ?_)|((with_reducible apply q_cond);refine X_cond rfl ?_ ?_;all_goals (intro hbq;(try simp only [bq] at hbq);(try (exfalso;omega))))|refine Rex.o (by (with_reducible constructor);apply Eq.refl) ?_|(intro (hgq : (_ : Bool) = true);(try simp only [bq] at hgq))|(intro (hgq : (_ : Bool) = false);(try simp only [bq] at hgq))|((with_reducible apply q_bt);simp only [bq]))
   clear hw
   refine W_loopS (fun q : Lgs => SS [sC 7 (pB 0), sC 8 (pB 1), sC 9 (pB 2), sI 10 m, sI 12 q.x, sC 13 (rInt gs), sI 18 q.a, sC 78 (rLeg T), sI 79 T.length, sI 80 q.i] [bLay L, bRte st ov, some (.cells [xS nm, xI ln, xI sp, xI ac, xI br])]) (fun q => q.i ≤ T.length ∧ ∃ b f : Nat, q.a = b ∧ b ≤ m ∧ m < b + f ∧ q.x ≤ 1000 + 100000 * q.a ∧ wlk (fun i => gs.getD i 0) m N R O ov t f b q.x = T.drop q.i) (fun q => T.length - q.i) ⟨0, 0, x⟩ ?_ ⟨by simp only; omega, hI0⟩ ?_
   ·
    refine X_weak rfl rfl rfl ?_ ?_ <;> repeat' (first|with_reducible (first|refine Wk.o (by constructor) ?_|refine q_and ?_ ?_|exact True.intro)|refine q_AgS rfl ?_ ?_|exact (rfl : known _ = _))
    all_goals first
     | rfl
   rintro ⟨j, a, y⟩ ⟨p1, b, f, p2, p3, p4, p5, p6⟩
   simp only at p1 p2 p3 p4 p5 p6
   subst p2
   rcases hstep f b y p3 p4 p5 with ⟨h1, h2⟩ | ⟨h1, k, r, c, f', h2, ⟨k1, k2, k3, k4, k5⟩, h3, h4, h5, h6, h7, h8, h9⟩
   ·rw [h2] at p6
    have hj : j = T.length := by
     have e := congrArg List.length p6
     simp only [List.length_drop, List.length_nil] at e
     omega
    subst h1
    repeat' (first|with_reducible (first|refine q_and ?_ ?_|exact True.intro|refine Red.o (by constructor) ?_|fail)|((with_reducible apply q_call);refine X_pure (hA) rfl ?_)|with_reducible (refine W_seq ?_)|((with_reducible apply q_cond);refine X_cond rfl ?_ ?_;all_goals (intro hbq;(try simp only [bq] at hbq);(try (exfalso;omega))))|refine Rex.o (by (with_reducible constructor);apply Eq.refl) ?_|(intro (hgq : (_ : Bool) = true);(try simp only [bq] at hgq))|((with_reducible apply q_bt);simp only [bq]))
    all_goals first
     | rfl
     | (refine VEq.c (CEq.bool ?_); simp; done)
   ·rw [h2] at p6
    obtain ⟨d1, d2, d3⟩ := drop_cons (d := ({ a := 0, b := 0, go := 0, stop := 0 } : Leg)) p6.symm
    obtain ⟨Y, Z, o, q, hp⟩ := hM1 b h1
    have hgb1 := hgb (b + 1) (by omega)
    have eg : gs.getD ((b : Int) + 1).toNat 0 = gs.getD (b + 1) 0 := by congr 1
    have hne2 : ∀ i : Nat, b + 2 ≤ i → (i : Int) ≤ c → gs.getD (i : Int).toNat 0 ≤ k.go + (row (m - b) (N b)).getD ((i : Int) - b - 1).toNat 0 ∧ -20 ≤ (row (m - b) (N b)).getD ((i : Int) - b - 1).toNat 0 ∧ (row (m - b) (N b)).getD ((i : Int) - b - 1).toNat 0 ≤ 80000 := fun i h1 h2 => by
     have e : ((i : Int) - b - 1).toNat = i - b - 1 := by omega
     rw [e, row_get (by omega), Int.toNat_natCast]
     have a1 := k5 i h1 (by omega)
     have a2 := hN b (by omega) (i - b - 1) (by omega)
     exact ⟨a1, by omega, by omega⟩
    have hrl := row_len (m - b) (N b)
    rw [← eg] at k3 hgb1
    have hnx : ∃ b2 f2 : Nat, k.b = b2 ∧ b2 ≤ m ∧ m < b2 + f2 ∧ k.stop ≤ 1000 + 100000 * k.b ∧ wlk (fun i => gs.getD i 0) m N R O ov t f2 b2 k.stop = T.drop (j + 1) := ⟨c, f', h3, h5, h6, by rw [h3]; exact h9, by rw [d3]; exact h7.symm⟩
    clear hstep hN
    generalize row (m - b) (N b) = V at *
    rw [← h3] at hne2
    rw [← d2] at k1 k2 k3 k4 h8 h3 h9 hne2 hnx
    repeat' (first|with_reducible (first|refine q_and ?_ ?_|exact True.intro|refine Red.o (by constructor) ?_|assumption)|((with_reducible apply q_call);refine X_pure (hp) rfl ?_)|with_reducible (first|refine W_seq ?_|refine W_block ?_)|((with_reducible apply q_cond);refine X_cond rfl ?_ ?_;all_goals (intro hbq;(try simp only [bq] at hbq);(try (exfalso;omega))))|refine Rex.o (by (with_reducible constructor);apply Eq.refl) ?_|(intro (hgq : (_ : Bool) = true);(try simp only [bq] at hgq))|(intro (hgq : (_ : Bool) = false);(try simp only [bq] at hgq))|((with_reducible apply q_VOk);exact fun _ => ⟨rfl,rfl⟩)|((with_reducible apply q_CRB);kernel_rfl)|((with_reducible apply q_bt);simp only [bq])|(simp only [hgq,bq];done)|omega|(dsimp only;omega))
    clear hp
    refine W_loopS (fun i : Nat => SS [sC 7 (pB 0), sC 8 (pB 1), sC 9 (pB 2), sI 10 m, sC 13 (rInt gs), sI 18 b, sC 20 (pB 3), sC 21 (pB 4), sI 23 i, sC 78 (rLeg T), sI 79 T.length, sI 80 j] [bLay L, bRte st ov, some (.cells [xS nm, xI ln, xI sp, xI ac, xI br]), some (.cells (vLeg (T.getD (j : Int).toNat { a := 0, b := 0, go := 0, stop := 0 }))), some (.cells (lPro7 b m V Y Z o q))]) (fun i => b + 2 ≤ i ∧ (i ≤ c + 1 ∨ i = b + 2)) (fun i => c + 3 - i) (b + 2) ?_ ⟨by omega, by omega⟩ ?_
    ·
     refine X_weak rfl rfl rfl ?_ ?_ <;> repeat' (first|with_reducible (first|refine Wk.o (by constructor) ?_|refine q_and ?_ ?_|exact True.intro)|refine q_AgS rfl ?_ ?_|refine SLe.cons ?_ ?_|exact (rfl : known _ = _))
     all_goals first
      | rfl
    rintro i ⟨hi1, hi2⟩
    by_cases hic : i ≤ c
    ·obtain ⟨v1, v2, v3⟩ := hne2 i hi1 (by omega)
     have hgi := hgb i (by omega)
     have egi : gs.getD (i : Int).toNat 0 = gs.getD i 0 := rfl
     rw [← egi] at hgi
     clear hnx hgb
     repeat' (first|with_reducible (first|refine q_and ?_ ?_|exact True.intro|refine Red.o (by constructor) ?_|fail)|with_reducible (first|refine W_seq ?_|refine W_block ?_)|((with_reducible apply q_cond);refine X_cond rfl ?_ ?_;all_goals (intro hbq;(try simp only [bq] at hbq);(try (exfalso;omega))))|refine Rex.o (by (with_reducible constructor);apply Eq.refl) ?_|((with_reducible apply q_VOk);exact fun _ => ⟨rfl,rfl⟩)|((with_reducible apply q_CRB);kernel_rfl)|omega)
     refine LoopK_n (i + 1) ?_ ((by omega)) (by (try dsimp only); omega)
     refine X_weak rfl rfl rfl ?_ ?_ <;> repeat' (first|with_reducible (first|refine Wk.o (by constructor) ?_|refine q_and ?_ ?_|exact True.intro)|refine q_AgS rfl ?_ ?_|refine SLe.cons ?_ ?_|exact (rfl : known _ = _)|omega)
     all_goals first
      | rfl
    ·clear hne2 hgb
     repeat' (first|with_reducible (first|refine q_and ?_ ?_|exact True.intro|refine Red.o (by constructor) ?_|fail)|with_reducible (refine W_seq ?_)|((with_reducible apply q_cond);refine X_cond rfl ?_ ?_;all_goals (intro hbq;(try simp only [bq] at hbq);(try (exfalso;omega))))|refine Rex.o (by (with_reducible constructor);apply Eq.refl) ?_|((with_reducible apply q_CRB);kernel_rfl)|omega)
     refine LoopK_n ((⟨j + 1, (T.getD (j : Int).toNat { a := 0, b := 0, go := 0, stop := 0 }).b, (T.getD (j : Int).toNat { a := 0, b := 0, go := 0, stop := 0 }).stop⟩ : Lgs)) ?_ (⟨by simp only; omega, hnx⟩) (by (try dsimp only); omega)
     refine X_weak rfl rfl rfl ?_ ?_ <;> repeat' (first|with_reducible (first|refine Wk.o (by constructor) ?_|refine q_and ?_ ?_|exact True.intro)|refine q_AgS rfl ?_ ?_|exact (rfl : known _ = _))
     all_goals first
      | rfl
 ·
  repeat' (first|with_reducible (first|refine q_and ?_ ?_|exact True.intro|refine Red.o (by constructor) ?_|fail)|((with_reducible apply q_call);first|refine X_pure (hF) rfl ?_|refine X_pure (hA) rfl ?_)|with_reducible (refine W_seq ?_)|((with_reducible apply q_cond);refine X_cond rfl ?_ ?_;all_goals (intro hbq;(try simp only [bq] at hbq);(try (exfalso;omega))))|refine Rex.o (by (with_reducible constructor);apply Eq.refl) ?_|fail)
  all_goals rfl
end Go.Proofs.YtalfibohepbhfaaGreat.Av
namespace Go.Proofs.YtalfibohepbhfaaGreat
open Go.RowKit
theorem W.MotionLegs (a0 : Option Addr) (len0 cap0 : Nat) (z0 : List Int) (a1 : Option Addr) (len1 cap1 : Nat) (z1 : List Int) (a2 : Int) (w : World) (w0 : Av.IsRowI w a0 len0 cap0 z0) (w1 : Av.IsRowI w a1 len1 cap1 z1) (w2 : (Lit.int .i64 a2).wf = true) (s0 : ∀ x, a0 = some x → x.spot = none) (s1 : ∀ x, a1 = some x → x.spot = none) :
  Calls Tryz.prog 6 #[.slice a0 len0 cap0, .slice a1 len1 cap1, .int .i64 a2] w fun e w' => e = .returned (.bool true) ∧ Below w.heap.size w w' := by
 obtain ⟨h0, b0⟩ := Av.rowI_rep w0 s0
 obtain ⟨h1, b1⟩ := Av.rowI_rep w1 s1
 refine Av.law_calls (Av.legs_ok _ _ a2 b0 b1) w _ rfl (fun i hi hi' l => ?_) (fun x hx => by
  simp at hx
  rcases hx with rfl | rfl | rfl <;> rfl)
 match i, hi with
 | 0, _ => exact h0 l
 | 1, _ => exact h1 l
 | 2, _ => exact .v _ rfl
end Go.Proofs.YtalfibohepbhfaaGreat
