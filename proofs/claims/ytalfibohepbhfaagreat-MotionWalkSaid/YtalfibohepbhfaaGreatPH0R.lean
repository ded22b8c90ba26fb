/- What the claims use of their texts: Mo6, Mo8, Mo9, MoA, Mp3, Sm2, Mn3, Wn4. -/
import Derived.Test.YtalfibohepbhfaaGreatPHF
set_option linter.unusedVariables false
set_option linter.unusedSimpArgs false
set_option maxRecDepth 4000
set_option maxHeartbeats 4000000
namespace Go.Proofs.YtalfibohepbhfaaGreat.Av
section
variable (L : Lay) (st : List Stp) (ov l sp ac br : Int)
end
theorem gs_some {gs : List Int} (h : ∀ i, i < gs.length → secB4 (gs.getD i 0) = true) : gs.all secB4 = true:=by
 rw [List.all_eq_true]
 intro x hx
 obtain ⟨i, hi, rfl⟩:=List.mem_iff_getElem.1 hx
 have:=h i hi
 rwa [List.getD_eq_getElem?_getD, List.getElem?_eq_getElem hi] at this
theorem walk_bad (L : Lay) (hL : LayFits L) (st : List Stp) (ov : Int) (hl : st.length≤9223372036854775807) (ho : -9223372036854775808≤ov∧ov≤9223372036854775807) (nm : ByteArray) (l sp ac br rd late : Int) (gs : List Int) (hgl : gs.length≤9223372036854775807) (h : ¬ wlkErr L st ov l sp ac br gs rd late = 0) : OkV Tryz.prog 20 [vLay L, vR2 st ov, vS5 nm l sp ac br, .c (xI rd), .c (rInt gs), .c (xI late)] [] (.tup [.c (rLeg []), .c (xI (wlkErr L st ov l sp ac br gs rd late))]) []:=by
 have hF:=mFits_ok L hL st ov hl ho nm l sp ac br
 unfold wlkErr at h ⊢
 by_cases hm : motErr L ⟨st, ov⟩ l sp ac br = 0
 ·have hR:=rte_of (cel_rte (fit_of (mot_of hm).1).1)
  have g1:=hR.ov0
  have g2:=hR.ov
  have g3:=hR.len
  have g4:=hR.two
  simp only at g1 g2 g3 g4
  have hla:=mLast_ok st ov hl (by omega)
  rw [hm] at hF h ⊢
  rw [if_neg (by decide)] at h ⊢
  by_cases hg : (gs.length : Int) = st.length - ov
  ·rw [if_neg (by simpa using hg)] at h ⊢
   have hb : (secB4 rd && secB4 late && gs.all secB4) = false:=Classical.byContradiction fun hn=>h (if_neg hn)
   rw [if_pos hb]
   have s1:=isSecond_ok rd
   have s2:=isSecond_ok late
   have s3:=fun i=>isSecond_ok (gs.getD i 0)
   unfold vLay at hF ⊢
   by_cases h1 : secB4 rd = true
   ·by_cases h2 : secB4 late = true
    ·rw [h1, h2, Bool.true_and, Bool.true_and] at hb
     rw [h1] at s1
     rw [h2] at s2
     refine X_fn mixedX Tryz.func20 rfl (by kernel_rfl) (Nat.le_of_ble_eq_true (by kernel_rfl)) (by kernel_rfl) rfl rfl (Nat.le_of_ble_eq_true rfl) rfl rfl ?_
     simp only [sl0, Nat.zero_add, Nat.reduceAdd]
     repeat' (first|with_reducible (first|refine q_and ?_ ?_|exact True.intro|refine Red.o (by constructor) ?_|fail)|((with_reducible apply q_call);first|refine X_pure (hF) rfl ?_|refine X_pure (hla) rfl ?_|refine X_pure (s1) rfl ?_)|((with_reducible apply q_callG);refine X_pureG ((fun _=>s2)) rfl ?_ ?_)|with_reducible (first|refine W_seq ?_|refine W_block ?_)|((with_reducible apply q_cond);refine X_cond rfl ?_ ?_;all_goals (intro hbq;(try simp only [bq] at hbq);(try (exfalso;omega))))|refine Rex.o (by (with_reducible constructor);apply Eq.refl) ?_|(intro (hgq : (_ : Bool) = true);(try simp only [bq] at hgq))|(intro (hgq : (_ : Bool) = false);(try simp only [bq] at hgq))|((with_reducible apply q_bt);simp only [bq])|omega)
     clear hF hla s1 s2
     refine W_loopS (fun i : Nat=>SS [sC 47 (rInt gs), sI 48 gs.length, sI 49 i] [none, none, none]) (fun i=>i≤gs.length∧∀ j, j < i → secB4 (gs.getD j 0) = true) (fun i=>gs.length - i) 0 ?_ ⟨by omega, fun j hj=>by omega⟩ ?_
     ·
      refine X_weak rfl rfl rfl ?_ ?_<;>repeat' (first|with_reducible (first|refine Wk.o (by constructor) ?_|refine q_and ?_ ?_|exact True.intro)|refine q_AgS rfl ?_ ?_|exact (rfl : known _ = _)|omega)
      all_goals rfl
     rintro i ⟨hi, hno⟩
     by_cases hil : i < gs.length
     ·have s4 : OkV Tryz.prog 38 [.c (xI (gs.getD (i : Int).toNat 0))] [] (vB (secB4 (gs.getD i 0))) []:=s3 i
      by_cases h3 : secB4 (gs.getD i 0) = true
      ·rw [h3] at s4
       repeat' (first|with_reducible (first|refine q_and ?_ ?_|exact True.intro|refine Red.o (by constructor) ?_|assumption)|((with_reducible apply q_call);refine X_pure (s4) rfl ?_)|with_reducible (first|refine W_seq ?_|refine W_block ?_)|((with_reducible apply q_cond);refine X_cond rfl ?_ ?_;all_goals (intro hbq;(try simp only [bq] at hbq);(try (exfalso;omega))))|refine Rex.o (by (with_reducible constructor);apply Eq.refl) ?_|((with_reducible apply q_VOk);exact fun _=>⟨rfl,rfl⟩)|omega)
       ·
        refine LoopK_n (i + 1) ?_ (⟨by omega, upto_succ hno h3⟩) (by (try dsimp only); omega)
        refine X_weak rfl rfl rfl ?_ ?_<;>repeat' (first|with_reducible (first|refine Wk.o (by constructor) ?_|refine q_and ?_ ?_|exact True.intro)|refine q_AgS rfl ?_ ?_|exact (rfl : known _ = _)|omega)
      ·have h3 : secB4 (gs.getD i 0) = false:=by simpa using h3
       rw [h3] at s4
       repeat' (first|with_reducible (first|refine q_and ?_ ?_|exact True.intro|exact TkEq.nil _|refine Red.o (by constructor) ?_|assumption)|((with_reducible apply q_call);refine X_pure (s4) rfl ?_)|with_reducible (first|refine W_seq ?_|refine W_block ?_)|((with_reducible apply q_cond);refine X_cond rfl ?_ ?_;all_goals (intro hbq;(try simp only [bq] at hbq);(try (exfalso;omega))))|refine Rex.o (by (with_reducible constructor);apply Eq.refl) ?_|((with_reducible apply q_VOk);exact fun _=>⟨rfl,rfl⟩)|omega)
       all_goals rfl
     ·rw [gs_some fun j hj=>hno j (by omega)] at hb
      cases hb
    ·have h2 : secB4 late = false:=by simpa using h2
     rw [h1] at s1
     rw [h2] at s2
     refine X_fn mixedX Tryz.func20 rfl (by kernel_rfl) (Nat.le_of_ble_eq_true (by kernel_rfl)) (by kernel_rfl) rfl rfl (Nat.le_of_ble_eq_true rfl) rfl rfl ?_
     simp only [sl0, Nat.zero_add, Nat.reduceAdd]
     repeat' (first|with_reducible (first|refine q_and ?_ ?_|exact True.intro|exact TkEq.nil _|refine Red.o (by constructor) ?_|fail)|((with_reducible apply q_call);first|refine X_pure (hF) rfl ?_|refine X_pure (hla) rfl ?_|refine X_pure (s1) rfl ?_)|((with_reducible apply q_callG);refine X_pureG ((fun _=>s2)) rfl ?_ ?_)|with_reducible (refine W_seq ?_)|((with_reducible apply q_cond);refine X_cond rfl ?_ ?_;all_goals (intro hbq;(try simp only [bq] at hbq);(try (exfalso;omega))))|refine Rex.o (by (with_reducible constructor);apply Eq.refl) ?_|(intro (hgq : (_ : Bool) = true);(try simp only [bq] at hgq))|(intro (hgq : (_ : Bool) = false);(try simp only [bq] at hgq))|((with_reducible apply q_bt);simp only [bq])|omega)
     all_goals rfl
   ·have h1 : secB4 rd = false:=by simpa using h1
    rw [h1] at s1
    refine X_fn mixedX Tryz.func20 rfl (by kernel_rfl) (Nat.le_of_ble_eq_true (by kernel_rfl)) (by kernel_rfl) rfl rfl (Nat.le_of_ble_eq_true rfl) rfl rfl ?_
    simp only [sl0, Nat.zero_add, Nat.reduceAdd]
    repeat' (first|with_reducible (first|refine q_and ?_ ?_|exact True.intro|exact TkEq.nil _|refine Red.o (by constructor) ?_|fail)|((with_reducible apply q_call);first|refine X_pure (hF) rfl ?_|refine X_pure (hla) rfl ?_|refine X_pure (s1) rfl ?_)|((with_reducible apply q_callG);refine X_pureG ((fun _=>s2)) rfl ?_ ?_)|with_reducible (refine W_seq ?_)|((with_reducible apply q_cond);refine X_cond rfl ?_ ?_;all_goals (intro hbq;(try simp only [bq] at hbq);(try (exfalso;omega))))|refine Rex.o (by (with_reducible constructor);apply Eq.refl) ?_|(intro (hgq : (_ : Bool) = true);(try simp only [bq] at hgq))|(intro (hgq : (_ : Bool) = false);(try simp only [bq] at hgq))|omega)
    all_goals rfl
  ·rw [if_pos hg]
   unfold vLay at hF ⊢
   refine X_fn mixedX Tryz.func20 rfl (by kernel_rfl) (Nat.le_of_ble_eq_true (by kernel_rfl)) (by kernel_rfl) rfl rfl (Nat.le_of_ble_eq_true rfl) rfl rfl ?_
   simp only [sl0, Nat.zero_add, Nat.reduceAdd]
   repeat' (first|with_reducible (first|refine q_and ?_ ?_|exact True.intro|exact TkEq.nil _|refine Red.o (by constructor) ?_|fail)|((with_reducible apply q_call);first|refine X_pure (hF) rfl ?_|refine X_pure (hla) rfl ?_)|with_reducible (refine W_seq ?_)|((with_reducible apply q_cond);refine X_cond rfl ?_ ?_;all_goals (intro hbq;(try simp only [bq] at hbq);(try (exfalso;omega))))|refine Rex.o (by (with_reducible constructor);apply Eq.refl) ?_|omega)
   all_goals rfl
 ·rw [if_pos hm]
  unfold vLay at hF ⊢
  refine X_fn mixedX Tryz.func20 rfl (by kernel_rfl) (Nat.le_of_ble_eq_true (by kernel_rfl)) (by kernel_rfl) rfl rfl (Nat.le_of_ble_eq_true rfl) rfl rfl ?_
  simp only [sl0, Nat.zero_add, Nat.reduceAdd]
  repeat' (first|with_reducible (first|refine q_and ?_ ?_|exact True.intro|exact TkEq.nil _|refine Red.o (by constructor) ?_|fail)|((with_reducible apply q_call);refine X_pure (hF) rfl ?_)|with_reducible (refine W_seq ?_)|((with_reducible apply q_cond);refine X_cond rfl ?_ ?_;all_goals (intro hbq;(try simp only [bq] at hbq);(try (exfalso;omega))))|refine Rex.o (by (with_reducible constructor);apply Eq.refl) ?_|fail)
  all_goals rfl
theorem rPart_ok (st : List Stp) (ov : Int) (h24 : st.length≤24) (h0 : 0≤ov∧ov≤st.length) (a b : Nat) (hab : a < b) (hb : (b : Int)≤st.length - ov - 1) : OkV Tryz.prog 32 [vR2 st ov, .c (xI a), .c (xI b)] [] (vR2 (partR st ov a b).st (partR st ov a b).ov) []:=by
 have hla:=rLast_ok st ov (by omega) (by omega)
 unfold partR
 by_cases e : (b : Int) = st.length - ov - 1
 ·rw [if_pos e]
  have hd : (st.drop (a : Int).toNat).length≤24:=by rw [List.length_drop]; omega
  refine X_fnP mixedX Tryz.func32 rfl (by kernel_rfl) (Nat.le_of_ble_eq_true (by kernel_rfl)) (by kernel_rfl) rfl rfl ?_
  simp only [sl0, Nat.zero_add, Nat.reduceAdd]
  repeat' (first|with_reducible (first|refine q_and ?_ ?_|exact True.intro|refine Red.o (by constructor) ?_|fail)|((with_reducible apply q_call);refine X_pure (hla) rfl ?_)|with_reducible (refine W_seq ?_)|((with_reducible apply q_cond);refine X_cond rfl ?_ ?_;all_goals (intro hbq;(try simp only [bq] at hbq);(try (exfalso;omega))))|refine Rex.o (by (with_reducible constructor);apply Eq.refl) ?_|(intro _;exact rfl)|((with_reducible apply q_CRB);kernel_rfl)|omega)
  all_goals first | omega | rfl
 ·rw [if_neg e]
  have hd : ((st.drop (a : Int).toNat).take ((b : Int) + 1 - a).toNat).length≤24:=by rw [List.length_take, List.length_drop]; omega
  have he : ((b : Int) + 1 - a).toNat = b + 1 - a:=by omega
  refine X_fnP mixedX Tryz.func32 rfl (by kernel_rfl) (Nat.le_of_ble_eq_true (by kernel_rfl)) (by kernel_rfl) rfl rfl ?_
  simp only [sl0, Nat.zero_add, Nat.reduceAdd]
  repeat' (first|with_reducible (first|refine q_and ?_ ?_|exact True.intro|refine Red.o (by constructor) ?_|fail)|((with_reducible apply q_call);refine X_pure (hla) rfl ?_)|with_reducible (refine W_seq ?_)|((with_reducible apply q_cond);refine X_cond rfl ?_ ?_;all_goals (intro hbq;(try simp only [bq] at hbq);(try (exfalso;omega))))|refine Rex.o (by (with_reducible constructor);apply Eq.refl) ?_|(intro _;exact rfl)|omega)
  all_goals first | omega | (rw [he]; rfl)
theorem rMake_bad (L : Lay) (hL : LayFits L) (st : List Stp) (ov : Int) (hl : st.length≤9223372036854775807) (ho : -9223372036854775808≤ov∧ov≤9223372036854775807) (nm : ByteArray) (l sp ac br a b : Int) (h : ¬ makErr L st ov l sp ac br a b = 0) : OkV Tryz.prog 11 [vLay L, vR2 st ov, vS5 nm l sp ac br, .c (xI a), .c (xI b)] [] (.tup [.agg lPro0, .c (xI (makErr L st ov l sp ac br a b))]) []:=by
 have hF:=rFits_ok L hL st ov hl ho nm l sp ac br
 unfold makErr at h ⊢
 by_cases hm : motErr L ⟨st, ov⟩ l sp ac br = 0
 ·have hR:=rte_of (cel_rte (fit_of (mot_of hm).1).1)
  have g1:=hR.ov0
  have g2:=hR.ov
  have g3:=hR.len
  have g4:=hR.two
  simp only at g1 g2 g3 g4
  have hla:=rLast_ok st ov hl (by omega)
  rw [hm] at hF h ⊢
  rw [if_neg (by decide)] at h ⊢
  have hc : a < 0 ∨ b≤a ∨ (st.length : Int) - ov - 1 < b:=Classical.byContradiction fun hn=>h (if_neg hn)
  rw [if_pos hc]
  unfold vLay at hF ⊢
  refine X_fnP mixedX Tryz.func11 rfl (by kernel_rfl) (Nat.le_of_ble_eq_true (by kernel_rfl)) (by kernel_rfl) rfl rfl ?_
  simp only [sl0, Nat.zero_add, Nat.reduceAdd]
  repeat' (first|with_reducible (first|refine q_and ?_ ?_|exact True.intro|refine Red.o (by constructor) ?_|assumption)|((with_reducible apply q_call);refine X_pure (hF) rfl ?_)|((with_reducible apply q_callG);refine X_pureG ((fun _=>hla)) rfl ?_ ?_)|with_reducible (refine W_seq ?_)|((with_reducible apply q_cond);refine X_cond rfl ?_ ?_;all_goals (intro hbq;(try simp only [bq] at hbq);(try (exfalso;omega))))|refine Rex.o (by (with_reducible constructor);apply Eq.refl) ?_|(intro (hgq : (_ : Bool) = true);(try simp only [bq] at hgq))|(intro (hgq : (_ : Bool) = false);(try simp only [bq] at hgq))|((with_reducible apply q_bt);simp only [bq])|(simp only [hgq,bq];done))
  all_goals rfl
 ·rw [if_pos hm]
  unfold vLay at hF ⊢
  refine X_fnP mixedX Tryz.func11 rfl (by kernel_rfl) (Nat.le_of_ble_eq_true (by kernel_rfl)) (by kernel_rfl) rfl rfl ?_
  simp only [sl0, Nat.zero_add, Nat.reduceAdd]
  repeat' (first|with_reducible (first|refine q_and ?_ ?_|exact True.intro|refine Red.o (by constructor) ?_|fail)|((with_reducible apply q_call);refine X_pure (hF) rfl ?_)|with_reducible (refine W_seq ?_)|((with_reducible apply q_cond);refine X_cond rfl ?_ ?_;all_goals (intro hbq;(try simp only [bq] at hbq);(try (exfalso;omega))))|refine Rex.o (by (with_reducible constructor);apply Eq.refl) ?_|fail)
  all_goals rfl
theorem rMake_ok (L : Lay) (hL : LayFits L) (st : List Stp) (ov : Int) (hl : st.length≤9223372036854775807) (ho : -9223372036854775808≤ov∧ov≤9223372036854775807) (nm : ByteArray) (l sp ac br : Int) (a b : Nat) (hm : motErr L ⟨st, ov⟩ l sp ac br = 0) (hab : a < b) (hb : (b : Int)≤st.length - ov - 1) : OkV Tryz.prog 11 [vLay L, vR2 st ov, vS5 nm l sp ac br, .c (xI a), .c (xI b)] [] (.tup [.agg (lPro L (partR st ov a b) l sp ac br a b), .c (xI 0)]) []:=by
 have hF:=rFits_ok L hL st ov hl ho nm l sp ac br
 have h:=(mot_of hm).1
 have hR:=rte_of (cel_rte (fit_of h).1)
 have g1:=hR.ov0
 have g2:=hR.ov
 have g3:=hR.len
 simp only at g1 g2 g3
 have hf:=partR_fit h hab hb
 have hpl:=partR_len h hab hb
 have hla:=rLast_ok st ov (by omega) (by omega)
 have hPt:=rPart_ok st ov (by omega) (by omega) a b hab hb
 have hps : (partR st ov a b).st.length≤24:=by unfold partR; split<;>simp only [List.length_take, List.length_drop]<;>omega
 have hpo : (partR st ov a b).ov = if (b : Int) = st.length - ov - 1 then ov else 0:=by unfold partR; split<;>rfl
 have hov : ∀ n, ovlF L (partR st ov a b) l sp ac br n = if (b : Int) = st.length - ov - 1∧0 < ov then entF L (partR st ov a b) l sp ac br n / 1000 - 16 else 0:=fun n=>by
  unfold ovlF
  rw [hpo]
  by_cases e : (b : Int) = st.length - ov - 1
  ·rw [if_pos e]
   by_cases e2 : 0 < ov
   ·rw [if_pos e2, if_pos ⟨e, e2⟩]
   ·rw [if_neg e2, if_neg (fun h=>e2 h.2)]
  ·rw [if_neg e, if_neg (by decide), if_neg (fun h=>e h.1)]
 rw [hm] at hF
 clear hR
 unfold lPro
 rw [hov]
 clear hov
 have hpb : -9223372036854775808≤(partR st ov a b).ov∧(partR st ov a b).ov≤9223372036854775807:=by rw [hpo]; split<;>omega
 generalize partR st ov a b = pr at *
 obtain ⟨ps, po⟩:=pr
 simp only at hPt hps hpb
 have hT:=passing_ok L hL ps po (by omega) hpb nm l sp ac br hf
 have hRd:=ride_of hf
 have hE1:=row_len (trv ⟨ps, po⟩).length fun k=>rideT L ⟨ps, po⟩ l sp ac br (endA L (trv ⟨ps, po⟩) (k - 1))
 have hL1:=row_len (trv ⟨ps, po⟩).length (levF L ⟨ps, po⟩ l sp ac br)
 change (entL L ⟨ps, po⟩ l sp ac br (trv ⟨ps, po⟩).length).length = _ at hE1
 change (levL L ⟨ps, po⟩ l sp ac br (trv ⟨ps, po⟩).length).length = _ at hL1
 have hE2 : ∀ k, k < b - a + 1 → (entL L ⟨ps, po⟩ l sp ac br (trv ⟨ps, po⟩).length).getD k 0 = entF L ⟨ps, po⟩ l sp ac br k∧0≤entF L ⟨ps, po⟩ l sp ac br k∧entF L ⟨ps, po⟩ l sp ac br k≤80000000:=fun k hk=>⟨row_get (by omega), (prof_rng hRd (by omega)).1, (prof_rng hRd (by omega)).2.1⟩
 have hL2 : ∀ k, k < b - a + 1 → (levL L ⟨ps, po⟩ l sp ac br (trv ⟨ps, po⟩).length).getD k 0 = levF L ⟨ps, po⟩ l sp ac br k∧0≤levF L ⟨ps, po⟩ l sp ac br k∧levF L ⟨ps, po⟩ l sp ac br k≤80000000:=fun k hk=>⟨row_get (by omega), (prof_rng hRd (by omega)).2.2⟩
 have hN : ∀ k, k < b - a + 1 → needF L ⟨ps, po⟩ l sp ac br k = (entF L ⟨ps, po⟩ l sp ac br k) / 1000 - 16:=fun k hk=>rfl
 have hPa : ∀ k, passF L ⟨ps, po⟩ l sp ac br k = (entF L ⟨ps, po⟩ l sp ac br (k + 1)) / 1000:=fun k=>rfl
 have hCl : ∀ k, clrF L ⟨ps, po⟩ l sp ac br k = (levF L ⟨ps, po⟩ l sp ac br k + 999) / 1000 + 4:=fun k=>rfl
 clear hRd hf
 generalize needF L ⟨ps, po⟩ l sp ac br = F1 at *
 generalize passF L ⟨ps, po⟩ l sp ac br = F2 at *
 generalize clrF L ⟨ps, po⟩ l sp ac br = F3 at *
 generalize entF L ⟨ps, po⟩ l sp ac br = E1 at *
 generalize levF L ⟨ps, po⟩ l sp ac br = E2 at *
 generalize entL L ⟨ps, po⟩ l sp ac br (trv ⟨ps, po⟩).length = es at *
 generalize levL L ⟨ps, po⟩ l sp ac br (trv ⟨ps, po⟩).length = lv at *
 generalize runI L ⟨ps, po⟩ l sp ac br = run at *
 have hE1 : es.length = b - a + 1:=hE1.trans hpl
 have hL1 : lv.length = b - a + 1:=hL1.trans hpl
 clear hpl hpo
 unfold vLay at hF hT ⊢
 refine X_fnP mixedX Tryz.func11 rfl (by kernel_rfl) (Nat.le_of_ble_eq_true (by kernel_rfl)) (by kernel_rfl) rfl rfl ?_
 simp only [sl0, Nat.zero_add, Nat.reduceAdd]
 repeat' (first|with_reducible (first|refine q_and ?_ ?_|exact True.intro|refine Red.o (by constructor) ?_|assumption)|((with_reducible apply q_call);first|refine X_pure (hF) rfl ?_|refine X_pure (hPt) rfl ?_|refine X_pure (hT) rfl ?_)|((with_reducible apply q_callG);refine X_pureG ((fun _=>hla)) rfl ?_ ?_)|with_reducible (first|refine W_seq ?_|refine W_block ?_)|((with_reducible apply q_cond);refine X_cond rfl ?_ ?_;all_goals (intro hbq;(try simp only [bq] at hbq);(try (exfalso;omega))))|refine Rex.o (by (with_reducible constructor);apply Eq.refl) ?_|(intro (hgq : (_ : Bool) = true);(try simp only [bq] at hgq))|(intro (hgq : (_ : Bool) = false);(try simp only [bq] at hgq))|((with_reducible apply q_CRB);kernel_rfl)|((with_reducible apply q_bt);simp only [bq])|(simp only [hgq,bq];done)|omega)
 clear hF hT hPt
 refine W_loopS (fun k : Nat=>SS [sI 4 b, sC 6 (pB 1), sC 10 (pB 3), sC 13 (rInt es), sC 14 (rInt lv), sC 17 (pB 4), sI 18 ((b : Int) - a), sI 19 k] [none, bRte st ov, none, some (.cells [xI 0, xI 0, .c (.f .nils), .c (.f .nils), .c (.f .nils), xI 0, xI 0]), some (.cells [xI a, xI b, tInt (row k F1), tInt (row k F2), tInt (row k F3), xI 0, xI run])]) (fun k=>k≤b - a) (fun k=>b - a - k) 0 ?_ (by omega) ?_
 ·
  refine X_weak rfl rfl rfl ?_ ?_<;>repeat' (first|with_reducible (first|refine Wk.o (by constructor) ?_|refine q_and ?_ ?_|exact True.intro)|refine q_AgS rfl ?_ ?_|exact CLe.nil_tipS|exact (rfl : known _ = _)|omega)
  all_goals rfl
 intro k hk
 have q1:=row_len k F1
 have q2:=row_len k F2
 have q3:=row_len k F3
 have m1 : es.getD (k : Int).toNat 0 = E1 k:=(hE2 k (by omega)).1
 have m2:=(hE2 k (by omega)).2
 have n1 : lv.getD (k : Int).toNat 0 = E2 k:=(hL2 k (by omega)).1
 have n2:=(hL2 k (by omega)).2
 by_cases hkn : k < b - a
 ·have m3 : es.getD ((k : Int) + 1).toNat 0 = E1 (k + 1):=(hE2 (k + 1) (by omega)).1
  have m4:=(hE2 (k + 1) (by omega)).2
  repeat' (first|with_reducible (first|refine q_and ?_ ?_|exact True.intro|refine Red.o (by constructor) ?_|fail)|with_reducible (first|refine W_seq ?_|refine W_block ?_)|((with_reducible apply q_cond);refine X_cond rfl ?_ ?_;all_goals (intro hbq;(try simp only [bq] at hbq);(try (exfalso;omega))))|refine Rex.o (by (with_reducible constructor);apply Eq.refl) ?_|((with_reducible apply q_VOk);exact fun _=>⟨rfl,rfl⟩)|((with_reducible apply q_CRB);kernel_rfl)|((with_reducible apply q_eqN);rfl)|omega)
  ·
   refine LoopK_n (k + 1) ?_ ((by omega)) (by (try dsimp only); omega)
   refine X_weak rfl rfl rfl ?_ ?_<;>repeat' (first|with_reducible (first|refine Wk.o (by constructor) ?_|refine q_and ?_ ?_|exact True.intro)|refine q_AgS rfl ?_ ?_|exact (rfl : known _ = _)|omega)
   ·rw [row_snoc k F1, hN k (by omega), m1]; simp [fInt, fI]
   ·rw [row_len, row_len]
   ·rw [row_snoc k F2, hPa k, m3]; simp [fInt, fI]
   ·rw [row_len, row_len]
   ·rw [row_snoc k F3, hCl k, n1]; simp [fInt, fI]
   ·rw [row_len, row_len]
 ·have hke : k = b - a:=by omega
  subst hke
  have e3 : es.getD ((b : Int) - a).toNat 0 = E1 (b - a):=by rw [← m1]; congr 1; omega
  by_cases e : (b : Int) = st.length - ov - 1∧0 < ov
  ·rw [if_pos e]
   repeat' (first|with_reducible (first|refine q_and ?_ ?_|exact True.intro|refine Red.o (by constructor) ?_|assumption)|((with_reducible apply q_call);refine X_pure (hla) rfl ?_)|with_reducible (refine W_seq ?_)|((with_reducible apply q_cond);refine X_cond rfl ?_ ?_;all_goals (intro hbq;(try simp only [bq] at hbq);(try (exfalso;omega))))|refine Rex.o (by (with_reducible constructor);apply Eq.refl) ?_|(intro (hgq : (_ : Bool) = true);(try simp only [bq] at hgq))|((with_reducible apply q_VOk);exact fun _=>⟨rfl,rfl⟩)|((with_reducible apply q_bt);simp only [bq])|omega)
   all_goals first
    | (rw [e3]; omega)
    | (rw [e3]; rfl)
  ·rw [if_neg e]
   repeat' (first|with_reducible (first|refine q_and ?_ ?_|exact True.intro|refine Red.o (by constructor) ?_|assumption)|((with_reducible apply q_call);refine X_pure (hla) rfl ?_)|with_reducible (refine W_seq ?_)|((with_reducible apply q_cond);refine X_cond rfl ?_ ?_;all_goals (intro hbq;(try simp only [bq] at hbq);(try (exfalso;omega))))|refine Rex.o (by (with_reducible constructor);apply Eq.refl) ?_|(intro (hgq : (_ : Bool) = true);(try simp only [bq] at hgq))|((with_reducible apply q_bt);simp only [bq]))
   all_goals first
    | rfl
    | (exfalso; omega)
theorem refI_step (g : Nat → Int) (m : Nat) (N : Nat → Nat → Int) (a : Nat) (d : Int) {i : Nat} (h : i≤m) : refI g m N a d (m + 1) i = if d + N a (i - a - 1) < g i then i else refI g m N a d (m + 1) (i + 1):=by
 rw [← refI_f g m N a d m (m + 1) (i + 1) (by omega) (by omega)]
 rw [refI, if_neg (by omega)]
theorem refI_end (g : Nat → Int) (m : Nat) (N : Nat → Nat → Int) (a : Nat) (d : Int) : refI g m N a d (m + 1) (m + 1) = 0:=by
 rw [refI, if_pos (by omega)]
theorem legR_le (g : Nat → Int) (m : Nat) (N : Nat → Nat → Int) {a : Nat} (x : Int) (h : a < m) : legR g m N a x≤m:=by
 unfold legR
 rcases Nat.lt_or_ge m (a + 2) with h1 | h1
 ·rw [refI, if_pos (by omega)]; omega
 ·rw [refI_f g m N a (legD g a x) (m + 1) (m + 1 - (a + 2)) (a + 2) (by omega) (by omega)]
  rcases refI_of g m N a (legD g a x) (m + 1 - (a + 2)) (a + 2) (by omega) with ⟨h2, _⟩ | ⟨h2, h3, _⟩
  ·rw [h2]; omega
  ·exact h3
theorem bounded_ok (x : Int) : OkV Tryz.prog 40 [.c (xI x)] [] (vB (secB4 x)) []:=by
 unfold secB4
 refine X_fn mixedX Tryz.func40 rfl (by kernel_rfl) (Nat.le_of_ble_eq_true (by kernel_rfl)) (by kernel_rfl) rfl rfl (Nat.le_of_ble_eq_true rfl) rfl rfl ?_
 simp only [sl0, Nat.zero_add, Nat.reduceAdd]
 repeat' (first|with_reducible (first|refine q_and ?_ ?_|exact True.intro|exact TkEq.nil _|refine Red.o (by constructor) ?_|assumption)|with_reducible (refine W_seq ?_)|refine Rex.o (by (with_reducible constructor);apply Eq.refl) ?_|(intro (hgq : (_ : Bool) = true);(try simp only [bq] at hgq))|((with_reducible apply q_bt);simp only [bq]))
 repeat' (first|with_reducible (first|refine Wk.o (by constructor) ?_|exact True.intro)|refine VEq.c ?_)
theorem rWalk_bad (L : Lay) (hL : LayFits L) (st : List Stp) (ov : Int) (hl : st.length≤9223372036854775807) (ho : -9223372036854775808≤ov∧ov≤9223372036854775807) (nm : ByteArray) (l sp ac br rd late : Int) (gs : List Int) (hgl : gs.length≤9223372036854775807) (h : ¬ wlkErr L st ov l sp ac br gs rd late = 0) : OkV Tryz.prog 21 [vLay L, vR2 st ov, vS5 nm l sp ac br, .c (xI rd), .c (rInt gs), .c (xI late)] [] (.tup [.c (rLeg []), .c (xI (wlkErr L st ov l sp ac br gs rd late))]) []:=by
 have hF:=rFits_ok L hL st ov hl ho nm l sp ac br
 unfold wlkErr at h ⊢
 by_cases hm : motErr L ⟨st, ov⟩ l sp ac br = 0
 ·have hR:=rte_of (cel_rte (fit_of (mot_of hm).1).1)
  have g1:=hR.ov0
  have g2:=hR.ov
  have g3:=hR.len
  have g4:=hR.two
  simp only at g1 g2 g3 g4
  have hla:=rLast_ok st ov hl (by omega)
  rw [hm] at hF h ⊢
  rw [if_neg (by decide)] at h ⊢
  by_cases hg : (gs.length : Int) = st.length - ov
  ·rw [if_neg (by simpa using hg)] at h ⊢
   have hb : (secB4 rd && secB4 late && gs.all secB4) = false:=Classical.byContradiction fun hn=>h (if_neg hn)
   rw [if_pos hb]
   have s1:=bounded_ok rd
   have s2:=bounded_ok late
   have s3:=fun i=>bounded_ok (gs.getD i 0)
   unfold vLay at hF ⊢
   refine X_fn mixedX Tryz.func21 rfl (by kernel_rfl) (Nat.le_of_ble_eq_true (by kernel_rfl)) (by kernel_rfl) rfl rfl (Nat.le_of_ble_eq_true rfl) rfl rfl ?_
   simp only [sl0, Nat.zero_add, Nat.reduceAdd]
   repeat' (first|with_reducible (first|refine q_and ?_ ?_|exact True.intro|refine Red.o (by constructor) ?_|fail)|((with_reducible apply q_call);first|refine X_pure (hF) rfl ?_|refine X_pure (hla) rfl ?_)|with_reducible (first|refine W_seq ?_|refine W_block ?_)|((with_reducible apply q_cond);refine X_cond rfl ?_ ?_;all_goals (intro hbq;(try simp only [bq] at hbq);(try (exfalso;omega))))|refine Rex.o (by (with_reducible constructor);apply Eq.refl) ?_|omega)
   clear hF hla
   refine W_loopS (fun i : Nat=>SS [sI 3 rd, sI 5 late, sC 43 (rInt gs), sI 44 gs.length, sI 45 i] [none, none, none]) (fun i=>i≤gs.length∧∀ j, j < i → secB4 (gs.getD j 0) = true) (fun i=>gs.length - i) 0 ?_ ⟨by omega, fun j hj=>by omega⟩ ?_
   ·
    refine X_weak rfl rfl rfl ?_ ?_<;>repeat' (first|with_reducible (first|refine Wk.o (by constructor) ?_|refine q_and ?_ ?_|exact True.intro)|refine q_AgS rfl ?_ ?_|exact (rfl : known _ = _)|omega)
    all_goals rfl
   rintro i ⟨hi, hno⟩
   by_cases hil : i < gs.length
   ·have s4 : OkV Tryz.prog 40 [.c (xI (gs.getD (i : Int).toNat 0))] [] (vB (secB4 (gs.getD i 0))) []:=s3 i
    by_cases h3 : secB4 (gs.getD i 0) = true
    ·rw [h3] at s4
     repeat' (first|with_reducible (first|refine q_and ?_ ?_|exact True.intro|refine Red.o (by constructor) ?_|assumption)|((with_reducible apply q_call);refine X_pure (s4) rfl ?_)|with_reducible (first|refine W_seq ?_|refine W_block ?_)|((with_reducible apply q_cond);refine X_cond rfl ?_ ?_;all_goals (intro hbq;(try simp only [bq] at hbq);(try (exfalso;omega))))|refine Rex.o (by (with_reducible constructor);apply Eq.refl) ?_|((with_reducible apply q_VOk);exact fun _=>⟨rfl,rfl⟩)|omega)
     ·
      refine LoopK_n (i + 1) ?_ (⟨by omega, upto_succ hno h3⟩) (by (try dsimp only); omega)
      refine X_weak rfl rfl rfl ?_ ?_<;>repeat' (first|with_reducible (first|refine Wk.o (by constructor) ?_|refine q_and ?_ ?_|exact True.intro)|refine q_AgS rfl ?_ ?_|exact (rfl : known _ = _)|omega)
    ·have h3 : secB4 (gs.getD i 0) = false:=by simpa using h3
     rw [h3] at s4
     repeat' (first|with_reducible (first|refine q_and ?_ ?_|exact True.intro|exact TkEq.nil _|refine Red.o (by constructor) ?_|assumption)|((with_reducible apply q_call);refine X_pure (s4) rfl ?_)|with_reducible (first|refine W_seq ?_|refine W_block ?_)|((with_reducible apply q_cond);refine X_cond rfl ?_ ?_;all_goals (intro hbq;(try simp only [bq] at hbq);(try (exfalso;omega))))|refine Rex.o (by (with_reducible constructor);apply Eq.refl) ?_|((with_reducible apply q_VOk);exact fun _=>⟨rfl,rfl⟩)|omega)
     all_goals rfl
   ·rw [gs_some fun j hj=>hno j (by omega), Bool.and_true] at hb
    by_cases h1 : secB4 rd = true
    ·rw [h1, Bool.true_and] at hb
     rw [h1] at s1
     rw [hb] at s2
     repeat' (first|with_reducible (first|refine q_and ?_ ?_|exact True.intro|exact TkEq.nil _|refine Red.o (by constructor) ?_|fail)|((with_reducible apply q_call);refine X_pure (s1) rfl ?_)|((with_reducible apply q_callG);refine X_pureG ((fun _=>s2)) rfl ?_ ?_)|with_reducible (refine W_seq ?_)|((with_reducible apply q_cond);refine X_cond rfl ?_ ?_;all_goals (intro hbq;(try simp only [bq] at hbq);(try (exfalso;omega))))|refine Rex.o (by (with_reducible constructor);apply Eq.refl) ?_|(intro (hgq : (_ : Bool) = true);(try simp only [bq] at hgq))|(intro (hgq : (_ : Bool) = false);(try simp only [bq] at hgq))|((with_reducible apply q_bt);simp only [bq]))
     all_goals rfl
    ·have h1 : secB4 rd = false:=by simpa using h1
     rw [h1] at s1
     repeat' (first|with_reducible (first|refine q_and ?_ ?_|exact True.intro|exact TkEq.nil _|refine Red.o (by constructor) ?_|fail)|((with_reducible apply q_call);refine X_pure (s1) rfl ?_)|((with_reducible apply q_callG);refine X_pureG ((fun _=>s2)) rfl ?_ ?_)|with_reducible (refine W_seq ?_)|((with_reducible apply q_cond);refine X_cond rfl ?_ ?_;all_goals (intro hbq;(try simp only [bq] at hbq);(try (exfalso;omega))))|refine Rex.o (by (with_reducible constructor);apply Eq.refl) ?_|(intro (hgq : (_ : Bool) = true);(try simp only [bq] at hgq))|(intro (hgq : (_ : Bool) = false);(try simp only [bq] at hgq)))
     all_goals rfl
  ·rw [if_pos hg]
   unfold vLay at hF ⊢
   refine X_fn mixedX Tryz.func21 rfl (by kernel_rfl) (Nat.le_of_ble_eq_true (by kernel_rfl)) (by kernel_rfl) rfl rfl (Nat.le_of_ble_eq_true rfl) rfl rfl ?_
   simp only [sl0, Nat.zero_add, Nat.reduceAdd]
   repeat' (first|with_reducible (first|refine q_and ?_ ?_|exact True.intro|exact TkEq.nil _|refine Red.o (by constructor) ?_|fail)|((with_reducible apply q_call);first|refine X_pure (hF) rfl ?_|refine X_pure (hla) rfl ?_)|with_reducible (refine W_seq ?_)|((with_reducible apply q_cond);refine X_cond rfl ?_ ?_;all_goals (intro hbq;(try simp only [bq] at hbq);(try (exfalso;omega))))|refine Rex.o (by (with_reducible constructor);apply Eq.refl) ?_|omega)
   all_goals rfl
 ·rw [if_pos hm]
  unfold vLay at hF ⊢
  refine X_fn mixedX Tryz.func21 rfl (by kernel_rfl) (Nat.le_of_ble_eq_true (by kernel_rfl)) (by kernel_rfl) rfl rfl (Nat.le_of_ble_eq_true rfl) rfl rfl ?_
  simp only [sl0, Nat.zero_add, Nat.reduceAdd]
  repeat' (first|with_reducible (first|refine q_and ?_ ?_|exact True.intro|exact TkEq.nil _|refine Red.o (by constructor) ?_|fail)|((with_reducible apply q_call);refine X_pure (hF) rfl ?_)|with_reducible (refine W_seq ?_)|((with_reducible apply q_cond);refine X_cond rfl ?_ ?_;all_goals (intro hbq;(try simp only [bq] at hbq);(try (exfalso;omega))))|refine Rex.o (by (with_reducible constructor);apply Eq.refl) ?_|fail)
  all_goals rfl
theorem rWalk_ok (L : Lay) (hL : LayFits L) (st : List Stp) (ov : Int) (hl : st.length≤9223372036854775807) (ho : -9223372036854775808≤ov∧ov≤9223372036854775807) (nm : ByteArray) (l sp ac br rd late : Int) (gs : List Int) (h : wlkErr L st ov l sp ac br gs rd late = 0) : OkV Tryz.prog 21 [vLay L, vR2 st ov, vS5 nm l sp ac br, .c (xI rd), .c (rInt gs), .c (xI late)] [] (.tup [.c (rLeg (walkL L st ov l sp ac br gs rd late)), .c (xI 0)]) []:=by
 have hF:=rFits_ok L hL st ov hl ho nm l sp ac br
 obtain ⟨hm, hg, h1, h2, h3⟩:=wlk_of h
 clear h
 have hf:=(mot_of hm).1
 have hR:=rte_of (cel_rte (fit_of hf).1)
 have g1:=hR.ov0
 have g2:=hR.ov
 have g3:=hR.len
 have g4:=hR.two
 simp only at g1 g2 g3 g4
 have hla:=rLast_ok st ov hl (by omega)
 rw [hm] at hF
 have s1:=bounded_ok rd
 have s2:=bounded_ok late
 have s3:=fun i=>bounded_ok (gs.getD i 0)
 rw [h1] at s1
 rw [h2] at s2
 obtain ⟨hn1, hn2, hn3⟩:=last_n hR
 have hga:=fun i (hi : i < gs.length)=>gs_all h3 hi
 have hN:=fun a (ha : a < lastN st ov) k (hk : k≤lastN st ov - a)=>needN_rng hf ha hk
 have hO:=fun a (ha : a < lastN st ov)=>ovlN_rng hf ha
 have hU:=fun a b (hab : a < b) (hb : b≤lastN st ov)=>runN_rng hf hab hb
 have hP:=fun a b (hab : a < b) (hb : b≤lastN st ov)=>rMake_ok L hL st ov hl ho nm l sp ac br a b hm hab (by omega)
 unfold walkL
 generalize hT : wlk (fun i=>gs.getD i 0) (lastN st ov) (needN L st ov l sp ac br) (runN L st ov l sp ac br) (ovlN L st ov l sp ac br) ov late (lastN st ov + 1) 0 rd = T
 unfold secB4 at h1 h2
 simp only [Bool.and_eq_true, decide_eq_true_eq] at h1 h2
 unfold lPro at hP
 unfold vLay at hF hP ⊢
 rw [← hn1] at hla
 refine X_fn mixedX Tryz.func21 rfl (by kernel_rfl) (Nat.le_of_ble_eq_true (by kernel_rfl)) (by kernel_rfl) rfl rfl (Nat.le_of_ble_eq_true rfl) rfl rfl ?_
 simp only [sl0, Nat.zero_add, Nat.reduceAdd]
 repeat' (first|with_reducible (first|refine q_and ?_ ?_|exact True.intro|refine Red.o (by constructor) ?_|fail)|((with_reducible apply q_call);first|refine X_pure (hF) rfl ?_|refine X_pure (hla) rfl ?_)|with_reducible (first|refine W_seq ?_|refine W_block ?_)|((with_reducible apply q_cond);refine X_cond rfl ?_ ?_;all_goals (intro hbq;(try simp only [bq] at hbq);(try (exfalso;omega))))|refine Rex.o (by (with_reducible constructor);apply Eq.refl) ?_|omega)
 clear hF
 refine W_loopS (fun i : Nat=>SS [sI 3 rd, sC 4 (rInt gs), sI 5 late, sC 6 (pB 0), sC 7 (pB 1), sC 8 (pB 2), sI 15 (lastN st ov : Nat), sC 43 (rInt gs), sI 44 gs.length, sI 45 i] [bLay L, bRte st ov, bS5 nm l sp ac br]) (fun i=>i≤gs.length) (fun i=>gs.length - i) 0 ?_ (by omega) ?_
 ·
  refine X_weak rfl rfl rfl ?_ ?_<;>repeat' (first|with_reducible (first|refine Wk.o (by constructor) ?_|refine q_and ?_ ?_|exact True.intro)|refine q_AgS rfl ?_ ?_|exact (rfl : known _ = _)|omega)
  all_goals rfl
 intro i hi
 by_cases hil : i < gs.length
 ·have s4 : OkV Tryz.prog 40 [.c (xI (gs.getD (i : Int).toNat 0))] [] (vB (secB4 (gs.getD i 0))) []:=s3 i
  have h4 : secB4 (gs.getD i 0) = true:=by
   rw [List.getD_eq_getElem?_getD, List.getElem?_eq_getElem hil]
   exact List.all_eq_true.1 h3 _ (List.getElem_mem hil)
  rw [h4] at s4
  repeat' (first|with_reducible (first|refine q_and ?_ ?_|exact True.intro|refine Red.o (by constructor) ?_|assumption)|((with_reducible apply q_call);refine X_pure (s4) rfl ?_)|with_reducible (first|refine W_seq ?_|refine W_block ?_)|((with_reducible apply q_cond);refine X_cond rfl ?_ ?_;all_goals (intro hbq;(try simp only [bq] at hbq);(try (exfalso;omega))))|refine Rex.o (by (with_reducible constructor);apply Eq.refl) ?_|((with_reducible apply q_VOk);exact fun _=>⟨rfl,rfl⟩)|omega)
  ·
   refine LoopK_n (i + 1) ?_ ((by omega)) (by (try dsimp only); omega)
   refine X_weak rfl rfl rfl ?_ ?_<;>repeat' (first|with_reducible (first|refine Wk.o (by constructor) ?_|refine q_and ?_ ?_|exact True.intro)|refine q_AgS rfl ?_ ?_|exact (rfl : known _ = _)|omega)
 ·
  have hP1 : ∀ a, a < lastN st ov → ∃ Y Z, OkV Tryz.prog 11 [.agg [rStr L.sts, rStr L.pts, rSec L.secs, rLnk L.lnks], vR2 st ov, vS5 nm l sp ac br, .c (xI a), .c (xI (lastN st ov : Nat))] [] (.tup [.agg (lPro7 a (lastN st ov : Nat) (row (lastN st ov - a) (needN L st ov l sp ac br a)) Y Z (ovlN L st ov l sp ac br a) (runN L st ov l sp ac br a (lastN st ov))), .c (xI 0)]) []:=fun a ha=>⟨_, _, hP a _ ha (Nat.le_refl _)⟩
  have hP2 : ∀ a b : Nat, a < b → b≤lastN st ov → ∃ X Y Z o, OkV Tryz.prog 11 [.agg [rStr L.sts, rStr L.pts, rSec L.secs, rLnk L.lnks], vR2 st ov, vS5 nm l sp ac br, .c (xI a), .c (xI b)] [] (.tup [.agg (lPro7 a b X Y Z o (runN L st ov l sp ac br a b)), .c (xI 0)]) []:=fun a b hab hb=>⟨_, _, _, _, hP a b hab hb⟩
  clear hP s3 h3 hm hf hla
  generalize needN L st ov l sp ac br = N at *
  generalize ovlN L st ov l sp ac br = O at *
  generalize runN L st ov l sp ac br = R at *
  generalize lastN st ov = m at *
  have hie : i = gs.length:=by omega
  subst hie
  repeat' (first|with_reducible (first|refine q_and ?_ ?_|exact True.intro|refine Red.o (by constructor) ?_|fail)|((with_reducible apply q_call);refine X_pure (s1) rfl ?_)|((with_reducible apply q_callG);refine X_pureG ((fun _=>s2)) rfl ?_ ?_)|with_reducible (first|refine W_seq ?_|refine W_block ?_)|((with_reducible apply q_cond);refine X_cond rfl ?_ ?_;all_goals (intro hbq;(try simp only [bq] at hbq);(try (exfalso;omega))))|refine Rex.o (by (with_reducible constructor);apply Eq.refl) ?_|(intro (hgq : (_ : Bool) = true);(try simp only [bq] at hgq))|(intro (hgq : (_ : Bool) = false);(try simp only [bq] at hgq))|((with_reducible apply q_bt);simp only [bq]))
  refine W_loopS (fun q : Nat × Int × List Leg=>SS [sC 4 (rInt gs), sI 5 late, sC 6 (pB 0), sC 7 (pB 1), sC 8 (pB 2), sI 15 m, sC 18 (tLeg q.2.2), sI 19 q.1, sI 20 q.2.1] [bLay L, bRte st ov, bS5 nm l sp ac br]) (fun q=>q.1≤m∧-4194304≤q.2.1∧q.2.1≤4194400 + 100000 * q.1∧q.2.2.length≤q.1∧∃ f, m + 1≤q.1 + f∧q.2.2 ++ wlk (fun i=>gs.getD i 0) m N R O ov late f q.1 q.2.1 = T) (fun q=>m - q.1) (0, rd, []) ?_ ⟨by simp only; omega, by simp only; omega, by simp only; omega, Nat.le_refl _, m + 1, by simp only; omega, hT⟩ ?_
  ·
   refine X_weak rfl rfl rfl ?_ ?_<;>repeat' (first|with_reducible (first|refine Wk.o (by constructor) ?_|refine q_and ?_ ?_|exact True.intro)|refine q_AgS rfl ?_ ?_|exact (rfl : known _ = _)|omega)
   all_goals rfl
  clear s1 s2
  rintro ⟨a, x, legs⟩ ⟨q1, q2, q3, q4, f, q5, q6⟩
  simp only at q1 q2 q3 q4 q5 q6
  by_cases ham : a < m
  ·obtain ⟨f, rfl⟩ : ∃ k, f = k + 1:=⟨f - 1, by omega⟩
   unfold wlk at q6
   rw [if_pos ham] at q6
   obtain ⟨Y, Z, hp1⟩:=hP1 a ham
   have hgn:=hga (a + 1) (by omega)
   have eg : gs.getD ((a : Int) + 1).toNat 0 = gs.getD (a + 1) 0:=by congr 1
   have ed : max x (gs.getD ((a : Int) + 1).toNat 0 + 16) = legD (fun i=>gs.getD i 0) a x:=by rw [eg]; rfl
   have hd1 : x≤legD (fun i=>gs.getD i 0) a x∧legD (fun i=>gs.getD i 0) a x≤4194400 + 100000 * a:=by rw [← ed, eg]; omega
   have hB:=legB_rng (fun i=>gs.getD i 0) m N x ham
   have hrm:=legR_le (fun i=>gs.getD i 0) m N x ham
   have hOa:=hO a ham
   have hUa:=hU a m ham (Nat.le_refl _)
   have hBe : legB (fun i=>gs.getD i 0) m N a x = if 0 < legR (fun i=>gs.getD i 0) m N a x then legR (fun i=>gs.getD i 0) m N a x - 1 else m:=rfl
   have hSe : legS (fun i=>gs.getD i 0) m N R O ov late a x = if 0 < legR (fun i=>gs.getD i 0) m N a x then legD (fun i=>gs.getD i 0) a x + R a (legR (fun i=>gs.getD i 0) m N a x - 1) else if 0 < ov∧legD (fun i=>gs.getD i 0) a x + O a < late then legD (fun i=>gs.getD i 0) a x + R a m + 30 else legD (fun i=>gs.getD i 0) a x + R a m:=rfl
   have hRe : legR (fun i=>gs.getD i 0) m N a x = refI (fun i=>gs.getD i 0) m N a (legD (fun i=>gs.getD i 0) a x) (m + 1) (a + 2):=rfl
   rw [hSe] at q6
   rw [hBe] at hB q6
   generalize legR (fun i=>gs.getD i 0) m N a x = r at *
   generalize legD (fun i=>gs.getD i 0) a x = d at *
   have hst:=fun i (hi : i≤m)=>refI_step (fun i=>gs.getD i 0) m N a d (i:=i) hi
   have hen:=refI_end (fun i=>gs.getD i 0) m N a d
   generalize refI (fun i=>gs.getD i 0) m N a d (m + 1) = rI at *
   subst ed
   clear hBe hSe hT
   repeat' (first|with_reducible (first|refine q_and ?_ ?_|exact True.intro|refine Red.o (by constructor) ?_|fail)|((with_reducible apply q_call);refine X_pure (hp1) rfl ?_)|with_reducible (first|refine W_seq ?_|refine W_block ?_)|((with_reducible apply q_cond);refine X_cond rfl ?_ ?_;all_goals (intro hbq;(try simp only [bq] at hbq);(try (exfalso;omega))))|refine Rex.o (by (with_reducible constructor);apply Eq.refl) ?_|((with_reducible apply q_VOk);exact fun _=>⟨rfl,rfl⟩)|omega|(dsimp only;omega))
   clear hp1
   refine W_loopS (fun i : Nat=>SS [sC 4 (rInt gs), sI 5 late, sC 6 (pB 0), sC 7 (pB 1), sC 8 (pB 2), sI 15 m, sC 18 (tLeg legs), sI 19 a, sI 21 (max x (gs.getD ((a : Int) + 1).toNat 0 + 16)), sC 22 (pB 3), sI 24 (if 0 < rI (i + 1) then rI (i + 1) - 1 else m : Nat), sI 25 i] [bLay L, bRte st ov, bS5 nm l sp ac br, some (.cells (lPro7 a m (row (m - a) (N a)) Y Z (O a) (R a m)))]) (fun i=>a + 1≤i∧i≤m) (fun i=>i) m ?_ ⟨by omega, by omega⟩ ?_
   ·
    refine X_weak rfl rfl rfl ?_ ?_<;>repeat' (first|with_reducible (first|refine Wk.o (by constructor) ?_|refine q_and ?_ ?_|exact True.intro)|refine q_AgS rfl ?_ ?_|exact (rfl : known _ = _))
    all_goals first
     | rfl
     | (rw [hen, if_neg (by omega)])
   rintro i ⟨hi1, hi2⟩
   have hsi:=hst i hi2
   by_cases hil : a + 1 < i
   ·have c1 : (row (m - a) (N a)).getD ((i : Int) - a - 1).toNat 0 = N a (i - a - 1):=by rw [show ((i : Int) - a - 1).toNat = i - a - 1 by omega]; exact row_get (by omega)
    have c2 : gs.getD (i : Int).toNat 0 = gs.getD i 0:=rfl
    have c3:=hN a ham (i - a - 1) (by omega)
    have c4:=row_len (m - a) (N a)
    have c5 : i - 1 + 1 = i:=by omega
    by_cases hc : max x (gs.getD ((a : Int) + 1).toNat 0 + 16) + N a (i - a - 1) < gs.getD i 0
    ·rw [if_pos hc] at hsi
     repeat' (first|with_reducible (first|refine q_and ?_ ?_|exact True.intro|refine Red.o (by constructor) ?_|fail)|with_reducible (first|refine W_seq ?_|refine W_block ?_)|((with_reducible apply q_cond);refine X_cond rfl ?_ ?_;all_goals (intro hbq;(try simp only [bq] at hbq);(try (exfalso;omega))))|refine Rex.o (by (with_reducible constructor);apply Eq.refl) ?_|((with_reducible apply q_VOk);exact fun _=>⟨rfl,rfl⟩)|((with_reducible apply q_CRB);kernel_rfl)|omega)
     ·
      refine LoopK_n (i - 1) ?_ (⟨by omega, by omega⟩) (by (try dsimp only); omega)
      refine X_weak rfl rfl rfl ?_ ?_<;>repeat' (first|with_reducible (first|refine Wk.o (by constructor) ?_|refine q_and ?_ ?_|exact True.intro)|refine q_AgS rfl ?_ ?_|exact (rfl : known _ = _)|omega)
      all_goals (rw [c5, hsi]; try rw [if_pos (show 0 < i by omega)]; try omega)
    ·rw [if_neg hc] at hsi
     repeat' (first|with_reducible (first|refine q_and ?_ ?_|exact True.intro|refine Red.o (by constructor) ?_|fail)|with_reducible (first|refine W_seq ?_|refine W_block ?_)|((with_reducible apply q_cond);refine X_cond rfl ?_ ?_;all_goals (intro hbq;(try simp only [bq] at hbq);(try (exfalso;omega))))|refine Rex.o (by (with_reducible constructor);apply Eq.refl) ?_|((with_reducible apply q_VOk);exact fun _=>⟨rfl,rfl⟩)|((with_reducible apply q_CRB);kernel_rfl)|omega)
     ·
      refine LoopK_n (i - 1) ?_ (⟨by omega, by omega⟩) (by (try dsimp only); omega)
      refine X_weak rfl rfl rfl ?_ ?_<;>repeat' (first|with_reducible (first|refine Wk.o (by constructor) ?_|refine q_and ?_ ?_|exact True.intro)|refine q_AgS rfl ?_ ?_|exact (rfl : known _ = _)|omega)
      all_goals (rw [c5, hsi]; try omega)
   ·have hie : i = a + 1:=by omega
    subst hie
    rw [show a + 1 + 1 = a + 2 by omega, ← hRe]
    clear hst hen hsi
    have hbb : a < (if 0 < r then r - 1 else m)∧(if 0 < r then r - 1 else m)≤m:=hB
    obtain ⟨X2, Y2, Z2, o2, hp2⟩:=hP2 a _ hB.1 hB.2
    have hUb:=hU a _ hB.1 hB.2
    clear hP1 hP2 hRe
    by_cases hr0 : 0 < r
    ·rw [if_pos hr0] at hB hp2 hUb ⊢
     rw [if_pos hr0, if_pos hr0] at q6
     repeat' (first|with_reducible (first|refine q_and ?_ ?_|exact True.intro|refine Red.o (by constructor) ?_|assumption)|((with_reducible apply q_call);refine X_pure (hp2) rfl ?_)|with_reducible (refine W_seq ?_)|((with_reducible apply q_cond);refine X_cond rfl ?_ ?_;all_goals (intro hbq;(try simp only [bq] at hbq);(try (exfalso;omega))))|refine Rex.o (by (with_reducible constructor);apply Eq.refl) ?_|(intro (hgq : (_ : Bool) = true);(try simp only [bq] at hgq))|((with_reducible apply q_bt);simp only [bq])|((with_reducible apply q_eqN);rfl)|(simp only [hgq,bq];done)|omega)
     all_goals first
      | (exfalso; omega)
      | (
       refine LoopK_n ((r - 1, max x (gs.getD ((a : Int) + 1).toNat 0 + 16) + R a (r - 1), legs ++ [⟨a, (r - 1 : Nat), max x (gs.getD ((a : Int) + 1).toNat 0 + 16), max x (gs.getD ((a : Int) + 1).toNat 0 + 16) + R a (r - 1)⟩])) ?_ (⟨by simp only; omega, by simp only; omega, by simp only; omega, by simp only [List.length_append, List.length_singleton]; omega, f, by simp only; omega, by simp only; rw [List.append_assoc]; exact q6⟩) (by (try dsimp only); omega)
       refine X_weak rfl rfl rfl ?_ ?_<;>repeat' (first|with_reducible (first|refine Wk.o (by constructor) ?_|refine q_and ?_ ?_|exact True.intro)|refine q_AgS rfl ?_ ?_|exact (rfl : known _ = _))
       all_goals first
        | omega
        | rfl
        | (simp only [List.length_append, List.length_singleton]; done)
        | (simp [fLeg, fI]; done)
        | (simp [fLeg, fI]; omega))
    ·rw [if_neg hr0] at hB hp2 hUb ⊢
     rw [if_neg hr0, if_neg hr0] at q6
     by_cases hv : 0 < ov∧max x (gs.getD ((a : Int) + 1).toNat 0 + 16) + O a < late
     ·rw [if_pos hv] at q6
      repeat' (first|with_reducible (first|refine q_and ?_ ?_|exact True.intro|refine Red.o (by constructor) ?_|assumption)|((with_reducible apply q_call);refine X_pure (hp2) rfl ?_)|with_reducible (refine W_seq ?_)|((with_reducible apply q_cond);refine X_cond rfl ?_ ?_;all_goals (intro hbq;(try simp only [bq] at hbq);(try (exfalso;omega))))|refine Rex.o (by (with_reducible constructor);apply Eq.refl) ?_|(intro (hgq : (_ : Bool) = true);(try simp only [bq] at hgq))|((with_reducible apply q_bt);simp only [bq])|((with_reducible apply q_eqN);rfl)|omega)
      all_goals first
       | (exfalso; omega)
       | (
        refine LoopK_n ((m, max x (gs.getD ((a : Int) + 1).toNat 0 + 16) + R a m + 30, legs ++ [⟨a, (m : Nat), max x (gs.getD ((a : Int) + 1).toNat 0 + 16), max x (gs.getD ((a : Int) + 1).toNat 0 + 16) + R a m + 30⟩])) ?_ (⟨by simp only; omega, by simp only; omega, by simp only; omega, by simp only [List.length_append, List.length_singleton]; omega, f, by simp only; omega, by simp only; rw [List.append_assoc]; exact q6⟩) (by (try dsimp only); omega)
        refine X_weak rfl rfl rfl ?_ ?_<;>repeat' (first|with_reducible (first|refine Wk.o (by constructor) ?_|refine q_and ?_ ?_|exact True.intro)|refine q_AgS rfl ?_ ?_|exact (rfl : known _ = _))
        all_goals first
         | omega
         | rfl
         | (simp only [List.length_append, List.length_singleton]; done)
         | (simp [fLeg, fI]; done)
         | (simp [fLeg, fI]; omega))
     ·rw [if_neg hv] at q6
      repeat' (first|with_reducible (first|refine q_and ?_ ?_|exact True.intro|refine Red.o (by constructor) ?_|assumption)|((with_reducible apply q_call);refine X_pure (hp2) rfl ?_)|with_reducible (refine W_seq ?_)|((with_reducible apply q_cond);refine X_cond rfl ?_ ?_;all_goals (intro hbq;(try simp only [bq] at hbq);(try (exfalso;omega))))|refine Rex.o (by (with_reducible constructor);apply Eq.refl) ?_|(intro (hgq : (_ : Bool) = true);(try simp only [bq] at hgq))|((with_reducible apply q_bt);simp only [bq])|((with_reducible apply q_eqN);rfl)|omega)
      all_goals first
       | (exfalso; omega)
       | (
        refine LoopK_n ((m, max x (gs.getD ((a : Int) + 1).toNat 0 + 16) + R a m, legs ++ [⟨a, (m : Nat), max x (gs.getD ((a : Int) + 1).toNat 0 + 16), max x (gs.getD ((a : Int) + 1).toNat 0 + 16) + R a m⟩])) ?_ (⟨by simp only; omega, by simp only; omega, by simp only; omega, by simp only [List.length_append, List.length_singleton]; omega, f, by simp only; omega, by simp only; rw [List.append_assoc]; exact q6⟩) (by (try dsimp only); omega)
        refine X_weak rfl rfl rfl ?_ ?_<;>repeat' (first|with_reducible (first|refine Wk.o (by constructor) ?_|refine q_and ?_ ?_|exact True.intro)|refine q_AgS rfl ?_ ?_|exact (rfl : known _ = _))
        all_goals first
         | omega
         | rfl
         | (simp only [List.length_append, List.length_singleton]; done)
         | (simp [fLeg, fI]; done)
         | (simp [fLeg, fI]; omega))
  ·have hT2 : legs = T:=by
    rw [← q6]
    cases f with
    | zero=>exact (List.append_nil _).symm
    | succ f=>unfold wlk; rw [if_neg ham]; exact (List.append_nil _).symm
   subst hT2
   repeat' (first|with_reducible (first|refine q_and ?_ ?_|exact True.intro|exact TkEq.nil _|refine Red.o (by constructor) ?_|fail)|with_reducible (refine W_seq ?_)|((with_reducible apply q_cond);refine X_cond rfl ?_ ?_;all_goals (intro hbq;(try simp only [bq] at hbq);(try (exfalso;omega))))|refine Rex.o (by (with_reducible constructor);apply Eq.refl) ?_|fail)
   all_goals rfl
section
variable (g : Nat → Int) (m : Nat) (N : Nat → Nat → Int) (R : Nat → Nat → Int) (O : Nat → Int) (ov late : Int)
theorem wlk_len (g : Nat → Int) (m : Nat) (N R : Nat → Nat → Int) (O : Nat → Int) (ov late : Int) : ∀ f a x, (wlk g m N R O ov late f a x).length≤f
 | 0, _, _=>Nat.le_refl _
 | f + 1, a, x=>by
  unfold wlk
  split
  ·have:=wlk_len g m N R O ov late f (legB g m N a x) (legS g m N R O ov late a x)
   simp only [List.length_cons]; omega
  ·simp
end
theorem same_leg_ok (l : List Leg) (hl : l.length≤9223372036854775807) : OkV Tryz.prog 22 [.c (rLeg l), .c (rLeg l)] [] (vB true) []:=by
 refine X_fnP mixedX Tryz.func22 rfl (by kernel_rfl) (Nat.le_of_ble_eq_true (by kernel_rfl)) (by kernel_rfl) rfl rfl ?_
 simp only [sl0, Nat.zero_add, Nat.reduceAdd]
 repeat' (first|with_reducible (first|refine q_and ?_ ?_|exact True.intro|refine Red.o (by constructor) ?_|fail)|with_reducible (first|refine W_seq ?_|refine W_block ?_)|((with_reducible apply q_cond);refine X_cond rfl ?_ ?_;all_goals (intro hbq;(try simp only [bq] at hbq);(try (exfalso;omega))))|refine Rex.o (by (with_reducible constructor);apply Eq.refl) ?_|fail)
 refine W_loopS (fun i : Nat=>SS [sC 0 (rLeg l), sC 1 (rLeg l), sI 12 l.length, sI 13 i] []) (fun i=>i≤l.length) (fun i=>l.length - i) 0 ?_ (by omega) ?_
 ·
  refine X_weak rfl rfl rfl ?_ ?_<;>repeat' (first|with_reducible (first|refine Wk.o (by constructor) ?_|refine q_and ?_ ?_|exact True.intro)|refine q_AgS rfl ?_ ?_|exact (rfl : known _ = _)|omega)
 ·intro i hi
  repeat' (first|with_reducible (first|refine q_and ?_ ?_|exact True.intro|refine Red.o (by constructor) ?_|assumption)|with_reducible (first|refine W_seq ?_|refine W_block ?_)|((with_reducible apply q_cond);refine X_cond rfl ?_ ?_;all_goals (intro hbq;(try simp only [bq] at hbq);(try (exfalso;omega))))|refine Rex.o (by (with_reducible constructor);apply Eq.refl) ?_|((with_reducible apply q_VOk);exact fun _=>⟨rfl,rfl⟩)|((with_reducible apply q_CRB);kernel_rfl)|omega)
  ·
   refine LoopK_n (i + 1) ?_ ((by omega)) (by (try dsimp only); omega)
   refine X_weak rfl rfl rfl ?_ ?_<;>repeat' (first|with_reducible (first|refine Wk.o (by constructor) ?_|refine q_and ?_ ?_|exact True.intro)|refine q_AgS rfl ?_ ?_|exact (rfl : known _ = _)|omega)
  ·rfl
set_option maxHeartbeats 40000000
theorem walk_ex2 (L : Lay) (hL : LayFits L) (st : List Stp) (ov : Int) (hl : st.length≤100) (ho : -9223372036854775808≤ov∧ov≤9223372036854775807) (nm : ByteArray) (l sp ac br rd late : Int) (gs : List Int) (hgl : gs.length≤9223372036854775807) : ∃ w : List Leg, ∃ e : Int, OkV Tryz.prog 20 [vLay L, vR2 st ov, vS5 nm l sp ac br, .c (xI rd), .c (rInt gs), .c (xI late)] [] (.tup [.c (rLeg w), .c (xI e)]) []∧OkV Tryz.prog 21 [vLay L, vR2 st ov, vS5 nm l sp ac br, .c (xI rd), .c (rInt gs), .c (xI late)] [] (.tup [.c (rLeg w), .c (xI e)]) []∧w.length≤200:=by
 have hl2 : st.length≤9223372036854775807:=by omega
 by_cases h : wlkErr L st ov l sp ac br gs rd late = 0
 ·refine ⟨_, _, walk_ok L hL st ov hl2 ho nm l sp ac br rd late gs h, rWalk_ok L hL st ov hl2 ho nm l sp ac br rd late gs h, ?_⟩
  unfold walkL
  refine Nat.le_trans (wlk_len _ _ _ _ _ _ _ _ _ _) ?_
  unfold lastN
  omega
 ·exact ⟨_, _, walk_bad L hL st ov hl2 ho nm l sp ac br rd late gs hgl h, rWalk_bad L hL st ov hl2 ho nm l sp ac br rd late gs hgl h, by simp⟩
structure Grn where
 i : Nat
 s : Src
 t : Int
 g : List Int
theorem walkLaw_ok (l g : List Int) (rd oo : Int) (hl : l.length≤9223372036854775807) (hgl : g.length≤9223372036854775807) : OkV Tryz.prog 5 [.c (rInt l), .c (rInt g), .c (xI rd), .c (xI oo)] [] (vB true) []:=by
 have hA:=awake_ok
 have hR:=route2_ok l hl
 have hfit:=fits_valid (valid_of (genL_ok l))
 generalize genL l = L at *
 refine X_fnP mixedX Tryz.func5 rfl (by kernel_rfl) (Nat.le_of_ble_eq_true (by kernel_rfl)) (by kernel_rfl) rfl rfl ?_
 simp only [sl0, Nat.zero_add, Nat.reduceAdd]
 repeat' (first|with_reducible (first|refine q_and ?_ ?_|exact True.intro|refine Red.o (by constructor) ?_|fail)|with_reducible (refine W_seq ?_)|refine Rex.o (by (with_reducible constructor);apply Eq.refl) ?_|fail)
 refine X_callG [] hR rfl rfl rfl rfl rfl rfl rfl rfl ?_
 rintro ⟨⟨st, ov⟩, ⟨nm, ln, sp, ac, br⟩⟩ ⟨hd1, hd2, hd3⟩
 refine ⟨_, _, _, _, rfl, rfl, rfl, rfl, rfl, ?_⟩
 simp only at hd1 hd2 hd3
 have hW:=fun r o gs h=>walk_ex2 L hfit st ov (by omega) (by omega) nm ln sp ac br r o gs h
 have hLa:=rLast_ok st ov (by omega) (by omega)
 have hFr:=from_ok g
 have hs0 : Src.ok ⟨g, 0⟩:=⟨Nat.zero_le _, hgl⟩
 have hP:=pick_ok rd 100 (by omega) (by omega)
 have hp:=pick_lt rd (n:=100) (by omega)
 have hP2:=pick_ok oo 60 (by omega) (by omega)
 have hp2:=pick_lt oo (n:=60) (by omega)
 generalize pick rd 100 = x at *
 generalize pick oo 60 = y at *
 generalize (⟨g, 0⟩ : Src) = z at *
 unfold vLay at hW
 clear hR
 obtain ⟨m, hm⟩ : ∃ m : Nat, (m : Int) = st.length - ov - 1:=⟨(st.length - ov - 1).toNat, by omega⟩
 rw [← hm] at hLa
 have hm1 : m≤10:=by omega
 repeat' (first|with_reducible (first|refine q_and ?_ ?_|exact True.intro|refine Red.o (by constructor) ?_|fail)|((with_reducible apply q_call);first|refine X_call [] (hFr) rfl rfl rfl rfl rfl rfl rfl rfl rfl rfl rfl rfl rfl ?_|refine X_pure (hP) rfl ?_|refine X_pure (hLa) rfl ?_)|with_reducible (first|refine W_seq ?_|refine W_block ?_)|refine Rex.o (by (with_reducible constructor);apply Eq.refl) ?_|omega|(dsimp only;omega))
 have eN : ((m : Int) + 1).toNat = m + 1:=by omega
 refine W_loopX (fun q : Grn=>SS [sI 3 oo, sC 9 (pB 0), sC 10 (pB 1), sC 11 (pB 2), sC 12 (pB 3), sI 13 x, sC 14 (.c (.arr 4 0 (m + 1) (m + 1))), sI 15 q.t, sI 39 (m + 1 : Nat), sI 40 q.i] [bLay L, bRte st ov, some (.cells [xS nm, xI ln, xI sp, xI ac, xI br]), some q.s.box, bInt q.g]) (fun q=>q.i≤m + 1∧q.s.ok∧q.g.length = m + 1∧-40≤q.t∧q.t≤60 + 50 * q.i) (fun q=>m + 1 - q.i) ⟨0, z, (x : Int) - 40, List.replicate (m + 1) 0⟩ _ (fun q : Grn=>SS [sI 3 oo, sC 9 (pB 0), sC 10 (pB 1), sC 11 (pB 2), sI 13 x, sC 14 (rInt q.g), sI 15 q.t] [bLay L, bRte st ov, some (.cells [xS nm, xI ln, xI sp, xI ac, xI br])]) (fun q=>q.g.length = m + 1∧-40≤q.t∧q.t≤700) ?_ ⟨by simp only; omega, hs0, by simp, by simp only; omega, by simp only; omega⟩ (KCl_block KCl_seq) ?_ ?_
 ·
  refine X_weak rfl rfl rfl ?_ ?_<;>repeat' (first|with_reducible (first|refine Wk.o (by constructor) ?_|refine q_and ?_ ?_|exact True.intro)|refine q_AgS rfl ?_ ?_|refine HLe.cells ?_ ?_|exact (rfl : known _ = _)|omega)
  all_goals first
   | rfl
   | (rw [eN]; done)
 ·rintro ⟨i, s, t, gs⟩ ⟨q1, q2, q3, q4, q5⟩
  simp only at q1 q2 q3 q4 q5
  clear hW hP hP2 hLa hFr
  by_cases hil : i < m + 1
  ·obtain ⟨k, s1, h1, d1, c1⟩:=next_ex s 40 q2 (by omega) (by omega)
   repeat' (first|with_reducible (first|refine q_and ?_ ?_|exact True.intro|refine Red.o (by constructor) ?_|assumption)|((with_reducible apply q_call);refine X_callF [3] (c1) rfl rfl rfl rfl rfl rfl rfl rfl rfl rfl rfl rfl rfl rfl ?_)|with_reducible (first|refine W_seq ?_|refine W_block ?_)|((with_reducible apply q_cond);refine X_cond rfl ?_ ?_;all_goals (intro hbq;(try simp only [bq] at hbq);(try (exfalso;omega))))|refine Rex.o (by (with_reducible constructor);apply Eq.refl) ?_|((with_reducible apply q_VOk);exact fun _=>⟨rfl,rfl⟩)|omega|(dsimp only;omega))
   ·rfl
   ·
    refine LoopX_n ((⟨i + 1, s1, t + k, gs.set (i : Int).toNat (t + k)⟩ : Grn)) ?_ (⟨by simp only; omega, h1, by simp only [List.length_set]; exact q3, by simp only; omega, by simp only; omega⟩) (by (try dsimp only); omega)
    refine X_weak rfl rfl rfl ?_ ?_<;>repeat' (first|with_reducible (first|refine Wk.o (by constructor) ?_|refine q_and ?_ ?_|exact True.intro)|refine q_AgS rfl ?_ ?_|refine HLe.cells ?_ ?_|exact (rfl : known _ = _)|with_reducible rfl)
    all_goals rfl
  ·
   repeat' (first|with_reducible (first|refine q_and ?_ ?_|exact True.intro|refine Red.o (by constructor) ?_|fail)|with_reducible (refine W_seq ?_)|((with_reducible apply q_cond);refine X_cond rfl ?_ ?_;all_goals (intro hbq;(try simp only [bq] at hbq);(try (exfalso;omega))))|refine Rex.o (by (with_reducible constructor);apply Eq.refl) ?_|fail)
   refine LoopX_x (⟨i, s, t, gs⟩ : Grn) rfl (X_frz 4 14 rfl rfl (by simp only; omega) (Nat.le_refl _) rfl ?_) ⟨q3, q4, by simp only; omega⟩
   simp only [List.set_cons_succ, List.set_cons_zero]
   refine X_weak rfl rfl rfl ?_ ?_<;>repeat' (first|with_reducible (first|refine Wk.o (by constructor) ?_|refine q_and ?_ ?_|exact True.intro)|refine q_AgS rfl ?_ ?_)
 ·rintro ⟨i, s, t, gs⟩ ⟨q3, q4, q5⟩
  simp only at q3 q4 q5
  obtain ⟨w, e, w1, w2, w3⟩:=hW x (t + y - 20) gs (by omega)
  have hS:=same_leg_ok w (by omega)
  repeat' (first|with_reducible (first|refine q_and ?_ ?_|exact True.intro|refine Red.o (by constructor) ?_|fail)|((with_reducible apply q_call);first|refine X_pure (hP2) rfl ?_|refine X_pure (w1) rfl ?_|refine X_pure (w2) rfl ?_|refine X_pure (hA) rfl ?_)|((with_reducible apply q_callG);refine X_pureG ((fun _=>hS)) rfl ?_ ?_)|with_reducible (refine W_seq ?_)|refine Rex.o (by (with_reducible constructor);apply Eq.refl) ?_|(intro (hgq : (_ : Bool) = true);(try simp only [bq] at hgq))|((with_reducible apply q_bt);simp only [bq])|(dsimp only;omega))
  all_goals first
   | rfl
   | (refine VEq.c (CEq.bool ?_); simp; done)
end Go.Proofs.YtalfibohepbhfaaGreat.Av
namespace Go.Proofs.YtalfibohepbhfaaGreat
open Go.RowKit
theorem W.MotionWalk (a0 : Option Addr) (len0 cap0 : Nat) (z0 : List Int) (a1 : Option Addr) (len1 cap1 : Nat) (z1 : List Int) (a2 : Int) (a3 : Int) (w : World) (w0 : Av.IsRowI w a0 len0 cap0 z0) (w1 : Av.IsRowI w a1 len1 cap1 z1) (w2 : (Lit.int .i64 a2).wf = true) (w3 : (Lit.int .i64 a3).wf = true) (s0 : ∀ x, a0 = some x → x.spot = none) (s1 : ∀ x, a1 = some x → x.spot = none) :
  Calls Tryz.prog 5 #[.slice a0 len0 cap0, .slice a1 len1 cap1, .int .i64 a2, .int .i64 a3] w fun e w'=>e = .returned (.bool true)∧Below w.heap.size w w':=by
 obtain ⟨h0, b0⟩:=Av.rowI_rep w0 s0
 obtain ⟨h1, b1⟩:=Av.rowI_rep w1 s1
 refine Av.law_calls (Av.walkLaw_ok _ _ a2 a3 b0 b1) w _ rfl (fun i hi hi' l=>?_) (fun x hx=>by
  simp at hx
  rcases hx with rfl | rfl | rfl | rfl<;>rfl)
 match i, hi with
 | 0, _=>exact h0 l
 | 1, _=>exact h1 l
 | 2, _=>exact .v _ rfl
 | 3, _=>exact .v _ rfl
end Go.Proofs.YtalfibohepbhfaaGreat
