/- What the claims use of their texts: AvEl, Rt1, Rt2, DynPlain, Ref6Plain, RefSqrt, BrA, Dy4, Dy5, Bl3, Bl5, Bl7, La1, Bl8, Bl9, Sm, Lb6, Wb6. -/
import Derived.Test.YtbpeakgihhdocaaPUE
namespace Go.Proofs.Ytbpeakgihhdocaa.Av
set_option linter.unusedVariables false
abbrev rOcc (l : List Occ) : SC := .row 3 fOcc vOcc ⟨0, 0, 0⟩ l
abbrev tOcc (l : List Occ) : SC := .tipr 3 fOcc vOcc (fun _ => none) ⟨0, 0, 0⟩ l
abbrev uOcc (l : List Occ) : SC := .tipr 3 fOcc vOcc mOcc ⟨0, 0, 0⟩ l
end Go.Proofs.Ytbpeakgihhdocaa.Av
namespace Go.Proofs.Ytbpeakgihhdocaa.Av
set_option linter.unusedVariables false
set_option linter.unusedSimpArgs false
set_option maxRecDepth 4000
set_option maxHeartbeats 4000000
theorem ends_ok (k : Lnk) : OkV Try.prog 103 [.agg (vLnk k)] [] (.tup [.agg [xI k.a, xI k.ae], .agg [xI k.b, xI k.be]]) [] := by
  refine X_fn mixedX Try.func103 rfl (by kernel_rfl) (Nat.le_of_ble_eq_true (by kernel_rfl)) (by kernel_rfl) rfl rfl (Nat.le_of_ble_eq_true rfl) rfl rfl ?_
  simp only [sl0, Nat.zero_add, Nat.reduceAdd]
  repeat' (first
    |with_reducible (first|refine q_and ?_ ?_|exact True.intro|exact TkEq.nil _|refine Red.o (by constructor) ?_|refine blockK_o' rfl ?_|refine LoopX_e' rfl ?_|assumption)
    |((with_reducible apply q_CI);intro hbq;(try simp only [bq] at hbq);(try (exfalso;omega)))
    |refine Rex.o (by (with_reducible constructor);apply Eq.refl) ?_
    |(intro (hgq : (_ : Bool) = true);(try simp only [bq] at hgq))
    |(intro (hgq : (_ : Bool) = false);(try simp only [bq] at hgq))
    |((with_reducible apply q_VOk);exact fun _ => ⟨rfl,rfl⟩)|(intro _;exact rfl)|((with_reducible apply q_CRB);kernel_rfl)|((with_reducible apply q_bt);simp only [bq])|((with_reducible apply q_eqN);rfl)|((with_reducible apply q_FE);exact rfl)|with_reducible (first|exact isByte_wrap _|exact isByte_nat _)|(simp only [hgq,bq];done)|omega|(dsimp only;omega))
  repeat' (first|with_reducible (first|refine Wk.o (by constructor) ?_|refine q_and ?_ ?_|exact True.intro)|refine VEq.c ?_|refine VEq.agg ?_|refine VEq.tup ?_|refine TkEq.cells ?_ ?_|refine TkEq.els ?_ ?_|refine SEqL.cons ?_ ?_|refine TEqL.agg ?_ ?_|refine CEq.rows ?_|refine CEq.int ?_|rfl|omega)
theorem has_ok (L : Lay) (hL : LayFits L) (s : Stp) : OkV Try.prog 102 [vLay L, vSt s] [] (vB (s.ok L && decide (layErr L = 0))) [] := by
  have hC := check_okV L hL
  unfold Stp.ok
  unfold vLay at hC ⊢
  refine X_fn mixedX Try.func102 rfl (by kernel_rfl) (Nat.le_of_ble_eq_true (by kernel_rfl)) (by kernel_rfl) rfl rfl (Nat.le_of_ble_eq_true rfl) rfl rfl ?_
  simp only [sl0, Nat.zero_add, Nat.reduceAdd]
  repeat' (first
    |with_reducible (first|refine q_and ?_ ?_|exact True.intro|exact TkEq.nil _|refine Red.o (by constructor) ?_|refine blockK_o' rfl ?_|refine LoopX_e' rfl ?_|assumption)
    |((with_reducible apply q_callG);refine X_pureG ((fun _ => hC)) rfl ?_ ?_)
    |((with_reducible apply q_CI);intro hbq;(try simp only [bq] at hbq);(try (exfalso;omega)))
    |refine Rex.o (by (with_reducible constructor);apply Eq.refl) ?_
    |(intro (hgq : (_ : Bool) = true);(try simp only [bq] at hgq))
    |(intro (hgq : (_ : Bool) = false);(try simp only [bq] at hgq))
    |((with_reducible apply q_VOk);exact fun _ => ⟨rfl,rfl⟩)|(intro _;exact rfl)|((with_reducible apply q_CRB);kernel_rfl)|((with_reducible apply q_bt);simp only [bq])|((with_reducible apply q_eqN);rfl)|((with_reducible apply q_FE);exact rfl)|with_reducible (first|exact isByte_wrap _|exact isByte_nat _)|(simp only [hgq,bq];done)|omega|(dsimp only;omega))
  repeat' (first|with_reducible (first|refine Wk.o (by constructor) ?_|refine q_and ?_ ?_|exact True.intro)|refine VEq.c ?_|refine VEq.agg ?_|refine VEq.tup ?_|refine TkEq.cells ?_ ?_|refine TkEq.els ?_ ?_|refine SEqL.cons ?_ ?_|refine TEqL.agg ?_ ?_|refine CEq.rows ?_|refine CEq.int ?_|rfl|omega)
theorem no2 {a b c d : Int} (h : ¬ a = b ∨ ¬ c = d) : ¬ (b = a ∧ d = c) := by omega
theorem hops_ok (L : Lay) (hL : LayFits L) (s : Stp) (h : s.ok L = true) (hv : layErr L = 0) : OkV Try.prog 88 [vLay L, vSt s] [] (.c (rHop (hopsL L s))) [] := by
  have hH := has_ok L hL s
  rw [h, hv] at hH
  have hlen : L.lnks.length ≤ 192 := (valid_of hv).n4
  refine X_fn mixedX Try.func88 rfl (by kernel_rfl) (Nat.le_of_ble_eq_true (by kernel_rfl)) (by kernel_rfl) rfl rfl (Nat.le_of_ble_eq_true rfl) rfl rfl ?_
  simp only [sl0, Nat.zero_add, Nat.reduceAdd]
  repeat' (first
    |with_reducible (first|refine q_and ?_ ?_|exact True.intro|exact TkEq.nil _|refine Red.o (by constructor) ?_|refine blockK_o' rfl ?_|refine LoopX_e' rfl ?_|assumption)
    |((with_reducible apply q_call);refine X_pure (hH) rfl ?_)
    |((with_reducible apply q_CI);intro hbq;(try simp only [bq] at hbq);(try (exfalso;omega)))
    |refine Rex.o (by (with_reducible constructor);apply Eq.refl) ?_
    |(intro (hgq : (_ : Bool) = true);(try simp only [bq] at hgq))
    |(intro (hgq : (_ : Bool) = false);(try simp only [bq] at hgq))
    |((with_reducible apply q_VOk);exact fun _ => ⟨rfl,rfl⟩)|(intro _;exact rfl)|((with_reducible apply q_CRB);kernel_rfl)|((with_reducible apply q_bt);simp only [bq])|((with_reducible apply q_eqN);rfl)|((with_reducible apply q_FE);exact rfl)|with_reducible (first|exact isByte_wrap _|exact isByte_nat _)|(simp only [hgq,bq];done)|omega|(dsimp only;omega))
  all_goals clear hH
  · have ho : outE s.dir = 0 := by unfold outE; (first | rw [if_pos hbq] | rw [if_neg hbq])
    refine W_loopS (fun i : Nat => SS [sC 5 (pB 2), sC 6 (tHop ((L.lnks.take i).filterMap (hopK s))), sC 23 (rLnk L.lnks), sI 24 L.lnks.length, sI 25 i] [none, none, some (.cells [xI s.sec, xI 0])]) (fun i => i ≤ L.lnks.length) (fun i => L.lnks.length - i) 0 ?_ (by omega) ?_
    ·
      refine X_weak rfl rfl rfl ?_ ?_ <;> repeat' (first|with_reducible (first|refine Wk.o (by constructor) ?_|refine q_and ?_ ?_|exact True.intro)|refine q_AgS rfl ?_ ?_|exact CLe.nil_tipS|exact CLe.nil_rowS|refine HLe.cells ?_ ?_|refine HLe.els ?_ ?_|refine SLe.cons ?_ ?_|exact (rfl : known _ = _)|with_reducible rfl|omega)
    · intro i hi
      have hlt : ((L.lnks.take i).filterMap (hopK s)).length ≤ i := Nat.le_trans (List.length_filterMap_le _ _) (by rw [List.length_take]; omega)
      have hE := ends_ok (L.lnks.getD (i : Int).toNat lnk0)
      have h1 := enter_ok (L.lnks.getD (i : Int).toNat lnk0).b (L.lnks.getD (i : Int).toNat lnk0).be
      have h2 := enter_ok (L.lnks.getD (i : Int).toNat lnk0).a (L.lnks.getD (i : Int).toNat lnk0).ae
      repeat' (first
        |with_reducible (first|refine q_and ?_ ?_|exact True.intro|exact TkEq.nil _|refine Red.o (by constructor) ?_|refine blockK_o' rfl ?_|refine LoopX_e' rfl ?_|assumption)
        |((with_reducible apply q_call);first|refine X_pure (hE) rfl ?_|refine X_pure (h1) rfl ?_|refine X_pure (h2) rfl ?_)
        |((with_reducible apply q_CI);intro hbq;(try simp only [bq] at hbq);(try (exfalso;omega)))
        |refine Rex.o (by (with_reducible constructor);apply Eq.refl) ?_
        |(intro (hgq : (_ : Bool) = true);(try simp only [bq] at hgq))
        |(intro (hgq : (_ : Bool) = false);(try simp only [bq] at hgq))
        |((with_reducible apply q_VOk);exact fun _ => ⟨rfl,rfl⟩)|(intro _;exact rfl)|((with_reducible apply q_CRB);kernel_rfl)|((with_reducible apply q_bt);simp only [bq])|((with_reducible apply q_eqN);rfl)|((with_reducible apply q_FE);exact rfl)|with_reducible (first|exact isByte_wrap _|exact isByte_nat _)|(simp only [hgq,bq];done)|omega|(dsimp only;omega))
      · have e : hopK s (L.lnks.getD i lnk0) = some ⟨(L.lnks.getD i lnk0).b, dirE (L.lnks.getD i lnk0).be, (L.lnks.getD i lnk0).pt, (L.lnks.getD i lnk0).ps⟩ := if_pos ⟨hbq.1.symm, by rw [ho]; exact hbq.2.symm⟩
        refine LoopK_n (i + 1) ?_ ?_ ?_
        rotate_left
        · (try dsimp only); omega
        · (try dsimp only); omega
        refine X_weak rfl rfl rfl ?_ ?_ <;> repeat' (first|with_reducible (first|refine Wk.o (by constructor) ?_|refine q_and ?_ ?_|exact True.intro)|refine q_AgS rfl ?_ ?_|exact CLe.nil_tipS|exact CLe.nil_rowS|refine HLe.cells ?_ ?_|refine HLe.els ?_ ?_|refine SLe.cons ?_ ?_|exact (rfl : known _ = _)|with_reducible rfl|omega)
        all_goals (rw [hopsL_take L s i (by omega), e]; simp [fHop, fI])
      · rename_i hn
        have e : hopK s (L.lnks.getD i lnk0) = some ⟨(L.lnks.getD i lnk0).a, dirE (L.lnks.getD i lnk0).ae, (L.lnks.getD i lnk0).pt, (L.lnks.getD i lnk0).ps⟩ := (if_neg (by rw [ho]; exact no2 hn)).trans (if_pos ⟨hbq.1.symm, by rw [ho]; exact hbq.2.symm⟩)
        refine LoopK_n (i + 1) ?_ ?_ ?_
        rotate_left
        · (try dsimp only); omega
        · (try dsimp only); omega
        refine X_weak rfl rfl rfl ?_ ?_ <;> repeat' (first|with_reducible (first|refine Wk.o (by constructor) ?_|refine q_and ?_ ?_|exact True.intro)|refine q_AgS rfl ?_ ?_|exact CLe.nil_tipS|exact CLe.nil_rowS|refine HLe.cells ?_ ?_|refine HLe.els ?_ ?_|refine SLe.cons ?_ ?_|exact (rfl : known _ = _)|with_reducible rfl|omega)
        all_goals (rw [hopsL_take L s i (by omega), e]; simp [fHop, fI])
      · rename_i hn
        have e : hopK s (L.lnks.getD i lnk0) = none := (if_neg (by rw [ho]; exact no2 hn)).trans (if_neg (by rw [ho]; exact no2 hbq))
        refine LoopK_n (i + 1) ?_ ?_ ?_
        rotate_left
        · (try dsimp only); omega
        · (try dsimp only); omega
        refine X_weak rfl rfl rfl ?_ ?_ <;> repeat' (first|with_reducible (first|refine Wk.o (by constructor) ?_|refine q_and ?_ ?_|exact True.intro)|refine q_AgS rfl ?_ ?_|exact CLe.nil_tipS|exact CLe.nil_rowS|refine HLe.cells ?_ ?_|refine HLe.els ?_ ?_|refine SLe.cons ?_ ?_|exact (rfl : known _ = _)|with_reducible rfl|omega)
        all_goals (rw [hopsL_take L s i (by omega), e]; simp)
      · have hie : i = L.lnks.length := by omega
        subst hie
        repeat' (first|with_reducible (first|refine Wk.o (by constructor) ?_|refine q_and ?_ ?_|exact True.intro)|refine VEq.c ?_|refine VEq.agg ?_|refine VEq.tup ?_|refine TkEq.cells ?_ ?_|refine TkEq.els ?_ ?_|refine SEqL.cons ?_ ?_|refine TEqL.agg ?_ ?_|refine CEq.rows ?_|refine CEq.int ?_|rfl|omega)
        all_goals (unfold hopsL; rw [List.take_length])
  · have ho : outE s.dir = 1 := by unfold outE; (first | rw [if_pos hbq] | rw [if_neg hbq])
    refine W_loopS (fun i : Nat => SS [sC 5 (pB 2), sC 6 (tHop ((L.lnks.take i).filterMap (hopK s))), sC 23 (rLnk L.lnks), sI 24 L.lnks.length, sI 25 i] [none, none, some (.cells [xI s.sec, xI 1])]) (fun i => i ≤ L.lnks.length) (fun i => L.lnks.length - i) 0 ?_ (by omega) ?_
    ·
      refine X_weak rfl rfl rfl ?_ ?_ <;> repeat' (first|with_reducible (first|refine Wk.o (by constructor) ?_|refine q_and ?_ ?_|exact True.intro)|refine q_AgS rfl ?_ ?_|exact CLe.nil_tipS|exact CLe.nil_rowS|refine HLe.cells ?_ ?_|refine HLe.els ?_ ?_|refine SLe.cons ?_ ?_|exact (rfl : known _ = _)|with_reducible rfl|omega)
    · intro i hi
      have hlt : ((L.lnks.take i).filterMap (hopK s)).length ≤ i := Nat.le_trans (List.length_filterMap_le _ _) (by rw [List.length_take]; omega)
      have hE := ends_ok (L.lnks.getD (i : Int).toNat lnk0)
      have h1 := enter_ok (L.lnks.getD (i : Int).toNat lnk0).b (L.lnks.getD (i : Int).toNat lnk0).be
      have h2 := enter_ok (L.lnks.getD (i : Int).toNat lnk0).a (L.lnks.getD (i : Int).toNat lnk0).ae
      repeat' (first
        |with_reducible (first|refine q_and ?_ ?_|exact True.intro|exact TkEq.nil _|refine Red.o (by constructor) ?_|refine blockK_o' rfl ?_|refine LoopX_e' rfl ?_|assumption)
        |((with_reducible apply q_call);first|refine X_pure (hE) rfl ?_|refine X_pure (h1) rfl ?_|refine X_pure (h2) rfl ?_)
        |((with_reducible apply q_CI);intro hbq;(try simp only [bq] at hbq);(try (exfalso;omega)))
        |refine Rex.o (by (with_reducible constructor);apply Eq.refl) ?_
        |(intro (hgq : (_ : Bool) = true);(try simp only [bq] at hgq))
        |(intro (hgq : (_ : Bool) = false);(try simp only [bq] at hgq))
        |((with_reducible apply q_VOk);exact fun _ => ⟨rfl,rfl⟩)|(intro _;exact rfl)|((with_reducible apply q_CRB);kernel_rfl)|((with_reducible apply q_bt);simp only [bq])|((with_reducible apply q_eqN);rfl)|((with_reducible apply q_FE);exact rfl)|with_reducible (first|exact isByte_wrap _|exact isByte_nat _)|(simp only [hgq,bq];done)|omega|(dsimp only;omega))
      · have e : hopK s (L.lnks.getD i lnk0) = some ⟨(L.lnks.getD i lnk0).b, dirE (L.lnks.getD i lnk0).be, (L.lnks.getD i lnk0).pt, (L.lnks.getD i lnk0).ps⟩ := if_pos ⟨hbq.1.symm, by rw [ho]; exact hbq.2.symm⟩
        refine LoopK_n (i + 1) ?_ ?_ ?_
        rotate_left
        · (try dsimp only); omega
        · (try dsimp only); omega
        refine X_weak rfl rfl rfl ?_ ?_ <;> repeat' (first|with_reducible (first|refine Wk.o (by constructor) ?_|refine q_and ?_ ?_|exact True.intro)|refine q_AgS rfl ?_ ?_|exact CLe.nil_tipS|exact CLe.nil_rowS|refine HLe.cells ?_ ?_|refine HLe.els ?_ ?_|refine SLe.cons ?_ ?_|exact (rfl : known _ = _)|with_reducible rfl|omega)
        all_goals (rw [hopsL_take L s i (by omega), e]; simp [fHop, fI])
      · rename_i hn
        have e : hopK s (L.lnks.getD i lnk0) = some ⟨(L.lnks.getD i lnk0).a, dirE (L.lnks.getD i lnk0).ae, (L.lnks.getD i lnk0).pt, (L.lnks.getD i lnk0).ps⟩ := (if_neg (by rw [ho]; exact no2 hn)).trans (if_pos ⟨hbq.1.symm, by rw [ho]; exact hbq.2.symm⟩)
        refine LoopK_n (i + 1) ?_ ?_ ?_
        rotate_left
        · (try dsimp only); omega
        · (try dsimp only); omega
        refine X_weak rfl rfl rfl ?_ ?_ <;> repeat' (first|with_reducible (first|refine Wk.o (by constructor) ?_|refine q_and ?_ ?_|exact True.intro)|refine q_AgS rfl ?_ ?_|exact CLe.nil_tipS|exact CLe.nil_rowS|refine HLe.cells ?_ ?_|refine HLe.els ?_ ?_|refine SLe.cons ?_ ?_|exact (rfl : known _ = _)|with_reducible rfl|omega)
        all_goals (rw [hopsL_take L s i (by omega), e]; simp [fHop, fI])
      · rename_i hn
        have e : hopK s (L.lnks.getD i lnk0) = none := (if_neg (by rw [ho]; exact no2 hn)).trans (if_neg (by rw [ho]; exact no2 hbq))
        refine LoopK_n (i + 1) ?_ ?_ ?_
        rotate_left
        · (try dsimp only); omega
        · (try dsimp only); omega
        refine X_weak rfl rfl rfl ?_ ?_ <;> repeat' (first|with_reducible (first|refine Wk.o (by constructor) ?_|refine q_and ?_ ?_|exact True.intro)|refine q_AgS rfl ?_ ?_|exact CLe.nil_tipS|exact CLe.nil_rowS|refine HLe.cells ?_ ?_|refine HLe.els ?_ ?_|refine SLe.cons ?_ ?_|exact (rfl : known _ = _)|with_reducible rfl|omega)
        all_goals (rw [hopsL_take L s i (by omega), e]; simp)
      · have hie : i = L.lnks.length := by omega
        subst hie
        repeat' (first|with_reducible (first|refine Wk.o (by constructor) ?_|refine q_and ?_ ?_|exact True.intro)|refine VEq.c ?_|refine VEq.agg ?_|refine VEq.tup ?_|refine TkEq.cells ?_ ?_|refine TkEq.els ?_ ?_|refine SEqL.cons ?_ ?_|refine TEqL.agg ?_ ?_|refine CEq.rows ?_|refine CEq.int ?_|rfl|omega)
        all_goals (unfold hopsL; rw [List.take_length])
end Go.Proofs.Ytbpeakgihhdocaa.Av
namespace Go.Proofs.Ytbpeakgihhdocaa.Av
set_option linter.unusedVariables false
set_option linter.unusedSimpArgs false
set_option maxRecDepth 4000
set_option maxHeartbeats 4000000
theorem between_ok (L : Lay) (hL : LayFits L) (hv : layErr L = 0) (a b : Stp) (ha : a.ok L = true) : OkV Try.prog 66 [vLay L, vSt a, vSt b] [] (vI (((joinL L a b).map Hop.pt).getD (-1))) [] := by
  have hH := hops_ok L hL a ha hv
  have hlen : (hopsL L a).length ≤ 192 := Nat.le_trans (List.length_filterMap_le _ _) (valid_of hv).n4
  unfold joinL
  generalize hopsL L a = hs at hH hlen
  unfold vLay at hH ⊢
  refine X_fn mixedX Try.func66 rfl (by kernel_rfl) (Nat.le_of_ble_eq_true (by kernel_rfl)) (by kernel_rfl) rfl rfl (Nat.le_of_ble_eq_true rfl) rfl rfl ?_
  simp only [sl0, Nat.zero_add, Nat.reduceAdd]
  repeat' (first
    |with_reducible (first|refine q_and ?_ ?_|exact True.intro|exact TkEq.nil _|refine Red.o (by constructor) ?_|refine blockK_o' rfl ?_|refine LoopX_e' rfl ?_|assumption)
    |((with_reducible apply q_call);refine X_pure (hH) rfl ?_)
    |((with_reducible apply q_CI);intro hbq;(try simp only [bq] at hbq);(try (exfalso;omega)))
    |refine Rex.o (by (with_reducible constructor);apply Eq.refl) ?_
    |(intro (hgq : (_ : Bool) = true);(try simp only [bq] at hgq))
    |(intro (hgq : (_ : Bool) = false);(try simp only [bq] at hgq))
    |((with_reducible apply q_VOk);exact fun _ => ⟨rfl,rfl⟩)|(intro _;exact rfl)|((with_reducible apply q_CRB);kernel_rfl)|((with_reducible apply q_bt);simp only [bq])|((with_reducible apply q_eqN);rfl)|((with_reducible apply q_FE);exact rfl)|with_reducible (first|exact isByte_wrap _|exact isByte_nat _)|(simp only [hgq,bq];done)|omega|(dsimp only;omega))
  refine W_loopS (fun i : Nat => SS [sC 5 (pB 2), sC 11 (rHop hs), sI 12 hs.length, sI 13 i] [none, none, some (.cells [xI b.sec, xI b.dir])]) (fun i => i ≤ hs.length ∧ ∀ j, j < i → toB b (hs.getD j ⟨0, 0, 0, 0⟩) = false) (fun i => hs.length - i) 0 ?_ ⟨by omega, fun j hj => by omega⟩ ?_
  ·
    refine X_weak rfl rfl rfl ?_ ?_ <;> repeat' (first|with_reducible (first|refine Wk.o (by constructor) ?_|refine q_and ?_ ?_|exact True.intro)|refine q_AgS rfl ?_ ?_|exact CLe.nil_tipS|exact CLe.nil_rowS|refine HLe.cells ?_ ?_|refine HLe.els ?_ ?_|refine SLe.cons ?_ ?_|exact (rfl : known _ = _)|with_reducible rfl|omega)
  · intro i hi
    obtain ⟨hi, hno⟩ := hi
    repeat' (first
      |with_reducible (first|refine q_and ?_ ?_|exact True.intro|exact TkEq.nil _|refine Red.o (by constructor) ?_|refine blockK_o' rfl ?_|refine LoopX_e' rfl ?_|assumption)
      |((with_reducible apply q_CI);intro hbq;(try simp only [bq] at hbq);(try (exfalso;omega)))
      |refine Rex.o (by (with_reducible constructor);apply Eq.refl) ?_
      |(intro (hgq : (_ : Bool) = true);(try simp only [bq] at hgq))
      |(intro (hgq : (_ : Bool) = false);(try simp only [bq] at hgq))
      |((with_reducible apply q_VOk);exact fun _ => ⟨rfl,rfl⟩)|(intro _;exact rfl)|((with_reducible apply q_CRB);kernel_rfl)|((with_reducible apply q_bt);simp only [bq])|((with_reducible apply q_eqN);rfl)|((with_reducible apply q_FE);exact rfl)|with_reducible (first|exact isByte_wrap _|exact isByte_nat _)|(simp only [hgq,bq];done)|omega|(dsimp only;omega))
    · have hf := find_at (p := toB b) (d := ⟨0, 0, 0, 0⟩) (l := hs) (i := i) (by omega) (by unfold toB; simp only [Bool.and_eq_true, decide_eq_true_eq]; exact hbq) hno
      rw [hf]
      rfl
    ·
      refine LoopK_n (i + 1) ?_ (⟨by omega, upto_succ hno (by unfold toB; simp only [Bool.and_eq_false_iff, decide_eq_false_iff_not]; exact hbq)⟩) (by (try dsimp only); omega)
      refine X_weak rfl rfl rfl ?_ ?_ <;> repeat' (first|with_reducible (first|refine Wk.o (by constructor) ?_|refine q_and ?_ ?_|exact True.intro)|refine q_AgS rfl ?_ ?_|exact CLe.nil_tipS|exact CLe.nil_rowS|refine HLe.cells ?_ ?_|refine HLe.els ?_ ?_|refine SLe.cons ?_ ?_|exact (rfl : known _ = _)|with_reducible rfl|omega)
    · have hf := find_no (p := toB b) (d := ⟨0, 0, 0, 0⟩) (l := hs) (fun j hj => hno j (by omega))
      rw [hf]
      rfl
end Go.Proofs.Ytbpeakgihhdocaa.Av
namespace Go.Proofs.Ytbpeakgihhdocaa
theorem limTo_zero (cs : List (Int × Int)) (lo : Nat) (sp : Int) : limTo cs lo 0 sp = sp := by simp [limTo]
theorem limTo_succ (cs : List (Int × Int)) (lo j : Nat) (sp : Int) (h : lo + j < cs.length) : limTo cs lo (j + 1) sp = min (limTo cs lo j sp) (cs[lo + j]).1 := by
  unfold limTo
  rw [List.take_succ_eq_append_getElem (by simp; omega), List.foldl_append]
  simp
section
variable {cs : List (Int × Int)} {start l : Nat} {sp ac br : Int} (h1 : 1000 ≤ sp) (h2 : sp ≤ 100000) (h3 : 100 ≤ ac) (h4 : ac ≤ 2000) (h5 : 100 ≤ br) (h6 : br ≤ 2000) (h : cs.all cellB = true)
include h1 h2 h3 h4 h5 h6 h
end
end Go.Proofs.Ytbpeakgihhdocaa
namespace Go.Proofs.Ytbpeakgihhdocaa
def lsq (cs : List (Int × Int)) (start l : Nat) (sp : Int) (j : Nat) : Int :=
  min (limitOf cs (start + j - 1) l sp) (limitOf cs (start + j) l sp) * min (limitOf cs (start + j - 1) l sp) (limitOf cs (start + j) l sp)
def iniW (cs : List (Int × Int)) (start l : Nat) (sp : Int) (k j : Nat) : Int := if 0 < j ∧ j < k then lsq cs start l sp j else 0
def fwW (cs : List (Int × Int)) (start l : Nat) (sp ac : Int) (j : Nat) : Int := if j < cs.length - start then fwd cs start l sp ac j else 0
def rate (g ac : Int) : Int := if 0 < g then max 50 (ac - 10 * g) else ac
def rateB (g br : Int) : Int := if g < 0 then max 50 (br + 10 * g) else br
theorem gain_rate (g ac : Int) : gainOf g ac = 20000 * rate g ac := rfl
theorem loss_rate (g br : Int) : lossOf g br = 20000 * rateB g br := rfl
section
variable {cs : List (Int × Int)} {start l : Nat} {sp ac br : Int} (h1 : 1000 ≤ sp) (h2 : sp ≤ 100000) (h3 : 100 ≤ ac) (h4 : ac ≤ 2000) (h5 : 100 ≤ br) (h6 : br ≤ 2000) (h : cs.all cellB = true)
include h1 h2 h in
theorem lsq_range (j : Nat) : 1000000 ≤ lsq cs start l sp j ∧ lsq cs start l sp j ≤ 10000000000 := by
  have a := limit_range cs (start + j - 1) l sp h1 h
  have b := limit_range cs (start + j) l sp h1 h
  exact sq_range _ _ a.1 (by omega) b.1 (by omega)
include h1 h2 h in
theorem ini_range (k j : Nat) : 0 ≤ iniW cs start l sp k j ∧ iniW cs start l sp k j ≤ 10000000000 := by
  have := lsq_range (start := start) (l := l) h1 h2 h j
  unfold iniW
  split <;> omega
include h1 h2 h3 h4 h in
theorem fwW_range (j : Nat) : 0 ≤ fwW cs start l sp ac j ∧ fwW cs start l sp ac j ≤ 10000000000 := by
  have := fwd_range cs start l sp ac h1 h2 h3 h4 h j
  unfold fwW
  split <;> omega
include h1 h2 h3 h4 h in
theorem fwW_step (k : Nat) (hk : k < cs.length - start) : min (iniW cs start l sp (cs.length - start) (k + 1)) (fwW cs start l sp ac k + gainOf (cs.getD (start + k) (0, 0)).2 ac) = fwW cs start l sp ac (k + 1) := by
  have hf := (fwW_range (start := start) (l := l) h1 h2 h3 h4 h k).1
  have hg := (gain_range (cs.getD (start + k) (0, 0)).2 ac h3 h4).1
  by_cases e : k + 1 < cs.length - start
  · have e1 : fwW cs start l sp ac (k + 1) = fwd cs start l sp ac (k + 1) := if_pos e
    have e2 : fwW cs start l sp ac k = fwd cs start l sp ac k := if_pos hk
    have e3 : iniW cs start l sp (cs.length - start) (k + 1) = lsq cs start l sp (k + 1) := if_pos ⟨by omega, e⟩
    rw [e1, e2, e3]
    simp only [fwd, lsq]
    rw [show start + (k + 1) - 1 = start + k by omega, show start + (k + 1) = start + k + 1 by omega]
  · have e1 : fwW cs start l sp ac (k + 1) = 0 := if_neg e
    have e3 : iniW cs start l sp (cs.length - start) (k + 1) = 0 := if_neg (by omega)
    rw [e1, e3]
    omega
include h1 h2 h3 h4 h5 h6 h in
theorem sqW_step (k : Nat) (hk : k < cs.length - start) : min (fwW cs start l sp ac k) (sqW cs start l sp ac br (k + 1) + lossOf (cs.getD (start + k) (0, 0)).2 br) = sqW cs start l sp ac br k := by
  have hs := (sqW_range (start := start) (l := l) h1 h2 h3 h4 h5 h6 h (k + 1)).1
  have hg := (loss_range (cs.getD (start + k) (0, 0)).2 br h5 h6).1
  have e2 : fwW cs start l sp ac k = fwd cs start l sp ac k := if_pos hk
  by_cases h0 : k = 0
  · subst h0
    have e3 : fwd cs start l sp ac 0 = 0 := rfl
    rw [sqW_zero, e2, e3]; omega
  · rw [sqW_mid k (by omega) hk, e2]
end
end Go.Proofs.Ytbpeakgihhdocaa
namespace Go.Proofs.Ytbpeakgihhdocaa
open Go.RowKit
set_option linter.unusedVariables false
theorem sq_bound (m : Nat) (h : m ≤ 3037000499) : m * m ≤ 9223372030926249001 := Nat.mul_le_mul h h
theorem refSqrt_any (n : Nat) (w : World) (hn : (n : Int) ≤ 9223372036854775807) :
    Calls Try.prog 62 #[.int .i64 n] w fun e w' => e = .returned (.int .i64 (Pl.isqrt n : Nat)) ∧ w = w' := by
  by_cases h0 : n = 0
  · subst h0
    go_enter Try.func62, Try.ntmps62
    go_wp2
    go_ret
    exact ⟨rfl, rfl⟩
  · have hd : decide ((n : Int) ≤ 0) = false := by simp; omega
    go_enter Try.func62, Try.ntmps62
    go_wp2
    clear hd
    go_loop [3, 4] (fun u v => ∃ lo hi : Nat, lo ≤ hi ∧ hi ≤ 3037000499 ∧ Hid (lo * lo ≤ n ∧ n < (hi + 1) * (hi + 1)) ∧ u = .int .i64 lo ∧ v = .int .i64 hi) (fun u v => (intOf v).toNat - (intOf u).toNat)
    case atStart => exact ⟨0, 3037000499, by omega, by omega, Lib.hid (by omega), rfl, rfl⟩
    case round =>
      obtain ⟨lo, hi, h1, h2, Hn, rfl, rfl⟩ := hrel
      by_cases hlt : lo < hi
      · obtain ⟨m, Hm⟩ : ∃ m, Hid ((lo + hi + 1) / 2 = m) := ⟨_, Lib.hid rfl⟩
        have hm1 : lo < m := by have := Hm.out; omega
        have hm2 : m ≤ hi := by have := Hm.out; omega
        obtain ⟨q, Hq⟩ : ∃ q, Hid (m * m = q) := ⟨_, Lib.hid rfl⟩
        have hq : q ≤ 9223372030926249001 := by rw [← Hq.out]; exact sq_bound m (by omega)
        have hqi : (m : Int) * m = (q : Int) := by rw [← Hq.out]; simp
        have e1 : ((lo : Int) + hi + 1) / 2 = (m : Int) := by have := Hm.out; omega
        have e2 : IntKind.i64.wrap ((m : Int) * m) = (q : Int) := by rw [hqi, IntKind.wrap_i64]; omega
        have e3 : Int.tdiv ((lo : Int) + hi + 1) 2 = (m : Int) := by rw [Int.tdiv_eq_ediv_of_nonneg (by omega)]; exact e1
        by_cases hle : q ≤ n
        · go_wp2
          go_round
          case rel => exact ⟨m, hi, hm2, h2, Lib.hid ⟨by rw [Hq.out]; exact hle, Hn.out.2⟩, rfl, rfl⟩
          case measure => simp [intOf]; omega
        · have hd : decide ((q : Int) ≤ (n : Int)) = false := by simp; omega
          go_wp2
          go_round
          case rel => exact ⟨lo, m - 1, by omega, by omega, Lib.hid ⟨Hn.out.1, by rw [show m - 1 + 1 = m by omega, Hq.out]; omega⟩, rfl, by go_num⟩
          case measure => simp [intOf]; omega
      · obtain rfl : lo = hi := by omega
        go_wp2
        go_ret
        exact ⟨ret_int (by rw [Pl.isqrt_unique n lo Hn.out.1 Hn.out.2]), rfl⟩
end Go.Proofs.Ytbpeakgihhdocaa
namespace Go.Proofs.Ytbpeakgihhdocaa.Av
open Go.RowKit
set_option linter.unusedVariables false
set_option linter.unusedSimpArgs false
theorem refCeil_ok (a b : Int) (ha : -9223372036854775808 ≤ a ∧ a ≤ 9223372036854775807) (hb : 1 ≤ b ∧ b ≤ 9223372036854775807) : Ok Try.prog 13 [i64 a, i64 b] [] (i64 (Pl.cdiv a b)) [] := by
  refine ok_old _ Try.func13 (by kernel_rfl) (by kernel_rfl) rfl rfl fun w κ ρ vals hv hr => ⟨_, plain_i, ?_⟩
  have hv : vals.size = 2 := hv
  have h0 : vals[0] = .int .i64 a := (repF_v.1 (hr 0 (by simp) (by omega) (.slot 0))).1
  have h1 : vals[1] = .int .i64 b := (repF_v.1 (hr 1 (by simp) (by omega) (.slot 0))).1
  rw [two_arg hv, h0, h1]
  exact (refCeil_any a b w ha.1 ha.2 hb.1 hb.2).mono fun e w' ⟨h1, h2⟩ => ⟨h1, by subst h2; exact Below.refl _ _⟩
theorem refCeil_okV (a b : Int) (ha : -9223372036854775808 ≤ a ∧ a ≤ 9223372036854775807) (hb : 1 ≤ b ∧ b ≤ 9223372036854775807) : OkV Try.prog 13 [.c (xI a), .c (xI b)] [] (vI (Pl.cdiv a b)) [] := refCeil_ok a b ha hb
theorem floorDiv_ok (a b : Int) (ha : -9223372036854775808 ≤ a ∧ a ≤ 9223372036854775807) (hb : 1 ≤ b ∧ b ≤ 9223372036854775807) : Ok Try.prog 87 [i64 a, i64 b] [] (.tup [.c (.f (.v (.int .i64 (HDiv.hDiv a b)))), .c (.f (.v (.int .i64 0)))]) [] := by
  refine ok_old _ Try.func87 (by kernel_rfl) (by kernel_rfl) rfl rfl fun w κ ρ vals hv hr => ⟨_, plain_2 plain_i plain_i rfl rfl, ?_⟩
  have hv : vals.size = 2 := hv
  have h0 : vals[0] = .int .i64 a := (repF_v.1 (hr 0 (by simp) (by omega) (.slot 0))).1
  have h1 : vals[1] = .int .i64 b := (repF_v.1 (hr 1 (by simp) (by omega) (.slot 0))).1
  rw [two_arg hv, h0, h1]
  exact (floorDiv_any a b w ha.1 ha.2 hb.1 hb.2).mono fun e w' ⟨h1, h2⟩ => ⟨h1, by subst h2; exact Below.refl _ _⟩
theorem floorDiv_okV (a b : Int) (ha : -9223372036854775808 ≤ a ∧ a ≤ 9223372036854775807) (hb : 1 ≤ b ∧ b ≤ 9223372036854775807) : OkV Try.prog 87 [.c (xI a), .c (xI b)] [] (.tup [.c (xI (HDiv.hDiv a b)), .c (xI 0)]) [] := floorDiv_ok a b ha hb
theorem refSqrt_ok (a : Int) (ha : 0 ≤ a ∧ a ≤ 9223372036854775807) : Ok Try.prog 62 [i64 a] [] (i64 (Pl.isqrt a.toNat : Nat)) [] := by
  refine ok_old _ Try.func62 (by kernel_rfl) (by kernel_rfl) rfl rfl fun w κ ρ vals hv hr => ⟨_, plain_i, ?_⟩
  have hv : vals.size = 1 := hv
  have h0 : vals[0] = .int .i64 a := (repF_v.1 (hr 0 (by simp) (by omega) (.slot 0))).1
  rw [one_arg hv, h0]
  obtain ⟨m, rfl⟩ := Int.eq_ofNat_of_zero_le ha.1
  exact (refSqrt_any m w ha.2).mono fun e w' ⟨h1, h2⟩ => ⟨h1, by subst h2; exact Below.refl _ _⟩
theorem refSqrt_okV (a : Int) (ha : 0 ≤ a ∧ a ≤ 9223372036854775807) : OkV Try.prog 62 [.c (xI a)] [] (vI (Pl.isqrt a.toNat : Nat)) [] := refSqrt_ok a ha
end Go.Proofs.Ytbpeakgihhdocaa.Av
namespace Go.Proofs.Ytbpeakgihhdocaa.Av
set_option linter.unusedVariables false
set_option linter.unusedSimpArgs false
set_option maxRecDepth 4000
set_option maxHeartbeats 4000000
theorem refBad_ok (cs : List (Int × Int)) (start : Int) (nm : ByteArray) (l sp ac br : Int) (hl : cs.length ≤ 4611686018427387904) : OkV Try.prog 58 [.c (rCell cs), .c (xI start), vS5 nm l sp ac br] [] (vI (badRun cs start l sp ac br)) [] := by
  have hC := chkStock_ok nm l sp ac br
  refine X_fn mixedX Try.func58 rfl (by kernel_rfl) (Nat.le_of_ble_eq_true (by kernel_rfl)) (by kernel_rfl) rfl rfl (Nat.le_of_ble_eq_true rfl) rfl rfl ?_
  simp only [sl0, Nat.zero_add, Nat.reduceAdd]
  repeat' (first
    |with_reducible (first|refine q_and ?_ ?_|exact True.intro|exact TkEq.nil _|refine Red.o (by constructor) ?_|refine blockK_o' rfl ?_|refine LoopX_e' rfl ?_|assumption)
    |((with_reducible apply q_call);refine X_pure (hC) rfl ?_)
    |((with_reducible apply q_CI);intro hbq;(try simp only [bq] at hbq);(try (exfalso;omega)))
    |refine Rex.o (by (with_reducible constructor);apply Eq.refl) ?_
    |(intro (hgq : (_ : Bool) = true);(try simp only [bq] at hgq))
    |(intro (hgq : (_ : Bool) = false);(try simp only [bq] at hgq))
    |((with_reducible apply q_VOk);exact fun _ => ⟨rfl,rfl⟩)|(intro _;exact rfl)|((with_reducible apply q_CRB);kernel_rfl)|((with_reducible apply q_bt);simp only [bq])|((with_reducible apply q_eqN);rfl)|((with_reducible apply q_FE);exact rfl)|with_reducible (first|exact isByte_wrap _|exact isByte_nat _)|(simp only [hgq,bq];done)|omega|(dsimp only;omega))
  · rw [bad_1 (by simpa using hbq)]; rfl
  · rename_i a1
    rw [bad_7 (by simpa using a1) (by omega)]; rfl
  rename_i a1
  clear hC
  have b1 : chkB l sp ac br = true := by simpa using a1
  have b2 : ¬ 4000 < cs.length := by omega
  refine W_loopS (fun i : Nat => SS [sC 0 (rCell cs), sI 1 start, sI 7 i] []) (fun i => i ≤ cs.length ∧ ∀ j, j < i → cellB (cs.getD j (0, 0)) = true) (fun i => cs.length - i) 0 ?_ ⟨by omega, fun j hj => by omega⟩ ?_
  ·
    refine X_weak rfl rfl rfl ?_ ?_ <;> repeat' (first|with_reducible (first|refine Wk.o (by constructor) ?_|refine q_and ?_ ?_|exact True.intro)|refine q_AgS rfl ?_ ?_|exact CLe.nil_tipS|exact CLe.nil_rowS|refine HLe.cells ?_ ?_|refine HLe.els ?_ ?_|refine SLe.cons ?_ ?_|exact (rfl : known _ = _)|with_reducible rfl|omega)
  intro i hi
  obtain ⟨hi, hok⟩ := hi
  have h1 := inR_ok (cs.getD (i : Int).toNat (0, 0)).1 1000 100000
  have h2 := inR_ok (cs.getD (i : Int).toNat (0, 0)).2 (-40) 40
  repeat' (first
    |with_reducible (first|refine q_and ?_ ?_|exact True.intro|exact TkEq.nil _|refine Red.o (by constructor) ?_|refine blockK_o' rfl ?_|refine LoopX_e' rfl ?_|assumption)
    |((with_reducible apply q_call);refine X_pure (h1) rfl ?_)
    |((with_reducible apply q_callG);refine X_pureG ((fun _ => h2)) rfl ?_ ?_)
    |((with_reducible apply q_CI);intro hbq;(try simp only [bq] at hbq);(try (exfalso;omega)))
    |refine Rex.o (by (with_reducible constructor);apply Eq.refl) ?_
    |(intro (hgq : (_ : Bool) = true);(try simp only [bq] at hgq))
    |(intro (hgq : (_ : Bool) = false);(try simp only [bq] at hgq))
    |((with_reducible apply q_VOk);exact fun _ => ⟨rfl,rfl⟩)|(intro _;exact rfl)|((with_reducible apply q_CRB);kernel_rfl)|((with_reducible apply q_bt);simp only [bq])|((with_reducible apply q_eqN);rfl)|((with_reducible apply q_FE);exact rfl)|with_reducible (first|exact isByte_wrap _|exact isByte_nat _)|(simp only [hgq,bq];done)|omega|(dsimp only;omega))
  · have hb : cellB (cs.getD (i : Int).toNat (0, 0)) = false := by unfold cellB; rw [decide_eq_false_iff_not]; omega
    rw [bad_4 b1 b2 (cells_no (i := i) (by omega) hb)]; rfl
  · have hb : cellB (cs.getD (i : Int).toNat (0, 0)) = true := by unfold cellB; rw [decide_eq_true_eq]; omega
    refine LoopK_n (i + 1) ?_ (⟨by omega, uptoS hok hb⟩) (by (try dsimp only); omega)
    refine X_weak rfl rfl rfl ?_ ?_ <;> repeat' (first|with_reducible (first|refine Wk.o (by constructor) ?_|refine q_and ?_ ?_|exact True.intro)|refine q_AgS rfl ?_ ?_|exact CLe.nil_tipS|exact CLe.nil_rowS|refine HLe.cells ?_ ?_|refine HLe.els ?_ ?_|refine SLe.cons ?_ ?_|exact (rfl : known _ = _)|with_reducible rfl|omega)
  · have hie : i = cs.length := by omega
    subst hie
    rw [bad_4s b1 b2 (cells_yes hok) (by omega)]; rfl
  · have hie : i = cs.length := by omega
    subst hie
    rw [bad_0 b1 b2 (cells_yes hok) (by omega)]; rfl
theorem refLimit_ok (cs : List (Int × Int)) (k : Nat) (nm : ByteArray) (l sp ac br : Int) (hk : k < cs.length) (hl : cs.length ≤ 4000) (h0 : 0 ≤ l) (h1 : l ≤ 40) : OkV Try.prog 59 [.c (rCell cs), .c (xI k), vS5 nm l sp ac br] [] (vI (limitOf cs k l.toNat sp)) [] := by
  refine X_fn mixedX Try.func59 rfl (by kernel_rfl) (Nat.le_of_ble_eq_true (by kernel_rfl)) (by kernel_rfl) rfl rfl (Nat.le_of_ble_eq_true rfl) rfl rfl ?_
  simp only [sl0, Nat.zero_add, Nat.reduceAdd]
  repeat' (first
    |with_reducible (first|refine q_and ?_ ?_|exact True.intro|exact TkEq.nil _|refine Red.o (by constructor) ?_|refine blockK_o' rfl ?_|refine LoopX_e' rfl ?_|assumption)
    |((with_reducible apply q_CI);intro hbq;(try simp only [bq] at hbq);(try (exfalso;omega)))
    |refine Rex.o (by (with_reducible constructor);apply Eq.refl) ?_
    |(intro (hgq : (_ : Bool) = true);(try simp only [bq] at hgq))
    |(intro (hgq : (_ : Bool) = false);(try simp only [bq] at hgq))
    |((with_reducible apply q_VOk);exact fun _ => ⟨rfl,rfl⟩)|(intro _;exact rfl)|((with_reducible apply q_CRB);kernel_rfl)|((with_reducible apply q_bt);simp only [bq])|((with_reducible apply q_eqN);rfl)|((with_reducible apply q_FE);exact rfl)|with_reducible (first|exact isByte_wrap _|exact isByte_nat _)|(simp only [hgq,bq];done)|omega|(dsimp only;omega))
  generalize hlo : k - l.toNat = lo
  have elo : max 0 ((k : Int) - l) = lo := by omega
  refine W_loopS (fun i : Nat => SS [sC 0 (rCell cs), sI 1 k, sI 7 (limTo cs lo i sp), sI 8 (lo + i : Nat)] []) (fun i => lo + i ≤ k + 1) (fun i => k + 1 - i) 0 ?_ (by omega) ?_
  ·
    refine X_weak rfl rfl rfl ?_ ?_ <;> repeat' (first|with_reducible (first|refine Wk.o (by constructor) ?_|refine q_and ?_ ?_|exact True.intro)|refine q_AgS rfl ?_ ?_|exact CLe.nil_tipS|exact CLe.nil_rowS|refine HLe.cells ?_ ?_|refine HLe.els ?_ ?_|refine SLe.cons ?_ ?_|exact (rfl : known _ = _)|with_reducible rfl|omega)
    all_goals rw [limTo_zero]
  intro i hi
  repeat' (first
    |with_reducible (first|refine q_and ?_ ?_|exact True.intro|exact TkEq.nil _|refine Red.o (by constructor) ?_|refine blockK_o' rfl ?_|refine LoopX_e' rfl ?_|assumption)
    |((with_reducible apply q_CI);intro hbq;(try simp only [bq] at hbq);(try (exfalso;omega)))
    |refine Rex.o (by (with_reducible constructor);apply Eq.refl) ?_
    |(intro (hgq : (_ : Bool) = true);(try simp only [bq] at hgq))
    |(intro (hgq : (_ : Bool) = false);(try simp only [bq] at hgq))
    |((with_reducible apply q_VOk);exact fun _ => ⟨rfl,rfl⟩)|(intro _;exact rfl)|((with_reducible apply q_CRB);kernel_rfl)|((with_reducible apply q_bt);simp only [bq])|((with_reducible apply q_eqN);rfl)|((with_reducible apply q_FE);exact rfl)|with_reducible (first|exact isByte_wrap _|exact isByte_nat _)|(simp only [hgq,bq];done)|omega|(dsimp only;omega))
  ·
    refine LoopK_n (i + 1) ?_ ((by omega)) (by (try dsimp only); omega)
    refine X_weak rfl rfl rfl ?_ ?_ <;> repeat' (first|with_reducible (first|refine Wk.o (by constructor) ?_|refine q_and ?_ ?_|exact True.intro)|refine q_AgS rfl ?_ ?_|exact CLe.nil_tipS|exact CLe.nil_rowS|refine HLe.cells ?_ ?_|refine HLe.els ?_ ?_|refine SLe.cons ?_ ?_|exact (rfl : known _ = _)|with_reducible rfl|omega)
    all_goals (rw [limTo_succ _ _ _ _ (by omega), Int.toNat_natCast, getD_at _ _ (by omega)])
  · have hie : i = k + 1 - lo := by omega
    subst hie
    rw [← hlo, limTo_all]; rfl
theorem accel_ok (c : Int × Int) (nm : ByteArray) (l sp ac br : Int) (h0 : -40 ≤ c.2 ∧ c.2 ≤ 40) (h5 : 100 ≤ ac) (h6 : ac ≤ 2000) : OkV Try.prog 60 [vCe c, vS5 nm l sp ac br] [] (vI (rate c.2 ac)) [] := by
  unfold rate
  refine X_fn mixedX Try.func60 rfl (by kernel_rfl) (Nat.le_of_ble_eq_true (by kernel_rfl)) (by kernel_rfl) rfl rfl (Nat.le_of_ble_eq_true rfl) rfl rfl ?_
  simp only [sl0, Nat.zero_add, Nat.reduceAdd]
  repeat' (first
    |with_reducible (first|refine q_and ?_ ?_|exact True.intro|exact TkEq.nil _|refine Red.o (by constructor) ?_|refine blockK_o' rfl ?_|refine LoopX_e' rfl ?_|assumption)
    |((with_reducible apply q_CI);intro hbq;(try simp only [bq] at hbq);(try (exfalso;omega)))
    |refine Rex.o (by (with_reducible constructor);apply Eq.refl) ?_
    |(intro (hgq : (_ : Bool) = true);(try simp only [bq] at hgq))
    |(intro (hgq : (_ : Bool) = false);(try simp only [bq] at hgq))
    |((with_reducible apply q_VOk);exact fun _ => ⟨rfl,rfl⟩)|(intro _;exact rfl)|((with_reducible apply q_CRB);kernel_rfl)|((with_reducible apply q_bt);simp only [bq])|((with_reducible apply q_eqN);rfl)|((with_reducible apply q_FE);exact rfl)|with_reducible (first|exact isByte_wrap _|exact isByte_nat _)|(simp only [hgq,bq];done)|omega|(dsimp only;omega))
  · rw [if_pos (by omega)]; rfl
  · rw [if_neg (by omega)]; rfl
theorem brake_ok (c : Int × Int) (nm : ByteArray) (l sp ac br : Int) (h0 : -40 ≤ c.2 ∧ c.2 ≤ 40) (h5 : 100 ≤ br) (h6 : br ≤ 2000) : OkV Try.prog 61 [vCe c, vS5 nm l sp ac br] [] (vI (rateB c.2 br)) [] := by
  unfold rateB
  refine X_fn mixedX Try.func61 rfl (by kernel_rfl) (Nat.le_of_ble_eq_true (by kernel_rfl)) (by kernel_rfl) rfl rfl (Nat.le_of_ble_eq_true rfl) rfl rfl ?_
  simp only [sl0, Nat.zero_add, Nat.reduceAdd]
  repeat' (first
    |with_reducible (first|refine q_and ?_ ?_|exact True.intro|exact TkEq.nil _|refine Red.o (by constructor) ?_|refine blockK_o' rfl ?_|refine LoopX_e' rfl ?_|assumption)
    |((with_reducible apply q_CI);intro hbq;(try simp only [bq] at hbq);(try (exfalso;omega)))
    |refine Rex.o (by (with_reducible constructor);apply Eq.refl) ?_
    |(intro (hgq : (_ : Bool) = true);(try simp only [bq] at hgq))
    |(intro (hgq : (_ : Bool) = false);(try simp only [bq] at hgq))
    |((with_reducible apply q_VOk);exact fun _ => ⟨rfl,rfl⟩)|(intro _;exact rfl)|((with_reducible apply q_CRB);kernel_rfl)|((with_reducible apply q_bt);simp only [bq])|((with_reducible apply q_eqN);rfl)|((with_reducible apply q_FE);exact rfl)|with_reducible (first|exact isByte_wrap _|exact isByte_nat _)|(simp only [hgq,bq];done)|omega|(dsimp only;omega))
  · rw [if_pos (by omega)]; rfl
  · rw [if_neg (by omega)]; rfl
end Go.Proofs.Ytbpeakgihhdocaa.Av
namespace Go.Proofs.Ytbpeakgihhdocaa.Av
set_option linter.unusedVariables false
set_option linter.unusedSimpArgs false
set_option maxRecDepth 4000
set_option maxHeartbeats 4000000
theorem refSpeeds_ok (cs : List (Int × Int)) (start : Int) (nm : ByteArray) (l sp ac br : Int) (hl : cs.length ≤ 4611686018427387904) : OkV Try.prog 37 [.c (rCell cs), .c (xI start), vS5 nm l sp ac br] [] (.tup [.c (rInt (speedL cs start l sp ac br)), .c (xI (badRun cs start l sp ac br))]) [] := by
  have hC := refBad_ok cs start nm l sp ac br hl
  unfold speedL
  by_cases h : badRun cs start l sp ac br = 0
  · obtain ⟨hc, hn, hall, h0, h2⟩ := bad_zero h
    obtain ⟨l1, l2, l3, l4, l5, l6, l7, l8⟩ := chk_of hc
    obtain ⟨s, rfl⟩ := Int.eq_ofNat_of_zero_le h0
    rw [h] at hC ⊢
    rw [if_pos rfl]
    simp only [Int.toNat_natCast]
    refine X_fnP mixedX Try.func37 rfl (by kernel_rfl) (Nat.le_of_ble_eq_true (by kernel_rfl)) (by kernel_rfl) rfl rfl ?_
    simp only [sl0, Nat.zero_add, Nat.reduceAdd]
    repeat' (first
      |with_reducible (first|refine q_and ?_ ?_|exact True.intro|exact TkEq.nil _|refine Red.o (by constructor) ?_|refine blockK_o' rfl ?_|refine LoopX_e' rfl ?_|assumption)
      |((with_reducible apply q_call);refine X_pure (hC) rfl ?_)
      |((with_reducible apply q_CI);intro hbq;(try simp only [bq] at hbq);(try (exfalso;omega)))
      |refine Rex.o (by (with_reducible constructor);apply Eq.refl) ?_
      |(intro (hgq : (_ : Bool) = true);(try simp only [bq] at hgq))
      |(intro (hgq : (_ : Bool) = false);(try simp only [bq] at hgq))
      |((with_reducible apply q_VOk);exact fun _ => ⟨rfl,rfl⟩)|(intro _;exact rfl)|((with_reducible apply q_CRB);kernel_rfl)|((with_reducible apply q_bt);simp only [bq])|((with_reducible apply q_eqN);rfl)|((with_reducible apply q_FE);exact rfl)|with_reducible (first|exact isByte_wrap _|exact isByte_nat _)|(simp only [hgq,bq];done)|omega|(dsimp only;omega))
    clear hC
    have eM : ((cs.length : Int) - s) = (cs.length - s : Nat) := by omega
    refine W_loopS (fun k : Nat => SS [sC 0 (rCell cs), sI 1 s, sC 5 (pB 0), sI 9 (cs.length - s : Nat), sC 10 (.c (.arr 1 0 (cs.length - s + 1) (cs.length - s + 1))), sI 11 (k + 1 : Nat)] [bS5 nm l sp ac br, bInt (row (cs.length - s + 1) (iniW cs s l.toNat sp (k + 1)))]) (fun k => k + 1 ≤ cs.length - s) (fun k => cs.length - s - k) 0 ?_ (by omega) ?_
    ·
      refine X_weak rfl rfl rfl ?_ ?_ <;> repeat' (first|with_reducible (first|refine Wk.o (by constructor) ?_|refine q_and ?_ ?_|exact True.intro)|refine q_AgS rfl ?_ ?_|exact CLe.nil_tipS|exact CLe.nil_rowS|refine HLe.cells ?_ ?_|refine HLe.els ?_ ?_|refine SLe.cons ?_ ?_|exact (rfl : known _ = _)|with_reducible rfl|omega)
      all_goals first
        | omega
        | (
          rw [show ((cs.length : Int) - s + 1).toNat = cs.length - s + 1 by omega, row_zero]
          refine row_ext fun j hj => ?_
          unfold iniW
          rw [if_neg (by omega)])
        | (rw [show ((cs.length : Int) - s + 1).toNat = cs.length - s + 1 by omega])
    intro k hk
    have a6 := row_len (cs.length - s + 1) (iniW cs s l.toNat sp (k + 1))
    by_cases hlt : k + 1 < cs.length - s
    · have hA : OkV Try.prog 59 [.c (rCell cs), .c (xI ((s : Int) + ((k + 1 : Nat) : Int) - 1)), vS5 nm l sp ac br] [] (vI (limitOf cs (s + k) l.toNat sp)) [] := by
        rw [show (s : Int) + ((k + 1 : Nat) : Int) - 1 = ((s + k : Nat) : Int) by omega]
        exact refLimit_ok cs (s + k) nm l sp ac br (by omega) hn (by omega) l2
      have hB : OkV Try.prog 59 [.c (rCell cs), .c (xI ((s : Int) + ((k + 1 : Nat) : Int))), vS5 nm l sp ac br] [] (vI (limitOf cs (s + k + 1) l.toNat sp)) [] := by
        rw [show (s : Int) + ((k + 1 : Nat) : Int) = ((s + k + 1 : Nat) : Int) by omega]
        exact refLimit_ok cs (s + k + 1) nm l sp ac br (by omega) hn (by omega) l2
      have a1 := limit_range cs (s + k) l.toNat sp l3 hall
      have a2 := limit_range cs (s + k + 1) l.toNat sp l3 hall
      have a3 := sq_range (limitOf cs (s + k) l.toNat sp) (limitOf cs (s + k + 1) l.toNat sp) a1.1 (by omega) a2.1 (by omega)
      repeat' (first
        |with_reducible (first|refine q_and ?_ ?_|exact True.intro|exact TkEq.nil _|refine Red.o (by constructor) ?_|refine blockK_o' rfl ?_|refine LoopX_e' rfl ?_|assumption)
        |((with_reducible apply q_call);first|refine X_pure (hA) rfl ?_|refine X_pure (hB) rfl ?_)
        |((with_reducible apply q_CI);intro hbq;(try simp only [bq] at hbq);(try (exfalso;omega)))
        |refine Rex.o (by (with_reducible constructor);apply Eq.refl) ?_
        |(intro (hgq : (_ : Bool) = true);(try simp only [bq] at hgq))
        |(intro (hgq : (_ : Bool) = false);(try simp only [bq] at hgq))
        |((with_reducible apply q_VOk);exact fun _ => ⟨rfl,rfl⟩)|(intro _;exact rfl)|((with_reducible apply q_CRB);kernel_rfl)|((with_reducible apply q_bt);simp only [bq])|((with_reducible apply q_eqN);rfl)|((with_reducible apply q_FE);exact rfl)|with_reducible (first|exact isByte_wrap _|exact isByte_nat _)|(simp only [hgq,bq];done)|omega|(dsimp only;omega))
      · rfl
      ·
        refine LoopK_n (k + 1) ?_ ((by omega)) (by (try dsimp only); omega)
        refine X_weak rfl rfl rfl ?_ ?_ <;> repeat' (first|with_reducible (first|refine Wk.o (by constructor) ?_|refine q_and ?_ ?_|exact True.intro)|refine q_AgS rfl ?_ ?_|exact CLe.nil_tipS|exact CLe.nil_rowS|refine HLe.cells ?_ ?_|refine HLe.els ?_ ?_|refine SLe.cons ?_ ?_|exact (rfl : known _ = _)|with_reducible rfl|omega)
        all_goals (
          rw [Int.toNat_natCast]
          refine row_set (i := k + 1) ?_ fun j hj hne => ?_
          · unfold iniW lsq
            rw [if_pos (by omega), show s + (k + 1) - 1 = s + k by omega, show s + (k + 1) = s + k + 1 by omega]
          · unfold iniW
            by_cases hj0 : 0 < j ∧ j < k + 1
            · rw [if_pos hj0, if_pos (by omega)]
            · rw [if_neg hj0, if_neg (by omega)])
    have hkM : k + 1 = cs.length - s := by omega
    repeat' (first
      |with_reducible (first|refine q_and ?_ ?_|exact True.intro|exact TkEq.nil _|refine Red.o (by constructor) ?_|refine blockK_o' rfl ?_|refine LoopX_e' rfl ?_|assumption)
      |((with_reducible apply q_CI);intro hbq;(try simp only [bq] at hbq);(try (exfalso;omega)))
      |refine Rex.o (by (with_reducible constructor);apply Eq.refl) ?_
      |(intro (hgq : (_ : Bool) = true);(try simp only [bq] at hgq))
      |(intro (hgq : (_ : Bool) = false);(try simp only [bq] at hgq))
      |((with_reducible apply q_VOk);exact fun _ => ⟨rfl,rfl⟩)|(intro _;exact rfl)|((with_reducible apply q_CRB);kernel_rfl)|((with_reducible apply q_bt);simp only [bq])|((with_reducible apply q_eqN);rfl)|((with_reducible apply q_FE);exact rfl)|with_reducible (first|exact isByte_wrap _|exact isByte_nat _)|(simp only [hgq,bq];done)|omega|(dsimp only;omega))
    rw [hkM] at a6 ⊢
    clear a6
    refine W_loopS (fun k : Nat => SS [sC 0 (rCell cs), sI 1 s, sC 5 (pB 0), sI 9 (cs.length - s : Nat), sC 10 (.c (.arr 1 0 (cs.length - s + 1) (cs.length - s + 1))), sI 13 k] [bS5 nm l sp ac br, bInt (row (cs.length - s + 1) fun j => if j ≤ k then fwW cs s l.toNat sp ac j else iniW cs s l.toNat sp (cs.length - s) j)]) (fun k => k ≤ cs.length - s) (fun k => cs.length - s - k) 0 ?_ (by omega) ?_
    ·
      refine X_weak rfl rfl rfl ?_ ?_ <;> repeat' (first|with_reducible (first|refine Wk.o (by constructor) ?_|refine q_and ?_ ?_|exact True.intro)|refine q_AgS rfl ?_ ?_|exact CLe.nil_tipS|exact CLe.nil_rowS|refine HLe.cells ?_ ?_|refine HLe.els ?_ ?_|refine SLe.cons ?_ ?_|exact (rfl : known _ = _)|with_reducible rfl|omega)
      all_goals (
        refine row_ext fun j hj => ?_
        by_cases hj0 : j ≤ 0
        · rw [if_pos hj0, show j = 0 by omega]
          unfold iniW fwW
          rw [if_neg (by omega), if_pos (by omega)]
          rfl
        · rw [if_neg hj0])
    clear hk hkM hlt
    intro k hk
    have a6 : (row (cs.length - s + 1) fun j => if j ≤ k then fwW cs s l.toNat sp ac j else iniW cs s l.toNat sp (cs.length - s) j).length = _ := row_len _ _
    by_cases hlt : k < cs.length - s
    · have e1 : ((s : Int) + k).toNat = s + k := by omega
      have e2 : ((k : Int) + 1).toNat = k + 1 := by omega
      have hce := cell_of (List.all_eq_true.1 hall _ (List.getElem_mem (show s + k < cs.length by omega)))
      have eg : (cs.getD ((s : Int) + k).toNat (0, 0)) = cs[s + k] := by rw [e1]; exact getD_at _ _ _
      rw [← eg] at hce
      have hG := accel_ok (cs.getD ((s : Int) + k).toNat (0, 0)) nm l sp ac br ⟨hce.2.2.1, hce.2.2.2⟩ l5 l6
      have hgr := gain_range (cs.getD ((s : Int) + k).toNat (0, 0)).2 ac l5 l6
      rw [gain_rate] at hgr
      have a5 : (row (cs.length - s + 1) fun j => if j ≤ k then fwW cs s l.toNat sp ac j else iniW cs s l.toNat sp (cs.length - s) j).getD (k : Int).toNat 0 = fwW cs s l.toNat sp ac k := by rw [Int.toNat_natCast, row_get (by omega), if_pos (Nat.le_refl _)]
      have a7 : (row (cs.length - s + 1) fun j => if j ≤ k then fwW cs s l.toNat sp ac j else iniW cs s l.toNat sp (cs.length - s) j).getD ((k : Int) + 1).toNat 0 = iniW cs s l.toNat sp (cs.length - s) (k + 1) := by rw [e2, row_get (by omega), if_neg (by omega)]
      have a3 := fwW_range (start := s) (l := l.toNat) l3 l4 l5 l6 hall k
      have a4 := ini_range (start := s) (l := l.toNat) l3 l4 hall (cs.length - s) (k + 1)
      repeat' (first
        |with_reducible (first|refine q_and ?_ ?_|exact True.intro|exact TkEq.nil _|refine Red.o (by constructor) ?_|refine blockK_o' rfl ?_|refine LoopX_e' rfl ?_|assumption)
        |((with_reducible apply q_call);refine X_pure (hG) rfl ?_)
        |((with_reducible apply q_CI);intro hbq;(try simp only [bq] at hbq);(try (exfalso;omega)))
        |refine Rex.o (by (with_reducible constructor);apply Eq.refl) ?_
        |(intro (hgq : (_ : Bool) = true);(try simp only [bq] at hgq))
        |(intro (hgq : (_ : Bool) = false);(try simp only [bq] at hgq))
        |((with_reducible apply q_VOk);exact fun _ => ⟨rfl,rfl⟩)|(intro _;exact rfl)|((with_reducible apply q_CRB);kernel_rfl)|((with_reducible apply q_bt);simp only [bq])|((with_reducible apply q_eqN);rfl)|((with_reducible apply q_FE);exact rfl)|with_reducible (first|exact isByte_wrap _|exact isByte_nat _)|(simp only [hgq,bq];done)|omega|(dsimp only;omega))
      · rfl
      ·
        refine LoopK_n (k + 1) ?_ ((by omega)) (by (try dsimp only); omega)
        refine X_weak rfl rfl rfl ?_ ?_ <;> repeat' (first|with_reducible (first|refine Wk.o (by constructor) ?_|refine q_and ?_ ?_|exact True.intro)|refine q_AgS rfl ?_ ?_|exact CLe.nil_tipS|exact CLe.nil_rowS|refine HLe.cells ?_ ?_|refine HLe.els ?_ ?_|refine SLe.cons ?_ ?_|exact (rfl : known _ = _)|with_reducible rfl|omega)
        all_goals (
          rw [a5, a7, e1, e2, ← gain_rate, fwW_step l3 l4 l5 l6 hall k hlt]
          refine row_set (i := k + 1) ?_ fun j hj hne => ?_
          · rw [if_pos (Nat.le_refl _)]
          · by_cases hji : j ≤ k
            · rw [if_pos hji, if_pos (by omega)]
            · rw [if_neg hji, if_neg (by omega)])
    have hkM : k = cs.length - s := by omega
    repeat' (first
      |with_reducible (first|refine q_and ?_ ?_|exact True.intro|exact TkEq.nil _|refine Red.o (by constructor) ?_|refine blockK_o' rfl ?_|refine LoopX_e' rfl ?_|assumption)
      |((with_reducible apply q_CI);intro hbq;(try simp only [bq] at hbq);(try (exfalso;omega)))
      |refine Rex.o (by (with_reducible constructor);apply Eq.refl) ?_
      |(intro (hgq : (_ : Bool) = true);(try simp only [bq] at hgq))
      |(intro (hgq : (_ : Bool) = false);(try simp only [bq] at hgq))
      |((with_reducible apply q_VOk);exact fun _ => ⟨rfl,rfl⟩)|(intro _;exact rfl)|((with_reducible apply q_CRB);kernel_rfl)|((with_reducible apply q_bt);simp only [bq])|((with_reducible apply q_eqN);rfl)|((with_reducible apply q_FE);exact rfl)|with_reducible (first|exact isByte_wrap _|exact isByte_nat _)|(simp only [hgq,bq];done)|omega|(dsimp only;omega))
    refine W_loopS (fun d : Nat => SS [sC 0 (rCell cs), sI 1 s, sC 5 (pB 0), sI 9 (cs.length - s : Nat), sC 10 (.c (.arr 1 0 (cs.length - s + 1) (cs.length - s + 1))), sI 14 (((cs.length - s : Nat) : Int) - d)] [bS5 nm l sp ac br, bInt (row (cs.length - s + 1) fun j => if j + d < cs.length - s then fwW cs s l.toNat sp ac j else sqW cs s l.toNat sp ac br j)]) (fun d => d ≤ cs.length - s) (fun d => cs.length - s - d) 0 ?_ (by omega) ?_
    ·
      refine X_weak rfl rfl rfl ?_ ?_ <;> repeat' (first|with_reducible (first|refine Wk.o (by constructor) ?_|refine q_and ?_ ?_|exact True.intro)|refine q_AgS rfl ?_ ?_|exact CLe.nil_tipS|exact CLe.nil_rowS|refine HLe.cells ?_ ?_|refine HLe.els ?_ ?_|refine SLe.cons ?_ ?_|exact (rfl : known _ = _)|with_reducible rfl|omega)
      all_goals (
        refine row_ext fun j hj => ?_
        rw [if_pos (by omega)]
        by_cases hj0 : j < cs.length - s
        · rw [if_pos (by omega)]
        · rw [if_neg (by omega), show j = cs.length - s by omega, sqW_end (by omega)]
          unfold fwW
          rw [if_neg (by omega)])
    clear hk hkM hlt a6
    intro d hd
    have a6 : (row (cs.length - s + 1) fun j => if j + d < cs.length - s then fwW cs s l.toNat sp ac j else sqW cs s l.toNat sp ac br j).length = _ := row_len _ _
    by_cases hlt : d < cs.length - s
    · generalize he : cs.length - s - d - 1 = e
      have e1 : ((s : Int) + (((cs.length - s : Nat) : Int) - d) - 1).toNat = s + e := by omega
      have e2 : (((cs.length - s : Nat) : Int) - d - 1).toNat = e := by omega
      have e3 : (((cs.length - s : Nat) : Int) - d).toNat = e + 1 := by omega
      have hce := cell_of (List.all_eq_true.1 hall _ (List.getElem_mem (show s + e < cs.length by omega)))
      have eg : (cs.getD ((s : Int) + (((cs.length - s : Nat) : Int) - d) - 1).toNat (0, 0)) = cs[s + e] := by rw [e1]; exact getD_at _ _ _
      rw [← eg] at hce
      have hG := brake_ok (cs.getD ((s : Int) + (((cs.length - s : Nat) : Int) - d) - 1).toNat (0, 0)) nm l sp ac br ⟨hce.2.2.1, hce.2.2.2⟩ l7 l8
      have hgr := loss_range (cs.getD ((s : Int) + (((cs.length - s : Nat) : Int) - d) - 1).toNat (0, 0)).2 br l7 l8
      rw [loss_rate] at hgr
      have a5 : (row (cs.length - s + 1) fun j => if j + d < cs.length - s then fwW cs s l.toNat sp ac j else sqW cs s l.toNat sp ac br j).getD (((cs.length - s : Nat) : Int) - d).toNat 0 = sqW cs s l.toNat sp ac br (e + 1) := by rw [e3, row_get (by omega), if_neg (by omega)]
      have a7 : (row (cs.length - s + 1) fun j => if j + d < cs.length - s then fwW cs s l.toNat sp ac j else sqW cs s l.toNat sp ac br j).getD (((cs.length - s : Nat) : Int) - d - 1).toNat 0 = fwW cs s l.toNat sp ac e := by rw [e2, row_get (by omega), if_pos (by omega)]
      have a3 := fwW_range (start := s) (l := l.toNat) l3 l4 l5 l6 hall e
      have a4 := sqW_range (start := s) (l := l.toNat) l3 l4 l5 l6 l7 l8 hall (e + 1)
      repeat' (first
        |with_reducible (first|refine q_and ?_ ?_|exact True.intro|exact TkEq.nil _|refine Red.o (by constructor) ?_|refine blockK_o' rfl ?_|refine LoopX_e' rfl ?_|assumption)
        |((with_reducible apply q_call);refine X_pure (hG) rfl ?_)
        |((with_reducible apply q_CI);intro hbq;(try simp only [bq] at hbq);(try (exfalso;omega)))
        |refine Rex.o (by (with_reducible constructor);apply Eq.refl) ?_
        |(intro (hgq : (_ : Bool) = true);(try simp only [bq] at hgq))
        |(intro (hgq : (_ : Bool) = false);(try simp only [bq] at hgq))
        |((with_reducible apply q_VOk);exact fun _ => ⟨rfl,rfl⟩)|(intro _;exact rfl)|((with_reducible apply q_CRB);kernel_rfl)|((with_reducible apply q_bt);simp only [bq])|((with_reducible apply q_eqN);rfl)|((with_reducible apply q_FE);exact rfl)|with_reducible (first|exact isByte_wrap _|exact isByte_nat _)|(simp only [hgq,bq];done)|omega|(dsimp only;omega))
      · rfl
      ·
        refine LoopK_n (d + 1) ?_ ((by omega)) (by (try dsimp only); omega)
        refine X_weak rfl rfl rfl ?_ ?_ <;> repeat' (first|with_reducible (first|refine Wk.o (by constructor) ?_|refine q_and ?_ ?_|exact True.intro)|refine q_AgS rfl ?_ ?_|exact CLe.nil_tipS|exact CLe.nil_rowS|refine HLe.cells ?_ ?_|refine HLe.els ?_ ?_|refine SLe.cons ?_ ?_|exact (rfl : known _ = _)|with_reducible rfl|omega)
        all_goals (
          rw [a5, a7, e1, e2, ← loss_rate, sqW_step l3 l4 l5 l6 l7 l8 hall e (by omega)]
          refine row_set (i := e) ?_ fun j hj hne => ?_
          · rw [if_neg (by omega)]
          · by_cases hji : j + d < cs.length - s
            · rw [if_pos hji, if_pos (by omega)]
            · rw [if_neg hji, if_neg (by omega)])
    have hkM : d = cs.length - s := by omega
    repeat' (first
      |with_reducible (first|refine q_and ?_ ?_|exact True.intro|exact TkEq.nil _|refine Red.o (by constructor) ?_|refine blockK_o' rfl ?_|refine LoopX_e' rfl ?_|assumption)
      |((with_reducible apply q_CI);intro hbq;(try simp only [bq] at hbq);(try (exfalso;omega)))
      |refine Rex.o (by (with_reducible constructor);apply Eq.refl) ?_
      |(intro (hgq : (_ : Bool) = true);(try simp only [bq] at hgq))
      |(intro (hgq : (_ : Bool) = false);(try simp only [bq] at hgq))
      |((with_reducible apply q_VOk);exact fun _ => ⟨rfl,rfl⟩)|(intro _;exact rfl)|((with_reducible apply q_CRB);kernel_rfl)|((with_reducible apply q_bt);simp only [bq])|((with_reducible apply q_eqN);rfl)|((with_reducible apply q_FE);exact rfl)|with_reducible (first|exact isByte_wrap _|exact isByte_nat _)|(simp only [hgq,bq];done)|omega|(dsimp only;omega))
    refine W_loopS (fun i : Nat => SS [sI 9 (cs.length - s : Nat), sC 10 (.c (.arr 1 0 (cs.length - s + 1) (cs.length - s + 1))), sI 15 i] [none, bInt (row (cs.length - s + 1) fun j => if j < i then ((spd cs s l.toNat sp ac br j : Nat) : Int) else sqW cs s l.toNat sp ac br j)]) (fun i => i ≤ cs.length - s + 1) (fun i => cs.length - s + 1 - i) 0 ?_ (by omega) ?_
    ·
      refine X_weak rfl rfl rfl ?_ ?_ <;> repeat' (first|with_reducible (first|refine Wk.o (by constructor) ?_|refine q_and ?_ ?_|exact True.intro)|refine q_AgS rfl ?_ ?_|exact CLe.nil_tipS|exact CLe.nil_rowS|refine HLe.cells ?_ ?_|refine HLe.els ?_ ?_|refine SLe.cons ?_ ?_|exact (rfl : known _ = _)|with_reducible rfl|omega)
      all_goals (
        refine row_ext fun j hj => ?_
        rw [if_neg (by omega), if_neg (by omega)])
    clear hd hkM hlt a6
    intro i hi
    have a6 : (row (cs.length - s + 1) fun j => if j < i then ((spd cs s l.toNat sp ac br j : Nat) : Int) else sqW cs s l.toNat sp ac br j).length = _ := row_len _ _
    have a4 := sqW_range (start := s) (l := l.toNat) l3 l4 l5 l6 l7 l8 hall i
    by_cases hil : i < cs.length - s + 1
    · have a5 : (row (cs.length - s + 1) fun j => if j < i then ((spd cs s l.toNat sp ac br j : Nat) : Int) else sqW cs s l.toNat sp ac br j).getD (i : Int).toNat 0 = sqW cs s l.toNat sp ac br i := by
        rw [Int.toNat_natCast, row_get hil, if_neg (by omega)]
      have hQ := refSqrt_okV ((row (cs.length - s + 1) fun j => if j < i then ((spd cs s l.toNat sp ac br j : Nat) : Int) else sqW cs s l.toNat sp ac br j).getD (i : Int).toNat 0) (by rw [a5]; omega)
      repeat' (first
        |with_reducible (first|refine q_and ?_ ?_|exact True.intro|exact TkEq.nil _|refine Red.o (by constructor) ?_|refine blockK_o' rfl ?_|refine LoopX_e' rfl ?_|assumption)
        |((with_reducible apply q_call);refine X_pure (hQ) rfl ?_)
        |((with_reducible apply q_CI);intro hbq;(try simp only [bq] at hbq);(try (exfalso;omega)))
        |refine Rex.o (by (with_reducible constructor);apply Eq.refl) ?_
        |(intro (hgq : (_ : Bool) = true);(try simp only [bq] at hgq))
        |(intro (hgq : (_ : Bool) = false);(try simp only [bq] at hgq))
        |((with_reducible apply q_VOk);exact fun _ => ⟨rfl,rfl⟩)|(intro _;exact rfl)|((with_reducible apply q_CRB);kernel_rfl)|((with_reducible apply q_bt);simp only [bq])|((with_reducible apply q_eqN);rfl)|((with_reducible apply q_FE);exact rfl)|with_reducible (first|exact isByte_wrap _|exact isByte_nat _)|(simp only [hgq,bq];done)|omega|(dsimp only;omega))
      · rfl
      ·
        refine LoopK_n (i + 1) ?_ ((by omega)) (by (try dsimp only); omega)
        refine X_weak rfl rfl rfl ?_ ?_ <;> repeat' (first|with_reducible (first|refine Wk.o (by constructor) ?_|refine q_and ?_ ?_|exact True.intro)|refine q_AgS rfl ?_ ?_|exact CLe.nil_tipS|exact CLe.nil_rowS|refine HLe.cells ?_ ?_|refine HLe.els ?_ ?_|refine SLe.cons ?_ ?_|exact (rfl : known _ = _)|with_reducible rfl|omega)
        all_goals (
          rw [a5, Int.toNat_natCast]
          refine row_set (i := i) ?_ fun j hj hne => ?_
          · rw [if_pos (by omega)]; rfl
          · by_cases hji : j < i
            · rw [if_pos hji, if_pos (by omega)]
            · rw [if_neg hji, if_neg (by omega)])
    · have hr : (row (cs.length - s + 1) fun j => if j < i then ((spd cs s l.toNat sp ac br j : Nat) : Int) else sqW cs s l.toNat sp ac br j) = row (cs.length - s + 1) fun j => ((spd cs s l.toNat sp ac br j : Nat) : Int) := row_ext fun j hj => if_pos (by omega)
      repeat' (first
        |with_reducible (first|refine q_and ?_ ?_|exact True.intro|exact TkEq.nil _|refine Red.o (by constructor) ?_|refine blockK_o' rfl ?_|refine LoopX_e' rfl ?_|assumption)
        |((with_reducible apply q_CI);intro hbq;(try simp only [bq] at hbq);(try (exfalso;omega)))
        |refine Rex.o (by (with_reducible constructor);apply Eq.refl) ?_
        |(intro (hgq : (_ : Bool) = true);(try simp only [bq] at hgq))
        |(intro (hgq : (_ : Bool) = false);(try simp only [bq] at hgq))
        |((with_reducible apply q_VOk);exact fun _ => ⟨rfl,rfl⟩)|(intro _;exact rfl)|((with_reducible apply q_CRB);kernel_rfl)|((with_reducible apply q_bt);simp only [bq])|((with_reducible apply q_eqN);rfl)|((with_reducible apply q_FE);exact rfl)|with_reducible (first|exact isByte_wrap _|exact isByte_nat _)|(simp only [hgq,bq];done)|omega|(dsimp only;omega))
      rw [hr]; rfl
  · rw [if_neg h]
    refine X_fn mixedX Try.func37 rfl (by kernel_rfl) (Nat.le_of_ble_eq_true (by kernel_rfl)) (by kernel_rfl) rfl rfl (Nat.le_of_ble_eq_true rfl) rfl rfl ?_
    simp only [sl0, Nat.zero_add, Nat.reduceAdd]
    repeat' (first
      |with_reducible (first|refine q_and ?_ ?_|exact True.intro|exact TkEq.nil _|refine Red.o (by constructor) ?_|refine blockK_o' rfl ?_|refine LoopX_e' rfl ?_|assumption)
      |((with_reducible apply q_call);refine X_pure (hC) rfl ?_)
      |((with_reducible apply q_CI);intro hbq;(try simp only [bq] at hbq);(try (exfalso;omega)))
      |refine Rex.o (by (with_reducible constructor);apply Eq.refl) ?_
      |(intro (hgq : (_ : Bool) = true);(try simp only [bq] at hgq))
      |(intro (hgq : (_ : Bool) = false);(try simp only [bq] at hgq))
      |((with_reducible apply q_VOk);exact fun _ => ⟨rfl,rfl⟩)|(intro _;exact rfl)|((with_reducible apply q_CRB);kernel_rfl)|((with_reducible apply q_bt);simp only [bq])|((with_reducible apply q_eqN);rfl)|((with_reducible apply q_FE);exact rfl)|with_reducible (first|exact isByte_wrap _|exact isByte_nat _)|(simp only [hgq,bq];done)|omega|(dsimp only;omega))
    · rfl
theorem refTimes_ok (cs : List (Int × Int)) (start : Int) (nm : ByteArray) (l sp ac br : Int) (hl : cs.length ≤ 4611686018427387904) : OkV Try.prog 17 [.c (rCell cs), .c (xI start), vS5 nm l sp ac br] [] (.tup [.c (rInt (timeL cs start l sp ac br)), .c (xI (badRun cs start l sp ac br))]) [] := by
  have hC := refSpeeds_ok cs start nm l sp ac br hl
  unfold timeL
  by_cases h : badRun cs start l sp ac br = 0
  · obtain ⟨hc, hn, hall, h0, h2⟩ := bad_zero h
    obtain ⟨l1, l2, l3, l4, l5, l6, l7, l8⟩ := chk_of hc
    obtain ⟨s, rfl⟩ := Int.eq_ofNat_of_zero_le h0
    unfold speedL at hC
    rw [h, if_pos rfl] at hC
    rw [h, if_pos rfl]
    simp only [Int.toNat_natCast] at hC ⊢
    have b6 := row_len (cs.length - s + 1) fun j => ((spd cs s l.toNat sp ac br j : Nat) : Int)
    have b5 : ∀ j, j < cs.length - s + 1 → (row (cs.length - s + 1) fun j => ((spd cs s l.toNat sp ac br j : Nat) : Int)).getD j 0 = spd cs s l.toNat sp ac br j := fun j hj => row_get hj
    generalize (row (cs.length - s + 1) fun j => ((spd cs s l.toNat sp ac br j : Nat) : Int)) = vs at hC b6 b5
    refine X_fnP mixedX Try.func17 rfl (by kernel_rfl) (Nat.le_of_ble_eq_true (by kernel_rfl)) (by kernel_rfl) rfl rfl ?_
    simp only [sl0, Nat.zero_add, Nat.reduceAdd]
    repeat' (first
      |with_reducible (first|refine q_and ?_ ?_|exact True.intro|exact TkEq.nil _|refine Red.o (by constructor) ?_|refine blockK_o' rfl ?_|refine LoopX_e' rfl ?_|assumption)
      |((with_reducible apply q_call);refine X_pure (hC) rfl ?_)
      |((with_reducible apply q_CI);intro hbq;(try simp only [bq] at hbq);(try (exfalso;omega)))
      |refine Rex.o (by (with_reducible constructor);apply Eq.refl) ?_
      |(intro (hgq : (_ : Bool) = true);(try simp only [bq] at hgq))
      |(intro (hgq : (_ : Bool) = false);(try simp only [bq] at hgq))
      |((with_reducible apply q_VOk);exact fun _ => ⟨rfl,rfl⟩)|(intro _;exact rfl)|((with_reducible apply q_CRB);kernel_rfl)|((with_reducible apply q_bt);simp only [bq])|((with_reducible apply q_eqN);rfl)|((with_reducible apply q_FE);exact rfl)|with_reducible (first|exact isByte_wrap _|exact isByte_nat _)|(simp only [hgq,bq];done)|omega|(dsimp only;omega))
    clear hC
    refine W_loopS (fun i : Nat => SS [sC 8 (rInt vs), sC 10 (.c (.arr 1 0 (cs.length - s + 1) (cs.length - s + 1))), sI 11 (i + 1 : Nat)] [none, bInt (row (cs.length - s + 1) fun j => if j ≤ i then tim cs s l.toNat sp ac br j else 0)]) (fun i => i ≤ cs.length - s) (fun i => cs.length - s - i) 0 ?_ (by omega) ?_
    ·
      refine X_weak rfl rfl rfl ?_ ?_ <;> repeat' (first|with_reducible (first|refine Wk.o (by constructor) ?_|refine q_and ?_ ?_|exact True.intro)|refine q_AgS rfl ?_ ?_|exact CLe.nil_tipS|exact CLe.nil_rowS|refine HLe.cells ?_ ?_|refine HLe.els ?_ ?_|refine SLe.cons ?_ ?_|exact (rfl : known _ = _)|with_reducible rfl|omega)
      all_goals first
        | (rw [b6]; rfl)
        | (
          rw [b6, Int.toNat_natCast, row_zero]
          refine row_ext fun j hj => ?_
          by_cases hj0 : j ≤ 0
          · rw [if_pos hj0, show j = 0 by omega]; rfl
          · rw [if_neg hj0])
    intro i hi
    have a6 := row_len (cs.length - s + 1) fun j => if j ≤ i then tim cs s l.toNat sp ac br j else 0
    by_cases hil : i < cs.length - s
    · have e1 : (((i + 1 : Nat) : Int) - 1).toNat = i := by omega
      have e2 : ((i + 1 : Nat) : Int).toNat = i + 1 := by omega
      have a5 : (row (cs.length - s + 1) fun j => if j ≤ i then tim cs s l.toNat sp ac br j else 0).getD (((i + 1 : Nat) : Int) - 1).toNat 0 = tim cs s l.toNat sp ac br i := by
        rw [e1, row_get (by omega), if_pos (Nat.le_refl _)]
      have a4 := tim_range (start := s) (l := l.toNat) l3 l4 l5 l6 l7 l8 hall (by omega) i (by omega)
      have a7 := spd_sum (start := s) (l := l.toNat) l3 l4 l5 l6 l7 l8 hall (by omega) i hil
      have a8 := step_range (start := s) (l := l.toNat) l3 l4 l5 l6 l7 l8 hall (by omega) i hil
      have c1 := b5 i (by omega)
      have c2 := b5 (i + 1) (by omega)
      have c3 : vs.getD (((i + 1 : Nat) : Int) - 1).toNat 0 = spd cs s l.toNat sp ac br i := by rw [e1, c1]
      have c4 : vs.getD ((i + 1 : Nat) : Int).toNat 0 = spd cs s l.toNat sp ac br (i + 1) := by rw [e2, c2]
      have c5 : Pl.cdiv 20000000 (vs.getD (((i + 1 : Nat) : Int) - 1).toNat 0 + vs.getD ((i + 1 : Nat) : Int).toNat 0) = Pl.cdiv 20000000 ((spd cs s l.toNat sp ac br i : Int) + spd cs s l.toNat sp ac br (i + 1)) := by rw [c3, c4]
      rw [← c5] at a8
      have hQ := refCeil_okV 20000000 (vs.getD (((i + 1 : Nat) : Int) - 1).toNat 0 + vs.getD ((i + 1 : Nat) : Int).toNat 0) (by omega) (by rw [c3, c4]; omega)
      repeat' (first
        |with_reducible (first|refine q_and ?_ ?_|exact True.intro|exact TkEq.nil _|refine Red.o (by constructor) ?_|refine blockK_o' rfl ?_|refine LoopX_e' rfl ?_|assumption)
        |((with_reducible apply q_call);refine X_pure (hQ) rfl ?_)
        |((with_reducible apply q_CI);intro hbq;(try simp only [bq] at hbq);(try (exfalso;omega)))
        |refine Rex.o (by (with_reducible constructor);apply Eq.refl) ?_
        |(intro (hgq : (_ : Bool) = true);(try simp only [bq] at hgq))
        |(intro (hgq : (_ : Bool) = false);(try simp only [bq] at hgq))
        |((with_reducible apply q_VOk);exact fun _ => ⟨rfl,rfl⟩)|(intro _;exact rfl)|((with_reducible apply q_CRB);kernel_rfl)|((with_reducible apply q_bt);simp only [bq])|((with_reducible apply q_eqN);rfl)|((with_reducible apply q_FE);exact rfl)|with_reducible (first|exact isByte_wrap _|exact isByte_nat _)|(simp only [hgq,bq];done)|omega|(dsimp only;omega))
      · rfl
      ·
        refine LoopK_n (i + 1) ?_ ((by omega)) (by (try dsimp only); omega)
        refine X_weak rfl rfl rfl ?_ ?_ <;> repeat' (first|with_reducible (first|refine Wk.o (by constructor) ?_|refine q_and ?_ ?_|exact True.intro)|refine q_AgS rfl ?_ ?_|exact CLe.nil_tipS|exact CLe.nil_rowS|refine HLe.cells ?_ ?_|refine HLe.els ?_ ?_|refine SLe.cons ?_ ?_|exact (rfl : known _ = _)|with_reducible rfl|omega)
        all_goals (
          rw [a5, c5, e2]
          refine row_set (i := i + 1) ?_ fun j hj hne => ?_
          · rw [if_pos (by omega)]; rfl
          · by_cases hji : j ≤ i
            · rw [if_pos hji, if_pos (by omega)]
            · rw [if_neg hji, if_neg (by omega)])
    · have hr : row (cs.length - s + 1) (fun j => if j ≤ i then tim cs s l.toNat sp ac br j else 0) = row (cs.length - s + 1) (tim cs s l.toNat sp ac br) := row_ext fun j hj => if_pos (by omega)
      repeat' (first
        |with_reducible (first|refine q_and ?_ ?_|exact True.intro|exact TkEq.nil _|refine Red.o (by constructor) ?_|refine blockK_o' rfl ?_|refine LoopX_e' rfl ?_|assumption)
        |((with_reducible apply q_CI);intro hbq;(try simp only [bq] at hbq);(try (exfalso;omega)))
        |refine Rex.o (by (with_reducible constructor);apply Eq.refl) ?_
        |(intro (hgq : (_ : Bool) = true);(try simp only [bq] at hgq))
        |(intro (hgq : (_ : Bool) = false);(try simp only [bq] at hgq))
        |((with_reducible apply q_VOk);exact fun _ => ⟨rfl,rfl⟩)|(intro _;exact rfl)|((with_reducible apply q_CRB);kernel_rfl)|((with_reducible apply q_bt);simp only [bq])|((with_reducible apply q_eqN);rfl)|((with_reducible apply q_FE);exact rfl)|with_reducible (first|exact isByte_wrap _|exact isByte_nat _)|(simp only [hgq,bq];done)|omega|(dsimp only;omega))
      rw [hr]; rfl
  · unfold speedL at hC
    rw [if_neg h] at hC ⊢
    refine X_fn mixedX Try.func17 rfl (by kernel_rfl) (Nat.le_of_ble_eq_true (by kernel_rfl)) (by kernel_rfl) rfl rfl (Nat.le_of_ble_eq_true rfl) rfl rfl ?_
    simp only [sl0, Nat.zero_add, Nat.reduceAdd]
    repeat' (first
      |with_reducible (first|refine q_and ?_ ?_|exact True.intro|exact TkEq.nil _|refine Red.o (by constructor) ?_|refine blockK_o' rfl ?_|refine LoopX_e' rfl ?_|assumption)
      |((with_reducible apply q_call);refine X_pure (hC) rfl ?_)
      |((with_reducible apply q_CI);intro hbq;(try simp only [bq] at hbq);(try (exfalso;omega)))
      |refine Rex.o (by (with_reducible constructor);apply Eq.refl) ?_
      |(intro (hgq : (_ : Bool) = true);(try simp only [bq] at hgq))
      |(intro (hgq : (_ : Bool) = false);(try simp only [bq] at hgq))
      |((with_reducible apply q_VOk);exact fun _ => ⟨rfl,rfl⟩)|(intro _;exact rfl)|((with_reducible apply q_CRB);kernel_rfl)|((with_reducible apply q_bt);simp only [bq])|((with_reducible apply q_eqN);rfl)|((with_reducible apply q_FE);exact rfl)|with_reducible (first|exact isByte_wrap _|exact isByte_nat _)|(simp only [hgq,bq];done)|omega|(dsimp only;omega))
    · rfl
end Go.Proofs.Ytbpeakgihhdocaa.Av
namespace Go.Proofs.Ytbpeakgihhdocaa.Av
set_option linter.unusedVariables false
set_option linter.unusedSimpArgs false
set_option maxRecDepth 4000
set_option maxHeartbeats 4000000
theorem down_ok (a : Int) (ha : -9223372036854775808 ≤ a ∧ a ≤ 9223372036854775807) : OkV Try.prog 63 [.c (xI a)] [] (vI (a / 1000)) [] := by
  have h := floorDiv_okV a 1000 ha (by omega)
  refine X_fn mixedX Try.func63 rfl (by kernel_rfl) (Nat.le_of_ble_eq_true (by kernel_rfl)) (by kernel_rfl) rfl rfl (Nat.le_of_ble_eq_true rfl) rfl rfl ?_
  simp only [sl0, Nat.zero_add, Nat.reduceAdd]
  repeat' (first
    |with_reducible (first|refine q_and ?_ ?_|exact True.intro|exact TkEq.nil _|refine Red.o (by constructor) ?_|refine blockK_o' rfl ?_|refine LoopX_e' rfl ?_|assumption)
    |((with_reducible apply q_call);refine X_pure (h) rfl ?_)
    |((with_reducible apply q_CI);intro hbq;(try simp only [bq] at hbq);(try (exfalso;omega)))
    |refine Rex.o (by (with_reducible constructor);apply Eq.refl) ?_
    |(intro (hgq : (_ : Bool) = true);(try simp only [bq] at hgq))
    |(intro (hgq : (_ : Bool) = false);(try simp only [bq] at hgq))
    |((with_reducible apply q_VOk);exact fun _ => ⟨rfl,rfl⟩)|(intro _;exact rfl)|((with_reducible apply q_CRB);kernel_rfl)|((with_reducible apply q_bt);simp only [bq])|((with_reducible apply q_eqN);rfl)|((with_reducible apply q_FE);exact rfl)|with_reducible (first|exact isByte_wrap _|exact isByte_nat _)|(simp only [hgq,bq];done)|omega|(dsimp only;omega))
  repeat' (first|with_reducible (first|refine Wk.o (by constructor) ?_|refine q_and ?_ ?_|exact True.intro)|refine VEq.c ?_|refine VEq.agg ?_|refine VEq.tup ?_|refine TkEq.cells ?_ ?_|refine TkEq.els ?_ ?_|refine SEqL.cons ?_ ?_|refine TEqL.agg ?_ ?_|refine CEq.rows ?_|refine CEq.int ?_|rfl|omega)
end Go.Proofs.Ytbpeakgihhdocaa.Av
namespace Go.Proofs.Ytbpeakgihhdocaa.Av
set_option linter.unusedVariables false
set_option linter.unusedSimpArgs false
set_option maxRecDepth 4000
set_option maxHeartbeats 4000000
abbrev bOcc (l : List Occ) : Option SB := some (.els 3 fOcc vOcc mOcc ⟨0, 0, 0⟩ l)
def addO (t : List Occ) (x : Nat) (a b : Int) : List Occ := t.set x (if (t.getD x ⟨0, 0, 0⟩).frm < (t.getD x ⟨0, 0, 0⟩).til then ⟨x, min a (t.getD x ⟨0, 0, 0⟩).frm, max b (t.getD x ⟨0, 0, 0⟩).til⟩ else ⟨x, a, b⟩)
def usedO (o : Occ) : Bool := decide (o.frm < o.til)
theorem newTable_ok (L : Lay) (hV : Valid L) : OkV Try.prog 64 [vLay L] [] (.c (.c (.arr 1 0 (L.secs.length + L.pts.length) (L.secs.length + L.pts.length)))) [bLay L, bOcc (List.replicate (L.secs.length + L.pts.length) ⟨0, 0, 0⟩)] := by
  have h1 := hV.n2
  have h2 := hV.n3
  have e : ((L.secs.length : Int) + L.pts.length).toNat = L.secs.length + L.pts.length := by omega
  unfold vLay
  refine X_fn mixedX Try.func64 rfl (by kernel_rfl) (Nat.le_of_ble_eq_true (by kernel_rfl)) (by kernel_rfl) rfl rfl (Nat.le_of_ble_eq_true rfl) rfl rfl ?_
  simp only [sl0, Nat.zero_add, Nat.reduceAdd]
  repeat' (first
    |with_reducible (first|refine q_and ?_ ?_|exact True.intro|exact TkEq.nil _|refine Red.o (by constructor) ?_|refine blockK_o' rfl ?_|refine LoopX_e' rfl ?_|assumption)
    |((with_reducible apply q_CI);intro hbq;(try simp only [bq] at hbq);(try (exfalso;omega)))
    |refine Rex.o (by (with_reducible constructor);apply Eq.refl) ?_
    |(intro (hgq : (_ : Bool) = true);(try simp only [bq] at hgq))
    |(intro (hgq : (_ : Bool) = false);(try simp only [bq] at hgq))
    |((with_reducible apply q_VOk);exact fun _ => ⟨rfl,rfl⟩)|(intro _;exact rfl)|((with_reducible apply q_CRB);kernel_rfl)|((with_reducible apply q_bt);simp only [bq])|((with_reducible apply q_eqN);rfl)|((with_reducible apply q_FE);exact rfl)|with_reducible (first|exact isByte_wrap _|exact isByte_nat _)|(simp only [hgq,bq];done)|omega|(dsimp only;omega))
  · rw [e]; rfl
  · rw [e]
    repeat' (first|with_reducible (first|refine Wk.o (by constructor) ?_|refine q_and ?_ ?_|exact True.intro)|refine VEq.c ?_|refine VEq.agg ?_|refine VEq.tup ?_|refine TkEq.cells ?_ ?_|refine TkEq.els ?_ ?_|refine SEqL.cons ?_ ?_|refine TEqL.agg ?_ ?_|refine CEq.rows ?_|refine CEq.int ?_|rfl|omega)
theorem tadd_ok (t : List Occ) (x : Nat) (a b : Int) (hx : x < t.length) (hl : t.length ≤ 1000) : OkV Try.prog 65 [.c (.c (.arr 0 0 t.length t.length)), .c (xI x), .c (xI a), .c (xI b)] [bOcc t] (.tup []) [bOcc (addO t x a b)] := by
  unfold addO
  refine X_fn mixedX Try.func65 rfl (by kernel_rfl) (Nat.le_of_ble_eq_true (by kernel_rfl)) (by kernel_rfl) rfl rfl (Nat.le_of_ble_eq_true rfl) rfl rfl ?_
  simp only [sl0, Nat.zero_add, Nat.reduceAdd]
  repeat' (first
    |with_reducible (first|refine q_and ?_ ?_|exact True.intro|exact TkEq.nil _|refine Red.o (by constructor) ?_|refine blockK_o' rfl ?_|refine LoopX_e' rfl ?_|assumption)
    |((with_reducible apply q_CI);intro hbq;(try simp only [bq] at hbq);(try (exfalso;omega)))
    |refine Rex.o (by (with_reducible constructor);apply Eq.refl) ?_
    |(intro (hgq : (_ : Bool) = true);(try simp only [bq] at hgq))
    |(intro (hgq : (_ : Bool) = false);(try simp only [bq] at hgq))
    |((with_reducible apply q_VOk);exact fun _ => ⟨rfl,rfl⟩)|(intro _;exact rfl)|((with_reducible apply q_CRB);kernel_rfl)|((with_reducible apply q_bt);simp only [bq])|((with_reducible apply q_eqN);rfl)|((with_reducible apply q_FE);exact rfl)|with_reducible (first|exact isByte_wrap _|exact isByte_nat _)|(simp only [hgq,bq];done)|omega|(dsimp only;omega))
  · exact Nat.le_refl _
  · rfl
  · rfl
  · rw [if_pos (by simpa using hbq)]
    repeat' (first|with_reducible (first|refine Wk.o (by constructor) ?_|refine q_and ?_ ?_|exact True.intro)|refine VEq.c ?_|refine VEq.agg ?_|refine VEq.tup ?_|refine TkEq.cells ?_ ?_|refine TkEq.els ?_ ?_|refine SEqL.cons ?_ ?_|refine TEqL.agg ?_ ?_|refine CEq.rows ?_|refine CEq.int ?_|rfl|omega)
  · exact Nat.le_refl _
  · rfl
  · rfl
  · rw [if_neg (by simpa using hbq)]
    repeat' (first|with_reducible (first|refine Wk.o (by constructor) ?_|refine q_and ?_ ?_|exact True.intro)|refine VEq.c ?_|refine VEq.agg ?_|refine VEq.tup ?_|refine TkEq.cells ?_ ?_|refine TkEq.els ?_ ?_|refine SEqL.cons ?_ ?_|refine TEqL.agg ?_ ?_|refine CEq.rows ?_|refine CEq.int ?_|rfl|omega)
theorem tadd_okI (t : List Occ) (N : Nat) (x a b : Int) (hx : 0 ≤ x ∧ x < N) (hN : t.length = N) (hl : N ≤ 1000) : OkV Try.prog 65 [.c (.c (.arr 0 0 N N)), .c (xI x), .c (xI a), .c (xI b)] [bOcc t] (.tup []) [bOcc (addO t x.toNat a b)] := by
  have h := tadd_ok t x.toNat a b (by omega) (by omega)
  rwa [hN, Int.toNat_of_nonneg hx.1] at h
theorem tlist_okB (t : List Occ) (N : Nat) (hN : t.length = N) (hl : N ≤ 1000) : OkV Try.prog 67 [.c (.c (.arr 0 0 N N))] [bOcc t] (.c (rOcc (t.filter usedO))) [bOcc t] := by
  refine X_fn mixedX Try.func67 rfl (by kernel_rfl) (Nat.le_of_ble_eq_true (by kernel_rfl)) (by kernel_rfl) rfl rfl (Nat.le_of_ble_eq_true rfl) rfl rfl ?_
  simp only [sl0, Nat.zero_add, Nat.reduceAdd]
  repeat' (first
    |with_reducible (first|refine q_and ?_ ?_|exact True.intro|exact TkEq.nil _|refine Red.o (by constructor) ?_|refine blockK_o' rfl ?_|refine LoopX_e' rfl ?_|assumption)
    |((with_reducible apply q_CI);intro hbq;(try simp only [bq] at hbq);(try (exfalso;omega)))
    |refine Rex.o (by (with_reducible constructor);apply Eq.refl) ?_
    |(intro (hgq : (_ : Bool) = true);(try simp only [bq] at hgq))
    |(intro (hgq : (_ : Bool) = false);(try simp only [bq] at hgq))
    |((with_reducible apply q_VOk);exact fun _ => ⟨rfl,rfl⟩)|(intro _;exact rfl)|((with_reducible apply q_CRB);kernel_rfl)|((with_reducible apply q_bt);simp only [bq])|((with_reducible apply q_eqN);rfl)|((with_reducible apply q_FE);exact rfl)|with_reducible (first|exact isByte_wrap _|exact isByte_nat _)|(simp only [hgq,bq];done)|omega|(dsimp only;omega))
  refine W_loopS (fun i : Nat => SS [sC 3 (tOcc ((t.take i).filter usedO)), sC 6 (.c (.arr 0 0 N N)), sI 7 N, sI 8 i] [bOcc t]) (fun i => i ≤ N) (fun i => N - i) 0 ?_ (by omega) ?_
  ·
    refine X_weak rfl rfl rfl ?_ ?_ <;> repeat' (first|with_reducible (first|refine Wk.o (by constructor) ?_|refine q_and ?_ ?_|exact True.intro)|refine q_AgS rfl ?_ ?_|exact CLe.nil_tipS|exact CLe.nil_rowS|refine HLe.cells ?_ ?_|refine HLe.els ?_ ?_|refine SLe.cons ?_ ?_|exact (rfl : known _ = _)|with_reducible rfl|omega)
  intro i hi
  have hfl : ((t.take i).filter usedO).length ≤ 1000 := by
    have a := List.length_filter_le usedO (t.take i)
    rw [List.length_take] at a
    omega
  have hsn : i < t.length → (t.take (i + 1)).filter usedO = (t.take i).filter usedO ++ (if usedO (t.getD i ⟨0, 0, 0⟩) = true then [t.getD i ⟨0, 0, 0⟩] else []) := fun h => by
    rw [List.take_succ_eq_append_getElem h, List.filter_append, List.getD_eq_getElem?_getD, List.getElem?_eq_getElem h]
    simp only [Option.getD_some, List.filter_cons, List.filter_nil]
  repeat' (first
    |with_reducible (first|refine q_and ?_ ?_|exact True.intro|exact TkEq.nil _|refine Red.o (by constructor) ?_|refine blockK_o' rfl ?_|refine LoopX_e' rfl ?_|assumption)
    |((with_reducible apply q_CI);intro hbq;(try simp only [bq] at hbq);(try (exfalso;omega)))
    |refine Rex.o (by (with_reducible constructor);apply Eq.refl) ?_
    |(intro (hgq : (_ : Bool) = true);(try simp only [bq] at hgq))
    |(intro (hgq : (_ : Bool) = false);(try simp only [bq] at hgq))
    |((with_reducible apply q_VOk);exact fun _ => ⟨rfl,rfl⟩)|(intro _;exact rfl)|((with_reducible apply q_CRB);kernel_rfl)|((with_reducible apply q_bt);simp only [bq])|((with_reducible apply q_eqN);rfl)|((with_reducible apply q_FE);exact rfl)|with_reducible (first|exact isByte_wrap _|exact isByte_nat _)|(simp only [hgq,bq];done)|omega|(dsimp only;omega))
  · have hu : usedO (t.getD i ⟨0, 0, 0⟩) = true := by unfold usedO; simpa using hbq
    refine LoopK_n (i + 1) ?_ ((by omega)) (by (try dsimp only); omega)
    refine X_weak rfl rfl rfl ?_ ?_ <;> repeat' (first|with_reducible (first|refine Wk.o (by constructor) ?_|refine q_and ?_ ?_|exact True.intro)|refine q_AgS rfl ?_ ?_|exact CLe.nil_tipS|exact CLe.nil_rowS|refine HLe.cells ?_ ?_|refine HLe.els ?_ ?_|refine SLe.cons ?_ ?_|exact (rfl : known _ = _)|with_reducible rfl|omega)
    all_goals (rw [hsn (by omega), if_pos hu]; simp [fOcc, fI])
  · have hu : ¬ usedO (t.getD i ⟨0, 0, 0⟩) = true := by unfold usedO; simpa using hbq
    refine LoopK_n (i + 1) ?_ ((by omega)) (by (try dsimp only); omega)
    refine X_weak rfl rfl rfl ?_ ?_ <;> repeat' (first|with_reducible (first|refine Wk.o (by constructor) ?_|refine q_and ?_ ?_|exact True.intro)|refine q_AgS rfl ?_ ?_|exact CLe.nil_tipS|exact CLe.nil_rowS|refine HLe.cells ?_ ?_|refine HLe.els ?_ ?_|refine SLe.cons ?_ ?_|exact (rfl : known _ = _)|with_reducible rfl|omega)
    all_goals (rw [hsn (by omega), if_neg hu]; simp)
  · have hie : i = t.length := by omega
    subst hie
    rw [List.take_length]
    repeat' (first|with_reducible (first|refine Wk.o (by constructor) ?_|refine q_and ?_ ?_|exact True.intro)|refine VEq.c ?_|refine VEq.agg ?_|refine VEq.tup ?_|refine TkEq.cells ?_ ?_|refine TkEq.els ?_ ?_|refine SEqL.cons ?_ ?_|refine TEqL.agg ?_ ?_|refine CEq.rows ?_|refine CEq.int ?_|rfl|omega)
  ·
    repeat' (first|with_reducible (first|refine Wk.o (by constructor) ?_|refine q_and ?_ ?_|exact True.intro)|refine VEq.c ?_|refine VEq.agg ?_|refine VEq.tup ?_|refine TkEq.cells ?_ ?_|refine TkEq.els ?_ ?_|refine SEqL.cons ?_ ?_|refine TEqL.agg ?_ ?_|refine CEq.rows ?_|refine CEq.int ?_|rfl|omega)
end Go.Proofs.Ytbpeakgihhdocaa.Av
namespace Go.Proofs.Ytbpeakgihhdocaa.Av
set_option linter.unusedVariables false
set_option linter.unusedSimpArgs false
section
variable (L : Lay) (r : Rte) (l sp ac br bf af : Int)
def spF (i : Nat) : Int := if i = 0 then -bf else if i < (trv r).length then entF L r l sp ac br (i - 1) / 1000 - 16 else entF L r l sp ac br ((trv r).length - 1) / 1000 - 16
def spT (i : Nat) : Int := if i + 1 < (trv r).length then Pl.cdiv (levF L r l sp ac br i) 1000 + 4 else if i + 1 = (trv r).length then runI L r l sp ac br + af else runI L r l sp ac br + 20
def ptT (i : Nat) : Int := if i < (trv r).length then spT L r l sp ac br af (i - 1) else spT L r l sp ac br af i
end
theorem cd_le {a b : Int} (h : a ≤ b) : a / 1000 ≤ Pl.cdiv b 1000 := by
  obtain ⟨b1, b2⟩ := Pl.cdiv_bracket b 1000 (by omega)
  omega
section
variable {L : Lay} {r : Rte} {l sp ac br bf af : Int} (h : Ride L r l sp ac br)
include h
theorem ent_le_lev {i j : Nat} (hij : i ≤ j + 1) (hj : j < (trv r).length) : entF L r l sp ac br i ≤ levF L r l sp ac br j := by
  have a := lev_in h hj
  have b := endA_mono L (trv r) (show i - 1 ≤ j by omega)
  exact ride_mono h (by omega) a.2
theorem ent_le_end {i : Nat} (hi : i ≤ (trv r).length) : entF L r l sp ac br i ≤ rideT L r l sp ac br (endA L (trv r) ((trv r).length - 1)) := by
  have b := endA_mono L (trv r) (show i - 1 ≤ (trv r).length - 1 by omega)
  exact ride_mono h b (Nat.le_refl _)
theorem lev_pos {j : Nat} (hj : j < (trv r).length) : 0 ≤ levF L r l sp ac br j := (h.rng _ (lev_in h hj).2).1
theorem spF_lt (hb : 0 ≤ bf) (ha : 0 ≤ af) (i : Nat) : spF L r l sp ac br bf i < spT L r l sp ac br af i := by
  have hn := h.n2
  unfold spF spT runI
  by_cases h0 : i = 0
  · have a := lev_pos h (j := i) (by omega)
    have b := cd_le a
    rw [if_pos h0, if_pos (by omega)]
    omega
  · rw [if_neg h0]
    by_cases h1 : i < (trv r).length
    · rw [if_pos h1]
      by_cases h2 : i + 1 < (trv r).length
      · rw [if_pos h2]
        have := cd_le (ent_le_lev h (i := i - 1) (j := i) (by omega) h1)
        omega
      · rw [if_neg h2, if_pos (by omega)]
        have := cd_le (ent_le_end h (i := i - 1) (by omega))
        omega
    · rw [if_neg h1, if_neg (by omega), if_neg (by omega)]
      have := cd_le (ent_le_end h (i := (trv r).length - 1) (by omega))
      omega
end
def tabS (L : Lay) (st : List Stp) (F T P : Nat → Int) (i : Nat) (t : List Occ) : List Occ :=
  let t1 := addO t (st.getD i st0).sec.toNat (F i) (T i)
  if i = 0 then t1 else
  match joinL L (st.getD (i - 1) st0) (st.getD i st0) with
  | some k => if k.pt < 0 then t1 else addO t1 (L.secs.length + k.pt.toNat) (F i) (P i)
  | none => t1
def tabL (L : Lay) (st : List Stp) (F T P : Nat → Int) : Nat → List Occ
  | 0 => List.replicate (L.secs.length + L.pts.length) ⟨0, 0, 0⟩
  | i + 1 => tabS L st F T P i (tabL L st F T P i)
theorem addO_len (t : List Occ) (x : Nat) (a b : Int) : (addO t x a b).length = t.length := by unfold addO; rw [List.length_set]
theorem tabS_len (L : Lay) (st : List Stp) (F T P : Nat → Int) (i : Nat) (t : List Occ) : (tabS L st F T P i t).length = t.length := by
  unfold tabS
  simp only
  split
  · rw [addO_len]
  · split
    · split
      · rw [addO_len]
      · rw [addO_len, addO_len]
    · rw [addO_len]
theorem tabL_len (L : Lay) (st : List Stp) (F T P : Nat → Int) : ∀ i, (tabL L st F T P i).length = L.secs.length + L.pts.length
  | 0 => by simp [tabL]
  | i + 1 => by rw [tabL, tabS_len]; exact tabL_len L st F T P i
theorem hop_pt {L : Lay} (hV : Valid L) {a : Stp} {h : Hop} (hm : h ∈ hopsL L a) : -1 ≤ h.pt ∧ h.pt < L.pts.length := by
  unfold hopsL at hm
  obtain ⟨k, hk, e⟩ := List.mem_filterMap.1 hm
  have hl := linkB_of (hV.v4 k hk)
  unfold hopK at e
  split at e
  · injection e with e; subst e; exact ⟨hl.2.2.2.2.2.2.2.2.1, hl.2.2.2.2.2.2.2.2.2.1⟩
  · split at e
    · injection e with e; subst e; exact ⟨hl.2.2.2.2.2.2.2.2.1, hl.2.2.2.2.2.2.2.2.2.1⟩
    · cases e
theorem join_at {L : Lay} {r : Rte} (h : RteOk L r) {i : Nat} (h0 : 0 < i) (hi : i < r.st.length) : ∃ k, joinL L (r.st.getD (i - 1) st0) (r.st.getD i st0) = some k ∧ -1 ≤ k.pt ∧ k.pt < L.pts.length := by
  have hk := List.all_eq_true.1 h.link (i - 1) (List.mem_range.2 (by omega))
  unfold linkAt at hk
  rw [Nat.sub_add_cancel h0] at hk
  obtain ⟨k, hk⟩ := Option.isSome_iff_exists.1 hk
  refine ⟨k, hk, ?_⟩
  unfold joinL at hk
  exact hop_pt (valid_of h.lay) (List.mem_of_find?_eq_some hk)
end Go.Proofs.Ytbpeakgihhdocaa.Av
namespace Go.Proofs.Ytbpeakgihhdocaa.Av
set_option linter.unusedVariables false
set_option linter.unusedSimpArgs false
section
variable {L : Lay} {r : Rte} {l sp ac br : Int} (h : Ride L r l sp ac br)
include h
omit h in
theorem ent_zero : entF L r l sp ac br 0 = 0 := rfl
omit h in
theorem ent_one : entF L r l sp ac br 1 = 0 := rfl
end
end Go.Proofs.Ytbpeakgihhdocaa.Av
namespace Go.Proofs.Ytbpeakgihhdocaa.Av
set_option linter.unusedVariables false
set_option linter.unusedSimpArgs false
set_option maxRecDepth 4000
set_option maxHeartbeats 4000000
def rowO (n : Nat) (F T : Nat → Int) : List Occ := (List.range n).map fun i => ⟨0, F i, T i⟩
theorem rowO_len (n : Nat) (F T : Nat → Int) : (rowO n F T).length = n := by simp [rowO]
theorem rowO_snoc (n : Nat) (F T : Nat → Int) : rowO (n + 1) F T = rowO n F T ++ [⟨0, F n, T n⟩] := by
  unfold rowO; rw [List.range_succ, List.map_append]; rfl
theorem rowO_get {n : Nat} {F T : Nat → Int} {i : Nat} (h : i < n) : (rowO n F T).getD i ⟨0, 0, 0⟩ = ⟨0, F i, T i⟩ := by simp [rowO, List.getD_eq_getElem?_getD, h]
theorem occupations_bad (L : Lay) (hL : LayFits L) (st : List Stp) (ov : Int) (hl : st.length ≤ 9223372036854775807) (ho : -9223372036854775808 ≤ ov ∧ ov ≤ 9223372036854775807) (nm : ByteArray) (l sp ac br bf af : Int) (h : ¬ fitErr L ⟨st, ov⟩ l sp ac br = 0) : OkV Try.prog 38 [vLay L, vR2 st ov, vS5 nm l sp ac br, .c (xI bf), .c (xI af)] [] (.tup [.c (rOcc []), .c (xI 0), .c (xI (fitErr L ⟨st, ov⟩ l sp ac br))]) [] := by
  have hF := btimes_bad L hL st ov hl ho nm l sp ac br h
  unfold vLay at hF ⊢
  refine X_fn mixedX Try.func38 rfl (by kernel_rfl) (Nat.le_of_ble_eq_true (by kernel_rfl)) (by kernel_rfl) rfl rfl (Nat.le_of_ble_eq_true rfl) rfl rfl ?_
  simp only [sl0, Nat.zero_add, Nat.reduceAdd]
  repeat' (first
    |with_reducible (first|refine q_and ?_ ?_|exact True.intro|exact TkEq.nil _|refine Red.o (by constructor) ?_|refine blockK_o' rfl ?_|refine LoopX_e' rfl ?_|assumption)
    |((with_reducible apply q_call);refine X_pure (hF) rfl ?_)
    |((with_reducible apply q_CI);intro hbq;(try simp only [bq] at hbq);(try (exfalso;omega)))
    |refine Rex.o (by (with_reducible constructor);apply Eq.refl) ?_
    |(intro (hgq : (_ : Bool) = true);(try simp only [bq] at hgq))
    |(intro (hgq : (_ : Bool) = false);(try simp only [bq] at hgq))
    |((with_reducible apply q_VOk);exact fun _ => ⟨rfl,rfl⟩)|(intro _;exact rfl)|((with_reducible apply q_CRB);kernel_rfl)|((with_reducible apply q_bt);simp only [bq])|((with_reducible apply q_eqN);rfl)|((with_reducible apply q_FE);exact rfl)|with_reducible (first|exact isByte_wrap _|exact isByte_nat _)|(simp only [hgq,bq];done)|omega|(dsimp only;omega))
  · rfl
theorem occupations_ok (L : Lay) (hL : LayFits L) (st : List Stp) (ov : Int) (hl : st.length ≤ 9223372036854775807) (ho : -9223372036854775808 ≤ ov ∧ ov ≤ 9223372036854775807) (nm : ByteArray) (l sp ac br bf af : Int) (h : fitErr L ⟨st, ov⟩ l sp ac br = 0) (hb : 0 ≤ bf ∧ bf ≤ 1000000) (ha : 0 ≤ af ∧ af ≤ 1000000) : OkV Try.prog 38 [vLay L, vR2 st ov, vS5 nm l sp ac br, .c (xI bf), .c (xI af)] [] (.tup [.c (rOcc ((tabL L st (spF L ⟨st, ov⟩ l sp ac br bf) (spT L ⟨st, ov⟩ l sp ac br af) (ptT L ⟨st, ov⟩ l sp ac br af) st.length).filter usedO)), .c (xI (runI L ⟨st, ov⟩ l sp ac br)), .c (xI 0)]) [] := by
  have hF := btimes_ok L hL st ov hl ho nm l sp ac br h
  have hR := ride_of h
  have hN := newTable_ok L (valid_of hR.rt.lay)
  have hn2 := hR.n2
  have hn24 := hR.n24
  have hE1 := row_len (trv ⟨st, ov⟩).length fun k => rideT L ⟨st, ov⟩ l sp ac br (endA L (trv ⟨st, ov⟩) (k - 1))
  have hE2 : ∀ k, k < (trv ⟨st, ov⟩).length → (entL L ⟨st, ov⟩ l sp ac br (trv ⟨st, ov⟩).length).getD k 0 = entF L ⟨st, ov⟩ l sp ac br k := fun k hk => row_get hk
  have hL1 := row_len (trv ⟨st, ov⟩).length (levF L ⟨st, ov⟩ l sp ac br)
  have hL2 : ∀ k, k < (trv ⟨st, ov⟩).length → (levL L ⟨st, ov⟩ l sp ac br (trv ⟨st, ov⟩).length).getD k 0 = levF L ⟨st, ov⟩ l sp ac br k := fun k hk => row_get hk
  change (entL L ⟨st, ov⟩ l sp ac br (trv ⟨st, ov⟩).length).length = _ at hE1
  change (levL L ⟨st, ov⟩ l sp ac br (trv ⟨st, ov⟩).length).length = _ at hL1
  have hEb : ∀ k, k < (trv ⟨st, ov⟩).length → 0 ≤ entF L ⟨st, ov⟩ l sp ac br k ∧ entF L ⟨st, ov⟩ l sp ac br k ≤ 80000000 := fun k hk => hR.rng _ (endA_mono L _ (by omega))
  have hLb : ∀ k, k < (trv ⟨st, ov⟩).length → 0 ≤ levF L ⟨st, ov⟩ l sp ac br k ∧ levF L ⟨st, ov⟩ l sp ac br k ≤ 80000000 := fun k hk => hR.rng _ (lev_in hR hk).2
  have hrb : -1 ≤ runI L ⟨st, ov⟩ l sp ac br ∧ runI L ⟨st, ov⟩ l sp ac br ≤ 80001 := by
    have a := hR.rng _ (Nat.le_refl _)
    obtain ⟨b1, b2⟩ := Pl.cdiv_bracket (rideT L ⟨st, ov⟩ l sp ac br (endA L (trv ⟨st, ov⟩) ((trv ⟨st, ov⟩).length - 1))) 1000 (by omega)
    unfold runI
    omega
  generalize entL L ⟨st, ov⟩ l sp ac br (trv ⟨st, ov⟩).length = es at *
  generalize levL L ⟨st, ov⟩ l sp ac br (trv ⟨st, ov⟩).length = lv at *
  have hU := up_ok (lv.getD 0 0) (by have := hL2 0 (by omega); have := hLb 0 (by omega); omega)
  have hub := Pl.cdiv_bracket (lv.getD 0 0) 1000 (by omega)
  have hl0 := hL2 0 (by omega)
  have hl0b := hLb 0 (by omega)
  unfold vLay at hF hN ⊢
  refine X_fn mixedX Try.func38 rfl (by kernel_rfl) (Nat.le_of_ble_eq_true (by kernel_rfl)) (by kernel_rfl) rfl rfl (Nat.le_of_ble_eq_true rfl) rfl rfl ?_
  simp only [sl0, Nat.zero_add, Nat.reduceAdd]
  repeat' (first
    |with_reducible (first|refine q_and ?_ ?_|exact True.intro|exact TkEq.nil _|refine Red.o (by constructor) ?_|refine blockK_o' rfl ?_|refine LoopX_e' rfl ?_|assumption)
    |((with_reducible apply q_call);first|refine X_pure (hF) rfl ?_|refine X_pure (hU) rfl ?_)
    |((with_reducible apply q_CI);intro hbq;(try simp only [bq] at hbq);(try (exfalso;omega)))
    |refine Rex.o (by (with_reducible constructor);apply Eq.refl) ?_
    |(intro (hgq : (_ : Bool) = true);(try simp only [bq] at hgq))
    |(intro (hgq : (_ : Bool) = false);(try simp only [bq] at hgq))
    |((with_reducible apply q_VOk);exact fun _ => ⟨rfl,rfl⟩)|(intro _;exact rfl)|((with_reducible apply q_CRB);kernel_rfl)|((with_reducible apply q_bt);simp only [bq])|((with_reducible apply q_eqN);rfl)|((with_reducible apply q_FE);exact rfl)|with_reducible (first|exact isByte_wrap _|exact isByte_nat _)|(simp only [hgq,bq];done)|omega|(dsimp only;omega))
  clear hF
  have hF0 : spF L ⟨st, ov⟩ l sp ac br bf 0 = -bf := rfl
  have hT0 : spT L ⟨st, ov⟩ l sp ac br af 0 = Pl.cdiv (lv.getD 0 0) 1000 + 4 := by rw [hl0]; unfold spT; rw [if_pos (by omega)]
  refine W_loopS (fun k : Nat => SS [sI 3 bf, sI 4 af, sC 5 (pB 0), sC 6 (pB 1), sC 13 (rInt es), sC 14 (rInt lv), sI 15 (runI L ⟨st, ov⟩ l sp ac br), sI 17 ((trv ⟨st, ov⟩).length - 1 : Nat), sC 18 (tOcc (rowO (k + 1) (spF L ⟨st, ov⟩ l sp ac br bf) (spT L ⟨st, ov⟩ l sp ac br af))), sI 19 (k + 1 : Nat)] [bLay L, bRte st ov]) (fun k => k + 1 ≤ (trv ⟨st, ov⟩).length - 1) (fun k => (trv ⟨st, ov⟩).length - k) 0 ?_ (by omega) ?_
  ·
    refine X_weak rfl rfl rfl ?_ ?_ <;> repeat' (first|with_reducible (first|refine Wk.o (by constructor) ?_|refine q_and ?_ ?_|exact True.intro)|refine q_AgS rfl ?_ ?_|exact CLe.nil_tipS|exact CLe.nil_rowS|refine HLe.cells ?_ ?_|refine HLe.els ?_ ?_|refine SLe.cons ?_ ?_|exact (rfl : known _ = _)|with_reducible rfl|omega)
    all_goals first
      | omega
      | (
        rw [← hF0, ← hT0]
        rfl)
      | rw [rowO_len]
  intro k hk
  have hl2 := rowO_len (k + 1) (spF L ⟨st, ov⟩ l sp ac br bf) (spT L ⟨st, ov⟩ l sp ac br af)
  by_cases hkm : k + 1 < (trv ⟨st, ov⟩).length - 1
  · have e1 : (((k + 1 : Nat) : Int) - 1).toNat = k := by omega
    have c1 : es.getD (((k + 1 : Nat) : Int) - 1).toNat 0 = entF L ⟨st, ov⟩ l sp ac br k := by rw [e1]; exact hE2 k (by omega)
    have c2 : lv.getD ((k + 1 : Nat) : Int).toNat 0 = levF L ⟨st, ov⟩ l sp ac br (k + 1) := hL2 (k + 1) (by omega)
    have c3 := hEb k (by omega)
    have c4 := hLb (k + 1) (by omega)
    have hD := down_ok (es.getD (((k + 1 : Nat) : Int) - 1).toNat 0) (by omega)
    have hU2 := up_ok (lv.getD ((k + 1 : Nat) : Int).toNat 0) (by omega)
    have hub2 := Pl.cdiv_bracket (lv.getD ((k + 1 : Nat) : Int).toNat 0) 1000 (by omega)
    have f1 : spF L ⟨st, ov⟩ l sp ac br bf (k + 1) = es.getD (((k + 1 : Nat) : Int) - 1).toNat 0 / 1000 - 16 := by
      rw [c1]; unfold spF; rw [if_neg (by omega), if_pos (by omega)]; rfl
    have f2 : spT L ⟨st, ov⟩ l sp ac br af (k + 1) = Pl.cdiv (lv.getD ((k + 1 : Nat) : Int).toNat 0) 1000 + 4 := by
      rw [c2]; unfold spT; rw [if_pos (by omega)]
    repeat' (first
      |with_reducible (first|refine q_and ?_ ?_|exact True.intro|exact TkEq.nil _|refine Red.o (by constructor) ?_|refine blockK_o' rfl ?_|refine LoopX_e' rfl ?_|assumption)
      |((with_reducible apply q_call);first|refine X_pure (hD) rfl ?_|refine X_pure (hU2) rfl ?_)
      |((with_reducible apply q_CI);intro hbq;(try simp only [bq] at hbq);(try (exfalso;omega)))
      |refine Rex.o (by (with_reducible constructor);apply Eq.refl) ?_
      |(intro (hgq : (_ : Bool) = true);(try simp only [bq] at hgq))
      |(intro (hgq : (_ : Bool) = false);(try simp only [bq] at hgq))
      |((with_reducible apply q_VOk);exact fun _ => ⟨rfl,rfl⟩)|(intro _;exact rfl)|((with_reducible apply q_CRB);kernel_rfl)|((with_reducible apply q_bt);simp only [bq])|((with_reducible apply q_eqN);rfl)|((with_reducible apply q_FE);exact rfl)|with_reducible (first|exact isByte_wrap _|exact isByte_nat _)|(simp only [hgq,bq];done)|omega|(dsimp only;omega))
    ·
      refine LoopK_n (k + 1) ?_ ((by omega)) (by (try dsimp only); omega)
      refine X_weak rfl rfl rfl ?_ ?_ <;> repeat' (first|with_reducible (first|refine Wk.o (by constructor) ?_|refine q_and ?_ ?_|exact True.intro)|refine q_AgS rfl ?_ ?_|exact CLe.nil_tipS|exact CLe.nil_rowS|refine HLe.cells ?_ ?_|refine HLe.els ?_ ?_|refine SLe.cons ?_ ?_|exact (rfl : known _ = _)|with_reducible rfl|omega)
      · rw [rowO_snoc (k + 1), f1, f2]; simp [fOcc, fI]
      · rw [rowO_len, rowO_len]
  have hkn : k + 1 = (trv ⟨st, ov⟩).length - 1 := by omega
  have e1 : ((((trv ⟨st, ov⟩).length - 1 : Nat) : Int) - 1).toNat = k := by omega
  have e2 : (((trv ⟨st, ov⟩).length - 1 : Nat) : Int).toNat = k + 1 := by omega
  have c1 : es.getD ((((trv ⟨st, ov⟩).length - 1 : Nat) : Int) - 1).toNat 0 = entF L ⟨st, ov⟩ l sp ac br k := by rw [e1]; exact hE2 k (by omega)
  have c2 : es.getD (((trv ⟨st, ov⟩).length - 1 : Nat) : Int).toNat 0 = entF L ⟨st, ov⟩ l sp ac br (k + 1) := by rw [e2]; exact hE2 (k + 1) (by omega)
  have c3 := hEb k (by omega)
  have c4 := hEb (k + 1) (by omega)
  have hD1 := down_ok (es.getD ((((trv ⟨st, ov⟩).length - 1 : Nat) : Int) - 1).toNat 0) (by omega)
  have hD2 := down_ok (es.getD (((trv ⟨st, ov⟩).length - 1 : Nat) : Int).toNat 0) (by omega)
  repeat' (first
    |with_reducible (first|refine q_and ?_ ?_|exact True.intro|exact TkEq.nil _|refine Red.o (by constructor) ?_|refine blockK_o' rfl ?_|refine LoopX_e' rfl ?_|assumption)
    |((with_reducible apply q_call);first|refine X_pure (hD1) rfl ?_|refine X_pure (hD2) rfl ?_|refine X_call [] (hN) rfl rfl rfl rfl rfl rfl rfl rfl rfl rfl rfl rfl rfl ?_)
    |((with_reducible apply q_CI);intro hbq;(try simp only [bq] at hbq);(try (exfalso;omega)))
    |refine Rex.o (by (with_reducible constructor);apply Eq.refl) ?_
    |(intro (hgq : (_ : Bool) = true);(try simp only [bq] at hgq))
    |(intro (hgq : (_ : Bool) = false);(try simp only [bq] at hgq))
    |((with_reducible apply q_VOk);exact fun _ => ⟨rfl,rfl⟩)|(intro _;exact rfl)|((with_reducible apply q_CRB);kernel_rfl)|((with_reducible apply q_bt);simp only [bq])|((with_reducible apply q_eqN);rfl)|((with_reducible apply q_FE);exact rfl)|with_reducible (first|exact isByte_wrap _|exact isByte_nat _)|(simp only [hgq,bq];done)|omega|(dsimp only;omega))
  have g1 : spF L ⟨st, ov⟩ l sp ac br bf (k + 1) = es.getD ((((trv ⟨st, ov⟩).length - 1 : Nat) : Int) - 1).toNat 0 / 1000 - 16 := by
    rw [c1]; unfold spF; rw [if_neg (by omega), if_pos (by omega)]; rfl
  have g2 : spT L ⟨st, ov⟩ l sp ac br af (k + 1) = runI L ⟨st, ov⟩ l sp ac br + af := by
    unfold spT; rw [if_neg (by omega), if_pos (by omega)]
  have g3 : ∀ i, (trv ⟨st, ov⟩).length ≤ i → spF L ⟨st, ov⟩ l sp ac br bf i = es.getD (((trv ⟨st, ov⟩).length - 1 : Nat) : Int).toNat 0 / 1000 - 16 := fun i hi => by
    rw [c2]; unfold spF; rw [if_neg (by omega), if_neg (by omega), ← hkn]
  have g4 : ∀ i, (trv ⟨st, ov⟩).length ≤ i → spT L ⟨st, ov⟩ l sp ac br af i = runI L ⟨st, ov⟩ l sp ac br + 20 := fun i hi => by
    unfold spT; rw [if_neg (by omega), if_neg (by omega)]
  have gp1 : ∀ i, 0 < i → i < (trv ⟨st, ov⟩).length → ptT L ⟨st, ov⟩ l sp ac br af i = spT L ⟨st, ov⟩ l sp ac br af (i - 1) := fun i h0 hi => by unfold ptT; rw [if_pos hi]
  have gp2 : ∀ i, (trv ⟨st, ov⟩).length ≤ i → ptT L ⟨st, ov⟩ l sp ac br af i = spT L ⟨st, ov⟩ l sp ac br af i := fun i hi => by unfold ptT; rw [if_neg (by omega)]
  have gb : ∀ i, -1000100 ≤ spF L ⟨st, ov⟩ l sp ac br bf i ∧ spF L ⟨st, ov⟩ l sp ac br bf i ≤ 80001000 := fun i => by
    unfold spF
    split
    · omega
    · split
      · have := hEb (i - 1) (by omega); omega
      · have := hEb ((trv ⟨st, ov⟩).length - 1) (by omega); omega
  have hn4 : (trv ⟨st, ov⟩).length ≤ st.length := by
    have h1 := hR.n
    have h2 := hR.rt.ov0
    simp only at h1 h2
    omega
  have hRt := hR.rt
  have hV := valid_of hRt.lay
  have hsx : ∀ i, i < st.length → Stp.ok L (st.getD i st0) = true := fun i hi => all_at hRt.ok hi
  have hNb : L.secs.length + L.pts.length ≤ 1000 := by have := hV.n2; have := hV.n3; omega
  have hBt := fun a b ha => between_ok L hL hRt.lay a b ha
  have hst24 := hRt.len
  simp only at hst24
  have hgl := fun i => tabL_len L st (spF L ⟨st, ov⟩ l sp ac br bf) (spT L ⟨st, ov⟩ l sp ac br af) (ptT L ⟨st, ov⟩ l sp ac br af) i
  have hjn : ∀ i, 0 < i → i < st.length → ∃ k, joinL L (st.getD (i - 1) st0) (st.getD i st0) = some k ∧ -1 ≤ k.pt ∧ k.pt < L.pts.length := fun i h0 hi => join_at hRt h0 hi
  clear hE2 hL2 hEb hLb hD1 hD2 hN c1 c2 hl0 hT0 hF0 hU hub hl0b hk hn24
  generalize spF L ⟨st, ov⟩ l sp ac br bf = F at *
  generalize spT L ⟨st, ov⟩ l sp ac br af = T at *
  generalize ptT L ⟨st, ov⟩ l sp ac br af = P at *
  generalize runI L ⟨st, ov⟩ l sp ac br = run at *
  generalize hnn : (trv ⟨st, ov⟩).length = n at *
  generalize hov : es.getD ((n - 1 : Nat) : Int).toNat 0 / 1000 - 16 = ovF at *
  have hmx : max 0 n = k + 1 + 1 := by omega
  refine W_loopS (fun i : Nat => SS [sC 5 (pB 0), sC 6 (pB 1), sI 15 run, sI 17 (n - 1 : Nat), sC 18 (uOcc (rowO (max i n) F T)), sC 20 (pB 2), sC 21 (.c (.arr 4 0 (L.secs.length + L.pts.length) (L.secs.length + L.pts.length))), sC 97 (rStp st), sI 98 st.length, sI 99 i] [bLay L, bRte st ov, some (.cells [xI 0, xI ovF, xI (run + 20)]), none, bOcc (tabL L st F T P i)]) (fun i => i ≤ st.length) (fun i => st.length - i) 0 ?_ (by omega) ?_
  ·
    refine X_weak rfl rfl rfl ?_ ?_ <;> repeat' (first|with_reducible (first|refine Wk.o (by constructor) ?_|refine q_and ?_ ?_|exact True.intro)|refine q_AgS rfl ?_ ?_|exact CLe.nil_tipS|exact CLe.nil_rowS|refine HLe.cells ?_ ?_|refine HLe.els ?_ ?_|refine SLe.cons ?_ ?_|exact (rfl : known _ = _)|with_reducible rfl|omega)
    · rfl
    · rw [hmx, rowO_snoc (k + 1), g1, g2]; simp [fOcc, fI]
    · rw [hmx, rowO_len, rowO_len]
  clear g1 g2 hl2
  intro i hi
  have hl3 := rowO_len (max i n) F T
  by_cases hil : i < st.length
  · have s1 : 0 ≤ (st.getD (i : Int).toNat { sec := 0, dir := 0 }).sec ∧ (st.getD (i : Int).toNat { sec := 0, dir := 0 }).sec < L.secs.length := ⟨(ok_dir (hsx i hil)).1, (ok_dir (hsx i hil)).2.1⟩
    have hTl := hgl i
    by_cases hin : i < n
    · have m1 : max i n = n := by omega
      have m2 : max (i + 1) n = n := by omega
      have q1 : (rowO (max i n) F T).getD (i : Int).toNat { res := 0, frm := 0, til := 0 } = ⟨0, F i, T i⟩ := by rw [Int.toNat_natCast]; exact rowO_get (by omega)
      have hA1 := tadd_okI (tabL L st F T P i) (L.secs.length + L.pts.length) (st.getD (i : Int).toNat { sec := 0, dir := 0 }).sec ((rowO (max i n) F T).getD (i : Int).toNat { res := 0, frm := 0, til := 0 }).frm ((rowO (max i n) F T).getD (i : Int).toNat { res := 0, frm := 0, til := 0 }).til ⟨s1.1, by omega⟩ hTl hNb
      have e0 : tabL L st F T P (i + 1) = tabS L st F T P i (tabL L st F T P i) := rfl
      by_cases hi0 : i = 0
      · have e1 : tabL L st F T P (i + 1) = addO (tabL L st F T P i) (st.getD (i : Int).toNat { sec := 0, dir := 0 }).sec.toNat ((rowO (max i n) F T).getD (i : Int).toNat { res := 0, frm := 0, til := 0 }).frm ((rowO (max i n) F T).getD (i : Int).toNat { res := 0, frm := 0, til := 0 }).til := by
          rw [e0, q1, Int.toNat_natCast]; unfold tabS; rw [if_pos hi0]
        repeat' (first
          |with_reducible (first|refine q_and ?_ ?_|exact True.intro|exact TkEq.nil _|refine Red.o (by constructor) ?_|refine blockK_o' rfl ?_|refine LoopX_e' rfl ?_|assumption)
          |((with_reducible apply q_call);refine X_call [4] (hA1) rfl rfl rfl rfl rfl rfl rfl rfl rfl rfl rfl rfl rfl ?_)
          |((with_reducible apply q_CI);intro hbq;(try simp only [bq] at hbq);(try (exfalso;omega)))
          |with_reducible (first|refine W_seq ?_|refine W_block ?_)
          |((with_reducible apply q_cond);refine X_cond rfl ?_ ?_;all_goals (intro hbq;(try simp only [bq] at hbq);(try (exfalso;omega))))
          |refine Rex.o (by (with_reducible constructor);apply Eq.refl) ?_
          |(intro (hgq : (_ : Bool) = true);(try simp only [bq] at hgq))
          |(intro (hgq : (_ : Bool) = false);(try simp only [bq] at hgq))
          |((with_reducible apply q_VOk);exact fun _ => ⟨rfl,rfl⟩)|(intro _;exact rfl)|((with_reducible apply q_CRB);kernel_rfl)|((with_reducible apply q_bt);simp only [bq])|((with_reducible apply q_eqN);rfl)|((with_reducible apply q_FE);exact rfl)|with_reducible (first|exact isByte_wrap _|exact isByte_nat _)|(simp only [hgq,bq];done)|omega|(dsimp only;omega))
        ·
          refine LoopK_n (i + 1) ?_ ((by omega)) (by (try dsimp only); omega)
          refine X_weak rfl rfl rfl ?_ ?_ <;> repeat' (first|with_reducible (first|refine Wk.o (by constructor) ?_|refine q_and ?_ ?_|exact True.intro)|refine q_AgS rfl ?_ ?_|exact CLe.nil_tipS|exact CLe.nil_rowS|refine HLe.cells ?_ ?_|refine HLe.els ?_ ?_|refine SLe.cons ?_ ?_|exact (rfl : known _ = _)|with_reducible rfl|omega)
          · rw [e1]
          · rw [m1, m2]
      · obtain ⟨j, hj, hj1, hj2⟩ := hjn i (by omega) hil
        have eI : ((i : Int) - 1).toNat = i - 1 := by omega
        have q2 : (rowO (max i n) F T).getD ((i : Int) - 1).toNat { res := 0, frm := 0, til := 0 } = ⟨0, F (i - 1), T (i - 1)⟩ := by rw [eI]; exact rowO_get (by omega)
        have hB : OkV Try.prog 66 [vLay L, vSt (st.getD ((i : Int) - 1).toNat { sec := 0, dir := 0 }), vSt (st.getD (i : Int).toNat { sec := 0, dir := 0 })] [] (vI j.pt) [] := by
          have h0 := hBt (st.getD (i - 1) st0) (st.getD i st0) (hsx (i - 1) (by omega))
          rw [hj] at h0
          rw [eI]
          exact h0
        unfold vLay at hB
        generalize hA : addO (tabL L st F T P i) (st.getD (i : Int).toNat { sec := 0, dir := 0 }).sec.toNat ((rowO (max i n) F T).getD (i : Int).toNat { res := 0, frm := 0, til := 0 }).frm ((rowO (max i n) F T).getD (i : Int).toNat { res := 0, frm := 0, til := 0 }).til = A at hA1
        have hAl : A.length = L.secs.length + L.pts.length := by rw [← hA, addO_len, hTl]
        by_cases hjp : j.pt < 0
        · have e1 : tabL L st F T P (i + 1) = A := by
            rw [e0, ← hA, q1, Int.toNat_natCast]; unfold tabS; rw [if_neg hi0, hj]; simp only; rw [if_pos hjp]
          repeat' (first
            |with_reducible (first|refine q_and ?_ ?_|exact True.intro|exact TkEq.nil _|refine Red.o (by constructor) ?_|refine blockK_o' rfl ?_|refine LoopX_e' rfl ?_|assumption)
            |((with_reducible apply q_call);first|refine X_call [4] (hA1) rfl rfl rfl rfl rfl rfl rfl rfl rfl rfl rfl rfl rfl ?_|refine X_pure (hB) rfl ?_)
            |((with_reducible apply q_CI);intro hbq;(try simp only [bq] at hbq);(try (exfalso;omega)))
            |with_reducible (first|refine W_seq ?_|refine W_block ?_)
            |((with_reducible apply q_cond);refine X_cond rfl ?_ ?_;all_goals (intro hbq;(try simp only [bq] at hbq);(try (exfalso;omega))))
            |refine Rex.o (by (with_reducible constructor);apply Eq.refl) ?_
            |(intro (hgq : (_ : Bool) = true);(try simp only [bq] at hgq))
            |(intro (hgq : (_ : Bool) = false);(try simp only [bq] at hgq))
            |((with_reducible apply q_VOk);exact fun _ => ⟨rfl,rfl⟩)|(intro _;exact rfl)|((with_reducible apply q_CRB);kernel_rfl)|((with_reducible apply q_bt);simp only [bq])|((with_reducible apply q_eqN);rfl)|((with_reducible apply q_FE);exact rfl)|with_reducible (first|exact isByte_wrap _|exact isByte_nat _)|(simp only [hgq,bq];done)|omega|(dsimp only;omega))
          ·
            refine LoopK_n (i + 1) ?_ ((by omega)) (by (try dsimp only); omega)
            refine X_weak rfl rfl rfl ?_ ?_ <;> repeat' (first|with_reducible (first|refine Wk.o (by constructor) ?_|refine q_and ?_ ?_|exact True.intro)|refine q_AgS rfl ?_ ?_|exact CLe.nil_tipS|exact CLe.nil_rowS|refine HLe.cells ?_ ?_|refine HLe.els ?_ ?_|refine SLe.cons ?_ ?_|exact (rfl : known _ = _)|with_reducible rfl|omega)
            · rw [e1]
            · rw [m1, m2]
        · have hA2 := tadd_okI A (L.secs.length + L.pts.length) (L.secs.length + j.pt) ((rowO (max i n) F T).getD (i : Int).toNat { res := 0, frm := 0, til := 0 }).frm ((rowO (max i n) F T).getD ((i : Int) - 1).toNat { res := 0, frm := 0, til := 0 }).til ⟨by omega, by omega⟩ hAl hNb
          have e1 : tabL L st F T P (i + 1) = addO A ((L.secs.length : Int) + j.pt).toNat ((rowO (max i n) F T).getD (i : Int).toNat { res := 0, frm := 0, til := 0 }).frm ((rowO (max i n) F T).getD ((i : Int) - 1).toNat { res := 0, frm := 0, til := 0 }).til := by
            rw [e0, ← hA, q1, q2, Int.toNat_natCast]; unfold tabS; rw [if_neg hi0, hj]; simp only; rw [if_neg hjp, gp1 i (by omega) hin, show ((L.secs.length : Int) + j.pt).toNat = L.secs.length + j.pt.toNat by omega]
          repeat' (first
            |with_reducible (first|refine q_and ?_ ?_|exact True.intro|exact TkEq.nil _|refine Red.o (by constructor) ?_|refine blockK_o' rfl ?_|refine LoopX_e' rfl ?_|assumption)
            |((with_reducible apply q_call);first|refine X_call [4] (hA1) rfl rfl rfl rfl rfl rfl rfl rfl rfl rfl rfl rfl rfl ?_|refine X_call [4] (hA2) rfl rfl rfl rfl rfl rfl rfl rfl rfl rfl rfl rfl rfl ?_|refine X_pure (hB) rfl ?_)
            |((with_reducible apply q_CI);intro hbq;(try simp only [bq] at hbq);(try (exfalso;omega)))
            |with_reducible (first|refine W_seq ?_|refine W_block ?_)
            |((with_reducible apply q_cond);refine X_cond rfl ?_ ?_;all_goals (intro hbq;(try simp only [bq] at hbq);(try (exfalso;omega))))
            |refine Rex.o (by (with_reducible constructor);apply Eq.refl) ?_
            |(intro (hgq : (_ : Bool) = true);(try simp only [bq] at hgq))
            |(intro (hgq : (_ : Bool) = false);(try simp only [bq] at hgq))
            |((with_reducible apply q_VOk);exact fun _ => ⟨rfl,rfl⟩)|(intro _;exact rfl)|((with_reducible apply q_CRB);kernel_rfl)|((with_reducible apply q_bt);simp only [bq])|((with_reducible apply q_eqN);rfl)|((with_reducible apply q_FE);exact rfl)|with_reducible (first|exact isByte_wrap _|exact isByte_nat _)|(simp only [hgq,bq];done)|omega|(dsimp only;omega))
          ·
            refine LoopK_n (i + 1) ?_ ((by omega)) (by (try dsimp only); omega)
            refine X_weak rfl rfl rfl ?_ ?_ <;> repeat' (first|with_reducible (first|refine Wk.o (by constructor) ?_|refine q_and ?_ ?_|exact True.intro)|refine q_AgS rfl ?_ ?_|exact CLe.nil_tipS|exact CLe.nil_rowS|refine HLe.cells ?_ ?_|refine HLe.els ?_ ?_|refine SLe.cons ?_ ?_|exact (rfl : known _ = _)|with_reducible rfl|omega)
            · rw [e1]
            · rw [m1, m2]
    · have m1 : max i n = i := by omega
      have m2 : max (i + 1) n = i + 1 := by omega
      have q0 : rowO (max i n) F T ++ [Occ.mk 0 ovF (run + 20)] = rowO (i + 1) F T := by rw [m1, rowO_snoc, g3 i (by omega), g4 i (by omega)]
      have q1 : (rowO (max i n) F T ++ [Occ.mk 0 ovF (run + 20)]).getD (i : Int).toNat { res := 0, frm := 0, til := 0 } = ⟨0, F i, T i⟩ := by rw [q0, Int.toNat_natCast]; exact rowO_get (by omega)
      have q5 : (rowO (max i n) F T ++ [Occ.mk 0 ovF (run + 20)]).length = i + 1 := by rw [q0, rowO_len]
      have hA1 := tadd_okI (tabL L st F T P i) (L.secs.length + L.pts.length) (st.getD (i : Int).toNat { sec := 0, dir := 0 }).sec ((rowO (max i n) F T ++ [Occ.mk 0 ovF (run + 20)]).getD (i : Int).toNat { res := 0, frm := 0, til := 0 }).frm ((rowO (max i n) F T ++ [Occ.mk 0 ovF (run + 20)]).getD (i : Int).toNat { res := 0, frm := 0, til := 0 }).til ⟨s1.1, by omega⟩ hTl hNb
      have e0 : tabL L st F T P (i + 1) = tabS L st F T P i (tabL L st F T P i) := rfl
      have hi0 : ¬ i = 0 := by omega
      obtain ⟨j, hj, hj1, hj2⟩ := hjn i (by omega) hil
      have eI : ((i : Int) - 1).toNat = i - 1 := by omega
      have hB : OkV Try.prog 66 [vLay L, vSt (st.getD ((i : Int) - 1).toNat { sec := 0, dir := 0 }), vSt (st.getD (i : Int).toNat { sec := 0, dir := 0 })] [] (vI j.pt) [] := by
        have h0 := hBt (st.getD (i - 1) st0) (st.getD i st0) (hsx (i - 1) (by omega))
        rw [hj] at h0
        rw [eI]
        exact h0
      unfold vLay at hB
      generalize hA : addO (tabL L st F T P i) (st.getD (i : Int).toNat { sec := 0, dir := 0 }).sec.toNat ((rowO (max i n) F T ++ [Occ.mk 0 ovF (run + 20)]).getD (i : Int).toNat { res := 0, frm := 0, til := 0 }).frm ((rowO (max i n) F T ++ [Occ.mk 0 ovF (run + 20)]).getD (i : Int).toNat { res := 0, frm := 0, til := 0 }).til = A at hA1
      have hAl : A.length = L.secs.length + L.pts.length := by rw [← hA, addO_len, hTl]
      by_cases hjp : j.pt < 0
      · have e1 : tabL L st F T P (i + 1) = A := by
          rw [e0, ← hA, q1, Int.toNat_natCast]; unfold tabS; rw [if_neg hi0, hj]; simp only; rw [if_pos hjp]
        repeat' (first
          |with_reducible (first|refine q_and ?_ ?_|exact True.intro|exact TkEq.nil _|refine Red.o (by constructor) ?_|refine blockK_o' rfl ?_|refine LoopX_e' rfl ?_|assumption)
          |((with_reducible apply q_call);first|refine X_call [4] (hA1) rfl rfl rfl rfl rfl rfl rfl rfl rfl rfl rfl rfl rfl ?_|refine X_pure (hB) rfl ?_)
          |((with_reducible apply q_CI);intro hbq;(try simp only [bq] at hbq);(try (exfalso;omega)))
          |with_reducible (first|refine W_seq ?_|refine W_block ?_)
          |((with_reducible apply q_cond);refine X_cond rfl ?_ ?_;all_goals (intro hbq;(try simp only [bq] at hbq);(try (exfalso;omega))))
          |refine Rex.o (by (with_reducible constructor);apply Eq.refl) ?_
          |(intro (hgq : (_ : Bool) = true);(try simp only [bq] at hgq))
          |(intro (hgq : (_ : Bool) = false);(try simp only [bq] at hgq))
          |((with_reducible apply q_VOk);exact fun _ => ⟨rfl,rfl⟩)|(intro _;exact rfl)|((with_reducible apply q_CRB);kernel_rfl)|((with_reducible apply q_bt);simp only [bq])|((with_reducible apply q_eqN);rfl)|((with_reducible apply q_FE);exact rfl)|with_reducible (first|exact isByte_wrap _|exact isByte_nat _)|(simp only [hgq,bq];done)|omega|(dsimp only;omega))
        ·
          refine LoopK_n (i + 1) ?_ ((by omega)) (by (try dsimp only); omega)
          refine X_weak rfl rfl rfl ?_ ?_ <;> repeat' (first|with_reducible (first|refine Wk.o (by constructor) ?_|refine q_and ?_ ?_|exact True.intro)|refine q_AgS rfl ?_ ?_|exact CLe.nil_tipS|exact CLe.nil_rowS|refine HLe.cells ?_ ?_|refine HLe.els ?_ ?_|refine SLe.cons ?_ ?_|exact (rfl : known _ = _)|with_reducible rfl|omega)
          · rw [e1]
          · rw [q0, m2]
      · have hA2 := tadd_okI A (L.secs.length + L.pts.length) (L.secs.length + j.pt) ovF (run + 20) ⟨by omega, by omega⟩ hAl hNb
        have e1 : tabL L st F T P (i + 1) = addO A ((L.secs.length : Int) + j.pt).toNat ovF (run + 20) := by
          rw [e0, ← hA, q1, Int.toNat_natCast]; unfold tabS; rw [if_neg hi0, hj]; simp only; rw [if_neg hjp, gp2 i (by omega), g3 i (by omega), g4 i (by omega), show ((L.secs.length : Int) + j.pt).toNat = L.secs.length + j.pt.toNat by omega]
        repeat' (first
          |with_reducible (first|refine q_and ?_ ?_|exact True.intro|exact TkEq.nil _|refine Red.o (by constructor) ?_|refine blockK_o' rfl ?_|refine LoopX_e' rfl ?_|assumption)
          |((with_reducible apply q_call);first|refine X_call [4] (hA1) rfl rfl rfl rfl rfl rfl rfl rfl rfl rfl rfl rfl rfl ?_|refine X_call [4] (hA2) rfl rfl rfl rfl rfl rfl rfl rfl rfl rfl rfl rfl rfl ?_|refine X_pure (hB) rfl ?_)
          |((with_reducible apply q_CI);intro hbq;(try simp only [bq] at hbq);(try (exfalso;omega)))
          |with_reducible (first|refine W_seq ?_|refine W_block ?_)
          |((with_reducible apply q_cond);refine X_cond rfl ?_ ?_;all_goals (intro hbq;(try simp only [bq] at hbq);(try (exfalso;omega))))
          |refine Rex.o (by (with_reducible constructor);apply Eq.refl) ?_
          |(intro (hgq : (_ : Bool) = true);(try simp only [bq] at hgq))
          |(intro (hgq : (_ : Bool) = false);(try simp only [bq] at hgq))
          |((with_reducible apply q_VOk);exact fun _ => ⟨rfl,rfl⟩)|(intro _;exact rfl)|((with_reducible apply q_CRB);kernel_rfl)|((with_reducible apply q_bt);simp only [bq])|((with_reducible apply q_eqN);rfl)|((with_reducible apply q_FE);exact rfl)|with_reducible (first|exact isByte_wrap _|exact isByte_nat _)|(simp only [hgq,bq];done)|omega|(dsimp only;omega))
        ·
          refine LoopK_n (i + 1) ?_ ((by omega)) (by (try dsimp only); omega)
          refine X_weak rfl rfl rfl ?_ ?_ <;> repeat' (first|with_reducible (first|refine Wk.o (by constructor) ?_|refine q_and ?_ ?_|exact True.intro)|refine q_AgS rfl ?_ ?_|exact CLe.nil_tipS|exact CLe.nil_rowS|refine HLe.cells ?_ ?_|refine HLe.els ?_ ?_|refine SLe.cons ?_ ?_|exact (rfl : known _ = _)|with_reducible rfl|omega)
          · rw [e1]
          · rw [q0, m2]
  · have hie : i = st.length := by omega
    subst hie
    have hLs := tlist_okB (tabL L st F T P st.length) (L.secs.length + L.pts.length) (hgl _) hNb
    repeat' (first
      |with_reducible (first|refine q_and ?_ ?_|exact True.intro|exact TkEq.nil _|refine Red.o (by constructor) ?_|refine blockK_o' rfl ?_|refine LoopX_e' rfl ?_|assumption)
      |((with_reducible apply q_call);refine X_call [4] (hLs) rfl rfl rfl rfl rfl rfl rfl rfl rfl rfl rfl rfl rfl ?_)
      |((with_reducible apply q_CI);intro hbq;(try simp only [bq] at hbq);(try (exfalso;omega)))
      |with_reducible (first|refine W_seq ?_|refine W_block ?_)
      |((with_reducible apply q_cond);refine X_cond rfl ?_ ?_;all_goals (intro hbq;(try simp only [bq] at hbq);(try (exfalso;omega))))
      |refine Rex.o (by (with_reducible constructor);apply Eq.refl) ?_
      |(intro (hgq : (_ : Bool) = true);(try simp only [bq] at hgq))
      |(intro (hgq : (_ : Bool) = false);(try simp only [bq] at hgq))
      |((with_reducible apply q_VOk);exact fun _ => ⟨rfl,rfl⟩)|(intro _;exact rfl)|((with_reducible apply q_CRB);kernel_rfl)|((with_reducible apply q_bt);simp only [bq])|((with_reducible apply q_eqN);rfl)|((with_reducible apply q_FE);exact rfl)|with_reducible (first|exact isByte_wrap _|exact isByte_nat _)|(simp only [hgq,bq];done)|omega|(dsimp only;omega))
    · rfl
end Go.Proofs.Ytbpeakgihhdocaa.Av
namespace Go.Proofs.Ytbpeakgihhdocaa.Av
set_option linter.unusedVariables false
set_option linter.unusedSimpArgs false
set_option maxRecDepth 4000
set_option maxHeartbeats 4000000
def occL (L : Lay) (st : List Stp) (ov l sp ac br bf af : Int) : List Occ := (tabL L st (spF L ⟨st, ov⟩ l sp ac br bf) (spT L ⟨st, ov⟩ l sp ac br af) (ptT L ⟨st, ov⟩ l sp ac br af) st.length).filter usedO
theorem stairs_ok (L : Lay) (hL : LayFits L) (st : List Stp) (ov : Int) (hl : st.length ≤ 9223372036854775807) (ho : -9223372036854775808 ≤ ov ∧ ov ≤ 9223372036854775807) (nm : ByteArray) (l sp ac br : Int) (h : fitErr L ⟨st, ov⟩ l sp ac br = 0) : OkV Try.prog 19 [vLay L, vR2 st ov, vS5 nm l sp ac br] [] (.tup [.c (rOcc (occL L st ov l sp ac br 0 0)), .c (xI (runI L ⟨st, ov⟩ l sp ac br)), .c (xI 0)]) [] := by
  have hF := occupations_ok L hL st ov hl ho nm l sp ac br 0 0 h (by omega) (by omega)
  unfold occL
  generalize (tabL L st (spF L ⟨st, ov⟩ l sp ac br 0) (spT L ⟨st, ov⟩ l sp ac br 0) (ptT L ⟨st, ov⟩ l sp ac br 0) st.length).filter usedO = t at *
  unfold vLay at hF ⊢
  refine X_fn mixedX Try.func19 rfl (by kernel_rfl) (Nat.le_of_ble_eq_true (by kernel_rfl)) (by kernel_rfl) rfl rfl (Nat.le_of_ble_eq_true rfl) rfl rfl ?_
  simp only [sl0, Nat.zero_add, Nat.reduceAdd]
  repeat' (first
    |with_reducible (first|refine q_and ?_ ?_|exact True.intro|exact TkEq.nil _|refine Red.o (by constructor) ?_|refine blockK_o' rfl ?_|refine LoopX_e' rfl ?_|assumption)
    |((with_reducible apply q_call);refine X_pure (hF) rfl ?_)
    |((with_reducible apply q_CI);intro hbq;(try simp only [bq] at hbq);(try (exfalso;omega)))
    |refine Rex.o (by (with_reducible constructor);apply Eq.refl) ?_
    |(intro (hgq : (_ : Bool) = true);(try simp only [bq] at hgq))
    |(intro (hgq : (_ : Bool) = false);(try simp only [bq] at hgq))
    |((with_reducible apply q_VOk);exact fun _ => ⟨rfl,rfl⟩)|(intro _;exact rfl)|((with_reducible apply q_CRB);kernel_rfl)|((with_reducible apply q_bt);simp only [bq])|((with_reducible apply q_eqN);rfl)|((with_reducible apply q_FE);exact rfl)|with_reducible (first|exact isByte_wrap _|exact isByte_nat _)|(simp only [hgq,bq];done)|omega|(dsimp only;omega))
  all_goals repeat' (first|with_reducible (first|refine Wk.o (by constructor) ?_|refine q_and ?_ ?_|exact True.intro)|refine VEq.c ?_|refine VEq.agg ?_|refine VEq.tup ?_|refine TkEq.cells ?_ ?_|refine TkEq.els ?_ ?_|refine SEqL.cons ?_ ?_|refine TEqL.agg ?_ ?_|refine CEq.rows ?_|refine CEq.int ?_|rfl|omega)
end Go.Proofs.Ytbpeakgihhdocaa.Av
namespace Go.Proofs.Ytbpeakgihhdocaa.Av
set_option linter.unusedVariables false
set_option linter.unusedSimpArgs false
set_option maxRecDepth 4000
set_option maxHeartbeats 4000000
theorem same_int_ok (l : List Int) (hl : l.length ≤ 9223372036854775807) : OkV Try.prog 43 [.c (rInt l), .c (rInt l)] [] (vB true) [] := by
  refine X_fnP mixedX Try.func43 rfl (by kernel_rfl) (Nat.le_of_ble_eq_true (by kernel_rfl)) (by kernel_rfl) rfl rfl ?_
  simp only [sl0, Nat.zero_add, Nat.reduceAdd]
  repeat' (first
    |with_reducible (first|refine q_and ?_ ?_|exact True.intro|exact TkEq.nil _|refine Red.o (by constructor) ?_|refine blockK_o' rfl ?_|refine LoopX_e' rfl ?_|assumption)
    |((with_reducible apply q_CI);intro hbq;(try simp only [bq] at hbq);(try (exfalso;omega)))
    |with_reducible (first|refine W_seq ?_|refine W_block ?_)
    |((with_reducible apply q_cond);refine X_cond rfl ?_ ?_;all_goals (intro hbq;(try simp only [bq] at hbq);(try (exfalso;omega))))
    |refine Rex.o (by (with_reducible constructor);apply Eq.refl) ?_
    |(intro (hgq : (_ : Bool) = true);(try simp only [bq] at hgq))
    |(intro (hgq : (_ : Bool) = false);(try simp only [bq] at hgq))
    |((with_reducible apply q_VOk);exact fun _ => ⟨rfl,rfl⟩)|(intro _;exact rfl)|((with_reducible apply q_CRB);kernel_rfl)|((with_reducible apply q_bt);simp only [bq])|((with_reducible apply q_eqN);rfl)|((with_reducible apply q_FE);exact rfl)|with_reducible (first|exact isByte_wrap _|exact isByte_nat _)|(simp only [hgq,bq];done)|omega|(dsimp only;omega))
  refine W_loopS (fun i : Nat => SS [sC 0 (rInt l), sC 1 (rInt l), sI 12 l.length, sI 13 i] []) (fun i => i ≤ l.length) (fun i => l.length - i) 0 ?_ (by omega) ?_
  ·
    refine X_weak rfl rfl rfl ?_ ?_ <;> repeat' (first|with_reducible (first|refine Wk.o (by constructor) ?_|refine q_and ?_ ?_|exact True.intro)|refine q_AgS rfl ?_ ?_|exact CLe.nil_tipS|exact CLe.nil_rowS|refine HLe.cells ?_ ?_|refine HLe.els ?_ ?_|refine SLe.cons ?_ ?_|exact (rfl : known _ = _)|with_reducible rfl|omega)
  · intro i hi
    repeat' (first
      |with_reducible (first|refine q_and ?_ ?_|exact True.intro|exact TkEq.nil _|refine Red.o (by constructor) ?_|refine blockK_o' rfl ?_|refine LoopX_e' rfl ?_|assumption)
      |((with_reducible apply q_CI);intro hbq;(try simp only [bq] at hbq);(try (exfalso;omega)))
      |with_reducible (first|refine W_seq ?_|refine W_block ?_)
      |((with_reducible apply q_cond);refine X_cond rfl ?_ ?_;all_goals (intro hbq;(try simp only [bq] at hbq);(try (exfalso;omega))))
      |refine Rex.o (by (with_reducible constructor);apply Eq.refl) ?_
      |(intro (hgq : (_ : Bool) = true);(try simp only [bq] at hgq))
      |(intro (hgq : (_ : Bool) = false);(try simp only [bq] at hgq))
      |((with_reducible apply q_VOk);exact fun _ => ⟨rfl,rfl⟩)|(intro _;exact rfl)|((with_reducible apply q_CRB);kernel_rfl)|((with_reducible apply q_bt);simp only [bq])|((with_reducible apply q_eqN);rfl)|((with_reducible apply q_FE);exact rfl)|with_reducible (first|exact isByte_wrap _|exact isByte_nat _)|(simp only [hgq,bq];done)|omega|(dsimp only;omega))
    ·
      refine LoopK_n (i + 1) ?_ ((by omega)) (by (try dsimp only); omega)
      refine X_weak rfl rfl rfl ?_ ?_ <;> repeat' (first|with_reducible (first|refine Wk.o (by constructor) ?_|refine q_and ?_ ?_|exact True.intro)|refine q_AgS rfl ?_ ?_|exact CLe.nil_tipS|exact CLe.nil_rowS|refine HLe.cells ?_ ?_|refine HLe.els ?_ ?_|refine SLe.cons ?_ ?_|exact (rfl : known _ = _)|with_reducible rfl|omega)
    · rfl
theorem same_occ_ok (l : List Occ) (hl : l.length ≤ 9223372036854775807) : OkV Try.prog 20 [.c (rOcc l), .c (rOcc l)] [] (vB true) [] := by
  refine X_fnP mixedX Try.func20 rfl (by kernel_rfl) (Nat.le_of_ble_eq_true (by kernel_rfl)) (by kernel_rfl) rfl rfl ?_
  simp only [sl0, Nat.zero_add, Nat.reduceAdd]
  repeat' (first
    |with_reducible (first|refine q_and ?_ ?_|exact True.intro|exact TkEq.nil _|refine Red.o (by constructor) ?_|refine blockK_o' rfl ?_|refine LoopX_e' rfl ?_|assumption)
    |((with_reducible apply q_CI);intro hbq;(try simp only [bq] at hbq);(try (exfalso;omega)))
    |with_reducible (first|refine W_seq ?_|refine W_block ?_)
    |((with_reducible apply q_cond);refine X_cond rfl ?_ ?_;all_goals (intro hbq;(try simp only [bq] at hbq);(try (exfalso;omega))))
    |refine Rex.o (by (with_reducible constructor);apply Eq.refl) ?_
    |(intro (hgq : (_ : Bool) = true);(try simp only [bq] at hgq))
    |(intro (hgq : (_ : Bool) = false);(try simp only [bq] at hgq))
    |((with_reducible apply q_VOk);exact fun _ => ⟨rfl,rfl⟩)|(intro _;exact rfl)|((with_reducible apply q_CRB);kernel_rfl)|((with_reducible apply q_bt);simp only [bq])|((with_reducible apply q_eqN);rfl)|((with_reducible apply q_FE);exact rfl)|with_reducible (first|exact isByte_wrap _|exact isByte_nat _)|(simp only [hgq,bq];done)|omega|(dsimp only;omega))
  refine W_loopS (fun i : Nat => SS [sC 0 (rOcc l), sC 1 (rOcc l), sI 12 l.length, sI 13 i] []) (fun i => i ≤ l.length) (fun i => l.length - i) 0 ?_ (by omega) ?_
  ·
    refine X_weak rfl rfl rfl ?_ ?_ <;> repeat' (first|with_reducible (first|refine Wk.o (by constructor) ?_|refine q_and ?_ ?_|exact True.intro)|refine q_AgS rfl ?_ ?_|exact CLe.nil_tipS|exact CLe.nil_rowS|refine HLe.cells ?_ ?_|refine HLe.els ?_ ?_|refine SLe.cons ?_ ?_|exact (rfl : known _ = _)|with_reducible rfl|omega)
  · intro i hi
    repeat' (first
      |with_reducible (first|refine q_and ?_ ?_|exact True.intro|exact TkEq.nil _|refine Red.o (by constructor) ?_|refine blockK_o' rfl ?_|refine LoopX_e' rfl ?_|assumption)
      |((with_reducible apply q_CI);intro hbq;(try simp only [bq] at hbq);(try (exfalso;omega)))
      |with_reducible (first|refine W_seq ?_|refine W_block ?_)
      |((with_reducible apply q_cond);refine X_cond rfl ?_ ?_;all_goals (intro hbq;(try simp only [bq] at hbq);(try (exfalso;omega))))
      |refine Rex.o (by (with_reducible constructor);apply Eq.refl) ?_
      |(intro (hgq : (_ : Bool) = true);(try simp only [bq] at hgq))
      |(intro (hgq : (_ : Bool) = false);(try simp only [bq] at hgq))
      |((with_reducible apply q_VOk);exact fun _ => ⟨rfl,rfl⟩)|(intro _;exact rfl)|((with_reducible apply q_CRB);kernel_rfl)|((with_reducible apply q_bt);simp only [bq])|((with_reducible apply q_eqN);rfl)|((with_reducible apply q_FE);exact rfl)|with_reducible (first|exact isByte_wrap _|exact isByte_nat _)|(simp only [hgq,bq];done)|omega|(dsimp only;omega))
    ·
      refine LoopK_n (i + 1) ?_ ((by omega)) (by (try dsimp only); omega)
      refine X_weak rfl rfl rfl ?_ ?_ <;> repeat' (first|with_reducible (first|refine Wk.o (by constructor) ?_|refine q_and ?_ ?_|exact True.intro)|refine q_AgS rfl ?_ ?_|exact CLe.nil_tipS|exact CLe.nil_rowS|refine HLe.cells ?_ ?_|refine HLe.els ?_ ?_|refine SLe.cons ?_ ?_|exact (rfl : known _ = _)|with_reducible rfl|omega)
    · rfl
end Go.Proofs.Ytbpeakgihhdocaa.Av
namespace Go.Proofs.Ytbpeakgihhdocaa.Av
set_option linter.unusedVariables false
set_option linter.unusedSimpArgs false
set_option maxRecDepth 4000
set_option maxHeartbeats 4000000
theorem ex_tab (F T P : Nat → Int) : tabL exL exSt F T P 3 = [⟨0, F 0, T 0⟩, ⟨1, F 1, T 1⟩, ⟨2, F 2, T 2⟩] := rfl
theorem ex_end : endA exL (trv ⟨exSt, 0⟩) ((trv ⟨exSt, 0⟩).length - 1) = 40 := rfl
theorem ex_occ : occL exL exSt 0 20 30000 500 500 0 0 = [⟨0, 0, Pl.cdiv (rideT exL ⟨exSt, 0⟩ 20 30000 500 500 20) 1000 + 4⟩, ⟨1, -16, Pl.cdiv (rideT exL ⟨exSt, 0⟩ 20 30000 500 500 40) 1000 + 4⟩, ⟨2, -16, Pl.cdiv (rideT exL ⟨exSt, 0⟩ 20 30000 500 500 40) 1000⟩] := by
  have hR := ride_of ex_fit
  have h := fun i => spF_lt hR (bf := 0) (af := 0) (by omega) (by omega) i
  have n3 : (trv ⟨exSt, 0⟩).length = 3 := rfl
  have f0 : spF exL ⟨exSt, 0⟩ 20 30000 500 500 0 0 = 0 := by unfold spF; rw [if_pos rfl]; rfl
  have f1 : spF exL ⟨exSt, 0⟩ 20 30000 500 500 0 1 = -16 := by
    unfold spF; rw [if_neg (by omega), if_pos (by rw [n3]; omega), ent_zero]; rfl
  have f2 : spF exL ⟨exSt, 0⟩ 20 30000 500 500 0 2 = -16 := by
    unfold spF; rw [if_neg (by omega), if_pos (by rw [n3]; omega), ent_one]; rfl
  have t0 : spT exL ⟨exSt, 0⟩ 20 30000 500 500 0 0 = Pl.cdiv (rideT exL ⟨exSt, 0⟩ 20 30000 500 500 20) 1000 + 4 := by
    unfold spT levF
    rw [if_pos (by rw [n3]; omega), if_pos (by rw [n3]; omega), show endA exL (trv ⟨exSt, 0⟩) 0 + (20 : Int).toNat = 20 from rfl]
  have t1 : spT exL ⟨exSt, 0⟩ 20 30000 500 500 0 1 = Pl.cdiv (rideT exL ⟨exSt, 0⟩ 20 30000 500 500 40) 1000 + 4 := by
    unfold spT levF
    rw [if_pos (by rw [n3]; omega), if_pos (by rw [n3]; omega), show endA exL (trv ⟨exSt, 0⟩) 1 + (20 : Int).toNat = 40 from rfl]
  have t2 : spT exL ⟨exSt, 0⟩ 20 30000 500 500 0 2 = Pl.cdiv (rideT exL ⟨exSt, 0⟩ 20 30000 500 500 40) 1000 := by
    unfold spT
    rw [if_neg (by rw [n3]; omega), if_pos (by rw [n3])]
    unfold runI
    rw [ex_end, Int.add_zero]
  have h0 := h 0
  have h1 := h 1
  have h2 := h 2
  unfold occL
  rw [show exSt.length = 3 from rfl, ex_tab, f0, f1, f2, t0, t1, t2]
  rw [f0, t0] at h0
  rw [f1, t1] at h1
  rw [f2, t2] at h2
  generalize Pl.cdiv (rideT exL ⟨exSt, 0⟩ 20 30000 500 500 20) 1000 = U at *
  generalize Pl.cdiv (rideT exL ⟨exSt, 0⟩ 20 30000 500 500 40) 1000 = V at *
  have u0 : usedO ⟨0, 0, U + 4⟩ = true := decide_eq_true h0
  have u1 : usedO ⟨1, -16, V + 4⟩ = true := decide_eq_true h1
  have u2 : usedO ⟨2, -16, V⟩ = true := decide_eq_true h2
  simp only [List.filter_cons, List.filter_nil, u0, u1, u2, if_true]
theorem examples_ok : OkV Try.prog 4 [] [] (vB true) [] := by
  have h1 := example_ok
  have h2 := whole_ok
  have h3 := stock1_ok
  have hR := ride_of ex_fit
  have hS := stairs_ok exL exL_fits exSt 0 (by decide) (by omega) ⟨#[83]⟩ 20 30000 500 500 ex_fit
  have he := ex_end
  have hrun : runI exL ⟨exSt, 0⟩ 20 30000 500 500 = Pl.cdiv (rideT exL ⟨exSt, 0⟩ 20 30000 500 500 40) 1000 := by
    unfold runI
    rw [he]
  rw [ex_occ, hrun] at hS
  have hC := refCells_ok exL exL_fits exSt 0 (by decide) (by omega)
  unfold celOut at hC
  rw [hR.cel, if_pos rfl] at hC
  have hm := refTimes_ok (celL exL (trv ⟨exSt, 0⟩)) (celOne exL ⟨exSt, 0⟩) ⟨#[83]⟩ 20 30000 500 500 (by
    have := (bad_zero hR.bad).2.1; omega)
  rw [hR.tl, hR.bad] at hm
  have hrg := hR.rng
  rw [he] at hm hrg
  have r20 := hrg 20 (by omega)
  have r40 := hrg 40 (by omega)
  have g20 : (row (40 + 1) (rideT exL ⟨exSt, 0⟩ 20 30000 500 500)).getD (20 : Int).toNat 0 = rideT exL ⟨exSt, 0⟩ 20 30000 500 500 20 := row_get (by decide)
  have g40 : (row (40 + 1) (rideT exL ⟨exSt, 0⟩ 20 30000 500 500)).getD (40 : Int).toNat 0 = rideT exL ⟨exSt, 0⟩ 20 30000 500 500 40 := row_get (by decide)
  have hrl := row_len (40 + 1) (rideT exL ⟨exSt, 0⟩ 20 30000 500 500)
  have hu := refCeil_okV ((row (40 + 1) (rideT exL ⟨exSt, 0⟩ 20 30000 500 500)).getD (20 : Int).toNat 0) 1000 (by rw [g20]; omega) (by omega)
  have hv := refCeil_okV ((row (40 + 1) (rideT exL ⟨exSt, 0⟩ 20 30000 500 500)).getD (40 : Int).toNat 0) 1000 (by rw [g40]; omega) (by omega)
  rw [show Pl.cdiv ((row (40 + 1) (rideT exL ⟨exSt, 0⟩ 20 30000 500 500)).getD (20 : Int).toNat 0) 1000 = Pl.cdiv (rideT exL ⟨exSt, 0⟩ 20 30000 500 500 20) 1000 by rw [g20]] at hu
  rw [show Pl.cdiv ((row (40 + 1) (rideT exL ⟨exSt, 0⟩ 20 30000 500 500)).getD (40 : Int).toNat 0) 1000 = Pl.cdiv (rideT exL ⟨exSt, 0⟩ 20 30000 500 500 40) 1000 by rw [g40]] at hv
  have b20 := Pl.cdiv_bracket (rideT exL ⟨exSt, 0⟩ 20 30000 500 500 20) 1000 (by omega)
  have b40 := Pl.cdiv_bracket (rideT exL ⟨exSt, 0⟩ 20 30000 500 500 40) 1000 (by omega)
  clear g20 g40 hrg
  generalize row (40 + 1) (rideT exL ⟨exSt, 0⟩ 20 30000 500 500) = tl at *
  generalize rideT exL ⟨exSt, 0⟩ 20 30000 500 500 20 = t20 at *
  generalize rideT exL ⟨exSt, 0⟩ 20 30000 500 500 40 = t40 at *
  generalize Pl.cdiv t20 1000 = U at *
  generalize Pl.cdiv t40 1000 = V at *
  generalize celL exL (trv ⟨exSt, 0⟩) = cs at *
  generalize celOne exL ⟨exSt, 0⟩ = one at *
  have hQ := same_occ_ok [⟨0, 0, U + 4⟩, ⟨1, -16, V + 4⟩, ⟨2, -16, V⟩] (by show 3 ≤ 9223372036854775807; omega)
  have hQ2 : OkV Try.prog 20 [.c (rOcc [⟨0, 0, U + 4⟩, ⟨1, -16, V + 4⟩, ⟨2, -16, V⟩]), .c (.c (.f (.row [.v (.int .i64 0), .v (.int .i64 0), .v (.int .i64 (U + 4)), .v (.int .i64 1), .v (.int .i64 (-16)), .v (.int .i64 (V + 4)), .v (.int .i64 2), .v (.int .i64 (-16)), .v (.int .i64 V)] 3)))] [] (vB true) [] := hQ
  clear hR he hrun
  generalize exL = L at *
  generalize exSt = st at *
  unfold vLay at h1 hS hC
  refine X_fnP mixedX Try.func4 rfl (by kernel_rfl) (Nat.le_of_ble_eq_true (by kernel_rfl)) (by kernel_rfl) rfl rfl ?_
  simp only [sl0, Nat.zero_add, Nat.reduceAdd]
  repeat' (first
    |with_reducible (first|refine q_and ?_ ?_|exact True.intro|exact TkEq.nil _|refine Red.o (by constructor) ?_|refine blockK_o' rfl ?_|refine LoopX_e' rfl ?_|assumption)
    |((with_reducible apply q_call);first|refine X_pure (h1) rfl ?_|refine X_pure (h2) rfl ?_|refine X_pure (h3) rfl ?_|refine X_pure (hC) rfl ?_|refine X_pure (hm) rfl ?_|refine X_pure (hS) rfl ?_|refine X_pure (hu) rfl ?_|refine X_pure (hv) rfl ?_)
    |((with_reducible apply q_callG);refine X_pureG ((fun _ => hQ2)) rfl ?_ ?_)
    |((with_reducible apply q_CI);intro hbq;(try simp only [bq] at hbq);(try (exfalso;omega)))
    |with_reducible (first|refine W_seq ?_|refine W_block ?_)
    |((with_reducible apply q_cond);refine X_cond rfl ?_ ?_;all_goals (intro hbq;(try simp only [bq] at hbq);(try (exfalso;omega))))
    |refine Rex.o (by (with_reducible constructor);apply Eq.refl) ?_
    |(intro (hgq : (_ : Bool) = true);(try simp only [bq] at hgq))
    |(intro (hgq : (_ : Bool) = false);(try simp only [bq] at hgq))
    |((with_reducible apply q_VOk);exact fun _ => ⟨rfl,rfl⟩)|(intro _;exact rfl)|((with_reducible apply q_CRB);kernel_rfl)|((with_reducible apply q_bt);simp only [bq])|((with_reducible apply q_eqN);rfl)|((with_reducible apply q_FE);exact rfl)|with_reducible (first|exact isByte_wrap _|exact isByte_nat _)|(simp only [hgq,bq];done)|omega|(dsimp only;omega))
  · refine VEq.c (CEq.bool ?_)
    simp
end Go.Proofs.Ytbpeakgihhdocaa.Av
namespace Go.Proofs.Ytbpeakgihhdocaa
open Go.RowKit
set_option linter.unusedVariables false
theorem W.BlockingExamples (w : World) : Calls Try.prog 4 #[] w fun e w' => e = .returned (.bool true) ∧ Below w.heap.size w w' :=
  Av.law_calls Av.examples_ok w _ rfl (fun i hi hi' l => absurd hi (by simp)) (fun x hx => by simp at hx)
end Go.Proofs.Ytbpeakgihhdocaa
