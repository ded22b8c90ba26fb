/- What the claims use of their texts: AvS8, AvSB, AvEl, AvX, Valid, Rt1, Rt2, Kp1, Kp2, Kp3, Kp4, BrA, Bl1, Kp5, La2, Bl3, Bl5, Bl7, La3, Bl8, Bl9, La5, Fr, Lb3, Wb3. -/
import Derived.Test.YtbpeakgihhdocaaPUE
namespace Go.Proofs.Ytbpeakgihhdocaa.Av
set_option linter.unusedVariables false
set_option linter.unusedSimpArgs false
section
variable {P : Program} {ops : Array Oper} {s : St} {T : Tb} {r : SR} {H : SH} {l : SL}
def runS (T : Tb) (E : El) (ops : Array Oper) : List Oper → SL → SH → Rg → Prop → Option SX
  | [], l, H, R, q => some ⟨[], l, H, R, q⟩
  | o :: os, l, H, R, q => match step T E ops l H o with
    | some ⟨l', H', cl, p⟩ => match R with
      | .plain K => runS T E ops os l' H' (.plain K) (q ∧ p)
      | .drawn a K => runS T E ops os l' H' (.drawn (cl :: a) K) (q ∧ p)
      | .seq a K => some ⟨o :: os, l, H, .seq a K, q⟩
    | none => some ⟨o :: os, l, H, R, q⟩
theorem runS_ok (O : T.Ok P) {E : El} (hE : E.Ok P) {x : SX} : ∀ {rest : List Oper} {l : SL} {H : SH} {R : Rg} {q : Prop}, runS T E ops rest l H R q = some x → x.p → WR P ops x.rest (SS x.l x.H) x.R → q ∧ WR P ops rest (SS l H) R
  | [], l, H, R, q, h, hp, hk => by
    injection h with h; subst h
    exact ⟨hp, hk⟩
  | o :: os, l, H, R, q, h, hp, hk => by
    unfold runS at h
    split at h
    · rename_i l' H' cl p hs
      split at h
      · obtain ⟨⟨h1, h2⟩, h3⟩ := runS_ok O hE h hp hk
        exact ⟨h1, step_ok O hE hs (.inr rfl) h2 h3⟩
      · obtain ⟨⟨h1, h2⟩, h3⟩ := runS_ok O hE h hp hk
        exact ⟨h1, step_ok O hE hs (.inr rfl) h2 h3⟩
      · injection h with h; subst h
        exact ⟨hp, hk⟩
    · injection h with h; subst h
      exact ⟨hp, hk⟩
def run1 (T : Tb) (E : El) (ops : Array Oper) (rest : List Oper) (l : SL) (H : SH) (R : Rg) : Option SX :=
  match rest with
  | [] => none
  | o :: os => match step T E ops l H o with
    | some ⟨l', H', cl, p⟩ => match R with
      | .plain K => runS T E ops os l' H' (.plain K) p
      | .drawn a K => runS T E ops os l' H' (.drawn (cl :: a) K) p
      | .seq a K => none
    | none => none
theorem run1_ok (O : T.Ok P) {E : El} (hE : E.Ok P) {rest : List Oper} {l : SL} {H : SH} {R : Rg} {rest' : List Oper} {l' : SL} {H' : SH} {R' : Rg} {p : Prop} (h : run1 T E ops rest l H R = some ⟨rest', l', H', R', p⟩) (hp : p) (hk : WR P ops rest' (SS l' H') R') : WR P ops rest (SS l H) R := by
  unfold run1 at h
  split at h
  · cases h
  · split at h
    · rename_i hs
      split at h
      · obtain ⟨h1, h2⟩ := runS_ok O hE h hp hk
        exact step_ok O hE hs (.inr rfl) h1 h2
      · obtain ⟨h1, h2⟩ := runS_ok O hE h hp hk
        exact step_ok O hE hs (.inr rfl) h1 h2
      · cases h
    · cases h
end
end Go.Proofs.Ytbpeakgihhdocaa.Av
namespace Go.Proofs.Ytbpeakgihhdocaa.Av
set_option linter.unusedVariables false
section
variable {P : Program} {ops : Array Oper} {rest : List Oper} {d : Option Tmp} {ty : TypeId} {pos : String} {af : Array Edge} {R : Rg} {D : Array Oper → St → (St → Prop) → Prop} {n0 : Nat} {H : SH} {l : SL} {K : AExit → St → Prop} {s : St}
theorem q_WR (h : WR P ops rest s R) : WR P ops rest s R := h
theorem q_ret {fn : Func} {r : AVal} {H' : HB} {e : AExit} (h : Ret P fn r H' e s) : Ret P fn r H' e s := h
theorem q_retP {fn : Func} {r : AVal} {e : AExit} (h : RetP P fn r e s) : RetP P fn r e s := h
theorem q_AgS0 {l : SL} : AgS l [] := trivial
end
end Go.Proofs.Ytbpeakgihhdocaa.Av
namespace Go.Proofs.Ytbpeakgihhdocaa.Av
set_option linter.unusedVariables false
def fTrk (t : List Int) : List FVal := [.row (t.flatMap fInt) t.length]
def vTrk (t : List Int) : List SC := [rInt t]
abbrev tStr (l : List ByteArray) : SC := .tipr 1 fStr vStr (fun _ => none) ⟨#[]⟩ l
abbrev tSec (l : List Sec) : SC := .tipr 5 fSec vSec (fun _ => none) sec0 l
abbrev tLnk (l : List Lnk) : SC := .tipr 6 fLnk vLnk (fun _ => none) lnk0 l
abbrev tTrk (l : List (List Int)) : SC := .tipr 1 fTrk vTrk (fun _ => none) [] l
abbrev sB (d : Nat) (b : Bool) : Nat × SE := (d, .v (.c (.c (.f (.v (.bool b))))))
abbrev rOcc (l : List Occ) : SC := .row 3 fOcc vOcc ⟨0, 0, 0⟩ l
abbrev tOcc (l : List Occ) : SC := .tipr 3 fOcc vOcc (fun _ => none) ⟨0, 0, 0⟩ l
abbrev uStp (l : List Stp) : SC := .tipr 2 fStp vStp mStp ⟨0, 0⟩ l
abbrev uOcc (l : List Occ) : SC := .tipr 3 fOcc vOcc mOcc ⟨0, 0, 0⟩ l
end Go.Proofs.Ytbpeakgihhdocaa.Av
namespace Go.Proofs.Ytbpeakgihhdocaa.Av
set_option linter.unusedVariables false
set_option maxRecDepth 4000
theorem X_run {ops : Array Oper} {rest : List Oper} {l : SL} {H : SH} {R : Rg} {rest' : List Oper} {l' : SL} {H' : SH} {R' : Rg} {p : Prop} (h : run1 tab els ops rest l H R = some ⟨rest', l', H', R', p⟩) (hp : p) (hk : WR Try.prog ops rest' (SS l' H') R') : WR Try.prog ops rest (SS l H) R := run1_ok tabOk elsOk h hp hk
end Go.Proofs.Ytbpeakgihhdocaa.Av
namespace Go.Proofs.Ytbpeakgihhdocaa
set_option linter.unusedVariables false
theorem nameB_size {s : ByteArray} (h : nameB s = true) : s.size ≤ 12 := by
  unfold nameB at h
  simp at h
  exact h.1.1.2
end Go.Proofs.Ytbpeakgihhdocaa
namespace Go.Proofs.Ytbpeakgihhdocaa.Av
set_option linter.unusedVariables false
set_option linter.unusedSimpArgs false
set_option maxRecDepth 4000
set_option maxHeartbeats 4000000
theorem ends_ok (k : Lnk) : OkV Try.prog 103 [.agg (vLnk k)] [] (.tup [.agg [xI k.a, xI k.ae], .agg [xI k.b, xI k.be]]) [] := by
  refine X_fn mixedX Try.func103 rfl (by kernel_rfl) (Nat.le_of_ble_eq_true (by kernel_rfl)) (by kernel_rfl) rfl rfl (Nat.le_of_ble_eq_true rfl) rfl rfl ?_
  simp only [sl0, Nat.zero_add, Nat.reduceAdd]
  repeat' (first
    |with_reducible (first|refine q_and ?_ ?_|exact True.intro|exact TkEq.nil _|refine Red.o (by constructor) ?_|refine blockK_o' rfl ?_|refine LoopX_e' rfl ?_|assumption)
    |((with_reducible apply q_CI);intro hbq;(try simp only [bq] at hbq);(try (exfalso;omega)))
    |refine Rex.o (by (with_reducible constructor);apply Eq.refl) ?_
    |(intro (hgq : (_ : Bool) = true);(try simp only [bq] at hgq))
    |(intro (hgq : (_ : Bool) = false);(try simp only [bq] at hgq))
    |((with_reducible apply q_VOk);exact fun _ => ⟨rfl,rfl⟩)|(intro _;exact rfl)|((with_reducible apply q_CRB);kernel_rfl)|((with_reducible apply q_bt);simp only [bq])|((with_reducible apply q_eqN);rfl)|((with_reducible apply q_FE);exact rfl)|with_reducible (first|exact isByte_wrap _|exact isByte_nat _)|(simp only [hgq,bq];done)|omega|(dsimp only;omega))
  repeat' (first|with_reducible (first|refine Wk.o (by constructor) ?_|refine q_and ?_ ?_|exact True.intro)|refine VEq.c ?_|refine VEq.agg ?_|refine VEq.tup ?_|refine TkEq.cells ?_ ?_|refine TkEq.els ?_ ?_|refine SEqL.cons ?_ ?_|refine TEqL.agg ?_ ?_|refine CEq.rows ?_|refine CEq.int ?_|rfl|omega)
theorem has_ok (L : Lay) (hL : LayFits L) (s : Stp) : OkV Try.prog 102 [vLay L, vSt s] [] (vB (s.ok L && decide (layErr L = 0))) [] := by
  have hC := check_okV L hL
  unfold Stp.ok
  unfold vLay at hC ⊢
  refine X_fn mixedX Try.func102 rfl (by kernel_rfl) (Nat.le_of_ble_eq_true (by kernel_rfl)) (by kernel_rfl) rfl rfl (Nat.le_of_ble_eq_true rfl) rfl rfl ?_
  simp only [sl0, Nat.zero_add, Nat.reduceAdd]
  repeat' (first
    |with_reducible (first|refine q_and ?_ ?_|exact True.intro|exact TkEq.nil _|refine Red.o (by constructor) ?_|refine blockK_o' rfl ?_|refine LoopX_e' rfl ?_|assumption)
    |((with_reducible apply q_callG);refine X_pureG ((fun _ => hC)) rfl ?_ ?_)
    |((with_reducible apply q_CI);intro hbq;(try simp only [bq] at hbq);(try (exfalso;omega)))
    |refine Rex.o (by (with_reducible constructor);apply Eq.refl) ?_
    |(intro (hgq : (_ : Bool) = true);(try simp only [bq] at hgq))
    |(intro (hgq : (_ : Bool) = false);(try simp only [bq] at hgq))
    |((with_reducible apply q_VOk);exact fun _ => ⟨rfl,rfl⟩)|(intro _;exact rfl)|((with_reducible apply q_CRB);kernel_rfl)|((with_reducible apply q_bt);simp only [bq])|((with_reducible apply q_eqN);rfl)|((with_reducible apply q_FE);exact rfl)|with_reducible (first|exact isByte_wrap _|exact isByte_nat _)|(simp only [hgq,bq];done)|omega|(dsimp only;omega))
  repeat' (first|with_reducible (first|refine Wk.o (by constructor) ?_|refine q_and ?_ ?_|exact True.intro)|refine VEq.c ?_|refine VEq.agg ?_|refine VEq.tup ?_|refine TkEq.cells ?_ ?_|refine TkEq.els ?_ ?_|refine SEqL.cons ?_ ?_|refine TEqL.agg ?_ ?_|refine CEq.rows ?_|refine CEq.int ?_|rfl|omega)
theorem no2 {a b c d : Int} (h : ¬ a = b ∨ ¬ c = d) : ¬ (b = a ∧ d = c) := by omega
theorem hops_ok (L : Lay) (hL : LayFits L) (s : Stp) (h : s.ok L = true) (hv : layErr L = 0) : OkV Try.prog 88 [vLay L, vSt s] [] (.c (rHop (hopsL L s))) [] := by
  have hH := has_ok L hL s
  rw [h, hv] at hH
  have hlen : L.lnks.length ≤ 192 := (valid_of hv).n4
  refine X_fn mixedX Try.func88 rfl (by kernel_rfl) (Nat.le_of_ble_eq_true (by kernel_rfl)) (by kernel_rfl) rfl rfl (Nat.le_of_ble_eq_true rfl) rfl rfl ?_
  simp only [sl0, Nat.zero_add, Nat.reduceAdd]
  repeat' (first
    |with_reducible (first|refine q_and ?_ ?_|exact True.intro|exact TkEq.nil _|refine Red.o (by constructor) ?_|refine blockK_o' rfl ?_|refine LoopX_e' rfl ?_|assumption)
    |((with_reducible apply q_call);refine X_pure (hH) rfl ?_)
    |((with_reducible apply q_CI);intro hbq;(try simp only [bq] at hbq);(try (exfalso;omega)))
    |refine Rex.o (by (with_reducible constructor);apply Eq.refl) ?_
    |(intro (hgq : (_ : Bool) = true);(try simp only [bq] at hgq))
    |(intro (hgq : (_ : Bool) = false);(try simp only [bq] at hgq))
    |((with_reducible apply q_VOk);exact fun _ => ⟨rfl,rfl⟩)|(intro _;exact rfl)|((with_reducible apply q_CRB);kernel_rfl)|((with_reducible apply q_bt);simp only [bq])|((with_reducible apply q_eqN);rfl)|((with_reducible apply q_FE);exact rfl)|with_reducible (first|exact isByte_wrap _|exact isByte_nat _)|(simp only [hgq,bq];done)|omega|(dsimp only;omega))
  all_goals clear hH
  · have ho : outE s.dir = 0 := by unfold outE; (first | rw [if_pos hbq] | rw [if_neg hbq])
    refine W_loopS (fun i : Nat => SS [sC 5 (pB 2), sC 6 (tHop ((L.lnks.take i).filterMap (hopK s))), sC 23 (rLnk L.lnks), sI 24 L.lnks.length, sI 25 i] [none, none, some (.cells [xI s.sec, xI 0])]) (fun i => i ≤ L.lnks.length) (fun i => L.lnks.length - i) 0 ?_ (by omega) ?_
    ·
      refine X_weak rfl rfl rfl ?_ ?_ <;> repeat' (first|with_reducible (first|refine Wk.o (by constructor) ?_|refine q_and ?_ ?_|exact True.intro)|refine q_AgS rfl ?_ ?_|exact CLe.nil_tipS|exact CLe.nil_rowS|refine HLe.cells ?_ ?_|refine HLe.els ?_ ?_|refine SLe.cons ?_ ?_|exact (rfl : known _ = _)|with_reducible rfl|omega)
    · intro i hi
      have hlt : ((L.lnks.take i).filterMap (hopK s)).length ≤ i := Nat.le_trans (List.length_filterMap_le _ _) (by rw [List.length_take]; omega)
      have hE := ends_ok (L.lnks.getD (i : Int).toNat lnk0)
      have h1 := enter_ok (L.lnks.getD (i : Int).toNat lnk0).b (L.lnks.getD (i : Int).toNat lnk0).be
      have h2 := enter_ok (L.lnks.getD (i : Int).toNat lnk0).a (L.lnks.getD (i : Int).toNat lnk0).ae
      repeat' (first
        |with_reducible (first|refine q_and ?_ ?_|exact True.intro|exact TkEq.nil _|refine Red.o (by constructor) ?_|refine blockK_o' rfl ?_|refine LoopX_e' rfl ?_|assumption)
        |((with_reducible apply q_call);first|refine X_pure (hE) rfl ?_|refine X_pure (h1) rfl ?_|refine X_pure (h2) rfl ?_)
        |((with_reducible apply q_CI);intro hbq;(try simp only [bq] at hbq);(try (exfalso;omega)))
        |refine Rex.o (by (with_reducible constructor);apply Eq.refl) ?_
        |(intro (hgq : (_ : Bool) = true);(try simp only [bq] at hgq))
        |(intro (hgq : (_ : Bool) = false);(try simp only [bq] at hgq))
        |((with_reducible apply q_VOk);exact fun _ => ⟨rfl,rfl⟩)|(intro _;exact rfl)|((with_reducible apply q_CRB);kernel_rfl)|((with_reducible apply q_bt);simp only [bq])|((with_reducible apply q_eqN);rfl)|((with_reducible apply q_FE);exact rfl)|with_reducible (first|exact isByte_wrap _|exact isByte_nat _)|(simp only [hgq,bq];done)|omega|(dsimp only;omega))
      · have e : hopK s (L.lnks.getD i lnk0) = some ⟨(L.lnks.getD i lnk0).b, dirE (L.lnks.getD i lnk0).be, (L.lnks.getD i lnk0).pt, (L.lnks.getD i lnk0).ps⟩ := if_pos ⟨hbq.1.symm, by rw [ho]; exact hbq.2.symm⟩
        refine LoopK_n (i + 1) ?_ ?_ ?_
        rotate_left
        · (try dsimp only); omega
        · (try dsimp only); omega
        refine X_weak rfl rfl rfl ?_ ?_ <;> repeat' (first|with_reducible (first|refine Wk.o (by constructor) ?_|refine q_and ?_ ?_|exact True.intro)|refine q_AgS rfl ?_ ?_|exact CLe.nil_tipS|exact CLe.nil_rowS|refine HLe.cells ?_ ?_|refine HLe.els ?_ ?_|refine SLe.cons ?_ ?_|exact (rfl : known _ = _)|with_reducible rfl|omega)
        all_goals (rw [hopsL_take L s i (by omega), e]; simp [fHop, fI])
      · rename_i hn
        have e : hopK s (L.lnks.getD i lnk0) = some ⟨(L.lnks.getD i lnk0).a, dirE (L.lnks.getD i lnk0).ae, (L.lnks.getD i lnk0).pt, (L.lnks.getD i lnk0).ps⟩ := (if_neg (by rw [ho]; exact no2 hn)).trans (if_pos ⟨hbq.1.symm, by rw [ho]; exact hbq.2.symm⟩)
        refine LoopK_n (i + 1) ?_ ?_ ?_
        rotate_left
        · (try dsimp only); omega
        · (try dsimp only); omega
        refine X_weak rfl rfl rfl ?_ ?_ <;> repeat' (first|with_reducible (first|refine Wk.o (by constructor) ?_|refine q_and ?_ ?_|exact True.intro)|refine q_AgS rfl ?_ ?_|exact CLe.nil_tipS|exact CLe.nil_rowS|refine HLe.cells ?_ ?_|refine HLe.els ?_ ?_|refine SLe.cons ?_ ?_|exact (rfl : known _ = _)|with_reducible rfl|omega)
        all_goals (rw [hopsL_take L s i (by omega), e]; simp [fHop, fI])
      · rename_i hn
        have e : hopK s (L.lnks.getD i lnk0) = none := (if_neg (by rw [ho]; exact no2 hn)).trans (if_neg (by rw [ho]; exact no2 hbq))
        refine LoopK_n (i + 1) ?_ ?_ ?_
        rotate_left
        · (try dsimp only); omega
        · (try dsimp only); omega
        refine X_weak rfl rfl rfl ?_ ?_ <;> repeat' (first|with_reducible (first|refine Wk.o (by constructor) ?_|refine q_and ?_ ?_|exact True.intro)|refine q_AgS rfl ?_ ?_|exact CLe.nil_tipS|exact CLe.nil_rowS|refine HLe.cells ?_ ?_|refine HLe.els ?_ ?_|refine SLe.cons ?_ ?_|exact (rfl : known _ = _)|with_reducible rfl|omega)
        all_goals (rw [hopsL_take L s i (by omega), e]; simp)
      · have hie : i = L.lnks.length := by omega
        subst hie
        repeat' (first|with_reducible (first|refine Wk.o (by constructor) ?_|refine q_and ?_ ?_|exact True.intro)|refine VEq.c ?_|refine VEq.agg ?_|refine VEq.tup ?_|refine TkEq.cells ?_ ?_|refine TkEq.els ?_ ?_|refine SEqL.cons ?_ ?_|refine TEqL.agg ?_ ?_|refine CEq.rows ?_|refine CEq.int ?_|rfl|omega)
        all_goals (unfold hopsL; rw [List.take_length])
  · have ho : outE s.dir = 1 := by unfold outE; (first | rw [if_pos hbq] | rw [if_neg hbq])
    refine W_loopS (fun i : Nat => SS [sC 5 (pB 2), sC 6 (tHop ((L.lnks.take i).filterMap (hopK s))), sC 23 (rLnk L.lnks), sI 24 L.lnks.length, sI 25 i] [none, none, some (.cells [xI s.sec, xI 1])]) (fun i => i ≤ L.lnks.length) (fun i => L.lnks.length - i) 0 ?_ (by omega) ?_
    ·
      refine X_weak rfl rfl rfl ?_ ?_ <;> repeat' (first|with_reducible (first|refine Wk.o (by constructor) ?_|refine q_and ?_ ?_|exact True.intro)|refine q_AgS rfl ?_ ?_|exact CLe.nil_tipS|exact CLe.nil_rowS|refine HLe.cells ?_ ?_|refine HLe.els ?_ ?_|refine SLe.cons ?_ ?_|exact (rfl : known _ = _)|with_reducible rfl|omega)
    · intro i hi
      have hlt : ((L.lnks.take i).filterMap (hopK s)).length ≤ i := Nat.le_trans (List.length_filterMap_le _ _) (by rw [List.length_take]; omega)
      have hE := ends_ok (L.lnks.getD (i : Int).toNat lnk0)
      have h1 := enter_ok (L.lnks.getD (i : Int).toNat lnk0).b (L.lnks.getD (i : Int).toNat lnk0).be
      have h2 := enter_ok (L.lnks.getD (i : Int).toNat lnk0).a (L.lnks.getD (i : Int).toNat lnk0).ae
      repeat' (first
        |with_reducible (first|refine q_and ?_ ?_|exact True.intro|exact TkEq.nil _|refine Red.o (by constructor) ?_|refine blockK_o' rfl ?_|refine LoopX_e' rfl ?_|assumption)
        |((with_reducible apply q_call);first|refine X_pure (hE) rfl ?_|refine X_pure (h1) rfl ?_|refine X_pure (h2) rfl ?_)
        |((with_reducible apply q_CI);intro hbq;(try simp only [bq] at hbq);(try (exfalso;omega)))
        |refine Rex.o (by (with_reducible constructor);apply Eq.refl) ?_
        |(intro (hgq : (_ : Bool) = true);(try simp only [bq] at hgq))
        |(intro (hgq : (_ : Bool) = false);(try simp only [bq] at hgq))
        |((with_reducible apply q_VOk);exact fun _ => ⟨rfl,rfl⟩)|(intro _;exact rfl)|((with_reducible apply q_CRB);kernel_rfl)|((with_reducible apply q_bt);simp only [bq])|((with_reducible apply q_eqN);rfl)|((with_reducible apply q_FE);exact rfl)|with_reducible (first|exact isByte_wrap _|exact isByte_nat _)|(simp only [hgq,bq];done)|omega|(dsimp only;omega))
      · have e : hopK s (L.lnks.getD i lnk0) = some ⟨(L.lnks.getD i lnk0).b, dirE (L.lnks.getD i lnk0).be, (L.lnks.getD i lnk0).pt, (L.lnks.getD i lnk0).ps⟩ := if_pos ⟨hbq.1.symm, by rw [ho]; exact hbq.2.symm⟩
        refine LoopK_n (i + 1) ?_ ?_ ?_
        rotate_left
        · (try dsimp only); omega
        · (try dsimp only); omega
        refine X_weak rfl rfl rfl ?_ ?_ <;> repeat' (first|with_reducible (first|refine Wk.o (by constructor) ?_|refine q_and ?_ ?_|exact True.intro)|refine q_AgS rfl ?_ ?_|exact CLe.nil_tipS|exact CLe.nil_rowS|refine HLe.cells ?_ ?_|refine HLe.els ?_ ?_|refine SLe.cons ?_ ?_|exact (rfl : known _ = _)|with_reducible rfl|omega)
        all_goals (rw [hopsL_take L s i (by omega), e]; simp [fHop, fI])
      · rename_i hn
        have e : hopK s (L.lnks.getD i lnk0) = some ⟨(L.lnks.getD i lnk0).a, dirE (L.lnks.getD i lnk0).ae, (L.lnks.getD i lnk0).pt, (L.lnks.getD i lnk0).ps⟩ := (if_neg (by rw [ho]; exact no2 hn)).trans (if_pos ⟨hbq.1.symm, by rw [ho]; exact hbq.2.symm⟩)
        refine LoopK_n (i + 1) ?_ ?_ ?_
        rotate_left
        · (try dsimp only); omega
        · (try dsimp only); omega
        refine X_weak rfl rfl rfl ?_ ?_ <;> repeat' (first|with_reducible (first|refine Wk.o (by constructor) ?_|refine q_and ?_ ?_|exact True.intro)|refine q_AgS rfl ?_ ?_|exact CLe.nil_tipS|exact CLe.nil_rowS|refine HLe.cells ?_ ?_|refine HLe.els ?_ ?_|refine SLe.cons ?_ ?_|exact (rfl : known _ = _)|with_reducible rfl|omega)
        all_goals (rw [hopsL_take L s i (by omega), e]; simp [fHop, fI])
      · rename_i hn
        have e : hopK s (L.lnks.getD i lnk0) = none := (if_neg (by rw [ho]; exact no2 hn)).trans (if_neg (by rw [ho]; exact no2 hbq))
        refine LoopK_n (i + 1) ?_ ?_ ?_
        rotate_left
        · (try dsimp only); omega
        · (try dsimp only); omega
        refine X_weak rfl rfl rfl ?_ ?_ <;> repeat' (first|with_reducible (first|refine Wk.o (by constructor) ?_|refine q_and ?_ ?_|exact True.intro)|refine q_AgS rfl ?_ ?_|exact CLe.nil_tipS|exact CLe.nil_rowS|refine HLe.cells ?_ ?_|refine HLe.els ?_ ?_|refine SLe.cons ?_ ?_|exact (rfl : known _ = _)|with_reducible rfl|omega)
        all_goals (rw [hopsL_take L s i (by omega), e]; simp)
      · have hie : i = L.lnks.length := by omega
        subst hie
        repeat' (first|with_reducible (first|refine Wk.o (by constructor) ?_|refine q_and ?_ ?_|exact True.intro)|refine VEq.c ?_|refine VEq.agg ?_|refine VEq.tup ?_|refine TkEq.cells ?_ ?_|refine TkEq.els ?_ ?_|refine SEqL.cons ?_ ?_|refine TEqL.agg ?_ ?_|refine CEq.rows ?_|refine CEq.int ?_|rfl|omega)
        all_goals (unfold hopsL; rw [List.take_length])
end Go.Proofs.Ytbpeakgihhdocaa.Av
namespace Go.Proofs.Ytbpeakgihhdocaa.Av
set_option linter.unusedVariables false
set_option linter.unusedSimpArgs false
set_option maxRecDepth 4000
set_option maxHeartbeats 4000000
theorem between_ok (L : Lay) (hL : LayFits L) (hv : layErr L = 0) (a b : Stp) (ha : a.ok L = true) : OkV Try.prog 66 [vLay L, vSt a, vSt b] [] (vI (((joinL L a b).map Hop.pt).getD (-1))) [] := by
  have hH := hops_ok L hL a ha hv
  have hlen : (hopsL L a).length ≤ 192 := Nat.le_trans (List.length_filterMap_le _ _) (valid_of hv).n4
  unfold joinL
  generalize hopsL L a = hs at hH hlen
  unfold vLay at hH ⊢
  refine X_fn mixedX Try.func66 rfl (by kernel_rfl) (Nat.le_of_ble_eq_true (by kernel_rfl)) (by kernel_rfl) rfl rfl (Nat.le_of_ble_eq_true rfl) rfl rfl ?_
  simp only [sl0, Nat.zero_add, Nat.reduceAdd]
  repeat' (first
    |with_reducible (first|refine q_and ?_ ?_|exact True.intro|exact TkEq.nil _|refine Red.o (by constructor) ?_|refine blockK_o' rfl ?_|refine LoopX_e' rfl ?_|assumption)
    |((with_reducible apply q_call);refine X_pure (hH) rfl ?_)
    |((with_reducible apply q_CI);intro hbq;(try simp only [bq] at hbq);(try (exfalso;omega)))
    |refine Rex.o (by (with_reducible constructor);apply Eq.refl) ?_
    |(intro (hgq : (_ : Bool) = true);(try simp only [bq] at hgq))
    |(intro (hgq : (_ : Bool) = false);(try simp only [bq] at hgq))
    |((with_reducible apply q_VOk);exact fun _ => ⟨rfl,rfl⟩)|(intro _;exact rfl)|((with_reducible apply q_CRB);kernel_rfl)|((with_reducible apply q_bt);simp only [bq])|((with_reducible apply q_eqN);rfl)|((with_reducible apply q_FE);exact rfl)|with_reducible (first|exact isByte_wrap _|exact isByte_nat _)|(simp only [hgq,bq];done)|omega|(dsimp only;omega))
  refine W_loopS (fun i : Nat => SS [sC 5 (pB 2), sC 11 (rHop hs), sI 12 hs.length, sI 13 i] [none, none, some (.cells [xI b.sec, xI b.dir])]) (fun i => i ≤ hs.length ∧ ∀ j, j < i → toB b (hs.getD j ⟨0, 0, 0, 0⟩) = false) (fun i => hs.length - i) 0 ?_ ⟨by omega, fun j hj => by omega⟩ ?_
  ·
    refine X_weak rfl rfl rfl ?_ ?_ <;> repeat' (first|with_reducible (first|refine Wk.o (by constructor) ?_|refine q_and ?_ ?_|exact True.intro)|refine q_AgS rfl ?_ ?_|exact CLe.nil_tipS|exact CLe.nil_rowS|refine HLe.cells ?_ ?_|refine HLe.els ?_ ?_|refine SLe.cons ?_ ?_|exact (rfl : known _ = _)|with_reducible rfl|omega)
  · intro i hi
    obtain ⟨hi, hno⟩ := hi
    repeat' (first
      |with_reducible (first|refine q_and ?_ ?_|exact True.intro|exact TkEq.nil _|refine Red.o (by constructor) ?_|refine blockK_o' rfl ?_|refine LoopX_e' rfl ?_|assumption)
      |((with_reducible apply q_CI);intro hbq;(try simp only [bq] at hbq);(try (exfalso;omega)))
      |refine Rex.o (by (with_reducible constructor);apply Eq.refl) ?_
      |(intro (hgq : (_ : Bool) = true);(try simp only [bq] at hgq))
      |(intro (hgq : (_ : Bool) = false);(try simp only [bq] at hgq))
      |((with_reducible apply q_VOk);exact fun _ => ⟨rfl,rfl⟩)|(intro _;exact rfl)|((with_reducible apply q_CRB);kernel_rfl)|((with_reducible apply q_bt);simp only [bq])|((with_reducible apply q_eqN);rfl)|((with_reducible apply q_FE);exact rfl)|with_reducible (first|exact isByte_wrap _|exact isByte_nat _)|(simp only [hgq,bq];done)|omega|(dsimp only;omega))
    · have hf := find_at (p := toB b) (d := ⟨0, 0, 0, 0⟩) (l := hs) (i := i) (by omega) (by unfold toB; simp only [Bool.and_eq_true, decide_eq_true_eq]; exact hbq) hno
      rw [hf]
      rfl
    ·
      refine LoopK_n (i + 1) ?_ (⟨by omega, upto_succ hno (by unfold toB; simp only [Bool.and_eq_false_iff, decide_eq_false_iff_not]; exact hbq)⟩) (by (try dsimp only); omega)
      refine X_weak rfl rfl rfl ?_ ?_ <;> repeat' (first|with_reducible (first|refine Wk.o (by constructor) ?_|refine q_and ?_ ?_|exact True.intro)|refine q_AgS rfl ?_ ?_|exact CLe.nil_tipS|exact CLe.nil_rowS|refine HLe.cells ?_ ?_|refine HLe.els ?_ ?_|refine SLe.cons ?_ ?_|exact (rfl : known _ = _)|with_reducible rfl|omega)
    · have hf := find_no (p := toB b) (d := ⟨0, 0, 0, 0⟩) (l := hs) (fun j hj => hno j (by omega))
      rw [hf]
      rfl
end Go.Proofs.Ytbpeakgihhdocaa.Av
namespace Go.Proofs.Ytbpeakgihhdocaa.Av
set_option linter.unusedVariables false
set_option linter.unusedSimpArgs false
set_option maxRecDepth 4000
set_option maxHeartbeats 4000000
theorem pick_lt (v : Int) {n : Nat} (h : 0 < n) : pick v n < n := Nat.mod_lt _ h
theorem wrapU64 (v : Int) : IntKind.u64.wrap v = v % 18446744073709551616 := by
  simp only [IntKind.wrap]
  simp [IntKind.bits, IntKind.signed]
theorem pick_eq (v : Int) (n : Nat) (h0 : 0 < n) (hn : n ≤ 9223372036854775807) : (IntKind.u64.wrap v).tmod (IntKind.u64.wrap (n : Int)) = (pick v n : Int) := by
  have e1 : IntKind.u64.wrap (n : Int) = n := by rw [wrapU64]; omega
  rw [e1, wrapU64]
  have h1 : 0 ≤ v % 18446744073709551616 := Int.emod_nonneg _ (by omega)
  obtain ⟨m, hm⟩ := Int.eq_ofNat_of_zero_le h1
  rw [hm, ← Int.ofNat_tmod]
  unfold pick
  rw [hm, Int.toNat_natCast]
theorem pick_ok (v : Int) (n : Nat) (h0 : 0 < n) (hn : n ≤ 9223372036854775807) : OkV Try.prog 22 [vI v, vI n] [] (vI (pick v n)) [] := by
  have e1 : IntKind.u64.wrap (n : Int) = n := by rw [wrapU64]; omega
  have hz : IntKind.u64.wrap (n : Int) ≠ 0 := by rw [e1]; omega
  have e2 := pick_eq v n h0 hn
  have e3 := pick_lt v h0
  refine X_fnP mixedX Try.func22 rfl (by kernel_rfl) (Nat.le_of_ble_eq_true (by kernel_rfl)) (by kernel_rfl) rfl rfl ?_
  simp only [sl0, Nat.zero_add, Nat.reduceAdd]
  repeat' (first
    |with_reducible (first|refine WR_pp ?_|refine WR_pd ?_|refine W_seq ?_|refine seqK_n ?_|refine seqK_r ?_|refine seqK_e ?_|refine W_block ?_|refine blockK_n ?_|refine blockK_r ?_|refine LoopK_e ?_|refine LoopK_r ?_|refine LoopX_r ?_|refine W_skip ?_|refine W_exit ?_|refine W_ret ?_|refine W_region (WOps_WR ?_)|refine W_draw (WOpsD_WR ?_)|refine WR_nil ?_|refine q_and ?_ ?_|exact True.intro|assumption|refine blockK_e rfl ?_|refine blockK_o (by decide) ?_|refine LoopX_e (by decide) ?_)
    |((with_reducible apply q_WR);first|refine X_run rfl ?_ ?_|refine WR_nilD (by kernel_rfl) ?_)
    |((with_reducible apply q_cond);refine X_cond rfl ?_ ?_;all_goals (intro hbq;(try simp only [bq] at hbq);(try (exfalso;omega))))
    |((with_reducible apply q_ret);refine X_ret tabOk trivial rfl rfl ?_ ?_)
    |((with_reducible apply q_retP);refine X_retP tabOk trivial rfl rfl ?_ ?_)
    |(intro (hgq : (_ : Bool) = true);(try simp only [bq] at hgq))
    |(intro (hgq : (_ : Bool) = false);(try simp only [bq] at hgq))
    |((with_reducible apply q_VOk);exact fun _ => ⟨rfl,rfl⟩)
    |(intro _;exact rfl)
    |((with_reducible apply q_bt);simp only [bq])
    |((with_reducible apply q_eqN);rfl)
    |with_reducible exact isByte_wrap _
    |with_reducible exact isByte_nat _
    |(simp only [hgq,bq];done)
    |omega)
  repeat' (first|with_reducible (first|exact TkEq.nil _|refine TkEq.none ?_|refine TkEq.cells ?_ ?_|refine TkEq.els ?_ ?_|exact SEqL.nil|refine SEqL.cons ?_ ?_|exact TEqL.nil|refine TEqL.c ?_ ?_|refine TEqL.agg ?_ ?_|exact CEq.refl _|refine CEq.int ?_|refine CEq.bool ?_|refine CEq.str ?_|refine CEq.rows ?_|refine CEq.row ?_ ?_|refine CEq.tips ?_|refine CEq.tip ?_ ?_|refine CEq.raw ?_ ?_|refine CEq.arr ?_ ?_)|refine VEq.c ?_|refine VEq.agg ?_|refine VEq.tup ?_|refine TkEq.cells ?_ ?_|refine TkEq.els ?_ ?_|refine SEqL.cons ?_ ?_|refine TEqL.agg ?_ ?_|refine CEq.rows ?_|refine CEq.int ?_|rfl|omega)
def Src.ok (s : Src) : Prop := s.i ≤ s.l.length ∧ s.l.length ≤ 9223372036854775807
def Src.box (s : Src) : SB := .cells [rInt s.l, xI s.i]
def Src.nx (s : Src) (n : Nat) : Nat := match s.l[s.i]? with
  | some v => pick v n
  | none => 0
def Src.af (s : Src) : Src := if s.i < s.l.length then { s with i := s.i + 1 } else s
theorem Src.nx_lt (s : Src) {n : Nat} (h : 0 < n) : s.nx n < n := by
  unfold Src.nx
  split
  · exact pick_lt _ h
  · exact h
theorem Src.af_ok {s : Src} (h : s.ok) : s.af.ok := by
  obtain ⟨h1, h2⟩ := h
  unfold Src.af
  split
  · exact ⟨by simp only; omega, h2⟩
  · exact ⟨h1, h2⟩
theorem next_ok (s : Src) (n : Nat) (hs : s.ok) (h0 : 0 < n) (hn : n ≤ 9223372036854775807) : OkV Try.prog 46 [.c (pB 0), vI n] [some s.box] (vI (s.nx n)) [some s.af.box] := by
  obtain ⟨l, i⟩ := s
  obtain ⟨h1, h2⟩ := hs
  simp only at h1 h2
  unfold Src.box Src.nx Src.af
  simp only
  refine X_fn mixedX Try.func46 rfl (by kernel_rfl) (Nat.le_of_ble_eq_true (by kernel_rfl)) (by kernel_rfl) rfl rfl (Nat.le_of_ble_eq_true rfl) rfl rfl ?_
  simp only [sl0, Nat.zero_add, Nat.reduceAdd]
  have hP := pick_ok (l.getD ((i : Int) + 1 - 1).toNat 0) n h0 hn
  repeat' (first
    |with_reducible (first|refine WR_pp ?_|refine WR_pd ?_|refine W_seq ?_|refine seqK_n ?_|refine seqK_r ?_|refine seqK_e ?_|refine W_block ?_|refine blockK_n ?_|refine blockK_r ?_|refine LoopK_e ?_|refine LoopK_r ?_|refine LoopX_r ?_|refine W_skip ?_|refine W_exit ?_|refine W_ret ?_|refine W_region (WOps_WR ?_)|refine W_draw (WOpsD_WR ?_)|refine WR_nil ?_|refine q_and ?_ ?_|exact True.intro|assumption|refine blockK_e rfl ?_|refine blockK_o (by decide) ?_|refine LoopX_e (by decide) ?_)
    |((with_reducible apply q_call);refine X_pure (hP) rfl ?_)
    |((with_reducible apply q_WR);first|refine X_run rfl ?_ ?_|refine WR_nilD (by kernel_rfl) ?_)
    |((with_reducible apply q_cond);refine X_cond rfl ?_ ?_;all_goals (intro hbq;(try simp only [bq] at hbq);(try (exfalso;omega))))
    |((with_reducible apply q_ret);refine X_ret tabOk trivial rfl rfl ?_ ?_)
    |((with_reducible apply q_retP);refine X_retP tabOk trivial rfl rfl ?_ ?_)
    |(intro (hgq : (_ : Bool) = true);(try simp only [bq] at hgq))
    |(intro (hgq : (_ : Bool) = false);(try simp only [bq] at hgq))
    |((with_reducible apply q_VOk);exact fun _ => ⟨rfl,rfl⟩)
    |(intro _;exact rfl)
    |((with_reducible apply q_bt);simp only [bq])
    |((with_reducible apply q_eqN);rfl)
    |with_reducible exact isByte_wrap _
    |with_reducible exact isByte_nat _
    |(simp only [hgq,bq];done)
    |omega)
  · rw [List.getElem?_eq_none (by omega)]
    repeat' (first|with_reducible (first|exact TkEq.nil _|refine TkEq.none ?_|refine TkEq.cells ?_ ?_|refine TkEq.els ?_ ?_|exact SEqL.nil|refine SEqL.cons ?_ ?_|exact TEqL.nil|refine TEqL.c ?_ ?_|refine TEqL.agg ?_ ?_|exact CEq.refl _|refine CEq.int ?_|refine CEq.bool ?_|refine CEq.str ?_|refine CEq.rows ?_|refine CEq.row ?_ ?_|refine CEq.tips ?_|refine CEq.tip ?_ ?_|refine CEq.raw ?_ ?_|refine CEq.arr ?_ ?_)|refine VEq.c ?_|refine VEq.agg ?_|refine VEq.tup ?_|refine TkEq.cells ?_ ?_|refine TkEq.els ?_ ?_|refine SEqL.cons ?_ ?_|refine TEqL.agg ?_ ?_|refine CEq.rows ?_|refine CEq.int ?_|rfl|omega)
  · rw [if_neg (by omega)]
    repeat' (first|with_reducible (first|exact TkEq.nil _|refine TkEq.none ?_|refine TkEq.cells ?_ ?_|refine TkEq.els ?_ ?_|exact SEqL.nil|refine SEqL.cons ?_ ?_|exact TEqL.nil|refine TEqL.c ?_ ?_|refine TEqL.agg ?_ ?_|exact CEq.refl _|refine CEq.int ?_|refine CEq.bool ?_|refine CEq.str ?_|refine CEq.rows ?_|refine CEq.row ?_ ?_|refine CEq.tips ?_|refine CEq.tip ?_ ?_|refine CEq.raw ?_ ?_|refine CEq.arr ?_ ?_)|refine VEq.c ?_|refine VEq.agg ?_|refine VEq.tup ?_|refine TkEq.cells ?_ ?_|refine TkEq.els ?_ ?_|refine SEqL.cons ?_ ?_|refine TEqL.agg ?_ ?_|refine CEq.rows ?_|refine CEq.int ?_|rfl|omega)
  · rw [show ((i : Int) + 1 - 1).toNat = ((i : Int)).toNat by omega, ← Int.toNat_natCast i, getD_nth (d := 0) (l := l) (by omega) (by omega)]
    repeat' (first|with_reducible (first|exact TkEq.nil _|refine TkEq.none ?_|refine TkEq.cells ?_ ?_|refine TkEq.els ?_ ?_|exact SEqL.nil|refine SEqL.cons ?_ ?_|exact TEqL.nil|refine TEqL.c ?_ ?_|refine TEqL.agg ?_ ?_|exact CEq.refl _|refine CEq.int ?_|refine CEq.bool ?_|refine CEq.str ?_|refine CEq.rows ?_|refine CEq.row ?_ ?_|refine CEq.tips ?_|refine CEq.tip ?_ ?_|refine CEq.raw ?_ ?_|refine CEq.arr ?_ ?_)|refine VEq.c ?_|refine VEq.agg ?_|refine VEq.tup ?_|refine TkEq.cells ?_ ?_|refine TkEq.els ?_ ?_|refine SEqL.cons ?_ ?_|refine TEqL.agg ?_ ?_|refine CEq.rows ?_|refine CEq.int ?_|rfl|omega)
  · rw [if_pos (by omega)]
    repeat' (first|with_reducible (first|exact TkEq.nil _|refine TkEq.none ?_|refine TkEq.cells ?_ ?_|refine TkEq.els ?_ ?_|exact SEqL.nil|refine SEqL.cons ?_ ?_|exact TEqL.nil|refine TEqL.c ?_ ?_|refine TEqL.agg ?_ ?_|exact CEq.refl _|refine CEq.int ?_|refine CEq.bool ?_|refine CEq.str ?_|refine CEq.rows ?_|refine CEq.row ?_ ?_|refine CEq.tips ?_|refine CEq.tip ?_ ?_|refine CEq.raw ?_ ?_|refine CEq.arr ?_ ?_)|refine VEq.c ?_|refine VEq.agg ?_|refine VEq.tup ?_|refine TkEq.cells ?_ ?_|refine TkEq.els ?_ ?_|refine SEqL.cons ?_ ?_|refine TEqL.agg ?_ ?_|refine CEq.rows ?_|refine CEq.int ?_|rfl|omega)
def digits : ByteArray := ⟨#[48, 49, 50, 51, 52, 53, 54, 55, 56, 57]⟩
def nameN (w : ByteArray) (n : Nat) : ByteArray := w ++ digits.extract (n % 10) (n % 10 + 1)
theorem digit_size (n : Nat) : (digits.extract (n % 10) (n % 10 + 1)).size = 1 := by
  rw [ByteArray.size_extract]
  have : digits.size = 10 := rfl
  omega
theorem named_ok (w : ByteArray) (n : Nat) (hw : w.size ≤ 1000) (hn : n ≤ 1000000) : OkV Try.prog 70 [vS w, vI n] [] (vS (nameN w n)) [] := by
  have z : (⟨#[48, 49, 50, 51, 52, 53, 54, 55, 56, 57]⟩ : ByteArray).size = 10 := rfl
  have e1 : ((n : Int) % 10).toNat = n % 10 := by omega
  have e2 : ((n : Int) % 10 + 1).toNat = n % 10 + 1 := by omega
  have hsz := digit_size n
  unfold digits at hsz
  unfold nameN digits
  refine X_fnP mixedX Try.func70 rfl (by kernel_rfl) (Nat.le_of_ble_eq_true (by kernel_rfl)) (by kernel_rfl) rfl rfl ?_
  simp only [sl0, Nat.zero_add, Nat.reduceAdd]
  repeat' (first
    |with_reducible (first|refine WR_pp ?_|refine WR_pd ?_|refine W_seq ?_|refine seqK_n ?_|refine seqK_r ?_|refine seqK_e ?_|refine W_block ?_|refine blockK_n ?_|refine blockK_r ?_|refine LoopK_e ?_|refine LoopK_r ?_|refine LoopX_r ?_|refine W_skip ?_|refine W_exit ?_|refine W_ret ?_|refine W_region (WOps_WR ?_)|refine W_draw (WOpsD_WR ?_)|refine WR_nil ?_|refine q_and ?_ ?_|exact True.intro|assumption|refine blockK_e rfl ?_|refine blockK_o (by decide) ?_|refine LoopX_e (by decide) ?_)
    |((with_reducible apply q_WR);first|refine X_run rfl ?_ ?_|refine WR_nilD (by kernel_rfl) ?_)
    |((with_reducible apply q_cond);refine X_cond rfl ?_ ?_;all_goals (intro hbq;(try simp only [bq] at hbq);(try (exfalso;omega))))
    |((with_reducible apply q_ret);refine X_ret tabOk trivial rfl rfl ?_ ?_)
    |((with_reducible apply q_retP);refine X_retP tabOk trivial rfl rfl ?_ ?_)
    |(intro (hgq : (_ : Bool) = true);(try simp only [bq] at hgq))
    |(intro (hgq : (_ : Bool) = false);(try simp only [bq] at hgq))
    |((with_reducible apply q_VOk);exact fun _ => ⟨rfl,rfl⟩)
    |(intro _;exact rfl)
    |((with_reducible apply q_bt);simp only [bq])
    |((with_reducible apply q_eqN);rfl)
    |with_reducible exact isByte_wrap _
    |with_reducible exact isByte_nat _
    |(simp only [hgq,bq];done)
    |omega)
  · rw [e1, e2, hsz]; omega
  · rw [e1, e2]
    repeat' (first|with_reducible (first|exact TkEq.nil _|refine TkEq.none ?_|refine TkEq.cells ?_ ?_|refine TkEq.els ?_ ?_|exact SEqL.nil|refine SEqL.cons ?_ ?_|exact TEqL.nil|refine TEqL.c ?_ ?_|refine TEqL.agg ?_ ?_|exact CEq.refl _|refine CEq.int ?_|refine CEq.bool ?_|refine CEq.str ?_|refine CEq.rows ?_|refine CEq.row ?_ ?_|refine CEq.tips ?_|refine CEq.tip ?_ ?_|refine CEq.raw ?_ ?_|refine CEq.arr ?_ ?_)|refine VEq.c ?_|refine VEq.agg ?_|refine VEq.tup ?_|refine TkEq.cells ?_ ?_|refine TkEq.els ?_ ?_|refine SEqL.cons ?_ ?_|refine TEqL.agg ?_ ?_|refine CEq.rows ?_|refine CEq.int ?_|rfl|omega)
theorem nameN_size (w : ByteArray) (n : Nat) : (nameN w n).size = w.size + 1 := by
  unfold nameN
  rw [ByteArray.size_append, digit_size]
def Src.sec (s : Src) (nm : ByteArray) (st : Int) : Sec := ⟨nm, 2 + s.nx 9, 5000 + 5000 * s.af.nx 7, s.af.af.nx 21 - 10, st⟩
theorem section_ok (s : Src) (nm : ByteArray) (st : Int) (hs : s.ok) : OkV Try.prog 71 [.c (pB 0), vS nm, vI st] [some s.box] (.agg (vSec (s.sec nm st))) [some s.af.af.af.box] := by
  have k1 := s.nx_lt (n := 9) (by omega)
  have k2 := s.af.nx_lt (n := 7) (by omega)
  have k3 := s.af.af.nx_lt (n := 21) (by omega)
  have h1 := next_ok s 9 hs (by omega) (by omega)
  have h2 := next_ok s.af 7 (Src.af_ok hs) (by omega) (by omega)
  have h3 := next_ok s.af.af 21 (Src.af_ok (Src.af_ok hs)) (by omega) (by omega)
  refine X_fn mixedX Try.func71 rfl (by kernel_rfl) (Nat.le_of_ble_eq_true (by kernel_rfl)) (by kernel_rfl) rfl rfl (Nat.le_of_ble_eq_true rfl) rfl rfl ?_
  simp only [sl0, Nat.zero_add, Nat.reduceAdd]
  repeat' (first
    |with_reducible (first|refine WR_pp ?_|refine WR_pd ?_|refine W_seq ?_|refine seqK_n ?_|refine seqK_r ?_|refine seqK_e ?_|refine W_block ?_|refine blockK_n ?_|refine blockK_r ?_|refine LoopK_e ?_|refine LoopK_r ?_|refine LoopX_r ?_|refine W_skip ?_|refine W_exit ?_|refine W_ret ?_|refine W_region (WOps_WR ?_)|refine W_draw (WOpsD_WR ?_)|refine WR_nil ?_|refine q_and ?_ ?_|exact True.intro|assumption|refine blockK_e rfl ?_|refine blockK_o (by decide) ?_|refine LoopX_e (by decide) ?_)
    |((with_reducible apply q_call);first|refine X_call [0] (h1) rfl rfl rfl rfl rfl rfl rfl rfl rfl rfl rfl rfl rfl ?_|refine X_call [0] (h2) rfl rfl rfl rfl rfl rfl rfl rfl rfl rfl rfl rfl rfl ?_|refine X_call [0] (h3) rfl rfl rfl rfl rfl rfl rfl rfl rfl rfl rfl rfl rfl ?_)
    |((with_reducible apply q_WR);first|refine X_run rfl ?_ ?_|refine WR_nilD (by kernel_rfl) ?_)
    |((with_reducible apply q_cond);refine X_cond rfl ?_ ?_;all_goals (intro hbq;(try simp only [bq] at hbq);(try (exfalso;omega))))
    |((with_reducible apply q_ret);refine X_ret tabOk trivial rfl rfl ?_ ?_)
    |((with_reducible apply q_retP);refine X_retP tabOk trivial rfl rfl ?_ ?_)
    |(intro (hgq : (_ : Bool) = true);(try simp only [bq] at hgq))
    |(intro (hgq : (_ : Bool) = false);(try simp only [bq] at hgq))
    |((with_reducible apply q_VOk);exact fun _ => ⟨rfl,rfl⟩)
    |(intro _;exact rfl)
    |((with_reducible apply q_bt);simp only [bq])
    |((with_reducible apply q_eqN);rfl)
    |with_reducible exact isByte_wrap _
    |with_reducible exact isByte_nat _
    |(simp only [hgq,bq];done)
    |omega)
  repeat' (first|with_reducible (first|exact TkEq.nil _|refine TkEq.none ?_|refine TkEq.cells ?_ ?_|refine TkEq.els ?_ ?_|exact SEqL.nil|refine SEqL.cons ?_ ?_|exact TEqL.nil|refine TEqL.c ?_ ?_|refine TEqL.agg ?_ ?_|exact CEq.refl _|refine CEq.int ?_|refine CEq.bool ?_|refine CEq.str ?_|refine CEq.rows ?_|refine CEq.row ?_ ?_|refine CEq.tips ?_|refine CEq.tip ?_ ?_|refine CEq.raw ?_ ?_|refine CEq.arr ?_ ?_)|refine VEq.c ?_|refine VEq.agg ?_|refine VEq.tup ?_|refine TkEq.cells ?_ ?_|refine TkEq.els ?_ ?_|refine SEqL.cons ?_ ?_|refine TEqL.agg ?_ ?_|refine CEq.rows ?_|refine CEq.int ?_|rfl|omega)
structure Bld where
  L : Lay
  tracks : List (List Int)
  between : List (List Int)
def Bld.box (b : Bld) : SB := .cells [tStr b.L.sts, tStr b.L.pts, tSec b.L.secs, tLnk b.L.lnks, tTrk b.tracks, tTrk b.between, .c (.f .nils)]
structure Bld.small (b : Bld) : Prop where
  s1 : b.L.sts.length ≤ 1000
  s2 : b.L.pts.length ≤ 1000
  s3 : b.L.secs.length ≤ 1000
  s4 : b.L.lnks.length ≤ 1000
def Bld.add (b : Bld) (x : Sec) : Bld := { b with L := { b.L with secs := b.L.secs ++ [x] } }
def Bld.link (b : Bld) (k : Lnk) : Bld := { b with L := { b.L with lnks := b.L.lnks ++ [k] } }
def Bld.pt (b : Bld) : Bld := { b with L := { b.L with pts := b.L.pts ++ [nameN ⟨#[80]⟩ b.L.pts.length] } }
theorem add_ok (b : Bld) (x : Sec) (hb : b.small) : OkV Try.prog 72 [.c (pB 0), .agg (vSec x)] [some b.box] (vI b.L.secs.length) [some (b.add x).box] := by
  have h3 := hb.s3
  refine X_fn mixedX Try.func72 rfl (by kernel_rfl) (Nat.le_of_ble_eq_true (by kernel_rfl)) (by kernel_rfl) rfl rfl (Nat.le_of_ble_eq_true rfl) rfl rfl ?_
  simp only [sl0, Nat.zero_add, Nat.reduceAdd]
  repeat' (first
    |with_reducible (first|refine WR_pp ?_|refine WR_pd ?_|refine W_seq ?_|refine seqK_n ?_|refine seqK_r ?_|refine seqK_e ?_|refine W_block ?_|refine blockK_n ?_|refine blockK_r ?_|refine LoopK_e ?_|refine LoopK_r ?_|refine LoopX_r ?_|refine W_skip ?_|refine W_exit ?_|refine W_ret ?_|refine W_region (WOps_WR ?_)|refine W_draw (WOpsD_WR ?_)|refine WR_nil ?_|refine q_and ?_ ?_|exact True.intro|assumption|refine blockK_e rfl ?_|refine blockK_o (by decide) ?_|refine LoopX_e (by decide) ?_)
    |((with_reducible apply q_WR);first|refine X_run rfl ?_ ?_|refine WR_nilD (by kernel_rfl) ?_)
    |((with_reducible apply q_cond);refine X_cond rfl ?_ ?_;all_goals (intro hbq;(try simp only [bq] at hbq);(try (exfalso;omega))))
    |((with_reducible apply q_ret);refine X_ret tabOk trivial rfl rfl ?_ ?_)
    |((with_reducible apply q_retP);refine X_retP tabOk trivial rfl rfl ?_ ?_)
    |(intro (hgq : (_ : Bool) = true);(try simp only [bq] at hgq))
    |(intro (hgq : (_ : Bool) = false);(try simp only [bq] at hgq))
    |((with_reducible apply q_VOk);exact fun _ => ⟨rfl,rfl⟩)
    |(intro _;exact rfl)
    |((with_reducible apply q_bt);simp only [bq])
    |((with_reducible apply q_eqN);rfl)
    |with_reducible exact isByte_wrap _
    |with_reducible exact isByte_nat _
    |(simp only [hgq,bq];done)
    |omega)
  repeat' (first|with_reducible (first|exact TkEq.nil _|refine TkEq.none ?_|refine TkEq.cells ?_ ?_|refine TkEq.els ?_ ?_|exact SEqL.nil|refine SEqL.cons ?_ ?_|exact TEqL.nil|refine TEqL.c ?_ ?_|refine TEqL.agg ?_ ?_|exact CEq.refl _|refine CEq.int ?_|refine CEq.bool ?_|refine CEq.str ?_|refine CEq.rows ?_|refine CEq.row ?_ ?_|refine CEq.tips ?_|refine CEq.tip ?_ ?_|refine CEq.raw ?_ ?_|refine CEq.arr ?_ ?_)|refine VEq.c ?_|refine VEq.agg ?_|refine VEq.tup ?_|refine TkEq.cells ?_ ?_|refine TkEq.els ?_ ?_|refine SEqL.cons ?_ ?_|refine TEqL.agg ?_ ?_|refine CEq.rows ?_|refine CEq.int ?_|rfl|omega)
  all_goals simp [fSec, Bld.add, fS, fI]
theorem link_ok (b : Bld) (p q pt ps : Int) (hb : b.small) : OkV Try.prog 73 [.c (pB 0), vI p, vI q, vI pt, vI ps] [some b.box] (.tup []) [some (b.link ⟨p, 1, q, 0, pt, ps⟩).box] := by
  have h4 := hb.s4
  refine X_fn mixedX Try.func73 rfl (by kernel_rfl) (Nat.le_of_ble_eq_true (by kernel_rfl)) (by kernel_rfl) rfl rfl (Nat.le_of_ble_eq_true rfl) rfl rfl ?_
  simp only [sl0, Nat.zero_add, Nat.reduceAdd]
  repeat' (first
    |with_reducible (first|refine WR_pp ?_|refine WR_pd ?_|refine W_seq ?_|refine seqK_n ?_|refine seqK_r ?_|refine seqK_e ?_|refine W_block ?_|refine blockK_n ?_|refine blockK_r ?_|refine LoopK_e ?_|refine LoopK_r ?_|refine LoopX_r ?_|refine W_skip ?_|refine W_exit ?_|refine W_ret ?_|refine W_region (WOps_WR ?_)|refine W_draw (WOpsD_WR ?_)|refine WR_nil ?_|refine q_and ?_ ?_|exact True.intro|assumption|refine blockK_e rfl ?_|refine blockK_o (by decide) ?_|refine LoopX_e (by decide) ?_)
    |((with_reducible apply q_WR);first|refine X_run rfl ?_ ?_|refine WR_nilD (by kernel_rfl) ?_)
    |((with_reducible apply q_cond);refine X_cond rfl ?_ ?_;all_goals (intro hbq;(try simp only [bq] at hbq);(try (exfalso;omega))))
    |((with_reducible apply q_ret);refine X_ret tabOk trivial rfl rfl ?_ ?_)
    |((with_reducible apply q_retP);refine X_retP tabOk trivial rfl rfl ?_ ?_)
    |(intro (hgq : (_ : Bool) = true);(try simp only [bq] at hgq))
    |(intro (hgq : (_ : Bool) = false);(try simp only [bq] at hgq))
    |((with_reducible apply q_VOk);exact fun _ => ⟨rfl,rfl⟩)
    |(intro _;exact rfl)
    |((with_reducible apply q_bt);simp only [bq])
    |((with_reducible apply q_eqN);rfl)
    |with_reducible exact isByte_wrap _
    |with_reducible exact isByte_nat _
    |(simp only [hgq,bq];done)
    |omega)
  repeat' (first|with_reducible (first|exact TkEq.nil _|refine TkEq.none ?_|refine TkEq.cells ?_ ?_|refine TkEq.els ?_ ?_|exact SEqL.nil|refine SEqL.cons ?_ ?_|exact TEqL.nil|refine TEqL.c ?_ ?_|refine TEqL.agg ?_ ?_|exact CEq.refl _|refine CEq.int ?_|refine CEq.bool ?_|refine CEq.str ?_|refine CEq.rows ?_|refine CEq.row ?_ ?_|refine CEq.tips ?_|refine CEq.tip ?_ ?_|refine CEq.raw ?_ ?_|refine CEq.arr ?_ ?_)|refine VEq.c ?_|refine VEq.agg ?_|refine VEq.tup ?_|refine TkEq.cells ?_ ?_|refine TkEq.els ?_ ?_|refine SEqL.cons ?_ ?_|refine TEqL.agg ?_ ?_|refine CEq.rows ?_|refine CEq.int ?_|rfl|omega)
  all_goals simp [fLnk, Bld.link, fI]
theorem point_ok (b : Bld) (hb : b.small) : OkV Try.prog 89 [.c (pB 0)] [some b.box] (vI b.L.pts.length) [some b.pt.box] := by
  have h2 := hb.s2
  have hN := named_ok ⟨#[80]⟩ b.L.pts.length (by decide) (by omega)
  refine X_fn mixedX Try.func89 rfl (by kernel_rfl) (Nat.le_of_ble_eq_true (by kernel_rfl)) (by kernel_rfl) rfl rfl (Nat.le_of_ble_eq_true rfl) rfl rfl ?_
  simp only [sl0, Nat.zero_add, Nat.reduceAdd]
  repeat' (first
    |with_reducible (first|refine WR_pp ?_|refine WR_pd ?_|refine W_seq ?_|refine seqK_n ?_|refine seqK_r ?_|refine seqK_e ?_|refine W_block ?_|refine blockK_n ?_|refine blockK_r ?_|refine LoopK_e ?_|refine LoopK_r ?_|refine LoopX_r ?_|refine W_skip ?_|refine W_exit ?_|refine W_ret ?_|refine W_region (WOps_WR ?_)|refine W_draw (WOpsD_WR ?_)|refine WR_nil ?_|refine q_and ?_ ?_|exact True.intro|assumption|refine blockK_e rfl ?_|refine blockK_o (by decide) ?_|refine LoopX_e (by decide) ?_)
    |((with_reducible apply q_call);refine X_pure (hN) rfl ?_)
    |((with_reducible apply q_WR);first|refine X_run rfl ?_ ?_|refine WR_nilD (by kernel_rfl) ?_)
    |((with_reducible apply q_cond);refine X_cond rfl ?_ ?_;all_goals (intro hbq;(try simp only [bq] at hbq);(try (exfalso;omega))))
    |((with_reducible apply q_ret);refine X_ret tabOk trivial rfl rfl ?_ ?_)
    |((with_reducible apply q_retP);refine X_retP tabOk trivial rfl rfl ?_ ?_)
    |(intro (hgq : (_ : Bool) = true);(try simp only [bq] at hgq))
    |(intro (hgq : (_ : Bool) = false);(try simp only [bq] at hgq))
    |((with_reducible apply q_VOk);exact fun _ => ⟨rfl,rfl⟩)
    |(intro _;exact rfl)
    |((with_reducible apply q_bt);simp only [bq])
    |((with_reducible apply q_eqN);rfl)
    |with_reducible exact isByte_wrap _
    |with_reducible exact isByte_nat _
    |(simp only [hgq,bq];done)
    |omega)
  repeat' (first|with_reducible (first|exact TkEq.nil _|refine TkEq.none ?_|refine TkEq.cells ?_ ?_|refine TkEq.els ?_ ?_|exact SEqL.nil|refine SEqL.cons ?_ ?_|exact TEqL.nil|refine TEqL.c ?_ ?_|refine TEqL.agg ?_ ?_|exact CEq.refl _|refine CEq.int ?_|refine CEq.bool ?_|refine CEq.str ?_|refine CEq.rows ?_|refine CEq.row ?_ ?_|refine CEq.tips ?_|refine CEq.tip ?_ ?_|refine CEq.raw ?_ ?_|refine CEq.arr ?_ ?_)|refine VEq.c ?_|refine VEq.agg ?_|refine VEq.tup ?_|refine TkEq.cells ?_ ?_|refine TkEq.els ?_ ?_|refine SEqL.cons ?_ ?_|refine TEqL.agg ?_ ?_|refine CEq.rows ?_|refine CEq.int ?_|rfl|omega)
  all_goals simp [fStr, Bld.pt, fS]
def Bld.links (b : Bld) (x pt : Int) (east : Bool) (ts : List Int) : Nat → Bld
  | 0 => b
  | i + 1 => (b.links x pt east ts i).link (if east = true then ⟨x, 1, ts.getD i 0, 0, pt, i⟩ else ⟨ts.getD i 0, 1, x, 0, pt, i⟩)
def Bld.fan (b : Bld) (x : Int) (ts : List Int) (east : Bool) : Bld :=
  if 1 < ts.length then b.pt.links x b.L.pts.length east ts ts.length else b.links x (-1) east ts ts.length
theorem links_small {b : Bld} (hb : b.small) (x pt : Int) (east : Bool) (ts : List Int) : ∀ i, (b.links x pt east ts i).L.sts = b.L.sts ∧ (b.links x pt east ts i).L.pts = b.L.pts ∧ (b.links x pt east ts i).L.secs = b.L.secs ∧ (b.links x pt east ts i).L.lnks.length = b.L.lnks.length + i
  | 0 => ⟨rfl, rfl, rfl, rfl⟩
  | i + 1 => by
    obtain ⟨h1, h2, h3, h4⟩ := links_small hb x pt east ts i
    refine ⟨h1, h2, h3, ?_⟩
    simp only [Bld.links, Bld.link, List.length_append, h4, List.length_singleton]
    omega
theorem fan_ok (b : Bld) (x : Int) (ts : List Int) (east : Bool) (hb : b.small) (ht : ts.length ≤ 10) (hb2 : b.L.lnks.length ≤ 900) (hb3 : b.L.pts.length ≤ 900) : OkV Try.prog 74 [.c (pB 0), vI x, .c (rInt ts), vB east] [some b.box] (.tup []) [some (b.fan x ts east).box] := by
  have hP := point_ok b hb
  refine X_fn mixedX Try.func74 rfl (by kernel_rfl) (Nat.le_of_ble_eq_true (by kernel_rfl)) (by kernel_rfl) rfl rfl (Nat.le_of_ble_eq_true rfl) rfl rfl ?_
  simp only [sl0, Nat.zero_add, Nat.reduceAdd]
  repeat' (first
    |with_reducible (first|refine WR_pp ?_|refine WR_pd ?_|refine W_seq ?_|refine seqK_n ?_|refine seqK_r ?_|refine seqK_e ?_|refine W_block ?_|refine blockK_n ?_|refine blockK_r ?_|refine LoopK_e ?_|refine LoopK_r ?_|refine LoopX_r ?_|refine W_skip ?_|refine W_exit ?_|refine W_ret ?_|refine W_region (WOps_WR ?_)|refine W_draw (WOpsD_WR ?_)|refine WR_nil ?_|refine q_and ?_ ?_|exact True.intro|assumption|refine blockK_e rfl ?_|refine blockK_o (by decide) ?_|refine LoopX_e (by decide) ?_)
    |((with_reducible apply q_call);refine X_call [0] (hP) rfl rfl rfl rfl rfl rfl rfl rfl rfl rfl rfl rfl rfl ?_)
    |((with_reducible apply q_WR);first|refine X_run rfl ?_ ?_|refine WR_nilD (by kernel_rfl) ?_)
    |((with_reducible apply q_cond);refine X_cond rfl ?_ ?_;all_goals (intro hbq;(try simp only [bq] at hbq);(try (exfalso;omega))))
    |((with_reducible apply q_ret);refine X_ret tabOk trivial rfl rfl ?_ ?_)
    |((with_reducible apply q_retP);refine X_retP tabOk trivial rfl rfl ?_ ?_)
    |(intro (hgq : (_ : Bool) = true);(try simp only [bq] at hgq))
    |(intro (hgq : (_ : Bool) = false);(try simp only [bq] at hgq))
    |((with_reducible apply q_VOk);exact fun _ => ⟨rfl,rfl⟩)
    |(intro _;exact rfl)
    |((with_reducible apply q_bt);simp only [bq])
    |((with_reducible apply q_eqN);rfl)
    |with_reducible exact isByte_wrap _
    |with_reducible exact isByte_nat _
    |(simp only [hgq,bq];done)
    |omega)
  · have hB : (b.pt).small ∧ (b.pt).L.lnks.length ≤ 900 := by
      refine ⟨⟨hb.s1, ?_, hb.s3, hb.s4⟩, hb2⟩
      (try simp only [Bld.pt, List.length_append, List.length_singleton])
      omega
    have hf : b.fan x ts east = (b.pt).links x (b.L.pts.length : Int) east ts ts.length := by unfold Bld.fan; rw [if_pos (by omega)]
    rw [hf]
    obtain ⟨hB, hB2⟩ := hB
    have hL : ∀ i, i ≤ ts.length → ((b.pt).links x (b.L.pts.length : Int) east ts i).small := fun i hi => by
      obtain ⟨k1, k2, k3, k4⟩ := links_small hB x (b.L.pts.length : Int) east ts i
      exact ⟨by rw [k1]; exact hB.s1, by rw [k2]; exact hB.s2, by rw [k3]; exact hB.s3, by rw [k4]; omega⟩
    clear hP hf
    refine W_loopS (fun i : Nat => SS [sC 0 (pB 0), sI 1 x, sC 2 (rInt ts), sB 3 east, sI 8 (b.L.pts.length : Int), sI 16 ts.length, sI 17 i] [some ((b.pt).links x (b.L.pts.length : Int) east ts i).box]) (fun i => i ≤ ts.length) (fun i => ts.length - i) 0 ?_ (by omega) ?_
    ·
      refine X_weak rfl rfl rfl ?_ ?_ <;> repeat' (first|with_reducible (first|exact q_AgS0|exact HLe.nil _|refine HLe.none ?_|refine HLe.cells ?_ ?_|refine HLe.els ?_ ?_|exact SLe.nil|refine SLe.cons ?_ ?_|exact ELe.refl _|refine ELe.c rfl ?_|exact CLe.refl _|exact CLe.nil_row|exact CLe.nil_rowS|exact CLe.nil_tip|exact CLe.nil_tipS|exact CLe.int (by omega)|refine CLe.tip ?_ ?_|refine CLe.tip_row ?_ ?_|refine CLe.row ?_ ?_|refine CLe.tipr_row ?_|refine CLe.rows ?_|refine CLe.tips ?_|refine CLe.int ?_|refine CLe.bool ?_|refine CLe.str ?_|refine CLe.arr ?_ ?_)|refine q_AgS rfl ?_ ?_|exact CLe.nil_tipS|exact CLe.nil_rowS|refine HLe.cells ?_ ?_|refine HLe.els ?_ ?_|refine SLe.cons ?_ ?_|with_reducible rfl|omega)
      all_goals rfl
    · intro i hi
      have hK1 := link_ok ((b.pt).links x (b.L.pts.length : Int) east ts i) x (ts.getD (i : Int).toNat 0) (b.L.pts.length : Int) i (hL i hi)
      have hK2 := link_ok ((b.pt).links x (b.L.pts.length : Int) east ts i) (ts.getD (i : Int).toNat 0) x (b.L.pts.length : Int) i (hL i hi)
      repeat' (first
        |with_reducible (first|refine WR_pp ?_|refine WR_pd ?_|refine W_seq ?_|refine seqK_n ?_|refine seqK_r ?_|refine seqK_e ?_|refine W_block ?_|refine blockK_n ?_|refine blockK_r ?_|refine LoopK_e ?_|refine LoopK_r ?_|refine LoopX_r ?_|refine W_skip ?_|refine W_exit ?_|refine W_ret ?_|refine W_region (WOps_WR ?_)|refine W_draw (WOpsD_WR ?_)|refine WR_nil ?_|refine q_and ?_ ?_|exact True.intro|assumption|refine blockK_e rfl ?_|refine blockK_o (by decide) ?_|refine LoopX_e (by decide) ?_)
        |((with_reducible apply q_call);first|refine X_call [0] (hK1) rfl rfl rfl rfl rfl rfl rfl rfl rfl rfl rfl rfl rfl ?_|refine X_call [0] (hK2) rfl rfl rfl rfl rfl rfl rfl rfl rfl rfl rfl rfl rfl ?_)
        |((with_reducible apply q_WR);first|refine X_run rfl ?_ ?_|refine WR_nilD (by kernel_rfl) ?_)
        |((with_reducible apply q_cond);refine X_cond rfl ?_ ?_;all_goals (intro hbq;(try simp only [bq] at hbq);(try (exfalso;omega))))
        |((with_reducible apply q_ret);refine X_ret tabOk trivial rfl rfl ?_ ?_)
        |((with_reducible apply q_retP);refine X_retP tabOk trivial rfl rfl ?_ ?_)
        |(intro (hgq : (_ : Bool) = true);(try simp only [bq] at hgq))
        |(intro (hgq : (_ : Bool) = false);(try simp only [bq] at hgq))
        |((with_reducible apply q_VOk);exact fun _ => ⟨rfl,rfl⟩)
        |(intro _;exact rfl)
        |((with_reducible apply q_bt);simp only [bq])
        |((with_reducible apply q_eqN);rfl)
        |with_reducible exact isByte_wrap _
        |with_reducible exact isByte_nat _
        |(simp only [hgq,bq];done)
        |omega)
      ·
        refine LoopK_n (i + 1) ?_ ?_ ?_
        rotate_left
        · (try dsimp only); omega
        · (try dsimp only); omega
        refine X_weak rfl rfl rfl ?_ ?_ <;> repeat' (first|with_reducible (first|exact q_AgS0|exact HLe.nil _|refine HLe.none ?_|refine HLe.cells ?_ ?_|refine HLe.els ?_ ?_|exact SLe.nil|refine SLe.cons ?_ ?_|exact ELe.refl _|refine ELe.c rfl ?_|exact CLe.refl _|exact CLe.nil_row|exact CLe.nil_rowS|exact CLe.nil_tip|exact CLe.nil_tipS|exact CLe.int (by omega)|refine CLe.tip ?_ ?_|refine CLe.tip_row ?_ ?_|refine CLe.row ?_ ?_|refine CLe.tipr_row ?_|refine CLe.rows ?_|refine CLe.tips ?_|refine CLe.int ?_|refine CLe.bool ?_|refine CLe.str ?_|refine CLe.arr ?_ ?_)|refine q_AgS rfl ?_ ?_|exact CLe.nil_tipS|exact CLe.nil_rowS|refine HLe.cells ?_ ?_|refine HLe.els ?_ ?_|refine SLe.cons ?_ ?_|with_reducible rfl|omega)
        all_goals (subst hbq; rfl)
      ·
        refine LoopK_n (i + 1) ?_ ?_ ?_
        rotate_left
        · (try dsimp only); omega
        · (try dsimp only); omega
        refine X_weak rfl rfl rfl ?_ ?_ <;> repeat' (first|with_reducible (first|exact q_AgS0|exact HLe.nil _|refine HLe.none ?_|refine HLe.cells ?_ ?_|refine HLe.els ?_ ?_|exact SLe.nil|refine SLe.cons ?_ ?_|exact ELe.refl _|refine ELe.c rfl ?_|exact CLe.refl _|exact CLe.nil_row|exact CLe.nil_rowS|exact CLe.nil_tip|exact CLe.nil_tipS|exact CLe.int (by omega)|refine CLe.tip ?_ ?_|refine CLe.tip_row ?_ ?_|refine CLe.row ?_ ?_|refine CLe.tipr_row ?_|refine CLe.rows ?_|refine CLe.tips ?_|refine CLe.int ?_|refine CLe.bool ?_|refine CLe.str ?_|refine CLe.arr ?_ ?_)|refine q_AgS rfl ?_ ?_|exact CLe.nil_tipS|exact CLe.nil_rowS|refine HLe.cells ?_ ?_|refine HLe.els ?_ ?_|refine SLe.cons ?_ ?_|with_reducible rfl|omega)
        all_goals (subst hbq; rfl)
      · have hie : i = ts.length := by omega
        subst hie
        repeat' (first|with_reducible (first|exact TkEq.nil _|refine TkEq.none ?_|refine TkEq.cells ?_ ?_|refine TkEq.els ?_ ?_|exact SEqL.nil|refine SEqL.cons ?_ ?_|exact TEqL.nil|refine TEqL.c ?_ ?_|refine TEqL.agg ?_ ?_|exact CEq.refl _|refine CEq.int ?_|refine CEq.bool ?_|refine CEq.str ?_|refine CEq.rows ?_|refine CEq.row ?_ ?_|refine CEq.tips ?_|refine CEq.tip ?_ ?_|refine CEq.raw ?_ ?_|refine CEq.arr ?_ ?_)|refine VEq.c ?_|refine VEq.agg ?_|refine VEq.tup ?_|refine TkEq.cells ?_ ?_|refine TkEq.els ?_ ?_|refine SEqL.cons ?_ ?_|refine TEqL.agg ?_ ?_|refine CEq.rows ?_|refine CEq.int ?_|rfl|omega)
      · have hie : i = ts.length := by omega
        subst hie
        repeat' (first|with_reducible (first|exact TkEq.nil _|refine TkEq.none ?_|refine TkEq.cells ?_ ?_|refine TkEq.els ?_ ?_|exact SEqL.nil|refine SEqL.cons ?_ ?_|exact TEqL.nil|refine TEqL.c ?_ ?_|refine TEqL.agg ?_ ?_|exact CEq.refl _|refine CEq.int ?_|refine CEq.bool ?_|refine CEq.str ?_|refine CEq.rows ?_|refine CEq.row ?_ ?_|refine CEq.tips ?_|refine CEq.tip ?_ ?_|refine CEq.raw ?_ ?_|refine CEq.arr ?_ ?_)|refine VEq.c ?_|refine VEq.agg ?_|refine VEq.tup ?_|refine TkEq.cells ?_ ?_|refine TkEq.els ?_ ?_|refine SEqL.cons ?_ ?_|refine TEqL.agg ?_ ?_|refine CEq.rows ?_|refine CEq.int ?_|rfl|omega)
  · have hB : (b).small ∧ (b).L.lnks.length ≤ 900 := by
      refine ⟨⟨hb.s1, ?_, hb.s3, hb.s4⟩, hb2⟩
      (try simp only [Bld.pt, List.length_append, List.length_singleton])
      omega
    have hf : b.fan x ts east = (b).links x (-1) east ts ts.length := by unfold Bld.fan; rw [if_neg (by omega)]
    rw [hf]
    obtain ⟨hB, hB2⟩ := hB
    have hL : ∀ i, i ≤ ts.length → ((b).links x (-1) east ts i).small := fun i hi => by
      obtain ⟨k1, k2, k3, k4⟩ := links_small hB x (-1) east ts i
      exact ⟨by rw [k1]; exact hB.s1, by rw [k2]; exact hB.s2, by rw [k3]; exact hB.s3, by rw [k4]; omega⟩
    clear hP hf
    refine W_loopS (fun i : Nat => SS [sC 0 (pB 0), sI 1 x, sC 2 (rInt ts), sB 3 east, sI 8 (-1), sI 16 ts.length, sI 17 i] [some ((b).links x (-1) east ts i).box]) (fun i => i ≤ ts.length) (fun i => ts.length - i) 0 ?_ (by omega) ?_
    ·
      refine X_weak rfl rfl rfl ?_ ?_ <;> repeat' (first|with_reducible (first|exact q_AgS0|exact HLe.nil _|refine HLe.none ?_|refine HLe.cells ?_ ?_|refine HLe.els ?_ ?_|exact SLe.nil|refine SLe.cons ?_ ?_|exact ELe.refl _|refine ELe.c rfl ?_|exact CLe.refl _|exact CLe.nil_row|exact CLe.nil_rowS|exact CLe.nil_tip|exact CLe.nil_tipS|exact CLe.int (by omega)|refine CLe.tip ?_ ?_|refine CLe.tip_row ?_ ?_|refine CLe.row ?_ ?_|refine CLe.tipr_row ?_|refine CLe.rows ?_|refine CLe.tips ?_|refine CLe.int ?_|refine CLe.bool ?_|refine CLe.str ?_|refine CLe.arr ?_ ?_)|refine q_AgS rfl ?_ ?_|exact CLe.nil_tipS|exact CLe.nil_rowS|refine HLe.cells ?_ ?_|refine HLe.els ?_ ?_|refine SLe.cons ?_ ?_|with_reducible rfl|omega)
      all_goals rfl
    · intro i hi
      have hK1 := link_ok ((b).links x (-1) east ts i) x (ts.getD (i : Int).toNat 0) (-1) i (hL i hi)
      have hK2 := link_ok ((b).links x (-1) east ts i) (ts.getD (i : Int).toNat 0) x (-1) i (hL i hi)
      repeat' (first
        |with_reducible (first|refine WR_pp ?_|refine WR_pd ?_|refine W_seq ?_|refine seqK_n ?_|refine seqK_r ?_|refine seqK_e ?_|refine W_block ?_|refine blockK_n ?_|refine blockK_r ?_|refine LoopK_e ?_|refine LoopK_r ?_|refine LoopX_r ?_|refine W_skip ?_|refine W_exit ?_|refine W_ret ?_|refine W_region (WOps_WR ?_)|refine W_draw (WOpsD_WR ?_)|refine WR_nil ?_|refine q_and ?_ ?_|exact True.intro|assumption|refine blockK_e rfl ?_|refine blockK_o (by decide) ?_|refine LoopX_e (by decide) ?_)
        |((with_reducible apply q_call);first|refine X_call [0] (hK1) rfl rfl rfl rfl rfl rfl rfl rfl rfl rfl rfl rfl rfl ?_|refine X_call [0] (hK2) rfl rfl rfl rfl rfl rfl rfl rfl rfl rfl rfl rfl rfl ?_)
        |((with_reducible apply q_WR);first|refine X_run rfl ?_ ?_|refine WR_nilD (by kernel_rfl) ?_)
        |((with_reducible apply q_cond);refine X_cond rfl ?_ ?_;all_goals (intro hbq;(try simp only [bq] at hbq);(try (exfalso;omega))))
        |((with_reducible apply q_ret);refine X_ret tabOk trivial rfl rfl ?_ ?_)
        |((with_reducible apply q_retP);refine X_retP tabOk trivial rfl rfl ?_ ?_)
        |(intro (hgq : (_ : Bool) = true);(try simp only [bq] at hgq))
        |(intro (hgq : (_ : Bool) = false);(try simp only [bq] at hgq))
        |((with_reducible apply q_VOk);exact fun _ => ⟨rfl,rfl⟩)
        |(intro _;exact rfl)
        |((with_reducible apply q_bt);simp only [bq])
        |((with_reducible apply q_eqN);rfl)
        |with_reducible exact isByte_wrap _
        |with_reducible exact isByte_nat _
        |(simp only [hgq,bq];done)
        |omega)
      ·
        refine LoopK_n (i + 1) ?_ ?_ ?_
        rotate_left
        · (try dsimp only); omega
        · (try dsimp only); omega
        refine X_weak rfl rfl rfl ?_ ?_ <;> repeat' (first|with_reducible (first|exact q_AgS0|exact HLe.nil _|refine HLe.none ?_|refine HLe.cells ?_ ?_|refine HLe.els ?_ ?_|exact SLe.nil|refine SLe.cons ?_ ?_|exact ELe.refl _|refine ELe.c rfl ?_|exact CLe.refl _|exact CLe.nil_row|exact CLe.nil_rowS|exact CLe.nil_tip|exact CLe.nil_tipS|exact CLe.int (by omega)|refine CLe.tip ?_ ?_|refine CLe.tip_row ?_ ?_|refine CLe.row ?_ ?_|refine CLe.tipr_row ?_|refine CLe.rows ?_|refine CLe.tips ?_|refine CLe.int ?_|refine CLe.bool ?_|refine CLe.str ?_|refine CLe.arr ?_ ?_)|refine q_AgS rfl ?_ ?_|exact CLe.nil_tipS|exact CLe.nil_rowS|refine HLe.cells ?_ ?_|refine HLe.els ?_ ?_|refine SLe.cons ?_ ?_|with_reducible rfl|omega)
        all_goals (subst hbq; rfl)
      ·
        refine LoopK_n (i + 1) ?_ ?_ ?_
        rotate_left
        · (try dsimp only); omega
        · (try dsimp only); omega
        refine X_weak rfl rfl rfl ?_ ?_ <;> repeat' (first|with_reducible (first|exact q_AgS0|exact HLe.nil _|refine HLe.none ?_|refine HLe.cells ?_ ?_|refine HLe.els ?_ ?_|exact SLe.nil|refine SLe.cons ?_ ?_|exact ELe.refl _|refine ELe.c rfl ?_|exact CLe.refl _|exact CLe.nil_row|exact CLe.nil_rowS|exact CLe.nil_tip|exact CLe.nil_tipS|exact CLe.int (by omega)|refine CLe.tip ?_ ?_|refine CLe.tip_row ?_ ?_|refine CLe.row ?_ ?_|refine CLe.tipr_row ?_|refine CLe.rows ?_|refine CLe.tips ?_|refine CLe.int ?_|refine CLe.bool ?_|refine CLe.str ?_|refine CLe.arr ?_ ?_)|refine q_AgS rfl ?_ ?_|exact CLe.nil_tipS|exact CLe.nil_rowS|refine HLe.cells ?_ ?_|refine HLe.els ?_ ?_|refine SLe.cons ?_ ?_|with_reducible rfl|omega)
        all_goals (subst hbq; rfl)
      · have hie : i = ts.length := by omega
        subst hie
        repeat' (first|with_reducible (first|exact TkEq.nil _|refine TkEq.none ?_|refine TkEq.cells ?_ ?_|refine TkEq.els ?_ ?_|exact SEqL.nil|refine SEqL.cons ?_ ?_|exact TEqL.nil|refine TEqL.c ?_ ?_|refine TEqL.agg ?_ ?_|exact CEq.refl _|refine CEq.int ?_|refine CEq.bool ?_|refine CEq.str ?_|refine CEq.rows ?_|refine CEq.row ?_ ?_|refine CEq.tips ?_|refine CEq.tip ?_ ?_|refine CEq.raw ?_ ?_|refine CEq.arr ?_ ?_)|refine VEq.c ?_|refine VEq.agg ?_|refine VEq.tup ?_|refine TkEq.cells ?_ ?_|refine TkEq.els ?_ ?_|refine SEqL.cons ?_ ?_|refine TEqL.agg ?_ ?_|refine CEq.rows ?_|refine CEq.int ?_|rfl|omega)
      · have hie : i = ts.length := by omega
        subst hie
        repeat' (first|with_reducible (first|exact TkEq.nil _|refine TkEq.none ?_|refine TkEq.cells ?_ ?_|refine TkEq.els ?_ ?_|exact SEqL.nil|refine SEqL.cons ?_ ?_|exact TEqL.nil|refine TEqL.c ?_ ?_|refine TEqL.agg ?_ ?_|exact CEq.refl _|refine CEq.int ?_|refine CEq.bool ?_|refine CEq.str ?_|refine CEq.rows ?_|refine CEq.row ?_ ?_|refine CEq.tips ?_|refine CEq.tip ?_ ?_|refine CEq.raw ?_ ?_|refine CEq.arr ?_ ?_)|refine VEq.c ?_|refine VEq.agg ?_|refine VEq.tup ?_|refine TkEq.cells ?_ ?_|refine TkEq.els ?_ ?_|refine SEqL.cons ?_ ?_|refine TEqL.agg ?_ ?_|refine CEq.rows ?_|refine CEq.int ?_|rfl|omega)
end Go.Proofs.Ytbpeakgihhdocaa.Av
namespace Go.Proofs.Ytbpeakgihhdocaa.Av
set_option linter.unusedVariables false
set_option linter.unusedSimpArgs false
set_option maxRecDepth 4000
set_option maxHeartbeats 4000000
def iter {σ : Type} (f : Nat → σ → σ) (x : σ) : Nat → σ
  | 0 => x
  | i + 1 => f i (iter f x i)
def Bld.addSt (b : Bld) (nm : ByteArray) : Bld := { b with L := { b.L with sts := b.L.sts ++ [nm] } }
def Bld.addTr (b : Bld) (t : List Int) : Bld := { b with tracks := b.tracks ++ [t] }
def Bld.addBt (b : Bld) (t : List Int) : Bld := { b with between := b.between ++ [t] }
def Bld.zero : Bld := ⟨⟨[], [], [], []⟩, [], []⟩
structure Bld.le (b : Bld) (m : Nat) : Prop where
  s1 : b.L.sts.length ≤ m
  s2 : b.L.pts.length ≤ m
  s3 : b.L.secs.length ≤ m
  s4 : b.L.lnks.length ≤ m
  s5 : b.tracks.length ≤ m
  s6 : b.between.length ≤ m
theorem Bld.le.small {b : Bld} {m : Nat} (h : b.le m) (hm : m ≤ 900) : b.small := ⟨by have := h.s1; omega, by have := h.s2; omega, by have := h.s3; omega, by have := h.s4; omega⟩
theorem Bld.le.mono {b : Bld} {m k : Nat} (h : b.le m) (hm : m ≤ k) : b.le k := ⟨Nat.le_trans h.s1 hm, Nat.le_trans h.s2 hm, Nat.le_trans h.s3 hm, Nat.le_trans h.s4 hm, Nat.le_trans h.s5 hm, Nat.le_trans h.s6 hm⟩
abbrev TBS := List Int × Bld × Src
def secT (i k : Nat) (s : Src) : Sec := { s.sec (nameN (nameN ⟨#[84]⟩ i) k) i with len := (s.sec (nameN (nameN ⟨#[84]⟩ i) k) i).len + 2 }
def tStep (i k : Nat) (x : TBS) : TBS := (x.1 ++ [(x.2.1.L.secs.length : Int)], x.2.1.add (secT i k x.2.2), x.2.2.af.af.af)
def tLoop (i : Nat) : Nat → TBS → TBS
  | 0, x => x
  | k + 1, x => tLoop i k (tStep i (k + 1) x)
def oStep (i : Nat) (x : Bld × Src) : Bld × Src :=
  let y := tLoop i (1 + x.2.nx 2) ([], x.1.addSt (nameN ⟨#[83]⟩ i), x.2.af)
  (y.2.1.addTr y.1, y.2.2)
theorem add_le {b : Bld} {m : Nat} (h : b.le m) (x : Sec) : (b.add x).le (m + 1) := ⟨Nat.le_succ_of_le h.s1, Nat.le_succ_of_le h.s2, by have := h.s3; simp only [Bld.add, List.length_append, List.length_singleton]; omega, Nat.le_succ_of_le h.s4, Nat.le_succ_of_le h.s5, Nat.le_succ_of_le h.s6⟩
theorem tLoop_le (i : Nat) : ∀ (k : Nat) (x : TBS) (m : Nat), x.2.1.le m → x.2.2.ok → (tLoop i k x).2.1.le (m + k) ∧ (tLoop i k x).2.2.ok ∧ (tLoop i k x).1.length = x.1.length + k
  | 0, x, m, h, hs => ⟨h, hs, rfl⟩
  | k + 1, x, m, h, hs => by
    obtain ⟨h1, h2, h3⟩ := tLoop_le i k (tStep i (k + 1) x) (m + 1) (add_le h _) (Src.af_ok (Src.af_ok (Src.af_ok hs)))
    refine ⟨h1.mono (by omega), h2, ?_⟩
    simp only [tLoop]
    rw [h3]
    simp only [tStep, List.length_append, List.length_singleton]
    omega
theorem oStep_le (i : Nat) (x : Bld × Src) (m : Nat) (h : x.1.le m) (hs : x.2.ok) : (oStep i x).1.le (m + 4) ∧ (oStep i x).2.ok := by
  have hk := x.2.nx_lt (n := 2) (by omega)
  have h0 : (x.1.addSt (nameN ⟨#[83]⟩ i)).le (m + 1) := ⟨by have := h.s1; simp only [Bld.addSt, List.length_append, List.length_singleton]; omega, Nat.le_succ_of_le h.s2, Nat.le_succ_of_le h.s3, Nat.le_succ_of_le h.s4, Nat.le_succ_of_le h.s5, Nat.le_succ_of_le h.s6⟩
  obtain ⟨h1, h2, h3⟩ := tLoop_le i (1 + x.2.nx 2) ([], x.1.addSt (nameN ⟨#[83]⟩ i), x.2.af) (m + 1) h0 (Src.af_ok hs)
  have h1' := h1.mono (show m + 1 + (1 + x.2.nx 2) ≤ m + 3 by omega)
  exact ⟨⟨Nat.le_succ_of_le h1'.s1, Nat.le_succ_of_le h1'.s2, Nat.le_succ_of_le h1'.s3, Nat.le_succ_of_le h1'.s4, by have := h1'.s5; simp only [oStep, Bld.addTr, List.length_append, List.length_singleton]; omega, Nat.le_succ_of_le h1'.s6⟩, h2⟩
theorem iter_le {f : Nat → Bld × Src → Bld × Src} (c : Nat) (hf : ∀ i x m, x.1.le m → x.2.ok → (f i x).1.le (m + c) ∧ (f i x).2.ok) {x : Bld × Src} {m : Nat} (h : x.1.le m) (hs : x.2.ok) : ∀ i, (iter f x i).1.le (m + i * c) ∧ (iter f x i).2.ok
  | 0 => ⟨h.mono (by omega), hs⟩
  | i + 1 => by
    obtain ⟨h1, h2⟩ := iter_le c hf h hs i
    obtain ⟨h3, h4⟩ := hf i _ _ h1 h2
    exact ⟨h3.mono (by rw [Nat.succ_mul]; omega), h4⟩
theorem zero_le' : Bld.zero.le 0 := ⟨Nat.le_refl _, Nat.le_refl _, Nat.le_refl _, Nat.le_refl _, Nat.le_refl _, Nat.le_refl _⟩
def secL (i k : Nat) (s : Src) : Sec := s.sec (nameN (nameN ⟨#[76]⟩ i) k) (-1)
def lStep (i k : Nat) (x : TBS) : TBS := (x.1 ++ [(x.2.1.L.secs.length : Int)], x.2.1.add (secL i k x.2.2), x.2.2.af.af.af)
def lLoop (i : Nat) : Nat → TBS → TBS
  | 0, x => x
  | k + 1, x => lLoop i k (lStep i (k + 1) x)
def cLoop (b : Bld) (t : List Int) : Nat → Bld
  | 0 => b
  | k + 1 => (cLoop b t k).link ⟨t.getD k 0, 1, t.getD (k + 1) 0, 0, -1, 0⟩
def pStep (i : Nat) (x : Bld × Src) : Bld × Src :=
  let y := lLoop i (1 + x.2.nx 2) ([], x.1, x.2.af)
  let c := cLoop y.2.1 y.1 (y.1.length - 1)
  let d := c.fan (y.1.getD 0 0) (c.tracks.getD i []) false
  let e := d.fan (y.1.getD (y.1.length - 1) 0) (d.tracks.getD (i + 1) []) true
  (e.addBt y.1, y.2.2)
def rowB (s : Src) : Bld × Src := iter pStep (iter oStep (Bld.zero, s.af) (2 + s.nx 2)) (1 + s.nx 2)
def TrOk (b : Bld) (m : Nat) : Prop := b.tracks.length = m ∧ ∀ t ∈ b.tracks, 1 ≤ t.length ∧ t.length ≤ 2
theorem tLoop_tr (i : Nat) : ∀ (k : Nat) (x : TBS), (tLoop i k x).2.1.tracks = x.2.1.tracks
  | 0, x => rfl
  | k + 1, x => tLoop_tr i k (tStep i (k + 1) x)
theorem oStep_tr (i : Nat) (x : Bld × Src) (m : Nat) (hl : x.1.le 100) (hs : x.2.ok) (h : TrOk x.1 m) : TrOk (oStep i x).1 (m + 1) := by
  have hk := x.2.nx_lt (n := 2) (by omega)
  have h0 : (x.1.addSt (nameN ⟨#[83]⟩ i)).le 101 := ⟨by have := hl.s1; simp only [Bld.addSt, List.length_append, List.length_singleton]; omega, Nat.le_succ_of_le hl.s2, Nat.le_succ_of_le hl.s3, Nat.le_succ_of_le hl.s4, Nat.le_succ_of_le hl.s5, Nat.le_succ_of_le hl.s6⟩
  obtain ⟨_, _, h3⟩ := tLoop_le i (1 + x.2.nx 2) ([], x.1.addSt (nameN ⟨#[83]⟩ i), x.2.af) 101 h0 (Src.af_ok hs)
  have h4 := tLoop_tr i (1 + x.2.nx 2) ([], x.1.addSt (nameN ⟨#[83]⟩ i), x.2.af)
  simp only [List.length_nil, Nat.zero_add] at h3
  unfold TrOk
  simp only [oStep, Bld.addTr]
  rw [h4]
  refine ⟨by simp only [Bld.addSt, List.length_append, List.length_singleton]; rw [h.1], fun t ht => ?_⟩
  rcases List.mem_append.1 ht with ht | ht
  · exact h.2 t ht
  · rw [List.mem_singleton] at ht
    rw [ht, h3]
    omega
theorem oIter_tr {s : Src} (hs : s.ok) : ∀ i, i ≤ 3 → TrOk (iter oStep (Bld.zero, s) i).1 i
  | 0, _ => ⟨rfl, fun t ht => by cases ht⟩
  | i + 1, hi => by
    obtain ⟨h1, h2⟩ := iter_le (x := (Bld.zero, s)) (m := 0) 4 oStep_le zero_le' hs i
    exact oStep_tr i _ i (h1.mono (by omega)) h2 (oIter_tr hs i (by omega))
theorem lLoop_le (i : Nat) : ∀ (k : Nat) (x : TBS) (m : Nat), x.2.1.le m → x.2.2.ok → (lLoop i k x).2.1.le (m + k) ∧ (lLoop i k x).2.2.ok ∧ (lLoop i k x).1.length = x.1.length + k ∧ (lLoop i k x).2.1.tracks = x.2.1.tracks
  | 0, x, m, h, hs => ⟨h, hs, rfl, rfl⟩
  | k + 1, x, m, h, hs => by
    obtain ⟨h1, h2, h3, h4⟩ := lLoop_le i k (lStep i (k + 1) x) (m + 1) (add_le h _) (Src.af_ok (Src.af_ok (Src.af_ok hs)))
    refine ⟨h1.mono (by omega), h2, ?_, h4⟩
    simp only [lLoop]
    rw [h3]
    simp only [lStep, List.length_append, List.length_singleton]
    omega
theorem link_le {b : Bld} {m : Nat} (h : b.le m) (k : Lnk) : (b.link k).le (m + 1) := ⟨Nat.le_succ_of_le h.s1, Nat.le_succ_of_le h.s2, Nat.le_succ_of_le h.s3, by have := h.s4; simp only [Bld.link, List.length_append, List.length_singleton]; omega, Nat.le_succ_of_le h.s5, Nat.le_succ_of_le h.s6⟩
theorem pt_le {b : Bld} {m : Nat} (h : b.le m) : b.pt.le (m + 1) := ⟨Nat.le_succ_of_le h.s1, by have := h.s2; simp only [Bld.pt, List.length_append, List.length_singleton]; omega, Nat.le_succ_of_le h.s3, Nat.le_succ_of_le h.s4, Nat.le_succ_of_le h.s5, Nat.le_succ_of_le h.s6⟩
theorem cLoop_le {b : Bld} {m : Nat} (h : b.le m) (t : List Int) : ∀ k, (cLoop b t k).le (m + k) ∧ (cLoop b t k).tracks = b.tracks
  | 0 => ⟨h, rfl⟩
  | k + 1 => by
    obtain ⟨h1, h2⟩ := cLoop_le h t k
    exact ⟨link_le h1 _, h2⟩
theorem links_le {b : Bld} {m : Nat} (h : b.le m) (x pt : Int) (east : Bool) (ts : List Int) : ∀ k, (b.links x pt east ts k).le (m + k) ∧ (b.links x pt east ts k).tracks = b.tracks
  | 0 => ⟨h, rfl⟩
  | k + 1 => by
    obtain ⟨h1, h2⟩ := links_le h x pt east ts k
    exact ⟨link_le h1 _, h2⟩
theorem fan_le {b : Bld} {m : Nat} (h : b.le m) (x : Int) (ts : List Int) (east : Bool) (ht : ts.length ≤ 2) : (b.fan x ts east).le (m + 3) ∧ (b.fan x ts east).tracks = b.tracks := by
  unfold Bld.fan
  split
  · obtain ⟨h1, h2⟩ := links_le (pt_le h) x b.L.pts.length east ts ts.length
    exact ⟨h1.mono (by omega), h2⟩
  · obtain ⟨h1, h2⟩ := links_le h x (-1) east ts ts.length
    exact ⟨h1.mono (by omega), h2⟩
theorem pStep_le (i : Nat) (x : Bld × Src) (m k : Nat) (h : x.1.le m) (hs : x.2.ok) (ht : TrOk x.1 k) : (pStep i x).1.le (m + 10) ∧ (pStep i x).2.ok ∧ TrOk (pStep i x).1 k := by
  have hk := x.2.nx_lt (n := 2) (by omega)
  obtain ⟨h1, h2, h3, h4⟩ := lLoop_le i (1 + x.2.nx 2) ([], x.1, x.2.af) m h (Src.af_ok hs)
  simp only [List.length_nil, Nat.zero_add] at h3 h4
  have hlen : ∀ {b : Bld} (j : Nat), b.tracks = x.1.tracks → (b.tracks.getD j []).length ≤ 2 := fun {b} j e => by
    rw [e, List.getD_eq_getElem?_getD]
    cases hj : x.1.tracks[j]? with
    | none => simp
    | some t => exact (ht.2 t (List.mem_of_getElem? hj)).2
  unfold pStep
  simp only
  generalize lLoop i (1 + x.2.nx 2) ([], x.1, x.2.af) = y at h1 h2 h3 h4
  obtain ⟨c1, c2⟩ := cLoop_le h1 y.1 (y.1.length - 1)
  obtain ⟨d1, d2⟩ := fan_le c1 (y.1.getD 0 0) _ false (hlen (b := cLoop y.2.1 y.1 (y.1.length - 1)) i (c2.trans h4))
  obtain ⟨e1, e2⟩ := fan_le d1 (y.1.getD (y.1.length - 1) 0) _ true (hlen (i + 1) (d2.trans (c2.trans h4)))
  have e3 := e2.trans (d2.trans (c2.trans h4))
  refine ⟨?_, h2, ?_⟩
  · have e1' := e1.mono (show m + (1 + x.2.nx 2) + (y.1.length - 1) + 3 + 3 ≤ m + 9 by omega)
    exact ⟨Nat.le_succ_of_le e1'.s1, Nat.le_succ_of_le e1'.s2, Nat.le_succ_of_le e1'.s3, Nat.le_succ_of_le e1'.s4, Nat.le_succ_of_le e1'.s5, by have := e1'.s6; simp only [Bld.addBt, List.length_append, List.length_singleton]; omega⟩
  · unfold TrOk
    simp only [Bld.addBt]
    rw [e3]
    exact ht
theorem pIter_le {x : Bld × Src} {m k : Nat} (h : x.1.le m) (hs : x.2.ok) (ht : TrOk x.1 k) : ∀ i, (iter pStep x i).1.le (m + i * 10) ∧ (iter pStep x i).2.ok ∧ TrOk (iter pStep x i).1 k
  | 0 => ⟨h.mono (by omega), hs, ht⟩
  | i + 1 => by
    obtain ⟨h1, h2, h3⟩ := pIter_le h hs ht i
    obtain ⟨h4, h5, h6⟩ := pStep_le i _ _ k h1 h2 h3
    exact ⟨h4.mono (by rw [Nat.succ_mul]; omega), h5, h6⟩
abbrev slR (n : Nat) : SL := [sC 0 (pB 0), sC 3 (pB 1), sI 4 (2 + n)]
theorem row_ok (s : Src) (hs : s.ok) : OkV Try.prog 44 [.c (pB 0)] [some s.box] (.c (pB 1)) [some (rowB s).2.box, some (rowB s).1.box] := by
  have hk := s.nx_lt (n := 2) (by omega)
  have hN := next_ok s 2 hs (by omega) (by omega)
  unfold rowB
  obtain ⟨n, en⟩ : ∃ n, s.nx 2 = n := ⟨_, rfl⟩
  rw [en] at hN hk ⊢
  refine X_fn mixedX Try.func44 rfl (by kernel_rfl) (Nat.le_of_ble_eq_true (by kernel_rfl)) (by kernel_rfl) rfl rfl (Nat.le_of_ble_eq_true rfl) rfl rfl ?_
  simp only [sl0, Nat.zero_add, Nat.reduceAdd]
  repeat' (first
    |with_reducible (first|refine WR_pp ?_|refine WR_pd ?_|refine W_seq ?_|refine seqK_n ?_|refine seqK_r ?_|refine seqK_e ?_|refine W_block ?_|refine blockK_n ?_|refine blockK_r ?_|refine LoopK_e ?_|refine LoopK_r ?_|refine LoopX_r ?_|refine W_skip ?_|refine W_exit ?_|refine W_ret ?_|refine W_region (WOps_WR ?_)|refine W_draw (WOpsD_WR ?_)|refine WR_nil ?_|refine q_and ?_ ?_|exact True.intro|assumption|refine blockK_e rfl ?_|refine blockK_o (by decide) ?_|refine LoopX_e (by decide) ?_)
    |((with_reducible apply q_call);refine X_call [0] (hN) rfl rfl rfl rfl rfl rfl rfl rfl rfl rfl rfl rfl rfl ?_)
    |((with_reducible apply q_WR);first|refine X_run rfl ?_ ?_|refine WR_nilD (by kernel_rfl) ?_)
    |((with_reducible apply q_cond);refine X_cond rfl ?_ ?_;all_goals (intro hbq;(try simp only [bq] at hbq);(try (exfalso;omega))))
    |((with_reducible apply q_ret);refine X_ret tabOk trivial rfl rfl ?_ ?_)
    |((with_reducible apply q_retP);refine X_retP tabOk trivial rfl rfl ?_ ?_)
    |(intro (hgq : (_ : Bool) = true);(try simp only [bq] at hgq))
    |(intro (hgq : (_ : Bool) = false);(try simp only [bq] at hgq))
    |((with_reducible apply q_VOk);exact fun _ => ⟨rfl,rfl⟩)
    |(intro _;exact rfl)
    |((with_reducible apply q_bt);simp only [bq])
    |((with_reducible apply q_eqN);rfl)
    |with_reducible exact isByte_wrap _
    |with_reducible exact isByte_nat _
    |(simp only [hgq,bq];done)
    |omega)
  refine W_loopS (fun i : Nat => SS (sI 5 i :: slR n) [some (iter oStep (Bld.zero, s.af) i).2.box, some (iter oStep (Bld.zero, s.af) i).1.box]) (fun i => i ≤ 2 + n) (fun i => 2 + n - i) 0 ?_ (by omega) ?_
  ·
    refine X_weak rfl rfl rfl ?_ ?_ <;> repeat' (first|with_reducible (first|exact q_AgS0|exact HLe.nil _|refine HLe.none ?_|refine HLe.cells ?_ ?_|refine HLe.els ?_ ?_|exact SLe.nil|refine SLe.cons ?_ ?_|exact ELe.refl _|refine ELe.c rfl ?_|exact CLe.refl _|exact CLe.nil_row|exact CLe.nil_rowS|exact CLe.nil_tip|exact CLe.nil_tipS|exact CLe.int (by omega)|refine CLe.tip ?_ ?_|refine CLe.tip_row ?_ ?_|refine CLe.row ?_ ?_|refine CLe.tipr_row ?_|refine CLe.rows ?_|refine CLe.tips ?_|refine CLe.int ?_|refine CLe.bool ?_|refine CLe.str ?_|refine CLe.arr ?_ ?_)|refine q_AgS rfl ?_ ?_|exact CLe.nil_tipS|exact CLe.nil_rowS|refine HLe.cells ?_ ?_|refine HLe.els ?_ ?_|refine SLe.cons ?_ ?_|with_reducible rfl|omega)
    all_goals rfl
  · intro i hi
    have hin : i ≤ 3 := by omega
    obtain ⟨hle, hso⟩ := iter_le (x := (Bld.zero, s.af)) (m := 0) 4 oStep_le zero_le' (Src.af_ok hs) i
    obtain ⟨X, eX⟩ : ∃ X, iter oStep (Bld.zero, s.af) i = X := ⟨_, rfl⟩
    have eX1 : iter oStep (Bld.zero, s.af) (i + 1) = oStep i X := by rw [← eX]; rfl
    rw [eX] at hle hso
    rw [eX]
    by_cases hlt : i < 2 + n
    · obtain ⟨b, s1⟩ := X
      dsimp only at hle hso ⊢
      have hk2 := s1.nx_lt (n := 2) (by omega)
      have hS := named_ok ⟨#[83]⟩ i (by decide) (by omega)
      have hN1 := next_ok s1 2 hso (by omega) (by omega)
      have hl1 := hle.s1
      obtain ⟨F, eF⟩ : ∃ F, tLoop i (1 + s1.nx 2) ([], b.addSt (nameN ⟨#[83]⟩ i), s1.af) = F := ⟨_, rfl⟩
      have eO : oStep i (b, s1) = (F.2.1.addTr F.1, F.2.2) := by simp only [oStep, eF]
      rw [eO] at eX1
      have h0 : (b.addSt (nameN ⟨#[83]⟩ i)).le (0 + i * 4 + 1) := ⟨by simp only [Bld.addSt, List.length_append, List.length_singleton]; omega, Nat.le_succ_of_le hle.s2, Nat.le_succ_of_le hle.s3, Nat.le_succ_of_le hle.s4, Nat.le_succ_of_le hle.s5, Nat.le_succ_of_le hle.s6⟩
      repeat' (first
        |with_reducible (first|refine WR_pp ?_|refine WR_pd ?_|refine W_seq ?_|refine seqK_n ?_|refine seqK_r ?_|refine seqK_e ?_|refine W_block ?_|refine blockK_n ?_|refine blockK_r ?_|refine LoopK_e ?_|refine LoopK_r ?_|refine LoopX_r ?_|refine W_skip ?_|refine W_exit ?_|refine W_ret ?_|refine W_region (WOps_WR ?_)|refine W_draw (WOpsD_WR ?_)|refine WR_nil ?_|refine q_and ?_ ?_|exact True.intro|assumption|refine blockK_e rfl ?_|refine blockK_o (by decide) ?_|refine LoopX_e (by decide) ?_)
        |((with_reducible apply q_call);first|refine X_pure (hS) rfl ?_|refine X_call [0] (hN1) rfl rfl rfl rfl rfl rfl rfl rfl rfl rfl rfl rfl rfl ?_)
        |((with_reducible apply q_WR);first|refine X_run rfl ?_ ?_|refine WR_nilD (by kernel_rfl) ?_)
        |((with_reducible apply q_cond);refine X_cond rfl ?_ ?_;all_goals (intro hbq;(try simp only [bq] at hbq);(try (exfalso;omega))))
        |((with_reducible apply q_ret);refine X_ret tabOk trivial rfl rfl ?_ ?_)
        |((with_reducible apply q_retP);refine X_retP tabOk trivial rfl rfl ?_ ?_)
        |(intro (hgq : (_ : Bool) = true);(try simp only [bq] at hgq))
        |(intro (hgq : (_ : Bool) = false);(try simp only [bq] at hgq))
        |((with_reducible apply q_VOk);exact fun _ => ⟨rfl,rfl⟩)
        |(intro _;exact rfl)
        |((with_reducible apply q_bt);simp only [bq])
        |((with_reducible apply q_eqN);rfl)
        |with_reducible exact isByte_wrap _
        |with_reducible exact isByte_nat _
        |(simp only [hgq,bq];done)
        |omega)
      refine W_loopS (fun g : Nat × TBS => SS (sI 7 g.1 :: sC 6 (tInt g.2.1) :: sI 5 i :: slR n) [some g.2.2.2.box, some g.2.2.1.box]) (fun g => tLoop i g.1 g.2 = F ∧ (∃ m, g.2.2.1.le m ∧ m + g.1 ≤ 20) ∧ g.2.2.2.ok ∧ g.2.1.length + g.1 ≤ 3) (fun g => g.1) (1 + s1.nx 2, [], b.addSt (nameN ⟨#[83]⟩ i), s1.af) ?_ ⟨eF, ⟨_, h0, by dsimp only; omega⟩, Src.af_ok hso, by simp only [List.length_nil]; omega⟩ ?_
      ·
        refine X_weak rfl rfl rfl ?_ ?_ <;> repeat' (first|with_reducible (first|exact q_AgS0|exact HLe.nil _|refine HLe.none ?_|refine HLe.cells ?_ ?_|refine HLe.els ?_ ?_|exact SLe.nil|refine SLe.cons ?_ ?_|exact ELe.refl _|refine ELe.c rfl ?_|exact CLe.refl _|exact CLe.nil_row|exact CLe.nil_rowS|exact CLe.nil_tip|exact CLe.nil_tipS|exact CLe.int (by omega)|refine CLe.tip ?_ ?_|refine CLe.tip_row ?_ ?_|refine CLe.row ?_ ?_|refine CLe.tipr_row ?_|refine CLe.rows ?_|refine CLe.tips ?_|refine CLe.int ?_|refine CLe.bool ?_|refine CLe.str ?_|refine CLe.arr ?_ ?_)|refine q_AgS rfl ?_ ?_|exact CLe.nil_tipS|exact CLe.nil_rowS|refine HLe.cells ?_ ?_|refine HLe.els ?_ ?_|refine SLe.cons ?_ ?_|with_reducible rfl|omega)
        all_goals (simp [Bld.addSt, fStr, fS]; done)
      · intro g hg
        obtain ⟨k, tt, b2, s2⟩ := g
        obtain ⟨g1, ⟨m, g2, g2'⟩, g3, g4⟩ := hg
        dsimp only at g1 g2 g2' g3 g4 ⊢
        cases k with
        | zero =>
          have hF : (tt, b2, s2) = F := g1
          subst hF
          have hl5 := g2.s5
          repeat' (first
            |with_reducible (first|refine WR_pp ?_|refine WR_pd ?_|refine W_seq ?_|refine seqK_n ?_|refine seqK_r ?_|refine seqK_e ?_|refine W_block ?_|refine blockK_n ?_|refine blockK_r ?_|refine LoopK_e ?_|refine LoopK_r ?_|refine LoopX_r ?_|refine W_skip ?_|refine W_exit ?_|refine W_ret ?_|refine W_region (WOps_WR ?_)|refine W_draw (WOpsD_WR ?_)|refine WR_nil ?_|refine q_and ?_ ?_|exact True.intro|assumption|refine blockK_e rfl ?_|refine blockK_o (by decide) ?_|refine LoopX_e (by decide) ?_)
            |((with_reducible apply q_WR);first|refine X_run rfl ?_ ?_|refine WR_nilD (by kernel_rfl) ?_)
            |((with_reducible apply q_cond);refine X_cond rfl ?_ ?_;all_goals (intro hbq;(try simp only [bq] at hbq);(try (exfalso;omega))))
            |((with_reducible apply q_ret);refine X_ret tabOk trivial rfl rfl ?_ ?_)
            |((with_reducible apply q_retP);refine X_retP tabOk trivial rfl rfl ?_ ?_)
            |(intro (hgq : (_ : Bool) = true);(try simp only [bq] at hgq))
            |(intro (hgq : (_ : Bool) = false);(try simp only [bq] at hgq))
            |((with_reducible apply q_VOk);exact fun _ => ⟨rfl,rfl⟩)
            |(intro _;exact rfl)
            |((with_reducible apply q_bt);simp only [bq])
            |((with_reducible apply q_eqN);rfl)
            |with_reducible exact isByte_wrap _
            |with_reducible exact isByte_nat _
            |(simp only [hgq,bq];done)
            |omega)
          refine LoopK_n (i + 1) ?_ (by omega) (by omega)
          rw [eX1]
          refine X_weak rfl rfl rfl ?_ ?_ <;> repeat' (first|with_reducible (first|exact q_AgS0|exact HLe.nil _|refine HLe.none ?_|refine HLe.cells ?_ ?_|refine HLe.els ?_ ?_|exact SLe.nil|refine SLe.cons ?_ ?_|exact ELe.refl _|refine ELe.c rfl ?_|exact CLe.refl _|exact CLe.nil_row|exact CLe.nil_rowS|exact CLe.nil_tip|exact CLe.nil_tipS|exact CLe.int (by omega)|refine CLe.tip ?_ ?_|refine CLe.tip_row ?_ ?_|refine CLe.row ?_ ?_|refine CLe.tipr_row ?_|refine CLe.rows ?_|refine CLe.tips ?_|refine CLe.int ?_|refine CLe.bool ?_|refine CLe.str ?_|refine CLe.arr ?_ ?_)|refine q_AgS rfl ?_ ?_|exact CLe.nil_tipS|exact CLe.nil_rowS|refine HLe.cells ?_ ?_|refine HLe.els ?_ ?_|refine SLe.cons ?_ ?_|with_reducible rfl|omega)
          all_goals (simp [Bld.addTr, fTrk]; done)
        | succ k =>
          have hT := named_ok ⟨#[84]⟩ i (by decide) (by omega)
          have hT2 := named_ok (nameN ⟨#[84]⟩ i) (k + 1) (by rw [nameN_size]; decide) (by omega)
          have hC := section_ok s2 (nameN (nameN ⟨#[84]⟩ i) (k + 1)) i g3
          have hA := add_ok b2 (secT i (k + 1) s2) (g2.small (by omega))
          have q1 := s2.nx_lt (n := 9) (by omega)
          have q2 : (s2.sec (nameN (nameN ⟨#[84]⟩ i) (k + 1)) i).len = 2 + s2.nx 9 := rfl
          repeat' (first
            |with_reducible (first|refine WR_pp ?_|refine WR_pd ?_|refine W_seq ?_|refine seqK_n ?_|refine seqK_r ?_|refine seqK_e ?_|refine W_block ?_|refine blockK_n ?_|refine blockK_r ?_|refine LoopK_e ?_|refine LoopK_r ?_|refine LoopX_r ?_|refine W_skip ?_|refine W_exit ?_|refine W_ret ?_|refine W_region (WOps_WR ?_)|refine W_draw (WOpsD_WR ?_)|refine WR_nil ?_|refine q_and ?_ ?_|exact True.intro|assumption|refine blockK_e rfl ?_|refine blockK_o (by decide) ?_|refine LoopX_e (by decide) ?_)
            |((with_reducible apply q_call);first|refine X_pure (hT) rfl ?_|refine X_pure (hT2) rfl ?_|refine X_call [0] (hC) rfl rfl rfl rfl rfl rfl rfl rfl rfl rfl rfl rfl rfl ?_|refine X_call [1] (hA) rfl rfl rfl rfl rfl rfl rfl rfl rfl rfl rfl rfl rfl ?_)
            |((with_reducible apply q_WR);first|refine X_run rfl ?_ ?_|refine WR_nilD (by kernel_rfl) ?_)
            |((with_reducible apply q_cond);refine X_cond rfl ?_ ?_;all_goals (intro hbq;(try simp only [bq] at hbq);(try (exfalso;omega))))
            |((with_reducible apply q_ret);refine X_ret tabOk trivial rfl rfl ?_ ?_)
            |((with_reducible apply q_retP);refine X_retP tabOk trivial rfl rfl ?_ ?_)
            |(intro (hgq : (_ : Bool) = true);(try simp only [bq] at hgq))
            |(intro (hgq : (_ : Bool) = false);(try simp only [bq] at hgq))
            |((with_reducible apply q_VOk);exact fun _ => ⟨rfl,rfl⟩)
            |(intro _;exact rfl)
            |((with_reducible apply q_bt);simp only [bq])
            |((with_reducible apply q_eqN);rfl)
            |with_reducible exact isByte_wrap _
            |with_reducible exact isByte_nat _
            |(simp only [hgq,bq];done)
            |omega)
          refine LoopK_n (k, tStep i (k + 1) (tt, b2, s2)) ?_ ⟨g1, ⟨m + 1, add_le g2 _, by simp only; omega⟩, Src.af_ok (Src.af_ok (Src.af_ok g3)), by simp only [tStep, List.length_append, List.length_singleton]; omega⟩ (by simp only; omega)
          refine X_weak rfl rfl rfl ?_ ?_ <;> repeat' (first|with_reducible (first|exact q_AgS0|exact HLe.nil _|refine HLe.none ?_|refine HLe.cells ?_ ?_|refine HLe.els ?_ ?_|exact SLe.nil|refine SLe.cons ?_ ?_|exact ELe.refl _|refine ELe.c rfl ?_|exact CLe.refl _|exact CLe.nil_row|exact CLe.nil_rowS|exact CLe.nil_tip|exact CLe.nil_tipS|exact CLe.int (by omega)|refine CLe.tip ?_ ?_|refine CLe.tip_row ?_ ?_|refine CLe.row ?_ ?_|refine CLe.tipr_row ?_|refine CLe.rows ?_|refine CLe.tips ?_|refine CLe.int ?_|refine CLe.bool ?_|refine CLe.str ?_|refine CLe.arr ?_ ?_)|refine q_AgS rfl ?_ ?_|exact CLe.nil_tipS|exact CLe.nil_rowS|refine HLe.cells ?_ ?_|refine HLe.els ?_ ?_|refine SLe.cons ?_ ?_|with_reducible rfl|omega)
          all_goals (simp [tStep, fInt, fI]; done)
    · have hie : i = 2 + n := by omega
      subst hie
      clear eX1
      obtain ⟨b0, s0⟩ := X
      dsimp only at hle hso ⊢
      rw [eX]
      clear hlt hi hin
      have hTr := oIter_tr (Src.af_ok hs) (2 + n) (by omega)
      rw [eX] at hTr
      repeat' (first
        |with_reducible (first|refine WR_pp ?_|refine WR_pd ?_|refine W_seq ?_|refine seqK_n ?_|refine seqK_r ?_|refine seqK_e ?_|refine W_block ?_|refine blockK_n ?_|refine blockK_r ?_|refine LoopK_e ?_|refine LoopK_r ?_|refine LoopX_r ?_|refine W_skip ?_|refine W_exit ?_|refine W_ret ?_|refine W_region (WOps_WR ?_)|refine W_draw (WOpsD_WR ?_)|refine WR_nil ?_|refine q_and ?_ ?_|exact True.intro|assumption|refine blockK_e rfl ?_|refine blockK_o (by decide) ?_|refine LoopX_e (by decide) ?_)
        |((with_reducible apply q_WR);first|refine X_run rfl ?_ ?_|refine WR_nilD (by kernel_rfl) ?_)
        |((with_reducible apply q_cond);refine X_cond rfl ?_ ?_;all_goals (intro hbq;(try simp only [bq] at hbq);(try (exfalso;omega))))
        |((with_reducible apply q_ret);refine X_ret tabOk trivial rfl rfl ?_ ?_)
        |((with_reducible apply q_retP);refine X_retP tabOk trivial rfl rfl ?_ ?_)
        |(intro (hgq : (_ : Bool) = true);(try simp only [bq] at hgq))
        |(intro (hgq : (_ : Bool) = false);(try simp only [bq] at hgq))
        |((with_reducible apply q_VOk);exact fun _ => ⟨rfl,rfl⟩)
        |(intro _;exact rfl)
        |((with_reducible apply q_bt);simp only [bq])
        |((with_reducible apply q_eqN);rfl)
        |with_reducible exact isByte_wrap _
        |with_reducible exact isByte_nat _
        |(simp only [hgq,bq];done)
        |omega)
      refine W_loopS (fun i : Nat => SS (sI 9 i :: slR n) [some (iter pStep (b0, s0) i).2.box, some (iter pStep (b0, s0) i).1.box]) (fun i => i ≤ 1 + n) (fun i => 1 + n - i) 0 ?_ (by omega) ?_
      ·
        refine X_weak rfl rfl rfl ?_ ?_ <;> repeat' (first|with_reducible (first|exact q_AgS0|exact HLe.nil _|refine HLe.none ?_|refine HLe.cells ?_ ?_|refine HLe.els ?_ ?_|exact SLe.nil|refine SLe.cons ?_ ?_|exact ELe.refl _|refine ELe.c rfl ?_|exact CLe.refl _|exact CLe.nil_row|exact CLe.nil_rowS|exact CLe.nil_tip|exact CLe.nil_tipS|exact CLe.int (by omega)|refine CLe.tip ?_ ?_|refine CLe.tip_row ?_ ?_|refine CLe.row ?_ ?_|refine CLe.tipr_row ?_|refine CLe.rows ?_|refine CLe.tips ?_|refine CLe.int ?_|refine CLe.bool ?_|refine CLe.str ?_|refine CLe.arr ?_ ?_)|refine q_AgS rfl ?_ ?_|exact CLe.nil_tipS|exact CLe.nil_rowS|refine HLe.cells ?_ ?_|refine HLe.els ?_ ?_|refine SLe.cons ?_ ?_|with_reducible rfl|omega)
        all_goals rfl
      · intro i hi
        obtain ⟨hpl, hps, hpt⟩ := pIter_le hle hso hTr i
        obtain ⟨X, eX2⟩ : ∃ X, iter pStep (b0, s0) i = X := ⟨_, rfl⟩
        have eX1 : iter pStep (b0, s0) (i + 1) = pStep i X := by rw [← eX2]; rfl
        rw [eX2] at hpl hps hpt
        rw [eX2]
        by_cases hlt : i < 1 + n
        · obtain ⟨b, s1⟩ := X
          dsimp only at hpl hps hpt ⊢
          have hk2 := s1.nx_lt (n := 2) (by omega)
          have hN1 := next_ok s1 2 hps (by omega) (by omega)
          have hin : i ≤ 2 := by omega
          obtain ⟨F, eF⟩ : ∃ F, lLoop i (1 + s1.nx 2) ([], b, s1.af) = F := ⟨_, rfl⟩
          obtain ⟨f1, f2, f3, f4⟩ := lLoop_le i (1 + s1.nx 2) ([], b, s1.af) _ hpl (Src.af_ok hps)
          rw [eF] at f1 f2 f3 f4
          simp only [List.length_nil, Nat.zero_add] at f3 f4
          have hTrF : TrOk F.2.1 (2 + n) := ⟨by rw [f4]; exact hpt.1, by rw [f4]; exact hpt.2⟩
          repeat' (first
            |with_reducible (first|refine WR_pp ?_|refine WR_pd ?_|refine W_seq ?_|refine seqK_n ?_|refine seqK_r ?_|refine seqK_e ?_|refine W_block ?_|refine blockK_n ?_|refine blockK_r ?_|refine LoopK_e ?_|refine LoopK_r ?_|refine LoopX_r ?_|refine W_skip ?_|refine W_exit ?_|refine W_ret ?_|refine W_region (WOps_WR ?_)|refine W_draw (WOpsD_WR ?_)|refine WR_nil ?_|refine q_and ?_ ?_|exact True.intro|assumption|refine blockK_e rfl ?_|refine blockK_o (by decide) ?_|refine LoopX_e (by decide) ?_)
            |((with_reducible apply q_call);refine X_call [0] (hN1) rfl rfl rfl rfl rfl rfl rfl rfl rfl rfl rfl rfl rfl ?_)
            |((with_reducible apply q_WR);first|refine X_run rfl ?_ ?_|refine WR_nilD (by kernel_rfl) ?_)
            |((with_reducible apply q_cond);refine X_cond rfl ?_ ?_;all_goals (intro hbq;(try simp only [bq] at hbq);(try (exfalso;omega))))
            |((with_reducible apply q_ret);refine X_ret tabOk trivial rfl rfl ?_ ?_)
            |((with_reducible apply q_retP);refine X_retP tabOk trivial rfl rfl ?_ ?_)
            |(intro (hgq : (_ : Bool) = true);(try simp only [bq] at hgq))
            |(intro (hgq : (_ : Bool) = false);(try simp only [bq] at hgq))
            |((with_reducible apply q_VOk);exact fun _ => ⟨rfl,rfl⟩)
            |(intro _;exact rfl)
            |((with_reducible apply q_bt);simp only [bq])
            |((with_reducible apply q_eqN);rfl)
            |with_reducible exact isByte_wrap _
            |with_reducible exact isByte_nat _
            |(simp only [hgq,bq];done)
            |omega)
          refine W_loopS (fun g : Nat × TBS => SS (sI 11 g.1 :: sC 10 (tInt g.2.1) :: sI 9 i :: slR n) [some g.2.2.2.box, some g.2.2.1.box]) (fun g => lLoop i g.1 g.2 = F ∧ (∃ m, g.2.2.1.le m ∧ m + g.1 ≤ 100) ∧ g.2.2.2.ok ∧ g.2.1.length + g.1 ≤ 3) (fun g => g.1) (1 + s1.nx 2, [], b, s1.af) ?_ ⟨eF, ⟨_, hpl, by dsimp only; omega⟩, Src.af_ok hps, by simp only [List.length_nil]; omega⟩ ?_
          ·
            refine X_weak rfl rfl rfl ?_ ?_ <;> repeat' (first|with_reducible (first|exact q_AgS0|exact HLe.nil _|refine HLe.none ?_|refine HLe.cells ?_ ?_|refine HLe.els ?_ ?_|exact SLe.nil|refine SLe.cons ?_ ?_|exact ELe.refl _|refine ELe.c rfl ?_|exact CLe.refl _|exact CLe.nil_row|exact CLe.nil_rowS|exact CLe.nil_tip|exact CLe.nil_tipS|exact CLe.int (by omega)|refine CLe.tip ?_ ?_|refine CLe.tip_row ?_ ?_|refine CLe.row ?_ ?_|refine CLe.tipr_row ?_|refine CLe.rows ?_|refine CLe.tips ?_|refine CLe.int ?_|refine CLe.bool ?_|refine CLe.str ?_|refine CLe.arr ?_ ?_)|refine q_AgS rfl ?_ ?_|exact CLe.nil_tipS|exact CLe.nil_rowS|refine HLe.cells ?_ ?_|refine HLe.els ?_ ?_|refine SLe.cons ?_ ?_|with_reducible rfl|omega)
          · intro g hg
            obtain ⟨k, tt, b2, s2⟩ := g
            obtain ⟨g1, ⟨m, g2, g2'⟩, g3, g4⟩ := hg
            dsimp only at g1 g2 g2' g3 g4 ⊢
            cases k with
            | succ k =>
              have hT := named_ok ⟨#[76]⟩ i (by decide) (by omega)
              have hT2 := named_ok (nameN ⟨#[76]⟩ i) (k + 1) (by rw [nameN_size]; decide) (by omega)
              have hC := section_ok s2 (nameN (nameN ⟨#[76]⟩ i) (k + 1)) (-1) g3
              have hA := add_ok b2 (secL i (k + 1) s2) (g2.small (by omega))
              repeat' (first
                |with_reducible (first|refine WR_pp ?_|refine WR_pd ?_|refine W_seq ?_|refine seqK_n ?_|refine seqK_r ?_|refine seqK_e ?_|refine W_block ?_|refine blockK_n ?_|refine blockK_r ?_|refine LoopK_e ?_|refine LoopK_r ?_|refine LoopX_r ?_|refine W_skip ?_|refine W_exit ?_|refine W_ret ?_|refine W_region (WOps_WR ?_)|refine W_draw (WOpsD_WR ?_)|refine WR_nil ?_|refine q_and ?_ ?_|exact True.intro|assumption|refine blockK_e rfl ?_|refine blockK_o (by decide) ?_|refine LoopX_e (by decide) ?_)
                |((with_reducible apply q_call);first|refine X_pure (hT) rfl ?_|refine X_pure (hT2) rfl ?_|refine X_call [0] (hC) rfl rfl rfl rfl rfl rfl rfl rfl rfl rfl rfl rfl rfl ?_|refine X_call [1] (hA) rfl rfl rfl rfl rfl rfl rfl rfl rfl rfl rfl rfl rfl ?_)
                |((with_reducible apply q_WR);first|refine X_run rfl ?_ ?_|refine WR_nilD (by kernel_rfl) ?_)
                |((with_reducible apply q_cond);refine X_cond rfl ?_ ?_;all_goals (intro hbq;(try simp only [bq] at hbq);(try (exfalso;omega))))
                |((with_reducible apply q_ret);refine X_ret tabOk trivial rfl rfl ?_ ?_)
                |((with_reducible apply q_retP);refine X_retP tabOk trivial rfl rfl ?_ ?_)
                |(intro (hgq : (_ : Bool) = true);(try simp only [bq] at hgq))
                |(intro (hgq : (_ : Bool) = false);(try simp only [bq] at hgq))
                |((with_reducible apply q_VOk);exact fun _ => ⟨rfl,rfl⟩)
                |(intro _;exact rfl)
                |((with_reducible apply q_bt);simp only [bq])
                |((with_reducible apply q_eqN);rfl)
                |with_reducible exact isByte_wrap _
                |with_reducible exact isByte_nat _
                |(simp only [hgq,bq];done)
                |omega)
              refine LoopK_n (k, lStep i (k + 1) (tt, b2, s2)) ?_ ⟨g1, ⟨m + 1, add_le g2 _, by simp only; omega⟩, Src.af_ok (Src.af_ok (Src.af_ok g3)), by simp only [lStep, List.length_append, List.length_singleton]; omega⟩ (by simp only; omega)
              refine X_weak rfl rfl rfl ?_ ?_ <;> repeat' (first|with_reducible (first|exact q_AgS0|exact HLe.nil _|refine HLe.none ?_|refine HLe.cells ?_ ?_|refine HLe.els ?_ ?_|exact SLe.nil|refine SLe.cons ?_ ?_|exact ELe.refl _|refine ELe.c rfl ?_|exact CLe.refl _|exact CLe.nil_row|exact CLe.nil_rowS|exact CLe.nil_tip|exact CLe.nil_tipS|exact CLe.int (by omega)|refine CLe.tip ?_ ?_|refine CLe.tip_row ?_ ?_|refine CLe.row ?_ ?_|refine CLe.tipr_row ?_|refine CLe.rows ?_|refine CLe.tips ?_|refine CLe.int ?_|refine CLe.bool ?_|refine CLe.str ?_|refine CLe.arr ?_ ?_)|refine q_AgS rfl ?_ ?_|exact CLe.nil_tipS|exact CLe.nil_rowS|refine HLe.cells ?_ ?_|refine HLe.els ?_ ?_|refine SLe.cons ?_ ?_|with_reducible rfl|omega)
              all_goals (simp [lStep, fInt, fI]; done)
            | zero =>
              have hF : (tt, b2, s2) = F := g1
              subst hF
              simp only at f1 f2 f3 f4 hTrF
              have hcl := fun k => cLoop_le f1 tt k
              repeat' (first
                |with_reducible (first|refine WR_pp ?_|refine WR_pd ?_|refine W_seq ?_|refine seqK_n ?_|refine seqK_r ?_|refine seqK_e ?_|refine W_block ?_|refine blockK_n ?_|refine blockK_r ?_|refine LoopK_e ?_|refine LoopK_r ?_|refine LoopX_r ?_|refine W_skip ?_|refine W_exit ?_|refine W_ret ?_|refine W_region (WOps_WR ?_)|refine W_draw (WOpsD_WR ?_)|refine WR_nil ?_|refine q_and ?_ ?_|exact True.intro|assumption|refine blockK_e rfl ?_|refine blockK_o (by decide) ?_|refine LoopX_e (by decide) ?_)
                |((with_reducible apply q_WR);first|refine X_run rfl ?_ ?_|refine WR_nilD (by kernel_rfl) ?_)
                |((with_reducible apply q_cond);refine X_cond rfl ?_ ?_;all_goals (intro hbq;(try simp only [bq] at hbq);(try (exfalso;omega))))
                |((with_reducible apply q_ret);refine X_ret tabOk trivial rfl rfl ?_ ?_)
                |((with_reducible apply q_retP);refine X_retP tabOk trivial rfl rfl ?_ ?_)
                |(intro (hgq : (_ : Bool) = true);(try simp only [bq] at hgq))
                |(intro (hgq : (_ : Bool) = false);(try simp only [bq] at hgq))
                |((with_reducible apply q_VOk);exact fun _ => ⟨rfl,rfl⟩)
                |(intro _;exact rfl)
                |((with_reducible apply q_bt);simp only [bq])
                |((with_reducible apply q_eqN);rfl)
                |with_reducible exact isByte_wrap _
                |with_reducible exact isByte_nat _
                |(simp only [hgq,bq];done)
                |omega)
              refine W_loopS (fun k : Nat => SS (sI 12 k :: sC 10 (tInt tt) :: sI 9 i :: slR n) [some s2.box, some (cLoop b2 tt k).box]) (fun k => k ≤ tt.length - 1) (fun k => tt.length - 1 - k) 0 ?_ (by omega) ?_
              ·
                refine X_weak rfl rfl rfl ?_ ?_ <;> repeat' (first|with_reducible (first|exact q_AgS0|exact HLe.nil _|refine HLe.none ?_|refine HLe.cells ?_ ?_|refine HLe.els ?_ ?_|exact SLe.nil|refine SLe.cons ?_ ?_|exact ELe.refl _|refine ELe.c rfl ?_|exact CLe.refl _|exact CLe.nil_row|exact CLe.nil_rowS|exact CLe.nil_tip|exact CLe.nil_tipS|exact CLe.int (by omega)|refine CLe.tip ?_ ?_|refine CLe.tip_row ?_ ?_|refine CLe.row ?_ ?_|refine CLe.tipr_row ?_|refine CLe.rows ?_|refine CLe.tips ?_|refine CLe.int ?_|refine CLe.bool ?_|refine CLe.str ?_|refine CLe.arr ?_ ?_)|refine q_AgS rfl ?_ ?_|exact CLe.nil_tipS|exact CLe.nil_rowS|refine HLe.cells ?_ ?_|refine HLe.els ?_ ?_|refine SLe.cons ?_ ?_|with_reducible rfl|omega)
                all_goals rfl
              · intro k hkl
                by_cases hkt : k < tt.length - 1
                · have hK := link_ok (cLoop b2 tt k) (tt.getD (k : Int).toNat 0) (tt.getD ((k : Int) + 1).toNat 0) (-1) 0 ((hcl k).1.small (by omega))
                  repeat' (first
                    |with_reducible (first|refine WR_pp ?_|refine WR_pd ?_|refine W_seq ?_|refine seqK_n ?_|refine seqK_r ?_|refine seqK_e ?_|refine W_block ?_|refine blockK_n ?_|refine blockK_r ?_|refine LoopK_e ?_|refine LoopK_r ?_|refine LoopX_r ?_|refine W_skip ?_|refine W_exit ?_|refine W_ret ?_|refine W_region (WOps_WR ?_)|refine W_draw (WOpsD_WR ?_)|refine WR_nil ?_|refine q_and ?_ ?_|exact True.intro|assumption|refine blockK_e rfl ?_|refine blockK_o (by decide) ?_|refine LoopX_e (by decide) ?_)
                    |((with_reducible apply q_call);refine X_call [1] (hK) rfl rfl rfl rfl rfl rfl rfl rfl rfl rfl rfl rfl rfl ?_)
                    |((with_reducible apply q_WR);first|refine X_run rfl ?_ ?_|refine WR_nilD (by kernel_rfl) ?_)
                    |((with_reducible apply q_cond);refine X_cond rfl ?_ ?_;all_goals (intro hbq;(try simp only [bq] at hbq);(try (exfalso;omega))))
                    |((with_reducible apply q_ret);refine X_ret tabOk trivial rfl rfl ?_ ?_)
                    |((with_reducible apply q_retP);refine X_retP tabOk trivial rfl rfl ?_ ?_)
                    |(intro (hgq : (_ : Bool) = true);(try simp only [bq] at hgq))
                    |(intro (hgq : (_ : Bool) = false);(try simp only [bq] at hgq))
                    |((with_reducible apply q_VOk);exact fun _ => ⟨rfl,rfl⟩)
                    |(intro _;exact rfl)
                    |((with_reducible apply q_bt);simp only [bq])
                    |((with_reducible apply q_eqN);rfl)
                    |with_reducible exact isByte_wrap _
                    |with_reducible exact isByte_nat _
                    |(simp only [hgq,bq];done)
                    |omega)
                  refine LoopK_n (k + 1) ?_ ?_ ?_
                  rotate_left
                  · (try dsimp only); omega
                  · (try dsimp only); omega
                  refine X_weak rfl rfl rfl ?_ ?_ <;> repeat' (first|with_reducible (first|exact q_AgS0|exact HLe.nil _|refine HLe.none ?_|refine HLe.cells ?_ ?_|refine HLe.els ?_ ?_|exact SLe.nil|refine SLe.cons ?_ ?_|exact ELe.refl _|refine ELe.c rfl ?_|exact CLe.refl _|exact CLe.nil_row|exact CLe.nil_rowS|exact CLe.nil_tip|exact CLe.nil_tipS|exact CLe.int (by omega)|refine CLe.tip ?_ ?_|refine CLe.tip_row ?_ ?_|refine CLe.row ?_ ?_|refine CLe.tipr_row ?_|refine CLe.rows ?_|refine CLe.tips ?_|refine CLe.int ?_|refine CLe.bool ?_|refine CLe.str ?_|refine CLe.arr ?_ ?_)|refine q_AgS rfl ?_ ?_|exact CLe.nil_tipS|exact CLe.nil_rowS|refine HLe.cells ?_ ?_|refine HLe.els ?_ ?_|refine SLe.cons ?_ ?_|with_reducible rfl|omega)
                  all_goals (simp [cLoop]; done)
                · have hke : k = tt.length - 1 := by omega
                  obtain ⟨c1, c2⟩ := hcl k
                  have hc : cLoop b2 tt k = cLoop b2 tt (tt.length - 1) := by rw [hke]
                  rw [hc] at c1 c2 ⊢
                  generalize eC : cLoop b2 tt (tt.length - 1) = c at c1 c2 hc ⊢
                  have hTc : TrOk c (2 + n) := by rw [show TrOk c (2 + n) = (c.tracks.length = 2 + n ∧ ∀ t ∈ c.tracks, 1 ≤ t.length ∧ t.length ≤ 2) from rfl, c2]; exact hTrF
                  have hlen : ∀ j, (c.tracks.getD j []).length ≤ 2 := fun j => by
                    rw [List.getD_eq_getElem?_getD]
                    cases hj : c.tracks[j]? with
                    | none => simp
                    | some t => exact (hTc.2 t (List.mem_of_getElem? hj)).2
                  have l1 := hlen (i : Int).toNat
                  have l2 := hlen ((i : Int) + 1).toNat
                  have c4 := c1.s4
                  have c3 := c1.s2
                  have hF1 := fan_ok c (tt.getD (0 : Int).toNat 0) (c.tracks.getD (i : Int).toNat []) false (c1.small (by omega)) (by omega) (by omega) (by omega)
                  obtain ⟨d1, d2⟩ := fan_le c1 (tt.getD (0 : Int).toNat 0) (c.tracks.getD (i : Int).toNat []) false l1
                  generalize eD : c.fan (tt.getD (0 : Int).toNat 0) (c.tracks.getD (i : Int).toNat []) false = e at d1 d2 hF1
                  have d3 := d1.s2
                  have d4 := d1.s4
                  have l2' : (e.tracks.getD ((i : Int) + 1).toNat []).length ≤ 2 := by rw [d2]; exact l2
                  have hF2 := fan_ok e (tt.getD ((tt.length : Int) - 1).toNat 0) (e.tracks.getD ((i : Int) + 1).toNat []) true (d1.small (by omega)) (by omega) (by omega) (by omega)
                  obtain ⟨u1, u2⟩ := fan_le d1 (tt.getD ((tt.length : Int) - 1).toNat 0) (e.tracks.getD ((i : Int) + 1).toNat []) true l2'
                  generalize eE : e.fan (tt.getD ((tt.length : Int) - 1).toNat 0) (e.tracks.getD ((i : Int) + 1).toNat []) true = u at u1 u2 hF2
                  have u6 := u1.s6
                  have t1 := hTc.1
                  have t2 : e.tracks.length = 2 + n := by rw [d2]; exact t1
                  repeat' (first
                    |with_reducible (first|refine WR_pp ?_|refine WR_pd ?_|refine W_seq ?_|refine seqK_n ?_|refine seqK_r ?_|refine seqK_e ?_|refine W_block ?_|refine blockK_n ?_|refine blockK_r ?_|refine LoopK_e ?_|refine LoopK_r ?_|refine LoopX_r ?_|refine W_skip ?_|refine W_exit ?_|refine W_ret ?_|refine W_region (WOps_WR ?_)|refine W_draw (WOpsD_WR ?_)|refine WR_nil ?_|refine q_and ?_ ?_|exact True.intro|assumption|refine blockK_e rfl ?_|refine blockK_o (by decide) ?_|refine LoopX_e (by decide) ?_)
                    |((with_reducible apply q_call);first|refine X_call [1] (hF1) rfl rfl rfl rfl rfl rfl rfl rfl rfl rfl rfl rfl rfl ?_|refine X_call [1] (hF2) rfl rfl rfl rfl rfl rfl rfl rfl rfl rfl rfl rfl rfl ?_)
                    |((with_reducible apply q_WR);first|refine X_run rfl ?_ ?_|refine WR_nilD (by kernel_rfl) ?_)
                    |((with_reducible apply q_cond);refine X_cond rfl ?_ ?_;all_goals (intro hbq;(try simp only [bq] at hbq);(try (exfalso;omega))))
                    |((with_reducible apply q_ret);refine X_ret tabOk trivial rfl rfl ?_ ?_)
                    |((with_reducible apply q_retP);refine X_retP tabOk trivial rfl rfl ?_ ?_)
                    |(intro (hgq : (_ : Bool) = true);(try simp only [bq] at hgq))
                    |(intro (hgq : (_ : Bool) = false);(try simp only [bq] at hgq))
                    |((with_reducible apply q_VOk);exact fun _ => ⟨rfl,rfl⟩)
                    |(intro _;exact rfl)
                    |((with_reducible apply q_bt);simp only [bq])
                    |((with_reducible apply q_eqN);rfl)
                    |with_reducible exact isByte_wrap _
                    |with_reducible exact isByte_nat _
                    |(simp only [hgq,bq];done)
                    |omega)
                  have n1 : ((i : Int)).toNat = i := by omega
                  have n2 : ((i : Int) + 1).toNat = i + 1 := by omega
                  have n3 : ((tt.length : Int) - 1).toNat = tt.length - 1 := by omega
                  have hp : pStep i (b, s1) = (u.addBt tt, s2) := by
                    rw [n1, Int.toNat_zero] at eD
                    rw [n2, n3] at eE
                    simp only [pStep, eF, eC, eD, eE]
                  refine LoopK_n (i + 1) ?_ (by omega) (by omega)
                  rw [eX1, hp]
                  refine X_weak rfl rfl rfl ?_ ?_ <;> repeat' (first|with_reducible (first|exact q_AgS0|exact HLe.nil _|refine HLe.none ?_|refine HLe.cells ?_ ?_|refine HLe.els ?_ ?_|exact SLe.nil|refine SLe.cons ?_ ?_|exact ELe.refl _|refine ELe.c rfl ?_|exact CLe.refl _|exact CLe.nil_row|exact CLe.nil_rowS|exact CLe.nil_tip|exact CLe.nil_tipS|exact CLe.int (by omega)|refine CLe.tip ?_ ?_|refine CLe.tip_row ?_ ?_|refine CLe.row ?_ ?_|refine CLe.tipr_row ?_|refine CLe.rows ?_|refine CLe.tips ?_|refine CLe.int ?_|refine CLe.bool ?_|refine CLe.str ?_|refine CLe.arr ?_ ?_)|refine q_AgS rfl ?_ ?_|exact CLe.nil_tipS|exact CLe.nil_rowS|refine HLe.cells ?_ ?_|refine HLe.els ?_ ?_|refine SLe.cons ?_ ?_|with_reducible rfl|omega)
                  all_goals (simp [Bld.addBt, fTrk]; done)
        · have hie : i = 1 + n := by omega
          subst hie
          repeat' (first
            |with_reducible (first|refine WR_pp ?_|refine WR_pd ?_|refine W_seq ?_|refine seqK_n ?_|refine seqK_r ?_|refine seqK_e ?_|refine W_block ?_|refine blockK_n ?_|refine blockK_r ?_|refine LoopK_e ?_|refine LoopK_r ?_|refine LoopX_r ?_|refine W_skip ?_|refine W_exit ?_|refine W_ret ?_|refine W_region (WOps_WR ?_)|refine W_draw (WOpsD_WR ?_)|refine WR_nil ?_|refine q_and ?_ ?_|exact True.intro|assumption|refine blockK_e rfl ?_|refine blockK_o (by decide) ?_|refine LoopX_e (by decide) ?_)
            |((with_reducible apply q_WR);first|refine X_run rfl ?_ ?_|refine WR_nilD (by kernel_rfl) ?_)
            |((with_reducible apply q_cond);refine X_cond rfl ?_ ?_;all_goals (intro hbq;(try simp only [bq] at hbq);(try (exfalso;omega))))
            |((with_reducible apply q_ret);refine X_ret tabOk trivial rfl rfl ?_ ?_)
            |((with_reducible apply q_retP);refine X_retP tabOk trivial rfl rfl ?_ ?_)
            |(intro (hgq : (_ : Bool) = true);(try simp only [bq] at hgq))
            |(intro (hgq : (_ : Bool) = false);(try simp only [bq] at hgq))
            |((with_reducible apply q_VOk);exact fun _ => ⟨rfl,rfl⟩)
            |(intro _;exact rfl)
            |((with_reducible apply q_bt);simp only [bq])
            |((with_reducible apply q_eqN);rfl)
            |with_reducible exact isByte_wrap _
            |with_reducible exact isByte_nat _
            |(simp only [hgq,bq];done)
            |omega)
          repeat' (first|with_reducible (first|exact TkEq.nil _|refine TkEq.none ?_|refine TkEq.cells ?_ ?_|refine TkEq.els ?_ ?_|exact SEqL.nil|refine SEqL.cons ?_ ?_|exact TEqL.nil|refine TEqL.c ?_ ?_|refine TEqL.agg ?_ ?_|exact CEq.refl _|refine CEq.int ?_|refine CEq.bool ?_|refine CEq.str ?_|refine CEq.rows ?_|refine CEq.row ?_ ?_|refine CEq.tips ?_|refine CEq.tip ?_ ?_|refine CEq.raw ?_ ?_|refine CEq.arr ?_ ?_)|refine VEq.c ?_|refine VEq.agg ?_|refine VEq.tup ?_|refine TkEq.cells ?_ ?_|refine TkEq.els ?_ ?_|refine SEqL.cons ?_ ?_|refine TEqL.agg ?_ ?_|refine CEq.rows ?_|refine CEq.int ?_|rfl|omega)
          all_goals (rw [eX2])
end Go.Proofs.Ytbpeakgihhdocaa.Av
namespace Go.Proofs.Ytbpeakgihhdocaa.Av
set_option linter.unusedVariables false
set_option linter.unusedSimpArgs false
set_option maxRecDepth 4000
set_option maxHeartbeats 4000000
theorem from_ok (l : List Int) : OkV Try.prog 45 [.c (rInt l)] [] (.c (pB 0)) [some (Src.box ⟨l, 0⟩)] := by
  refine X_fn mixedX Try.func45 rfl (by kernel_rfl) (Nat.le_of_ble_eq_true (by kernel_rfl)) (by kernel_rfl) rfl rfl (Nat.le_of_ble_eq_true rfl) rfl rfl ?_
  simp only [sl0, Nat.zero_add, Nat.reduceAdd]
  repeat' (first
    |with_reducible (first|refine WR_pp ?_|refine WR_pd ?_|refine W_seq ?_|refine seqK_n ?_|refine seqK_r ?_|refine seqK_e ?_|refine W_block ?_|refine blockK_n ?_|refine blockK_r ?_|refine LoopK_e ?_|refine LoopK_r ?_|refine LoopX_r ?_|refine W_skip ?_|refine W_exit ?_|refine W_ret ?_|refine W_region (WOps_WR ?_)|refine W_draw (WOpsD_WR ?_)|refine WR_nil ?_|refine q_and ?_ ?_|exact True.intro|assumption|refine blockK_e rfl ?_|refine blockK_o (by decide) ?_|refine LoopX_e (by decide) ?_)
    |((with_reducible apply q_WR);first|refine X_run rfl ?_ ?_|refine WR_nilD (by kernel_rfl) ?_)
    |((with_reducible apply q_cond);refine X_cond rfl ?_ ?_;all_goals (intro hbq;(try simp only [bq] at hbq);(try (exfalso;omega))))
    |((with_reducible apply q_ret);refine X_ret tabOk trivial rfl rfl ?_ ?_)
    |((with_reducible apply q_retP);refine X_retP tabOk trivial rfl rfl ?_ ?_)
    |(intro (hgq : (_ : Bool) = true);(try simp only [bq] at hgq))
    |(intro (hgq : (_ : Bool) = false);(try simp only [bq] at hgq))
    |((with_reducible apply q_VOk);exact fun _ => ⟨rfl,rfl⟩)
    |(intro _;exact rfl)
    |((with_reducible apply q_bt);simp only [bq])
    |((with_reducible apply q_eqN);rfl)
    |with_reducible exact isByte_wrap _
    |with_reducible exact isByte_nat _
    |(simp only [hgq,bq];done)
    |omega)
  repeat' (first|with_reducible (first|exact TkEq.nil _|refine TkEq.none ?_|refine TkEq.cells ?_ ?_|refine TkEq.els ?_ ?_|exact SEqL.nil|refine SEqL.cons ?_ ?_|exact TEqL.nil|refine TEqL.c ?_ ?_|refine TEqL.agg ?_ ?_|exact CEq.refl _|refine CEq.int ?_|refine CEq.bool ?_|refine CEq.str ?_|refine CEq.rows ?_|refine CEq.row ?_ ?_|refine CEq.tips ?_|refine CEq.tip ?_ ?_|refine CEq.raw ?_ ?_|refine CEq.arr ?_ ?_)|refine VEq.c ?_|refine VEq.agg ?_|refine VEq.tup ?_|refine TkEq.cells ?_ ?_|refine TkEq.els ?_ ?_|refine SEqL.cons ?_ ?_|refine TEqL.agg ?_ ?_|refine CEq.rows ?_|refine CEq.int ?_|rfl|omega)
def genL (l : List Int) : Lay := (rowB ⟨l, 0⟩).1.L
theorem layout_ok (l : List Int) (hl : l.length ≤ 9223372036854775807) : OkV Try.prog 27 [.c (rInt l)] [] (vLay (genL l)) [] := by
  have h1 := from_ok l
  have h2 := row_ok ⟨l, 0⟩ ⟨Nat.zero_le _, hl⟩
  unfold genL
  refine X_fnP mixedX Try.func27 rfl (by kernel_rfl) (Nat.le_of_ble_eq_true (by kernel_rfl)) (by kernel_rfl) rfl rfl ?_
  simp only [sl0, Nat.zero_add, Nat.reduceAdd]
  repeat' (first
    |with_reducible (first|refine WR_pp ?_|refine WR_pd ?_|refine W_seq ?_|refine seqK_n ?_|refine seqK_r ?_|refine seqK_e ?_|refine W_block ?_|refine blockK_n ?_|refine blockK_r ?_|refine LoopK_e ?_|refine LoopK_r ?_|refine LoopX_r ?_|refine W_skip ?_|refine W_exit ?_|refine W_ret ?_|refine W_region (WOps_WR ?_)|refine W_draw (WOpsD_WR ?_)|refine WR_nil ?_|refine q_and ?_ ?_|exact True.intro|assumption|refine blockK_e rfl ?_|refine blockK_o (by decide) ?_|refine LoopX_e (by decide) ?_)
    |((with_reducible apply q_call);first|refine X_call [] (h1) rfl rfl rfl rfl rfl rfl rfl rfl rfl rfl rfl rfl rfl ?_|refine X_call [1] (h2) rfl rfl rfl rfl rfl rfl rfl rfl rfl rfl rfl rfl rfl ?_)
    |((with_reducible apply q_WR);first|refine X_run rfl ?_ ?_|refine WR_nilD (by kernel_rfl) ?_)
    |((with_reducible apply q_cond);refine X_cond rfl ?_ ?_;all_goals (intro hbq;(try simp only [bq] at hbq);(try (exfalso;omega))))
    |((with_reducible apply q_ret);refine X_ret tabOk trivial rfl rfl ?_ ?_)
    |((with_reducible apply q_retP);refine X_retP tabOk trivial rfl rfl ?_ ?_)
    |(intro (hgq : (_ : Bool) = true);(try simp only [bq] at hgq))
    |(intro (hgq : (_ : Bool) = false);(try simp only [bq] at hgq))
    |((with_reducible apply q_VOk);exact fun _ => ⟨rfl,rfl⟩)
    |(intro _;exact rfl)
    |((with_reducible apply q_bt);simp only [bq])
    |((with_reducible apply q_eqN);rfl)
    |with_reducible exact isByte_wrap _
    |with_reducible exact isByte_nat _
    |(simp only [hgq,bq];done)
    |omega)
  repeat' (first|with_reducible (first|exact TkEq.nil _|refine TkEq.none ?_|refine TkEq.cells ?_ ?_|refine TkEq.els ?_ ?_|exact SEqL.nil|refine SEqL.cons ?_ ?_|exact TEqL.nil|refine TEqL.c ?_ ?_|refine TEqL.agg ?_ ?_|exact CEq.refl _|refine CEq.int ?_|refine CEq.bool ?_|refine CEq.str ?_|refine CEq.rows ?_|refine CEq.row ?_ ?_|refine CEq.tips ?_|refine CEq.tip ?_ ?_|refine CEq.raw ?_ ?_|refine CEq.arr ?_ ?_)|refine VEq.c ?_|refine VEq.agg ?_|refine VEq.tup ?_|refine TkEq.cells ?_ ?_|refine TkEq.els ?_ ?_|refine SEqL.cons ?_ ?_|refine TEqL.agg ?_ ?_|refine CEq.rows ?_|refine CEq.int ?_|rfl|omega)
end Go.Proofs.Ytbpeakgihhdocaa.Av
namespace Go.Proofs.Ytbpeakgihhdocaa.Av
set_option linter.unusedVariables false
set_option linter.unusedSimpArgs false
def secZ (x : Sec) : Sec := ⟨x.nm, 1, 1000, 0, x.stn⟩
def layZ (L : Lay) : Lay := { L with secs := L.secs.map secZ }
def Bld.z (b : Bld) : Bld := { b with L := layZ b.L }
def goodS (x : Sec) : Prop := 1 ≤ x.len ∧ x.len ≤ 400 ∧ 1000 ≤ x.lim ∧ x.lim ≤ 100000 ∧ -40 ≤ x.grd ∧ x.grd ≤ 40
theorem secB_z (n : Nat) (x : Sec) (h : goodS x) : secB n (secZ x) = secB n x := by
  obtain ⟨h1, h2, h3, h4, h5, h6⟩ := h
  unfold secB secZ
  simp only [decide_eq_decide]
  omega
theorem secsErr_z (n : Nat) : ∀ (l : List Sec) (seen : List ByteArray), (∀ x ∈ l, goodS x) → secsErr n seen (l.map secZ) = secsErr n seen l
  | [], _, _ => rfl
  | x :: r, seen, h => by
    rw [List.map_cons, secsErr, secsErr, secB_z n x (h x (List.mem_cons_self ..)), secsErr_z n r _ (fun y hy => h y (List.mem_cons_of_mem _ hy))]
    rfl
theorem layErr_z (L : Lay) (h : ∀ x ∈ L.secs, goodS x) : layErr (layZ L) = layErr L := by
  unfold layErr layZ
  simp only [List.length_map, secsErr_z _ _ _ h]
theorem sec_good (s : Src) (nm : ByteArray) (st : Int) : goodS (s.sec nm st) ∧ goodS { s.sec nm st with len := (s.sec nm st).len + 2 } := by
  have k1 := s.nx_lt (n := 9) (by omega)
  have k2 := s.af.nx_lt (n := 7) (by omega)
  have k3 := s.af.af.nx_lt (n := 21) (by omega)
  unfold goodS Src.sec
  simp only
  omega
abbrev TBQ := List Int × Bld
def tLoopZ (i : Nat) : Nat → TBQ → TBQ
  | 0, x => x
  | k + 1, x => tLoopZ i k (x.1 ++ [(x.2.L.secs.length : Int)], x.2.add ⟨nameN (nameN ⟨#[84]⟩ i) (k + 1), 1, 1000, 0, i⟩)
def oStepZ (i c : Nat) (b : Bld) : Bld := let y := tLoopZ i c ([], b.addSt (nameN ⟨#[83]⟩ i)); y.2.addTr y.1
def lLoopZ (i : Nat) : Nat → TBQ → TBQ
  | 0, x => x
  | k + 1, x => lLoopZ i k (x.1 ++ [(x.2.L.secs.length : Int)], x.2.add ⟨nameN (nameN ⟨#[76]⟩ i) (k + 1), 1, 1000, 0, -1⟩)
def pStepZ (i n : Nat) (b : Bld) : Bld :=
  let y := lLoopZ i n ([], b)
  let c := cLoop y.2 y.1 (y.1.length - 1)
  let d := c.fan (y.1.getD 0 0) (c.tracks.getD i []) false
  let e := d.fan (y.1.getD (y.1.length - 1) 0) (d.tracks.getD (i + 1) []) true
  e.addBt y.1
theorem add_z (b : Bld) (x : Sec) : (b.add x).z = b.z.add (secZ x) := by simp [Bld.z, Bld.add, layZ]
theorem len_z (b : Bld) : b.z.L.secs.length = b.L.secs.length := by simp [Bld.z, layZ]
theorem tLoop_z (i : Nat) : ∀ (k : Nat) (x : TBS), ((tLoop i k x).1, (tLoop i k x).2.1.z) = tLoopZ i k (x.1, x.2.1.z)
  | 0, x => rfl
  | k + 1, x => by
    rw [tLoop, tLoop_z i k, tLoopZ, len_z]
    simp only [tStep, add_z]
    rfl
theorem lLoop_z (i : Nat) : ∀ (k : Nat) (x : TBS), ((lLoop i k x).1, (lLoop i k x).2.1.z) = lLoopZ i k (x.1, x.2.1.z)
  | 0, x => rfl
  | k + 1, x => by
    rw [lLoop, lLoop_z i k, lLoopZ, len_z]
    simp only [lStep, add_z]
    rfl
theorem oStep_z (i : Nat) (x : Bld × Src) : (oStep i x).1.z = oStepZ i (1 + x.2.nx 2) x.1.z := by
  have h := tLoop_z i (1 + x.2.nx 2) ([], x.1.addSt (nameN ⟨#[83]⟩ i), x.2.af)
  have h1 := congrArg Prod.fst h
  have h2 := congrArg Prod.snd h
  simp only at h1 h2
  unfold oStep oStepZ
  simp only
  rw [show (x.1.z.addSt (nameN ⟨#[83]⟩ i)) = (x.1.addSt (nameN ⟨#[83]⟩ i)).z from rfl, ← h1, ← h2]
  rfl
theorem links_z (b : Bld) (x pt : Int) (east : Bool) (ts : List Int) : ∀ i, (b.links x pt east ts i).z = b.z.links x pt east ts i
  | 0 => rfl
  | i + 1 => by
    rw [Bld.links, Bld.links, ← links_z b x pt east ts i]
    rfl
theorem fan_z (b : Bld) (x : Int) (ts : List Int) (east : Bool) : (b.fan x ts east).z = b.z.fan x ts east := by
  unfold Bld.fan
  split
  · rw [links_z]; rfl
  · rw [links_z]
theorem cLoop_z (b : Bld) (t : List Int) : ∀ k, (cLoop b t k).z = cLoop b.z t k
  | 0 => rfl
  | k + 1 => by
    rw [cLoop, cLoop, ← cLoop_z b t k]
    rfl
theorem tracks_z (b : Bld) : b.z.tracks = b.tracks := rfl
theorem addBt_z (b : Bld) (t : List Int) : (b.addBt t).z = b.z.addBt t := rfl
theorem pStep_z (i : Nat) (x : Bld × Src) : (pStep i x).1.z = pStepZ i (1 + x.2.nx 2) x.1.z := by
  have h := lLoop_z i (1 + x.2.nx 2) ([], x.1, x.2.af)
  have h1 := congrArg Prod.fst h
  have h2 := congrArg Prod.snd h
  simp only at h1 h2
  unfold pStep pStepZ
  generalize lLoop i (1 + x.2.nx 2) ([], x.1, x.2.af) = y at h1 h2 ⊢
  generalize lLoopZ i (1 + x.2.nx 2) ([], x.1.z) = u at h1 h2 ⊢
  obtain ⟨u1, u2⟩ := u
  obtain ⟨y1, y2, y3⟩ := y
  simp only at h1 h2 ⊢
  subst h1 h2
  simp only [← cLoop_z, tracks_z, ← fan_z, ← addBt_z]
def iterZ (f : Nat → Nat → Bld → Bld) (c : Nat → Nat) (b : Bld) : Nat → Bld
  | 0 => b
  | i + 1 => f i (c i) (iterZ f c b i)
theorem iter_z {f : Nat → Bld × Src → Bld × Src} {g : Nat → Nat → Bld → Bld} (h : ∀ i x, (f i x).1.z = g i (1 + x.2.nx 2) x.1.z) (x : Bld × Src) : ∀ i, (iter f x i).1.z = iterZ g (fun i => 1 + (iter f x i).2.nx 2) x.1.z i
  | 0 => rfl
  | i + 1 => by
    rw [iter, h, iter_z h x i]
    rfl
def shapeB (n a0 a1 a2 c0 c1 : Nat) : Bld := iterZ pStepZ (fun i => [c0, c1].getD i 1) (iterZ oStepZ (fun i => [a0, a1, a2].getD i 1) Bld.zero (2 + n)) (1 + n)
def shapesB : Bool := [0, 1].all fun n => [1, 2].all fun a0 => [1, 2].all fun a1 => [1, 2].all fun a2 => [1, 2].all fun c0 => [1, 2].all fun c1 => decide (layErr (shapeB n a0 a1 a2 c0 c1).L = 0)
set_option maxRecDepth 100000 in
theorem shapes_ok : shapesB = true := by kernel_rfl
theorem two_mem (s : Src) : 1 + s.nx 2 ∈ [1, 2] := by
  have := s.nx_lt (n := 2) (by omega)
  generalize s.nx 2 = k at this ⊢
  match k, this with
  | 0, _ => simp
  | 1, _ => simp
theorem shape_ok {n a0 a1 a2 c0 c1 : Nat} (hn : n ∈ [0, 1]) (h0 : a0 ∈ [1, 2]) (h1 : a1 ∈ [1, 2]) (h2 : a2 ∈ [1, 2]) (h3 : c0 ∈ [1, 2]) (h4 : c1 ∈ [1, 2]) : layErr (shapeB n a0 a1 a2 c0 c1).L = 0 := by
  have h := shapes_ok
  unfold shapesB at h
  have h := List.all_eq_true.1 h n hn
  have h := List.all_eq_true.1 h a0 h0
  have h := List.all_eq_true.1 h a1 h1
  have h := List.all_eq_true.1 h a2 h2
  have h := List.all_eq_true.1 h c0 h3
  have h := List.all_eq_true.1 h c1 h4
  exact of_decide_eq_true h
theorem iterZ_congr (f : Nat → Nat → Bld → Bld) (c c' : Nat → Nat) (b : Bld) : ∀ i, (∀ j, j < i → c j = c' j) → iterZ f c b i = iterZ f c' b i
  | 0, _ => rfl
  | i + 1, h => by rw [iterZ, iterZ, h i (by omega), iterZ_congr f c c' b i (fun j hj => h j (by omega))]
def GS (b : Bld) : Prop := ∀ x ∈ b.L.secs, goodS x
theorem GS.add {b : Bld} (h : GS b) {x : Sec} (hx : goodS x) : GS (b.add x) := fun y hy => by
  simp only [Bld.add, List.mem_append, List.mem_singleton] at hy
  rcases hy with hy | rfl
  · exact h y hy
  · exact hx
theorem GS.of {b c : Bld} (h : GS b) (e : c.L.secs = b.L.secs) : GS c := fun y hy => h y (e ▸ hy)
theorem tLoop_gs (i : Nat) : ∀ (k : Nat) (x : TBS), GS x.2.1 → GS (tLoop i k x).2.1
  | 0, x, h => h
  | k + 1, x, h => tLoop_gs i k _ (h.add (sec_good _ _ _).2)
theorem lLoop_gs (i : Nat) : ∀ (k : Nat) (x : TBS), GS x.2.1 → GS (lLoop i k x).2.1
  | 0, x, h => h
  | k + 1, x, h => lLoop_gs i k _ (h.add (sec_good _ _ _).1)
theorem oStep_gs (i : Nat) (x : Bld × Src) (h : GS x.1) : GS (oStep i x).1 :=
  (tLoop_gs i (1 + x.2.nx 2) ([], x.1.addSt (nameN ⟨#[83]⟩ i), x.2.af) (h.of rfl)).of rfl
theorem links_secs (b : Bld) (x pt : Int) (east : Bool) (ts : List Int) : ∀ i, (b.links x pt east ts i).L.secs = b.L.secs
  | 0 => rfl
  | i + 1 => links_secs b x pt east ts i
theorem fan_secs (b : Bld) (x : Int) (ts : List Int) (east : Bool) : (b.fan x ts east).L.secs = b.L.secs := by
  unfold Bld.fan
  split
  · rw [links_secs]; rfl
  · rw [links_secs]
theorem cLoop_secs (b : Bld) (t : List Int) : ∀ k, (cLoop b t k).L.secs = b.L.secs
  | 0 => rfl
  | k + 1 => cLoop_secs b t k
theorem pStep_gs (i : Nat) (x : Bld × Src) (h : GS x.1) : GS (pStep i x).1 := by
  have hl := lLoop_gs i (1 + x.2.nx 2) ([], x.1, x.2.af) h
  unfold pStep
  generalize lLoop i (1 + x.2.nx 2) ([], x.1, x.2.af) = y at hl ⊢
  refine hl.of ?_
  simp only
  show (Bld.fan _ _ _ _).L.secs = _
  rw [fan_secs, fan_secs, cLoop_secs]
theorem iter_gs {f : Nat → Bld × Src → Bld × Src} (hf : ∀ i x, GS x.1 → GS (f i x).1) {x : Bld × Src} (h : GS x.1) : ∀ i, GS (iter f x i).1
  | 0 => h
  | i + 1 => hf _ _ (iter_gs hf h i)
theorem shapeAny (n : Nat) (hn : n < 2) (c1 c2 : Nat → Nat) (h1 : ∀ i, c1 i ∈ [1, 2]) (h2 : ∀ i, c2 i ∈ [1, 2]) : layErr (iterZ pStepZ c2 (iterZ oStepZ c1 Bld.zero (2 + n)) (1 + n)).L = 0 := by
  rw [iterZ_congr oStepZ c1 (fun i => [c1 0, c1 1, c1 2].getD i 1) _ (2 + n) (fun j hj => by
    match j, (show j < 3 by omega) with
    | 0, _ => rfl
    | 1, _ => rfl
    | 2, _ => rfl), iterZ_congr pStepZ c2 (fun i => [c2 0, c2 1].getD i 1) _ (1 + n) (fun j hj => by
    match j, (show j < 2 by omega) with
    | 0, _ => rfl
    | 1, _ => rfl)]
  have hm : n ∈ [0, 1] := by
    match n, hn with
    | 0, _ => simp
    | 1, _ => simp
  exact shape_ok hm (h1 0) (h1 1) (h1 2) (h2 0) (h2 1)
theorem genL_ok (l : List Int) : layErr (genL l) = 0 := by
  have hk := (⟨l, 0⟩ : Src).nx_lt (n := 2) (by omega)
  have g0 : GS Bld.zero := fun x hx => by cases hx
  have g1 := iter_gs oStep_gs (x := (Bld.zero, (⟨l, 0⟩ : Src).af)) g0 (2 + (⟨l, 0⟩ : Src).nx 2)
  have g2 := iter_gs pStep_gs g1 (1 + (⟨l, 0⟩ : Src).nx 2)
  have e1 := iter_z oStep_z (Bld.zero, (⟨l, 0⟩ : Src).af) (2 + (⟨l, 0⟩ : Src).nx 2)
  have e2 := iter_z pStep_z (iter oStep (Bld.zero, (⟨l, 0⟩ : Src).af) (2 + (⟨l, 0⟩ : Src).nx 2)) (1 + (⟨l, 0⟩ : Src).nx 2)
  rw [e1, show Bld.z (Bld.zero, (⟨l, 0⟩ : Src).af).1 = Bld.zero from rfl] at e2
  have hs := shapeAny ((⟨l, 0⟩ : Src).nx 2) hk _ _ (fun i => two_mem (iter oStep (Bld.zero, (⟨l, 0⟩ : Src).af) i).2) (fun i => two_mem (iter pStep (iter oStep (Bld.zero, (⟨l, 0⟩ : Src).af) (2 + (⟨l, 0⟩ : Src).nx 2)) i).2)
  rw [← e2] at hs
  have hz := layErr_z _ g2
  unfold genL rowB
  rw [← hz]
  exact hs
end Go.Proofs.Ytbpeakgihhdocaa.Av
namespace Go.Proofs.Ytbpeakgihhdocaa.Av
open Go.RowKit
set_option linter.unusedVariables false
set_option linter.unusedSimpArgs false
theorem floorDiv_ok (a b : Int) (ha : -9223372036854775808 ≤ a ∧ a ≤ 9223372036854775807) (hb : 1 ≤ b ∧ b ≤ 9223372036854775807) : Ok Try.prog 87 [i64 a, i64 b] [] (.tup [.c (.f (.v (.int .i64 (HDiv.hDiv a b)))), .c (.f (.v (.int .i64 0)))]) [] := by
  refine ok_old _ Try.func87 (by kernel_rfl) (by kernel_rfl) rfl rfl fun w κ ρ vals hv hr => ⟨_, plain_2 plain_i plain_i rfl rfl, ?_⟩
  have hv : vals.size = 2 := hv
  have h0 : vals[0] = .int .i64 a := (repF_v.1 (hr 0 (by simp) (by omega) (.slot 0))).1
  have h1 : vals[1] = .int .i64 b := (repF_v.1 (hr 1 (by simp) (by omega) (.slot 0))).1
  rw [two_arg hv, h0, h1]
  exact (floorDiv_any a b w ha.1 ha.2 hb.1 hb.2).mono fun e w' ⟨h1, h2⟩ => ⟨h1, by subst h2; exact Below.refl _ _⟩
theorem floorDiv_okV (a b : Int) (ha : -9223372036854775808 ≤ a ∧ a ≤ 9223372036854775807) (hb : 1 ≤ b ∧ b ≤ 9223372036854775807) : OkV Try.prog 87 [.c (xI a), .c (xI b)] [] (.tup [.c (xI (HDiv.hDiv a b)), .c (xI 0)]) [] := floorDiv_ok a b ha hb
end Go.Proofs.Ytbpeakgihhdocaa.Av
namespace Go.Proofs.Ytbpeakgihhdocaa.Av
set_option linter.unusedVariables false
set_option linter.unusedSimpArgs false
set_option maxRecDepth 4000
set_option maxHeartbeats 4000000
section
variable {L : Lay} {r : Rte} {l sp ac br : Int}
end
theorem fits_ok (L : Lay) (hL : LayFits L) (st : List Stp) (ov : Int) (hl : st.length ≤ 9223372036854775807) (ho : -9223372036854775808 ≤ ov ∧ ov ≤ 9223372036854775807) (nm : ByteArray) (l sp ac br : Int) : OkV Try.prog 23 [vLay L, vR2 st ov, vS5 nm l sp ac br] [] (vI (fitErr L ⟨st, ov⟩ l sp ac br)) [] := by
  have hF := fit_ok L hL st ov hl ho nm l sp ac br
  unfold vLay at hF ⊢
  refine X_fn mixedX Try.func23 rfl (by kernel_rfl) (Nat.le_of_ble_eq_true (by kernel_rfl)) (by kernel_rfl) rfl rfl (Nat.le_of_ble_eq_true rfl) rfl rfl ?_
  simp only [sl0, Nat.zero_add, Nat.reduceAdd]
  repeat' (first
    |with_reducible (first|refine q_and ?_ ?_|exact True.intro|exact TkEq.nil _|refine Red.o (by constructor) ?_|refine blockK_o' rfl ?_|refine LoopX_e' rfl ?_|assumption)
    |((with_reducible apply q_call);refine X_pure (hF) rfl ?_)
    |((with_reducible apply q_CI);intro hbq;(try simp only [bq] at hbq);(try (exfalso;omega)))
    |refine Rex.o (by (with_reducible constructor);apply Eq.refl) ?_
    |(intro (hgq : (_ : Bool) = true);(try simp only [bq] at hgq))
    |(intro (hgq : (_ : Bool) = false);(try simp only [bq] at hgq))
    |((with_reducible apply q_VOk);exact fun _ => ⟨rfl,rfl⟩)|(intro _;exact rfl)|((with_reducible apply q_CRB);kernel_rfl)|((with_reducible apply q_bt);simp only [bq])|((with_reducible apply q_eqN);rfl)|((with_reducible apply q_FE);exact rfl)|with_reducible (first|exact isByte_wrap _|exact isByte_nat _)|(simp only [hgq,bq];done)|omega|(dsimp only;omega))
  repeat' (first|with_reducible (first|refine Wk.o (by constructor) ?_|refine q_and ?_ ?_|exact True.intro)|refine VEq.c ?_|refine VEq.agg ?_|refine VEq.tup ?_|refine TkEq.cells ?_ ?_|refine TkEq.els ?_ ?_|refine SEqL.cons ?_ ?_|refine TEqL.agg ?_ ?_|refine CEq.rows ?_|refine CEq.int ?_|rfl|omega)
theorem refFits_ok (L : Lay) (hL : LayFits L) (st : List Stp) (ov : Int) (hl : st.length ≤ 9223372036854775807) (ho : -9223372036854775808 ≤ ov ∧ ov ≤ 9223372036854775807) (nm : ByteArray) (l sp ac br : Int) : OkV Try.prog 30 [vLay L, vR2 st ov, vS5 nm l sp ac br] [] (vI (fitErr L ⟨st, ov⟩ l sp ac br)) [] := by
  have hC := refCells_ok L hL st ov hl ho
  have hK := chkStock_ok nm l sp ac br
  by_cases hc : celErr L ⟨st, ov⟩ = 0
  · have hr := rte_of (cel_rte hc)
    have hr1 := hr.ov0
    have hr2 := hr.two
    have hr3 := hr.len
    have hr4 := hr.ok
    simp only at hr1 hr2 hr3 hr4
    have htl := trv_len hr
    have hV := valid_of hr.lay
    have hn3 := hV.n3
    rw [hc] at hC
    unfold vLay at hC ⊢
    refine X_fn mixedX Try.func30 rfl (by kernel_rfl) (Nat.le_of_ble_eq_true (by kernel_rfl)) (by kernel_rfl) rfl rfl (Nat.le_of_ble_eq_true rfl) rfl rfl ?_
    simp only [sl0, Nat.zero_add, Nat.reduceAdd]
    repeat' (first
      |with_reducible (first|refine q_and ?_ ?_|exact True.intro|exact TkEq.nil _|refine Red.o (by constructor) ?_|refine blockK_o' rfl ?_|refine LoopX_e' rfl ?_|assumption)
      |((with_reducible apply q_call);first|refine X_pure (hC) rfl ?_|refine X_pure (hK) rfl ?_)
      |((with_reducible apply q_CI);intro hbq;(try simp only [bq] at hbq);(try (exfalso;omega)))
      |refine Rex.o (by (with_reducible constructor);apply Eq.refl) ?_
      |(intro (hgq : (_ : Bool) = true);(try simp only [bq] at hgq))
      |(intro (hgq : (_ : Bool) = false);(try simp only [bq] at hgq))
      |((with_reducible apply q_VOk);exact fun _ => ⟨rfl,rfl⟩)|(intro _;exact rfl)|((with_reducible apply q_CRB);kernel_rfl)|((with_reducible apply q_bt);simp only [bq])|((with_reducible apply q_eqN);rfl)|((with_reducible apply q_FE);exact rfl)|with_reducible (first|exact isByte_wrap _|exact isByte_nat _)|(simp only [hgq,bq];done)|omega|(dsimp only;omega))
    · rw [fit_1 hc hbq]; rfl
    have hb' := hbq
    clear hC hK
    have hq := chk_of hbq
    refine W_loopS (fun i : Nat => SS [sC 3 (pB 0), sC 4 (pB 1), sC 5 (pB 2), sI 10 i] [bLay L, bRte st ov, bS5 nm l sp ac br]) (fun i => (i : Int) ≤ st.length - ov ∧ ∀ j, j < i → tight L l (st.getD j st0) = false) (fun i => st.length - i) 0 ?_ ⟨by omega, fun j hj => by omega⟩ ?_
    ·
      refine X_weak rfl rfl rfl ?_ ?_ <;> repeat' (first|with_reducible (first|refine Wk.o (by constructor) ?_|refine q_and ?_ ?_|exact True.intro)|refine q_AgS rfl ?_ ?_|exact CLe.nil_tipS|exact CLe.nil_rowS|refine HLe.cells ?_ ?_|refine HLe.els ?_ ?_|refine SLe.cons ?_ ?_|exact (rfl : known _ = _)|with_reducible rfl|omega)
    intro i hi
    obtain ⟨hi, hno⟩ := hi
    have hsec : (i : Int) < st.length - ov → 0 ≤ (st.getD (i : Int).toNat { sec := 0, dir := 0 }).sec ∧ (st.getD (i : Int).toNat { sec := 0, dir := 0 }).sec < L.secs.length := fun h => by
      obtain ⟨x, y, _⟩ := ok_dir (all_at (i := i) hr4 (by omega))
      exact ⟨x, y⟩
    repeat' (first
      |with_reducible (first|refine q_and ?_ ?_|exact True.intro|exact TkEq.nil _|refine Red.o (by constructor) ?_|refine blockK_o' rfl ?_|refine LoopX_e' rfl ?_|assumption)
      |((with_reducible apply q_CI);intro hbq;(try simp only [bq] at hbq);(try (exfalso;omega)))
      |refine Rex.o (by (with_reducible constructor);apply Eq.refl) ?_
      |(intro (hgq : (_ : Bool) = true);(try simp only [bq] at hgq))
      |(intro (hgq : (_ : Bool) = false);(try simp only [bq] at hgq))
      |((with_reducible apply q_VOk);exact fun _ => ⟨rfl,rfl⟩)|(intro _;exact rfl)|((with_reducible apply q_CRB);kernel_rfl)|((with_reducible apply q_bt);simp only [bq])|((with_reducible apply q_eqN);rfl)|((with_reducible apply q_FE);exact rfl)|with_reducible (first|exact isByte_wrap _|exact isByte_nat _)|(simp only [hgq,bq];done)|omega|(dsimp only;omega))
    · rw [fit_12 hc hb' (any_at (i := i) (by have := htl; simp only at this; omega) (by rw [trv_at hr (by simp only; omega)]; unfold tight secA; simpa using hbq))]; rfl
    ·
      refine LoopK_n (i + 1) ?_ (⟨by omega, upto_succ hno (by unfold tight secA; simpa using hbq)⟩) (by (try dsimp only); omega)
      refine X_weak rfl rfl rfl ?_ ?_ <;> repeat' (first|with_reducible (first|refine Wk.o (by constructor) ?_|refine q_and ?_ ?_|exact True.intro)|refine q_AgS rfl ?_ ?_|exact CLe.nil_tipS|exact CLe.nil_rowS|refine HLe.cells ?_ ?_|refine HLe.els ?_ ?_|refine SLe.cons ?_ ?_|exact (rfl : known _ = _)|with_reducible rfl|omega)
    · rw [fit_0 hc hb' (any_not fun j hj => by rw [trv_at hr (by simp only at htl ⊢; omega)]; exact hno j (by simp only at htl; omega))]; rfl
  · rw [fit_c hc]
    unfold vLay at hC ⊢
    refine X_fn mixedX Try.func30 rfl (by kernel_rfl) (Nat.le_of_ble_eq_true (by kernel_rfl)) (by kernel_rfl) rfl rfl (Nat.le_of_ble_eq_true rfl) rfl rfl ?_
    simp only [sl0, Nat.zero_add, Nat.reduceAdd]
    repeat' (first
      |with_reducible (first|refine q_and ?_ ?_|exact True.intro|exact TkEq.nil _|refine Red.o (by constructor) ?_|refine blockK_o' rfl ?_|refine LoopX_e' rfl ?_|assumption)
      |((with_reducible apply q_call);refine X_pure (hC) rfl ?_)
      |((with_reducible apply q_CI);intro hbq;(try simp only [bq] at hbq);(try (exfalso;omega)))
      |refine Rex.o (by (with_reducible constructor);apply Eq.refl) ?_
      |(intro (hgq : (_ : Bool) = true);(try simp only [bq] at hgq))
      |(intro (hgq : (_ : Bool) = false);(try simp only [bq] at hgq))
      |((with_reducible apply q_VOk);exact fun _ => ⟨rfl,rfl⟩)|(intro _;exact rfl)|((with_reducible apply q_CRB);kernel_rfl)|((with_reducible apply q_bt);simp only [bq])|((with_reducible apply q_eqN);rfl)|((with_reducible apply q_FE);exact rfl)|with_reducible (first|exact isByte_wrap _|exact isByte_nat _)|(simp only [hgq,bq];done)|omega|(dsimp only;omega))
    · rfl
end Go.Proofs.Ytbpeakgihhdocaa.Av
namespace Go.Proofs.Ytbpeakgihhdocaa.Av
set_option linter.unusedVariables false
set_option linter.unusedSimpArgs false
set_option maxRecDepth 4000
set_option maxHeartbeats 4000000
theorem lLoop_secs (i : Nat) : ∀ (k : Nat) (x : TBS), (lLoop i k x).2.1.L.secs.length = x.2.1.L.secs.length + k
  | 0, x => rfl
  | k + 1, x => by
    simp only [lLoop]
    rw [lLoop_secs i k (lStep i (k + 1) x)]
    simp only [lStep, Bld.add, List.length_append, List.length_singleton]
    omega
theorem pStep_secs (i : Nat) (x : Bld × Src) : 1 ≤ (pStep i x).1.L.secs.length := by
  have hl := lLoop_secs i (1 + x.2.nx 2) ([], x.1, x.2.af)
  unfold pStep
  generalize lLoop i (1 + x.2.nx 2) ([], x.1, x.2.af) = y at hl ⊢
  simp only
  show 1 ≤ (Bld.fan _ _ _ _).L.secs.length
  rw [fan_secs, fan_secs, cLoop_secs]
  omega
theorem genL_secs (l : List Int) : 1 ≤ (genL l).secs.length := by
  unfold genL rowB
  rw [show 1 + Src.nx ⟨l, 0⟩ 2 = Src.nx ⟨l, 0⟩ 2 + 1 by omega, iter]
  exact pStep_secs _ _
structure RtG where
  st : List Stp
  x : Stp
  n : Nat
  s : Src
def rtNext (L : Lay) (g : RtG) : Stp := ⟨((hopsL L g.x).getD ((g.s.nx (hopsL L g.x).length : Nat) : Int).toNat ⟨0, 0, 0, 0⟩).sec, ((hopsL L g.x).getD ((g.s.nx (hopsL L g.x).length : Nat) : Int).toNat ⟨0, 0, 0, 0⟩).dir⟩
def rtRun (L : Lay) : Nat → RtG → RtG
  | 0, g => g
  | k + 1, g => if hopsL L g.x = [] then g else
    if g.st.any (fun s => decide (s.sec = (rtNext L g).sec)) = true then ⟨g.st, rtNext L g, 0, g.s.af⟩
    else rtRun L k ⟨g.st ++ [rtNext L g], rtNext L g, k, g.s.af⟩
def rtZero (L : Lay) (c : List Int) : RtG :=
  let s : Src := ⟨c, 0⟩
  let x : Stp := ⟨s.nx L.secs.length, s.af.nx 2⟩
  ⟨[x], x, 1 + s.af.af.nx 6, s.af.af.af⟩
def rtG (L : Lay) (c : List Int) : RtG := rtRun L (rtZero L c).n (rtZero L c)
def genOv (L : Lay) (c : List Int) : Int := min ((rtG L c).s.nx 3 : Int) (max 0 ((rtG L c).st.length - 2))
theorem rtRun_len (L : Lay) : ∀ (k : Nat) (g : RtG), g.s.ok → (rtRun L k g).s.ok ∧ g.st.length ≤ (rtRun L k g).st.length ∧ (rtRun L k g).st.length ≤ g.st.length + k
  | 0, g, h => ⟨h, Nat.le_refl _, Nat.le_refl _⟩
  | k + 1, g, h => by
    unfold rtRun
    split
    · exact ⟨h, Nat.le_refl _, by omega⟩
    · split
      · exact ⟨Src.af_ok h, Nat.le_refl _, by simp only; omega⟩
      · obtain ⟨a, b, c⟩ := rtRun_len L k ⟨g.st ++ [rtNext L g], rtNext L g, k, g.s.af⟩ (Src.af_ok h)
        simp only [List.length_append, List.length_singleton] at b c
        exact ⟨a, by omega, by omega⟩
theorem gen_rt (L : Lay) (c : List Int) (hc : c.length ≤ 9223372036854775807) : (rtG L c).s.ok ∧ 1 ≤ (rtG L c).st.length ∧ (rtG L c).st.length ≤ 7 ∧ 0 ≤ genOv L c ∧ genOv L c ≤ 2 := by
  have h0 : Src.ok ⟨c, 0⟩ := ⟨Nat.zero_le _, hc⟩
  obtain ⟨a, b, d⟩ := rtRun_len L (rtZero L c).n (rtZero L c) (Src.af_ok (Src.af_ok (Src.af_ok h0)))
  have h6 := (⟨c, 0⟩ : Src).af.af.nx_lt (n := 6) (by omega)
  have h3 := (rtG L c).s.nx_lt (n := 3) (by omega)
  have e1 : (rtZero L c).st.length = 1 := rfl
  have e2 : (rtZero L c).n = 1 + (⟨c, 0⟩ : Src).af.af.nx 6 := rfl
  refine ⟨a, ?_, ?_, ?_, ?_⟩
  · unfold rtG; omega
  · unfold rtG; omega
  · unfold genOv; omega
  · unfold genOv; omega
theorem stock_ok (l : List Int) (hl : l.length ≤ 9223372036854775807) : OkV Try.prog 29 [.c (rInt l)] [] (vS5 ⟨#[88]⟩ (1 + (⟨l, 0⟩ : Src).nx 4) (5000 + 2500 * (⟨l, 0⟩ : Src).af.nx 12) (200 + 100 * (⟨l, 0⟩ : Src).af.af.nx 8) (200 + 100 * (⟨l, 0⟩ : Src).af.af.af.nx 8)) [] := by
  have h0 : Src.ok ⟨l, 0⟩ := ⟨Nat.zero_le _, hl⟩
  have hF := from_ok l
  generalize (⟨l, 0⟩ : Src) = s at *
  have k1 := s.nx_lt (n := 4) (by omega)
  have k2 := s.af.nx_lt (n := 12) (by omega)
  have k3 := s.af.af.nx_lt (n := 8) (by omega)
  have k4 := s.af.af.af.nx_lt (n := 8) (by omega)
  have h1 := next_ok s 4 h0 (by omega) (by omega)
  have h2 := next_ok s.af 12 (Src.af_ok h0) (by omega) (by omega)
  have h3 := next_ok s.af.af 8 (Src.af_ok (Src.af_ok h0)) (by omega) (by omega)
  have h4 := next_ok s.af.af.af 8 (Src.af_ok (Src.af_ok (Src.af_ok h0))) (by omega) (by omega)
  refine X_fnP mixedX Try.func29 rfl (by kernel_rfl) (Nat.le_of_ble_eq_true (by kernel_rfl)) (by kernel_rfl) rfl rfl ?_
  simp only [sl0, Nat.zero_add, Nat.reduceAdd]
  repeat' (first
    |with_reducible (first|refine q_and ?_ ?_|exact True.intro|exact TkEq.nil _|refine Red.o (by constructor) ?_|refine blockK_o' rfl ?_|refine LoopX_e' rfl ?_|assumption)
    |((with_reducible apply q_call);first|refine X_call [] (hF) rfl rfl rfl rfl rfl rfl rfl rfl rfl rfl rfl rfl rfl ?_|refine X_call [1] (h1) rfl rfl rfl rfl rfl rfl rfl rfl rfl rfl rfl rfl rfl ?_|refine X_call [1] (h2) rfl rfl rfl rfl rfl rfl rfl rfl rfl rfl rfl rfl rfl ?_|refine X_call [1] (h3) rfl rfl rfl rfl rfl rfl rfl rfl rfl rfl rfl rfl rfl ?_|refine X_call [1] (h4) rfl rfl rfl rfl rfl rfl rfl rfl rfl rfl rfl rfl rfl ?_)
    |((with_reducible apply q_CI);intro hbq;(try simp only [bq] at hbq);(try (exfalso;omega)))
    |with_reducible (first|refine W_seq ?_|refine W_block ?_)
    |((with_reducible apply q_cond);refine X_cond rfl ?_ ?_;all_goals (intro hbq;(try simp only [bq] at hbq);(try (exfalso;omega))))
    |refine Rex.o (by (with_reducible constructor);apply Eq.refl) ?_
    |(intro (hgq : (_ : Bool) = true);(try simp only [bq] at hgq))
    |(intro (hgq : (_ : Bool) = false);(try simp only [bq] at hgq))
    |((with_reducible apply q_VOk);exact fun _ => ⟨rfl,rfl⟩)|(intro _;exact rfl)|((with_reducible apply q_CRB);kernel_rfl)|((with_reducible apply q_bt);simp only [bq])|((with_reducible apply q_eqN);rfl)|((with_reducible apply q_FE);exact rfl)|with_reducible (first|exact isByte_wrap _|exact isByte_nat _)|(simp only [hgq,bq];done)|omega|(dsimp only;omega))
  repeat' (first|with_reducible (first|refine Wk.o (by constructor) ?_|refine q_and ?_ ?_|exact True.intro)|refine VEq.c ?_|refine VEq.agg ?_|refine VEq.tup ?_|refine TkEq.cells ?_ ?_|refine TkEq.els ?_ ?_|refine SEqL.cons ?_ ?_|refine TEqL.agg ?_ ?_|refine CEq.rows ?_|refine CEq.int ?_|rfl|omega)
theorem route_ok (L : Lay) (hV : Valid L) (h1 : 1 ≤ L.secs.length) (c : List Int) (hc : c.length ≤ 9223372036854775807) : OkV Try.prog 28 [vLay L, .c (rInt c)] [] (vR2 (rtG L c).st (genOv L c)) [] := by
  have h0 : Src.ok ⟨c, 0⟩ := ⟨Nat.zero_le _, hc⟩
  have hn3 := hV.n3
  have hF := from_ok c
  have hH := fun x => refHops_ok L x hV
  have hhl : ∀ x, (hopsL L x).length ≤ 192 := fun x => Nat.le_trans (List.length_filterMap_le _ _) hV.n4
  have hR := gen_rt L c hc
  have hG : rtRun L (rtZero L c).n (rtZero L c) = rtG L c := rfl
  unfold genOv
  unfold rtZero at hG
  generalize rtG L c = R at *
  simp only at hG
  generalize (⟨c, 0⟩ : Src) = s at *
  have k1 := s.nx_lt (n := L.secs.length) (by omega)
  have k2 := s.af.nx_lt (n := 2) (by omega)
  have k3 := s.af.af.nx_lt (n := 6) (by omega)
  have n1 := next_ok s L.secs.length h0 (by omega) (by omega)
  have n2 := next_ok s.af 2 (Src.af_ok h0) (by omega) (by omega)
  have n3 := next_ok s.af.af 6 (Src.af_ok (Src.af_ok h0)) (by omega) (by omega)
  unfold vLay at hH ⊢
  refine X_fnP mixedX Try.func28 rfl (by kernel_rfl) (Nat.le_of_ble_eq_true (by kernel_rfl)) (by kernel_rfl) rfl rfl ?_
  simp only [sl0, Nat.zero_add, Nat.reduceAdd]
  repeat' (first
    |with_reducible (first|refine q_and ?_ ?_|exact True.intro|exact TkEq.nil _|refine Red.o (by constructor) ?_|refine blockK_o' rfl ?_|refine LoopX_e' rfl ?_|assumption)
    |((with_reducible apply q_call);first|refine X_call [] (hF) rfl rfl rfl rfl rfl rfl rfl rfl rfl rfl rfl rfl rfl ?_|refine X_call [2] (n1) rfl rfl rfl rfl rfl rfl rfl rfl rfl rfl rfl rfl rfl ?_|refine X_call [2] (n2) rfl rfl rfl rfl rfl rfl rfl rfl rfl rfl rfl rfl rfl ?_|refine X_call [2] (n3) rfl rfl rfl rfl rfl rfl rfl rfl rfl rfl rfl rfl rfl ?_)
    |((with_reducible apply q_CI);intro hbq;(try simp only [bq] at hbq);(try (exfalso;omega)))
    |with_reducible (first|refine W_seq ?_|refine W_block ?_)
    |((with_reducible apply q_cond);refine X_cond rfl ?_ ?_;all_goals (intro hbq;(try simp only [bq] at hbq);(try (exfalso;omega))))
    |refine Rex.o (by (with_reducible constructor);apply Eq.refl) ?_
    |(intro (hgq : (_ : Bool) = true);(try simp only [bq] at hgq))
    |(intro (hgq : (_ : Bool) = false);(try simp only [bq] at hgq))
    |((with_reducible apply q_VOk);exact fun _ => ⟨rfl,rfl⟩)|(intro _;exact rfl)|((with_reducible apply q_CRB);kernel_rfl)|((with_reducible apply q_bt);simp only [bq])|((with_reducible apply q_eqN);rfl)|((with_reducible apply q_FE);exact rfl)|with_reducible (first|exact isByte_wrap _|exact isByte_nat _)|(simp only [hgq,bq];done)|omega|(dsimp only;omega))
  refine W_loopS (fun g : RtG × Int => SS [sC 2 (pB 0), sC 4 (pB 1), sC 5 (pB 2), sC 6 (pB 3), sC 7 (pB 4), sI 8 g.2] [bLay L, some (.cells [.c (.f .nils), xI 0]), some g.1.s.box, some (.cells [uStp g.1.st, xI 0]), some (.cells [xI g.1.x.sec, xI g.1.x.dir])]) (fun g => (g.2 = g.1.n ∨ g.2 ≤ 0 ∧ g.1.n = 0) ∧ -1 ≤ g.2 ∧ g.1.s.ok ∧ g.1.st.length + g.1.n ≤ 7 ∧ rtRun L g.1.n g.1 = R) (fun g => g.2.toNat) (⟨[⟨s.nx L.secs.length, s.af.nx 2⟩], ⟨s.nx L.secs.length, s.af.nx 2⟩, 1 + s.af.af.nx 6, s.af.af.af⟩, 1 + (s.af.af.nx 6 : Nat)) ?_ ⟨.inl (by simp only; omega), by simp only; omega, Src.af_ok (Src.af_ok (Src.af_ok h0)), by simp only [List.length_singleton]; omega, hG⟩ ?_
  ·
    refine X_weak rfl rfl rfl ?_ ?_ <;> repeat' (first|with_reducible (first|refine Wk.o (by constructor) ?_|refine q_and ?_ ?_|exact True.intro)|refine q_AgS rfl ?_ ?_|exact CLe.nil_tipS|exact CLe.nil_rowS|refine HLe.cells ?_ ?_|refine HLe.els ?_ ?_|refine SLe.cons ?_ ?_|exact (rfl : known _ = _)|with_reducible rfl|omega)
    all_goals rfl
  rintro ⟨⟨st, x, n, t⟩, k⟩ ⟨hk, hk1, hs, hlen, hR2⟩
  simp only at hk hk1 hs hlen hR2
  clear hG n1 n2 n3 k1 k2 k3 hF h0
  have hHx := hH x
  have hhx := hhl x
  clear hH hhl
  by_cases hk0 : 0 < k
  · obtain ⟨m, rfl⟩ : ∃ m, n = m + 1 := ⟨n - 1, by omega⟩
    have hkn : k = (m : Int) + 1 := by omega
    clear hk
    unfold rtRun at hR2
    simp only at hR2
    by_cases hh : (hopsL L x).length = 0
    · have hh2 : hopsL L x = [] := List.eq_nil_of_length_eq_zero hh
      rw [if_pos hh2] at hR2
      subst hR2
      have nn := next_ok t 3 hs (by omega) (by omega)
      have kk := t.nx_lt (n := 3) (by omega)
      repeat' (first
        |with_reducible (first|refine q_and ?_ ?_|exact True.intro|exact TkEq.nil _|refine Red.o (by constructor) ?_|refine blockK_o' rfl ?_|refine LoopX_e' rfl ?_|assumption)
        |((with_reducible apply q_call);first|refine X_pure (hHx) rfl ?_|refine X_call [2] (nn) rfl rfl rfl rfl rfl rfl rfl rfl rfl rfl rfl rfl rfl ?_)
        |((with_reducible apply q_CI);intro hbq;(try simp only [bq] at hbq);(try (exfalso;omega)))
        |with_reducible (first|refine W_seq ?_|refine W_block ?_)
        |((with_reducible apply q_cond);refine X_cond rfl ?_ ?_;all_goals (intro hbq;(try simp only [bq] at hbq);(try (exfalso;omega))))
        |refine Rex.o (by (with_reducible constructor);apply Eq.refl) ?_
        |(intro (hgq : (_ : Bool) = true);(try simp only [bq] at hgq))
        |(intro (hgq : (_ : Bool) = false);(try simp only [bq] at hgq))
        |((with_reducible apply q_VOk);exact fun _ => ⟨rfl,rfl⟩)|(intro _;exact rfl)|((with_reducible apply q_CRB);kernel_rfl)|((with_reducible apply q_bt);simp only [bq])|((with_reducible apply q_eqN);rfl)|((with_reducible apply q_FE);exact rfl)|with_reducible (first|exact isByte_wrap _|exact isByte_nat _)|(simp only [hgq,bq];done)|omega|(dsimp only;omega))
      · rfl
    · have hh2 : ¬ hopsL L x = [] := fun e => hh (by rw [e]; rfl)
      rw [if_neg hh2] at hR2
      have hN := next_ok t (hopsL L x).length hs (by omega) (by omega)
      have hNl := t.nx_lt (n := (hopsL L x).length) (by omega)
      generalize hy : rtNext L ⟨st, x, m + 1, t⟩ = y at *
      have y1 : y.sec = ((hopsL L x).getD ((t.nx (hopsL L x).length : Nat) : Int).toNat ⟨0, 0, 0, 0⟩).sec := by rw [← hy]; rfl
      have y2 : y.dir = ((hopsL L x).getD ((t.nx (hopsL L x).length : Nat) : Int).toNat ⟨0, 0, 0, 0⟩).dir := by rw [← hy]; rfl
      repeat' (first
        |with_reducible (first|refine q_and ?_ ?_|exact True.intro|exact TkEq.nil _|refine Red.o (by constructor) ?_|refine blockK_o' rfl ?_|refine LoopX_e' rfl ?_|assumption)
        |((with_reducible apply q_call);first|refine X_pure (hHx) rfl ?_|refine X_call [2] (hN) rfl rfl rfl rfl rfl rfl rfl rfl rfl rfl rfl rfl rfl ?_)
        |((with_reducible apply q_CI);intro hbq;(try simp only [bq] at hbq);(try (exfalso;omega)))
        |with_reducible (first|refine W_seq ?_|refine W_block ?_)
        |((with_reducible apply q_cond);refine X_cond rfl ?_ ?_;all_goals (intro hbq;(try simp only [bq] at hbq);(try (exfalso;omega))))
        |refine Rex.o (by (with_reducible constructor);apply Eq.refl) ?_
        |(intro (hgq : (_ : Bool) = true);(try simp only [bq] at hgq))
        |(intro (hgq : (_ : Bool) = false);(try simp only [bq] at hgq))
        |((with_reducible apply q_VOk);exact fun _ => ⟨rfl,rfl⟩)|(intro _;exact rfl)|((with_reducible apply q_CRB);kernel_rfl)|((with_reducible apply q_bt);simp only [bq])|((with_reducible apply q_eqN);rfl)|((with_reducible apply q_FE);exact rfl)|with_reducible (first|exact isByte_wrap _|exact isByte_nat _)|(simp only [hgq,bq];done)|omega|(dsimp only;omega))
      refine W_loopS (fun g : Nat × Int => SS [sC 2 (pB 0), sC 4 (pB 1), sC 5 (pB 2), sC 6 (pB 3), sC 7 (pB 4), sI 8 g.2, sI 50 st.length, sI 51 g.1] [bLay L, some (.cells [.c (.f .nils), xI 0]), some t.af.box, some (.cells [uStp st, xI 0]), some (.cells [xI y.sec, xI y.dir])]) (fun g => g.1 ≤ st.length ∧ g.2 = if (st.take g.1).any (fun s => decide (s.sec = y.sec)) = true then 0 else k) (fun g => st.length - g.1) (0, k) ?_ ⟨by simp only; omega, rfl⟩ ?_
      ·
        refine X_weak rfl rfl rfl ?_ ?_ <;> repeat' (first|with_reducible (first|refine Wk.o (by constructor) ?_|refine q_and ?_ ?_|exact True.intro)|refine q_AgS rfl ?_ ?_|exact CLe.nil_tipS|exact CLe.nil_rowS|refine HLe.cells ?_ ?_|refine HLe.els ?_ ?_|refine SLe.cons ?_ ?_|exact (rfl : known _ = _)|with_reducible rfl|omega)
        all_goals first | exact y1 | exact y2 | exact y1.symm | exact y2.symm
      rintro ⟨i, v⟩ ⟨hi, hv⟩
      simp only at hi hv
      have htk : i < st.length → (st.take (i + 1)).any (fun s => decide (s.sec = y.sec)) = ((st.take i).any (fun s => decide (s.sec = y.sec)) || decide ((st.getD i st0).sec = y.sec)) := fun h => by
        rw [take_snoc h, List.any_append, List.any_cons, List.any_nil, Bool.or_false]
      by_cases hil : i < st.length
      · by_cases he : (st.getD (i : Int).toNat { sec := 0, dir := 0 }).sec = y.sec
        ·
          repeat' (first
            |with_reducible (first|refine q_and ?_ ?_|exact True.intro|exact TkEq.nil _|refine Red.o (by constructor) ?_|refine blockK_o' rfl ?_|refine LoopX_e' rfl ?_|assumption)
            |((with_reducible apply q_CI);intro hbq;(try simp only [bq] at hbq);(try (exfalso;omega)))
            |with_reducible (first|refine W_seq ?_|refine W_block ?_)
            |((with_reducible apply q_cond);refine X_cond rfl ?_ ?_;all_goals (intro hbq;(try simp only [bq] at hbq);(try (exfalso;omega))))
            |refine Rex.o (by (with_reducible constructor);apply Eq.refl) ?_
            |(intro (hgq : (_ : Bool) = true);(try simp only [bq] at hgq))
            |(intro (hgq : (_ : Bool) = false);(try simp only [bq] at hgq))
            |((with_reducible apply q_VOk);exact fun _ => ⟨rfl,rfl⟩)|(intro _;exact rfl)|((with_reducible apply q_CRB);kernel_rfl)|((with_reducible apply q_bt);simp only [bq])|((with_reducible apply q_eqN);rfl)|((with_reducible apply q_FE);exact rfl)|with_reducible (first|exact isByte_wrap _|exact isByte_nat _)|(simp only [hgq,bq];done)|omega|(dsimp only;omega))
          ·
            refine LoopK_n ((i + 1, 0)) ?_ (⟨by simp only; omega, by simp only; rw [htk hil, if_pos (by rw [Bool.or_eq_true]; right; exact decide_eq_true he)]⟩) (by (try dsimp only); omega)
            refine X_weak rfl rfl rfl ?_ ?_ <;> repeat' (first|with_reducible (first|refine Wk.o (by constructor) ?_|refine q_and ?_ ?_|exact True.intro)|refine q_AgS rfl ?_ ?_|exact CLe.nil_tipS|exact CLe.nil_rowS|refine HLe.cells ?_ ?_|refine HLe.els ?_ ?_|refine SLe.cons ?_ ?_|exact (rfl : known _ = _)|with_reducible rfl|omega)
        ·
          repeat' (first
            |with_reducible (first|refine q_and ?_ ?_|exact True.intro|exact TkEq.nil _|refine Red.o (by constructor) ?_|refine blockK_o' rfl ?_|refine LoopX_e' rfl ?_|assumption)
            |((with_reducible apply q_CI);intro hbq;(try simp only [bq] at hbq);(try (exfalso;omega)))
            |with_reducible (first|refine W_seq ?_|refine W_block ?_)
            |((with_reducible apply q_cond);refine X_cond rfl ?_ ?_;all_goals (intro hbq;(try simp only [bq] at hbq);(try (exfalso;omega))))
            |refine Rex.o (by (with_reducible constructor);apply Eq.refl) ?_
            |(intro (hgq : (_ : Bool) = true);(try simp only [bq] at hgq))
            |(intro (hgq : (_ : Bool) = false);(try simp only [bq] at hgq))
            |((with_reducible apply q_VOk);exact fun _ => ⟨rfl,rfl⟩)|(intro _;exact rfl)|((with_reducible apply q_CRB);kernel_rfl)|((with_reducible apply q_bt);simp only [bq])|((with_reducible apply q_eqN);rfl)|((with_reducible apply q_FE);exact rfl)|with_reducible (first|exact isByte_wrap _|exact isByte_nat _)|(simp only [hgq,bq];done)|omega|(dsimp only;omega))
          ·
            refine LoopK_n ((i + 1, v)) ?_ (⟨by simp only; omega, by simp only; rw [htk hil, decide_eq_false (show ¬ (st.getD i st0).sec = y.sec from he), Bool.or_false]; exact hv⟩) (by (try dsimp only); omega)
            refine X_weak rfl rfl rfl ?_ ?_ <;> repeat' (first|with_reducible (first|refine Wk.o (by constructor) ?_|refine q_and ?_ ?_|exact True.intro)|refine q_AgS rfl ?_ ?_|exact CLe.nil_tipS|exact CLe.nil_rowS|refine HLe.cells ?_ ?_|refine HLe.els ?_ ?_|refine SLe.cons ?_ ?_|exact (rfl : known _ = _)|with_reducible rfl|omega)
      · have hie : i = st.length := by omega
        subst hie
        rw [List.take_length] at hv
        by_cases hd : st.any (fun s => decide (s.sec = y.sec)) = true
        · rw [if_pos hd] at hv hR2
          repeat' (first
            |with_reducible (first|refine q_and ?_ ?_|exact True.intro|exact TkEq.nil _|refine Red.o (by constructor) ?_|refine blockK_o' rfl ?_|refine LoopX_e' rfl ?_|assumption)
            |((with_reducible apply q_CI);intro hbq;(try simp only [bq] at hbq);(try (exfalso;omega)))
            |with_reducible (first|refine W_seq ?_|refine W_block ?_)
            |((with_reducible apply q_cond);refine X_cond rfl ?_ ?_;all_goals (intro hbq;(try simp only [bq] at hbq);(try (exfalso;omega))))
            |refine Rex.o (by (with_reducible constructor);apply Eq.refl) ?_
            |(intro (hgq : (_ : Bool) = true);(try simp only [bq] at hgq))
            |(intro (hgq : (_ : Bool) = false);(try simp only [bq] at hgq))
            |((with_reducible apply q_VOk);exact fun _ => ⟨rfl,rfl⟩)|(intro _;exact rfl)|((with_reducible apply q_CRB);kernel_rfl)|((with_reducible apply q_bt);simp only [bq])|((with_reducible apply q_eqN);rfl)|((with_reducible apply q_FE);exact rfl)|with_reducible (first|exact isByte_wrap _|exact isByte_nat _)|(simp only [hgq,bq];done)|omega|(dsimp only;omega))
          ·
            refine LoopK_n ((⟨st, y, 0, t.af⟩, -1)) ?_ (⟨.inr ⟨by simp only; omega, rfl⟩, by simp only; omega, Src.af_ok hs, by simp only; omega, hR2⟩) (by (try dsimp only); omega)
            refine X_weak rfl rfl rfl ?_ ?_ <;> repeat' (first|with_reducible (first|refine Wk.o (by constructor) ?_|refine q_and ?_ ?_|exact True.intro)|refine q_AgS rfl ?_ ?_|exact CLe.nil_tipS|exact CLe.nil_rowS|refine HLe.cells ?_ ?_|refine HLe.els ?_ ?_|refine SLe.cons ?_ ?_|exact (rfl : known _ = _)|with_reducible rfl|omega)
        · rw [if_neg hd] at hv hR2
          repeat' (first
            |with_reducible (first|refine q_and ?_ ?_|exact True.intro|exact TkEq.nil _|refine Red.o (by constructor) ?_|refine blockK_o' rfl ?_|refine LoopX_e' rfl ?_|assumption)
            |((with_reducible apply q_CI);intro hbq;(try simp only [bq] at hbq);(try (exfalso;omega)))
            |with_reducible (first|refine W_seq ?_|refine W_block ?_)
            |((with_reducible apply q_cond);refine X_cond rfl ?_ ?_;all_goals (intro hbq;(try simp only [bq] at hbq);(try (exfalso;omega))))
            |refine Rex.o (by (with_reducible constructor);apply Eq.refl) ?_
            |(intro (hgq : (_ : Bool) = true);(try simp only [bq] at hgq))
            |(intro (hgq : (_ : Bool) = false);(try simp only [bq] at hgq))
            |((with_reducible apply q_VOk);exact fun _ => ⟨rfl,rfl⟩)|(intro _;exact rfl)|((with_reducible apply q_CRB);kernel_rfl)|((with_reducible apply q_bt);simp only [bq])|((with_reducible apply q_eqN);rfl)|((with_reducible apply q_FE);exact rfl)|with_reducible (first|exact isByte_wrap _|exact isByte_nat _)|(simp only [hgq,bq];done)|omega|(dsimp only;omega))
          ·
            refine LoopK_n ((⟨st ++ [y], y, m, t.af⟩, (m : Int))) ?_ (⟨.inl rfl, by simp only; omega, Src.af_ok hs, by simp only [List.length_append, List.length_singleton]; omega, hR2⟩) (by (try dsimp only); omega)
            refine X_weak rfl rfl rfl ?_ ?_ <;> repeat' (first|with_reducible (first|refine Wk.o (by constructor) ?_|refine q_and ?_ ?_|exact True.intro)|refine q_AgS rfl ?_ ?_|exact CLe.nil_tipS|exact CLe.nil_rowS|refine HLe.cells ?_ ?_|refine HLe.els ?_ ?_|refine SLe.cons ?_ ?_|exact (rfl : known _ = _)|with_reducible rfl|omega)
  · have hn0 : n = 0 := by omega
    subst hn0
    have hR3 : R = ⟨st, x, 0, t⟩ := hR2.symm
    subst hR3
    have nn := next_ok t 3 hs (by omega) (by omega)
    have kk := t.nx_lt (n := 3) (by omega)
    repeat' (first
      |with_reducible (first|refine q_and ?_ ?_|exact True.intro|exact TkEq.nil _|refine Red.o (by constructor) ?_|refine blockK_o' rfl ?_|refine LoopX_e' rfl ?_|assumption)
      |((with_reducible apply q_call);refine X_call [2] (nn) rfl rfl rfl rfl rfl rfl rfl rfl rfl rfl rfl rfl rfl ?_)
      |((with_reducible apply q_CI);intro hbq;(try simp only [bq] at hbq);(try (exfalso;omega)))
      |with_reducible (first|refine W_seq ?_|refine W_block ?_)
      |((with_reducible apply q_cond);refine X_cond rfl ?_ ?_;all_goals (intro hbq;(try simp only [bq] at hbq);(try (exfalso;omega))))
      |refine Rex.o (by (with_reducible constructor);apply Eq.refl) ?_
      |(intro (hgq : (_ : Bool) = true);(try simp only [bq] at hgq))
      |(intro (hgq : (_ : Bool) = false);(try simp only [bq] at hgq))
      |((with_reducible apply q_VOk);exact fun _ => ⟨rfl,rfl⟩)|(intro _;exact rfl)|((with_reducible apply q_CRB);kernel_rfl)|((with_reducible apply q_bt);simp only [bq])|((with_reducible apply q_eqN);rfl)|((with_reducible apply q_FE);exact rfl)|with_reducible (first|exact isByte_wrap _|exact isByte_nat _)|(simp only [hgq,bq];done)|omega|(dsimp only;omega))
    · rfl
end Go.Proofs.Ytbpeakgihhdocaa.Av
namespace Go.Proofs.Ytbpeakgihhdocaa.Av
set_option linter.unusedVariables false
set_option linter.unusedSimpArgs false
set_option maxRecDepth 4000
set_option maxHeartbeats 4000000
theorem ex_fit2 : fitErr exL ⟨exSt, 0⟩ 21 30000 500 500 = 12 := by kernel_rfl
theorem awake_ok : OkV Try.prog 11 [] [] (vB true) [] := by
  have h1 := example_ok
  have h2 := whole_ok
  have h3 := stock1_ok
  have h4 := fits_ok exL exL_fits exSt 0 (by decide) (by omega) ⟨#[83]⟩ 20 30000 500 500
  have h5 := fits_ok exL exL_fits exSt 0 (by decide) (by omega) ⟨#[83]⟩ 21 30000 500 500
  rw [ex_fit] at h4
  rw [ex_fit2] at h5
  generalize exL = L at *
  generalize exSt = st at *
  unfold vLay at h1 h4 h5
  refine X_fnP mixedX Try.func11 rfl (by kernel_rfl) (Nat.le_of_ble_eq_true (by kernel_rfl)) (by kernel_rfl) rfl rfl ?_
  simp only [sl0, Nat.zero_add, Nat.reduceAdd]
  repeat' (first
    |with_reducible (first|refine q_and ?_ ?_|exact True.intro|exact TkEq.nil _|refine Red.o (by constructor) ?_|refine blockK_o' rfl ?_|refine LoopX_e' rfl ?_|assumption)
    |((with_reducible apply q_call);first|refine X_pure (h1) rfl ?_|refine X_pure (h2) rfl ?_|refine X_pure (h3) rfl ?_|refine X_pure (h4) rfl ?_)
    |((with_reducible apply q_callG);refine X_pureG ((fun _ => h1)) rfl ?_ ?_)
    |((with_reducible apply q_callG);refine X_pureG ((fun _ => h2)) rfl ?_ ?_)
    |((with_reducible apply q_callG);refine X_pureG ((fun _ => h5)) rfl ?_ ?_)
    |((with_reducible apply q_CI);intro hbq;(try simp only [bq] at hbq);(try (exfalso;omega)))
    |with_reducible (first|refine W_seq ?_|refine W_block ?_)
    |((with_reducible apply q_cond);refine X_cond rfl ?_ ?_;all_goals (intro hbq;(try simp only [bq] at hbq);(try (exfalso;omega))))
    |refine Rex.o (by (with_reducible constructor);apply Eq.refl) ?_
    |(intro (hgq : (_ : Bool) = true);(try simp only [bq] at hgq))
    |(intro (hgq : (_ : Bool) = false);(try simp only [bq] at hgq))
    |((with_reducible apply q_VOk);exact fun _ => ⟨rfl,rfl⟩)|(intro _;exact rfl)|((with_reducible apply q_CRB);kernel_rfl)|((with_reducible apply q_bt);simp only [bq])|((with_reducible apply q_eqN);rfl)|((with_reducible apply q_FE);exact rfl)|with_reducible (first|exact isByte_wrap _|exact isByte_nat _)|(simp only [hgq,bq];done)|omega|(dsimp only;omega))
  repeat' (first|with_reducible (first|refine Wk.o (by constructor) ?_|refine q_and ?_ ?_|exact True.intro)|refine VEq.c ?_|refine VEq.agg ?_|refine VEq.tup ?_|refine TkEq.cells ?_ ?_|refine TkEq.els ?_ ?_|refine SEqL.cons ?_ ?_|refine TEqL.agg ?_ ?_|refine CEq.rows ?_|refine CEq.int ?_|rfl|omega)
structure Drawn where
  L : Lay
  st : List Stp
  ov : Int
  l : Int
  sp : Int
  ac : Int
  br : Int
def Drawn.of (l c m : List Int) : Drawn :=
  ⟨genL l, (rtG (genL l) c).st, genOv (genL l) c, min (1 + (⟨m, 0⟩ : Src).nx 4) 2, 5000 + 2500 * (⟨m, 0⟩ : Src).af.nx 12, 200 + 100 * (⟨m, 0⟩ : Src).af.af.nx 8, 200 + 100 * (⟨m, 0⟩ : Src).af.af.af.nx 8⟩
structure Drawn.Ok (d : Drawn) : Prop where
  lay : layErr d.L = 0
  fits : LayFits d.L
  len : d.st.length ≤ 7
  ov : 0 ≤ d.ov ∧ d.ov ≤ 2
theorem valid_fits {L : Lay} (h : Valid L) : LayFits L := by
  obtain ⟨n1, n2, n3, n4, n5, v1, v2, v3, v4⟩ := h
  refine ⟨fun x hx => ?_, fun x hx => ?_, fun x hx => ?_, by omega, by omega, by omega, by omega⟩
  · have := nameB_size (v1 x hx); omega
  · have := nameB_size (v2 x hx); omega
  · obtain ⟨y, hy, rfl⟩ := List.mem_map.1 hx
    have := nameB_size (v3 y hy).1; omega
theorem drawn_ok (l c m : List Int) (hc : c.length ≤ 9223372036854775807) : (Drawn.of l c m).Ok :=
  ⟨genL_ok l, valid_fits (valid_of (genL_ok l)), (gen_rt (genL l) c hc).2.2.1, (gen_rt (genL l) c hc).2.2.2⟩
abbrev Drawn.err (d : Drawn) : Int := fitErr d.L ⟨d.st, d.ov⟩ d.l d.sp d.ac d.br
abbrev Drawn.vs (d : Drawn) : SV := .tup [.agg [rStr d.L.sts, rStr d.L.pts, rSec d.L.secs, rLnk d.L.lnks], .agg [rStp d.st, xI d.ov], .agg [xS ⟨#[88]⟩, xI d.l, xI d.sp, xI d.ac, xI d.br], .c (xB (decide (d.err = 0)))]
theorem fitting_ok (l c m : List Int) (hl : l.length ≤ 9223372036854775807) (hc : c.length ≤ 9223372036854775807) (hm : m.length ≤ 9223372036854775807) : OkV Try.prog 10 [.c (rInt l), .c (rInt c), .c (rInt m)] [] (Drawn.of l c m).vs [] := by
  have h1 := layout_ok l hl
  have hv := genL_ok l
  have h2 := route_ok (genL l) (valid_of hv) (genL_secs l) c hc
  have h3 := stock_ok m hm
  have hb := gen_rt (genL l) c hc
  have h4 := refFits_ok (genL l) (valid_fits (valid_of hv)) (rtG (genL l) c).st (genOv (genL l) c) (by omega) (by omega) ⟨#[88]⟩ (min (1 + (⟨m, 0⟩ : Src).nx 4) 2) (5000 + 2500 * (⟨m, 0⟩ : Src).af.nx 12) (200 + 100 * (⟨m, 0⟩ : Src).af.af.nx 8) (200 + 100 * (⟨m, 0⟩ : Src).af.af.af.nx 8)
  unfold Drawn.vs Drawn.err Drawn.of
  simp only
  clear hb hv
  generalize genOv (genL l) c = ov at *
  generalize (rtG (genL l) c).st = st at *
  generalize genL l = L at *
  generalize (1 + ((⟨m, 0⟩ : Src).nx 4 : Int)) = k at *
  generalize (5000 + 2500 * ((⟨m, 0⟩ : Src).af.nx 12 : Int)) = sp at *
  generalize (200 + 100 * ((⟨m, 0⟩ : Src).af.af.nx 8 : Int)) = ac at *
  generalize (200 + 100 * ((⟨m, 0⟩ : Src).af.af.af.nx 8 : Int)) = br at *
  generalize fitErr L ⟨st, ov⟩ (min k 2) sp ac br = e at *
  unfold vLay at h1 h2 h4
  refine X_fnP mixedX Try.func10 rfl (by kernel_rfl) (Nat.le_of_ble_eq_true (by kernel_rfl)) (by kernel_rfl) rfl rfl ?_
  simp only [sl0, Nat.zero_add, Nat.reduceAdd]
  repeat' (first
    |with_reducible (first|refine q_and ?_ ?_|exact True.intro|exact TkEq.nil _|refine Red.o (by constructor) ?_|refine blockK_o' rfl ?_|refine LoopX_e' rfl ?_|assumption)
    |((with_reducible apply q_call);first|refine X_pure (h1) rfl ?_|refine X_pure (h2) rfl ?_|refine X_pure (h3) rfl ?_|refine X_pure (h4) rfl ?_)
    |((with_reducible apply q_CI);intro hbq;(try simp only [bq] at hbq);(try (exfalso;omega)))
    |with_reducible (first|refine W_seq ?_|refine W_block ?_)
    |((with_reducible apply q_cond);refine X_cond rfl ?_ ?_;all_goals (intro hbq;(try simp only [bq] at hbq);(try (exfalso;omega))))
    |refine Rex.o (by (with_reducible constructor);apply Eq.refl) ?_
    |(intro (hgq : (_ : Bool) = true);(try simp only [bq] at hgq))
    |(intro (hgq : (_ : Bool) = false);(try simp only [bq] at hgq))
    |((with_reducible apply q_VOk);exact fun _ => ⟨rfl,rfl⟩)|(intro _;exact rfl)|((with_reducible apply q_CRB);kernel_rfl)|((with_reducible apply q_bt);simp only [bq])|((with_reducible apply q_eqN);rfl)|((with_reducible apply q_FE);exact rfl)|with_reducible (first|exact isByte_wrap _|exact isByte_nat _)|(simp only [hgq,bq];done)|omega|(dsimp only;omega))
  · rfl
end Go.Proofs.Ytbpeakgihhdocaa.Av
namespace Go.Proofs.Ytbpeakgihhdocaa.Av
set_option linter.unusedVariables false
set_option linter.unusedSimpArgs false
set_option maxRecDepth 4000
set_option maxHeartbeats 4000000
theorem down_ok (a : Int) (ha : -9223372036854775808 ≤ a ∧ a ≤ 9223372036854775807) : OkV Try.prog 63 [.c (xI a)] [] (vI (a / 1000)) [] := by
  have h := floorDiv_okV a 1000 ha (by omega)
  refine X_fn mixedX Try.func63 rfl (by kernel_rfl) (Nat.le_of_ble_eq_true (by kernel_rfl)) (by kernel_rfl) rfl rfl (Nat.le_of_ble_eq_true rfl) rfl rfl ?_
  simp only [sl0, Nat.zero_add, Nat.reduceAdd]
  repeat' (first
    |with_reducible (first|refine q_and ?_ ?_|exact True.intro|exact TkEq.nil _|refine Red.o (by constructor) ?_|refine blockK_o' rfl ?_|refine LoopX_e' rfl ?_|assumption)
    |((with_reducible apply q_call);refine X_pure (h) rfl ?_)
    |((with_reducible apply q_CI);intro hbq;(try simp only [bq] at hbq);(try (exfalso;omega)))
    |refine Rex.o (by (with_reducible constructor);apply Eq.refl) ?_
    |(intro (hgq : (_ : Bool) = true);(try simp only [bq] at hgq))
    |(intro (hgq : (_ : Bool) = false);(try simp only [bq] at hgq))
    |((with_reducible apply q_VOk);exact fun _ => ⟨rfl,rfl⟩)|(intro _;exact rfl)|((with_reducible apply q_CRB);kernel_rfl)|((with_reducible apply q_bt);simp only [bq])|((with_reducible apply q_eqN);rfl)|((with_reducible apply q_FE);exact rfl)|with_reducible (first|exact isByte_wrap _|exact isByte_nat _)|(simp only [hgq,bq];done)|omega|(dsimp only;omega))
  repeat' (first|with_reducible (first|refine Wk.o (by constructor) ?_|refine q_and ?_ ?_|exact True.intro)|refine VEq.c ?_|refine VEq.agg ?_|refine VEq.tup ?_|refine TkEq.cells ?_ ?_|refine TkEq.els ?_ ?_|refine SEqL.cons ?_ ?_|refine TEqL.agg ?_ ?_|refine CEq.rows ?_|refine CEq.int ?_|rfl|omega)
end Go.Proofs.Ytbpeakgihhdocaa.Av
namespace Go.Proofs.Ytbpeakgihhdocaa.Av
set_option linter.unusedVariables false
set_option linter.unusedSimpArgs false
set_option maxRecDepth 4000
set_option maxHeartbeats 4000000
abbrev bOcc (l : List Occ) : Option SB := some (.els 3 fOcc vOcc mOcc ⟨0, 0, 0⟩ l)
def addO (t : List Occ) (x : Nat) (a b : Int) : List Occ := t.set x (if (t.getD x ⟨0, 0, 0⟩).frm < (t.getD x ⟨0, 0, 0⟩).til then ⟨x, min a (t.getD x ⟨0, 0, 0⟩).frm, max b (t.getD x ⟨0, 0, 0⟩).til⟩ else ⟨x, a, b⟩)
def usedO (o : Occ) : Bool := decide (o.frm < o.til)
theorem newTable_ok (L : Lay) (hV : Valid L) : OkV Try.prog 64 [vLay L] [] (.c (.c (.arr 1 0 (L.secs.length + L.pts.length) (L.secs.length + L.pts.length)))) [bLay L, bOcc (List.replicate (L.secs.length + L.pts.length) ⟨0, 0, 0⟩)] := by
  have h1 := hV.n2
  have h2 := hV.n3
  have e : ((L.secs.length : Int) + L.pts.length).toNat = L.secs.length + L.pts.length := by omega
  unfold vLay
  refine X_fn mixedX Try.func64 rfl (by kernel_rfl) (Nat.le_of_ble_eq_true (by kernel_rfl)) (by kernel_rfl) rfl rfl (Nat.le_of_ble_eq_true rfl) rfl rfl ?_
  simp only [sl0, Nat.zero_add, Nat.reduceAdd]
  repeat' (first
    |with_reducible (first|refine q_and ?_ ?_|exact True.intro|exact TkEq.nil _|refine Red.o (by constructor) ?_|refine blockK_o' rfl ?_|refine LoopX_e' rfl ?_|assumption)
    |((with_reducible apply q_CI);intro hbq;(try simp only [bq] at hbq);(try (exfalso;omega)))
    |refine Rex.o (by (with_reducible constructor);apply Eq.refl) ?_
    |(intro (hgq : (_ : Bool) = true);(try simp only [bq] at hgq))
    |(intro (hgq : (_ : Bool) = false);(try simp only [bq] at hgq))
    |((with_reducible apply q_VOk);exact fun _ => ⟨rfl,rfl⟩)|(intro _;exact rfl)|((with_reducible apply q_CRB);kernel_rfl)|((with_reducible apply q_bt);simp only [bq])|((with_reducible apply q_eqN);rfl)|((with_reducible apply q_FE);exact rfl)|with_reducible (first|exact isByte_wrap _|exact isByte_nat _)|(simp only [hgq,bq];done)|omega|(dsimp only;omega))
  · rw [e]; rfl
  · rw [e]
    repeat' (first|with_reducible (first|refine Wk.o (by constructor) ?_|refine q_and ?_ ?_|exact True.intro)|refine VEq.c ?_|refine VEq.agg ?_|refine VEq.tup ?_|refine TkEq.cells ?_ ?_|refine TkEq.els ?_ ?_|refine SEqL.cons ?_ ?_|refine TEqL.agg ?_ ?_|refine CEq.rows ?_|refine CEq.int ?_|rfl|omega)
theorem tadd_ok (t : List Occ) (x : Nat) (a b : Int) (hx : x < t.length) (hl : t.length ≤ 1000) : OkV Try.prog 65 [.c (.c (.arr 0 0 t.length t.length)), .c (xI x), .c (xI a), .c (xI b)] [bOcc t] (.tup []) [bOcc (addO t x a b)] := by
  unfold addO
  refine X_fn mixedX Try.func65 rfl (by kernel_rfl) (Nat.le_of_ble_eq_true (by kernel_rfl)) (by kernel_rfl) rfl rfl (Nat.le_of_ble_eq_true rfl) rfl rfl ?_
  simp only [sl0, Nat.zero_add, Nat.reduceAdd]
  repeat' (first
    |with_reducible (first|refine q_and ?_ ?_|exact True.intro|exact TkEq.nil _|refine Red.o (by constructor) ?_|refine blockK_o' rfl ?_|refine LoopX_e' rfl ?_|assumption)
    |((with_reducible apply q_CI);intro hbq;(try simp only [bq] at hbq);(try (exfalso;omega)))
    |refine Rex.o (by (with_reducible constructor);apply Eq.refl) ?_
    |(intro (hgq : (_ : Bool) = true);(try simp only [bq] at hgq))
    |(intro (hgq : (_ : Bool) = false);(try simp only [bq] at hgq))
    |((with_reducible apply q_VOk);exact fun _ => ⟨rfl,rfl⟩)|(intro _;exact rfl)|((with_reducible apply q_CRB);kernel_rfl)|((with_reducible apply q_bt);simp only [bq])|((with_reducible apply q_eqN);rfl)|((with_reducible apply q_FE);exact rfl)|with_reducible (first|exact isByte_wrap _|exact isByte_nat _)|(simp only [hgq,bq];done)|omega|(dsimp only;omega))
  · exact Nat.le_refl _
  · rfl
  · rfl
  · rw [if_pos (by simpa using hbq)]
    repeat' (first|with_reducible (first|refine Wk.o (by constructor) ?_|refine q_and ?_ ?_|exact True.intro)|refine VEq.c ?_|refine VEq.agg ?_|refine VEq.tup ?_|refine TkEq.cells ?_ ?_|refine TkEq.els ?_ ?_|refine SEqL.cons ?_ ?_|refine TEqL.agg ?_ ?_|refine CEq.rows ?_|refine CEq.int ?_|rfl|omega)
  · exact Nat.le_refl _
  · rfl
  · rfl
  · rw [if_neg (by simpa using hbq)]
    repeat' (first|with_reducible (first|refine Wk.o (by constructor) ?_|refine q_and ?_ ?_|exact True.intro)|refine VEq.c ?_|refine VEq.agg ?_|refine VEq.tup ?_|refine TkEq.cells ?_ ?_|refine TkEq.els ?_ ?_|refine SEqL.cons ?_ ?_|refine TEqL.agg ?_ ?_|refine CEq.rows ?_|refine CEq.int ?_|rfl|omega)
theorem tadd_okI (t : List Occ) (N : Nat) (x a b : Int) (hx : 0 ≤ x ∧ x < N) (hN : t.length = N) (hl : N ≤ 1000) : OkV Try.prog 65 [.c (.c (.arr 0 0 N N)), .c (xI x), .c (xI a), .c (xI b)] [bOcc t] (.tup []) [bOcc (addO t x.toNat a b)] := by
  have h := tadd_ok t x.toNat a b (by omega) (by omega)
  rwa [hN, Int.toNat_of_nonneg hx.1] at h
theorem tlist_okB (t : List Occ) (N : Nat) (hN : t.length = N) (hl : N ≤ 1000) : OkV Try.prog 67 [.c (.c (.arr 0 0 N N))] [bOcc t] (.c (rOcc (t.filter usedO))) [bOcc t] := by
  refine X_fn mixedX Try.func67 rfl (by kernel_rfl) (Nat.le_of_ble_eq_true (by kernel_rfl)) (by kernel_rfl) rfl rfl (Nat.le_of_ble_eq_true rfl) rfl rfl ?_
  simp only [sl0, Nat.zero_add, Nat.reduceAdd]
  repeat' (first
    |with_reducible (first|refine q_and ?_ ?_|exact True.intro|exact TkEq.nil _|refine Red.o (by constructor) ?_|refine blockK_o' rfl ?_|refine LoopX_e' rfl ?_|assumption)
    |((with_reducible apply q_CI);intro hbq;(try simp only [bq] at hbq);(try (exfalso;omega)))
    |refine Rex.o (by (with_reducible constructor);apply Eq.refl) ?_
    |(intro (hgq : (_ : Bool) = true);(try simp only [bq] at hgq))
    |(intro (hgq : (_ : Bool) = false);(try simp only [bq] at hgq))
    |((with_reducible apply q_VOk);exact fun _ => ⟨rfl,rfl⟩)|(intro _;exact rfl)|((with_reducible apply q_CRB);kernel_rfl)|((with_reducible apply q_bt);simp only [bq])|((with_reducible apply q_eqN);rfl)|((with_reducible apply q_FE);exact rfl)|with_reducible (first|exact isByte_wrap _|exact isByte_nat _)|(simp only [hgq,bq];done)|omega|(dsimp only;omega))
  refine W_loopS (fun i : Nat => SS [sC 3 (tOcc ((t.take i).filter usedO)), sC 6 (.c (.arr 0 0 N N)), sI 7 N, sI 8 i] [bOcc t]) (fun i => i ≤ N) (fun i => N - i) 0 ?_ (by omega) ?_
  ·
    refine X_weak rfl rfl rfl ?_ ?_ <;> repeat' (first|with_reducible (first|refine Wk.o (by constructor) ?_|refine q_and ?_ ?_|exact True.intro)|refine q_AgS rfl ?_ ?_|exact CLe.nil_tipS|exact CLe.nil_rowS|refine HLe.cells ?_ ?_|refine HLe.els ?_ ?_|refine SLe.cons ?_ ?_|exact (rfl : known _ = _)|with_reducible rfl|omega)
  intro i hi
  have hfl : ((t.take i).filter usedO).length ≤ 1000 := by
    have a := List.length_filter_le usedO (t.take i)
    rw [List.length_take] at a
    omega
  have hsn : i < t.length → (t.take (i + 1)).filter usedO = (t.take i).filter usedO ++ (if usedO (t.getD i ⟨0, 0, 0⟩) = true then [t.getD i ⟨0, 0, 0⟩] else []) := fun h => by
    rw [List.take_succ_eq_append_getElem h, List.filter_append, List.getD_eq_getElem?_getD, List.getElem?_eq_getElem h]
    simp only [Option.getD_some, List.filter_cons, List.filter_nil]
  repeat' (first
    |with_reducible (first|refine q_and ?_ ?_|exact True.intro|exact TkEq.nil _|refine Red.o (by constructor) ?_|refine blockK_o' rfl ?_|refine LoopX_e' rfl ?_|assumption)
    |((with_reducible apply q_CI);intro hbq;(try simp only [bq] at hbq);(try (exfalso;omega)))
    |refine Rex.o (by (with_reducible constructor);apply Eq.refl) ?_
    |(intro (hgq : (_ : Bool) = true);(try simp only [bq] at hgq))
    |(intro (hgq : (_ : Bool) = false);(try simp only [bq] at hgq))
    |((with_reducible apply q_VOk);exact fun _ => ⟨rfl,rfl⟩)|(intro _;exact rfl)|((with_reducible apply q_CRB);kernel_rfl)|((with_reducible apply q_bt);simp only [bq])|((with_reducible apply q_eqN);rfl)|((with_reducible apply q_FE);exact rfl)|with_reducible (first|exact isByte_wrap _|exact isByte_nat _)|(simp only [hgq,bq];done)|omega|(dsimp only;omega))
  · have hu : usedO (t.getD i ⟨0, 0, 0⟩) = true := by unfold usedO; simpa using hbq
    refine LoopK_n (i + 1) ?_ ((by omega)) (by (try dsimp only); omega)
    refine X_weak rfl rfl rfl ?_ ?_ <;> repeat' (first|with_reducible (first|refine Wk.o (by constructor) ?_|refine q_and ?_ ?_|exact True.intro)|refine q_AgS rfl ?_ ?_|exact CLe.nil_tipS|exact CLe.nil_rowS|refine HLe.cells ?_ ?_|refine HLe.els ?_ ?_|refine SLe.cons ?_ ?_|exact (rfl : known _ = _)|with_reducible rfl|omega)
    all_goals (rw [hsn (by omega), if_pos hu]; simp [fOcc, fI])
  · have hu : ¬ usedO (t.getD i ⟨0, 0, 0⟩) = true := by unfold usedO; simpa using hbq
    refine LoopK_n (i + 1) ?_ ((by omega)) (by (try dsimp only); omega)
    refine X_weak rfl rfl rfl ?_ ?_ <;> repeat' (first|with_reducible (first|refine Wk.o (by constructor) ?_|refine q_and ?_ ?_|exact True.intro)|refine q_AgS rfl ?_ ?_|exact CLe.nil_tipS|exact CLe.nil_rowS|refine HLe.cells ?_ ?_|refine HLe.els ?_ ?_|refine SLe.cons ?_ ?_|exact (rfl : known _ = _)|with_reducible rfl|omega)
    all_goals (rw [hsn (by omega), if_neg hu]; simp)
  · have hie : i = t.length := by omega
    subst hie
    rw [List.take_length]
    repeat' (first|with_reducible (first|refine Wk.o (by constructor) ?_|refine q_and ?_ ?_|exact True.intro)|refine VEq.c ?_|refine VEq.agg ?_|refine VEq.tup ?_|refine TkEq.cells ?_ ?_|refine TkEq.els ?_ ?_|refine SEqL.cons ?_ ?_|refine TEqL.agg ?_ ?_|refine CEq.rows ?_|refine CEq.int ?_|rfl|omega)
  ·
    repeat' (first|with_reducible (first|refine Wk.o (by constructor) ?_|refine q_and ?_ ?_|exact True.intro)|refine VEq.c ?_|refine VEq.agg ?_|refine VEq.tup ?_|refine TkEq.cells ?_ ?_|refine TkEq.els ?_ ?_|refine SEqL.cons ?_ ?_|refine TEqL.agg ?_ ?_|refine CEq.rows ?_|refine CEq.int ?_|rfl|omega)
end Go.Proofs.Ytbpeakgihhdocaa.Av
namespace Go.Proofs.Ytbpeakgihhdocaa.Av
set_option linter.unusedVariables false
set_option linter.unusedSimpArgs false
section
variable (L : Lay) (r : Rte) (l sp ac br bf af : Int)
def spF (i : Nat) : Int := if i = 0 then -bf else if i < (trv r).length then entF L r l sp ac br (i - 1) / 1000 - 16 else entF L r l sp ac br ((trv r).length - 1) / 1000 - 16
def spT (i : Nat) : Int := if i + 1 < (trv r).length then Pl.cdiv (levF L r l sp ac br i) 1000 + 4 else if i + 1 = (trv r).length then runI L r l sp ac br + af else runI L r l sp ac br + 20
def ptT (i : Nat) : Int := if i < (trv r).length then spT L r l sp ac br af (i - 1) else spT L r l sp ac br af i
end
theorem cd_le {a b : Int} (h : a ≤ b) : a / 1000 ≤ Pl.cdiv b 1000 := by
  obtain ⟨b1, b2⟩ := Pl.cdiv_bracket b 1000 (by omega)
  omega
section
variable {L : Lay} {r : Rte} {l sp ac br bf af : Int} (h : Ride L r l sp ac br)
include h
theorem ent_le_lev {i j : Nat} (hij : i ≤ j + 1) (hj : j < (trv r).length) : entF L r l sp ac br i ≤ levF L r l sp ac br j := by
  have a := lev_in h hj
  have b := endA_mono L (trv r) (show i - 1 ≤ j by omega)
  exact ride_mono h (by omega) a.2
theorem ent_le_end {i : Nat} (hi : i ≤ (trv r).length) : entF L r l sp ac br i ≤ rideT L r l sp ac br (endA L (trv r) ((trv r).length - 1)) := by
  have b := endA_mono L (trv r) (show i - 1 ≤ (trv r).length - 1 by omega)
  exact ride_mono h b (Nat.le_refl _)
theorem lev_pos {j : Nat} (hj : j < (trv r).length) : 0 ≤ levF L r l sp ac br j := (h.rng _ (lev_in h hj).2).1
theorem spF_lt (hb : 0 ≤ bf) (ha : 0 ≤ af) (i : Nat) : spF L r l sp ac br bf i < spT L r l sp ac br af i := by
  have hn := h.n2
  unfold spF spT runI
  by_cases h0 : i = 0
  · have a := lev_pos h (j := i) (by omega)
    have b := cd_le a
    rw [if_pos h0, if_pos (by omega)]
    omega
  · rw [if_neg h0]
    by_cases h1 : i < (trv r).length
    · rw [if_pos h1]
      by_cases h2 : i + 1 < (trv r).length
      · rw [if_pos h2]
        have := cd_le (ent_le_lev h (i := i - 1) (j := i) (by omega) h1)
        omega
      · rw [if_neg h2, if_pos (by omega)]
        have := cd_le (ent_le_end h (i := i - 1) (by omega))
        omega
    · rw [if_neg h1, if_neg (by omega), if_neg (by omega)]
      have := cd_le (ent_le_end h (i := (trv r).length - 1) (by omega))
      omega
end
def tabS (L : Lay) (st : List Stp) (F T P : Nat → Int) (i : Nat) (t : List Occ) : List Occ :=
  let t1 := addO t (st.getD i st0).sec.toNat (F i) (T i)
  if i = 0 then t1 else
  match joinL L (st.getD (i - 1) st0) (st.getD i st0) with
  | some k => if k.pt < 0 then t1 else addO t1 (L.secs.length + k.pt.toNat) (F i) (P i)
  | none => t1
def tabL (L : Lay) (st : List Stp) (F T P : Nat → Int) : Nat → List Occ
  | 0 => List.replicate (L.secs.length + L.pts.length) ⟨0, 0, 0⟩
  | i + 1 => tabS L st F T P i (tabL L st F T P i)
theorem addO_len (t : List Occ) (x : Nat) (a b : Int) : (addO t x a b).length = t.length := by unfold addO; rw [List.length_set]
theorem tabS_len (L : Lay) (st : List Stp) (F T P : Nat → Int) (i : Nat) (t : List Occ) : (tabS L st F T P i t).length = t.length := by
  unfold tabS
  simp only
  split
  · rw [addO_len]
  · split
    · split
      · rw [addO_len]
      · rw [addO_len, addO_len]
    · rw [addO_len]
theorem tabL_len (L : Lay) (st : List Stp) (F T P : Nat → Int) : ∀ i, (tabL L st F T P i).length = L.secs.length + L.pts.length
  | 0 => by simp [tabL]
  | i + 1 => by rw [tabL, tabS_len]; exact tabL_len L st F T P i
theorem hop_pt {L : Lay} (hV : Valid L) {a : Stp} {h : Hop} (hm : h ∈ hopsL L a) : -1 ≤ h.pt ∧ h.pt < L.pts.length := by
  unfold hopsL at hm
  obtain ⟨k, hk, e⟩ := List.mem_filterMap.1 hm
  have hl := linkB_of (hV.v4 k hk)
  unfold hopK at e
  split at e
  · injection e with e; subst e; exact ⟨hl.2.2.2.2.2.2.2.2.1, hl.2.2.2.2.2.2.2.2.2.1⟩
  · split at e
    · injection e with e; subst e; exact ⟨hl.2.2.2.2.2.2.2.2.1, hl.2.2.2.2.2.2.2.2.2.1⟩
    · cases e
theorem join_at {L : Lay} {r : Rte} (h : RteOk L r) {i : Nat} (h0 : 0 < i) (hi : i < r.st.length) : ∃ k, joinL L (r.st.getD (i - 1) st0) (r.st.getD i st0) = some k ∧ -1 ≤ k.pt ∧ k.pt < L.pts.length := by
  have hk := List.all_eq_true.1 h.link (i - 1) (List.mem_range.2 (by omega))
  unfold linkAt at hk
  rw [Nat.sub_add_cancel h0] at hk
  obtain ⟨k, hk⟩ := Option.isSome_iff_exists.1 hk
  refine ⟨k, hk, ?_⟩
  unfold joinL at hk
  exact hop_pt (valid_of h.lay) (List.mem_of_find?_eq_some hk)
end Go.Proofs.Ytbpeakgihhdocaa.Av
namespace Go.Proofs.Ytbpeakgihhdocaa.Av
set_option linter.unusedVariables false
set_option linter.unusedSimpArgs false
abbrev oc0 : Occ := ⟨0, 0, 0⟩
theorem addO_ne (t : List Occ) {x y : Nat} (a b : Int) (h : x ≠ y) : (addO t x a b).getD y oc0 = t.getD y oc0 := by
  unfold addO
  rw [List.getD_eq_getElem?_getD, List.getElem?_set_ne h, ← List.getD_eq_getElem?_getD]
theorem addO_at (t : List Occ) {x : Nat} (a b : Int) (h : x < t.length) : (addO t x a b).getD x oc0 = if (t.getD x oc0).frm < (t.getD x oc0).til then ⟨x, min a (t.getD x oc0).frm, max b (t.getD x oc0).til⟩ else ⟨x, a, b⟩ := by
  unfold addO
  rw [List.getD_eq_getElem?_getD, List.getElem?_set_self h]
  rfl
theorem addO_new (t : List Occ) {x : Nat} (a b : Int) (h : x < t.length) (h0 : t.getD x oc0 = oc0) : (addO t x a b).getD x oc0 = ⟨x, a, b⟩ := by
  rw [addO_at t a b h, h0, if_neg (by decide)]
theorem step_ne {L : Lay} {r : Rte} (h : RteOk L r) {i j : Nat} (hij : i < j) (hj : j < r.st.length) : (r.st.getD i st0).sec.toNat ≠ (r.st.getD j st0).sec.toNat := by
  intro e
  have ai := all_at h.ok (i := i) (by omega)
  have aj := all_at h.ok hj
  obtain ⟨a1, _, _⟩ := ok_dir ai
  obtain ⟨b1, _, _⟩ := ok_dir aj
  have hd : dupAt r.st j = true := by
    unfold dupAt
    rw [List.any_eq_true]
    refine ⟨r.st.getD i st0, ?_, by simp only [decide_eq_true_eq]; omega⟩
    rw [List.getD_eq_getElem?_getD, List.getElem?_eq_getElem (show i < r.st.length by omega), Option.getD_some, List.mem_iff_getElem]
    exact ⟨i, by rw [List.length_take]; omega, by rw [List.getElem_take]⟩
  have := dup_yes hj hd
  rw [h.dup] at this
  cases this
theorem step_in {L : Lay} {r : Rte} (h : RteOk L r) {i : Nat} (hi : i < r.st.length) : (r.st.getD i st0).sec.toNat < L.secs.length := by
  obtain ⟨a1, a2, _⟩ := ok_dir (all_at h.ok hi)
  omega
section
variable {L : Lay} {st : List Stp} {ov : Int} (h : RteOk L ⟨st, ov⟩) (F T P : Nat → Int)
include h
omit h in
theorem tabS_sec {i : Nat} (hi : i < st.length) (t : List Occ) {x : Nat} (hx : x < L.secs.length) : (tabS L st F T P i t).getD x oc0 = (addO t (st.getD i st0).sec.toNat (F i) (T i)).getD x oc0 := by
  unfold tabS
  simp only
  split
  · rfl
  · split
    · split
      · rfl
      · rw [addO_ne _ _ _ (by omega)]
    · rfl
omit h in
theorem tab_none {x : Nat} (hx : x < L.secs.length) : ∀ k, k ≤ st.length → (∀ i, i < k → (st.getD i st0).sec.toNat ≠ x) → (tabL L st F T P k).getD x oc0 = oc0
  | 0, _, _ => by
    have : x < L.secs.length + L.pts.length := by omega
    simp [tabL, List.getD_eq_getElem?_getD, this]
  | k + 1, hk, hn => by
    rw [tabL, tabS_sec F T P (by omega) _ hx, addO_ne _ _ _ (hn k (by omega))]
    exact tab_none hx k (by omega) fun i hi => hn i (by omega)
theorem tab_some : ∀ k, k ≤ st.length → ∀ i, i < k → (tabL L st F T P k).getD (st.getD i st0).sec.toNat oc0 = ⟨((st.getD i st0).sec.toNat : Nat), F i, T i⟩
  | 0, _, i, hi => by omega
  | k + 1, hk, i, hi => by
    have hx := step_in h (i := i) (by simp only; omega)
    simp only at hx
    rw [tabL, tabS_sec F T P (by omega) _ hx]
    rcases Nat.lt_succ_iff_lt_or_eq.1 hi with h1 | h1
    · rw [addO_ne _ _ _ (fun e => step_ne h h1 (by simp only; omega) e.symm)]
      exact tab_some k (by omega) i h1
    · subst h1
      refine addO_new _ _ _ (by rw [tabL_len]; omega) (tab_none F T P hx i (by omega) fun j hj e => step_ne h hj (by simp only; omega) e)
omit h in
theorem tabS_pt {F' P' T' : Nat → Int} {i : Nat} (hs : (st.getD i st0).sec.toNat < L.secs.length) {t t' : List Occ} (hl : t.length = t'.length) {y : Nat} (hy : L.secs.length ≤ y) (he : t.getD y oc0 = t'.getD y oc0) (hF : 0 < i → F i = F' i ∧ P i = P' i) : (tabS L st F T P i t).getD y oc0 = (tabS L st F' T' P' i t').getD y oc0 := by
  have e1 : (addO t (st.getD i st0).sec.toNat (F i) (T i)).getD y oc0 = (addO t' (st.getD i st0).sec.toNat (F' i) (T' i)).getD y oc0 := by
    rw [addO_ne _ _ _ (by omega), addO_ne _ _ _ (by omega), he]
  have l1 : (addO t (st.getD i st0).sec.toNat (F i) (T i)).length = (addO t' (st.getD i st0).sec.toNat (F' i) (T' i)).length := by rw [addO_len, addO_len, hl]
  unfold tabS
  simp only
  generalize addO t (st.getD i st0).sec.toNat (F i) (T i) = u at *
  generalize addO t' (st.getD i st0).sec.toNat (F' i) (T' i) = u' at *
  split
  · exact e1
  · rename_i h0
    obtain ⟨f1, f2⟩ := hF (by omega)
    rw [f1, f2]
    split
    · rename_i k hk
      split
      · exact e1
      · by_cases hyk : L.secs.length + k.pt.toNat = y
        · by_cases hyl : y < u.length
          · rw [hyk, addO_at _ _ _ hyl, addO_at _ _ _ (by omega), e1]
          · rw [hyk]
            unfold addO
            rw [List.set_eq_of_length_le (by omega), List.set_eq_of_length_le (by omega)]
            exact e1
        · rw [addO_ne _ _ _ hyk, addO_ne _ _ _ hyk, e1]
    · exact e1
theorem tab_pt {F' P' T' : Nat → Int} (hF : ∀ i, 0 < i → i < st.length → F i = F' i ∧ P i = P' i) {y : Nat} (hy : L.secs.length ≤ y) : ∀ k, k ≤ st.length → (tabL L st F T P k).getD y oc0 = (tabL L st F' T' P' k).getD y oc0
  | 0, _ => rfl
  | k + 1, hk => by
    rw [tabL, tabL]
    exact tabS_pt F T P (step_in h (i := k) (by simp only; omega)) (by rw [tabL_len, tabL_len]) hy (tab_pt hF hy k (by omega)) fun h0 => hF k h0 (by omega)
omit h in
theorem addO_res {t : List Occ} (ht : ∀ x, usedO (t.getD x oc0) = true → (t.getD x oc0).res = x) (z : Nat) (a b : Int) : ∀ x, usedO ((addO t z a b).getD x oc0) = true → ((addO t z a b).getD x oc0).res = x := fun x hx => by
  by_cases h : z = x
  · subst h
    by_cases hl : z < t.length
    · rw [addO_at _ _ _ hl]
      split <;> rfl
    · have e : addO t z a b = t := by unfold addO; rw [List.set_eq_of_length_le (by omega)]
      rw [e] at hx ⊢
      exact ht _ hx
  · rw [addO_ne _ _ _ h] at hx ⊢
    exact ht x hx
omit h in
theorem tab_res : ∀ k x, usedO ((tabL L st F T P k).getD x oc0) = true → ((tabL L st F T P k).getD x oc0).res = x
  | 0, x, hx => by
    by_cases hl : x < L.secs.length + L.pts.length
    · simp [tabL, List.getD_eq_getElem?_getD, hl, usedO] at hx
    · simp [tabL, List.getD_eq_getElem?_getD, hl, usedO] at hx
  | k + 1, x, hx => by
    have ih := tab_res k
    revert hx
    rw [tabL]
    unfold tabS
    simp only
    have h1 := addO_res ih (st.getD k st0).sec.toNat (F k) (T k)
    split
    · exact h1 x
    · split
      · split
        · exact h1 x
        · exact addO_res h1 _ _ _ x
      · exact h1 x
end
theorem filter_map_of {g : Occ → Occ} : ∀ {t t' : List Occ}, t.length = t'.length → (∀ x, x < t.length → usedO (t'.getD x oc0) = usedO (t.getD x oc0) ∧ (usedO (t.getD x oc0) = true → t'.getD x oc0 = g (t.getD x oc0))) → t'.filter usedO = (t.filter usedO).map g
  | [], [], _, _ => rfl
  | a :: t, b :: t', hl, hx => by
    have ih := filter_map_of (g := g) (t := t) (t' := t') (by simpa using hl) fun x h => hx (x + 1) (by simpa using h)
    obtain ⟨h1, h2⟩ := hx 0 (by simp)
    have h1 : usedO b = usedO a := h1
    have h2 : usedO a = true → b = g a := h2
    rw [List.filter_cons, List.filter_cons, h1, ih]
    split
    · rename_i hu
      rw [List.map_cons, h2 hu]
    · rfl
end Go.Proofs.Ytbpeakgihhdocaa.Av
namespace Go.Proofs.Ytbpeakgihhdocaa.Av
set_option linter.unusedVariables false
set_option linter.unusedSimpArgs false
set_option maxRecDepth 4000
set_option maxHeartbeats 4000000
def rowO (n : Nat) (F T : Nat → Int) : List Occ := (List.range n).map fun i => ⟨0, F i, T i⟩
theorem rowO_len (n : Nat) (F T : Nat → Int) : (rowO n F T).length = n := by simp [rowO]
theorem rowO_snoc (n : Nat) (F T : Nat → Int) : rowO (n + 1) F T = rowO n F T ++ [⟨0, F n, T n⟩] := by
  unfold rowO; rw [List.range_succ, List.map_append]; rfl
theorem rowO_get {n : Nat} {F T : Nat → Int} {i : Nat} (h : i < n) : (rowO n F T).getD i ⟨0, 0, 0⟩ = ⟨0, F i, T i⟩ := by simp [rowO, List.getD_eq_getElem?_getD, h]
theorem occupations_bad (L : Lay) (hL : LayFits L) (st : List Stp) (ov : Int) (hl : st.length ≤ 9223372036854775807) (ho : -9223372036854775808 ≤ ov ∧ ov ≤ 9223372036854775807) (nm : ByteArray) (l sp ac br bf af : Int) (h : ¬ fitErr L ⟨st, ov⟩ l sp ac br = 0) : OkV Try.prog 38 [vLay L, vR2 st ov, vS5 nm l sp ac br, .c (xI bf), .c (xI af)] [] (.tup [.c (rOcc []), .c (xI 0), .c (xI (fitErr L ⟨st, ov⟩ l sp ac br))]) [] := by
  have hF := btimes_bad L hL st ov hl ho nm l sp ac br h
  unfold vLay at hF ⊢
  refine X_fn mixedX Try.func38 rfl (by kernel_rfl) (Nat.le_of_ble_eq_true (by kernel_rfl)) (by kernel_rfl) rfl rfl (Nat.le_of_ble_eq_true rfl) rfl rfl ?_
  simp only [sl0, Nat.zero_add, Nat.reduceAdd]
  repeat' (first
    |with_reducible (first|refine q_and ?_ ?_|exact True.intro|exact TkEq.nil _|refine Red.o (by constructor) ?_|refine blockK_o' rfl ?_|refine LoopX_e' rfl ?_|assumption)
    |((with_reducible apply q_call);refine X_pure (hF) rfl ?_)
    |((with_reducible apply q_CI);intro hbq;(try simp only [bq] at hbq);(try (exfalso;omega)))
    |refine Rex.o (by (with_reducible constructor);apply Eq.refl) ?_
    |(intro (hgq : (_ : Bool) = true);(try simp only [bq] at hgq))
    |(intro (hgq : (_ : Bool) = false);(try simp only [bq] at hgq))
    |((with_reducible apply q_VOk);exact fun _ => ⟨rfl,rfl⟩)|(intro _;exact rfl)|((with_reducible apply q_CRB);kernel_rfl)|((with_reducible apply q_bt);simp only [bq])|((with_reducible apply q_eqN);rfl)|((with_reducible apply q_FE);exact rfl)|with_reducible (first|exact isByte_wrap _|exact isByte_nat _)|(simp only [hgq,bq];done)|omega|(dsimp only;omega))
  · rfl
theorem occupations_ok (L : Lay) (hL : LayFits L) (st : List Stp) (ov : Int) (hl : st.length ≤ 9223372036854775807) (ho : -9223372036854775808 ≤ ov ∧ ov ≤ 9223372036854775807) (nm : ByteArray) (l sp ac br bf af : Int) (h : fitErr L ⟨st, ov⟩ l sp ac br = 0) (hb : 0 ≤ bf ∧ bf ≤ 1000000) (ha : 0 ≤ af ∧ af ≤ 1000000) : OkV Try.prog 38 [vLay L, vR2 st ov, vS5 nm l sp ac br, .c (xI bf), .c (xI af)] [] (.tup [.c (rOcc ((tabL L st (spF L ⟨st, ov⟩ l sp ac br bf) (spT L ⟨st, ov⟩ l sp ac br af) (ptT L ⟨st, ov⟩ l sp ac br af) st.length).filter usedO)), .c (xI (runI L ⟨st, ov⟩ l sp ac br)), .c (xI 0)]) [] := by
  have hF := btimes_ok L hL st ov hl ho nm l sp ac br h
  have hR := ride_of h
  have hN := newTable_ok L (valid_of hR.rt.lay)
  have hn2 := hR.n2
  have hn24 := hR.n24
  have hE1 := row_len (trv ⟨st, ov⟩).length fun k => rideT L ⟨st, ov⟩ l sp ac br (endA L (trv ⟨st, ov⟩) (k - 1))
  have hE2 : ∀ k, k < (trv ⟨st, ov⟩).length → (entL L ⟨st, ov⟩ l sp ac br (trv ⟨st, ov⟩).length).getD k 0 = entF L ⟨st, ov⟩ l sp ac br k := fun k hk => row_get hk
  have hL1 := row_len (trv ⟨st, ov⟩).length (levF L ⟨st, ov⟩ l sp ac br)
  have hL2 : ∀ k, k < (trv ⟨st, ov⟩).length → (levL L ⟨st, ov⟩ l sp ac br (trv ⟨st, ov⟩).length).getD k 0 = levF L ⟨st, ov⟩ l sp ac br k := fun k hk => row_get hk
  change (entL L ⟨st, ov⟩ l sp ac br (trv ⟨st, ov⟩).length).length = _ at hE1
  change (levL L ⟨st, ov⟩ l sp ac br (trv ⟨st, ov⟩).length).length = _ at hL1
  have hEb : ∀ k, k < (trv ⟨st, ov⟩).length → 0 ≤ entF L ⟨st, ov⟩ l sp ac br k ∧ entF L ⟨st, ov⟩ l sp ac br k ≤ 80000000 := fun k hk => hR.rng _ (endA_mono L _ (by omega))
  have hLb : ∀ k, k < (trv ⟨st, ov⟩).length → 0 ≤ levF L ⟨st, ov⟩ l sp ac br k ∧ levF L ⟨st, ov⟩ l sp ac br k ≤ 80000000 := fun k hk => hR.rng _ (lev_in hR hk).2
  have hrb : -1 ≤ runI L ⟨st, ov⟩ l sp ac br ∧ runI L ⟨st, ov⟩ l sp ac br ≤ 80001 := by
    have a := hR.rng _ (Nat.le_refl _)
    obtain ⟨b1, b2⟩ := Pl.cdiv_bracket (rideT L ⟨st, ov⟩ l sp ac br (endA L (trv ⟨st, ov⟩) ((trv ⟨st, ov⟩).length - 1))) 1000 (by omega)
    unfold runI
    omega
  generalize entL L ⟨st, ov⟩ l sp ac br (trv ⟨st, ov⟩).length = es at *
  generalize levL L ⟨st, ov⟩ l sp ac br (trv ⟨st, ov⟩).length = lv at *
  have hU := up_ok (lv.getD 0 0) (by have := hL2 0 (by omega); have := hLb 0 (by omega); omega)
  have hub := Pl.cdiv_bracket (lv.getD 0 0) 1000 (by omega)
  have hl0 := hL2 0 (by omega)
  have hl0b := hLb 0 (by omega)
  unfold vLay at hF hN ⊢
  refine X_fn mixedX Try.func38 rfl (by kernel_rfl) (Nat.le_of_ble_eq_true (by kernel_rfl)) (by kernel_rfl) rfl rfl (Nat.le_of_ble_eq_true rfl) rfl rfl ?_
  simp only [sl0, Nat.zero_add, Nat.reduceAdd]
  repeat' (first
    |with_reducible (first|refine q_and ?_ ?_|exact True.intro|exact TkEq.nil _|refine Red.o (by constructor) ?_|refine blockK_o' rfl ?_|refine LoopX_e' rfl ?_|assumption)
    |((with_reducible apply q_call);first|refine X_pure (hF) rfl ?_|refine X_pure (hU) rfl ?_)
    |((with_reducible apply q_CI);intro hbq;(try simp only [bq] at hbq);(try (exfalso;omega)))
    |refine Rex.o (by (with_reducible constructor);apply Eq.refl) ?_
    |(intro (hgq : (_ : Bool) = true);(try simp only [bq] at hgq))
    |(intro (hgq : (_ : Bool) = false);(try simp only [bq] at hgq))
    |((with_reducible apply q_VOk);exact fun _ => ⟨rfl,rfl⟩)|(intro _;exact rfl)|((with_reducible apply q_CRB);kernel_rfl)|((with_reducible apply q_bt);simp only [bq])|((with_reducible apply q_eqN);rfl)|((with_reducible apply q_FE);exact rfl)|with_reducible (first|exact isByte_wrap _|exact isByte_nat _)|(simp only [hgq,bq];done)|omega|(dsimp only;omega))
  clear hF
  have hF0 : spF L ⟨st, ov⟩ l sp ac br bf 0 = -bf := rfl
  have hT0 : spT L ⟨st, ov⟩ l sp ac br af 0 = Pl.cdiv (lv.getD 0 0) 1000 + 4 := by rw [hl0]; unfold spT; rw [if_pos (by omega)]
  refine W_loopS (fun k : Nat => SS [sI 3 bf, sI 4 af, sC 5 (pB 0), sC 6 (pB 1), sC 13 (rInt es), sC 14 (rInt lv), sI 15 (runI L ⟨st, ov⟩ l sp ac br), sI 17 ((trv ⟨st, ov⟩).length - 1 : Nat), sC 18 (tOcc (rowO (k + 1) (spF L ⟨st, ov⟩ l sp ac br bf) (spT L ⟨st, ov⟩ l sp ac br af))), sI 19 (k + 1 : Nat)] [bLay L, bRte st ov]) (fun k => k + 1 ≤ (trv ⟨st, ov⟩).length - 1) (fun k => (trv ⟨st, ov⟩).length - k) 0 ?_ (by omega) ?_
  ·
    refine X_weak rfl rfl rfl ?_ ?_ <;> repeat' (first|with_reducible (first|refine Wk.o (by constructor) ?_|refine q_and ?_ ?_|exact True.intro)|refine q_AgS rfl ?_ ?_|exact CLe.nil_tipS|exact CLe.nil_rowS|refine HLe.cells ?_ ?_|refine HLe.els ?_ ?_|refine SLe.cons ?_ ?_|exact (rfl : known _ = _)|with_reducible rfl|omega)
    all_goals first
      | omega
      | (
        rw [← hF0, ← hT0]
        rfl)
      | rw [rowO_len]
  intro k hk
  have hl2 := rowO_len (k + 1) (spF L ⟨st, ov⟩ l sp ac br bf) (spT L ⟨st, ov⟩ l sp ac br af)
  by_cases hkm : k + 1 < (trv ⟨st, ov⟩).length - 1
  · have e1 : (((k + 1 : Nat) : Int) - 1).toNat = k := by omega
    have c1 : es.getD (((k + 1 : Nat) : Int) - 1).toNat 0 = entF L ⟨st, ov⟩ l sp ac br k := by rw [e1]; exact hE2 k (by omega)
    have c2 : lv.getD ((k + 1 : Nat) : Int).toNat 0 = levF L ⟨st, ov⟩ l sp ac br (k + 1) := hL2 (k + 1) (by omega)
    have c3 := hEb k (by omega)
    have c4 := hLb (k + 1) (by omega)
    have hD := down_ok (es.getD (((k + 1 : Nat) : Int) - 1).toNat 0) (by omega)
    have hU2 := up_ok (lv.getD ((k + 1 : Nat) : Int).toNat 0) (by omega)
    have hub2 := Pl.cdiv_bracket (lv.getD ((k + 1 : Nat) : Int).toNat 0) 1000 (by omega)
    have f1 : spF L ⟨st, ov⟩ l sp ac br bf (k + 1) = es.getD (((k + 1 : Nat) : Int) - 1).toNat 0 / 1000 - 16 := by
      rw [c1]; unfold spF; rw [if_neg (by omega), if_pos (by omega)]; rfl
    have f2 : spT L ⟨st, ov⟩ l sp ac br af (k + 1) = Pl.cdiv (lv.getD ((k + 1 : Nat) : Int).toNat 0) 1000 + 4 := by
      rw [c2]; unfold spT; rw [if_pos (by omega)]
    repeat' (first
      |with_reducible (first|refine q_and ?_ ?_|exact True.intro|exact TkEq.nil _|refine Red.o (by constructor) ?_|refine blockK_o' rfl ?_|refine LoopX_e' rfl ?_|assumption)
      |((with_reducible apply q_call);first|refine X_pure (hD) rfl ?_|refine X_pure (hU2) rfl ?_)
      |((with_reducible apply q_CI);intro hbq;(try simp only [bq] at hbq);(try (exfalso;omega)))
      |refine Rex.o (by (with_reducible constructor);apply Eq.refl) ?_
      |(intro (hgq : (_ : Bool) = true);(try simp only [bq] at hgq))
      |(intro (hgq : (_ : Bool) = false);(try simp only [bq] at hgq))
      |((with_reducible apply q_VOk);exact fun _ => ⟨rfl,rfl⟩)|(intro _;exact rfl)|((with_reducible apply q_CRB);kernel_rfl)|((with_reducible apply q_bt);simp only [bq])|((with_reducible apply q_eqN);rfl)|((with_reducible apply q_FE);exact rfl)|with_reducible (first|exact isByte_wrap _|exact isByte_nat _)|(simp only [hgq,bq];done)|omega|(dsimp only;omega))
    ·
      refine LoopK_n (k + 1) ?_ ((by omega)) (by (try dsimp only); omega)
      refine X_weak rfl rfl rfl ?_ ?_ <;> repeat' (first|with_reducible (first|refine Wk.o (by constructor) ?_|refine q_and ?_ ?_|exact True.intro)|refine q_AgS rfl ?_ ?_|exact CLe.nil_tipS|exact CLe.nil_rowS|refine HLe.cells ?_ ?_|refine HLe.els ?_ ?_|refine SLe.cons ?_ ?_|exact (rfl : known _ = _)|with_reducible rfl|omega)
      · rw [rowO_snoc (k + 1), f1, f2]; simp [fOcc, fI]
      · rw [rowO_len, rowO_len]
  have hkn : k + 1 = (trv ⟨st, ov⟩).length - 1 := by omega
  have e1 : ((((trv ⟨st, ov⟩).length - 1 : Nat) : Int) - 1).toNat = k := by omega
  have e2 : (((trv ⟨st, ov⟩).length - 1 : Nat) : Int).toNat = k + 1 := by omega
  have c1 : es.getD ((((trv ⟨st, ov⟩).length - 1 : Nat) : Int) - 1).toNat 0 = entF L ⟨st, ov⟩ l sp ac br k := by rw [e1]; exact hE2 k (by omega)
  have c2 : es.getD (((trv ⟨st, ov⟩).length - 1 : Nat) : Int).toNat 0 = entF L ⟨st, ov⟩ l sp ac br (k + 1) := by rw [e2]; exact hE2 (k + 1) (by omega)
  have c3 := hEb k (by omega)
  have c4 := hEb (k + 1) (by omega)
  have hD1 := down_ok (es.getD ((((trv ⟨st, ov⟩).length - 1 : Nat) : Int) - 1).toNat 0) (by omega)
  have hD2 := down_ok (es.getD (((trv ⟨st, ov⟩).length - 1 : Nat) : Int).toNat 0) (by omega)
  repeat' (first
    |with_reducible (first|refine q_and ?_ ?_|exact True.intro|exact TkEq.nil _|refine Red.o (by constructor) ?_|refine blockK_o' rfl ?_|refine LoopX_e' rfl ?_|assumption)
    |((with_reducible apply q_call);first|refine X_pure (hD1) rfl ?_|refine X_pure (hD2) rfl ?_|refine X_call [] (hN) rfl rfl rfl rfl rfl rfl rfl rfl rfl rfl rfl rfl rfl ?_)
    |((with_reducible apply q_CI);intro hbq;(try simp only [bq] at hbq);(try (exfalso;omega)))
    |refine Rex.o (by (with_reducible constructor);apply Eq.refl) ?_
    |(intro (hgq : (_ : Bool) = true);(try simp only [bq] at hgq))
    |(intro (hgq : (_ : Bool) = false);(try simp only [bq] at hgq))
    |((with_reducible apply q_VOk);exact fun _ => ⟨rfl,rfl⟩)|(intro _;exact rfl)|((with_reducible apply q_CRB);kernel_rfl)|((with_reducible apply q_bt);simp only [bq])|((with_reducible apply q_eqN);rfl)|((with_reducible apply q_FE);exact rfl)|with_reducible (first|exact isByte_wrap _|exact isByte_nat _)|(simp only [hgq,bq];done)|omega|(dsimp only;omega))
  have g1 : spF L ⟨st, ov⟩ l sp ac br bf (k + 1) = es.getD ((((trv ⟨st, ov⟩).length - 1 : Nat) : Int) - 1).toNat 0 / 1000 - 16 := by
    rw [c1]; unfold spF; rw [if_neg (by omega), if_pos (by omega)]; rfl
  have g2 : spT L ⟨st, ov⟩ l sp ac br af (k + 1) = runI L ⟨st, ov⟩ l sp ac br + af := by
    unfold spT; rw [if_neg (by omega), if_pos (by omega)]
  have g3 : ∀ i, (trv ⟨st, ov⟩).length ≤ i → spF L ⟨st, ov⟩ l sp ac br bf i = es.getD (((trv ⟨st, ov⟩).length - 1 : Nat) : Int).toNat 0 / 1000 - 16 := fun i hi => by
    rw [c2]; unfold spF; rw [if_neg (by omega), if_neg (by omega), ← hkn]
  have g4 : ∀ i, (trv ⟨st, ov⟩).length ≤ i → spT L ⟨st, ov⟩ l sp ac br af i = runI L ⟨st, ov⟩ l sp ac br + 20 := fun i hi => by
    unfold spT; rw [if_neg (by omega), if_neg (by omega)]
  have gp1 : ∀ i, 0 < i → i < (trv ⟨st, ov⟩).length → ptT L ⟨st, ov⟩ l sp ac br af i = spT L ⟨st, ov⟩ l sp ac br af (i - 1) := fun i h0 hi => by unfold ptT; rw [if_pos hi]
  have gp2 : ∀ i, (trv ⟨st, ov⟩).length ≤ i → ptT L ⟨st, ov⟩ l sp ac br af i = spT L ⟨st, ov⟩ l sp ac br af i := fun i hi => by unfold ptT; rw [if_neg (by omega)]
  have gb : ∀ i, -1000100 ≤ spF L ⟨st, ov⟩ l sp ac br bf i ∧ spF L ⟨st, ov⟩ l sp ac br bf i ≤ 80001000 := fun i => by
    unfold spF
    split
    · omega
    · split
      · have := hEb (i - 1) (by omega); omega
      · have := hEb ((trv ⟨st, ov⟩).length - 1) (by omega); omega
  have hn4 : (trv ⟨st, ov⟩).length ≤ st.length := by
    have h1 := hR.n
    have h2 := hR.rt.ov0
    simp only at h1 h2
    omega
  have hRt := hR.rt
  have hV := valid_of hRt.lay
  have hsx : ∀ i, i < st.length → Stp.ok L (st.getD i st0) = true := fun i hi => all_at hRt.ok hi
  have hNb : L.secs.length + L.pts.length ≤ 1000 := by have := hV.n2; have := hV.n3; omega
  have hBt := fun a b ha => between_ok L hL hRt.lay a b ha
  have hst24 := hRt.len
  simp only at hst24
  have hgl := fun i => tabL_len L st (spF L ⟨st, ov⟩ l sp ac br bf) (spT L ⟨st, ov⟩ l sp ac br af) (ptT L ⟨st, ov⟩ l sp ac br af) i
  have hjn : ∀ i, 0 < i → i < st.length → ∃ k, joinL L (st.getD (i - 1) st0) (st.getD i st0) = some k ∧ -1 ≤ k.pt ∧ k.pt < L.pts.length := fun i h0 hi => join_at hRt h0 hi
  clear hE2 hL2 hEb hLb hD1 hD2 hN c1 c2 hl0 hT0 hF0 hU hub hl0b hk hn24
  generalize spF L ⟨st, ov⟩ l sp ac br bf = F at *
  generalize spT L ⟨st, ov⟩ l sp ac br af = T at *
  generalize ptT L ⟨st, ov⟩ l sp ac br af = P at *
  generalize runI L ⟨st, ov⟩ l sp ac br = run at *
  generalize hnn : (trv ⟨st, ov⟩).length = n at *
  generalize hov : es.getD ((n - 1 : Nat) : Int).toNat 0 / 1000 - 16 = ovF at *
  have hmx : max 0 n = k + 1 + 1 := by omega
  refine W_loopS (fun i : Nat => SS [sC 5 (pB 0), sC 6 (pB 1), sI 15 run, sI 17 (n - 1 : Nat), sC 18 (uOcc (rowO (max i n) F T)), sC 20 (pB 2), sC 21 (.c (.arr 4 0 (L.secs.length + L.pts.length) (L.secs.length + L.pts.length))), sC 97 (rStp st), sI 98 st.length, sI 99 i] [bLay L, bRte st ov, some (.cells [xI 0, xI ovF, xI (run + 20)]), none, bOcc (tabL L st F T P i)]) (fun i => i ≤ st.length) (fun i => st.length - i) 0 ?_ (by omega) ?_
  ·
    refine X_weak rfl rfl rfl ?_ ?_ <;> repeat' (first|with_reducible (first|refine Wk.o (by constructor) ?_|refine q_and ?_ ?_|exact True.intro)|refine q_AgS rfl ?_ ?_|exact CLe.nil_tipS|exact CLe.nil_rowS|refine HLe.cells ?_ ?_|refine HLe.els ?_ ?_|refine SLe.cons ?_ ?_|exact (rfl : known _ = _)|with_reducible rfl|omega)
    · rfl
    · rw [hmx, rowO_snoc (k + 1), g1, g2]; simp [fOcc, fI]
    · rw [hmx, rowO_len, rowO_len]
  clear g1 g2 hl2
  intro i hi
  have hl3 := rowO_len (max i n) F T
  by_cases hil : i < st.length
  · have s1 : 0 ≤ (st.getD (i : Int).toNat { sec := 0, dir := 0 }).sec ∧ (st.getD (i : Int).toNat { sec := 0, dir := 0 }).sec < L.secs.length := ⟨(ok_dir (hsx i hil)).1, (ok_dir (hsx i hil)).2.1⟩
    have hTl := hgl i
    by_cases hin : i < n
    · have m1 : max i n = n := by omega
      have m2 : max (i + 1) n = n := by omega
      have q1 : (rowO (max i n) F T).getD (i : Int).toNat { res := 0, frm := 0, til := 0 } = ⟨0, F i, T i⟩ := by rw [Int.toNat_natCast]; exact rowO_get (by omega)
      have hA1 := tadd_okI (tabL L st F T P i) (L.secs.length + L.pts.length) (st.getD (i : Int).toNat { sec := 0, dir := 0 }).sec ((rowO (max i n) F T).getD (i : Int).toNat { res := 0, frm := 0, til := 0 }).frm ((rowO (max i n) F T).getD (i : Int).toNat { res := 0, frm := 0, til := 0 }).til ⟨s1.1, by omega⟩ hTl hNb
      have e0 : tabL L st F T P (i + 1) = tabS L st F T P i (tabL L st F T P i) := rfl
      by_cases hi0 : i = 0
      · have e1 : tabL L st F T P (i + 1) = addO (tabL L st F T P i) (st.getD (i : Int).toNat { sec := 0, dir := 0 }).sec.toNat ((rowO (max i n) F T).getD (i : Int).toNat { res := 0, frm := 0, til := 0 }).frm ((rowO (max i n) F T).getD (i : Int).toNat { res := 0, frm := 0, til := 0 }).til := by
          rw [e0, q1, Int.toNat_natCast]; unfold tabS; rw [if_pos hi0]
        repeat' (first
          |with_reducible (first|refine q_and ?_ ?_|exact True.intro|exact TkEq.nil _|refine Red.o (by constructor) ?_|refine blockK_o' rfl ?_|refine LoopX_e' rfl ?_|assumption)
          |((with_reducible apply q_call);refine X_call [4] (hA1) rfl rfl rfl rfl rfl rfl rfl rfl rfl rfl rfl rfl rfl ?_)
          |((with_reducible apply q_CI);intro hbq;(try simp only [bq] at hbq);(try (exfalso;omega)))
          |with_reducible (first|refine W_seq ?_|refine W_block ?_)
          |((with_reducible apply q_cond);refine X_cond rfl ?_ ?_;all_goals (intro hbq;(try simp only [bq] at hbq);(try (exfalso;omega))))
          |refine Rex.o (by (with_reducible constructor);apply Eq.refl) ?_
          |(intro (hgq : (_ : Bool) = true);(try simp only [bq] at hgq))
          |(intro (hgq : (_ : Bool) = false);(try simp only [bq] at hgq))
          |((with_reducible apply q_VOk);exact fun _ => ⟨rfl,rfl⟩)|(intro _;exact rfl)|((with_reducible apply q_CRB);kernel_rfl)|((with_reducible apply q_bt);simp only [bq])|((with_reducible apply q_eqN);rfl)|((with_reducible apply q_FE);exact rfl)|with_reducible (first|exact isByte_wrap _|exact isByte_nat _)|(simp only [hgq,bq];done)|omega|(dsimp only;omega))
        ·
          refine LoopK_n (i + 1) ?_ ((by omega)) (by (try dsimp only); omega)
          refine X_weak rfl rfl rfl ?_ ?_ <;> repeat' (first|with_reducible (first|refine Wk.o (by constructor) ?_|refine q_and ?_ ?_|exact True.intro)|refine q_AgS rfl ?_ ?_|exact CLe.nil_tipS|exact CLe.nil_rowS|refine HLe.cells ?_ ?_|refine HLe.els ?_ ?_|refine SLe.cons ?_ ?_|exact (rfl : known _ = _)|with_reducible rfl|omega)
          · rw [e1]
          · rw [m1, m2]
      · obtain ⟨j, hj, hj1, hj2⟩ := hjn i (by omega) hil
        have eI : ((i : Int) - 1).toNat = i - 1 := by omega
        have q2 : (rowO (max i n) F T).getD ((i : Int) - 1).toNat { res := 0, frm := 0, til := 0 } = ⟨0, F (i - 1), T (i - 1)⟩ := by rw [eI]; exact rowO_get (by omega)
        have hB : OkV Try.prog 66 [vLay L, vSt (st.getD ((i : Int) - 1).toNat { sec := 0, dir := 0 }), vSt (st.getD (i : Int).toNat { sec := 0, dir := 0 })] [] (vI j.pt) [] := by
          have h0 := hBt (st.getD (i - 1) st0) (st.getD i st0) (hsx (i - 1) (by omega))
          rw [hj] at h0
          rw [eI]
          exact h0
        unfold vLay at hB
        generalize hA : addO (tabL L st F T P i) (st.getD (i : Int).toNat { sec := 0, dir := 0 }).sec.toNat ((rowO (max i n) F T).getD (i : Int).toNat { res := 0, frm := 0, til := 0 }).frm ((rowO (max i n) F T).getD (i : Int).toNat { res := 0, frm := 0, til := 0 }).til = A at hA1
        have hAl : A.length = L.secs.length + L.pts.length := by rw [← hA, addO_len, hTl]
        by_cases hjp : j.pt < 0
        · have e1 : tabL L st F T P (i + 1) = A := by
            rw [e0, ← hA, q1, Int.toNat_natCast]; unfold tabS; rw [if_neg hi0, hj]; simp only; rw [if_pos hjp]
          repeat' (first
            |with_reducible (first|refine q_and ?_ ?_|exact True.intro|exact TkEq.nil _|refine Red.o (by constructor) ?_|refine blockK_o' rfl ?_|refine LoopX_e' rfl ?_|assumption)
            |((with_reducible apply q_call);first|refine X_call [4] (hA1) rfl rfl rfl rfl rfl rfl rfl rfl rfl rfl rfl rfl rfl ?_|refine X_pure (hB) rfl ?_)
            |((with_reducible apply q_CI);intro hbq;(try simp only [bq] at hbq);(try (exfalso;omega)))
            |with_reducible (first|refine W_seq ?_|refine W_block ?_)
            |((with_reducible apply q_cond);refine X_cond rfl ?_ ?_;all_goals (intro hbq;(try simp only [bq] at hbq);(try (exfalso;omega))))
            |refine Rex.o (by (with_reducible constructor);apply Eq.refl) ?_
            |(intro (hgq : (_ : Bool) = true);(try simp only [bq] at hgq))
            |(intro (hgq : (_ : Bool) = false);(try simp only [bq] at hgq))
            |((with_reducible apply q_VOk);exact fun _ => ⟨rfl,rfl⟩)|(intro _;exact rfl)|((with_reducible apply q_CRB);kernel_rfl)|((with_reducible apply q_bt);simp only [bq])|((with_reducible apply q_eqN);rfl)|((with_reducible apply q_FE);exact rfl)|with_reducible (first|exact isByte_wrap _|exact isByte_nat _)|(simp only [hgq,bq];done)|omega|(dsimp only;omega))
          ·
            refine LoopK_n (i + 1) ?_ ((by omega)) (by (try dsimp only); omega)
            refine X_weak rfl rfl rfl ?_ ?_ <;> repeat' (first|with_reducible (first|refine Wk.o (by constructor) ?_|refine q_and ?_ ?_|exact True.intro)|refine q_AgS rfl ?_ ?_|exact CLe.nil_tipS|exact CLe.nil_rowS|refine HLe.cells ?_ ?_|refine HLe.els ?_ ?_|refine SLe.cons ?_ ?_|exact (rfl : known _ = _)|with_reducible rfl|omega)
            · rw [e1]
            · rw [m1, m2]
        · have hA2 := tadd_okI A (L.secs.length + L.pts.length) (L.secs.length + j.pt) ((rowO (max i n) F T).getD (i : Int).toNat { res := 0, frm := 0, til := 0 }).frm ((rowO (max i n) F T).getD ((i : Int) - 1).toNat { res := 0, frm := 0, til := 0 }).til ⟨by omega, by omega⟩ hAl hNb
          have e1 : tabL L st F T P (i + 1) = addO A ((L.secs.length : Int) + j.pt).toNat ((rowO (max i n) F T).getD (i : Int).toNat { res := 0, frm := 0, til := 0 }).frm ((rowO (max i n) F T).getD ((i : Int) - 1).toNat { res := 0, frm := 0, til := 0 }).til := by
            rw [e0, ← hA, q1, q2, Int.toNat_natCast]; unfold tabS; rw [if_neg hi0, hj]; simp only; rw [if_neg hjp, gp1 i (by omega) hin, show ((L.secs.length : Int) + j.pt).toNat = L.secs.length + j.pt.toNat by omega]
          repeat' (first
            |with_reducible (first|refine q_and ?_ ?_|exact True.intro|exact TkEq.nil _|refine Red.o (by constructor) ?_|refine blockK_o' rfl ?_|refine LoopX_e' rfl ?_|assumption)
            |((with_reducible apply q_call);first|refine X_call [4] (hA1) rfl rfl rfl rfl rfl rfl rfl rfl rfl rfl rfl rfl rfl ?_|refine X_call [4] (hA2) rfl rfl rfl rfl rfl rfl rfl rfl rfl rfl rfl rfl rfl ?_|refine X_pure (hB) rfl ?_)
            |((with_reducible apply q_CI);intro hbq;(try simp only [bq] at hbq);(try (exfalso;omega)))
            |with_reducible (first|refine W_seq ?_|refine W_block ?_)
            |((with_reducible apply q_cond);refine X_cond rfl ?_ ?_;all_goals (intro hbq;(try simp only [bq] at hbq);(try (exfalso;omega))))
            |refine Rex.o (by (with_reducible constructor);apply Eq.refl) ?_
            |(intro (hgq : (_ : Bool) = true);(try simp only [bq] at hgq))
            |(intro (hgq : (_ : Bool) = false);(try simp only [bq] at hgq))
            |((with_reducible apply q_VOk);exact fun _ => ⟨rfl,rfl⟩)|(intro _;exact rfl)|((with_reducible apply q_CRB);kernel_rfl)|((with_reducible apply q_bt);simp only [bq])|((with_reducible apply q_eqN);rfl)|((with_reducible apply q_FE);exact rfl)|with_reducible (first|exact isByte_wrap _|exact isByte_nat _)|(simp only [hgq,bq];done)|omega|(dsimp only;omega))
          ·
            refine LoopK_n (i + 1) ?_ ((by omega)) (by (try dsimp only); omega)
            refine X_weak rfl rfl rfl ?_ ?_ <;> repeat' (first|with_reducible (first|refine Wk.o (by constructor) ?_|refine q_and ?_ ?_|exact True.intro)|refine q_AgS rfl ?_ ?_|exact CLe.nil_tipS|exact CLe.nil_rowS|refine HLe.cells ?_ ?_|refine HLe.els ?_ ?_|refine SLe.cons ?_ ?_|exact (rfl : known _ = _)|with_reducible rfl|omega)
            · rw [e1]
            · rw [m1, m2]
    · have m1 : max i n = i := by omega
      have m2 : max (i + 1) n = i + 1 := by omega
      have q0 : rowO (max i n) F T ++ [Occ.mk 0 ovF (run + 20)] = rowO (i + 1) F T := by rw [m1, rowO_snoc, g3 i (by omega), g4 i (by omega)]
      have q1 : (rowO (max i n) F T ++ [Occ.mk 0 ovF (run + 20)]).getD (i : Int).toNat { res := 0, frm := 0, til := 0 } = ⟨0, F i, T i⟩ := by rw [q0, Int.toNat_natCast]; exact rowO_get (by omega)
      have q5 : (rowO (max i n) F T ++ [Occ.mk 0 ovF (run + 20)]).length = i + 1 := by rw [q0, rowO_len]
      have hA1 := tadd_okI (tabL L st F T P i) (L.secs.length + L.pts.length) (st.getD (i : Int).toNat { sec := 0, dir := 0 }).sec ((rowO (max i n) F T ++ [Occ.mk 0 ovF (run + 20)]).getD (i : Int).toNat { res := 0, frm := 0, til := 0 }).frm ((rowO (max i n) F T ++ [Occ.mk 0 ovF (run + 20)]).getD (i : Int).toNat { res := 0, frm := 0, til := 0 }).til ⟨s1.1, by omega⟩ hTl hNb
      have e0 : tabL L st F T P (i + 1) = tabS L st F T P i (tabL L st F T P i) := rfl
      have hi0 : ¬ i = 0 := by omega
      obtain ⟨j, hj, hj1, hj2⟩ := hjn i (by omega) hil
      have eI : ((i : Int) - 1).toNat = i - 1 := by omega
      have hB : OkV Try.prog 66 [vLay L, vSt (st.getD ((i : Int) - 1).toNat { sec := 0, dir := 0 }), vSt (st.getD (i : Int).toNat { sec := 0, dir := 0 })] [] (vI j.pt) [] := by
        have h0 := hBt (st.getD (i - 1) st0) (st.getD i st0) (hsx (i - 1) (by omega))
        rw [hj] at h0
        rw [eI]
        exact h0
      unfold vLay at hB
      generalize hA : addO (tabL L st F T P i) (st.getD (i : Int).toNat { sec := 0, dir := 0 }).sec.toNat ((rowO (max i n) F T ++ [Occ.mk 0 ovF (run + 20)]).getD (i : Int).toNat { res := 0, frm := 0, til := 0 }).frm ((rowO (max i n) F T ++ [Occ.mk 0 ovF (run + 20)]).getD (i : Int).toNat { res := 0, frm := 0, til := 0 }).til = A at hA1
      have hAl : A.length = L.secs.length + L.pts.length := by rw [← hA, addO_len, hTl]
      by_cases hjp : j.pt < 0
      · have e1 : tabL L st F T P (i + 1) = A := by
          rw [e0, ← hA, q1, Int.toNat_natCast]; unfold tabS; rw [if_neg hi0, hj]; simp only; rw [if_pos hjp]
        repeat' (first
          |with_reducible (first|refine q_and ?_ ?_|exact True.intro|exact TkEq.nil _|refine Red.o (by constructor) ?_|refine blockK_o' rfl ?_|refine LoopX_e' rfl ?_|assumption)
          |((with_reducible apply q_call);first|refine X_call [4] (hA1) rfl rfl rfl rfl rfl rfl rfl rfl rfl rfl rfl rfl rfl ?_|refine X_pure (hB) rfl ?_)
          |((with_reducible apply q_CI);intro hbq;(try simp only [bq] at hbq);(try (exfalso;omega)))
          |with_reducible (first|refine W_seq ?_|refine W_block ?_)
          |((with_reducible apply q_cond);refine X_cond rfl ?_ ?_;all_goals (intro hbq;(try simp only [bq] at hbq);(try (exfalso;omega))))
          |refine Rex.o (by (with_reducible constructor);apply Eq.refl) ?_
          |(intro (hgq : (_ : Bool) = true);(try simp only [bq] at hgq))
          |(intro (hgq : (_ : Bool) = false);(try simp only [bq] at hgq))
          |((with_reducible apply q_VOk);exact fun _ => ⟨rfl,rfl⟩)|(intro _;exact rfl)|((with_reducible apply q_CRB);kernel_rfl)|((with_reducible apply q_bt);simp only [bq])|((with_reducible apply q_eqN);rfl)|((with_reducible apply q_FE);exact rfl)|with_reducible (first|exact isByte_wrap _|exact isByte_nat _)|(simp only [hgq,bq];done)|omega|(dsimp only;omega))
        ·
          refine LoopK_n (i + 1) ?_ ((by omega)) (by (try dsimp only); omega)
          refine X_weak rfl rfl rfl ?_ ?_ <;> repeat' (first|with_reducible (first|refine Wk.o (by constructor) ?_|refine q_and ?_ ?_|exact True.intro)|refine q_AgS rfl ?_ ?_|exact CLe.nil_tipS|exact CLe.nil_rowS|refine HLe.cells ?_ ?_|refine HLe.els ?_ ?_|refine SLe.cons ?_ ?_|exact (rfl : known _ = _)|with_reducible rfl|omega)
          · rw [e1]
          · rw [q0, m2]
      · have hA2 := tadd_okI A (L.secs.length + L.pts.length) (L.secs.length + j.pt) ovF (run + 20) ⟨by omega, by omega⟩ hAl hNb
        have e1 : tabL L st F T P (i + 1) = addO A ((L.secs.length : Int) + j.pt).toNat ovF (run + 20) := by
          rw [e0, ← hA, q1, Int.toNat_natCast]; unfold tabS; rw [if_neg hi0, hj]; simp only; rw [if_neg hjp, gp2 i (by omega), g3 i (by omega), g4 i (by omega), show ((L.secs.length : Int) + j.pt).toNat = L.secs.length + j.pt.toNat by omega]
        repeat' (first
          |with_reducible (first|refine q_and ?_ ?_|exact True.intro|exact TkEq.nil _|refine Red.o (by constructor) ?_|refine blockK_o' rfl ?_|refine LoopX_e' rfl ?_|assumption)
          |((with_reducible apply q_call);first|refine X_call [4] (hA1) rfl rfl rfl rfl rfl rfl rfl rfl rfl rfl rfl rfl rfl ?_|refine X_call [4] (hA2) rfl rfl rfl rfl rfl rfl rfl rfl rfl rfl rfl rfl rfl ?_|refine X_pure (hB) rfl ?_)
          |((with_reducible apply q_CI);intro hbq;(try simp only [bq] at hbq);(try (exfalso;omega)))
          |with_reducible (first|refine W_seq ?_|refine W_block ?_)
          |((with_reducible apply q_cond);refine X_cond rfl ?_ ?_;all_goals (intro hbq;(try simp only [bq] at hbq);(try (exfalso;omega))))
          |refine Rex.o (by (with_reducible constructor);apply Eq.refl) ?_
          |(intro (hgq : (_ : Bool) = true);(try simp only [bq] at hgq))
          |(intro (hgq : (_ : Bool) = false);(try simp only [bq] at hgq))
          |((with_reducible apply q_VOk);exact fun _ => ⟨rfl,rfl⟩)|(intro _;exact rfl)|((with_reducible apply q_CRB);kernel_rfl)|((with_reducible apply q_bt);simp only [bq])|((with_reducible apply q_eqN);rfl)|((with_reducible apply q_FE);exact rfl)|with_reducible (first|exact isByte_wrap _|exact isByte_nat _)|(simp only [hgq,bq];done)|omega|(dsimp only;omega))
        ·
          refine LoopK_n (i + 1) ?_ ((by omega)) (by (try dsimp only); omega)
          refine X_weak rfl rfl rfl ?_ ?_ <;> repeat' (first|with_reducible (first|refine Wk.o (by constructor) ?_|refine q_and ?_ ?_|exact True.intro)|refine q_AgS rfl ?_ ?_|exact CLe.nil_tipS|exact CLe.nil_rowS|refine HLe.cells ?_ ?_|refine HLe.els ?_ ?_|refine SLe.cons ?_ ?_|exact (rfl : known _ = _)|with_reducible rfl|omega)
          · rw [e1]
          · rw [q0, m2]
  · have hie : i = st.length := by omega
    subst hie
    have hLs := tlist_okB (tabL L st F T P st.length) (L.secs.length + L.pts.length) (hgl _) hNb
    repeat' (first
      |with_reducible (first|refine q_and ?_ ?_|exact True.intro|exact TkEq.nil _|refine Red.o (by constructor) ?_|refine blockK_o' rfl ?_|refine LoopX_e' rfl ?_|assumption)
      |((with_reducible apply q_call);refine X_call [4] (hLs) rfl rfl rfl rfl rfl rfl rfl rfl rfl rfl rfl rfl rfl ?_)
      |((with_reducible apply q_CI);intro hbq;(try simp only [bq] at hbq);(try (exfalso;omega)))
      |with_reducible (first|refine W_seq ?_|refine W_block ?_)
      |((with_reducible apply q_cond);refine X_cond rfl ?_ ?_;all_goals (intro hbq;(try simp only [bq] at hbq);(try (exfalso;omega))))
      |refine Rex.o (by (with_reducible constructor);apply Eq.refl) ?_
      |(intro (hgq : (_ : Bool) = true);(try simp only [bq] at hgq))
      |(intro (hgq : (_ : Bool) = false);(try simp only [bq] at hgq))
      |((with_reducible apply q_VOk);exact fun _ => ⟨rfl,rfl⟩)|(intro _;exact rfl)|((with_reducible apply q_CRB);kernel_rfl)|((with_reducible apply q_bt);simp only [bq])|((with_reducible apply q_eqN);rfl)|((with_reducible apply q_FE);exact rfl)|with_reducible (first|exact isByte_wrap _|exact isByte_nat _)|(simp only [hgq,bq];done)|omega|(dsimp only;omega))
    · rfl
end Go.Proofs.Ytbpeakgihhdocaa.Av
namespace Go.Proofs.Ytbpeakgihhdocaa.Av
set_option linter.unusedVariables false
set_option linter.unusedSimpArgs false
set_option maxRecDepth 4000
set_option maxHeartbeats 4000000
def occL (L : Lay) (st : List Stp) (ov l sp ac br bf af : Int) : List Occ := (tabL L st (spF L ⟨st, ov⟩ l sp ac br bf) (spT L ⟨st, ov⟩ l sp ac br af) (ptT L ⟨st, ov⟩ l sp ac br af) st.length).filter usedO
theorem stairs_ok (L : Lay) (hL : LayFits L) (st : List Stp) (ov : Int) (hl : st.length ≤ 9223372036854775807) (ho : -9223372036854775808 ≤ ov ∧ ov ≤ 9223372036854775807) (nm : ByteArray) (l sp ac br : Int) (h : fitErr L ⟨st, ov⟩ l sp ac br = 0) : OkV Try.prog 19 [vLay L, vR2 st ov, vS5 nm l sp ac br] [] (.tup [.c (rOcc (occL L st ov l sp ac br 0 0)), .c (xI (runI L ⟨st, ov⟩ l sp ac br)), .c (xI 0)]) [] := by
  have hF := occupations_ok L hL st ov hl ho nm l sp ac br 0 0 h (by omega) (by omega)
  unfold occL
  generalize (tabL L st (spF L ⟨st, ov⟩ l sp ac br 0) (spT L ⟨st, ov⟩ l sp ac br 0) (ptT L ⟨st, ov⟩ l sp ac br 0) st.length).filter usedO = t at *
  unfold vLay at hF ⊢
  refine X_fn mixedX Try.func19 rfl (by kernel_rfl) (Nat.le_of_ble_eq_true (by kernel_rfl)) (by kernel_rfl) rfl rfl (Nat.le_of_ble_eq_true rfl) rfl rfl ?_
  simp only [sl0, Nat.zero_add, Nat.reduceAdd]
  repeat' (first
    |with_reducible (first|refine q_and ?_ ?_|exact True.intro|exact TkEq.nil _|refine Red.o (by constructor) ?_|refine blockK_o' rfl ?_|refine LoopX_e' rfl ?_|assumption)
    |((with_reducible apply q_call);refine X_pure (hF) rfl ?_)
    |((with_reducible apply q_CI);intro hbq;(try simp only [bq] at hbq);(try (exfalso;omega)))
    |refine Rex.o (by (with_reducible constructor);apply Eq.refl) ?_
    |(intro (hgq : (_ : Bool) = true);(try simp only [bq] at hgq))
    |(intro (hgq : (_ : Bool) = false);(try simp only [bq] at hgq))
    |((with_reducible apply q_VOk);exact fun _ => ⟨rfl,rfl⟩)|(intro _;exact rfl)|((with_reducible apply q_CRB);kernel_rfl)|((with_reducible apply q_bt);simp only [bq])|((with_reducible apply q_eqN);rfl)|((with_reducible apply q_FE);exact rfl)|with_reducible (first|exact isByte_wrap _|exact isByte_nat _)|(simp only [hgq,bq];done)|omega|(dsimp only;omega))
  all_goals repeat' (first|with_reducible (first|refine Wk.o (by constructor) ?_|refine q_and ?_ ?_|exact True.intro)|refine VEq.c ?_|refine VEq.agg ?_|refine VEq.tup ?_|refine TkEq.cells ?_ ?_|refine TkEq.els ?_ ?_|refine SEqL.cons ?_ ?_|refine TEqL.agg ?_ ?_|refine CEq.rows ?_|refine CEq.int ?_|rfl|omega)
def heldErr (L : Lay) (r : Rte) (l sp ac br bf af : Int) : Int := if fitErr L r l sp ac br ≠ 0 then fitErr L r l sp ac br else if bf < 0 ∨ 65536 < bf ∨ af < 0 ∨ 65536 < af then 4 else 0
theorem held_bad (L : Lay) (hL : LayFits L) (st : List Stp) (ov : Int) (hl : st.length ≤ 9223372036854775807) (ho : -9223372036854775808 ≤ ov ∧ ov ≤ 9223372036854775807) (nm : ByteArray) (l sp ac br bf af : Int) (h : ¬ heldErr L ⟨st, ov⟩ l sp ac br bf af = 0) : OkV Try.prog 26 [vLay L, vR2 st ov, vS5 nm l sp ac br, .c (xI bf), .c (xI af)] [] (.tup [.c (rOcc []), .c (xI 0), .c (xI (heldErr L ⟨st, ov⟩ l sp ac br bf af))]) [] := by
  have hF := fits_ok L hL st ov hl ho nm l sp ac br
  unfold heldErr at h ⊢
  generalize fitErr L ⟨st, ov⟩ l sp ac br = e at *
  unfold vLay at hF ⊢
  by_cases he : e = 0
  · rw [if_neg (by simpa using he)] at h ⊢
    have hc : bf < 0 ∨ 65536 < bf ∨ af < 0 ∨ 65536 < af := Classical.byContradiction fun hn => h (if_neg hn)
    rw [if_pos hc]
    subst he
    refine X_fn mixedX Try.func26 rfl (by kernel_rfl) (Nat.le_of_ble_eq_true (by kernel_rfl)) (by kernel_rfl) rfl rfl (Nat.le_of_ble_eq_true rfl) rfl rfl ?_
    simp only [sl0, Nat.zero_add, Nat.reduceAdd]
    repeat' (first
      |with_reducible (first|refine q_and ?_ ?_|exact True.intro|exact TkEq.nil _|refine Red.o (by constructor) ?_|refine blockK_o' rfl ?_|refine LoopX_e' rfl ?_|assumption)
      |((with_reducible apply q_call);refine X_pure (hF) rfl ?_)
      |((with_reducible apply q_CI);intro hbq;(try simp only [bq] at hbq);(try (exfalso;omega)))
      |refine Rex.o (by (with_reducible constructor);apply Eq.refl) ?_
      |(intro (hgq : (_ : Bool) = true);(try simp only [bq] at hgq))
      |(intro (hgq : (_ : Bool) = false);(try simp only [bq] at hgq))
      |((with_reducible apply q_VOk);exact fun _ => ⟨rfl,rfl⟩)|(intro _;exact rfl)|((with_reducible apply q_CRB);kernel_rfl)|((with_reducible apply q_bt);simp only [bq])|((with_reducible apply q_eqN);rfl)|((with_reducible apply q_FE);exact rfl)|with_reducible (first|exact isByte_wrap _|exact isByte_nat _)|(simp only [hgq,bq];done)|omega|(dsimp only;omega))
    · rfl
  · rw [if_pos he]
    refine X_fn mixedX Try.func26 rfl (by kernel_rfl) (Nat.le_of_ble_eq_true (by kernel_rfl)) (by kernel_rfl) rfl rfl (Nat.le_of_ble_eq_true rfl) rfl rfl ?_
    simp only [sl0, Nat.zero_add, Nat.reduceAdd]
    repeat' (first
      |with_reducible (first|refine q_and ?_ ?_|exact True.intro|exact TkEq.nil _|refine Red.o (by constructor) ?_|refine blockK_o' rfl ?_|refine LoopX_e' rfl ?_|assumption)
      |((with_reducible apply q_call);refine X_pure (hF) rfl ?_)
      |((with_reducible apply q_CI);intro hbq;(try simp only [bq] at hbq);(try (exfalso;omega)))
      |refine Rex.o (by (with_reducible constructor);apply Eq.refl) ?_
      |(intro (hgq : (_ : Bool) = true);(try simp only [bq] at hgq))
      |(intro (hgq : (_ : Bool) = false);(try simp only [bq] at hgq))
      |((with_reducible apply q_VOk);exact fun _ => ⟨rfl,rfl⟩)|(intro _;exact rfl)|((with_reducible apply q_CRB);kernel_rfl)|((with_reducible apply q_bt);simp only [bq])|((with_reducible apply q_eqN);rfl)|((with_reducible apply q_FE);exact rfl)|with_reducible (first|exact isByte_wrap _|exact isByte_nat _)|(simp only [hgq,bq];done)|omega|(dsimp only;omega))
    · rfl
theorem held_ok (L : Lay) (hL : LayFits L) (st : List Stp) (ov : Int) (hl : st.length ≤ 9223372036854775807) (ho : -9223372036854775808 ≤ ov ∧ ov ≤ 9223372036854775807) (nm : ByteArray) (l sp ac br bf af : Int) (h : fitErr L ⟨st, ov⟩ l sp ac br = 0) (hb : 0 ≤ bf ∧ bf ≤ 65536) (ha : 0 ≤ af ∧ af ≤ 65536) : OkV Try.prog 26 [vLay L, vR2 st ov, vS5 nm l sp ac br, .c (xI bf), .c (xI af)] [] (.tup [.c (rOcc (occL L st ov l sp ac br bf af)), .c (xI (runI L ⟨st, ov⟩ l sp ac br)), .c (xI 0)]) [] := by
  have hF := fits_ok L hL st ov hl ho nm l sp ac br
  rw [h] at hF
  have hO := occupations_ok L hL st ov hl ho nm l sp ac br bf af h (by omega) (by omega)
  unfold occL
  generalize (tabL L st (spF L ⟨st, ov⟩ l sp ac br bf) (spT L ⟨st, ov⟩ l sp ac br af) (ptT L ⟨st, ov⟩ l sp ac br af) st.length).filter usedO = t at *
  unfold vLay at hF hO ⊢
  refine X_fn mixedX Try.func26 rfl (by kernel_rfl) (Nat.le_of_ble_eq_true (by kernel_rfl)) (by kernel_rfl) rfl rfl (Nat.le_of_ble_eq_true rfl) rfl rfl ?_
  simp only [sl0, Nat.zero_add, Nat.reduceAdd]
  repeat' (first
    |with_reducible (first|refine q_and ?_ ?_|exact True.intro|exact TkEq.nil _|refine Red.o (by constructor) ?_|refine blockK_o' rfl ?_|refine LoopX_e' rfl ?_|assumption)
    |((with_reducible apply q_call);first|refine X_pure (hF) rfl ?_|refine X_pure (hO) rfl ?_)
    |((with_reducible apply q_CI);intro hbq;(try simp only [bq] at hbq);(try (exfalso;omega)))
    |refine Rex.o (by (with_reducible constructor);apply Eq.refl) ?_
    |(intro (hgq : (_ : Bool) = true);(try simp only [bq] at hgq))
    |(intro (hgq : (_ : Bool) = false);(try simp only [bq] at hgq))
    |((with_reducible apply q_VOk);exact fun _ => ⟨rfl,rfl⟩)|(intro _;exact rfl)|((with_reducible apply q_CRB);kernel_rfl)|((with_reducible apply q_bt);simp only [bq])|((with_reducible apply q_eqN);rfl)|((with_reducible apply q_FE);exact rfl)|with_reducible (first|exact isByte_wrap _|exact isByte_nat _)|(simp only [hgq,bq];done)|omega|(dsimp only;omega))
  all_goals repeat' (first|with_reducible (first|refine Wk.o (by constructor) ?_|refine q_and ?_ ?_|exact True.intro)|refine VEq.c ?_|refine VEq.agg ?_|refine VEq.tup ?_|refine TkEq.cells ?_ ?_|refine TkEq.els ?_ ?_|refine SEqL.cons ?_ ?_|refine TEqL.agg ?_ ?_|refine CEq.rows ?_|refine CEq.int ?_|rfl|omega)
end Go.Proofs.Ytbpeakgihhdocaa.Av
namespace Go.Proofs.Ytbpeakgihhdocaa.Av
set_option linter.unusedVariables false
set_option linter.unusedSimpArgs false
def gW (s0 s1 a b : Int) (w : Occ) : Occ := ⟨w.res, if w.res = s0 then a else w.frm, if w.res = s1 then b else w.til⟩
section
variable {L : Lay} {st : List Stp} {ov l sp ac br : Int} (h : Ride L ⟨st, ov⟩ l sp ac br)
include h
theorem ride_n : (trv ⟨st, ov⟩).length ≤ st.length := by
  have h1 := h.n
  have h2 := h.rt.ov0
  simp only at h1 h2
  omega
theorem held_map {bf af : Int} (hb : 0 ≤ bf) (ha : 0 ≤ af) : occL L st ov l sp ac br bf af = (occL L st ov l sp ac br 0 0).map (gW (st.getD 0 st0).sec (st.getD ((trv ⟨st, ov⟩).length - 1) st0).sec (-bf) (runI L ⟨st, ov⟩ l sp ac br + af)) := by
  have hn := ride_n h
  have hn2 := h.n2
  unfold occL
  refine filter_map_of (by rw [tabL_len, tabL_len]) fun x hx => ?_
  rw [tabL_len] at hx
  have e0 := all_at h.rt.ok (i := 0) (by simp only; omega)
  have e1 := all_at h.rt.ok (i := (trv ⟨st, ov⟩).length - 1) (by simp only; omega)
  obtain ⟨p0, q0, _⟩ := ok_dir e0
  obtain ⟨p1, q1, _⟩ := ok_dir e1
  simp only at p0 q0 p1 q1
  by_cases hs : x < L.secs.length
  · by_cases hi : ∃ i, i < st.length ∧ (st.getD i st0).sec.toNat = x
    · obtain ⟨i, hi, rfl⟩ := hi
      obtain ⟨p2, q2, _⟩ := ok_dir (all_at h.rt.ok (i := i) hi)
      simp only at p2 q2
      rw [tab_some h.rt _ _ _ st.length (Nat.le_refl _) i hi, tab_some h.rt _ _ _ st.length (Nat.le_refl _) i hi]
      have u1 := spF_lt h (bf := bf) (af := af) hb ha i
      have u2 := spF_lt h (bf := 0) (af := 0) (by omega) (by omega) i
      refine ⟨?_, fun _ => ?_⟩
      · unfold usedO
        simp only [u1, u2]
      · unfold gW
        have c0 : (((st.getD i st0).sec.toNat : Nat) : Int) = (st.getD 0 st0).sec ↔ i = 0 := by
          constructor
          · intro e
            rcases Nat.eq_zero_or_pos i with z | z
            · exact z
            · exact absurd (by simp only; omega) (step_ne h.rt z hi)
          · intro e; subst e; omega
        have c1 : (((st.getD i st0).sec.toNat : Nat) : Int) = (st.getD ((trv ⟨st, ov⟩).length - 1) st0).sec ↔ i = (trv ⟨st, ov⟩).length - 1 := by
          constructor
          · intro e
            rcases Nat.lt_trichotomy i ((trv ⟨st, ov⟩).length - 1) with z | z | z
            · exact absurd (by simp only; omega) (step_ne h.rt z (by simp only; omega))
            · exact z
            · exact absurd (by simp only; omega) (step_ne h.rt z hi)
          · intro e; rw [← e]; omega
        simp only [c0, c1]
        congr 1
        · unfold spF
          by_cases z : i = 0
          · rw [if_pos z, if_pos z]
          · rw [if_neg z, if_neg z, if_neg z]
        · unfold spT
          by_cases z : i = (trv ⟨st, ov⟩).length - 1
          · rw [if_pos z, if_neg (by omega), if_pos (by omega)]
          · rw [if_neg z]
            by_cases z2 : i + 1 < (trv ⟨st, ov⟩).length
            · rw [if_pos z2, if_pos z2]
            · rw [if_neg z2, if_neg z2, if_neg (by omega), if_neg (by omega)]
    · have hno : ∀ i, i < st.length → (st.getD i st0).sec.toNat ≠ x := fun i h1 h2 => hi ⟨i, h1, h2⟩
      rw [tab_none _ _ _ hs st.length (Nat.le_refl _) hno, tab_none _ _ _ hs st.length (Nat.le_refl _) hno]
      exact ⟨rfl, fun hu => absurd hu (by decide)⟩
  · rw [tab_pt h.rt (spF L ⟨st, ov⟩ l sp ac br bf) (spT L ⟨st, ov⟩ l sp ac br af) (ptT L ⟨st, ov⟩ l sp ac br af) (F' := spF L ⟨st, ov⟩ l sp ac br 0) (P' := ptT L ⟨st, ov⟩ l sp ac br 0) (T' := spT L ⟨st, ov⟩ l sp ac br 0) (fun i h0 hi => ?_) (y := x) (by omega) st.length (Nat.le_refl _)]
    · refine ⟨rfl, fun hu => ?_⟩
      have hr := tab_res (L := L) (st := st) (spF L ⟨st, ov⟩ l sp ac br 0) (spT L ⟨st, ov⟩ l sp ac br 0) (ptT L ⟨st, ov⟩ l sp ac br 0) st.length x hu
      unfold gW
      rw [if_neg (by omega), if_neg (by omega)]
    · constructor
      · unfold spF
        rw [if_neg (show ¬ i = 0 by omega), if_neg (show ¬ i = 0 by omega)]
      · unfold ptT
        split
        · unfold spT
          rw [if_pos (by omega), if_pos (by omega)]
        · unfold spT
          rw [if_neg (by omega), if_neg (by omega), if_neg (by omega), if_neg (by omega)]
end
section
variable {L : Lay} {st : List Stp} {ov l sp ac br bf af : Int}
end
end Go.Proofs.Ytbpeakgihhdocaa.Av
namespace Go.Proofs.Ytbpeakgihhdocaa.Av
open Go.RowKit
set_option linter.unusedVariables false
set_option linter.unusedSimpArgs false
abbrev IsRowI (w : World) (a : Option Addr) (len cap : Nat) (zs : List Int) : Prop :=
  (a = none ∧ len = 0 ∧ cap = 0 ∧ zs = []) ∨ ∃ x, a = some x ∧ len ≤ cap ∧ cap ≤ maxLen ∧ zs.length = cap ∧ (∀ i, i < zs.length → w.cell? (x.add i) = some (.int .i64 (zs.getD i 0))) ∧ ∀ n ∈ zs, (Lit.int .i64 n).wf = true
theorem flat_int (l : List Int) : l.flatMap fInt = l.map fI := by
  induction l with
  | nil => rfl
  | cons x r ih => rw [List.flatMap_cons, ih]; rfl
theorem rowI_rep {w : World} {a : Option Addr} {len cap : Nat} {zs : List Int} (h : IsRowI w a len cap zs) (hs : ∀ x, a = some x → x.spot = none) : (∀ l, RepA w (fun _ => .lock none) id l (SV.den (.c (rInt (zs.take len)))) (.slice a len cap)) ∧ (zs.take len).length ≤ 9223372036854775807 := by
  rcases h with ⟨rfl, rfl, rfl, rfl⟩ | ⟨x, rfl, hl, hm, hz, hc, _⟩
  · exact ⟨fun l => .nil0, by simp⟩
  · unfold maxLen at hm
    have hlen : (zs.take len).length = len := by rw [List.length_take]; omega
    refine ⟨fun l => ?_, by omega⟩
    obtain ⟨g, o, sp⟩ := x
    have hsp : sp = none := hs _ rfl
    subst hsp
    show RepF w _ (.row ((zs.take len).flatMap fInt) (zs.take len).length) _
    rw [hlen, flat_int]
    have hcell : ∀ i (h : i < (zs.take len).length), w.cell? ⟨g, o + i, none⟩ = some (.int .i64 (zs.take len)[i]) := fun i h => by
      have h1 := hc i (by omega)
      have e : (⟨g, o, none⟩ : Addr).add i = ⟨g, o + i, none⟩ := by
        unfold Addr.add
        split
        · rename_i h0; subst h0; rfl
        · rfl
      rw [e] at h1
      rw [h1, List.getElem_take, List.getD_eq_getElem?_getD, List.getElem?_eq_getElem (by omega)]
      rfl
    refine repF_rowI ⟨g, o, cap, rfl, hl, ⟨fun i hi => ?_, fun hne => ?_⟩⟩
    · rw [List.length_map] at hi
      exact ⟨_, hcell i hi, by rw [List.getElem_map]; exact RepF.v _ rfl⟩
    · refine ⟨?_, trivial⟩
      have h0 : 0 < (zs.take len).length := List.length_pos_iff.2 (fun e => hne (by rw [e]; rfl))
      exact World.block_lt_of_cell? w _ (hcell 0 h0)
end Go.Proofs.Ytbpeakgihhdocaa.Av
namespace Go.Proofs.Ytbpeakgihhdocaa.Av
set_option linter.unusedVariables false
set_option linter.unusedSimpArgs false
set_option maxRecDepth 4000
set_option maxHeartbeats 4000000
theorem heldWidens_ok (l c m : List Int) (x y : Int) (hl : l.length ≤ 9223372036854775807) (hc : c.length ≤ 9223372036854775807) (hm : m.length ≤ 9223372036854775807) : OkV Try.prog 9 [.c (rInt l), .c (rInt c), .c (rInt m), .c (xI x), .c (xI y)] [] (vB true) [] := by
  have hA := awake_ok
  have hF := fitting_ok l c m hl hc hm
  have hD := drawn_ok l c m hc
  generalize Drawn.of l c m = d at *
  obtain ⟨L, st, ov, ln, sp, ac, br⟩ := d
  obtain ⟨d1, d2, d3, d4⟩ := hD
  simp only at d1 d2 d3 d4
  unfold Drawn.vs Drawn.err at hF
  simp only at hF
  by_cases h : fitErr L ⟨st, ov⟩ ln sp ac br = 0
  · rw [h] at hF
    have hR := ride_of h
    have hn := hR.n
    have hn2 := hR.n2
    simp only at hn
    have hP1 := pick_ok x 500 (by omega) (by omega)
    have ha := pick_lt x (n := 500) (by omega)
    have hP2 := pick_ok y 500 (by omega) (by omega)
    have hb := pick_lt y (n := 500) (by omega)
    generalize pick x 500 = a at *
    generalize pick y 500 = b at *
    have hS := stairs_ok L d2 st ov (by omega) (by omega) ⟨#[88]⟩ ln sp ac br h
    have hH := held_ok L d2 st ov (by omega) (by omega) ⟨#[88]⟩ ln sp ac br a b h (by omega) (by omega)
    rw [held_map hR (bf := a) (af := b) (by omega) (by omega)] at hH
    have e0 : (st.getD ((trv ⟨st, ov⟩).length - 1) st0).sec = (st.getD ((st.length : Int) - ov - 1).toNat { sec := 0, dir := 0 }).sec := by
      rw [show ((st.length : Int) - ov - 1).toNat = (trv ⟨st, ov⟩).length - 1 by omega]
    have e1 : (st.getD 0 st0).sec = (st.getD (0 : Int).toNat { sec := 0, dir := 0 }).sec := rfl
    rw [e0, e1] at hH
    have hrb : -1 ≤ runI L ⟨st, ov⟩ ln sp ac br ∧ runI L ⟨st, ov⟩ ln sp ac br ≤ 80001 := by
      have a := hR.rng _ (Nat.le_refl _)
      obtain ⟨b1, b2⟩ := Pl.cdiv_bracket (rideT L ⟨st, ov⟩ ln sp ac br (endA L (trv ⟨st, ov⟩) ((trv ⟨st, ov⟩).length - 1))) 1000 (by omega)
      unfold runI
      omega
    generalize runI L ⟨st, ov⟩ ln sp ac br = run at *
    generalize hoo : occL L st ov ln sp ac br 0 0 = o at *
    have hol : o.length ≤ 200 := by
      have hV := valid_of d1
      have := hV.n2; have := hV.n3
      rw [← hoo]
      unfold occL
      refine Nat.le_trans (List.length_filter_le _ _) ?_
      rw [tabL_len]; omega
    generalize hs0 : (st.getD (0 : Int).toNat { sec := 0, dir := 0 }).sec = s0 at *
    generalize hs1 : (st.getD ((st.length : Int) - ov - 1).toNat { sec := 0, dir := 0 }).sec = s1 at *
    have hgl : (o.map (gW s0 s1 (-(a : Int)) (run + b))).length = o.length := by rw [List.length_map]
    have hgg : ∀ i, i < o.length → (o.map (gW s0 s1 (-(a : Int)) (run + b))).getD i { res := 0, frm := 0, til := 0 } = gW s0 s1 (-(a : Int)) (run + b) (o.getD i { res := 0, frm := 0, til := 0 }) := fun i hi => by
      simp [List.getD_eq_getElem?_getD, List.getElem?_map, List.getElem?_eq_getElem hi]
    generalize o.map (gW s0 s1 (-(a : Int)) (run + b)) = o2 at *
    clear h hR e0 e1
    unfold vLay at hS hH
    refine X_fnP mixedX Try.func9 rfl (by kernel_rfl) (Nat.le_of_ble_eq_true (by kernel_rfl)) (by kernel_rfl) rfl rfl ?_
    simp only [sl0, Nat.zero_add, Nat.reduceAdd]
    repeat' (first
      |with_reducible (first|refine q_and ?_ ?_|exact True.intro|exact TkEq.nil _|refine Red.o (by constructor) ?_|refine blockK_o' rfl ?_|refine LoopX_e' rfl ?_|assumption)
      |((with_reducible apply q_call);first|refine X_pure (hF) rfl ?_|refine X_pure (hP1) rfl ?_|refine X_pure (hP2) rfl ?_|refine X_pure (hS) rfl ?_|refine X_pure (hH) rfl ?_|refine X_pure (hA) rfl ?_)
      |((with_reducible apply q_CI);intro hbq;(try simp only [bq] at hbq);(try (exfalso;omega)))
      |with_reducible (first|refine W_seq ?_|refine W_block ?_)
      |((with_reducible apply q_cond);refine X_cond rfl ?_ ?_;all_goals (intro hbq;(try simp only [bq] at hbq);(try (exfalso;omega))))
      |refine Rex.o (by (with_reducible constructor);apply Eq.refl) ?_
      |(intro (hgq : (_ : Bool) = true);(try simp only [bq] at hgq))
      |(intro (hgq : (_ : Bool) = false);(try simp only [bq] at hgq))
      |((with_reducible apply q_VOk);exact fun _ => ⟨rfl,rfl⟩)|(intro _;exact rfl)|((with_reducible apply q_CRB);kernel_rfl)|((with_reducible apply q_bt);simp only [bq])|((with_reducible apply q_eqN);rfl)|((with_reducible apply q_FE);exact rfl)|with_reducible (first|exact isByte_wrap _|exact isByte_nat _)|(simp only [hgq,bq];done)|omega|(dsimp only;omega))
    refine W_loopS (fun i : Nat => SS [sI 3 a, sI 4 b, sC 12 (pB 1), sC 15 (rOcc o), sI 16 run, sC 18 (rOcc o2), sI 76 o.length, sI 77 i] [none, bRte st ov]) (fun i => i ≤ o.length) (fun i => o.length - i) 0 ?_ (by omega) ?_
    ·
      refine X_weak rfl rfl rfl ?_ ?_ <;> repeat' (first|with_reducible (first|refine Wk.o (by constructor) ?_|refine q_and ?_ ?_|exact True.intro)|refine q_AgS rfl ?_ ?_|exact CLe.nil_tipS|exact CLe.nil_rowS|refine HLe.cells ?_ ?_|refine HLe.els ?_ ?_|refine SLe.cons ?_ ?_|exact (rfl : known _ = _)|with_reducible rfl|omega)
    intro i hi
    by_cases hil : i < o.length
    · have hg := hgg i hil
      have q1 : (o2.getD (i : Int).toNat { res := 0, frm := 0, til := 0 }).res = (o.getD (i : Int).toNat { res := 0, frm := 0, til := 0 }).res := by rw [Int.toNat_natCast, hg]; rfl
      have q2 : ((o.getD (i : Int).toNat { res := 0, frm := 0, til := 0 }).res = s0 → (o2.getD (i : Int).toNat { res := 0, frm := 0, til := 0 }).frm = -(a : Int)) ∧ (¬ (o.getD (i : Int).toNat { res := 0, frm := 0, til := 0 }).res = s0 → (o2.getD (i : Int).toNat { res := 0, frm := 0, til := 0 }).frm = (o.getD (i : Int).toNat { res := 0, frm := 0, til := 0 }).frm) := by
        rw [Int.toNat_natCast, hg]; unfold gW; exact ⟨fun h => if_pos h, fun h => if_neg h⟩
      have q3 : ((o.getD (i : Int).toNat { res := 0, frm := 0, til := 0 }).res = s1 → (o2.getD (i : Int).toNat { res := 0, frm := 0, til := 0 }).til = run + b) ∧ (¬ (o.getD (i : Int).toNat { res := 0, frm := 0, til := 0 }).res = s1 → (o2.getD (i : Int).toNat { res := 0, frm := 0, til := 0 }).til = (o.getD (i : Int).toNat { res := 0, frm := 0, til := 0 }).til) := by
        rw [Int.toNat_natCast, hg]; unfold gW; exact ⟨fun h => if_pos h, fun h => if_neg h⟩
      clear hg hgg hoo
      repeat' (first
        |with_reducible (first|refine q_and ?_ ?_|exact True.intro|exact TkEq.nil _|refine Red.o (by constructor) ?_|refine blockK_o' rfl ?_|refine LoopX_e' rfl ?_|assumption)
        |((with_reducible apply q_CI);intro hbq;(try simp only [bq] at hbq);(try (exfalso;omega)))
        |with_reducible (first|refine W_seq ?_|refine W_block ?_)
        |((with_reducible apply q_cond);refine X_cond rfl ?_ ?_;all_goals (intro hbq;(try simp only [bq] at hbq);(try (exfalso;omega))))
        |refine Rex.o (by (with_reducible constructor);apply Eq.refl) ?_
        |(intro (hgq : (_ : Bool) = true);(try simp only [bq] at hgq))
        |(intro (hgq : (_ : Bool) = false);(try simp only [bq] at hgq))
        |((with_reducible apply q_VOk);exact fun _ => ⟨rfl,rfl⟩)|(intro _;exact rfl)|((with_reducible apply q_CRB);kernel_rfl)|((with_reducible apply q_bt);simp only [bq])|((with_reducible apply q_eqN);rfl)|((with_reducible apply q_FE);exact rfl)|with_reducible (first|exact isByte_wrap _|exact isByte_nat _)|(simp only [hgq,bq];done)|omega|(dsimp only;omega))
      ·
        refine LoopK_n (i + 1) ?_ ((by omega)) (by (try dsimp only); omega)
        refine X_weak rfl rfl rfl ?_ ?_ <;> repeat' (first|with_reducible (first|refine Wk.o (by constructor) ?_|refine q_and ?_ ?_|exact True.intro)|refine q_AgS rfl ?_ ?_|exact CLe.nil_tipS|exact CLe.nil_rowS|refine HLe.cells ?_ ?_|refine HLe.els ?_ ?_|refine SLe.cons ?_ ?_|exact (rfl : known _ = _)|with_reducible rfl|omega)
      ·
        refine LoopK_n (i + 1) ?_ ((by omega)) (by (try dsimp only); omega)
        refine X_weak rfl rfl rfl ?_ ?_ <;> repeat' (first|with_reducible (first|refine Wk.o (by constructor) ?_|refine q_and ?_ ?_|exact True.intro)|refine q_AgS rfl ?_ ?_|exact CLe.nil_tipS|exact CLe.nil_rowS|refine HLe.cells ?_ ?_|refine HLe.els ?_ ?_|refine SLe.cons ?_ ?_|exact (rfl : known _ = _)|with_reducible rfl|omega)
      ·
        refine LoopK_n (i + 1) ?_ ((by omega)) (by (try dsimp only); omega)
        refine X_weak rfl rfl rfl ?_ ?_ <;> repeat' (first|with_reducible (first|refine Wk.o (by constructor) ?_|refine q_and ?_ ?_|exact True.intro)|refine q_AgS rfl ?_ ?_|exact CLe.nil_tipS|exact CLe.nil_rowS|refine HLe.cells ?_ ?_|refine HLe.els ?_ ?_|refine SLe.cons ?_ ?_|exact (rfl : known _ = _)|with_reducible rfl|omega)
      ·
        refine LoopK_n (i + 1) ?_ ((by omega)) (by (try dsimp only); omega)
        refine X_weak rfl rfl rfl ?_ ?_ <;> repeat' (first|with_reducible (first|refine Wk.o (by constructor) ?_|refine q_and ?_ ?_|exact True.intro)|refine q_AgS rfl ?_ ?_|exact CLe.nil_tipS|exact CLe.nil_rowS|refine HLe.cells ?_ ?_|refine HLe.els ?_ ?_|refine SLe.cons ?_ ?_|exact (rfl : known _ = _)|with_reducible rfl|omega)
    · have hie : i = o.length := by omega
      repeat' (first
        |with_reducible (first|refine q_and ?_ ?_|exact True.intro|exact TkEq.nil _|refine Red.o (by constructor) ?_|refine blockK_o' rfl ?_|refine LoopX_e' rfl ?_|assumption)
        |((with_reducible apply q_call);refine X_pure (hA) rfl ?_)
        |((with_reducible apply q_CI);intro hbq;(try simp only [bq] at hbq);(try (exfalso;omega)))
        |with_reducible (first|refine W_seq ?_|refine W_block ?_)
        |((with_reducible apply q_cond);refine X_cond rfl ?_ ?_;all_goals (intro hbq;(try simp only [bq] at hbq);(try (exfalso;omega))))
        |refine Rex.o (by (with_reducible constructor);apply Eq.refl) ?_
        |(intro (hgq : (_ : Bool) = true);(try simp only [bq] at hgq))
        |(intro (hgq : (_ : Bool) = false);(try simp only [bq] at hgq))
        |((with_reducible apply q_VOk);exact fun _ => ⟨rfl,rfl⟩)|(intro _;exact rfl)|((with_reducible apply q_CRB);kernel_rfl)|((with_reducible apply q_bt);simp only [bq])|((with_reducible apply q_eqN);rfl)|((with_reducible apply q_FE);exact rfl)|with_reducible (first|exact isByte_wrap _|exact isByte_nat _)|(simp only [hgq,bq];done)|omega|(dsimp only;omega))
      all_goals rfl
  · rw [decide_eq_false h] at hF
    refine X_fnP mixedX Try.func9 rfl (by kernel_rfl) (Nat.le_of_ble_eq_true (by kernel_rfl)) (by kernel_rfl) rfl rfl ?_
    simp only [sl0, Nat.zero_add, Nat.reduceAdd]
    repeat' (first
      |with_reducible (first|refine q_and ?_ ?_|exact True.intro|exact TkEq.nil _|refine Red.o (by constructor) ?_|refine blockK_o' rfl ?_|refine LoopX_e' rfl ?_|assumption)
      |((with_reducible apply q_call);first|refine X_pure (hF) rfl ?_|refine X_pure (hA) rfl ?_)
      |((with_reducible apply q_CI);intro hbq;(try simp only [bq] at hbq);(try (exfalso;omega)))
      |with_reducible (first|refine W_seq ?_|refine W_block ?_)
      |((with_reducible apply q_cond);refine X_cond rfl ?_ ?_;all_goals (intro hbq;(try simp only [bq] at hbq);(try (exfalso;omega))))
      |refine Rex.o (by (with_reducible constructor);apply Eq.refl) ?_
      |(intro (hgq : (_ : Bool) = true);(try simp only [bq] at hgq))
      |(intro (hgq : (_ : Bool) = false);(try simp only [bq] at hgq))
      |((with_reducible apply q_VOk);exact fun _ => ⟨rfl,rfl⟩)|(intro _;exact rfl)|((with_reducible apply q_CRB);kernel_rfl)|((with_reducible apply q_bt);simp only [bq])|((with_reducible apply q_eqN);rfl)|((with_reducible apply q_FE);exact rfl)|with_reducible (first|exact isByte_wrap _|exact isByte_nat _)|(simp only [hgq,bq];done)|omega|(dsimp only;omega))
    all_goals rfl
end Go.Proofs.Ytbpeakgihhdocaa.Av
namespace Go.Proofs.Ytbpeakgihhdocaa
open Go.RowKit
set_option linter.unusedVariables false
theorem W.BlockingHeldWidens (a0 : Option Addr) (len0 cap0 : Nat) (z0 : List Int) (a1 : Option Addr) (len1 cap1 : Nat) (z1 : List Int) (a2 : Option Addr) (len2 cap2 : Nat) (z2 : List Int) (a3 : Int) (a4 : Int) (w : World) (w0 : Av.IsRowI w a0 len0 cap0 z0) (w1 : Av.IsRowI w a1 len1 cap1 z1) (w2 : Av.IsRowI w a2 len2 cap2 z2) (w3 : (Lit.int .i64 a3).wf = true) (w4 : (Lit.int .i64 a4).wf = true) (s0 : ∀ x, a0 = some x → x.spot = none) (s1 : ∀ x, a1 = some x → x.spot = none) (s2 : ∀ x, a2 = some x → x.spot = none) :
    Calls Try.prog 9 #[.slice a0 len0 cap0, .slice a1 len1 cap1, .slice a2 len2 cap2, .int .i64 a3, .int .i64 a4] w fun e w' => e = .returned (.bool true) ∧ Below w.heap.size w w' := by
  obtain ⟨h0, b0⟩ := Av.rowI_rep w0 s0
  obtain ⟨h1, b1⟩ := Av.rowI_rep w1 s1
  obtain ⟨h2, b2⟩ := Av.rowI_rep w2 s2
  refine Av.law_calls (Av.heldWidens_ok _ _ _ a3 a4 b0 b1 b2) w _ rfl (fun i hi hi' l => ?_) (fun x hx => by
    simp at hx
    rcases hx with rfl | rfl | rfl | rfl | rfl <;> rfl)
  match i, hi with
  | 0, _ => exact h0 l
  | 1, _ => exact h1 l
  | 2, _ => exact h2 l
  | 3, _ => exact .v _ rfl
  | 4, _ => exact .v _ rfl
end Go.Proofs.Ytbpeakgihhdocaa
