/- What the claims use of their texts: Ps4, Kp1, Rt4, Rt5, Rt6, Rt7, Plain, DynPlain, PermPlain, Dy1, Dy2, Arith, Arith2, BrA, Dy3, Dy4, Bl1, La2, Bl2, Bl3, Bl7, Fr. -/
import Derived.Test.YtbpeakgihhdocaaPUD
namespace Go.Proofs.Ytbpeakgihhdocaa.Av
set_option linter.unusedVariables false
set_option linter.unusedSimpArgs false
set_option maxRecDepth 4000
set_option maxHeartbeats 4000000
def okF : Nat → List UInt8 → Int → Bool
  | 0, _, _ => true
  | n + 1, s, ln => if s = [] then true else okLine (s.take (lineLen s)) && decide ((wOne (s.take (lineLen s)) ln).length ≤ 64) && okF n (s.drop (lineLen s + 1)) (ln + 1)
theorem lineLen_eq : ∀ {s : List UInt8} {m : Nat}, m ≤ s.length → (∀ k, k < m → s.getD k 0 ≠ 10) → (m = s.length ∨ s.getD m 0 = 10) → lineLen s = m
  | [], m, h, _, _ => by simp at h; subst h; rfl
  | b :: s, 0, _, _, h => by
    rcases h with h | h
    · cases h
    · have h : b = 10 := h
      subst h; rfl
  | b :: s, m + 1, h, hn, hm => by
    have hb : b ≠ 10 := hn 0 (by omega)
    have ih := lineLen_eq (s := s) (m := m) (by simpa using h) (fun k hk => hn (k + 1) (by omega)) (by simpa using hm)
    unfold lineLen at ih ⊢
    rw [List.takeWhile_cons, if_pos (by simpa using hb), List.length_cons, ih]
theorem bL_extract (s : List UInt8) (i j : Nat) : (bL s).extract i j = bL ((s.drop i).take (j - i)) := by
  apply ByteArray.ext
  rw [ByteArray.data_extract]
  apply Array.ext'
  rw [Array.toList_extract]
  show List.extract s i j = _
  rw [List.extract_eq_take_drop]
  rfl
structure LnG where
  i : Nat
  ln : Nat
  out : List (List PW)
theorem linesF_len : ∀ (n : Nat) (s : List UInt8) (ln : Int), (linesF n s ln).length ≤ s.length
  | 0, s, ln => Nat.zero_le _
  | n + 1, s, ln => by
    unfold linesF
    split
    · simp
    · rename_i hs
      have ih := linesF_len n (s.drop (lineLen s + 1)) (ln + 1)
      rw [List.length_drop] at ih
      have h0 : 0 < s.length := List.length_pos_iff.2 hs
      simp only [List.length_append]
      split <;> simp only [List.length_nil, List.length_cons] <;> omega
theorem lines_ok (s : List UInt8) (hs : s.length ≤ 65536) (hok : okF (s.length + 1) s 1 = true) : OkV Try.prog 56 [vS (bL s)] [] (.tup [.c (rWs ((linesF (s.length + 1) s 1).map fun l => l.map PW.w)), .c (xI 0), .c (xI 0)]) [] := by
  have hz : (bL s).size = s.length := rfl
  have htot := linesF_len (s.length + 1) s 1
  generalize hT : linesF (s.length + 1) s 1 = T at *
  refine X_fn mixedX Try.func56 rfl (by kernel_rfl) (Nat.le_of_ble_eq_true (by kernel_rfl)) (by kernel_rfl) rfl rfl (Nat.le_of_ble_eq_true rfl) rfl rfl ?_
  simp only [sl0, Nat.zero_add, Nat.reduceAdd]
  repeat' (first
    |with_reducible (first|refine q_and ?_ ?_|exact True.intro|exact TkEq.nil _|refine Red.o (by constructor) ?_|refine blockK_o' rfl ?_|refine LoopX_e' rfl ?_|assumption)
    |((with_reducible apply q_CI);intro hbq;(try simp only [bq] at hbq);(try (exfalso;omega)))
    |refine Rex.o (by (with_reducible constructor);apply Eq.refl) ?_
    |(intro (hgq : (_ : Bool) = true);(try simp only [bq] at hgq))
    |(intro (hgq : (_ : Bool) = false);(try simp only [bq] at hgq))
    |((with_reducible apply q_VOk);exact fun _ => ⟨rfl,rfl⟩)|(intro _;exact rfl)|((with_reducible apply q_CRB);kernel_rfl)|((with_reducible apply q_bt);simp only [bq])|((with_reducible apply q_eqN);rfl)|((with_reducible apply q_FE);exact rfl)|with_reducible (first|exact isByte_wrap _|exact isByte_nat _)|(simp only [hgq,bq];done)|omega|(dsimp only;omega))
  refine W_loopS (fun g : LnG => SS [sS 0 (bL s), sC 5 (.tipr 1 fWs vWs (fun _ => none) [] (g.out.map fun l => l.map PW.w)), sI 6 g.ln, sI 7 g.i] []) (fun g => g.i ≤ s.length + 1 ∧ g.ln ≤ g.i + 1 ∧ ∃ n, (s.drop g.i).length < n ∧ g.out ++ linesF n (s.drop g.i) g.ln = T ∧ okF n (s.drop g.i) g.ln = true) (fun g => s.length + 1 - g.i) ⟨0, 1, []⟩ ?_ ⟨by simp, by simp, s.length + 1, by simp, by simpa using hT, by simpa using hok⟩ ?_
  ·
    refine X_weak rfl rfl rfl ?_ ?_ <;> repeat' (first|with_reducible (first|refine Wk.o (by constructor) ?_|refine q_and ?_ ?_|exact True.intro)|refine q_AgS rfl ?_ ?_|exact CLe.nil_tipS|exact CLe.nil_rowS|refine HLe.cells ?_ ?_|refine HLe.els ?_ ?_|refine SLe.cons ?_ ?_|exact (rfl : known _ = _)|with_reducible rfl|omega)
    all_goals rfl
  rintro ⟨i, ln, out⟩ ⟨hi, hln, n, hn, hout, hokn⟩
  simp only at hi hln hout hokn hn
  have hol : out.length ≤ 65536 := by
    have := congrArg List.length hout
    rw [List.length_append] at this
    omega
  by_cases hil : i < s.length
  · obtain ⟨n, rfl⟩ : ∃ m, n = m + 1 := ⟨n - 1, by omega⟩
    have hne : s.drop i ≠ [] := fun e => by
      have := congrArg List.length e
      rw [List.length_drop] at this
      simp at this
      omega
    have hlF : linesF (n + 1) (s.drop i) ln = (if wOne ((s.drop i).take (lineLen (s.drop i))) ln = [] then [] else [wOne ((s.drop i).take (lineLen (s.drop i))) ln]) ++ linesF n ((s.drop i).drop (lineLen (s.drop i) + 1)) (ln + 1) := by
      conv => lhs; unfold linesF
      rw [if_neg hne]
    unfold okF at hokn
    rw [if_neg hne] at hokn
    simp only [Bool.and_eq_true, decide_eq_true_eq] at hokn
    obtain ⟨⟨ho1, ho2⟩, ho3⟩ := hokn
    rw [hlF] at hout
    clear hlF
    repeat' (first
      |with_reducible (first|refine q_and ?_ ?_|exact True.intro|exact TkEq.nil _|refine Red.o (by constructor) ?_|refine blockK_o' rfl ?_|refine LoopX_e' rfl ?_|assumption)
      |((with_reducible apply q_CI);intro hbq;(try simp only [bq] at hbq);(try (exfalso;omega)))
      |refine Rex.o (by (with_reducible constructor);apply Eq.refl) ?_
      |(intro (hgq : (_ : Bool) = true);(try simp only [bq] at hgq))
      |(intro (hgq : (_ : Bool) = false);(try simp only [bq] at hgq))
      |((with_reducible apply q_VOk);exact fun _ => ⟨rfl,rfl⟩)|(intro _;exact rfl)|((with_reducible apply q_CRB);kernel_rfl)|((with_reducible apply q_bt);simp only [bq])|((with_reducible apply q_eqN);rfl)|((with_reducible apply q_FE);exact rfl)|with_reducible (first|exact isByte_wrap _|exact isByte_nat _)|(simp only [hgq,bq];done)|omega|(dsimp only;omega))
    refine W_loopS (fun j : Nat => SS [sS 0 (bL s), sC 5 (.tipr 1 fWs vWs (fun _ => none) [] (out.map fun l => l.map PW.w)), sI 6 ln, sI 7 i, sI 8 j] []) (fun j => i ≤ j ∧ j ≤ s.length ∧ ∀ k, i ≤ k → k < j → s.getD k 0 ≠ 10) (fun j => s.length - j) i ?_ ⟨by omega, by omega, fun k h1 h2 => by omega⟩ ?_
    ·
      refine X_weak rfl rfl rfl ?_ ?_ <;> repeat' (first|with_reducible (first|refine Wk.o (by constructor) ?_|refine q_and ?_ ?_|exact True.intro)|refine q_AgS rfl ?_ ?_|exact CLe.nil_tipS|exact CLe.nil_rowS|refine HLe.cells ?_ ?_|refine HLe.els ?_ ?_|refine SLe.cons ?_ ?_|exact (rfl : known _ = _)|with_reducible rfl|omega)
    rintro j ⟨hj1, hj2, hj3⟩
    have e2 : (bL s).data.getD (j : Int).toNat 0 = s.getD j 0 := bL_get s j
    by_cases hx : j < s.length ∧ s.getD j 0 ≠ 10
    · have hx2 : ((bL s).data.getD (j : Int).toNat 0).toNat ≠ 10 := fun e => hx.2 (by rw [← e2]; exact UInt8.toNat_inj.1 e)
      obtain ⟨hx1, _⟩ := hx
      have hj4 : ∀ k, i ≤ k → k < j + 1 → s.getD k 0 ≠ 10 := fun k h1 h2 => by
        rcases Nat.lt_succ_iff_lt_or_eq.1 h2 with h | h
        · exact hj3 k h1 h
        · rw [h]; intro e; exact hx2 (by rw [e2, e]; rfl)
      repeat' (first
        |with_reducible (first|refine q_and ?_ ?_|exact True.intro|exact TkEq.nil _|refine Red.o (by constructor) ?_|refine blockK_o' rfl ?_|refine LoopX_e' rfl ?_|assumption)
        |((with_reducible apply q_CI);intro hbq;(try simp only [bq] at hbq);(try (exfalso;omega)))
        |refine Rex.o (by (with_reducible constructor);apply Eq.refl) ?_
        |(intro (hgq : (_ : Bool) = true);(try simp only [bq] at hgq))
        |(intro (hgq : (_ : Bool) = false);(try simp only [bq] at hgq))
        |((with_reducible apply q_VOk);exact fun _ => ⟨rfl,rfl⟩)|(intro _;exact rfl)|((with_reducible apply q_CRB);kernel_rfl)|((with_reducible apply q_bt);simp only [bq])|((with_reducible apply q_eqN);rfl)|((with_reducible apply q_FE);exact rfl)|with_reducible (first|exact isByte_wrap _|exact isByte_nat _)|(simp only [hgq,bq];done)|omega|(dsimp only;omega))
      ·
        refine LoopK_n (j + 1) ?_ (⟨by omega, by omega, hj4⟩) (by (try dsimp only); omega)
        refine X_weak rfl rfl rfl ?_ ?_ <;> repeat' (first|with_reducible (first|refine Wk.o (by constructor) ?_|refine q_and ?_ ?_|exact True.intro)|refine q_AgS rfl ?_ ?_|exact CLe.nil_tipS|exact CLe.nil_rowS|refine HLe.cells ?_ ?_|refine HLe.els ?_ ?_|refine SLe.cons ?_ ?_|exact (rfl : known _ = _)|with_reducible rfl|omega)
    · have hx2 : s.length ≤ j ∨ ((bL s).data.getD (j : Int).toNat 0).toNat = 10 := by
        rcases Nat.lt_or_ge j s.length with h | h
        · right
          rw [e2]
          have : s.getD j 0 = 10 := by
            rcases Classical.em (s.getD j 0 = 10) with h2 | h2
            · exact h2
            · exact absurd ⟨h, h2⟩ hx
          rw [this]; rfl
        · exact .inl h
      have hLL : lineLen (s.drop i) = j - i := by
        refine lineLen_eq (by rw [List.length_drop]; omega) (fun k hk => ?_) ?_
        · have := hj3 (i + k) (by omega) (by omega)
          rw [List.getD_eq_getElem?_getD, List.getElem?_drop, ← List.getD_eq_getElem?_getD]
          exact this
        · rcases hx2 with h | h
          · left; rw [List.length_drop]; omega
          · right
            rw [e2] at h
            rw [List.getD_eq_getElem?_getD, List.getElem?_drop, ← List.getD_eq_getElem?_getD, show i + (j - i) = j by omega]
            exact UInt8.toNat_inj.1 h
      rw [hLL] at ho1 ho2 ho3 hout
      have hO := one_ok ((s.drop i).take (j - i)) ln ho1 (by rw [List.length_take, List.length_drop]; omega) ho2
      have hex : (bL s).extract (i : Int).toNat (j : Int).toNat = bL ((s.drop i).take (j - i)) := bL_extract s i j
      rw [← hex] at hO
      have hdd : (s.drop i).drop (j - i + 1) = s.drop (j + 1) := by rw [List.drop_drop]; congr 1; omega
      rw [hdd] at ho3 hout
      generalize wOne ((s.drop i).take (j - i)) ln = ws at *
      have hwl : (ws.map PW.w).length = ws.length := by simp
      have hom : (out.map fun l => l.map PW.w).length = out.length := by simp
      have hnn : (s.drop (j + 1)).length < n := by
        rw [List.length_drop] at hn ⊢
        omega
      by_cases hws : ws = []
      · rw [hws, if_pos rfl, List.nil_append] at hout
        have hw0 : ws.length = 0 := by rw [hws]; rfl
        repeat' (first
          |with_reducible (first|refine q_and ?_ ?_|exact True.intro|exact TkEq.nil _|refine Red.o (by constructor) ?_|refine blockK_o' rfl ?_|refine LoopX_e' rfl ?_|assumption)
          |((with_reducible apply q_call);refine X_pure (hO) rfl ?_)
          |((with_reducible apply q_CI);intro hbq;(try simp only [bq] at hbq);(try (exfalso;omega)))
          |refine Rex.o (by (with_reducible constructor);apply Eq.refl) ?_
          |(intro (hgq : (_ : Bool) = true);(try simp only [bq] at hgq))
          |(intro (hgq : (_ : Bool) = false);(try simp only [bq] at hgq))
          |((with_reducible apply q_VOk);exact fun _ => ⟨rfl,rfl⟩)|(intro _;exact rfl)|((with_reducible apply q_CRB);kernel_rfl)|((with_reducible apply q_bt);simp only [bq])|((with_reducible apply q_eqN);rfl)|((with_reducible apply q_FE);exact rfl)|with_reducible (first|exact isByte_wrap _|exact isByte_nat _)|(simp only [hgq,bq];done)|omega|(dsimp only;omega))
        ·
          refine LoopK_n (⟨j + 1, ln + 1, out⟩) ?_ (⟨by simp only; omega, by simp only; omega, n, hnn, hout, ho3⟩) (by (try dsimp only); omega)
          refine X_weak rfl rfl rfl ?_ ?_ <;> repeat' (first|with_reducible (first|refine Wk.o (by constructor) ?_|refine q_and ?_ ?_|exact True.intro)|refine q_AgS rfl ?_ ?_|exact CLe.nil_tipS|exact CLe.nil_rowS|refine HLe.cells ?_ ?_|refine HLe.els ?_ ?_|refine SLe.cons ?_ ?_|exact (rfl : known _ = _)|with_reducible rfl|omega)
          all_goals rfl
      · rw [if_neg hws] at hout
        have hw0 : 0 < ws.length := List.length_pos_iff.2 hws
        repeat' (first
          |with_reducible (first|refine q_and ?_ ?_|exact True.intro|exact TkEq.nil _|refine Red.o (by constructor) ?_|refine blockK_o' rfl ?_|refine LoopX_e' rfl ?_|assumption)
          |((with_reducible apply q_call);refine X_pure (hO) rfl ?_)
          |((with_reducible apply q_CI);intro hbq;(try simp only [bq] at hbq);(try (exfalso;omega)))
          |refine Rex.o (by (with_reducible constructor);apply Eq.refl) ?_
          |(intro (hgq : (_ : Bool) = true);(try simp only [bq] at hgq))
          |(intro (hgq : (_ : Bool) = false);(try simp only [bq] at hgq))
          |((with_reducible apply q_VOk);exact fun _ => ⟨rfl,rfl⟩)|(intro _;exact rfl)|((with_reducible apply q_CRB);kernel_rfl)|((with_reducible apply q_bt);simp only [bq])|((with_reducible apply q_eqN);rfl)|((with_reducible apply q_FE);exact rfl)|with_reducible (first|exact isByte_wrap _|exact isByte_nat _)|(simp only [hgq,bq];done)|omega|(dsimp only;omega))
        ·
          refine LoopK_n (⟨j + 1, ln + 1, out ++ [ws]⟩) ?_ (⟨by simp only; omega, by simp only; omega, n, hnn, by rw [List.append_assoc]; exact hout, ho3⟩) (by (try dsimp only); omega)
          refine X_weak rfl rfl rfl ?_ ?_ <;> repeat' (first|with_reducible (first|refine Wk.o (by constructor) ?_|refine q_and ?_ ?_|exact True.intro)|refine q_AgS rfl ?_ ?_|exact CLe.nil_tipS|exact CLe.nil_rowS|refine HLe.cells ?_ ?_|refine HLe.els ?_ ?_|refine SLe.cons ?_ ?_|exact (rfl : known _ = _)|with_reducible rfl|omega)
          all_goals first
            | rfl
            | simp [fWs]
  · have hd : s.drop i = [] := List.drop_eq_nil_of_le (by omega)
    have hTo : out = T := by
      rw [hd] at hout
      have : linesF n [] ln = [] := by cases n <;> simp [linesF]
      rw [this, List.append_nil] at hout
      exact hout
    repeat' (first
      |with_reducible (first|refine q_and ?_ ?_|exact True.intro|exact TkEq.nil _|refine Red.o (by constructor) ?_|refine blockK_o' rfl ?_|refine LoopX_e' rfl ?_|assumption)
      |((with_reducible apply q_CI);intro hbq;(try simp only [bq] at hbq);(try (exfalso;omega)))
      |refine Rex.o (by (with_reducible constructor);apply Eq.refl) ?_
      |(intro (hgq : (_ : Bool) = true);(try simp only [bq] at hgq))
      |(intro (hgq : (_ : Bool) = false);(try simp only [bq] at hgq))
      |((with_reducible apply q_VOk);exact fun _ => ⟨rfl,rfl⟩)|(intro _;exact rfl)|((with_reducible apply q_CRB);kernel_rfl)|((with_reducible apply q_bt);simp only [bq])|((with_reducible apply q_eqN);rfl)|((with_reducible apply q_FE);exact rfl)|with_reducible (first|exact isByte_wrap _|exact isByte_nat _)|(simp only [hgq,bq];done)|omega|(dsimp only;omega))
    · rw [hTo]
      repeat' (first|with_reducible (first|refine Wk.o (by constructor) ?_|refine q_and ?_ ?_|exact True.intro)|refine VEq.c ?_|refine VEq.agg ?_|refine VEq.tup ?_|refine TkEq.cells ?_ ?_|refine TkEq.els ?_ ?_|refine SEqL.cons ?_ ?_|refine TEqL.agg ?_ ?_|refine CEq.rows ?_|refine CEq.int ?_|rfl|omega)
theorem declL_len {L L' : Lay} {ws : List PW} (h : declL L ws = some L') : L'.secs.length ≤ L.secs.length + 1 ∧ L'.lnks.length ≤ L.lnks.length + 1 ∧ L'.sts.length ≤ L.sts.length + 1 := by
  unfold declL at h
  split at h
  · split at h
    · injection h with h; subst h; simp
    · cases h
  · split at h
    · split at h
      · injection h with h; subst h; simp
      · cases h
    · split at h
      · split at h
        · injection h with h; subst h; simp
        · cases h
      · cases h
  · split at h
    · injection h with h; subst h; simp
    · cases h
  · cases h
abbrev vLayT (L : Lay) : ST := .agg [rStr L.sts, rStr L.pts, rSec L.secs, rLnk L.lnks]
structure PaG where
  i : Nat
  L : Lay
theorem parse_ok (s : List UInt8) (L : Lay) (hs : s.length ≤ 65536) (hok : okF (s.length + 1) s 1 = true) (hL : parseL s = some L) (hn : (linesF (s.length + 1) s 1).length ≤ 500) (he : layErr L = 0) (hF : LayFits L) : OkV Try.prog 36 [vS (bL s)] [] (.tup [vLayT L, .c (xI 0), .c (xI 0)]) [] := by
  have hLn := lines_ok s hs hok
  unfold parseL at hL
  have hC := refCheck_okV L hF
  rw [he] at hC
  unfold vLay at hC
  generalize linesF (s.length + 1) s 1 = T at *
  have hml : (T.map fun l => l.map PW.w).length = T.length := by simp
  refine X_fn mixedX Try.func36 rfl (by kernel_rfl) (Nat.le_of_ble_eq_true (by kernel_rfl)) (by kernel_rfl) rfl rfl (Nat.le_of_ble_eq_true rfl) rfl rfl ?_
  simp only [sl0, Nat.zero_add, Nat.reduceAdd]
  repeat' (first
    |with_reducible (first|refine q_and ?_ ?_|exact True.intro|exact TkEq.nil _|refine Red.o (by constructor) ?_|refine blockK_o' rfl ?_|refine LoopX_e' rfl ?_|assumption)
    |((with_reducible apply q_call);refine X_pure (hLn) rfl ?_)
    |((with_reducible apply q_CI);intro hbq;(try simp only [bq] at hbq);(try (exfalso;omega)))
    |refine Rex.o (by (with_reducible constructor);apply Eq.refl) ?_
    |(intro (hgq : (_ : Bool) = true);(try simp only [bq] at hgq))
    |(intro (hgq : (_ : Bool) = false);(try simp only [bq] at hgq))
    |((with_reducible apply q_VOk);exact fun _ => ⟨rfl,rfl⟩)|(intro _;exact rfl)|((with_reducible apply q_CRB);kernel_rfl)|((with_reducible apply q_bt);simp only [bq])|((with_reducible apply q_eqN);rfl)|((with_reducible apply q_FE);exact rfl)|with_reducible (first|exact isByte_wrap _|exact isByte_nat _)|(simp only [hgq,bq];done)|omega|(dsimp only;omega))
  clear hLn hok hs
  refine W_loopS (fun g : PaG => SS [sC 2 (pB 0), sC 5 (rWs (T.map fun l => l.map PW.w)), sC 8 (pB 1), sI 9 g.i] [some (.cells [.c (.f .nils), .c (.f .nils), .c (.f .nils), .c (.f .nils)]), bLayT g.L]) (fun g => g.i ≤ T.length ∧ declsL g.L (T.drop g.i) = some L ∧ g.L.secs.length ≤ g.i ∧ g.L.lnks.length ≤ g.i ∧ g.L.sts.length ≤ g.i) (fun g => T.length - g.i) ⟨0, ⟨[], [], [], []⟩⟩ ?_ ⟨by simp, by simpa using hL, by simp, by simp, by simp⟩ ?_
  ·
    refine X_weak rfl rfl rfl ?_ ?_ <;> repeat' (first|with_reducible (first|refine Wk.o (by constructor) ?_|refine q_and ?_ ?_|exact True.intro)|refine q_AgS rfl ?_ ?_|exact CLe.nil_tipS|exact CLe.nil_rowS|refine HLe.cells ?_ ?_|refine HLe.els ?_ ?_|refine SLe.cons ?_ ?_|exact (rfl : known _ = _)|with_reducible rfl|omega)
    all_goals rfl
  rintro ⟨i, M⟩ ⟨hi, hM, hm1, hm2, hm3⟩
  simp only at hi hM hm1 hm2 hm3
  by_cases hil : i < T.length
  · have hd : T.drop i = T.getD i [] :: T.drop (i + 1) := by
      rw [List.drop_eq_getElem_cons hil, List.getD_eq_getElem?_getD, List.getElem?_eq_getElem hil]; rfl
    rw [hd] at hM
    unfold declsL at hM
    split at hM
    · rename_i L' hL'
      have hlen := declL_len hL'
      have hg : (T.map fun l => l.map PW.w).getD (i : Int).toNat [] = (T.getD i []).map PW.w := by
        simp [List.getD_eq_getElem?_getD, List.getElem?_map, List.getElem?_eq_getElem hil]
      have hD := declare_ok M L' (T.getD i []) hL' (by omega) (by omega) (by omega)
      rw [← hg] at hD
      repeat' (first
        |with_reducible (first|refine q_and ?_ ?_|exact True.intro|exact TkEq.nil _|refine Red.o (by constructor) ?_|refine blockK_o' rfl ?_|refine LoopX_e' rfl ?_|assumption)
        |((with_reducible apply q_call);refine X_call [1] (hD) rfl rfl rfl rfl rfl rfl rfl rfl rfl rfl rfl rfl rfl ?_)
        |((with_reducible apply q_CI);intro hbq;(try simp only [bq] at hbq);(try (exfalso;omega)))
        |refine Rex.o (by (with_reducible constructor);apply Eq.refl) ?_
        |(intro (hgq : (_ : Bool) = true);(try simp only [bq] at hgq))
        |(intro (hgq : (_ : Bool) = false);(try simp only [bq] at hgq))
        |((with_reducible apply q_VOk);exact fun _ => ⟨rfl,rfl⟩)|(intro _;exact rfl)|((with_reducible apply q_CRB);kernel_rfl)|((with_reducible apply q_bt);simp only [bq])|((with_reducible apply q_eqN);rfl)|((with_reducible apply q_FE);exact rfl)|with_reducible (first|exact isByte_wrap _|exact isByte_nat _)|(simp only [hgq,bq];done)|omega|(dsimp only;omega))
      ·
        refine LoopK_n (⟨i + 1, L'⟩) ?_ (⟨by simp only; omega, hM, by simp only; omega, by simp only; omega, by simp only; omega⟩) (by (try dsimp only); omega)
        refine X_weak rfl rfl rfl ?_ ?_ <;> repeat' (first|with_reducible (first|refine Wk.o (by constructor) ?_|refine q_and ?_ ?_|exact True.intro)|refine q_AgS rfl ?_ ?_|exact CLe.nil_tipS|exact CLe.nil_rowS|refine HLe.cells ?_ ?_|refine HLe.els ?_ ?_|refine SLe.cons ?_ ?_|exact (rfl : known _ = _)|with_reducible rfl|omega)
        · rfl
    · cases hM
  · have hie : i = T.length := by omega
    subst hie
    have hML : M = L := by
      rw [List.drop_length] at hM
      unfold declsL at hM
      injection hM
    subst hML
    repeat' (first
      |with_reducible (first|refine q_and ?_ ?_|exact True.intro|exact TkEq.nil _|refine Red.o (by constructor) ?_|refine blockK_o' rfl ?_|refine LoopX_e' rfl ?_|assumption)
      |((with_reducible apply q_call);refine X_pure (hC) rfl ?_)
      |((with_reducible apply q_CI);intro hbq;(try simp only [bq] at hbq);(try (exfalso;omega)))
      |refine Rex.o (by (with_reducible constructor);apply Eq.refl) ?_
      |(intro (hgq : (_ : Bool) = true);(try simp only [bq] at hgq))
      |(intro (hgq : (_ : Bool) = false);(try simp only [bq] at hgq))
      |((with_reducible apply q_VOk);exact fun _ => ⟨rfl,rfl⟩)|(intro _;exact rfl)|((with_reducible apply q_CRB);kernel_rfl)|((with_reducible apply q_bt);simp only [bq])|((with_reducible apply q_eqN);rfl)|((with_reducible apply q_FE);exact rfl)|with_reducible (first|exact isByte_wrap _|exact isByte_nat _)|(simp only [hgq,bq];done)|omega|(dsimp only;omega))
    · rfl
end Go.Proofs.Ytbpeakgihhdocaa.Av
namespace Go.Proofs.Ytbpeakgihhdocaa.Av
set_option linter.unusedVariables false
set_option linter.unusedSimpArgs false
set_option maxRecDepth 4000
set_option maxHeartbeats 4000000
def pick (v : Int) (n : Nat) : Nat := (v % 18446744073709551616).toNat % n
structure Src where
  l : List Int
  i : Nat
end Go.Proofs.Ytbpeakgihhdocaa.Av
namespace Go.Proofs.Ytbpeakgihhdocaa.Av
set_option linter.unusedVariables false
set_option linter.unusedSimpArgs false
set_option maxRecDepth 4000
set_option maxHeartbeats 4000000
theorem in_ok (n lo hi : Int) : OkV Try.prog 54 [.c (xI n), .c (xI lo), .c (xI hi)] [] (vB (decide (lo ≤ n) && decide (n ≤ hi))) [] := by
  refine X_fn mixedX Try.func54 rfl (by kernel_rfl) (Nat.le_of_ble_eq_true (by kernel_rfl)) (by kernel_rfl) rfl rfl (Nat.le_of_ble_eq_true rfl) rfl rfl ?_
  simp only [sl0, Nat.zero_add, Nat.reduceAdd]
  repeat' (first
    |with_reducible (first|refine q_and ?_ ?_|exact True.intro|exact TkEq.nil _|refine Red.o (by constructor) ?_|refine blockK_o' rfl ?_|refine LoopX_e' rfl ?_|assumption)
    |((with_reducible apply q_CI);intro hbq;(try simp only [bq] at hbq);(try (exfalso;omega)))
    |refine Rex.o (by (with_reducible constructor);apply Eq.refl) ?_
    |(intro (hgq : (_ : Bool) = true);(try simp only [bq] at hgq))
    |(intro (hgq : (_ : Bool) = false);(try simp only [bq] at hgq))
    |((with_reducible apply q_VOk);exact fun _ => ⟨rfl,rfl⟩)|(intro _;exact rfl)|((with_reducible apply q_CRB);kernel_rfl)|((with_reducible apply q_bt);simp only [bq])|((with_reducible apply q_eqN);rfl)|((with_reducible apply q_FE);exact rfl)|with_reducible (first|exact isByte_wrap _|exact isByte_nat _)|(simp only [hgq,bq];done)|omega|(dsimp only;omega))
  repeat' (first|with_reducible (first|refine Wk.o (by constructor) ?_|refine q_and ?_ ?_|exact True.intro)|refine VEq.c ?_|refine VEq.agg ?_|refine VEq.tup ?_|refine TkEq.cells ?_ ?_|refine TkEq.els ?_ ?_|refine SEqL.cons ?_ ?_|refine TEqL.agg ?_ ?_|refine CEq.rows ?_|refine CEq.int ?_|rfl|omega)
theorem dup_at {st : List Stp} {i j : Nat} (hi : i < st.length) (hj : j < i) (h : (st.getD j st0).sec = (st.getD i st0).sec) : dupAt st i = true := by
  unfold dupAt
  rw [List.any_eq_true]
  refine ⟨st.getD j st0, ?_, by simpa using h⟩
  rw [List.getD_eq_getElem?_getD, List.getElem?_eq_getElem (by omega)]
  rw [List.mem_take_iff_getElem]
  exact ⟨j, by omega, rfl⟩
theorem dup_nat {st : List Stp} {i : Nat} (hi : i < st.length) (h : ∀ j, j < i → (st.getD j st0).sec ≠ (st.getD i st0).sec) : dupAt st i = false := by
  unfold dupAt
  rw [List.any_eq_false]
  intro x hx
  rw [List.mem_take_iff_getElem] at hx
  obtain ⟨j, hj, rfl⟩ := hx
  have := h j (by omega)
  rw [List.getD_eq_getElem?_getD, List.getElem?_eq_getElem (by omega)] at this
  simpa using this
theorem refRte_ok (L : Lay) (hL : LayFits L) (st : List Stp) (ov : Int) (hl : st.length ≤ 9223372036854775807) (ho : -9223372036854775808 ≤ ov ∧ ov ≤ 9223372036854775807) : OkV Try.prog 35 [vLay L, .agg [rStp st, xI ov]] [] (vI (rteErr L ⟨st, ov⟩)) [] := by
  have hC := refCheck_okV L hL
  have hl3 := hL.m3
  unfold vLay at hC ⊢
  refine X_fn mixedX Try.func35 rfl (by kernel_rfl) (Nat.le_of_ble_eq_true (by kernel_rfl)) (by kernel_rfl) rfl rfl (Nat.le_of_ble_eq_true rfl) rfl rfl ?_
  simp only [sl0, Nat.zero_add, Nat.reduceAdd]
  repeat' (first
    |with_reducible (first|refine q_and ?_ ?_|exact True.intro|exact TkEq.nil _|refine Red.o (by constructor) ?_|refine blockK_o' rfl ?_|refine LoopX_e' rfl ?_|assumption)
    |((with_reducible apply q_call);refine X_pure (hC) rfl ?_)
    |((with_reducible apply q_CI);intro hbq;(try simp only [bq] at hbq);(try (exfalso;omega)))
    |refine Rex.o (by (with_reducible constructor);apply Eq.refl) ?_
    |(intro (hgq : (_ : Bool) = true);(try simp only [bq] at hgq))
    |(intro (hgq : (_ : Bool) = false);(try simp only [bq] at hgq))
    |((with_reducible apply q_VOk);exact fun _ => ⟨rfl,rfl⟩)|(intro _;exact rfl)|((with_reducible apply q_CRB);kernel_rfl)|((with_reducible apply q_bt);simp only [bq])|((with_reducible apply q_eqN);rfl)|((with_reducible apply q_FE);exact rfl)|with_reducible (first|exact isByte_wrap _|exact isByte_nat _)|(simp only [hgq,bq];done)|omega|(dsimp only;omega))
  · rw [rte_1 hbq]; rfl
  · rename_i a1
    rw [rte_7 (by omega) (by simp only; omega)]; rfl
  · rename_i a1 a2
    rw [rte_4 (by omega) (by simp only; omega) (by simp only; omega)]; rfl
  rename_i a1 a2
  clear hC
  have b1 : layErr L = 0 := by omega
  have b2 : ¬ (24 < st.length ∨ 2 < ov) := by omega
  have b3 : ¬ (ov < 0 ∨ (st.length : Int) - ov < 2) := by omega
  have hV := valid_of b1
  have hn3 := hV.n3
  refine W_loopS (fun i : Nat => SS [sC 2 (pB 0), sC 3 (pB 1), sI 5 i] [bLay L, bRte st ov]) (fun i => i ≤ st.length ∧ ∀ j, j < i → (st.getD j st0).ok L = true) (fun i => st.length - i) 0 ?_ ⟨by omega, fun j hj => by omega⟩ ?_
  ·
    refine X_weak rfl rfl rfl ?_ ?_ <;> repeat' (first|with_reducible (first|refine Wk.o (by constructor) ?_|refine q_and ?_ ?_|exact True.intro)|refine q_AgS rfl ?_ ?_|exact CLe.nil_tipS|exact CLe.nil_rowS|refine HLe.cells ?_ ?_|refine HLe.els ?_ ?_|refine SLe.cons ?_ ?_|exact (rfl : known _ = _)|with_reducible rfl|omega)
  intro i hi
  obtain ⟨hi, hok⟩ := hi
  have h1 := in_ok (st.getD (i : Int).toNat st0).sec 0 (L.secs.length - 1)
  have h2 := in_ok (st.getD (i : Int).toNat st0).dir 0 1
  repeat' (first
    |with_reducible (first|refine q_and ?_ ?_|exact True.intro|exact TkEq.nil _|refine Red.o (by constructor) ?_|refine blockK_o' rfl ?_|refine LoopX_e' rfl ?_|assumption)
    |((with_reducible apply q_call);refine X_pure (h1) rfl ?_)
    |((with_reducible apply q_callG);refine X_pureG ((fun _ => h2)) rfl ?_ ?_)
    |((with_reducible apply q_CI);intro hbq;(try simp only [bq] at hbq);(try (exfalso;omega)))
    |refine Rex.o (by (with_reducible constructor);apply Eq.refl) ?_
    |(intro (hgq : (_ : Bool) = true);(try simp only [bq] at hgq))
    |(intro (hgq : (_ : Bool) = false);(try simp only [bq] at hgq))
    |((with_reducible apply q_VOk);exact fun _ => ⟨rfl,rfl⟩)|(intro _;exact rfl)|((with_reducible apply q_CRB);kernel_rfl)|((with_reducible apply q_bt);simp only [bq])|((with_reducible apply q_eqN);rfl)|((with_reducible apply q_FE);exact rfl)|with_reducible (first|exact isByte_wrap _|exact isByte_nat _)|(simp only [hgq,bq];done)|omega|(dsimp only;omega))
  · have hb : (st.getD (i : Int).toNat st0).ok L = false := by
      unfold Stp.ok
      simp only [Bool.and_eq_false_iff, Bool.or_eq_false_iff, decide_eq_false_iff_not]
      omega
    rw [rte_4b (r := ⟨st, ov⟩) b1 b2 b3 (all_no (l := st) (i := i) (by omega) hb)]; rfl
  · have hb : (st.getD (i : Int).toNat st0).ok L = true := by
      unfold Stp.ok
      simp only [Bool.and_eq_true, Bool.or_eq_true, decide_eq_true_eq]
      omega
    refine LoopK_n (i + 1) ?_ (⟨by omega, upto_succ hok hb⟩) (by (try dsimp only); omega)
    refine X_weak rfl rfl rfl ?_ ?_ <;> repeat' (first|with_reducible (first|refine Wk.o (by constructor) ?_|refine q_and ?_ ?_|exact True.intro)|refine q_AgS rfl ?_ ?_|exact CLe.nil_tipS|exact CLe.nil_rowS|refine HLe.cells ?_ ?_|refine HLe.els ?_ ?_|refine SLe.cons ?_ ?_|exact (rfl : known _ = _)|with_reducible rfl|omega)
  have hie : i = st.length := by omega
  subst hie
  clear h1 h2
  have b4 : st.all (Stp.ok L) = true := all_yes hok
  clear hok hi hbq
  refine W_loopS (fun i : Nat => SS [sC 2 (pB 0), sC 3 (pB 1), sI 6 i] [bLay L, bRte st ov]) (fun i => i ≤ st.length ∧ ∀ j, j < i → dupAt st j = false) (fun i => st.length - i) 0 ?_ ⟨by omega, fun j hj => by omega⟩ ?_
  ·
    refine X_weak rfl rfl rfl ?_ ?_ <;> repeat' (first|with_reducible (first|refine Wk.o (by constructor) ?_|refine q_and ?_ ?_|exact True.intro)|refine q_AgS rfl ?_ ?_|exact CLe.nil_tipS|exact CLe.nil_rowS|refine HLe.cells ?_ ?_|refine HLe.els ?_ ?_|refine SLe.cons ?_ ?_|exact (rfl : known _ = _)|with_reducible rfl|omega)
  intro i hi
  obtain ⟨hi, hno⟩ := hi
  repeat' (first
    |with_reducible (first|refine q_and ?_ ?_|exact True.intro|exact TkEq.nil _|refine Red.o (by constructor) ?_|refine blockK_o' rfl ?_|refine LoopX_e' rfl ?_|assumption)
    |((with_reducible apply q_CI);intro hbq;(try simp only [bq] at hbq);(try (exfalso;omega)))
    |refine Rex.o (by (with_reducible constructor);apply Eq.refl) ?_
    |(intro (hgq : (_ : Bool) = true);(try simp only [bq] at hgq))
    |(intro (hgq : (_ : Bool) = false);(try simp only [bq] at hgq))
    |((with_reducible apply q_VOk);exact fun _ => ⟨rfl,rfl⟩)|(intro _;exact rfl)|((with_reducible apply q_CRB);kernel_rfl)|((with_reducible apply q_bt);simp only [bq])|((with_reducible apply q_eqN);rfl)|((with_reducible apply q_FE);exact rfl)|with_reducible (first|exact isByte_wrap _|exact isByte_nat _)|(simp only [hgq,bq];done)|omega|(dsimp only;omega))
  · rename_i c1
    refine W_loopS (fun k : Nat => SS [sC 2 (pB 0), sC 3 (pB 1), sI 6 i, sI 7 k] [bLay L, bRte st ov]) (fun k => k ≤ i ∧ ∀ j, j < k → (st.getD j st0).sec ≠ (st.getD (i : Int).toNat st0).sec) (fun k => i - k) 0 ?_ ⟨by omega, fun j hj => by omega⟩ ?_
    ·
      refine X_weak rfl rfl rfl ?_ ?_ <;> repeat' (first|with_reducible (first|refine Wk.o (by constructor) ?_|refine q_and ?_ ?_|exact True.intro)|refine q_AgS rfl ?_ ?_|exact CLe.nil_tipS|exact CLe.nil_rowS|refine HLe.cells ?_ ?_|refine HLe.els ?_ ?_|refine SLe.cons ?_ ?_|exact (rfl : known _ = _)|with_reducible rfl|omega)
    intro k hk
    obtain ⟨hk, hne⟩ := hk
    repeat' (first
      |with_reducible (first|refine q_and ?_ ?_|exact True.intro|exact TkEq.nil _|refine Red.o (by constructor) ?_|refine blockK_o' rfl ?_|refine LoopX_e' rfl ?_|assumption)
      |((with_reducible apply q_CI);intro hbq;(try simp only [bq] at hbq);(try (exfalso;omega)))
      |refine Rex.o (by (with_reducible constructor);apply Eq.refl) ?_
      |(intro (hgq : (_ : Bool) = true);(try simp only [bq] at hgq))
      |(intro (hgq : (_ : Bool) = false);(try simp only [bq] at hgq))
      |((with_reducible apply q_VOk);exact fun _ => ⟨rfl,rfl⟩)|(intro _;exact rfl)|((with_reducible apply q_CRB);kernel_rfl)|((with_reducible apply q_bt);simp only [bq])|((with_reducible apply q_eqN);rfl)|((with_reducible apply q_FE);exact rfl)|with_reducible (first|exact isByte_wrap _|exact isByte_nat _)|(simp only [hgq,bq];done)|omega|(dsimp only;omega))
    · rw [rte_5 (r := ⟨st, ov⟩) b1 b2 b3 b4 (dup_yes (st := st) (i := i) (by omega) (dup_at (j := k) (by omega) (by omega) (by simpa using hbq)))]; rfl
    ·
      refine LoopK_n (k + 1) ?_ (⟨by omega, upto_succ hne (by simpa using hbq)⟩) (by (try dsimp only); omega)
      refine X_weak rfl rfl rfl ?_ ?_ <;> repeat' (first|with_reducible (first|refine Wk.o (by constructor) ?_|refine q_and ?_ ?_|exact True.intro)|refine q_AgS rfl ?_ ?_|exact CLe.nil_tipS|exact CLe.nil_rowS|refine HLe.cells ?_ ?_|refine HLe.els ?_ ?_|refine SLe.cons ?_ ?_|exact (rfl : known _ = _)|with_reducible rfl|omega)
    · have hki : k = i := by omega
      subst hki
      refine LoopK_n (k + 1) ?_ (⟨by omega, upto_succ hno (dup_nat (by omega) (by simpa using hne))⟩) (by (try dsimp only); omega)
      refine X_weak rfl rfl rfl ?_ ?_ <;> repeat' (first|with_reducible (first|refine Wk.o (by constructor) ?_|refine q_and ?_ ?_|exact True.intro)|refine q_AgS rfl ?_ ?_|exact CLe.nil_tipS|exact CLe.nil_rowS|refine HLe.cells ?_ ?_|refine HLe.els ?_ ?_|refine SLe.cons ?_ ?_|exact (rfl : known _ = _)|with_reducible rfl|omega)
  have hie : i = st.length := by omega
  subst hie
  have b5 : dupB st = false := dup_no hno
  clear hno hi hbq
  refine W_loopS (fun i : Nat => SS [sC 2 (pB 0), sC 3 (pB 1), sI 8 (i + 1 : Nat)] [bLay L, bRte st ov]) (fun i => i ≤ st.length - 1 ∧ ∀ j, j < i → (linkAt L st j).isSome = true) (fun i => st.length - 1 - i) 0 ?_ ⟨by omega, fun j hj => by omega⟩ ?_
  ·
    refine X_weak rfl rfl rfl ?_ ?_ <;> repeat' (first|with_reducible (first|refine Wk.o (by constructor) ?_|refine q_and ?_ ?_|exact True.intro)|refine q_AgS rfl ?_ ?_|exact CLe.nil_tipS|exact CLe.nil_rowS|refine HLe.cells ?_ ?_|refine HLe.els ?_ ?_|refine SLe.cons ?_ ?_|exact (rfl : known _ = _)|with_reducible rfl|omega)
  intro i hi
  obtain ⟨hi, hno⟩ := hi
  have hJ := joined_ok L (st.getD (((i + 1 : Nat) : Int) - 1).toNat st0) (st.getD ((i + 1 : Nat) : Int).toNat st0) hV
  have e1 : (((i + 1 : Nat) : Int) - 1).toNat = i := by omega
  have e2 : joinL L (st.getD (((i + 1 : Nat) : Int) - 1).toNat st0) (st.getD ((i + 1 : Nat) : Int).toNat st0) = linkAt L st i := by rw [e1, Int.toNat_natCast]; rfl
  rw [e2] at hJ
  unfold vLay at hJ
  repeat' (first
    |with_reducible (first|refine q_and ?_ ?_|exact True.intro|exact TkEq.nil _|refine Red.o (by constructor) ?_|refine blockK_o' rfl ?_|refine LoopX_e' rfl ?_|assumption)
    |((with_reducible apply q_call);refine X_pure (hJ) rfl ?_)
    |((with_reducible apply q_CI);intro hbq;(try simp only [bq] at hbq);(try (exfalso;omega)))
    |refine Rex.o (by (with_reducible constructor);apply Eq.refl) ?_
    |(intro (hgq : (_ : Bool) = true);(try simp only [bq] at hgq))
    |(intro (hgq : (_ : Bool) = false);(try simp only [bq] at hgq))
    |((with_reducible apply q_VOk);exact fun _ => ⟨rfl,rfl⟩)|(intro _;exact rfl)|((with_reducible apply q_CRB);kernel_rfl)|((with_reducible apply q_bt);simp only [bq])|((with_reducible apply q_eqN);rfl)|((with_reducible apply q_FE);exact rfl)|with_reducible (first|exact isByte_wrap _|exact isByte_nat _)|(simp only [hgq,bq];done)|omega|(dsimp only;omega))
  · rw [rte_11 (r := ⟨st, ov⟩) b1 b2 b3 b4 b5 (link_no (i := i) (by simp only; omega) hbq)]; rfl
  ·
    refine LoopK_n (i + 1) ?_ (⟨by omega, upto_succ hno hbq⟩) (by (try dsimp only); omega)
    refine X_weak rfl rfl rfl ?_ ?_ <;> repeat' (first|with_reducible (first|refine Wk.o (by constructor) ?_|refine q_and ?_ ?_|exact True.intro)|refine q_AgS rfl ?_ ?_|exact CLe.nil_tipS|exact CLe.nil_rowS|refine HLe.cells ?_ ?_|refine HLe.els ?_ ?_|refine SLe.cons ?_ ?_|exact (rfl : known _ = _)|with_reducible rfl|omega)
  · rw [rte_0 (r := ⟨st, ov⟩) b1 b2 b3 b4 b5 (link_yes fun j hj => hno j (by simp only at hj; omega))]; rfl
end Go.Proofs.Ytbpeakgihhdocaa.Av
namespace Go.Proofs.Ytbpeakgihhdocaa.Av
set_option linter.unusedVariables false
set_option linter.unusedSimpArgs false
set_option maxRecDepth 4000
set_option maxHeartbeats 4000000
abbrev secA (L : Lay) (s : Stp) : Sec := L.secs.getD s.sec.toNat sec0
def celOf (L : Lay) (s : Stp) : Int × Int := ((secA L s).lim, if s.dir = 1 then -(secA L s).grd else (secA L s).grd)
def celsOf (L : Lay) (s : Stp) : List (Int × Int) := List.replicate (secA L s).len.toNat (celOf L s)
def celL (L : Lay) (l : List Stp) : List (Int × Int) := l.flatMap (celsOf L)
def trv (r : Rte) : List Stp := r.st.take ((r.st.length : Int) - r.ov).toNat
def celErr (L : Lay) (r : Rte) : Int := if rteErr L r ≠ 0 then rteErr L r else if 4000 < (celL L (trv r)).length then 7 else 0
def celOut (L : Lay) (r : Rte) : List (Int × Int) := if celErr L r = 0 then celL L (trv r) else []
def celOne (L : Lay) (r : Rte) : Int := if celErr L r = 0 then (secA L (r.st.getD 0 st0)).len else 0
theorem celErr_1 {L : Lay} {r : Rte} (h : ¬ rteErr L r = 0) : celErr L r = rteErr L r := if_pos h
theorem celErr_7 {L : Lay} {r : Rte} (h : rteErr L r = 0) (h2 : 4000 < (celL L (trv r)).length) : celErr L r = 7 := by unfold celErr; rw [if_neg (by simpa using h), if_pos h2]
theorem celErr_0 {L : Lay} {r : Rte} (h : rteErr L r = 0) (h2 : ¬ 4000 < (celL L (trv r)).length) : celErr L r = 0 := by unfold celErr; rw [if_neg (by simpa using h), if_neg h2]
theorem celL_snoc (L : Lay) {l : List Stp} {i : Nat} (h : i < l.length) : celL L (l.take (i + 1)) = celL L (l.take i) ++ celsOf L (l.getD i st0) := by
  unfold celL
  rw [take_snoc h, List.flatMap_append]
  simp
theorem sec_of {L : Lay} (hV : Valid L) {i : Nat} (h : i < L.secs.length) : secB L.sts.length (L.secs.getD i sec0) = true := by
  rw [List.getD_eq_getElem?_getD, List.getElem?_eq_getElem h]
  exact (hV.v3 _ (List.getElem_mem h)).2
theorem celL_len {L : Lay} (hV : Valid L) : ∀ {l : List Stp}, l.all (Stp.ok L) = true → (celL L l).length ≤ 400 * l.length
  | [], _ => Nat.le_refl _
  | s :: l, h => by
    rw [List.all_cons, Bool.and_eq_true] at h
    have ih := celL_len hV h.2
    obtain ⟨a, b, _⟩ := ok_dir h.1
    have h2 := secB_of (sec_of hV (i := s.sec.toNat) (by omega))
    have : (celsOf L s).length ≤ 400 := by unfold celsOf secA; rw [List.length_replicate]; omega
    unfold celL at ih ⊢
    rw [List.flatMap_cons, List.length_append, List.length_cons]
    omega
theorem all_take {L : Lay} {l : List Stp} (h : l.all (Stp.ok L) = true) (n : Nat) : (l.take n).all (Stp.ok L) = true := by
  rw [List.all_eq_true] at h ⊢
  exact fun x hx => h x (List.mem_of_mem_take hx)
theorem refCells_ok (L : Lay) (hL : LayFits L) (st : List Stp) (ov : Int) (hl : st.length ≤ 9223372036854775807) (ho : -9223372036854775808 ≤ ov ∧ ov ≤ 9223372036854775807) : OkV Try.prog 14 [vLay L, .agg [rStp st, xI ov]] [] (.tup [.c (rCell (celOut L ⟨st, ov⟩)), .c (xI (celOne L ⟨st, ov⟩)), .c (xI (celErr L ⟨st, ov⟩))]) [] := by
  have hC := refRte_ok L hL st ov hl ho
  unfold celOut celOne
  unfold vLay at hC ⊢
  refine X_fn mixedX Try.func14 rfl (by kernel_rfl) (Nat.le_of_ble_eq_true (by kernel_rfl)) (by kernel_rfl) rfl rfl (Nat.le_of_ble_eq_true rfl) rfl rfl ?_
  simp only [sl0, Nat.zero_add, Nat.reduceAdd]
  repeat' (first
    |with_reducible (first|refine q_and ?_ ?_|exact True.intro|exact TkEq.nil _|refine Red.o (by constructor) ?_|refine blockK_o' rfl ?_|refine LoopX_e' rfl ?_|assumption)
    |((with_reducible apply q_call);refine X_pure (hC) rfl ?_)
    |((with_reducible apply q_CI);intro hbq;(try simp only [bq] at hbq);(try (exfalso;omega)))
    |refine Rex.o (by (with_reducible constructor);apply Eq.refl) ?_
    |(intro (hgq : (_ : Bool) = true);(try simp only [bq] at hgq))
    |(intro (hgq : (_ : Bool) = false);(try simp only [bq] at hgq))
    |((with_reducible apply q_VOk);exact fun _ => ⟨rfl,rfl⟩)|(intro _;exact rfl)|((with_reducible apply q_CRB);kernel_rfl)|((with_reducible apply q_bt);simp only [bq])|((with_reducible apply q_eqN);rfl)|((with_reducible apply q_FE);exact rfl)|with_reducible (first|exact isByte_wrap _|exact isByte_nat _)|(simp only [hgq,bq];done)|omega|(dsimp only;omega))
  · rw [celErr_1 hbq, if_neg hbq, if_neg hbq]; rfl
  clear hC
  have hr := rte_of (L := L) (r := ⟨st, ov⟩) (by omega)
  obtain ⟨r1, r2, r3, r4, r5, r6, r7, r8⟩ := hr
  simp only at r1 r2 r3 r4 r5 r6 r7 r8
  have hV := valid_of r1
  have hn3 := hV.n3
  refine W_loopS (fun i : Nat => SS [sC 2 (pB 0), sC 3 (pB 1), sC 8 (tCell (celL L (st.take i))), sI 9 i] [bLay L, bRte st ov]) (fun i => (i : Int) ≤ st.length - ov) (fun i => st.length - i) 0 ?_ (by omega) ?_
  ·
    refine X_weak rfl rfl rfl ?_ ?_ <;> repeat' (first|with_reducible (first|refine Wk.o (by constructor) ?_|refine q_and ?_ ?_|exact True.intro)|refine q_AgS rfl ?_ ?_|exact CLe.nil_tipS|exact CLe.nil_rowS|refine HLe.cells ?_ ?_|refine HLe.els ?_ ?_|refine SLe.cons ?_ ?_|exact (rfl : known _ = _)|with_reducible rfl|omega)
    all_goals rfl
  intro i hi
  have hsec : (i : Int) < st.length - ov → (0 ≤ (st.getD (i : Int).toNat { sec := 0, dir := 0 }).sec ∧ (st.getD (i : Int).toNat { sec := 0, dir := 0 }).sec < L.secs.length) ∧ ((L.secs.getD (st.getD (i : Int).toNat { sec := 0, dir := 0 }).sec.toNat sec0).len ≤ 400 ∧ 1 ≤ (L.secs.getD (st.getD (i : Int).toNat { sec := 0, dir := 0 }).sec.toNat sec0).len) ∧ (-40 ≤ (L.secs.getD (st.getD (i : Int).toNat { sec := 0, dir := 0 }).sec.toNat sec0).grd ∧ (L.secs.getD (st.getD (i : Int).toNat { sec := 0, dir := 0 }).sec.toNat sec0).grd ≤ 40) := fun h => by
    obtain ⟨x, y, _⟩ := ok_dir (all_at (i := i) r6 (by omega))
    rw [Int.toNat_natCast]
    have h2 := secB_of (sec_of hV (i := (st.getD i st0).sec.toNat) (by omega))
    exact ⟨⟨x, y⟩, ⟨h2.2.1, h2.1⟩, h2.2.2.2.2.1, h2.2.2.2.2.2.1⟩
  have hs0 : 0 ≤ (st.getD (Int.toNat 0) { sec := 0, dir := 0 }).sec ∧ (st.getD (Int.toNat 0) { sec := 0, dir := 0 }).sec < L.secs.length := by
    obtain ⟨x, y, _⟩ := ok_dir (all_at (i := 0) r6 (by omega))
    exact ⟨x, y⟩
  have hcl := celL_len hV (all_take r6 i)
  rw [List.length_take] at hcl
  repeat' (first
    |with_reducible (first|refine q_and ?_ ?_|exact True.intro|exact TkEq.nil _|refine Red.o (by constructor) ?_|refine blockK_o' rfl ?_|refine LoopX_e' rfl ?_|assumption)
    |((with_reducible apply q_CI);intro hbq;(try simp only [bq] at hbq);(try (exfalso;omega)))
    |refine Rex.o (by (with_reducible constructor);apply Eq.refl) ?_
    |(intro (hgq : (_ : Bool) = true);(try simp only [bq] at hgq))
    |(intro (hgq : (_ : Bool) = false);(try simp only [bq] at hgq))
    |((with_reducible apply q_VOk);exact fun _ => ⟨rfl,rfl⟩)|(intro _;exact rfl)|((with_reducible apply q_CRB);kernel_rfl)|((with_reducible apply q_bt);simp only [bq])|((with_reducible apply q_eqN);rfl)|((with_reducible apply q_FE);exact rfl)|with_reducible (first|exact isByte_wrap _|exact isByte_nat _)|(simp only [hgq,bq];done)|omega|(dsimp only;omega))
  · rename_i c1
    generalize hS : L.secs.getD (st.getD (i : Int).toNat { sec := 0, dir := 0 }).sec.toNat sec0 = S at *
    have hc : celsOf L (st.getD (i : Int).toNat { sec := 0, dir := 0 }) = List.replicate S.len.toNat (S.lim, (-S.grd)) := by
      unfold celsOf celOf secA
      rw [hS]
      first | rw [if_pos hbq] | rw [if_neg hbq]
    have hs := (hsec c1).2
    clear hsec
    refine W_loopS (fun k : Nat => SS [sC 2 (pB 0), sC 3 (pB 1), sC 8 (tCell (celL L (st.take i) ++ List.replicate k (S.lim, (-S.grd)))), sI 9 i, sC 10 (pB 2), sI 11 (-S.grd), sI 12 k] [bLay L, bRte st ov, some (.cells [xS S.nm, xI S.len, xI S.lim, xI S.grd, xI S.stn])]) (fun k => k ≤ S.len) (fun k => S.len.toNat - k) 0 ?_ (by omega) ?_
    ·
      refine X_weak rfl rfl rfl ?_ ?_ <;> repeat' (first|with_reducible (first|refine Wk.o (by constructor) ?_|refine q_and ?_ ?_|exact True.intro)|refine q_AgS rfl ?_ ?_|exact CLe.nil_tipS|exact CLe.nil_rowS|refine HLe.cells ?_ ?_|refine HLe.els ?_ ?_|refine SLe.cons ?_ ?_|exact (rfl : known _ = _)|with_reducible rfl|omega)
      all_goals simp
    intro k hk
    have hkn : (celL L (st.take i) ++ List.replicate k (S.lim, (-S.grd))).length ≤ 20000 := by rw [List.length_append, List.length_replicate]; omega
    repeat' (first
      |with_reducible (first|refine q_and ?_ ?_|exact True.intro|exact TkEq.nil _|refine Red.o (by constructor) ?_|refine blockK_o' rfl ?_|refine LoopX_e' rfl ?_|assumption)
      |((with_reducible apply q_CI);intro hbq;(try simp only [bq] at hbq);(try (exfalso;omega)))
      |refine Rex.o (by (with_reducible constructor);apply Eq.refl) ?_
      |(intro (hgq : (_ : Bool) = true);(try simp only [bq] at hgq))
      |(intro (hgq : (_ : Bool) = false);(try simp only [bq] at hgq))
      |((with_reducible apply q_VOk);exact fun _ => ⟨rfl,rfl⟩)|(intro _;exact rfl)|((with_reducible apply q_CRB);kernel_rfl)|((with_reducible apply q_bt);simp only [bq])|((with_reducible apply q_eqN);rfl)|((with_reducible apply q_FE);exact rfl)|with_reducible (first|exact isByte_wrap _|exact isByte_nat _)|(simp only [hgq,bq];done)|omega|(dsimp only;omega))
    ·
      refine LoopK_n (k + 1) ?_ ((by omega)) (by (try dsimp only); omega)
      refine X_weak rfl rfl rfl ?_ ?_ <;> repeat' (first|with_reducible (first|refine Wk.o (by constructor) ?_|refine q_and ?_ ?_|exact True.intro)|refine q_AgS rfl ?_ ?_|exact CLe.nil_tipS|exact CLe.nil_rowS|refine HLe.cells ?_ ?_|refine HLe.els ?_ ?_|refine SLe.cons ?_ ?_|exact (rfl : known _ = _)|with_reducible rfl|omega)
      all_goals (rw [List.replicate_succ', ← List.append_assoc]; simp [fCell, fI, Nat.add_assoc])
    · have hkl : k = S.len.toNat := by omega
      subst hkl
      refine LoopK_n (i + 1) ?_ ((by omega)) (by (try dsimp only); omega)
      refine X_weak rfl rfl rfl ?_ ?_ <;> repeat' (first|with_reducible (first|refine Wk.o (by constructor) ?_|refine q_and ?_ ?_|exact True.intro)|refine q_AgS rfl ?_ ?_|exact CLe.nil_tipS|exact CLe.nil_rowS|refine HLe.cells ?_ ?_|refine HLe.els ?_ ?_|refine SLe.cons ?_ ?_|exact (rfl : known _ = _)|with_reducible rfl|omega)
      all_goals (rw [celL_snoc L (by omega), ← hc]; try rfl)
  · rename_i c1
    generalize hS : L.secs.getD (st.getD (i : Int).toNat { sec := 0, dir := 0 }).sec.toNat sec0 = S at *
    have hc : celsOf L (st.getD (i : Int).toNat { sec := 0, dir := 0 }) = List.replicate S.len.toNat (S.lim, S.grd) := by
      unfold celsOf celOf secA
      rw [hS]
      first | rw [if_pos hbq] | rw [if_neg hbq]
    have hs := (hsec c1).2
    clear hsec
    refine W_loopS (fun k : Nat => SS [sC 2 (pB 0), sC 3 (pB 1), sC 8 (tCell (celL L (st.take i) ++ List.replicate k (S.lim, S.grd))), sI 9 i, sC 10 (pB 2), sI 11 S.grd, sI 12 k] [bLay L, bRte st ov, some (.cells [xS S.nm, xI S.len, xI S.lim, xI S.grd, xI S.stn])]) (fun k => k ≤ S.len) (fun k => S.len.toNat - k) 0 ?_ (by omega) ?_
    ·
      refine X_weak rfl rfl rfl ?_ ?_ <;> repeat' (first|with_reducible (first|refine Wk.o (by constructor) ?_|refine q_and ?_ ?_|exact True.intro)|refine q_AgS rfl ?_ ?_|exact CLe.nil_tipS|exact CLe.nil_rowS|refine HLe.cells ?_ ?_|refine HLe.els ?_ ?_|refine SLe.cons ?_ ?_|exact (rfl : known _ = _)|with_reducible rfl|omega)
      all_goals simp
    intro k hk
    have hkn : (celL L (st.take i) ++ List.replicate k (S.lim, S.grd)).length ≤ 20000 := by rw [List.length_append, List.length_replicate]; omega
    repeat' (first
      |with_reducible (first|refine q_and ?_ ?_|exact True.intro|exact TkEq.nil _|refine Red.o (by constructor) ?_|refine blockK_o' rfl ?_|refine LoopX_e' rfl ?_|assumption)
      |((with_reducible apply q_CI);intro hbq;(try simp only [bq] at hbq);(try (exfalso;omega)))
      |refine Rex.o (by (with_reducible constructor);apply Eq.refl) ?_
      |(intro (hgq : (_ : Bool) = true);(try simp only [bq] at hgq))
      |(intro (hgq : (_ : Bool) = false);(try simp only [bq] at hgq))
      |((with_reducible apply q_VOk);exact fun _ => ⟨rfl,rfl⟩)|(intro _;exact rfl)|((with_reducible apply q_CRB);kernel_rfl)|((with_reducible apply q_bt);simp only [bq])|((with_reducible apply q_eqN);rfl)|((with_reducible apply q_FE);exact rfl)|with_reducible (first|exact isByte_wrap _|exact isByte_nat _)|(simp only [hgq,bq];done)|omega|(dsimp only;omega))
    ·
      refine LoopK_n (k + 1) ?_ ((by omega)) (by (try dsimp only); omega)
      refine X_weak rfl rfl rfl ?_ ?_ <;> repeat' (first|with_reducible (first|refine Wk.o (by constructor) ?_|refine q_and ?_ ?_|exact True.intro)|refine q_AgS rfl ?_ ?_|exact CLe.nil_tipS|exact CLe.nil_rowS|refine HLe.cells ?_ ?_|refine HLe.els ?_ ?_|refine SLe.cons ?_ ?_|exact (rfl : known _ = _)|with_reducible rfl|omega)
      all_goals (rw [List.replicate_succ', ← List.append_assoc]; simp [fCell, fI, Nat.add_assoc])
    · have hkl : k = S.len.toNat := by omega
      subst hkl
      refine LoopK_n (i + 1) ?_ ((by omega)) (by (try dsimp only); omega)
      refine X_weak rfl rfl rfl ?_ ?_ <;> repeat' (first|with_reducible (first|refine Wk.o (by constructor) ?_|refine q_and ?_ ?_|exact True.intro)|refine q_AgS rfl ?_ ?_|exact CLe.nil_tipS|exact CLe.nil_rowS|refine HLe.cells ?_ ?_|refine HLe.els ?_ ?_|refine SLe.cons ?_ ?_|exact (rfl : known _ = _)|with_reducible rfl|omega)
      all_goals (rw [celL_snoc L (by omega), ← hc]; try rfl)
  · have hie : i = ((st.length : Int) - ov).toNat := by omega
    subst hie
    rw [celErr_7 (r := ⟨st, ov⟩) (by omega) (by unfold trv; simp only; omega)]; rfl
  · have hie : i = ((st.length : Int) - ov).toNat := by omega
    subst hie
    rw [celErr_0 (r := ⟨st, ov⟩) (by omega) (by unfold trv; simp only; omega)]; rfl
end Go.Proofs.Ytbpeakgihhdocaa.Av
namespace Go.Proofs.Ytbpeakgihhdocaa.Av
set_option linter.unusedVariables false
set_option linter.unusedSimpArgs false
set_option maxRecDepth 4000
set_option maxHeartbeats 4000000
abbrev xU (n : Int) : SC := .c (.f (.v (.int .u64 n)))
theorem two_u {a b c d : Int} (h : a = c ∧ b = d) : (packS [ST.c (xU a), ST.c (xU b)]).den = (SV.tup [.c (xU c), .c (xU d)]).den := by
  rw [h.1, h.2]; rfl
theorem mul64_ok (n : Int) (h0 : 0 ≤ n) (h1 : n < 512) : OkV Try.prog 109 [.c (xU 1), .c (xU n)] [] (.tup [.c (xU 0), .c (xU n)]) [] := by
  refine X_fn mixedX Try.func109 rfl (by kernel_rfl) (Nat.le_of_ble_eq_true (by kernel_rfl)) (by kernel_rfl) rfl rfl (Nat.le_of_ble_eq_true rfl) rfl rfl ?_
  simp only [sl0, Nat.zero_add, Nat.reduceAdd]
  repeat' (first
    |with_reducible (first|refine q_and ?_ ?_|exact True.intro|exact TkEq.nil _|refine Red.o (by constructor) ?_|refine blockK_o' rfl ?_|refine LoopX_e' rfl ?_|assumption)
    |((with_reducible apply q_CI);intro hbq;(try simp only [bq] at hbq);(try (exfalso;omega)))
    |refine Rex.o (by (with_reducible constructor);apply Eq.refl) ?_
    |(intro (hgq : (_ : Bool) = true);(try simp only [bq] at hgq))
    |(intro (hgq : (_ : Bool) = false);(try simp only [bq] at hgq))
    |((with_reducible apply q_VOk);exact fun _ => ⟨rfl,rfl⟩)|(intro _;exact rfl)|((with_reducible apply q_CRB);kernel_rfl)|((with_reducible apply q_bt);simp only [bq])|((with_reducible apply q_eqN);rfl)|((with_reducible apply q_FE);exact rfl)|with_reducible (first|exact isByte_wrap _|exact isByte_nat _)|(simp only [hgq,bq];done)|omega|(dsimp only;omega))
  obtain ⟨m, rfl⟩ := Int.eq_ofNat_of_zero_le h0
  have h2 : m < 512 := by omega
  clear h0 h1
  apply two_u
  revert m
  decide +kernel
theorem mul_ok (n : Int) (h0 : 0 ≤ n) (h1 : n < 512) : OkV Try.prog 91 [.c (xU 1), .c (xU n)] [] (.tup [.c (xU 0), .c (xU n)]) [] := by
  have hM := mul64_ok n h0 h1
  refine X_fn mixedX Try.func91 rfl (by kernel_rfl) (Nat.le_of_ble_eq_true (by kernel_rfl)) (by kernel_rfl) rfl rfl (Nat.le_of_ble_eq_true rfl) rfl rfl ?_
  simp only [sl0, Nat.zero_add, Nat.reduceAdd]
  repeat' (first
    |with_reducible (first|refine q_and ?_ ?_|exact True.intro|exact TkEq.nil _|refine Red.o (by constructor) ?_|refine blockK_o' rfl ?_|refine LoopX_e' rfl ?_|assumption)
    |((with_reducible apply q_call);refine X_pure (hM) rfl ?_)
    |((with_reducible apply q_CI);intro hbq;(try simp only [bq] at hbq);(try (exfalso;omega)))
    |refine Rex.o (by (with_reducible constructor);apply Eq.refl) ?_
    |(intro (hgq : (_ : Bool) = true);(try simp only [bq] at hgq))
    |(intro (hgq : (_ : Bool) = false);(try simp only [bq] at hgq))
    |((with_reducible apply q_VOk);exact fun _ => ⟨rfl,rfl⟩)|(intro _;exact rfl)|((with_reducible apply q_CRB);kernel_rfl)|((with_reducible apply q_bt);simp only [bq])|((with_reducible apply q_eqN);rfl)|((with_reducible apply q_FE);exact rfl)|with_reducible (first|exact isByte_wrap _|exact isByte_nat _)|(simp only [hgq,bq];done)|omega|(dsimp only;omega))
  repeat' (first|with_reducible (first|refine Wk.o (by constructor) ?_|refine q_and ?_ ?_|exact True.intro)|refine VEq.c ?_|refine VEq.agg ?_|refine VEq.tup ?_|refine TkEq.cells ?_ ?_|refine TkEq.els ?_ ?_|refine SEqL.cons ?_ ?_|refine TEqL.agg ?_ ?_|refine CEq.rows ?_|refine CEq.int ?_|rfl|omega)
abbrev bCell (l : List (Int × Int)) : Option SB := some (.els 2 fCell vCell mCell (0, 0) l)
theorem u64_id (n : Int) (h0 : 0 ≤ n) (h1 : n < 512) : IntKind.u64.wrap n = n := by
  simp only [IntKind.wrap]
  simp [IntKind.bits, IntKind.signed]
  omega
def repK (c : Int × Int) (n k : Nat) : List (Int × Int) := List.replicate k c ++ List.replicate (n - k) (0, 0)
theorem rep_1 (c : Int × Int) (N : Nat) (h : 1 ≤ N) : spliceL (List.replicate N (0, 0)) (0 / 2) (List.take (min 1 N) [c]) = repK c N 1 := by
  rw [Nat.min_eq_left h]
  unfold spliceL repK
  simp
theorem rep_dbl (c : Int × Int) (N k : Nat) (h2 : k ≤ N) : spliceL (repK c N k) k ((repK c N k).take (min k (N - k))) = repK c N (k + min k (N - k)) := by
  have e : (repK c N k).take (min k (N - k)) = List.replicate (min k (N - k)) c := by
    unfold repK
    rw [List.take_append_of_le_length (by simp; omega), List.take_replicate]
    congr 1; omega
  rw [e]
  unfold spliceL repK
  rw [List.take_append_of_le_length (by simp), List.take_of_length_le (by simp), List.drop_append, List.drop_of_length_le (by simp), List.length_replicate, List.length_replicate, List.drop_replicate, List.nil_append, ← List.replicate_append_replicate]
  congr 2; omega
theorem repeat_ok (a b : Int) (n : Int) (h0 : 1 ≤ n) (h1 : n < 512) : OkV Try.prog 76 [.c (.c (.f (.row [fI a, fI b] 1))), .c (xI n)] [] (.c (rCell (List.replicate n.toNat (a, b)))) [] := by
  have e1 : IntKind.u64.wrap n = n := u64_id n (by omega) (by omega)
  have e2 : IntKind.u64.wrap ((1 : Nat) : Int) = 1 := u64_id 1 (by omega) (by omega)
  have hM : OkV Try.prog 91 [.c (xU (IntKind.u64.wrap ((1 : Nat) : Int))), .c (xU (IntKind.u64.wrap n))] [] (.tup [.c (xU 0), .c (xU n)]) [] := by
    rw [e1, e2]; exact mul_ok n (by omega) h1
  refine X_fnP mixedX Try.func76 rfl (by kernel_rfl) (Nat.le_of_ble_eq_true (by kernel_rfl)) (by kernel_rfl) rfl rfl ?_
  simp only [sl0, Nat.zero_add, Nat.reduceAdd]
  have hN : (n.toNat : Int) = n := by omega
  generalize n.toNat = N at hN ⊢
  subst hN
  have hrl : ∀ k, k ≤ N → (repK (a, b) N k).length = N := fun k hk => by unfold repK; simp; omega
  repeat' (first
    |with_reducible (first|refine q_and ?_ ?_|exact True.intro|exact TkEq.nil _|refine Red.o (by constructor) ?_|refine blockK_o' rfl ?_|refine LoopX_e' rfl ?_|assumption)
    |((with_reducible apply q_call);refine X_pure (hM) rfl ?_)
    |((with_reducible apply q_CI);intro hbq;(try simp only [bq] at hbq);(try (exfalso;omega)))
    |refine Rex.o (by (with_reducible constructor);apply Eq.refl) ?_
    |(intro (hgq : (_ : Bool) = true);(try simp only [bq] at hgq))
    |(intro (hgq : (_ : Bool) = false);(try simp only [bq] at hgq))
    |((with_reducible apply q_VOk);exact fun _ => ⟨rfl,rfl⟩)|(intro _;exact rfl)|((with_reducible apply q_CRB);kernel_rfl)|((with_reducible apply q_bt);simp only [bq])|((with_reducible apply q_eqN);rfl)|((with_reducible apply q_FE);exact rfl)|with_reducible (first|exact isByte_wrap _|exact isByte_nat _)|(simp only [hgq,bq];done)|omega|(dsimp only;omega))
  · simp
  · rfl
  refine W_loopS (fun k : Nat => SS [sI 8 k, sC 7 (.c (.arr 0 0 N N))] [bCell (repK (a, b) N k)]) (fun k => 1 ≤ k ∧ k ≤ N) (fun k => N - k) 1 ?_ (by omega) ?_
  ·
    refine X_weak rfl rfl rfl ?_ ?_ <;> repeat' (first|with_reducible (first|refine Wk.o (by constructor) ?_|refine q_and ?_ ?_|exact True.intro)|refine q_AgS rfl ?_ ?_|exact CLe.nil_tipS|exact CLe.nil_rowS|refine HLe.cells ?_ ?_|refine HLe.els ?_ ?_|refine SLe.cons ?_ ?_|exact (rfl : known _ = _)|with_reducible rfl|omega)
    all_goals first
      | exact rep_1 (a, b) N (by omega)
  intro k hk
  have hrk := hrl k hk.2
  repeat' (first
    |with_reducible (first|refine q_and ?_ ?_|exact True.intro|exact TkEq.nil _|refine Red.o (by constructor) ?_|refine blockK_o' rfl ?_|refine LoopX_e' rfl ?_|assumption)
    |((with_reducible apply q_CI);intro hbq;(try simp only [bq] at hbq);(try (exfalso;omega)))
    |refine Rex.o (by (with_reducible constructor);apply Eq.refl) ?_
    |(intro (hgq : (_ : Bool) = true);(try simp only [bq] at hgq))
    |(intro (hgq : (_ : Bool) = false);(try simp only [bq] at hgq))
    |((with_reducible apply q_VOk);exact fun _ => ⟨rfl,rfl⟩)|(intro _;exact rfl)|((with_reducible apply q_CRB);kernel_rfl)|((with_reducible apply q_bt);simp only [bq])|((with_reducible apply q_eqN);rfl)|((with_reducible apply q_FE);exact rfl)|with_reducible (first|exact isByte_wrap _|exact isByte_nat _)|(simp only [hgq,bq];done)|omega|(dsimp only;omega))
  ·
    refine LoopK_n (k + min k (N - k)) ?_ ((by omega)) (by (try dsimp only); omega)
    refine X_weak rfl rfl rfl ?_ ?_ <;> repeat' (first|with_reducible (first|refine Wk.o (by constructor) ?_|refine q_and ?_ ?_|exact True.intro)|refine q_AgS rfl ?_ ?_|exact CLe.nil_tipS|exact CLe.nil_rowS|refine HLe.cells ?_ ?_|refine HLe.els ?_ ?_|refine SLe.cons ?_ ?_|exact (rfl : known _ = _)|with_reducible rfl|omega)
    all_goals (rw [show ((k : Int).toNat : Nat) = k from rfl, show ((N : Int) - (k : Int)).toNat = N - k by omega]; first | (rw [Nat.zero_add, Nat.mul_div_cancel k (by decide : 0 < 2)]; exact rep_dbl (a, b) N k hk.2))
  have hkN : k = N := by omega
  subst hkN
  rw [show repK (a, b) k k = List.replicate k (a, b) by unfold repK; simp]
  rfl
end Go.Proofs.Ytbpeakgihhdocaa.Av
namespace Go.Proofs.Ytbpeakgihhdocaa.Av
set_option linter.unusedVariables false
set_option linter.unusedSimpArgs false
set_option maxRecDepth 4000
set_option maxHeartbeats 4000000
theorem cells_ok (L : Lay) (hL : LayFits L) (st : List Stp) (ov : Int) (hl : st.length ≤ 9223372036854775807) (ho : -9223372036854775808 ≤ ov ∧ ov ≤ 9223372036854775807) : OkV Try.prog 49 [vLay L, .agg [rStp st, xI ov]] [] (.tup [.c (rCell (celOut L ⟨st, ov⟩)), .c (xI (celOne L ⟨st, ov⟩)), .c (xI (celErr L ⟨st, ov⟩))]) [] := by
  have hC := rteCheck_ok L hL st ov hl ho
  have hR : rteErr L { st := st, ov := ov } = 0 → ov ≤ 2 ∧ 0 ≤ ov ∧ ov + 2 ≤ st.length := fun h => by
    have hr := rte_of h
    exact ⟨hr.ov, hr.ov0, hr.two⟩
  unfold celOut celOne
  unfold vLay at hC ⊢
  refine X_fn mixedX Try.func49 rfl (by kernel_rfl) (Nat.le_of_ble_eq_true (by kernel_rfl)) (by kernel_rfl) rfl rfl (Nat.le_of_ble_eq_true rfl) rfl rfl ?_
  simp only [sl0, Nat.zero_add, Nat.reduceAdd]
  repeat' (first
    |with_reducible (first|refine q_and ?_ ?_|exact True.intro|exact TkEq.nil _|refine Red.o (by constructor) ?_|refine blockK_o' rfl ?_|refine LoopX_e' rfl ?_|assumption)
    |((with_reducible apply q_call);refine X_pure (hC) rfl ?_)
    |((with_reducible apply q_CI);intro hbq;(try simp only [bq] at hbq);(try (exfalso;omega)))
    |refine Rex.o (by (with_reducible constructor);apply Eq.refl) ?_
    |(intro (hgq : (_ : Bool) = true);(try simp only [bq] at hgq))
    |(intro (hgq : (_ : Bool) = false);(try simp only [bq] at hgq))
    |((with_reducible apply q_VOk);exact fun _ => ⟨rfl,rfl⟩)|(intro _;exact rfl)|((with_reducible apply q_CRB);kernel_rfl)|((with_reducible apply q_bt);simp only [bq])|((with_reducible apply q_eqN);rfl)|((with_reducible apply q_FE);exact rfl)|with_reducible (first|exact isByte_wrap _|exact isByte_nat _)|(simp only [hgq,bq];done)|omega|(dsimp only;omega))
  · rw [celErr_1 hbq, if_neg hbq, if_neg hbq]; rfl
  clear hC
  have hr := rte_of (L := L) (r := ⟨st, ov⟩) (by omega)
  obtain ⟨r1, r2, r3, r4, r5, r6, r7, r8⟩ := hr
  simp only at r1 r2 r3 r4 r5 r6 r7 r8
  have hV := valid_of r1
  have hn3 := hV.n3
  have htl : (st.take ((st.length : Int) - ov).toNat).length = ((st.length : Int) - ov).toNat := by rw [List.length_take]; omega
  refine W_loopS (fun i : Nat => SS [sC 2 (pB 0), sC 3 (pB 1), sC 8 (tCell (celL L (st.take i))), sC 27 (rStp (st.take ((st.length : Int) - ov).toNat)), sI 28 (st.length - ov), sI 29 i] [bLay L, bRte st ov]) (fun i => (i : Int) ≤ st.length - ov) (fun i => st.length - i) 0 ?_ (by omega) ?_
  ·
    refine X_weak rfl rfl rfl ?_ ?_ <;> repeat' (first|with_reducible (first|refine Wk.o (by constructor) ?_|refine q_and ?_ ?_|exact True.intro)|refine q_AgS rfl ?_ ?_|exact CLe.nil_tipS|exact CLe.nil_rowS|refine HLe.cells ?_ ?_|refine HLe.els ?_ ?_|refine SLe.cons ?_ ?_|exact (rfl : known _ = _)|with_reducible rfl|omega)
  intro i hi
  have hg : (i : Int) < st.length - ov → (st.take ((st.length : Int) - ov).toNat).getD (i : Int).toNat { sec := 0, dir := 0 } = st.getD (i : Int).toNat { sec := 0, dir := 0 } := fun h => by
    rw [List.getD_eq_getElem?_getD, List.getD_eq_getElem?_getD, List.getElem?_take_of_lt (by omega)]
  have hcl := celL_len hV (all_take r6 i)
  rw [List.length_take] at hcl
  have hs0 : 0 ≤ (st.getD (Int.toNat 0) { sec := 0, dir := 0 }).sec ∧ (st.getD (Int.toNat 0) { sec := 0, dir := 0 }).sec < L.secs.length := by
    obtain ⟨x, y, _⟩ := ok_dir (all_at (i := 0) r6 (by omega))
    exact ⟨x, y⟩
  have hsec : (i : Int) < st.length - ov → (0 ≤ ((st.take ((st.length : Int) - ov).toNat).getD (i : Int).toNat { sec := 0, dir := 0 }).sec ∧ ((st.take ((st.length : Int) - ov).toNat).getD (i : Int).toNat { sec := 0, dir := 0 }).sec < L.secs.length) ∧ (1 ≤ (L.secs.getD ((st.take ((st.length : Int) - ov).toNat).getD (i : Int).toNat { sec := 0, dir := 0 }).sec.toNat sec0).len ∧ (L.secs.getD ((st.take ((st.length : Int) - ov).toNat).getD (i : Int).toNat { sec := 0, dir := 0 }).sec.toNat sec0).len < 512) ∧ (-40 ≤ (L.secs.getD ((st.take ((st.length : Int) - ov).toNat).getD (i : Int).toNat { sec := 0, dir := 0 }).sec.toNat sec0).grd ∧ (L.secs.getD ((st.take ((st.length : Int) - ov).toNat).getD (i : Int).toNat { sec := 0, dir := 0 }).sec.toNat sec0).grd ≤ 40) := fun h => by
    rw [hg h]
    obtain ⟨x, y, _⟩ := ok_dir (all_at (i := i) r6 (by omega))
    rw [Int.toNat_natCast]
    have h2 := secB_of (sec_of hV (i := (st.getD i st0).sec.toNat) (by omega))
    exact ⟨⟨x, y⟩, ⟨h2.1, Int.lt_of_le_of_lt h2.2.1 (by decide)⟩, h2.2.2.2.2.1, h2.2.2.2.2.2.1⟩
  generalize hT : (st.take ((st.length : Int) - ov).toNat).getD (i : Int).toNat { sec := 0, dir := 0 } = t at *
  by_cases hlt : (i : Int) < st.length - ov
  · have hX1 := repeat_ok (L.secs.getD t.sec.toNat sec0).lim (-(L.secs.getD t.sec.toNat sec0).grd) (L.secs.getD t.sec.toNat sec0).len (hsec hlt).2.1.1 (hsec hlt).2.1.2
    have hX2 := repeat_ok (L.secs.getD t.sec.toNat sec0).lim (L.secs.getD t.sec.toNat sec0).grd (L.secs.getD t.sec.toNat sec0).len (hsec hlt).2.1.1 (hsec hlt).2.1.2
    subst hT
    repeat' (first
      |with_reducible (first|refine q_and ?_ ?_|exact True.intro|exact TkEq.nil _|refine Red.o (by constructor) ?_|refine blockK_o' rfl ?_|refine LoopX_e' rfl ?_|assumption)
      |((with_reducible apply q_call);first|refine X_pure (hX1) rfl ?_|refine X_pure (hX2) rfl ?_)
      |((with_reducible apply q_CI);intro hbq;(try simp only [bq] at hbq);(try (exfalso;omega)))
      |refine Rex.o (by (with_reducible constructor);apply Eq.refl) ?_
      |(intro (hgq : (_ : Bool) = true);(try simp only [bq] at hgq))
      |(intro (hgq : (_ : Bool) = false);(try simp only [bq] at hgq))
      |((with_reducible apply q_VOk);exact fun _ => ⟨rfl,rfl⟩)|(intro _;exact rfl)|((with_reducible apply q_CRB);kernel_rfl)|((with_reducible apply q_bt);simp only [bq])|((with_reducible apply q_eqN);rfl)|((with_reducible apply q_FE);exact rfl)|with_reducible (first|exact isByte_wrap _|exact isByte_nat _)|(simp only [hgq,bq];done)|omega|(dsimp only;omega))
    all_goals (try (exfalso; omega))
    all_goals (try (rw [List.length_replicate]; have := (hsec hlt).2.1; omega))
    · generalize hSA : secA L (st.getD i st0) = SA
      have hc : celsOf L (st.getD i st0) = List.replicate SA.len.toNat (SA.lim, (-(SA).grd)) := by
        unfold celsOf celOf
        rw [if_pos (by rw [hg hlt, Int.toNat_natCast] at hbq; exact hbq), hSA]
      rw [hg hlt, Int.toNat_natCast]
      refine LoopK_n (i + 1) ?_ ((by omega)) (by (try dsimp only); omega)
      refine X_weak rfl rfl rfl ?_ ?_ <;> repeat' (first|with_reducible (first|refine Wk.o (by constructor) ?_|refine q_and ?_ ?_|exact True.intro)|refine q_AgS rfl ?_ ?_|exact CLe.nil_tipS|exact CLe.nil_rowS|refine HLe.cells ?_ ?_|refine HLe.els ?_ ?_|refine SLe.cons ?_ ?_|exact (rfl : known _ = _)|with_reducible rfl|omega)
      all_goals (rw [celL_snoc L (by omega), hc]; unfold secA at hSA; rw [hSA]; simp)
    · generalize hSA : secA L (st.getD i st0) = SA
      have hc : celsOf L (st.getD i st0) = List.replicate SA.len.toNat (SA.lim, (SA).grd) := by
        unfold celsOf celOf
        rw [if_neg (by rw [hg hlt, Int.toNat_natCast] at hbq; exact hbq), hSA]
      rw [hg hlt, Int.toNat_natCast]
      refine LoopK_n (i + 1) ?_ ((by omega)) (by (try dsimp only); omega)
      refine X_weak rfl rfl rfl ?_ ?_ <;> repeat' (first|with_reducible (first|refine Wk.o (by constructor) ?_|refine q_and ?_ ?_|exact True.intro)|refine q_AgS rfl ?_ ?_|exact CLe.nil_tipS|exact CLe.nil_rowS|refine HLe.cells ?_ ?_|refine HLe.els ?_ ?_|refine SLe.cons ?_ ?_|exact (rfl : known _ = _)|with_reducible rfl|omega)
      all_goals (rw [celL_snoc L (by omega), hc]; unfold secA at hSA; rw [hSA]; simp)
  · subst hT
    repeat' (first
      |with_reducible (first|refine q_and ?_ ?_|exact True.intro|exact TkEq.nil _|refine Red.o (by constructor) ?_|refine blockK_o' rfl ?_|refine LoopX_e' rfl ?_|assumption)
      |((with_reducible apply q_CI);intro hbq;(try simp only [bq] at hbq);(try (exfalso;omega)))
      |refine Rex.o (by (with_reducible constructor);apply Eq.refl) ?_
      |(intro (hgq : (_ : Bool) = true);(try simp only [bq] at hgq))
      |(intro (hgq : (_ : Bool) = false);(try simp only [bq] at hgq))
      |((with_reducible apply q_VOk);exact fun _ => ⟨rfl,rfl⟩)|(intro _;exact rfl)|((with_reducible apply q_CRB);kernel_rfl)|((with_reducible apply q_bt);simp only [bq])|((with_reducible apply q_eqN);rfl)|((with_reducible apply q_FE);exact rfl)|with_reducible (first|exact isByte_wrap _|exact isByte_nat _)|(simp only [hgq,bq];done)|omega|(dsimp only;omega))
    all_goals (try (exfalso; omega))
    · have hie : i = ((st.length : Int) - ov).toNat := by omega
      subst hie
      rw [celErr_7 (r := ⟨st, ov⟩) (by omega) (by unfold trv; simp only; omega)]; rfl
    · have hie : i = ((st.length : Int) - ov).toNat := by omega
      subst hie
      rw [celErr_0 (r := ⟨st, ov⟩) (by omega) (by unfold trv; simp only; omega)]; rfl
end Go.Proofs.Ytbpeakgihhdocaa.Av
namespace Go.Proofs.Ytbpeakgihhdocaa.Pl
set_option linter.unusedVariables false
theorem tmod_of_neg (a b : Int) (ha : a < 0) (hb : 1 ≤ b) :
    -b < a.tmod b ∧ a.tmod b ≤ 0 ∧ (a.tmod b < 0 → a.tmod b + b = a % b) ∧ (¬ a.tmod b < 0 → a.tmod b = a % b) := by
  have h1 := Int.emod_nonneg a (show b ≠ 0 by omega)
  have h2 := Int.emod_lt_of_pos a (show 0 < b by omega)
  have h3 := Int.tmod_eq_emod (a := a) (b := b)
  by_cases hd : b ∣ a
  · have h4 : a % b = 0 := Int.emod_eq_zero_of_dvd hd
    rw [if_pos (Or.inr hd)] at h3
    omega
  · have h4 : a % b ≠ 0 := fun h => hd (Int.dvd_of_emod_eq_zero h)
    rw [if_neg (by rintro (h | h); omega; exact hd h)] at h3
    omega
theorem tdiv_of_neg (a b : Int) (ha : a < 0) (hb : 1 ≤ b) :
    a ≤ a.tdiv b ∧ a.tdiv b ≤ 0 ∧ (a.tmod b < 0 → a < a.tdiv b ∧ a.tdiv b - 1 = a / b) ∧ (¬ a.tmod b < 0 → a.tdiv b = a / b) := by
  have h1 := Int.emod_nonneg a (show b ≠ 0 by omega)
  have h2 := Int.emod_lt_of_pos a (show 0 < b by omega)
  have h3 := Int.tmod_eq_emod (a := a) (b := b)
  have h5 := Int.tdiv_eq_ediv (a := a) (b := b)
  have e6 : a.tdiv b = -((-a) / b) := by
    have : a.tdiv b = -((-a).tdiv b) := by rw [Int.neg_tdiv]; omega
    rw [this, Int.tdiv_eq_ediv_of_nonneg (by omega)]
  have h7 : (-a) / b * b + (-a) % b = -a := Int.ediv_mul_add_emod (-a) b
  have h8 := Int.emod_nonneg (-a) (show b ≠ 0 by omega)
  have h9 : 0 ≤ (-a) / b := Int.ediv_nonneg (by omega) (by omega)
  have h10 : (-a) / b ≤ -a := Int.ediv_le_self b (by omega)
  have hs : b.sign = 1 := Int.sign_eq_one_of_pos (by omega)
  by_cases hd : b ∣ a
  · have h4 : a % b = 0 := Int.emod_eq_zero_of_dvd hd
    rw [if_pos (Or.inr hd)] at h3 h5
    omega
  · have h4 : a % b ≠ 0 := fun h => hd (Int.dvd_of_emod_eq_zero h)
    rw [if_neg (by rintro (h | h); omega; exact hd h)] at h3 h5
    rw [hs] at h5
    refine ⟨by omega, by omega, fun _ => ⟨?_, by omega⟩, by omega⟩
    have hb2 : 2 ≤ b := by
      rcases Int.lt_or_le 1 b with h | h
      · omega
      · obtain rfl : b = 1 := by omega
        exact absurd (Int.one_dvd a) hd
    have h11 : (-a) / b * 2 ≤ (-a) / b * b := Int.mul_le_mul_of_nonneg_left hb2 h9
    omega
def cdiv (a b : Int) : Int := -((-a) / b)
theorem cdiv_pos (a b : Int) (ha : 0 ≤ a) (hb : 1 ≤ b) (h : 0 < a % b) : cdiv a b = a / b + 1 := by
  unfold cdiv
  have h7 : a / b * b + a % b = a := Int.ediv_mul_add_emod a b
  have h2 := Int.emod_lt_of_pos a (show 0 < b by omega)
  have : -a / b = -(a / b) - 1 := by
    have h8 : -a = (b - a % b) + (-(a / b) - 1) * b := by rw [Int.sub_mul, Int.neg_mul]; omega
    rw [h8, Int.add_mul_ediv_right _ _ (by omega), Int.ediv_eq_zero_of_lt (by omega) (by omega)]
    omega
  omega
theorem cdiv_zero (a b : Int) (hb : 1 ≤ b) (h : a % b = 0) : cdiv a b = a / b := by
  unfold cdiv
  rw [Int.neg_ediv_of_dvd (Int.dvd_of_emod_eq_zero h)]; omega
theorem cdiv_neg (a b : Int) (ha : a < 0) (hb : 1 ≤ b) : cdiv a b = a.tdiv b := by
  unfold cdiv
  have : a.tdiv b = -((-a).tdiv b) := by rw [Int.neg_tdiv]; omega
  rw [this, Int.tdiv_eq_ediv_of_nonneg (by omega)]
theorem cdiv_bracket (a b : Int) (hb : 1 ≤ b) : a ≤ cdiv a b * b ∧ cdiv a b * b < a + b := by
  unfold cdiv
  have h7 : (-a) / b * b + (-a) % b = -a := Int.ediv_mul_add_emod (-a) b
  have h2 := Int.emod_lt_of_pos (-a) (show 0 < b by omega)
  have h1 := Int.emod_nonneg (-a) (show b ≠ 0 by omega)
  rw [Int.neg_mul]; omega
theorem ediv_le_self' (a b : Int) (ha : 0 ≤ a) (hb : 1 ≤ b) : 0 ≤ a / b ∧ a / b ≤ a := by
  exact ⟨Int.ediv_nonneg ha (by omega), Int.ediv_le_self b ha⟩
def isqrt : Nat → Nat
  | 0 => 0
  | n + 1 => if (isqrt n + 1) * (isqrt n + 1) ≤ n + 1 then isqrt n + 1 else isqrt n
theorem isqrt_spec (n : Nat) : isqrt n * isqrt n ≤ n ∧ n < (isqrt n + 1) * (isqrt n + 1) := by
  induction n with
  | zero => simp [isqrt]
  | succ n ih =>
    unfold isqrt
    split
    · rename_i h
      refine ⟨h, ?_⟩
      have : (isqrt n + 1 + 1) * (isqrt n + 1 + 1) = (isqrt n + 1) * (isqrt n + 1) + 2 * (isqrt n + 1) + 1 := by
        simp [Nat.add_mul, Nat.mul_add]; omega
      omega
    · omega
theorem isqrt_unique (n r : Nat) (h1 : r * r ≤ n) (h2 : n < (r + 1) * (r + 1)) : r = isqrt n := by
  obtain ⟨h3, h4⟩ := isqrt_spec n
  rcases Nat.lt_trichotomy r (isqrt n) with h | h | h
  · have := Nat.mul_le_mul (show r + 1 ≤ isqrt n by omega) (show r + 1 ≤ isqrt n by omega); omega
  · exact h
  · have := Nat.mul_le_mul (show isqrt n + 1 ≤ r by omega) (show isqrt n + 1 ≤ r by omega); omega
theorem isqrt_mono {m n : Nat} (h : m ≤ n) : isqrt m ≤ isqrt n := by
  obtain ⟨h1, h2⟩ := isqrt_spec m
  obtain ⟨h3, h4⟩ := isqrt_spec n
  rcases Nat.lt_or_ge (isqrt n) (isqrt m) with h5 | h5
  · have := Nat.mul_le_mul (show isqrt n + 1 ≤ isqrt m by omega) (show isqrt n + 1 ≤ isqrt m by omega); omega
  · exact h5
end Go.Proofs.Ytbpeakgihhdocaa.Pl
namespace Go.Proofs.Ytbpeakgihhdocaa
def chkB (l sp ac br : Int) : Bool := decide (1 ≤ l ∧ l ≤ 40 ∧ 1000 ≤ sp ∧ sp ≤ 100000 ∧ 100 ≤ ac ∧ ac ≤ 2000 ∧ 100 ≤ br ∧ br ≤ 2000)
theorem chk_of {l sp ac br : Int} (h : chkB l sp ac br = true) : 1 ≤ l ∧ l ≤ 40 ∧ 1000 ≤ sp ∧ sp ≤ 100000 ∧ 100 ≤ ac ∧ ac ≤ 2000 ∧ 100 ≤ br ∧ br ≤ 2000 := by
  simpa [chkB] using h
def gainOf (g ac : Int) : Int := 20000 * (if 0 < g then max 50 (ac - 10 * g) else ac)
def lossOf (g br : Int) : Int := 20000 * (if g < 0 then max 50 (br + 10 * g) else br)
def cellB (c : Int × Int) : Bool := decide (1000 ≤ c.1 ∧ c.1 ≤ 100000 ∧ -40 ≤ c.2 ∧ c.2 ≤ 40)
theorem cell_of {c : Int × Int} (h : cellB c = true) : 1000 ≤ c.1 ∧ c.1 ≤ 100000 ∧ -40 ≤ c.2 ∧ c.2 ≤ 40 := by simpa [cellB] using h
theorem gain_range (g ac : Int) (h5 : 100 ≤ ac) (h6 : ac ≤ 2000) : 1000000 ≤ gainOf g ac ∧ gainOf g ac ≤ 40000000 := by unfold gainOf; split <;> omega
theorem loss_range (g br : Int) (h5 : 100 ≤ br) (h6 : br ≤ 2000) : 1000000 ≤ lossOf g br ∧ lossOf g br ≤ 40000000 := by unfold lossOf; split <;> omega
theorem getD_at {α : Type} (cs : List α) (d : α) {k : Nat} (h : k < cs.length) : cs.getD k d = cs[k] := by simp [List.getD, h]
def badRun (cs : List (Int × Int)) (start l sp ac br : Int) : Int :=
  if chkB l sp ac br = false then 1 else if 4000 < cs.length then 7 else if cs.all cellB = false then 4 else if start < 0 ∨ (cs.length : Int) - 2 < start then 4 else 0
def limitOf (cs : List (Int × Int)) (k l : Nat) (sp : Int) : Int := ((cs.take (k + 1)).drop (k - l)).foldl (fun m c => min m c.1) sp
def limTo (cs : List (Int × Int)) (lo j : Nat) (sp : Int) : Int := ((cs.drop lo).take j).foldl (fun m c => min m c.1) sp
theorem limTo_all (cs : List (Int × Int)) (k l : Nat) (sp : Int) : limTo cs (k - l) (k + 1 - (k - l)) sp = limitOf cs k l sp := by
  unfold limTo limitOf
  rw [List.drop_take]
def fwd (cs : List (Int × Int)) (start l : Nat) (sp ac : Int) : Nat → Int
  | 0 => 0
  | j + 1 => min (min (limitOf cs (start + j) l sp) (limitOf cs (start + j + 1) l sp) * min (limitOf cs (start + j) l sp) (limitOf cs (start + j + 1) l sp)) (fwd cs start l sp ac j + gainOf (cs.getD (start + j) (0, 0)).2 ac)
def bwd (cs : List (Int × Int)) (start l : Nat) (sp ac br : Int) : Nat → Int
  | 0 => 0
  | d + 1 => min (fwd cs start l sp ac (cs.length - start - (d + 1))) (bwd cs start l sp ac br d + lossOf (cs.getD (cs.length - (d + 1)) (0, 0)).2 br)
def sqW (cs : List (Int × Int)) (start l : Nat) (sp ac br : Int) (j : Nat) : Int := if j = 0 then 0 else bwd cs start l sp ac br (cs.length - start - j)
theorem foldl_min_range (L : List (Int × Int)) (sp lo hi : Int) (h1 : lo ≤ sp) (h2 : sp ≤ hi) (h : ∀ c ∈ L, lo ≤ c.1) : lo ≤ L.foldl (fun m c => min m c.1) sp ∧ L.foldl (fun m c => min m c.1) sp ≤ sp := by
  induction L generalizing sp with
  | nil => exact ⟨h1, Int.le_refl _⟩
  | cons c L ih =>
    have hc := h c (List.mem_cons_self ..)
    have := ih (min sp c.1) (by omega) (by omega) (fun d hd => h d (List.mem_cons_of_mem _ hd))
    simp only [List.foldl_cons]
    omega
theorem limit_range (cs : List (Int × Int)) (k l : Nat) (sp : Int) (h1 : 1000 ≤ sp) (h : cs.all cellB = true) : 1000 ≤ limitOf cs k l sp ∧ limitOf cs k l sp ≤ sp :=
  foldl_min_range _ sp 1000 sp h1 (Int.le_refl _) (fun c hc => (cell_of (List.all_eq_true.1 h c (List.mem_of_mem_take (List.mem_of_mem_drop hc)))).1)
theorem sq_range (x y : Int) (hx : 1000 ≤ x) (hx' : x ≤ 100000) (hy : 1000 ≤ y) (hy' : y ≤ 100000) : 1000000 ≤ min x y * min x y ∧ min x y * min x y ≤ 10000000000 := by
  have h1 : 1000 ≤ min x y := by omega
  have h2 : min x y ≤ 100000 := by omega
  have a := Int.mul_le_mul h1 h1 (by omega) (by omega)
  have b := Int.mul_le_mul h2 h2 (by omega) (by omega)
  omega
theorem fwd_range (cs : List (Int × Int)) (start l : Nat) (sp ac : Int) (h1 : 1000 ≤ sp) (h2 : sp ≤ 100000) (h3 : 100 ≤ ac) (h4 : ac ≤ 2000) (h : cs.all cellB = true) (j : Nat) :
    0 ≤ fwd cs start l sp ac j ∧ fwd cs start l sp ac j ≤ 10000000000 ∧ (0 < j → 1000000 ≤ fwd cs start l sp ac j) := by
  induction j with
  | zero => simp [fwd]
  | succ j ih =>
    have a := limit_range cs (start + j) l sp h1 h
    have b := limit_range cs (start + j + 1) l sp h1 h
    have c := sq_range (limitOf cs (start + j) l sp) (limitOf cs (start + j + 1) l sp) (by omega) (by omega) (by omega) (by omega)
    have d := gain_range (cs.getD (start + j) (0, 0)).2 ac h3 h4
    simp only [fwd]
    omega
theorem bwd_range (cs : List (Int × Int)) (start l : Nat) (sp ac br : Int) (h1 : 1000 ≤ sp) (h2 : sp ≤ 100000) (h3 : 100 ≤ ac) (h4 : ac ≤ 2000) (h5 : 100 ≤ br) (h6 : br ≤ 2000) (h : cs.all cellB = true) (d : Nat) :
    0 ≤ bwd cs start l sp ac br d ∧ bwd cs start l sp ac br d ≤ 10000000000 ∧ (0 < d → d < cs.length - start → 1000000 ≤ bwd cs start l sp ac br d) := by
  induction d with
  | zero => simp [bwd]
  | succ d ih =>
    have a := fwd_range cs start l sp ac h1 h2 h3 h4 h (cs.length - start - (d + 1))
    have c := loss_range (cs.getD (cs.length - (d + 1)) (0, 0)).2 br h5 h6
    simp only [bwd]
    refine ⟨by omega, by omega, fun _ hd => ?_⟩
    have := a.2.2 (by omega)
    omega
def spd (cs : List (Int × Int)) (start l : Nat) (sp ac br : Int) (j : Nat) : Nat := Pl.isqrt (sqW cs start l sp ac br j).toNat
def tim (cs : List (Int × Int)) (start l : Nat) (sp ac br : Int) : Nat → Int
  | 0 => 0
  | j + 1 => tim cs start l sp ac br j + Pl.cdiv 20000000 ((spd cs start l sp ac br j : Int) + spd cs start l sp ac br (j + 1))
theorem bad_zero {cs : List (Int × Int)} {start l sp ac br : Int} (h : badRun cs start l sp ac br = 0) :
    chkB l sp ac br = true ∧ cs.length ≤ 4000 ∧ cs.all cellB = true ∧ 0 ≤ start ∧ start + 2 ≤ cs.length := by
  unfold badRun at h
  by_cases h1 : chkB l sp ac br = false
  · rw [if_pos h1] at h; omega
  · rw [if_neg h1] at h
    by_cases h2 : 4000 < cs.length
    · rw [if_pos h2] at h; omega
    · rw [if_neg h2] at h
      by_cases h3 : cs.all cellB = false
      · rw [if_pos h3] at h; omega
      · rw [if_neg h3] at h
        by_cases h4 : start < 0 ∨ (cs.length : Int) - 2 < start
        · rw [if_pos h4] at h; omega
        · exact ⟨by simpa using h1, by omega, by simpa using h3, by omega, by omega⟩
section
variable {cs : List (Int × Int)} {start l : Nat} {sp ac br : Int} (h1 : 1000 ≤ sp) (h2 : sp ≤ 100000) (h3 : 100 ≤ ac) (h4 : ac ≤ 2000) (h5 : 100 ≤ br) (h6 : br ≤ 2000) (h : cs.all cellB = true)
include h1 h2 h3 h4 h5 h6 h
theorem sqW_range (j : Nat) : 0 ≤ sqW cs start l sp ac br j ∧ sqW cs start l sp ac br j ≤ 10000000000 ∧ (0 < j → j < cs.length - start → 1000000 ≤ sqW cs start l sp ac br j) := by
  unfold sqW
  by_cases hj : j = 0
  · rw [if_pos hj]; omega
  · rw [if_neg hj]
    have := bwd_range cs start l sp ac br h1 h2 h3 h4 h5 h6 h (cs.length - start - j)
    exact ⟨this.1, this.2.1, fun _ hlt => this.2.2 (by omega) (by omega)⟩
theorem spd_range (j : Nat) : spd cs start l sp ac br j ≤ 100000 ∧ (0 < j → j < cs.length - start → 1000 ≤ spd cs start l sp ac br j) := by
  have h0 := sqW_range (start := start) (l := l) h1 h2 h3 h4 h5 h6 h j
  unfold spd
  constructor
  · have := Pl.isqrt_mono (show (sqW cs start l sp ac br j).toNat ≤ 10000000000 by omega)
    have e := Pl.isqrt_unique 10000000000 100000 (by omega) (by omega)
    omega
  · intro hj hlt
    have := Pl.isqrt_mono (show 1000000 ≤ (sqW cs start l sp ac br j).toNat by have := h0.2.2 hj hlt; omega)
    have e := Pl.isqrt_unique 1000000 1000 (by omega) (by omega)
    omega
theorem spd_sum (hst : start + 2 ≤ cs.length) (j : Nat) (hj : j < cs.length - start) : 1000 ≤ spd cs start l sp ac br j + spd cs start l sp ac br (j + 1) ∧ spd cs start l sp ac br j + spd cs start l sp ac br (j + 1) ≤ 200000 := by
  have a := spd_range (start := start) (l := l) h1 h2 h3 h4 h5 h6 h j
  have b := spd_range (start := start) (l := l) h1 h2 h3 h4 h5 h6 h (j + 1)
  refine ⟨?_, by omega⟩
  by_cases h0 : 0 < j
  · have := a.2 h0 hj; omega
  · have := b.2 (by omega) (by omega); omega
theorem step_range (hst : start + 2 ≤ cs.length) (j : Nat) (hj : j < cs.length - start) : 100 ≤ Pl.cdiv 20000000 ((spd cs start l sp ac br j : Int) + spd cs start l sp ac br (j + 1)) ∧ Pl.cdiv 20000000 ((spd cs start l sp ac br j : Int) + spd cs start l sp ac br (j + 1)) ≤ 20000 := by
  have a := spd_sum (start := start) (l := l) h1 h2 h3 h4 h5 h6 h hst j hj
  obtain ⟨b, c⟩ := Pl.cdiv_bracket 20000000 ((spd cs start l sp ac br j : Int) + spd cs start l sp ac br (j + 1)) (by omega)
  generalize Pl.cdiv 20000000 ((spd cs start l sp ac br j : Int) + spd cs start l sp ac br (j + 1)) = q at *
  generalize hs : (spd cs start l sp ac br j : Int) + spd cs start l sp ac br (j + 1) = s at *
  have hs1 : 1000 ≤ s := by omega
  have hs2 : s ≤ 200000 := by omega
  constructor
  · rcases Int.lt_or_le q 100 with hq | hq
    · rcases Int.lt_or_le q 0 with h0 | h0
      · have := Int.mul_neg_of_neg_of_pos h0 (show 0 < s by omega); omega
      · have := Int.mul_le_mul (show q ≤ 99 by omega) hs2 (by omega) (by omega); omega
    · exact hq
  · rcases Int.lt_or_le 20000 q with hq | hq
    · have : 20001 * s ≤ q * s := Int.mul_le_mul_of_nonneg_right (by omega) (by omega)
      omega
    · exact hq
theorem tim_range (hst : start + 2 ≤ cs.length) (j : Nat) (hj : j ≤ cs.length - start) : 100 * (j : Int) ≤ tim cs start l sp ac br j ∧ tim cs start l sp ac br j ≤ 20000 * (j : Int) := by
  induction j with
  | zero => simp [tim]
  | succ j ih =>
    have a := ih (by omega)
    have b := step_range (start := start) (l := l) h1 h2 h3 h4 h5 h6 h hst j (by omega)
    simp only [tim]
    omega
end
end Go.Proofs.Ytbpeakgihhdocaa
namespace Go.Proofs.Ytbpeakgihhdocaa
section
variable {cs : List (Int × Int)} {start l : Nat} {sp ac br : Int} (h1 : 1000 ≤ sp) (h2 : sp ≤ 100000) (h3 : 100 ≤ ac) (h4 : ac ≤ 2000) (h5 : 100 ≤ br) (h6 : br ≤ 2000) (h : cs.all cellB = true)
theorem sqW_zero : sqW cs start l sp ac br 0 = 0 := by simp [sqW]
theorem sqW_end (hm : 0 < cs.length - start) : sqW cs start l sp ac br (cs.length - start) = 0 := by
  unfold sqW; rw [if_neg (by omega), Nat.sub_self]; rfl
theorem sqW_mid (j : Nat) (hj : 0 < j) (hj2 : j < cs.length - start) : sqW cs start l sp ac br j = min (fwd cs start l sp ac j) (sqW cs start l sp ac br (j + 1) + lossOf (cs.getD (start + j) (0, 0)).2 br) := by
  unfold sqW
  rw [if_neg (by omega), if_neg (by omega), show cs.length - start - j = (cs.length - start - (j + 1)) + 1 by omega]
  simp only [bwd]
  rw [show cs.length - start - (cs.length - start - (j + 1) + 1) = j by omega, show cs.length - (cs.length - start - (j + 1) + 1) = start + j by omega]
include h1 h2 h3 h4 h in
include h1 h2 h3 h4 h5 h6 h in
include h1 h2 h3 h4 h5 h6 h in
include h1 h2 h3 h4 h5 h6 h in
end
end Go.Proofs.Ytbpeakgihhdocaa
namespace Go.Proofs.Ytbpeakgihhdocaa.Av
set_option linter.unusedVariables false
set_option linter.unusedSimpArgs false
set_option maxRecDepth 4000
set_option maxHeartbeats 4000000
abbrev vS5 (nm : ByteArray) (l sp ac br : Int) : SV := .agg [xS nm, xI l, xI sp, xI ac, xI br]
abbrev bS5 (nm : ByteArray) (l sp ac br : Int) : Option SB := some (.cells [xS nm, xI l, xI sp, xI ac, xI br])
abbrev vCe (c : Int × Int) : SV := .agg [xI c.1, xI c.2]
theorem chk_bb (l sp ac br : Int) : chkB l sp ac br = (decide (1 ≤ l) && decide (l ≤ 40) && decide (1000 ≤ sp) && decide (sp ≤ 100000) && decide (100 ≤ ac) && decide (ac ≤ 2000) && decide (100 ≤ br) && decide (br ≤ 2000)) := by
  rw [Bool.eq_iff_iff]
  simp [chkB, and_assoc]
section
variable {cs : List (Int × Int)} {start l sp ac br : Int}
theorem bad_1 (h : ¬ chkB l sp ac br = true) : badRun cs start l sp ac br = 1 := if_pos (by simpa using h)
theorem bad_7 (h : chkB l sp ac br = true) (h2 : 4000 < cs.length) : badRun cs start l sp ac br = 7 := by unfold badRun; rw [if_neg (by rw [h]; decide), if_pos h2]
theorem bad_4 (h : chkB l sp ac br = true) (h2 : ¬ 4000 < cs.length) (h3 : cs.all cellB = false) : badRun cs start l sp ac br = 4 := by unfold badRun; rw [if_neg (by rw [h]; decide), if_neg h2, if_pos h3]
theorem bad_4s (h : chkB l sp ac br = true) (h2 : ¬ 4000 < cs.length) (h3 : cs.all cellB = true) (h4 : start < 0 ∨ (cs.length : Int) - 2 < start) : badRun cs start l sp ac br = 4 := by unfold badRun; rw [if_neg (by rw [h]; decide), if_neg h2, if_neg (by rw [h3]; decide), if_pos h4]
theorem bad_0 (h : chkB l sp ac br = true) (h2 : ¬ 4000 < cs.length) (h3 : cs.all cellB = true) (h4 : ¬ (start < 0 ∨ (cs.length : Int) - 2 < start)) : badRun cs start l sp ac br = 0 := by unfold badRun; rw [if_neg (by rw [h]; decide), if_neg h2, if_neg (by rw [h3]; decide), if_neg h4]
theorem cells_no {p : Int × Int → Bool} {i : Nat} (hi : i < cs.length) (h : p (cs.getD i (0, 0)) = false) : cs.all p = false := by
  rw [List.getD_eq_getElem?_getD, List.getElem?_eq_getElem hi] at h
  rw [Bool.eq_false_iff]
  intro ha
  have := List.all_eq_true.1 ha _ (List.getElem_mem hi)
  rw [show (some cs[i]).getD (0, 0) = cs[i] from rfl, this] at h
  cases h
theorem cells_yes {p : Int × Int → Bool} (h : ∀ j, j < cs.length → p (cs.getD j (0, 0)) = true) : cs.all p = true := by
  rw [List.all_eq_true]
  intro x hx
  obtain ⟨i, hi, rfl⟩ := List.mem_iff_getElem.1 hx
  have := h i hi
  rwa [List.getD_eq_getElem?_getD, List.getElem?_eq_getElem hi] at this
end
theorem uptoS {q : Nat → Prop} {i : Nat} (h : ∀ j, j < i → q j) (hi : q i) : ∀ j, j < i + 1 → q j := fun j hj => by
  rcases Nat.lt_succ_iff_lt_or_eq.1 hj with h1 | h1
  · exact h j h1
  · exact h1 ▸ hi
theorem foldl_snoc {α β : Type} {f : β → α → β} {b : β} {l : List α} {i : Nat} {d : α} (h : i < l.length) : (l.take (i + 1)).foldl f b = f ((l.take i).foldl f b) (l.getD i d) := by
  rw [List.take_succ_eq_append_getElem h, List.foldl_append, List.getD_eq_getElem?_getD, List.getElem?_eq_getElem h]
  rfl
theorem chk_ok (nm : ByteArray) (l sp ac br : Int) : OkV Try.prog 50 [vS5 nm l sp ac br] [] (vB (chkB l sp ac br)) [] := by
  rw [chk_bb]
  refine X_fn mixedX Try.func50 rfl (by kernel_rfl) (Nat.le_of_ble_eq_true (by kernel_rfl)) (by kernel_rfl) rfl rfl (Nat.le_of_ble_eq_true rfl) rfl rfl ?_
  simp only [sl0, Nat.zero_add, Nat.reduceAdd]
  repeat' (first
    |with_reducible (first|refine q_and ?_ ?_|exact True.intro|exact TkEq.nil _|refine Red.o (by constructor) ?_|refine blockK_o' rfl ?_|refine LoopX_e' rfl ?_|assumption)
    |((with_reducible apply q_CI);intro hbq;(try simp only [bq] at hbq);(try (exfalso;omega)))
    |refine Rex.o (by (with_reducible constructor);apply Eq.refl) ?_
    |(intro (hgq : (_ : Bool) = true);(try simp only [bq] at hgq))
    |(intro (hgq : (_ : Bool) = false);(try simp only [bq] at hgq))
    |((with_reducible apply q_VOk);exact fun _ => ⟨rfl,rfl⟩)|(intro _;exact rfl)|((with_reducible apply q_CRB);kernel_rfl)|((with_reducible apply q_bt);simp only [bq])|((with_reducible apply q_eqN);rfl)|((with_reducible apply q_FE);exact rfl)|with_reducible (first|exact isByte_wrap _|exact isByte_nat _)|(simp only [hgq,bq];done)|omega|(dsimp only;omega))
  repeat' (first|with_reducible (first|refine Wk.o (by constructor) ?_|refine q_and ?_ ?_|exact True.intro)|refine VEq.c ?_|refine VEq.agg ?_|refine VEq.tup ?_|refine TkEq.cells ?_ ?_|refine TkEq.els ?_ ?_|refine SEqL.cons ?_ ?_|refine TEqL.agg ?_ ?_|refine CEq.rows ?_|refine CEq.int ?_|rfl|omega)
theorem checkRun_ok (cs : List (Int × Int)) (start : Int) (nm : ByteArray) (l sp ac br : Int) (hl : cs.length ≤ 4611686018427387904) : OkV Try.prog 77 [.c (rCell cs), .c (xI start), vS5 nm l sp ac br] [] (vI (badRun cs start l sp ac br)) [] := by
  have hC := chk_ok nm l sp ac br
  refine X_fn mixedX Try.func77 rfl (by kernel_rfl) (Nat.le_of_ble_eq_true (by kernel_rfl)) (by kernel_rfl) rfl rfl (Nat.le_of_ble_eq_true rfl) rfl rfl ?_
  simp only [sl0, Nat.zero_add, Nat.reduceAdd]
  repeat' (first
    |with_reducible (first|refine q_and ?_ ?_|exact True.intro|exact TkEq.nil _|refine Red.o (by constructor) ?_|refine blockK_o' rfl ?_|refine LoopX_e' rfl ?_|assumption)
    |((with_reducible apply q_call);refine X_pure (hC) rfl ?_)
    |((with_reducible apply q_CI);intro hbq;(try simp only [bq] at hbq);(try (exfalso;omega)))
    |refine Rex.o (by (with_reducible constructor);apply Eq.refl) ?_
    |(intro (hgq : (_ : Bool) = true);(try simp only [bq] at hgq))
    |(intro (hgq : (_ : Bool) = false);(try simp only [bq] at hgq))
    |((with_reducible apply q_VOk);exact fun _ => ⟨rfl,rfl⟩)|(intro _;exact rfl)|((with_reducible apply q_CRB);kernel_rfl)|((with_reducible apply q_bt);simp only [bq])|((with_reducible apply q_eqN);rfl)|((with_reducible apply q_FE);exact rfl)|with_reducible (first|exact isByte_wrap _|exact isByte_nat _)|(simp only [hgq,bq];done)|omega|(dsimp only;omega))
  · rw [bad_1 (by simpa using hbq)]; rfl
  · rename_i a1
    rw [bad_7 (by simpa using a1) (by omega)]; rfl
  rename_i a1
  clear hC
  have b1 : chkB l sp ac br = true := by simpa using a1
  have b2 : ¬ 4000 < cs.length := by omega
  refine W_loopS (fun i : Nat => SS [sC 0 (rCell cs), sI 1 start, sC 17 (rCell cs), sI 18 cs.length, sI 19 i] []) (fun i => i ≤ cs.length ∧ ∀ j, j < i → cellB (cs.getD j (0, 0)) = true) (fun i => cs.length - i) 0 ?_ ⟨by omega, fun j hj => by omega⟩ ?_
  ·
    refine X_weak rfl rfl rfl ?_ ?_ <;> repeat' (first|with_reducible (first|refine Wk.o (by constructor) ?_|refine q_and ?_ ?_|exact True.intro)|refine q_AgS rfl ?_ ?_|exact CLe.nil_tipS|exact CLe.nil_rowS|refine HLe.cells ?_ ?_|refine HLe.els ?_ ?_|refine SLe.cons ?_ ?_|exact (rfl : known _ = _)|with_reducible rfl|omega)
  intro i hi
  obtain ⟨hi, hok⟩ := hi
  repeat' (first
    |with_reducible (first|refine q_and ?_ ?_|exact True.intro|exact TkEq.nil _|refine Red.o (by constructor) ?_|refine blockK_o' rfl ?_|refine LoopX_e' rfl ?_|assumption)
    |((with_reducible apply q_CI);intro hbq;(try simp only [bq] at hbq);(try (exfalso;omega)))
    |refine Rex.o (by (with_reducible constructor);apply Eq.refl) ?_
    |(intro (hgq : (_ : Bool) = true);(try simp only [bq] at hgq))
    |(intro (hgq : (_ : Bool) = false);(try simp only [bq] at hgq))
    |((with_reducible apply q_VOk);exact fun _ => ⟨rfl,rfl⟩)|(intro _;exact rfl)|((with_reducible apply q_CRB);kernel_rfl)|((with_reducible apply q_bt);simp only [bq])|((with_reducible apply q_eqN);rfl)|((with_reducible apply q_FE);exact rfl)|with_reducible (first|exact isByte_wrap _|exact isByte_nat _)|(simp only [hgq,bq];done)|omega|(dsimp only;omega))
  · have hb : cellB (cs.getD (i : Int).toNat (0, 0)) = false := by unfold cellB; rw [decide_eq_false_iff_not]; omega
    rw [bad_4 b1 b2 (cells_no (i := i) (by omega) hb)]; rfl
  · have hb : cellB (cs.getD (i : Int).toNat (0, 0)) = true := by unfold cellB; rw [decide_eq_true_eq]; omega
    refine LoopK_n (i + 1) ?_ (⟨by omega, uptoS hok hb⟩) (by (try dsimp only); omega)
    refine X_weak rfl rfl rfl ?_ ?_ <;> repeat' (first|with_reducible (first|refine Wk.o (by constructor) ?_|refine q_and ?_ ?_|exact True.intro)|refine q_AgS rfl ?_ ?_|exact CLe.nil_tipS|exact CLe.nil_rowS|refine HLe.cells ?_ ?_|refine HLe.els ?_ ?_|refine SLe.cons ?_ ?_|exact (rfl : known _ = _)|with_reducible rfl|omega)
  · have hie : i = cs.length := by omega
    subst hie
    rw [bad_4s b1 b2 (cells_yes hok) (by omega)]; rfl
  · have hie : i = cs.length := by omega
    subst hie
    rw [bad_0 b1 b2 (cells_yes hok) (by omega)]; rfl
theorem limit_ok (cs : List (Int × Int)) (k : Nat) (nm : ByteArray) (l sp ac br : Int) (hk : k < cs.length) (hl : cs.length ≤ 4000) (h0 : 0 ≤ l) (h1 : l ≤ 40) : OkV Try.prog 92 [.c (rCell cs), .c (xI k), vS5 nm l sp ac br] [] (vI (limitOf cs k l.toNat sp)) [] := by
  refine X_fn mixedX Try.func92 rfl (by kernel_rfl) (Nat.le_of_ble_eq_true (by kernel_rfl)) (by kernel_rfl) rfl rfl (Nat.le_of_ble_eq_true rfl) rfl rfl ?_
  simp only [sl0, Nat.zero_add, Nat.reduceAdd]
  repeat' (first
    |with_reducible (first|refine q_and ?_ ?_|exact True.intro|exact TkEq.nil _|refine Red.o (by constructor) ?_|refine blockK_o' rfl ?_|refine LoopX_e' rfl ?_|assumption)
    |((with_reducible apply q_CI);intro hbq;(try simp only [bq] at hbq);(try (exfalso;omega)))
    |refine Rex.o (by (with_reducible constructor);apply Eq.refl) ?_
    |(intro (hgq : (_ : Bool) = true);(try simp only [bq] at hgq))
    |(intro (hgq : (_ : Bool) = false);(try simp only [bq] at hgq))
    |((with_reducible apply q_VOk);exact fun _ => ⟨rfl,rfl⟩)|(intro _;exact rfl)|((with_reducible apply q_CRB);kernel_rfl)|((with_reducible apply q_bt);simp only [bq])|((with_reducible apply q_eqN);rfl)|((with_reducible apply q_FE);exact rfl)|with_reducible (first|exact isByte_wrap _|exact isByte_nat _)|(simp only [hgq,bq];done)|omega|(dsimp only;omega))
  generalize hxs : (cs.drop (max 0 ((k : Int) - l)).toNat).take ((k : Int) + 1 - max 0 ((k : Int) - l)).toNat = xs
  have hxl : xs.length ≤ 4000 := by rw [← hxs, List.length_take, List.length_drop]; omega
  have hL : limitOf cs k l.toNat sp = xs.foldl (fun m c => min m c.1) sp := by
    rw [← limTo_all, ← hxs, show (max 0 ((k : Int) - l)).toNat = k - l.toNat by omega, show ((k : Int) + 1 - max 0 ((k : Int) - l)).toNat = k + 1 - (k - l.toNat) by omega]
    rfl
  rw [hL]
  clear hL hxs
  refine W_loopS (fun i : Nat => SS [sI 7 ((xs.take i).foldl (fun m c => min m c.1) sp), sC 20 (rCell xs), sI 21 xs.length, sI 22 i] []) (fun i => i ≤ xs.length) (fun i => xs.length - i) 0 ?_ (by omega) ?_
  ·
    refine X_weak rfl rfl rfl ?_ ?_ <;> repeat' (first|with_reducible (first|refine Wk.o (by constructor) ?_|refine q_and ?_ ?_|exact True.intro)|refine q_AgS rfl ?_ ?_|exact CLe.nil_tipS|exact CLe.nil_rowS|refine HLe.cells ?_ ?_|refine HLe.els ?_ ?_|refine SLe.cons ?_ ?_|exact (rfl : known _ = _)|with_reducible rfl|omega)
    all_goals rfl
  intro i hi
  repeat' (first
    |with_reducible (first|refine q_and ?_ ?_|exact True.intro|exact TkEq.nil _|refine Red.o (by constructor) ?_|refine blockK_o' rfl ?_|refine LoopX_e' rfl ?_|assumption)
    |((with_reducible apply q_CI);intro hbq;(try simp only [bq] at hbq);(try (exfalso;omega)))
    |refine Rex.o (by (with_reducible constructor);apply Eq.refl) ?_
    |(intro (hgq : (_ : Bool) = true);(try simp only [bq] at hgq))
    |(intro (hgq : (_ : Bool) = false);(try simp only [bq] at hgq))
    |((with_reducible apply q_VOk);exact fun _ => ⟨rfl,rfl⟩)|(intro _;exact rfl)|((with_reducible apply q_CRB);kernel_rfl)|((with_reducible apply q_bt);simp only [bq])|((with_reducible apply q_eqN);rfl)|((with_reducible apply q_FE);exact rfl)|with_reducible (first|exact isByte_wrap _|exact isByte_nat _)|(simp only [hgq,bq];done)|omega|(dsimp only;omega))
  ·
    refine LoopK_n (i + 1) ?_ ((by omega)) (by (try dsimp only); omega)
    refine X_weak rfl rfl rfl ?_ ?_ <;> repeat' (first|with_reducible (first|refine Wk.o (by constructor) ?_|refine q_and ?_ ?_|exact True.intro)|refine q_AgS rfl ?_ ?_|exact CLe.nil_tipS|exact CLe.nil_rowS|refine HLe.cells ?_ ?_|refine HLe.els ?_ ?_|refine SLe.cons ?_ ?_|exact (rfl : known _ = _)|with_reducible rfl|omega)
    all_goals (rw [foldl_snoc (d := (0, 0)) (by omega)]; rfl)
  · have hie : i = xs.length := by omega
    subst hie
    rw [List.take_length]; rfl
theorem gain_ok (c : Int × Int) (nm : ByteArray) (l sp ac br : Int) (h0 : -40 ≤ c.2 ∧ c.2 ≤ 40) (h5 : 100 ≤ ac) (h6 : ac ≤ 2000) : OkV Try.prog 93 [vCe c, vS5 nm l sp ac br] [] (vI (gainOf c.2 ac)) [] := by
  unfold gainOf
  refine X_fn mixedX Try.func93 rfl (by kernel_rfl) (Nat.le_of_ble_eq_true (by kernel_rfl)) (by kernel_rfl) rfl rfl (Nat.le_of_ble_eq_true rfl) rfl rfl ?_
  simp only [sl0, Nat.zero_add, Nat.reduceAdd]
  repeat' (first
    |with_reducible (first|refine q_and ?_ ?_|exact True.intro|exact TkEq.nil _|refine Red.o (by constructor) ?_|refine blockK_o' rfl ?_|refine LoopX_e' rfl ?_|assumption)
    |((with_reducible apply q_CI);intro hbq;(try simp only [bq] at hbq);(try (exfalso;omega)))
    |refine Rex.o (by (with_reducible constructor);apply Eq.refl) ?_
    |(intro (hgq : (_ : Bool) = true);(try simp only [bq] at hgq))
    |(intro (hgq : (_ : Bool) = false);(try simp only [bq] at hgq))
    |((with_reducible apply q_VOk);exact fun _ => ⟨rfl,rfl⟩)|(intro _;exact rfl)|((with_reducible apply q_CRB);kernel_rfl)|((with_reducible apply q_bt);simp only [bq])|((with_reducible apply q_eqN);rfl)|((with_reducible apply q_FE);exact rfl)|with_reducible (first|exact isByte_wrap _|exact isByte_nat _)|(simp only [hgq,bq];done)|omega|(dsimp only;omega))
  · rw [if_pos (by omega)]; rfl
  · rw [if_neg (by omega)]; rfl
theorem loss_ok (c : Int × Int) (nm : ByteArray) (l sp ac br : Int) (h0 : -40 ≤ c.2 ∧ c.2 ≤ 40) (h5 : 100 ≤ br) (h6 : br ≤ 2000) : OkV Try.prog 94 [vCe c, vS5 nm l sp ac br] [] (vI (lossOf c.2 br)) [] := by
  unfold lossOf
  refine X_fn mixedX Try.func94 rfl (by kernel_rfl) (Nat.le_of_ble_eq_true (by kernel_rfl)) (by kernel_rfl) rfl rfl (Nat.le_of_ble_eq_true rfl) rfl rfl ?_
  simp only [sl0, Nat.zero_add, Nat.reduceAdd]
  repeat' (first
    |with_reducible (first|refine q_and ?_ ?_|exact True.intro|exact TkEq.nil _|refine Red.o (by constructor) ?_|refine blockK_o' rfl ?_|refine LoopX_e' rfl ?_|assumption)
    |((with_reducible apply q_CI);intro hbq;(try simp only [bq] at hbq);(try (exfalso;omega)))
    |refine Rex.o (by (with_reducible constructor);apply Eq.refl) ?_
    |(intro (hgq : (_ : Bool) = true);(try simp only [bq] at hgq))
    |(intro (hgq : (_ : Bool) = false);(try simp only [bq] at hgq))
    |((with_reducible apply q_VOk);exact fun _ => ⟨rfl,rfl⟩)|(intro _;exact rfl)|((with_reducible apply q_CRB);kernel_rfl)|((with_reducible apply q_bt);simp only [bq])|((with_reducible apply q_eqN);rfl)|((with_reducible apply q_FE);exact rfl)|with_reducible (first|exact isByte_wrap _|exact isByte_nat _)|(simp only [hgq,bq];done)|omega|(dsimp only;omega))
  · rw [if_pos (by omega)]; rfl
  · rw [if_neg (by omega)]; rfl
end Go.Proofs.Ytbpeakgihhdocaa.Av
namespace Go.Proofs.Ytbpeakgihhdocaa.Av
set_option linter.unusedVariables false
set_option linter.unusedSimpArgs false
set_option maxRecDepth 4000
set_option maxHeartbeats 4000000
abbrev bInt (l : List Int) : Option SB := some (.els 1 fInt vInt mInt 0 l)
def row (n : Nat) (f : Nat → Int) : List Int := (List.range n).map f
theorem row_len (n : Nat) (f : Nat → Int) : (row n f).length = n := by simp [row]
theorem row_get {n : Nat} {f : Nat → Int} {i : Nat} (h : i < n) : (row n f).getD i 0 = f i := by simp [row, List.getD_eq_getElem?_getD, h]
theorem row_set {n : Nat} {f g : Nat → Int} {i : Nat} {x : Int} (hx : g i = x) (h : ∀ j, j < n → j ≠ i → g j = f j) : (row n f).set i x = row n g := by
  apply List.ext_getElem
  · simp [row]
  · intro j h1 h2
    have hj : j < n := by simpa [row] using h2
    rw [List.getElem_set]
    split
    · rename_i e; subst e; simp [row, hx]
    · rename_i e; simp only [row, List.getElem_map, List.getElem_range]; exact (h j hj (fun e' => e e'.symm)).symm
theorem row_ext {n : Nat} {f g : Nat → Int} (h : ∀ j, j < n → f j = g j) : row n f = row n g := by
  unfold row
  exact List.map_congr_left fun j hj => h j (List.mem_range.1 hj)
theorem row_zero (n : Nat) : List.replicate n (0 : Int) = row n fun _ => 0 := by
  apply List.ext_getElem
  · simp [row]
  · intro j h1 h2; simp [row]
theorem squares_ok (cs : List (Int × Int)) (s : Nat) (nm : ByteArray) (l sp ac br : Int) (h : badRun cs s l sp ac br = 0) : OkV Try.prog 78 [.c (rCell cs), .c (xI s), vS5 nm l sp ac br] [] (.c (.c (.arr 1 0 (cs.length - s + 1) (cs.length - s + 1)))) [bS5 nm l sp ac br, bInt (row (cs.length - s + 1) (sqW cs s l.toNat sp ac br))] := by
  obtain ⟨hc, hn, hall, h0, h2⟩ := bad_zero h
  obtain ⟨l1, l2, l3, l4, l5, l6, l7, l8⟩ := chk_of hc
  have hL := limit_ok cs s nm l sp ac br (by omega) hn (by omega) l2
  refine X_fn mixedX Try.func78 rfl (by kernel_rfl) (Nat.le_of_ble_eq_true (by kernel_rfl)) (by kernel_rfl) rfl rfl (Nat.le_of_ble_eq_true rfl) rfl rfl ?_
  simp only [sl0, Nat.zero_add, Nat.reduceAdd]
  repeat' (first
    |with_reducible (first|refine q_and ?_ ?_|exact True.intro|exact TkEq.nil _|refine Red.o (by constructor) ?_|refine blockK_o' rfl ?_|refine LoopX_e' rfl ?_|assumption)
    |((with_reducible apply q_call);refine X_pure (hL) rfl ?_)
    |((with_reducible apply q_CI);intro hbq;(try simp only [bq] at hbq);(try (exfalso;omega)))
    |refine Rex.o (by (with_reducible constructor);apply Eq.refl) ?_
    |(intro (hgq : (_ : Bool) = true);(try simp only [bq] at hgq))
    |(intro (hgq : (_ : Bool) = false);(try simp only [bq] at hgq))
    |((with_reducible apply q_VOk);exact fun _ => ⟨rfl,rfl⟩)|(intro _;exact rfl)|((with_reducible apply q_CRB);kernel_rfl)|((with_reducible apply q_bt);simp only [bq])|((with_reducible apply q_eqN);rfl)|((with_reducible apply q_FE);exact rfl)|with_reducible (first|exact isByte_wrap _|exact isByte_nat _)|(simp only [hgq,bq];done)|omega|(dsimp only;omega))
  clear hL
  have eN : ((cs.length : Int) - s + 1).toNat = cs.length - s + 1 := by omega
  refine W_loopS (fun i : Nat => SS [sC 0 (rCell cs), sI 1 s, sC 5 (pB 0), sI 7 cs.length, sC 8 (.c (.arr 1 0 (cs.length - s + 1) (cs.length - s + 1))), sI 9 (limitOf cs (s + i) l.toNat sp), sI 10 (s + i + 1 : Nat)] [bS5 nm l sp ac br, bInt (row (cs.length - s + 1) fun j => if j ≤ i then fwd cs s l.toNat sp ac j else 0)]) (fun i => s + i + 1 ≤ cs.length) (fun i => cs.length - i) 0 ?_ (by omega) ?_
  ·
    refine X_weak rfl rfl rfl ?_ ?_ <;> repeat' (first|with_reducible (first|refine Wk.o (by constructor) ?_|refine q_and ?_ ?_|exact True.intro)|refine q_AgS rfl ?_ ?_|exact CLe.nil_tipS|exact CLe.nil_rowS|refine HLe.cells ?_ ?_|refine HLe.els ?_ ?_|refine SLe.cons ?_ ?_|exact (rfl : known _ = _)|with_reducible rfl|omega)
    · rw [eN, row_zero]
      refine row_ext fun j hj => ?_
      by_cases hj0 : j ≤ 0
      · rw [if_pos hj0, show j = 0 by omega]; rfl
      · rw [if_neg hj0]
    · rfl
  intro i hi
  by_cases hlt : s + i + 1 < cs.length
  · have hL := limit_ok cs (s + i + 1) nm l sp ac br hlt hn (by omega) l2
    have hce := cell_of (List.all_eq_true.1 hall _ (List.getElem_mem (show s + i < cs.length by omega)))
    have eg : cs.getD (((s + i + 1 : Nat) : Int) - 1).toNat (0, 0) = cs[s + i] := by
      rw [show (((s + i + 1 : Nat) : Int) - 1).toNat = s + i by omega]; exact getD_at _ _ _
    rw [← eg] at hce
    have hG := gain_ok (cs.getD (((s + i + 1 : Nat) : Int) - 1).toNat (0, 0)) nm l sp ac br ⟨hce.2.2.1, hce.2.2.2⟩ l5 l6
    have hgr := gain_range (cs.getD (((s + i + 1 : Nat) : Int) - 1).toNat (0, 0)).2 ac l5 l6
    have a1 := limit_range cs (s + i) l.toNat sp l3 hall
    have a2 := limit_range cs (s + i + 1) l.toNat sp l3 hall
    have a3 := sq_range (limitOf cs (s + i) l.toNat sp) (limitOf cs (s + i + 1) l.toNat sp) a1.1 (by omega) a2.1 (by omega)
    have a4 := fwd_range cs s l.toNat sp ac l3 l4 l5 l6 hall i
    have a5 : (row (cs.length - s + 1) fun j => if j ≤ i then fwd cs s l.toNat sp ac j else 0).getD (((s + i + 1 : Nat) : Int) - 1 - s).toNat 0 = fwd cs s l.toNat sp ac i := by
      rw [show (((s + i + 1 : Nat) : Int) - 1 - s).toNat = i by omega, row_get (by omega), if_pos (Nat.le_refl _)]
    rw [← a5] at a4
    have a6 := row_len (cs.length - s + 1) fun j => if j ≤ i then fwd cs s l.toNat sp ac j else 0
    repeat' (first
      |with_reducible (first|refine q_and ?_ ?_|exact True.intro|exact TkEq.nil _|refine Red.o (by constructor) ?_|refine blockK_o' rfl ?_|refine LoopX_e' rfl ?_|assumption)
      |((with_reducible apply q_call);first|refine X_pure (hL) rfl ?_|refine X_pure (hG) rfl ?_)
      |((with_reducible apply q_CI);intro hbq;(try simp only [bq] at hbq);(try (exfalso;omega)))
      |refine Rex.o (by (with_reducible constructor);apply Eq.refl) ?_
      |(intro (hgq : (_ : Bool) = true);(try simp only [bq] at hgq))
      |(intro (hgq : (_ : Bool) = false);(try simp only [bq] at hgq))
      |((with_reducible apply q_VOk);exact fun _ => ⟨rfl,rfl⟩)|(intro _;exact rfl)|((with_reducible apply q_CRB);kernel_rfl)|((with_reducible apply q_bt);simp only [bq])|((with_reducible apply q_eqN);rfl)|((with_reducible apply q_FE);exact rfl)|with_reducible (first|exact isByte_wrap _|exact isByte_nat _)|(simp only [hgq,bq];done)|omega|(dsimp only;omega))
    · rfl
    ·
      refine LoopK_n (i + 1) ?_ ((by omega)) (by (try dsimp only); omega)
      refine X_weak rfl rfl rfl ?_ ?_ <;> repeat' (first|with_reducible (first|refine Wk.o (by constructor) ?_|refine q_and ?_ ?_|exact True.intro)|refine q_AgS rfl ?_ ?_|exact CLe.nil_tipS|exact CLe.nil_rowS|refine HLe.cells ?_ ?_|refine HLe.els ?_ ?_|refine SLe.cons ?_ ?_|exact (rfl : known _ = _)|with_reducible rfl|omega)
      · rw [a5, show (((s + i + 1 : Nat) : Int) - s).toNat = i + 1 by omega, show (((s + i + 1 : Nat) : Int) - 1).toNat = s + i by omega]
        refine row_set (i := i + 1) ?_ fun j hj hne => ?_
        · rw [if_pos (Nat.le_refl _)]; rfl
        · by_cases hji : j ≤ i
          · rw [if_pos hji, if_pos (by omega)]
          · rw [if_neg hji, if_neg (by omega)]
      · rfl
  ·
    repeat' (first
      |with_reducible (first|refine q_and ?_ ?_|exact True.intro|exact TkEq.nil _|refine Red.o (by constructor) ?_|refine blockK_o' rfl ?_|refine LoopX_e' rfl ?_|assumption)
      |((with_reducible apply q_CI);intro hbq;(try simp only [bq] at hbq);(try (exfalso;omega)))
      |refine Rex.o (by (with_reducible constructor);apply Eq.refl) ?_
      |(intro (hgq : (_ : Bool) = true);(try simp only [bq] at hgq))
      |(intro (hgq : (_ : Bool) = false);(try simp only [bq] at hgq))
      |((with_reducible apply q_VOk);exact fun _ => ⟨rfl,rfl⟩)|(intro _;exact rfl)|((with_reducible apply q_CRB);kernel_rfl)|((with_reducible apply q_bt);simp only [bq])|((with_reducible apply q_eqN);rfl)|((with_reducible apply q_FE);exact rfl)|with_reducible (first|exact isByte_wrap _|exact isByte_nat _)|(simp only [hgq,bq];done)|omega|(dsimp only;omega))
    refine W_loopS (fun d : Nat => SS [sC 0 (rCell cs), sI 1 s, sC 5 (pB 0), sI 7 cs.length, sC 8 (.c (.arr 1 0 (cs.length - s + 1) (cs.length - s + 1))), sI 13 ((cs.length : Int) - 1 - d)] [bS5 nm l sp ac br, bInt (row (cs.length - s + 1) fun j => if j + d < cs.length - s then fwd cs s l.toNat sp ac j else sqW cs s l.toNat sp ac br j)]) (fun d => s + d + 1 ≤ cs.length) (fun d => cs.length - d) 0 ?_ (by omega) ?_
    ·
      refine X_weak rfl rfl rfl ?_ ?_ <;> repeat' (first|with_reducible (first|refine Wk.o (by constructor) ?_|refine q_and ?_ ?_|exact True.intro)|refine q_AgS rfl ?_ ?_|exact CLe.nil_tipS|exact CLe.nil_rowS|refine HLe.cells ?_ ?_|refine HLe.els ?_ ?_|refine SLe.cons ?_ ?_|exact (rfl : known _ = _)|with_reducible rfl|omega)
      all_goals (
        refine row_ext fun j hj => ?_
        by_cases hji : j ≤ i
        · rw [if_pos hji, if_pos (by omega)]
        · rw [if_neg hji, if_neg (by omega), show j = cs.length - s by omega, sqW_end (by omega)])
    intro d hd
    by_cases hdl : s + d + 1 < cs.length
    · generalize he : cs.length - 1 - d - s = e
      have e1 : ((cs.length : Int) - 1 - d).toNat = s + e := by omega
      have hce := cell_of (List.all_eq_true.1 hall _ (List.getElem_mem (show s + e < cs.length by omega)))
      have eg : cs.getD ((cs.length : Int) - 1 - d).toNat (0, 0) = cs[s + e] := by rw [e1]; exact getD_at _ _ _
      rw [← eg] at hce
      have hG := loss_ok (cs.getD ((cs.length : Int) - 1 - d).toNat (0, 0)) nm l sp ac br ⟨hce.2.2.1, hce.2.2.2⟩ l7 l8
      have hgr := loss_range (cs.getD ((cs.length : Int) - 1 - d).toNat (0, 0)).2 br l7 l8
      have a6 := row_len (cs.length - s + 1) fun j => if j + d < cs.length - s then fwd cs s l.toNat sp ac j else sqW cs s l.toNat sp ac br j
      have a4 := sqW_range (start := s) (l := l.toNat) l3 l4 l5 l6 l7 l8 hall (e + 1)
      have a5 : (row (cs.length - s + 1) fun j => if j + d < cs.length - s then fwd cs s l.toNat sp ac j else sqW cs s l.toNat sp ac br j).getD ((cs.length : Int) - 1 - d + 1 - s).toNat 0 = sqW cs s l.toNat sp ac br (e + 1) := by
        rw [show ((cs.length : Int) - 1 - d + 1 - s).toNat = e + 1 by omega, row_get (by omega), if_neg (by omega)]
      have a7 : (row (cs.length - s + 1) fun j => if j + d < cs.length - s then fwd cs s l.toNat sp ac j else sqW cs s l.toNat sp ac br j).getD ((cs.length : Int) - 1 - d - s).toNat 0 = fwd cs s l.toNat sp ac e := by
        rw [show ((cs.length : Int) - 1 - d - s).toNat = e by omega, row_get (by omega), if_pos (by omega)]
      rw [← a5] at a4
      repeat' (first
        |with_reducible (first|refine q_and ?_ ?_|exact True.intro|exact TkEq.nil _|refine Red.o (by constructor) ?_|refine blockK_o' rfl ?_|refine LoopX_e' rfl ?_|assumption)
        |((with_reducible apply q_call);refine X_pure (hG) rfl ?_)
        |((with_reducible apply q_CI);intro hbq;(try simp only [bq] at hbq);(try (exfalso;omega)))
        |refine Rex.o (by (with_reducible constructor);apply Eq.refl) ?_
        |(intro (hgq : (_ : Bool) = true);(try simp only [bq] at hgq))
        |(intro (hgq : (_ : Bool) = false);(try simp only [bq] at hgq))
        |((with_reducible apply q_VOk);exact fun _ => ⟨rfl,rfl⟩)|(intro _;exact rfl)|((with_reducible apply q_CRB);kernel_rfl)|((with_reducible apply q_bt);simp only [bq])|((with_reducible apply q_eqN);rfl)|((with_reducible apply q_FE);exact rfl)|with_reducible (first|exact isByte_wrap _|exact isByte_nat _)|(simp only [hgq,bq];done)|omega|(dsimp only;omega))
      · rfl
      ·
        refine LoopK_n (d + 1) ?_ ((by omega)) (by (try dsimp only); omega)
        refine X_weak rfl rfl rfl ?_ ?_ <;> repeat' (first|with_reducible (first|refine Wk.o (by constructor) ?_|refine q_and ?_ ?_|exact True.intro)|refine q_AgS rfl ?_ ?_|exact CLe.nil_tipS|exact CLe.nil_rowS|refine HLe.cells ?_ ?_|refine HLe.els ?_ ?_|refine SLe.cons ?_ ?_|exact (rfl : known _ = _)|with_reducible rfl|omega)
        all_goals (
          rw [a5, a7, show ((cs.length : Int) - 1 - d - s).toNat = e by omega, e1]
          refine row_set (i := e) ?_ fun j hj hne => ?_
          · rw [if_neg (by omega)]
            exact sqW_mid e (by omega) (by omega)
          · by_cases hji : j + d < cs.length - s
            · rw [if_pos hji, if_pos (by omega)]
            · rw [if_neg hji, if_neg (by omega)])
    ·
      have hr : row (cs.length - s + 1) (fun j => if j + d < cs.length - s then fwd cs s l.toNat sp ac j else sqW cs s l.toNat sp ac br j) = row (cs.length - s + 1) (sqW cs s l.toNat sp ac br) := row_ext fun j hj => by
        by_cases hj0 : j + d < cs.length - s
        · rw [if_pos hj0, show j = 0 by omega, sqW_zero]; rfl
        · rw [if_neg hj0]
      repeat' (first
        |with_reducible (first|refine q_and ?_ ?_|exact True.intro|exact TkEq.nil _|refine Red.o (by constructor) ?_|refine blockK_o' rfl ?_|refine LoopX_e' rfl ?_|assumption)
        |((with_reducible apply q_CI);intro hbq;(try simp only [bq] at hbq);(try (exfalso;omega)))
        |refine Rex.o (by (with_reducible constructor);apply Eq.refl) ?_
        |(intro (hgq : (_ : Bool) = true);(try simp only [bq] at hgq))
        |(intro (hgq : (_ : Bool) = false);(try simp only [bq] at hgq))
        |((with_reducible apply q_VOk);exact fun _ => ⟨rfl,rfl⟩)|(intro _;exact rfl)|((with_reducible apply q_CRB);kernel_rfl)|((with_reducible apply q_bt);simp only [bq])|((with_reducible apply q_eqN);rfl)|((with_reducible apply q_FE);exact rfl)|with_reducible (first|exact isByte_wrap _|exact isByte_nat _)|(simp only [hgq,bq];done)|omega|(dsimp only;omega))
      · rfl
      · rw [hr]
        repeat' (first|with_reducible (first|refine Wk.o (by constructor) ?_|refine q_and ?_ ?_|exact True.intro)|refine VEq.c ?_|refine VEq.agg ?_|refine VEq.tup ?_|refine TkEq.cells ?_ ?_|refine TkEq.els ?_ ?_|refine SEqL.cons ?_ ?_|refine TEqL.agg ?_ ?_|refine CEq.rows ?_|refine CEq.int ?_|rfl|omega)
end Go.Proofs.Ytbpeakgihhdocaa.Av
namespace Go.Proofs.Ytbpeakgihhdocaa
open Go.RowKit
set_option linter.unusedVariables false
theorem refFloor_any (a b : Int) (w : World) (ha : -9223372036854775808 ≤ a) (ha' : a ≤ 9223372036854775807) (hb : 1 ≤ b) (hb' : b ≤ 9223372036854775807) :
    Calls Try.prog 68 #[.int .i64 a, .int .i64 b] w fun e w' => e = .returned (.int .i64 (a / b)) ∧ w = w' := by
  by_cases h : 0 ≤ a
  · have h1 := Int.emod_nonneg a (show b ≠ 0 by omega)
    have h2 := Pl.ediv_le_self' a b h hb
    go_enter Try.func68, Try.ntmps68
    go_wp2
    go_ret
    exact ⟨rfl, rfl⟩
  · obtain ⟨h1, h2, h3, h4⟩ := Pl.tdiv_of_neg a b (by omega) hb
    have H4 := Lib.hid h4
    clear h4
    by_cases ht : a.tmod b < 0
    · obtain ⟨h5, h6⟩ := h3 ht
      have H6 := Lib.hid h6
      clear h3 h6
      go_enter Try.func68, Try.ntmps68
      go_wp2
      go_ret
      exact ⟨ret_int H6.out, rfl⟩
    · clear h3
      go_enter Try.func68, Try.ntmps68
      go_wp2
      go_ret
      exact ⟨ret_int (H4.out ht), rfl⟩
theorem floorDiv_any (a b : Int) (w : World) (ha : -9223372036854775808 ≤ a) (ha' : a ≤ 9223372036854775807) (hb : 1 ≤ b) (hb' : b ≤ 9223372036854775807) :
    Calls Try.prog 87 #[.int .i64 a, .int .i64 b] w fun e w' => e = .returned (.tuple #[.int .i64 (a / b), .int .i64 0]) ∧ w = w' := by
  by_cases h : 0 ≤ a
  · have h1 := Int.emod_nonneg a (show b ≠ 0 by omega)
    have h2 := Pl.ediv_le_self' a b h hb
    go_enter Try.func87, Try.ntmps87
    go_wp2
    go_ret2
    exact ⟨rfl, rfl⟩
  · obtain ⟨h1, h2, h3, h4⟩ := Pl.tdiv_of_neg a b (by omega) hb
    have H4 := Lib.hid h4
    clear h4
    by_cases ht : a.tmod b < 0
    · obtain ⟨h5, h6⟩ := h3 ht
      have H6 := Lib.hid h6
      clear h3 h6
      go_enter Try.func87, Try.ntmps87
      go_wp2
      go_ret2
      exact ⟨ret_int2 H6.out rfl, rfl⟩
    · clear h3
      go_enter Try.func87, Try.ntmps87
      go_wp2
      go_ret2
      exact ⟨ret_int2 (H4.out ht) rfl, rfl⟩
theorem refCeil_any (a b : Int) (w : World) (ha : -9223372036854775808 ≤ a) (ha' : a ≤ 9223372036854775807) (hb : 1 ≤ b) (hb' : b ≤ 9223372036854775807) :
    Calls Try.prog 13 #[.int .i64 a, .int .i64 b] w fun e w' => e = .returned (.int .i64 (Pl.cdiv a b)) ∧ w = w' := by
  by_cases h : 0 ≤ a
  · have h1 := Int.emod_nonneg a (show b ≠ 0 by omega)
    have h2 := Pl.ediv_le_self' a b h hb
    by_cases hr : 0 < a % b
    · have h3 : a / b < a := by
        have := Int.ediv_mul_add_emod a b
        have := Int.mul_le_mul_of_nonneg_left hb h2.1
        omega
      have H := Lib.hid (Pl.cdiv_pos a b h hb hr)
      go_enter Try.func13, Try.ntmps13
      go_wp2
      go_ret
      exact ⟨ret_int H.out.symm, rfl⟩
    · have H := Lib.hid (Pl.cdiv_zero a b hb (by omega))
      go_enter Try.func13, Try.ntmps13
      go_wp2
      go_ret
      exact ⟨ret_int H.out.symm, rfl⟩
  · obtain ⟨h1, h2, h3, h4⟩ := Pl.tdiv_of_neg a b (by omega) hb
    obtain ⟨g1, g2, g3, g4⟩ := Pl.tmod_of_neg a b (by omega) hb
    have H := Lib.hid (Pl.cdiv_neg a b (by omega) hb)
    clear h4 h3 g3 g4
    go_enter Try.func13, Try.ntmps13
    go_wp2
    go_ret
    exact ⟨ret_int H.out.symm, rfl⟩
theorem ceilDiv_any (a b : Int) (w : World) (ha : -9223372036854775808 ≤ a) (ha' : a ≤ 9223372036854775807) (hb : 1 ≤ b) (hb' : b ≤ 9223372036854775807) :
    Calls Try.prog 52 #[.int .i64 a, .int .i64 b] w fun e w' => e = .returned (.tuple #[.int .i64 (Pl.cdiv a b), .int .i64 0]) ∧ w = w' := by
  by_cases h : 0 ≤ a
  · have h1 := Int.emod_nonneg a (show b ≠ 0 by omega)
    have h2 := Pl.ediv_le_self' a b h hb
    by_cases hr : 0 < a % b
    · have h3 : a / b < a := by
        have := Int.ediv_mul_add_emod a b
        have := Int.mul_le_mul_of_nonneg_left hb h2.1
        omega
      have H := Lib.hid (Pl.cdiv_pos a b h hb hr)
      go_enter Try.func52, Try.ntmps52
      go_wp2
      go_ret2
      exact ⟨ret_int2 H.out.symm rfl, rfl⟩
    · have H := Lib.hid (Pl.cdiv_zero a b hb (by omega))
      go_enter Try.func52, Try.ntmps52
      go_wp2
      go_ret2
      exact ⟨ret_int2 H.out.symm rfl, rfl⟩
  · obtain ⟨h1, h2, h3, h4⟩ := Pl.tdiv_of_neg a b (by omega) hb
    obtain ⟨g1, g2, g3, g4⟩ := Pl.tmod_of_neg a b (by omega) hb
    have H := Lib.hid (Pl.cdiv_neg a b (by omega) hb)
    clear h4 h3 g3 g4
    go_enter Try.func52, Try.ntmps52
    go_wp2
    go_ret2
    exact ⟨ret_int2 H.out.symm rfl, rfl⟩
end Go.Proofs.Ytbpeakgihhdocaa
namespace Go.Proofs.Ytbpeakgihhdocaa
open Go.RowKit
set_option linter.unusedVariables false
theorem sqrt_any (n : Nat) (w : World) (hn : (n : Int) ≤ 9223372036854775807) :
    Calls Try.prog 79 #[.int .i64 n] w fun e w' => e = .returned (.int .i64 (Pl.isqrt n : Nat)) ∧ w = w' := by
  go_enter Try.func79, Try.ntmps79
  go_wp2
  go_loop [3, 4] (fun u v => ∃ k p r : Nat, Hid (p = 2 ^ k) ∧ k ≤ 32 ∧ r + p ≤ 4294967296 ∧ Hid (r * r ≤ n ∧ n < (r + p) * (r + p)) ∧ u = .int .i64 r ∧ v = .int .i64 ((p / 2 : Nat) : Int)) (fun _ v => (intOf v).toNat)
  case atStart => exact ⟨32, 4294967296, 0, Lib.hid rfl, by omega, by omega, Lib.hid (by omega), rfl, rfl⟩
  case round =>
    obtain ⟨k, p, r, Hp, hk, hr, Hn, rfl, rfl⟩ := hrel
    cases k with
    | zero =>
      have hp : p = 1 := Hp.out
      subst hp
      go_wp2
      go_ret
      exact ⟨ret_int (by rw [Pl.isqrt_unique n r Hn.out.1 Hn.out.2]), rfl⟩
    | succ k =>
      obtain ⟨q, Hq⟩ : ∃ q : Nat, Hid (q = 2 ^ k) := ⟨_, Lib.hid rfl⟩
      obtain rfl : p = 2 * q := by rw [Hp.out, Hq.out, Nat.pow_succ]; omega
      have hq : 1 ≤ q := by rw [Hq.out]; exact Nat.one_le_two_pow
      have hle : Hid (r + q ≤ n / (r + q) ↔ (r + q) * (r + q) ≤ n) := Lib.hid (Nat.le_div_iff_mul_le (by omega))
      have hi1 : (n : Int) / ((r : Int) + (q : Int)) = ((n / (r + q) : Nat) : Int) := by simp
      have hi2 : (n : Int) / ((r : Int) + (q : Int)) ≤ 9223372036854775807 := by
        rw [hi1]; have := Nat.div_le_self n (r + q); omega
      rw [show 2 * q / 2 = q by omega]
      by_cases hd : r + q ≤ n / (r + q)
      · have hi3 : (r : Int) + (q : Int) ≤ (n : Int) / ((r : Int) + (q : Int)) := by rw [hi1]; omega
        have Hm : Hid ((r + q) * (r + q) ≤ n ∧ n < (r + q + q) * (r + q + q)) := Lib.hid ⟨hle.out.1 hd, by rw [Nat.add_assoc, ← Nat.two_mul]; exact Hn.out.2⟩
        clear hi1 hd
        go_wp2
        go_round
        case rel => exact ⟨k, q, r + q, Hq, by omega, by omega, Hm, by go_num, by go_num⟩
        case measure => simp [intOf]; omega
      · have hi3 : (n : Int) / ((r : Int) + (q : Int)) < (r : Int) + (q : Int) := by rw [hi1]; omega
        have hi4 : 0 ≤ (n : Int) / ((r : Int) + (q : Int)) := by rw [hi1]; exact Int.natCast_nonneg _
        have Hm : Hid (r * r ≤ n ∧ n < (r + q) * (r + q)) := Lib.hid ⟨Hn.out.1, Nat.lt_of_not_le (fun h => hd (hle.out.2 h))⟩
        clear hi1 hd
        go_wp2
        go_round
        case rel => exact ⟨k, q, r, Hq, by omega, by omega, Hm, rfl, by go_num⟩
        case measure => simp [intOf]; omega
end Go.Proofs.Ytbpeakgihhdocaa
namespace Go.Proofs.Ytbpeakgihhdocaa.Av
open Go.RowKit
set_option linter.unusedVariables false
set_option linter.unusedSimpArgs false
theorem two_arg {vals : Array Value} (h : vals.size = 2) : vals = #[vals[0], vals[1]] := by
  apply Array.ext
  · simp [h]
  · intro i h1 h2
    match i, h2 with
    | 0, _ => rfl
    | 1, _ => rfl
theorem refFloor_ok (a b : Int) (ha : -9223372036854775808 ≤ a ∧ a ≤ 9223372036854775807) (hb : 1 ≤ b ∧ b ≤ 9223372036854775807) : Ok Try.prog 68 [i64 a, i64 b] [] (i64 (HDiv.hDiv a b)) [] := by
  refine ok_old _ Try.func68 (by kernel_rfl) (by kernel_rfl) rfl rfl fun w κ ρ vals hv hr => ⟨_, plain_i, ?_⟩
  have hv : vals.size = 2 := hv
  have h0 : vals[0] = .int .i64 a := (repF_v.1 (hr 0 (by simp) (by omega) (.slot 0))).1
  have h1 : vals[1] = .int .i64 b := (repF_v.1 (hr 1 (by simp) (by omega) (.slot 0))).1
  rw [two_arg hv, h0, h1]
  exact (refFloor_any a b w ha.1 ha.2 hb.1 hb.2).mono fun e w' ⟨h1, h2⟩ => ⟨h1, by subst h2; exact Below.refl _ _⟩
theorem ceilDiv_ok (a b : Int) (ha : -9223372036854775808 ≤ a ∧ a ≤ 9223372036854775807) (hb : 1 ≤ b ∧ b ≤ 9223372036854775807) : Ok Try.prog 52 [i64 a, i64 b] [] (.tup [.c (.f (.v (.int .i64 (Pl.cdiv a b)))), .c (.f (.v (.int .i64 0)))]) [] := by
  refine ok_old _ Try.func52 (by kernel_rfl) (by kernel_rfl) rfl rfl fun w κ ρ vals hv hr => ⟨_, plain_2 plain_i plain_i rfl rfl, ?_⟩
  have hv : vals.size = 2 := hv
  have h0 : vals[0] = .int .i64 a := (repF_v.1 (hr 0 (by simp) (by omega) (.slot 0))).1
  have h1 : vals[1] = .int .i64 b := (repF_v.1 (hr 1 (by simp) (by omega) (.slot 0))).1
  rw [two_arg hv, h0, h1]
  exact (ceilDiv_any a b w ha.1 ha.2 hb.1 hb.2).mono fun e w' ⟨h1, h2⟩ => ⟨h1, by subst h2; exact Below.refl _ _⟩
theorem ceilDiv_okV (a b : Int) (ha : -9223372036854775808 ≤ a ∧ a ≤ 9223372036854775807) (hb : 1 ≤ b ∧ b ≤ 9223372036854775807) : OkV Try.prog 52 [.c (xI a), .c (xI b)] [] (.tup [.c (xI (Pl.cdiv a b)), .c (xI 0)]) [] := ceilDiv_ok a b ha hb
theorem sqrt_ok (a : Int) (ha : 0 ≤ a ∧ a ≤ 9223372036854775807) : Ok Try.prog 79 [i64 a] [] (i64 (Pl.isqrt a.toNat : Nat)) [] := by
  refine ok_old _ Try.func79 (by kernel_rfl) (by kernel_rfl) rfl rfl fun w κ ρ vals hv hr => ⟨_, plain_i, ?_⟩
  have hv : vals.size = 1 := hv
  have h0 : vals[0] = .int .i64 a := (repF_v.1 (hr 0 (by simp) (by omega) (.slot 0))).1
  rw [one_arg hv, h0]
  obtain ⟨m, rfl⟩ := Int.eq_ofNat_of_zero_le ha.1
  exact (sqrt_any m w ha.2).mono fun e w' ⟨h1, h2⟩ => ⟨h1, by subst h2; exact Below.refl _ _⟩
theorem sqrt_okV (a : Int) (ha : 0 ≤ a ∧ a ≤ 9223372036854775807) : OkV Try.prog 79 [.c (xI a)] [] (vI (Pl.isqrt a.toNat : Nat)) [] := sqrt_ok a ha
end Go.Proofs.Ytbpeakgihhdocaa.Av
namespace Go.Proofs.Ytbpeakgihhdocaa.Av
set_option linter.unusedVariables false
set_option linter.unusedSimpArgs false
set_option maxRecDepth 4000
set_option maxHeartbeats 4000000
def speedL (cs : List (Int × Int)) (s : Int) (l sp ac br : Int) : List Int := if badRun cs s l sp ac br = 0 then row (cs.length - s.toNat + 1) (fun j => ((spd cs s.toNat l.toNat sp ac br j : Nat) : Int)) else []
def timeL (cs : List (Int × Int)) (s : Int) (l sp ac br : Int) : List Int := if badRun cs s l sp ac br = 0 then row (cs.length - s.toNat + 1) (tim cs s.toNat l.toNat sp ac br) else []
theorem speeds_ok (cs : List (Int × Int)) (start : Int) (nm : ByteArray) (l sp ac br : Int) (hl : cs.length ≤ 4611686018427387904) : OkV Try.prog 51 [.c (rCell cs), .c (xI start), vS5 nm l sp ac br] [] (.tup [.c (rInt (speedL cs start l sp ac br)), .c (xI (badRun cs start l sp ac br))]) [] := by
  have hC := checkRun_ok cs start nm l sp ac br hl
  unfold speedL
  by_cases h : badRun cs start l sp ac br = 0
  · obtain ⟨hc, hn, hall, h0, h2⟩ := bad_zero h
    obtain ⟨l1, l2, l3, l4, l5, l6, l7, l8⟩ := chk_of hc
    obtain ⟨s, rfl⟩ := Int.eq_ofNat_of_zero_le h0
    have hS := squares_ok cs s nm l sp ac br h
    rw [h] at hC ⊢
    rw [if_pos rfl]
    simp only [Int.toNat_natCast]
    refine X_fnP mixedX Try.func51 rfl (by kernel_rfl) (Nat.le_of_ble_eq_true (by kernel_rfl)) (by kernel_rfl) rfl rfl ?_
    simp only [sl0, Nat.zero_add, Nat.reduceAdd]
    repeat' (first
      |with_reducible (first|refine q_and ?_ ?_|exact True.intro|exact TkEq.nil _|refine Red.o (by constructor) ?_|refine blockK_o' rfl ?_|refine LoopX_e' rfl ?_|assumption)
      |((with_reducible apply q_call);first|refine X_pure (hC) rfl ?_|refine X_call [] (hS) rfl rfl rfl rfl rfl rfl rfl rfl rfl rfl rfl rfl rfl ?_)
      |((with_reducible apply q_CI);intro hbq;(try simp only [bq] at hbq);(try (exfalso;omega)))
      |refine Rex.o (by (with_reducible constructor);apply Eq.refl) ?_
      |(intro (hgq : (_ : Bool) = true);(try simp only [bq] at hgq))
      |(intro (hgq : (_ : Bool) = false);(try simp only [bq] at hgq))
      |((with_reducible apply q_VOk);exact fun _ => ⟨rfl,rfl⟩)|(intro _;exact rfl)|((with_reducible apply q_CRB);kernel_rfl)|((with_reducible apply q_bt);simp only [bq])|((with_reducible apply q_eqN);rfl)|((with_reducible apply q_FE);exact rfl)|with_reducible (first|exact isByte_wrap _|exact isByte_nat _)|(simp only [hgq,bq];done)|omega|(dsimp only;omega))
    clear hC hS
    refine W_loopS (fun i : Nat => SS [sC 9 (.c (.arr 2 0 (cs.length - s + 1) (cs.length - s + 1))), sC 23 (.c (.arr 2 0 (cs.length - s + 1) (cs.length - s + 1))), sI 24 (cs.length - s + 1 : Nat), sI 25 i] [none, none, bInt (row (cs.length - s + 1) fun j => if j < i then ((spd cs s l.toNat sp ac br j : Nat) : Int) else sqW cs s l.toNat sp ac br j)]) (fun i => i ≤ cs.length - s + 1) (fun i => cs.length - s + 1 - i) 0 ?_ (by omega) ?_
    ·
      refine X_weak rfl rfl rfl ?_ ?_ <;> repeat' (first|with_reducible (first|refine Wk.o (by constructor) ?_|refine q_and ?_ ?_|exact True.intro)|refine q_AgS rfl ?_ ?_|exact CLe.nil_tipS|exact CLe.nil_rowS|refine HLe.cells ?_ ?_|refine HLe.els ?_ ?_|refine SLe.cons ?_ ?_|exact (rfl : known _ = _)|with_reducible rfl|omega)
      all_goals rfl
    intro i hi
    have a6 := row_len (cs.length - s + 1) fun j => if j < i then ((spd cs s l.toNat sp ac br j : Nat) : Int) else sqW cs s l.toNat sp ac br j
    have a4 := sqW_range (start := s) (l := l.toNat) l3 l4 l5 l6 l7 l8 hall i
    by_cases hil : i < cs.length - s + 1
    · have a5 : (row (cs.length - s + 1) fun j => if j < i then ((spd cs s l.toNat sp ac br j : Nat) : Int) else sqW cs s l.toNat sp ac br j).getD (i : Int).toNat 0 = sqW cs s l.toNat sp ac br i := by
        rw [Int.toNat_natCast, row_get hil, if_neg (by omega)]
      have hQ := sqrt_okV ((row (cs.length - s + 1) fun j => if j < i then ((spd cs s l.toNat sp ac br j : Nat) : Int) else sqW cs s l.toNat sp ac br j).getD (i : Int).toNat 0) (by rw [a5]; omega)
      repeat' (first
        |with_reducible (first|refine q_and ?_ ?_|exact True.intro|exact TkEq.nil _|refine Red.o (by constructor) ?_|refine blockK_o' rfl ?_|refine LoopX_e' rfl ?_|assumption)
        |((with_reducible apply q_call);refine X_pure (hQ) rfl ?_)
        |((with_reducible apply q_CI);intro hbq;(try simp only [bq] at hbq);(try (exfalso;omega)))
        |refine Rex.o (by (with_reducible constructor);apply Eq.refl) ?_
        |(intro (hgq : (_ : Bool) = true);(try simp only [bq] at hgq))
        |(intro (hgq : (_ : Bool) = false);(try simp only [bq] at hgq))
        |((with_reducible apply q_VOk);exact fun _ => ⟨rfl,rfl⟩)|(intro _;exact rfl)|((with_reducible apply q_CRB);kernel_rfl)|((with_reducible apply q_bt);simp only [bq])|((with_reducible apply q_eqN);rfl)|((with_reducible apply q_FE);exact rfl)|with_reducible (first|exact isByte_wrap _|exact isByte_nat _)|(simp only [hgq,bq];done)|omega|(dsimp only;omega))
      · rfl
      ·
        refine LoopK_n (i + 1) ?_ ((by omega)) (by (try dsimp only); omega)
        refine X_weak rfl rfl rfl ?_ ?_ <;> repeat' (first|with_reducible (first|refine Wk.o (by constructor) ?_|refine q_and ?_ ?_|exact True.intro)|refine q_AgS rfl ?_ ?_|exact CLe.nil_tipS|exact CLe.nil_rowS|refine HLe.cells ?_ ?_|refine HLe.els ?_ ?_|refine SLe.cons ?_ ?_|exact (rfl : known _ = _)|with_reducible rfl|omega)
        all_goals (
          rw [a5, Int.toNat_natCast]
          refine row_set (i := i) ?_ fun j hj hne => ?_
          · rw [if_pos (by omega)]; rfl
          · by_cases hji : j < i
            · rw [if_pos hji, if_pos (by omega)]
            · rw [if_neg hji, if_neg (by omega)])
    · have hr : row (cs.length - s + 1) (fun j => if j < i then ((spd cs s l.toNat sp ac br j : Nat) : Int) else sqW cs s l.toNat sp ac br j) = row (cs.length - s + 1) fun j => ((spd cs s l.toNat sp ac br j : Nat) : Int) := row_ext fun j hj => if_pos (by omega)
      repeat' (first
        |with_reducible (first|refine q_and ?_ ?_|exact True.intro|exact TkEq.nil _|refine Red.o (by constructor) ?_|refine blockK_o' rfl ?_|refine LoopX_e' rfl ?_|assumption)
        |((with_reducible apply q_CI);intro hbq;(try simp only [bq] at hbq);(try (exfalso;omega)))
        |refine Rex.o (by (with_reducible constructor);apply Eq.refl) ?_
        |(intro (hgq : (_ : Bool) = true);(try simp only [bq] at hgq))
        |(intro (hgq : (_ : Bool) = false);(try simp only [bq] at hgq))
        |((with_reducible apply q_VOk);exact fun _ => ⟨rfl,rfl⟩)|(intro _;exact rfl)|((with_reducible apply q_CRB);kernel_rfl)|((with_reducible apply q_bt);simp only [bq])|((with_reducible apply q_eqN);rfl)|((with_reducible apply q_FE);exact rfl)|with_reducible (first|exact isByte_wrap _|exact isByte_nat _)|(simp only [hgq,bq];done)|omega|(dsimp only;omega))
      rw [hr]; rfl
  · rw [if_neg h]
    refine X_fn mixedX Try.func51 rfl (by kernel_rfl) (Nat.le_of_ble_eq_true (by kernel_rfl)) (by kernel_rfl) rfl rfl (Nat.le_of_ble_eq_true rfl) rfl rfl ?_
    simp only [sl0, Nat.zero_add, Nat.reduceAdd]
    repeat' (first
      |with_reducible (first|refine q_and ?_ ?_|exact True.intro|exact TkEq.nil _|refine Red.o (by constructor) ?_|refine blockK_o' rfl ?_|refine LoopX_e' rfl ?_|assumption)
      |((with_reducible apply q_call);refine X_pure (hC) rfl ?_)
      |((with_reducible apply q_CI);intro hbq;(try simp only [bq] at hbq);(try (exfalso;omega)))
      |refine Rex.o (by (with_reducible constructor);apply Eq.refl) ?_
      |(intro (hgq : (_ : Bool) = true);(try simp only [bq] at hgq))
      |(intro (hgq : (_ : Bool) = false);(try simp only [bq] at hgq))
      |((with_reducible apply q_VOk);exact fun _ => ⟨rfl,rfl⟩)|(intro _;exact rfl)|((with_reducible apply q_CRB);kernel_rfl)|((with_reducible apply q_bt);simp only [bq])|((with_reducible apply q_eqN);rfl)|((with_reducible apply q_FE);exact rfl)|with_reducible (first|exact isByte_wrap _|exact isByte_nat _)|(simp only [hgq,bq];done)|omega|(dsimp only;omega))
    · rfl
theorem times_ok (cs : List (Int × Int)) (start : Int) (nm : ByteArray) (l sp ac br : Int) (hl : cs.length ≤ 4611686018427387904) : OkV Try.prog 32 [.c (rCell cs), .c (xI start), vS5 nm l sp ac br] [] (.tup [.c (rInt (timeL cs start l sp ac br)), .c (xI (badRun cs start l sp ac br))]) [] := by
  have hC := speeds_ok cs start nm l sp ac br hl
  unfold timeL
  by_cases h : badRun cs start l sp ac br = 0
  · obtain ⟨hc, hn, hall, h0, h2⟩ := bad_zero h
    obtain ⟨l1, l2, l3, l4, l5, l6, l7, l8⟩ := chk_of hc
    obtain ⟨s, rfl⟩ := Int.eq_ofNat_of_zero_le h0
    unfold speedL at hC
    rw [h, if_pos rfl] at hC
    rw [h, if_pos rfl]
    simp only [Int.toNat_natCast] at hC ⊢
    have b6 := row_len (cs.length - s + 1) fun j => ((spd cs s l.toNat sp ac br j : Nat) : Int)
    have b5 : ∀ j, j < cs.length - s + 1 → (row (cs.length - s + 1) fun j => ((spd cs s l.toNat sp ac br j : Nat) : Int)).getD j 0 = spd cs s l.toNat sp ac br j := fun j hj => row_get hj
    generalize (row (cs.length - s + 1) fun j => ((spd cs s l.toNat sp ac br j : Nat) : Int)) = vs at hC b6 b5
    refine X_fnP mixedX Try.func32 rfl (by kernel_rfl) (Nat.le_of_ble_eq_true (by kernel_rfl)) (by kernel_rfl) rfl rfl ?_
    simp only [sl0, Nat.zero_add, Nat.reduceAdd]
    repeat' (first
      |with_reducible (first|refine q_and ?_ ?_|exact True.intro|exact TkEq.nil _|refine Red.o (by constructor) ?_|refine blockK_o' rfl ?_|refine LoopX_e' rfl ?_|assumption)
      |((with_reducible apply q_call);refine X_pure (hC) rfl ?_)
      |((with_reducible apply q_CI);intro hbq;(try simp only [bq] at hbq);(try (exfalso;omega)))
      |refine Rex.o (by (with_reducible constructor);apply Eq.refl) ?_
      |(intro (hgq : (_ : Bool) = true);(try simp only [bq] at hgq))
      |(intro (hgq : (_ : Bool) = false);(try simp only [bq] at hgq))
      |((with_reducible apply q_VOk);exact fun _ => ⟨rfl,rfl⟩)|(intro _;exact rfl)|((with_reducible apply q_CRB);kernel_rfl)|((with_reducible apply q_bt);simp only [bq])|((with_reducible apply q_eqN);rfl)|((with_reducible apply q_FE);exact rfl)|with_reducible (first|exact isByte_wrap _|exact isByte_nat _)|(simp only [hgq,bq];done)|omega|(dsimp only;omega))
    clear hC
    refine W_loopS (fun i : Nat => SS [sC 8 (rInt vs), sC 10 (.c (.arr 1 0 (cs.length - s + 1) (cs.length - s + 1))), sI 11 (i + 1 : Nat)] [none, bInt (row (cs.length - s + 1) fun j => if j ≤ i then tim cs s l.toNat sp ac br j else 0)]) (fun i => i ≤ cs.length - s) (fun i => cs.length - s - i) 0 ?_ (by omega) ?_
    ·
      refine X_weak rfl rfl rfl ?_ ?_ <;> repeat' (first|with_reducible (first|refine Wk.o (by constructor) ?_|refine q_and ?_ ?_|exact True.intro)|refine q_AgS rfl ?_ ?_|exact CLe.nil_tipS|exact CLe.nil_rowS|refine HLe.cells ?_ ?_|refine HLe.els ?_ ?_|refine SLe.cons ?_ ?_|exact (rfl : known _ = _)|with_reducible rfl|omega)
      all_goals first
        | (rw [b6]; rfl)
        | (
          rw [b6, Int.toNat_natCast, row_zero]
          refine row_ext fun j hj => ?_
          by_cases hj0 : j ≤ 0
          · rw [if_pos hj0, show j = 0 by omega]; rfl
          · rw [if_neg hj0])
    intro i hi
    have a6 := row_len (cs.length - s + 1) fun j => if j ≤ i then tim cs s l.toNat sp ac br j else 0
    by_cases hil : i < cs.length - s
    · have e1 : (((i + 1 : Nat) : Int) - 1).toNat = i := by omega
      have e2 : ((i + 1 : Nat) : Int).toNat = i + 1 := by omega
      have a5 : (row (cs.length - s + 1) fun j => if j ≤ i then tim cs s l.toNat sp ac br j else 0).getD (((i + 1 : Nat) : Int) - 1).toNat 0 = tim cs s l.toNat sp ac br i := by
        rw [e1, row_get (by omega), if_pos (Nat.le_refl _)]
      have a4 := tim_range (start := s) (l := l.toNat) l3 l4 l5 l6 l7 l8 hall (by omega) i (by omega)
      have a7 := spd_sum (start := s) (l := l.toNat) l3 l4 l5 l6 l7 l8 hall (by omega) i hil
      have a8 := step_range (start := s) (l := l.toNat) l3 l4 l5 l6 l7 l8 hall (by omega) i hil
      have c1 := b5 i (by omega)
      have c2 := b5 (i + 1) (by omega)
      have c3 : vs.getD (((i + 1 : Nat) : Int) - 1).toNat 0 = spd cs s l.toNat sp ac br i := by rw [e1, c1]
      have c4 : vs.getD ((i + 1 : Nat) : Int).toNat 0 = spd cs s l.toNat sp ac br (i + 1) := by rw [e2, c2]
      have c5 : Pl.cdiv 20000000 (vs.getD (((i + 1 : Nat) : Int) - 1).toNat 0 + vs.getD ((i + 1 : Nat) : Int).toNat 0) = Pl.cdiv 20000000 ((spd cs s l.toNat sp ac br i : Int) + spd cs s l.toNat sp ac br (i + 1)) := by rw [c3, c4]
      rw [← c5] at a8
      have hQ := ceilDiv_okV 20000000 (vs.getD (((i + 1 : Nat) : Int) - 1).toNat 0 + vs.getD ((i + 1 : Nat) : Int).toNat 0) (by omega) (by rw [c3, c4]; omega)
      repeat' (first
        |with_reducible (first|refine q_and ?_ ?_|exact True.intro|exact TkEq.nil _|refine Red.o (by constructor) ?_|refine blockK_o' rfl ?_|refine LoopX_e' rfl ?_|assumption)
        |((with_reducible apply q_call);refine X_pure (hQ) rfl ?_)
        |((with_reducible apply q_CI);intro hbq;(try simp only [bq] at hbq);(try (exfalso;omega)))
        |refine Rex.o (by (with_reducible constructor);apply Eq.refl) ?_
        |(intro (hgq : (_ : Bool) = true);(try simp only [bq] at hgq))
        |(intro (hgq : (_ : Bool) = false);(try simp only [bq] at hgq))
        |((with_reducible apply q_VOk);exact fun _ => ⟨rfl,rfl⟩)|(intro _;exact rfl)|((with_reducible apply q_CRB);kernel_rfl)|((with_reducible apply q_bt);simp only [bq])|((with_reducible apply q_eqN);rfl)|((with_reducible apply q_FE);exact rfl)|with_reducible (first|exact isByte_wrap _|exact isByte_nat _)|(simp only [hgq,bq];done)|omega|(dsimp only;omega))
      · rfl
      ·
        refine LoopK_n (i + 1) ?_ ((by omega)) (by (try dsimp only); omega)
        refine X_weak rfl rfl rfl ?_ ?_ <;> repeat' (first|with_reducible (first|refine Wk.o (by constructor) ?_|refine q_and ?_ ?_|exact True.intro)|refine q_AgS rfl ?_ ?_|exact CLe.nil_tipS|exact CLe.nil_rowS|refine HLe.cells ?_ ?_|refine HLe.els ?_ ?_|refine SLe.cons ?_ ?_|exact (rfl : known _ = _)|with_reducible rfl|omega)
        all_goals (
          rw [a5, c5, e2]
          refine row_set (i := i + 1) ?_ fun j hj hne => ?_
          · rw [if_pos (by omega)]; rfl
          · by_cases hji : j ≤ i
            · rw [if_pos hji, if_pos (by omega)]
            · rw [if_neg hji, if_neg (by omega)])
    · have hr : row (cs.length - s + 1) (fun j => if j ≤ i then tim cs s l.toNat sp ac br j else 0) = row (cs.length - s + 1) (tim cs s l.toNat sp ac br) := row_ext fun j hj => if_pos (by omega)
      repeat' (first
        |with_reducible (first|refine q_and ?_ ?_|exact True.intro|exact TkEq.nil _|refine Red.o (by constructor) ?_|refine blockK_o' rfl ?_|refine LoopX_e' rfl ?_|assumption)
        |((with_reducible apply q_CI);intro hbq;(try simp only [bq] at hbq);(try (exfalso;omega)))
        |refine Rex.o (by (with_reducible constructor);apply Eq.refl) ?_
        |(intro (hgq : (_ : Bool) = true);(try simp only [bq] at hgq))
        |(intro (hgq : (_ : Bool) = false);(try simp only [bq] at hgq))
        |((with_reducible apply q_VOk);exact fun _ => ⟨rfl,rfl⟩)|(intro _;exact rfl)|((with_reducible apply q_CRB);kernel_rfl)|((with_reducible apply q_bt);simp only [bq])|((with_reducible apply q_eqN);rfl)|((with_reducible apply q_FE);exact rfl)|with_reducible (first|exact isByte_wrap _|exact isByte_nat _)|(simp only [hgq,bq];done)|omega|(dsimp only;omega))
      rw [hr]; rfl
  · unfold speedL at hC
    rw [if_neg h] at hC ⊢
    refine X_fn mixedX Try.func32 rfl (by kernel_rfl) (Nat.le_of_ble_eq_true (by kernel_rfl)) (by kernel_rfl) rfl rfl (Nat.le_of_ble_eq_true rfl) rfl rfl ?_
    simp only [sl0, Nat.zero_add, Nat.reduceAdd]
    repeat' (first
      |with_reducible (first|refine q_and ?_ ?_|exact True.intro|exact TkEq.nil _|refine Red.o (by constructor) ?_|refine blockK_o' rfl ?_|refine LoopX_e' rfl ?_|assumption)
      |((with_reducible apply q_call);refine X_pure (hC) rfl ?_)
      |((with_reducible apply q_CI);intro hbq;(try simp only [bq] at hbq);(try (exfalso;omega)))
      |refine Rex.o (by (with_reducible constructor);apply Eq.refl) ?_
      |(intro (hgq : (_ : Bool) = true);(try simp only [bq] at hgq))
      |(intro (hgq : (_ : Bool) = false);(try simp only [bq] at hgq))
      |((with_reducible apply q_VOk);exact fun _ => ⟨rfl,rfl⟩)|(intro _;exact rfl)|((with_reducible apply q_CRB);kernel_rfl)|((with_reducible apply q_bt);simp only [bq])|((with_reducible apply q_eqN);rfl)|((with_reducible apply q_FE);exact rfl)|with_reducible (first|exact isByte_wrap _|exact isByte_nat _)|(simp only [hgq,bq];done)|omega|(dsimp only;omega))
    · rfl
end Go.Proofs.Ytbpeakgihhdocaa.Av
namespace Go.Proofs.Ytbpeakgihhdocaa.Av
set_option linter.unusedVariables false
set_option linter.unusedSimpArgs false
set_option maxRecDepth 4000
set_option maxHeartbeats 4000000
theorem inR_ok (n lo hi : Int) : OkV Try.prog 54 [.c (xI n), .c (xI lo), .c (xI hi)] [] (vB (decide (lo ≤ n) && decide (n ≤ hi))) [] := by
  refine X_fn mixedX Try.func54 rfl (by kernel_rfl) (Nat.le_of_ble_eq_true (by kernel_rfl)) (by kernel_rfl) rfl rfl (Nat.le_of_ble_eq_true rfl) rfl rfl ?_
  simp only [sl0, Nat.zero_add, Nat.reduceAdd]
  repeat' (first
    |with_reducible (first|refine q_and ?_ ?_|exact True.intro|exact TkEq.nil _|refine Red.o (by constructor) ?_|refine blockK_o' rfl ?_|refine LoopX_e' rfl ?_|assumption)
    |((with_reducible apply q_CI);intro hbq;(try simp only [bq] at hbq);(try (exfalso;omega)))
    |refine Rex.o (by (with_reducible constructor);apply Eq.refl) ?_
    |(intro (hgq : (_ : Bool) = true);(try simp only [bq] at hgq))
    |(intro (hgq : (_ : Bool) = false);(try simp only [bq] at hgq))
    |((with_reducible apply q_VOk);exact fun _ => ⟨rfl,rfl⟩)|(intro _;exact rfl)|((with_reducible apply q_CRB);kernel_rfl)|((with_reducible apply q_bt);simp only [bq])|((with_reducible apply q_eqN);rfl)|((with_reducible apply q_FE);exact rfl)|with_reducible (first|exact isByte_wrap _|exact isByte_nat _)|(simp only [hgq,bq];done)|omega|(dsimp only;omega))
  repeat' (first|with_reducible (first|refine Wk.o (by constructor) ?_|refine q_and ?_ ?_|exact True.intro)|refine VEq.c ?_|refine VEq.agg ?_|refine VEq.tup ?_|refine TkEq.cells ?_ ?_|refine TkEq.els ?_ ?_|refine SEqL.cons ?_ ?_|refine TEqL.agg ?_ ?_|refine CEq.rows ?_|refine CEq.int ?_|rfl|omega)
theorem chk_b4 (l sp ac br : Int) : chkB l sp ac br = ((decide (1 ≤ l) && decide (l ≤ 40)) && (decide (1000 ≤ sp) && decide (sp ≤ 100000)) && (decide (100 ≤ ac) && decide (ac ≤ 2000)) && (decide (100 ≤ br) && decide (br ≤ 2000))) := by
  rw [Bool.eq_iff_iff]
  simp [chkB, and_assoc]
theorem chkStock_ok (nm : ByteArray) (l sp ac br : Int) : OkV Try.prog 48 [vS5 nm l sp ac br] [] (vB (chkB l sp ac br)) [] := by
  have h1 := inR_ok l 1 40
  have h2 := inR_ok sp 1000 100000
  have h3 := inR_ok ac 100 2000
  have h4 := inR_ok br 100 2000
  rw [chk_b4]
  refine X_fn mixedX Try.func48 rfl (by kernel_rfl) (Nat.le_of_ble_eq_true (by kernel_rfl)) (by kernel_rfl) rfl rfl (Nat.le_of_ble_eq_true rfl) rfl rfl ?_
  simp only [sl0, Nat.zero_add, Nat.reduceAdd]
  repeat' (first
    |with_reducible (first|refine q_and ?_ ?_|exact True.intro|exact TkEq.nil _|refine Red.o (by constructor) ?_|refine blockK_o' rfl ?_|refine LoopX_e' rfl ?_|assumption)
    |((with_reducible apply q_call);refine X_pure (h1) rfl ?_)
    |((with_reducible apply q_callG);refine X_pureG ((fun _ => h2)) rfl ?_ ?_)
    |((with_reducible apply q_callG);refine X_pureG ((fun _ => h3)) rfl ?_ ?_)
    |((with_reducible apply q_callG);refine X_pureG ((fun _ => h4)) rfl ?_ ?_)
    |((with_reducible apply q_CI);intro hbq;(try simp only [bq] at hbq);(try (exfalso;omega)))
    |refine Rex.o (by (with_reducible constructor);apply Eq.refl) ?_
    |(intro (hgq : (_ : Bool) = true);(try simp only [bq] at hgq))
    |(intro (hgq : (_ : Bool) = false);(try simp only [bq] at hgq))
    |((with_reducible apply q_VOk);exact fun _ => ⟨rfl,rfl⟩)|(intro _;exact rfl)|((with_reducible apply q_CRB);kernel_rfl)|((with_reducible apply q_bt);simp only [bq])|((with_reducible apply q_eqN);rfl)|((with_reducible apply q_FE);exact rfl)|with_reducible (first|exact isByte_wrap _|exact isByte_nat _)|(simp only [hgq,bq];done)|omega|(dsimp only;omega))
  repeat' (first|with_reducible (first|refine Wk.o (by constructor) ?_|refine q_and ?_ ?_|exact True.intro)|refine VEq.c ?_|refine VEq.agg ?_|refine VEq.tup ?_|refine TkEq.cells ?_ ?_|refine TkEq.els ?_ ?_|refine SEqL.cons ?_ ?_|refine TEqL.agg ?_ ?_|refine CEq.rows ?_|refine CEq.int ?_|rfl|omega)
end Go.Proofs.Ytbpeakgihhdocaa.Av
namespace Go.Proofs.Ytbpeakgihhdocaa.Av
set_option linter.unusedVariables false
set_option linter.unusedSimpArgs false
set_option maxRecDepth 4000
set_option maxHeartbeats 4000000
abbrev vR2 (st : List Stp) (ov : Int) : SV := .agg [rStp st, xI ov]
def tight (L : Lay) (l : Int) (s : Stp) : Bool := decide ((secA L s).len < max 2 l)
def fitErr (L : Lay) (r : Rte) (l sp ac br : Int) : Int := if celErr L r ≠ 0 then celErr L r else if chkB l sp ac br = false then 1 else if (trv r).any (tight L l) = true then 12 else 0
section
variable {L : Lay} {r : Rte} {l sp ac br : Int}
theorem fit_c (h : ¬ celErr L r = 0) : fitErr L r l sp ac br = celErr L r := if_pos h
theorem fit_1 (h : celErr L r = 0) (h2 : chkB l sp ac br = false) : fitErr L r l sp ac br = 1 := by unfold fitErr; rw [if_neg (by simpa using h), if_pos h2]
theorem fit_12 (h : celErr L r = 0) (h2 : chkB l sp ac br = true) (h3 : (trv r).any (tight L l) = true) : fitErr L r l sp ac br = 12 := by unfold fitErr; rw [if_neg (by simpa using h), if_neg (by rw [h2]; decide), if_pos h3]
theorem fit_0 (h : celErr L r = 0) (h2 : chkB l sp ac br = true) (h3 : (trv r).any (tight L l) = false) : fitErr L r l sp ac br = 0 := by unfold fitErr; rw [if_neg (by simpa using h), if_neg (by rw [h2]; decide), if_neg (by rw [h3]; decide)]
theorem cel_rte (h : celErr L r = 0) : rteErr L r = 0 := by
  unfold celErr at h
  split at h
  · exact h
  · rename_i h2; simpa using h2
theorem trv_len (h : RteOk L r) : ((trv r).length : Int) = r.st.length - r.ov := by
  have := h.ov0; have := h.two; have := h.ov
  unfold trv; rw [List.length_take]; omega
theorem trv_at (h : RteOk L r) {i : Nat} (hi : (i : Int) < r.st.length - r.ov) : (trv r).getD i st0 = r.st.getD i st0 := by
  unfold trv
  rw [List.getD_eq_getElem?_getD, List.getD_eq_getElem?_getD, List.getElem?_take_of_lt (by omega)]
theorem any_at {l : List Stp} {p : Stp → Bool} {i : Nat} (hi : i < l.length) (h : p (l.getD i st0) = true) : l.any p = true := by
  rw [List.getD_eq_getElem?_getD, List.getElem?_eq_getElem hi] at h
  exact List.any_eq_true.2 ⟨_, List.getElem_mem hi, h⟩
theorem any_not {l : List Stp} {p : Stp → Bool} (h : ∀ j, j < l.length → p (l.getD j st0) = false) : l.any p = false := by
  rw [Bool.eq_false_iff]
  intro ha
  obtain ⟨x, hx, h1⟩ := List.any_eq_true.1 ha
  obtain ⟨i, hi, rfl⟩ := List.mem_iff_getElem.1 hx
  have := h i hi
  rw [List.getD_eq_getElem?_getD, List.getElem?_eq_getElem hi] at this
  rw [show (some l[i]).getD st0 = l[i] from rfl] at this
  rw [this] at h1; cases h1
end
theorem travelled_ok (st : List Stp) (ov : Int) (hl : st.length ≤ 9223372036854775807) (h0 : 0 ≤ ov ∧ ov ≤ st.length) : OkV Try.prog 33 [vR2 st ov] [] (.c (rStp (trv ⟨st, ov⟩))) [] := by
  unfold trv
  refine X_fn mixedX Try.func33 rfl (by kernel_rfl) (Nat.le_of_ble_eq_true (by kernel_rfl)) (by kernel_rfl) rfl rfl (Nat.le_of_ble_eq_true rfl) rfl rfl ?_
  simp only [sl0, Nat.zero_add, Nat.reduceAdd]
  repeat' (first
    |with_reducible (first|refine q_and ?_ ?_|exact True.intro|exact TkEq.nil _|refine Red.o (by constructor) ?_|refine blockK_o' rfl ?_|refine LoopX_e' rfl ?_|assumption)
    |((with_reducible apply q_CI);intro hbq;(try simp only [bq] at hbq);(try (exfalso;omega)))
    |refine Rex.o (by (with_reducible constructor);apply Eq.refl) ?_
    |(intro (hgq : (_ : Bool) = true);(try simp only [bq] at hgq))
    |(intro (hgq : (_ : Bool) = false);(try simp only [bq] at hgq))
    |((with_reducible apply q_VOk);exact fun _ => ⟨rfl,rfl⟩)|(intro _;exact rfl)|((with_reducible apply q_CRB);kernel_rfl)|((with_reducible apply q_bt);simp only [bq])|((with_reducible apply q_eqN);rfl)|((with_reducible apply q_FE);exact rfl)|with_reducible (first|exact isByte_wrap _|exact isByte_nat _)|(simp only [hgq,bq];done)|omega|(dsimp only;omega))
  repeat' (first|with_reducible (first|refine Wk.o (by constructor) ?_|refine q_and ?_ ?_|exact True.intro)|refine VEq.c ?_|refine VEq.agg ?_|refine VEq.tup ?_|refine TkEq.cells ?_ ?_|refine TkEq.els ?_ ?_|refine SEqL.cons ?_ ?_|refine TEqL.agg ?_ ?_|refine CEq.rows ?_|refine CEq.int ?_|rfl|omega)
theorem fit_ok (L : Lay) (hL : LayFits L) (st : List Stp) (ov : Int) (hl : st.length ≤ 9223372036854775807) (ho : -9223372036854775808 ≤ ov ∧ ov ≤ 9223372036854775807) (nm : ByteArray) (l sp ac br : Int) : OkV Try.prog 31 [vLay L, vR2 st ov, vS5 nm l sp ac br] [] (.tup [.agg [rCell (if fitErr L ⟨st, ov⟩ l sp ac br = 0 then celL L (trv ⟨st, ov⟩) else []), xI (if fitErr L ⟨st, ov⟩ l sp ac br = 0 then celOne L ⟨st, ov⟩ else 0)], .c (xI (fitErr L ⟨st, ov⟩ l sp ac br))]) [] := by
  have hC := cells_ok L hL st ov hl ho
  have hK := chk_ok nm l sp ac br
  by_cases hc : celErr L ⟨st, ov⟩ = 0
  · have hr := rte_of (cel_rte hc)
    have hT := travelled_ok st ov hl ⟨hr.ov0, by have := hr.two; simp only at this; omega⟩
    have htl := trv_len hr
    have hr1 := hr.ov0
    have hr3 := hr.len
    simp only at hr1 hr3
    have hV := valid_of hr.lay
    have hn3 := hV.n3
    have hok := all_take hr.ok ((st.length : Int) - ov).toNat
    change (trv ⟨st, ov⟩).all (Stp.ok L) = true at hok
    unfold celOut at hC
    rw [hc, if_pos rfl] at hC
    generalize hts : trv ⟨st, ov⟩ = ts at *
    simp only at htl
    generalize celOne L ⟨st, ov⟩ = one at hC ⊢
    unfold vLay at hC ⊢
    refine X_fn mixedX Try.func31 rfl (by kernel_rfl) (Nat.le_of_ble_eq_true (by kernel_rfl)) (by kernel_rfl) rfl rfl (Nat.le_of_ble_eq_true rfl) rfl rfl ?_
    simp only [sl0, Nat.zero_add, Nat.reduceAdd]
    repeat' (first
      |with_reducible (first|refine q_and ?_ ?_|exact True.intro|exact TkEq.nil _|refine Red.o (by constructor) ?_|refine blockK_o' rfl ?_|refine LoopX_e' rfl ?_|assumption)
      |((with_reducible apply q_call);first|refine X_pure (hC) rfl ?_|refine X_pure (hK) rfl ?_|refine X_pure (hT) rfl ?_)
      |((with_reducible apply q_CI);intro hbq;(try simp only [bq] at hbq);(try (exfalso;omega)))
      |refine Rex.o (by (with_reducible constructor);apply Eq.refl) ?_
      |(intro (hgq : (_ : Bool) = true);(try simp only [bq] at hgq))
      |(intro (hgq : (_ : Bool) = false);(try simp only [bq] at hgq))
      |((with_reducible apply q_VOk);exact fun _ => ⟨rfl,rfl⟩)|(intro _;exact rfl)|((with_reducible apply q_CRB);kernel_rfl)|((with_reducible apply q_bt);simp only [bq])|((with_reducible apply q_eqN);rfl)|((with_reducible apply q_FE);exact rfl)|with_reducible (first|exact isByte_wrap _|exact isByte_nat _)|(simp only [hgq,bq];done)|omega|(dsimp only;omega))
    · rw [fit_1 hc hbq]; rfl
    have hb' := hbq
    clear hC hK hT
    have hq := chk_of hbq
    refine W_loopS (fun i : Nat => SS [sC 3 (pB 0), sC 5 (pB 2), sC 6 (pB 3), sC 8 (rCell (celL L ts)), sI 9 one, sC 29 (rStp ts), sI 30 ts.length, sI 31 i] [bLay L, none, bS5 nm l sp ac br, some (.cells [.c (.f .nils), xI 0])]) (fun i => i ≤ ts.length ∧ ∀ j, j < i → tight L l (ts.getD j st0) = false) (fun i => ts.length - i) 0 ?_ ⟨by omega, fun j hj => by omega⟩ ?_
    ·
      refine X_weak rfl rfl rfl ?_ ?_ <;> repeat' (first|with_reducible (first|refine Wk.o (by constructor) ?_|refine q_and ?_ ?_|exact True.intro)|refine q_AgS rfl ?_ ?_|exact CLe.nil_tipS|exact CLe.nil_rowS|refine HLe.cells ?_ ?_|refine HLe.els ?_ ?_|refine SLe.cons ?_ ?_|exact (rfl : known _ = _)|with_reducible rfl|omega)
    intro i hi
    obtain ⟨hi, hno⟩ := hi
    have hsec : (i : Int) < ts.length → 0 ≤ (ts.getD (i : Int).toNat { sec := 0, dir := 0 }).sec ∧ (ts.getD (i : Int).toNat { sec := 0, dir := 0 }).sec < L.secs.length := fun h => by
      obtain ⟨x, y, _⟩ := ok_dir (all_at (i := i) hok (by omega))
      exact ⟨x, y⟩
    repeat' (first
      |with_reducible (first|refine q_and ?_ ?_|exact True.intro|exact TkEq.nil _|refine Red.o (by constructor) ?_|refine blockK_o' rfl ?_|refine LoopX_e' rfl ?_|assumption)
      |((with_reducible apply q_CI);intro hbq;(try simp only [bq] at hbq);(try (exfalso;omega)))
      |refine Rex.o (by (with_reducible constructor);apply Eq.refl) ?_
      |(intro (hgq : (_ : Bool) = true);(try simp only [bq] at hgq))
      |(intro (hgq : (_ : Bool) = false);(try simp only [bq] at hgq))
      |((with_reducible apply q_VOk);exact fun _ => ⟨rfl,rfl⟩)|(intro _;exact rfl)|((with_reducible apply q_CRB);kernel_rfl)|((with_reducible apply q_bt);simp only [bq])|((with_reducible apply q_eqN);rfl)|((with_reducible apply q_FE);exact rfl)|with_reducible (first|exact isByte_wrap _|exact isByte_nat _)|(simp only [hgq,bq];done)|omega|(dsimp only;omega))
    · rw [fit_12 hc hb' (any_at (i := i) (by rw [hts]; omega) (by rw [hts]; unfold tight secA; simpa using hbq))]; rfl
    ·
      refine LoopK_n (i + 1) ?_ (⟨by omega, upto_succ hno (by unfold tight secA; simpa using hbq)⟩) (by (try dsimp only); omega)
      refine X_weak rfl rfl rfl ?_ ?_ <;> repeat' (first|with_reducible (first|refine Wk.o (by constructor) ?_|refine q_and ?_ ?_|exact True.intro)|refine q_AgS rfl ?_ ?_|exact CLe.nil_tipS|exact CLe.nil_rowS|refine HLe.cells ?_ ?_|refine HLe.els ?_ ?_|refine SLe.cons ?_ ?_|exact (rfl : known _ = _)|with_reducible rfl|omega)
    · rw [fit_0 hc hb' (by rw [hts]; exact any_not fun j hj => hno j (by omega))]; rfl
  · rw [fit_c hc, if_neg hc, if_neg hc]
    unfold celOut celOne at hC
    rw [if_neg hc, if_neg hc] at hC
    unfold vLay at hC ⊢
    refine X_fn mixedX Try.func31 rfl (by kernel_rfl) (Nat.le_of_ble_eq_true (by kernel_rfl)) (by kernel_rfl) rfl rfl (Nat.le_of_ble_eq_true rfl) rfl rfl ?_
    simp only [sl0, Nat.zero_add, Nat.reduceAdd]
    repeat' (first
      |with_reducible (first|refine q_and ?_ ?_|exact True.intro|exact TkEq.nil _|refine Red.o (by constructor) ?_|refine blockK_o' rfl ?_|refine LoopX_e' rfl ?_|assumption)
      |((with_reducible apply q_call);refine X_pure (hC) rfl ?_)
      |((with_reducible apply q_CI);intro hbq;(try simp only [bq] at hbq);(try (exfalso;omega)))
      |refine Rex.o (by (with_reducible constructor);apply Eq.refl) ?_
      |(intro (hgq : (_ : Bool) = true);(try simp only [bq] at hgq))
      |(intro (hgq : (_ : Bool) = false);(try simp only [bq] at hgq))
      |((with_reducible apply q_VOk);exact fun _ => ⟨rfl,rfl⟩)|(intro _;exact rfl)|((with_reducible apply q_CRB);kernel_rfl)|((with_reducible apply q_bt);simp only [bq])|((with_reducible apply q_eqN);rfl)|((with_reducible apply q_FE);exact rfl)|with_reducible (first|exact isByte_wrap _|exact isByte_nat _)|(simp only [hgq,bq];done)|omega|(dsimp only;omega))
    · rfl
end Go.Proofs.Ytbpeakgihhdocaa.Av
namespace Go.Proofs.Ytbpeakgihhdocaa.Av
set_option linter.unusedVariables false
set_option linter.unusedSimpArgs false
set_option maxRecDepth 4000
set_option maxHeartbeats 4000000
def exTxt : List UInt8 := [115, 101, 99, 116, 105, 111, 110, 32, 88, 32, 52, 48, 32, 51, 48, 48, 48, 48, 32, 48, 10, 115, 101, 99, 116, 105, 111, 110, 32, 89, 32, 50, 48, 32, 51, 48, 48, 48, 48, 32, 48, 10, 115, 101, 99, 116, 105, 111, 110, 32, 90, 32, 50, 48, 32, 51, 48, 48, 48, 48, 32, 48, 10, 108, 105, 110, 107, 32, 88, 32, 66, 32, 89, 32, 65, 10, 108, 105, 110, 107, 32, 89, 32, 66, 32, 90, 32, 65, 10]
def exL : Lay := ⟨[], [], [⟨bL [88], 40, 30000, 0, -1⟩, ⟨bL [89], 20, 30000, 0, -1⟩, ⟨bL [90], 20, 30000, 0, -1⟩], [⟨0, 1, 1, 0, -1, 0⟩, ⟨1, 1, 2, 0, -1, 0⟩]⟩
def exSt : List Stp := [⟨0, 0⟩, ⟨1, 0⟩, ⟨2, 0⟩]
theorem exL_fits : LayFits exL := ⟨fun x hx => (by cases hx), fun x hx => (by cases hx), fun x hx => (by
  simp only [exL, List.map_cons, List.map_nil, List.mem_cons, List.not_mem_nil, or_false] at hx
  rcases hx with rfl | rfl | rfl <;> decide), by decide, by decide, by decide, by decide⟩
theorem exL_ok : layErr exL = 0 := by kernel_rfl
theorem ex_parse : parseL exTxt = some exL := by kernel_rfl
theorem ex_lines : okF (exTxt.length + 1) exTxt 1 = true := by kernel_rfl
theorem ex_many : (linesF (exTxt.length + 1) exTxt 1).length ≤ 500 := by
  have h : (linesF (exTxt.length + 1) exTxt 1).length = 5 := by kernel_rfl
  omega
theorem ex_fit : fitErr exL ⟨exSt, 0⟩ 20 30000 500 500 = 0 := by kernel_rfl
theorem example_ok : OkV Try.prog 15 [] [] (vLay exL) [] := by
  have hP := parse_ok exTxt exL (by decide) ex_lines ex_parse ex_many exL_ok exL_fits
  generalize exL = L at *
  unfold exTxt bL at hP
  unfold vLay
  refine X_fnP mixedX Try.func15 rfl (by kernel_rfl) (Nat.le_of_ble_eq_true (by kernel_rfl)) (by kernel_rfl) rfl rfl ?_
  simp only [sl0, Nat.zero_add, Nat.reduceAdd]
  repeat' (first
    |with_reducible (first|refine q_and ?_ ?_|exact True.intro|exact TkEq.nil _|refine Red.o (by constructor) ?_|refine blockK_o' rfl ?_|refine LoopX_e' rfl ?_|assumption)
    |((with_reducible apply q_call);refine X_pure (hP) rfl ?_)
    |((with_reducible apply q_CI);intro hbq;(try simp only [bq] at hbq);(try (exfalso;omega)))
    |with_reducible (first|refine W_seq ?_|refine W_block ?_)
    |((with_reducible apply q_cond);refine X_cond rfl ?_ ?_;all_goals (intro hbq;(try simp only [bq] at hbq);(try (exfalso;omega))))
    |refine Rex.o (by (with_reducible constructor);apply Eq.refl) ?_
    |(intro (hgq : (_ : Bool) = true);(try simp only [bq] at hgq))
    |(intro (hgq : (_ : Bool) = false);(try simp only [bq] at hgq))
    |((with_reducible apply q_VOk);exact fun _ => ⟨rfl,rfl⟩)|(intro _;exact rfl)|((with_reducible apply q_CRB);kernel_rfl)|((with_reducible apply q_bt);simp only [bq])|((with_reducible apply q_eqN);rfl)|((with_reducible apply q_FE);exact rfl)|with_reducible (first|exact isByte_wrap _|exact isByte_nat _)|(simp only [hgq,bq];done)|omega|(dsimp only;omega))
  repeat' (first|with_reducible (first|refine Wk.o (by constructor) ?_|refine q_and ?_ ?_|exact True.intro)|refine VEq.c ?_|refine VEq.agg ?_|refine VEq.tup ?_|refine TkEq.cells ?_ ?_|refine TkEq.els ?_ ?_|refine SEqL.cons ?_ ?_|refine TEqL.agg ?_ ?_|refine CEq.rows ?_|refine CEq.int ?_|rfl|omega)
theorem whole_ok : OkV Try.prog 16 [] [] (vR2 exSt 0) [] := by
  unfold exSt
  refine X_fnP mixedX Try.func16 rfl (by kernel_rfl) (Nat.le_of_ble_eq_true (by kernel_rfl)) (by kernel_rfl) rfl rfl ?_
  simp only [sl0, Nat.zero_add, Nat.reduceAdd]
  repeat' (first
    |with_reducible (first|refine q_and ?_ ?_|exact True.intro|exact TkEq.nil _|refine Red.o (by constructor) ?_|refine blockK_o' rfl ?_|refine LoopX_e' rfl ?_|assumption)
    |((with_reducible apply q_CI);intro hbq;(try simp only [bq] at hbq);(try (exfalso;omega)))
    |with_reducible (first|refine W_seq ?_|refine W_block ?_)
    |((with_reducible apply q_cond);refine X_cond rfl ?_ ?_;all_goals (intro hbq;(try simp only [bq] at hbq);(try (exfalso;omega))))
    |refine Rex.o (by (with_reducible constructor);apply Eq.refl) ?_
    |(intro (hgq : (_ : Bool) = true);(try simp only [bq] at hgq))
    |(intro (hgq : (_ : Bool) = false);(try simp only [bq] at hgq))
    |((with_reducible apply q_VOk);exact fun _ => ⟨rfl,rfl⟩)|(intro _;exact rfl)|((with_reducible apply q_CRB);kernel_rfl)|((with_reducible apply q_bt);simp only [bq])|((with_reducible apply q_eqN);rfl)|((with_reducible apply q_FE);exact rfl)|with_reducible (first|exact isByte_wrap _|exact isByte_nat _)|(simp only [hgq,bq];done)|omega|(dsimp only;omega))
  repeat' (first|with_reducible (first|refine Wk.o (by constructor) ?_|refine q_and ?_ ?_|exact True.intro)|refine VEq.c ?_|refine VEq.agg ?_|refine VEq.tup ?_|refine TkEq.cells ?_ ?_|refine TkEq.els ?_ ?_|refine SEqL.cons ?_ ?_|refine TEqL.agg ?_ ?_|refine CEq.rows ?_|refine CEq.int ?_|rfl|omega)
theorem stock1_ok : OkV Try.prog 18 [] [] (vS5 ⟨#[83]⟩ 20 30000 500 500) [] := by
  refine X_fnP mixedX Try.func18 rfl (by kernel_rfl) (Nat.le_of_ble_eq_true (by kernel_rfl)) (by kernel_rfl) rfl rfl ?_
  simp only [sl0, Nat.zero_add, Nat.reduceAdd]
  repeat' (first
    |with_reducible (first|refine q_and ?_ ?_|exact True.intro|exact TkEq.nil _|refine Red.o (by constructor) ?_|refine blockK_o' rfl ?_|refine LoopX_e' rfl ?_|assumption)
    |((with_reducible apply q_CI);intro hbq;(try simp only [bq] at hbq);(try (exfalso;omega)))
    |with_reducible (first|refine W_seq ?_|refine W_block ?_)
    |((with_reducible apply q_cond);refine X_cond rfl ?_ ?_;all_goals (intro hbq;(try simp only [bq] at hbq);(try (exfalso;omega))))
    |refine Rex.o (by (with_reducible constructor);apply Eq.refl) ?_
    |(intro (hgq : (_ : Bool) = true);(try simp only [bq] at hgq))
    |(intro (hgq : (_ : Bool) = false);(try simp only [bq] at hgq))
    |((with_reducible apply q_VOk);exact fun _ => ⟨rfl,rfl⟩)|(intro _;exact rfl)|((with_reducible apply q_CRB);kernel_rfl)|((with_reducible apply q_bt);simp only [bq])|((with_reducible apply q_eqN);rfl)|((with_reducible apply q_FE);exact rfl)|with_reducible (first|exact isByte_wrap _|exact isByte_nat _)|(simp only [hgq,bq];done)|omega|(dsimp only;omega))
  repeat' (first|with_reducible (first|refine Wk.o (by constructor) ?_|refine q_and ?_ ?_|exact True.intro)|refine VEq.c ?_|refine VEq.agg ?_|refine VEq.tup ?_|refine TkEq.cells ?_ ?_|refine TkEq.els ?_ ?_|refine SEqL.cons ?_ ?_|refine TEqL.agg ?_ ?_|refine CEq.rows ?_|refine CEq.int ?_|rfl|omega)
end Go.Proofs.Ytbpeakgihhdocaa.Av
namespace Go.Proofs.Ytbpeakgihhdocaa.Av
set_option linter.unusedVariables false
set_option linter.unusedSimpArgs false
abbrev secN (L : Lay) (ts : List Stp) (k : Nat) : Nat := (L.secs.getD (ts.getD k st0).sec.toNat sec0).len.toNat
def endA (L : Lay) (ts : List Stp) : Nat → Nat
  | 0 => 0
  | k + 1 => endA L ts k + secN L ts (k + 1)
def rideT (L : Lay) (r : Rte) (l sp ac br : Int) : Nat → Int := tim (celL L (trv r)) (celOne L r).toNat l.toNat sp ac br
structure Ride (L : Lay) (r : Rte) (l sp ac br : Int) : Prop where
  rt : RteOk L r
  cel : celErr L r = 0
  chk : chkB l sp ac br = true
  n : ((trv r).length : Int) = r.st.length - r.ov
  n2 : 2 ≤ (trv r).length
  n24 : (trv r).length ≤ 24
  sec : ∀ k, k < (trv r).length → 0 ≤ ((trv r).getD k st0).sec ∧ ((trv r).getD k st0).sec < L.secs.length
  len : ∀ k, k < (trv r).length → 2 ≤ secN L (trv r) k ∧ l ≤ secN L (trv r) k ∧ secN L (trv r) k ≤ 400
  leni : ∀ k, k < (trv r).length → (L.secs.getD ((trv r).getD k st0).sec.toNat sec0).len = secN L (trv r) k
  one : celOne L r = secN L (trv r) 0
  all : (celL L (trv r)).length = secN L (trv r) 0 + endA L (trv r) ((trv r).length - 1)
  bad : badRun (celL L (trv r)) (celOne L r) l sp ac br = 0
  tl : timeL (celL L (trv r)) (celOne L r) l sp ac br = row (endA L (trv r) ((trv r).length - 1) + 1) (rideT L r l sp ac br)
  rng : ∀ j, j ≤ endA L (trv r) ((trv r).length - 1) → 0 ≤ rideT L r l sp ac br j ∧ rideT L r l sp ac br j ≤ 80000000
theorem endA_mono (L : Lay) (ts : List Stp) {i j : Nat} (h : i ≤ j) : endA L ts i ≤ endA L ts j := by
  induction j with
  | zero => rw [Nat.le_zero.1 h]; exact Nat.le_refl _
  | succ j ih =>
    rcases Nat.lt_or_ge i (j + 1) with h1 | h1
    · exact Nat.le_trans (ih (by omega)) (Nat.le_add_right _ _)
    · rw [show i = j + 1 by omega]; exact Nat.le_refl _
theorem celL_endA (L : Lay) (ts : List Stp) : ∀ k, k < ts.length → (celL L (ts.take (k + 1))).length = secN L ts 0 + endA L ts k
  | 0, h => by
    rw [celL_snoc L h, List.length_append]
    simp [celL, celsOf, secN, endA]
  | k + 1, h => by
    rw [celL_snoc L h, List.length_append, celL_endA L ts k (by omega)]
    simp only [celsOf, List.length_replicate, endA, secN, secA]
    omega
theorem cel_all {L : Lay} (hV : Valid L) : ∀ {l : List Stp}, l.all (Stp.ok L) = true → (celL L l).all cellB = true
  | [], _ => rfl
  | s :: l, h => by
    rw [List.all_cons, Bool.and_eq_true] at h
    have ih := cel_all hV h.2
    obtain ⟨a, b, _⟩ := ok_dir h.1
    have h2 := secB_of (sec_of hV (i := s.sec.toNat) (by omega))
    unfold celL at ih ⊢
    rw [List.flatMap_cons, List.all_append, ih, Bool.and_true, List.all_eq_true]
    intro c hc
    rw [(List.mem_replicate.1 hc).2]
    unfold celOf cellB secA
    rw [decide_eq_true_eq]
    split <;> (simp only; omega)
theorem ride_of {L : Lay} {r : Rte} {l sp ac br : Int} (h : fitErr L r l sp ac br = 0) : Ride L r l sp ac br := by
  have hc : celErr L r = 0 := by
    unfold fitErr at h
    split at h
    · exact h
    · rename_i h2; simpa using h2
  unfold fitErr at h
  rw [if_neg (by simpa using hc)] at h
  by_cases hk : chkB l sp ac br = false
  · rw [if_pos hk] at h; cases h
  rw [if_neg hk] at h
  by_cases ht : (trv r).any (tight L l) = true
  · rw [if_pos ht] at h; cases h
  clear h
  have hk : chkB l sp ac br = true := by simpa using hk
  have hq := chk_of hk
  have hr := rte_of (cel_rte hc)
  have hV := valid_of hr.lay
  have hn := trv_len hr
  have h1 := hr.two
  have h2 := hr.ov0
  have h3 := hr.len
  have hok : (trv r).all (Stp.ok L) = true := all_take hr.ok _
  have hsec : ∀ k, k < (trv r).length → 0 ≤ ((trv r).getD k st0).sec ∧ ((trv r).getD k st0).sec < L.secs.length := fun k hk => by
    obtain ⟨a, b, _⟩ := ok_dir (all_at hok hk)
    exact ⟨a, b⟩
  have hb : ∀ k, k < (trv r).length → 1 ≤ (secA L ((trv r).getD k st0)).len ∧ (secA L ((trv r).getD k st0)).len ≤ 400 ∧ max 2 l ≤ (secA L ((trv r).getD k st0)).len := fun k hk => by
    have h4 := secB_of (sec_of hV (i := ((trv r).getD k st0).sec.toNat) (by have := hsec k hk; omega))
    have h5 : tight L l ((trv r).getD k st0) = false := by
      cases e : tight L l ((trv r).getD k st0)
      · rfl
      · exact absurd (any_at hk e) ht
    unfold tight at h5
    rw [decide_eq_false_iff_not] at h5
    exact ⟨h4.1, h4.2.1, by omega⟩
  have hlen : ∀ k, k < (trv r).length → 2 ≤ secN L (trv r) k ∧ l ≤ secN L (trv r) k ∧ secN L (trv r) k ≤ 400 := fun k hk => by
    have := hb k hk
    unfold secA at this
    unfold secN
    omega
  have hli : ∀ k, k < (trv r).length → (L.secs.getD ((trv r).getD k st0).sec.toNat sec0).len = secN L (trv r) k := fun k hk => by
    have := hb k hk
    unfold secA at this
    unfold secN
    omega
  have hall := celL_endA L (trv r) ((trv r).length - 1) (by omega)
  rw [show (trv r).length - 1 + 1 = (trv r).length by omega, List.take_length] at hall
  have hone : celOne L r = secN L (trv r) 0 := by
    unfold celOne
    rw [if_pos hc, ← hli 0 (by omega), trv_at hr (by omega)]
  have hc4 : (celL L (trv r)).length ≤ 4000 := by
    unfold celErr at hc
    rw [if_neg (by simpa using cel_rte hc)] at hc
    split at hc
    · cases hc
    · omega
  have he1 : endA L (trv r) 1 ≤ endA L (trv r) ((trv r).length - 1) := endA_mono L (trv r) (by omega)
  have he2 : endA L (trv r) 1 = secN L (trv r) 1 := Nat.zero_add _
  have hl1 := hlen 1 (by omega)
  have hbad : badRun (celL L (trv r)) (celOne L r) l sp ac br = 0 := bad_0 hk (by omega) (cel_all hV hok) (by rw [hone]; omega)
  have htl : timeL (celL L (trv r)) (celOne L r) l sp ac br = row (endA L (trv r) ((trv r).length - 1) + 1) (rideT L r l sp ac br) := by
    unfold timeL rideT
    rw [if_pos hbad, hall, hone, Int.toNat_natCast, Nat.add_sub_cancel_left]
  refine ⟨hr, hc, hk, hn, by omega, by omega, hsec, hlen, hli, hone, hall, hbad, htl, fun j hj => ?_⟩
  have h5 := tim_range (start := (celOne L r).toNat) (l := l.toNat) hq.2.2.1 hq.2.2.2.1 hq.2.2.2.2.1 hq.2.2.2.2.2.1 hq.2.2.2.2.2.2.1 hq.2.2.2.2.2.2.2 (cel_all hV hok) (by rw [hone, Int.toNat_natCast]; omega) j (by rw [hone, Int.toNat_natCast]; omega)
  unfold rideT
  omega
end Go.Proofs.Ytbpeakgihhdocaa.Av
namespace Go.Proofs.Ytbpeakgihhdocaa.Av
set_option linter.unusedVariables false
set_option linter.unusedSimpArgs false
set_option maxRecDepth 4000
set_option maxHeartbeats 4000000
def entL (L : Lay) (r : Rte) (l sp ac br : Int) (n : Nat) : List Int := row n fun k => rideT L r l sp ac br (endA L (trv r) (k - 1))
def levF (L : Lay) (r : Rte) (l sp ac br : Int) (k : Nat) : Int := rideT L r l sp ac br (if k + 1 < (trv r).length then endA L (trv r) k + l.toNat else endA L (trv r) k)
def levL (L : Lay) (r : Rte) (l sp ac br : Int) (n : Nat) : List Int := row n (levF L r l sp ac br)
def runI (L : Lay) (r : Rte) (l sp ac br : Int) : Int := Pl.cdiv (rideT L r l sp ac br (endA L (trv r) ((trv r).length - 1))) 1000
theorem row_snoc (n : Nat) (f : Nat → Int) : row (n + 1) f = row n f ++ [f n] := by
  unfold row; rw [List.range_succ, List.map_append]; rfl
theorem snoc_den (X : List Int) (v : Int) : (SC.c (CVal.f (FVal.row (List.flatMap fInt X ++ [FVal.v (.int .i64 v)]) (X.length + 1)))).den = (rInt (X ++ [v])).den := by
  show CVal.f (FVal.row (List.flatMap fInt X ++ [FVal.v (.int .i64 v)]) (X.length + 1)) = CVal.f (FVal.row (List.flatMap fInt (X ++ [v])) (X ++ [v]).length)
  rw [List.flatMap_append, List.length_append]
  rfl
theorem tup_snoc (A C D : SC) (X : List Int) (v : Int) : (packS [ST.c A, ST.c (SC.c (CVal.f (FVal.row (List.flatMap fInt X ++ [FVal.v (.int .i64 v)]) (X.length + 1)))), ST.c C, ST.c D]).den = (SV.tup [ST.c A, ST.c (rInt (X ++ [v])), ST.c C, ST.c D]).den := by
  show AVal.tup [.c A.den, .c (SC.den _), .c C.den, .c D.den] = AVal.tup [.c A.den, .c (SC.den _), .c C.den, .c D.den]
  rw [snoc_den]
theorem up_ok (a : Int) (ha : -9223372036854775808 ≤ a ∧ a ≤ 9223372036854775807) : OkV Try.prog 34 [.c (xI a)] [] (vI (Pl.cdiv a 1000)) [] := by
  have h := ceilDiv_okV a 1000 ha (by omega)
  refine X_fn mixedX Try.func34 rfl (by kernel_rfl) (Nat.le_of_ble_eq_true (by kernel_rfl)) (by kernel_rfl) rfl rfl (Nat.le_of_ble_eq_true rfl) rfl rfl ?_
  simp only [sl0, Nat.zero_add, Nat.reduceAdd]
  repeat' (first
    |with_reducible (first|refine q_and ?_ ?_|exact True.intro|exact TkEq.nil _|refine Red.o (by constructor) ?_|refine blockK_o' rfl ?_|refine LoopX_e' rfl ?_|assumption)
    |((with_reducible apply q_call);refine X_pure (h) rfl ?_)
    |((with_reducible apply q_CI);intro hbq;(try simp only [bq] at hbq);(try (exfalso;omega)))
    |refine Rex.o (by (with_reducible constructor);apply Eq.refl) ?_
    |(intro (hgq : (_ : Bool) = true);(try simp only [bq] at hgq))
    |(intro (hgq : (_ : Bool) = false);(try simp only [bq] at hgq))
    |((with_reducible apply q_VOk);exact fun _ => ⟨rfl,rfl⟩)|(intro _;exact rfl)|((with_reducible apply q_CRB);kernel_rfl)|((with_reducible apply q_bt);simp only [bq])|((with_reducible apply q_eqN);rfl)|((with_reducible apply q_FE);exact rfl)|with_reducible (first|exact isByte_wrap _|exact isByte_nat _)|(simp only [hgq,bq];done)|omega|(dsimp only;omega))
  repeat' (first|with_reducible (first|refine Wk.o (by constructor) ?_|refine q_and ?_ ?_|exact True.intro)|refine VEq.c ?_|refine VEq.agg ?_|refine VEq.tup ?_|refine TkEq.cells ?_ ?_|refine TkEq.els ?_ ?_|refine SEqL.cons ?_ ?_|refine TEqL.agg ?_ ?_|refine CEq.rows ?_|refine CEq.int ?_|rfl|omega)
theorem btimes_bad (L : Lay) (hL : LayFits L) (st : List Stp) (ov : Int) (hl : st.length ≤ 9223372036854775807) (ho : -9223372036854775808 ≤ ov ∧ ov ≤ 9223372036854775807) (nm : ByteArray) (l sp ac br : Int) (h : ¬ fitErr L ⟨st, ov⟩ l sp ac br = 0) : OkV Try.prog 12 [vLay L, vR2 st ov, vS5 nm l sp ac br] [] (.tup [.c (rInt []), .c (rInt []), .c (xI 0), .c (xI (fitErr L ⟨st, ov⟩ l sp ac br))]) [] := by
  have hF := fit_ok L hL st ov hl ho nm l sp ac br
  rw [if_neg h, if_neg h] at hF
  unfold vLay at hF ⊢
  refine X_fn mixedX Try.func12 rfl (by kernel_rfl) (Nat.le_of_ble_eq_true (by kernel_rfl)) (by kernel_rfl) rfl rfl (Nat.le_of_ble_eq_true rfl) rfl rfl ?_
  simp only [sl0, Nat.zero_add, Nat.reduceAdd]
  repeat' (first
    |with_reducible (first|refine q_and ?_ ?_|exact True.intro|exact TkEq.nil _|refine Red.o (by constructor) ?_|refine blockK_o' rfl ?_|refine LoopX_e' rfl ?_|assumption)
    |((with_reducible apply q_call);refine X_pure (hF) rfl ?_)
    |((with_reducible apply q_CI);intro hbq;(try simp only [bq] at hbq);(try (exfalso;omega)))
    |refine Rex.o (by (with_reducible constructor);apply Eq.refl) ?_
    |(intro (hgq : (_ : Bool) = true);(try simp only [bq] at hgq))
    |(intro (hgq : (_ : Bool) = false);(try simp only [bq] at hgq))
    |((with_reducible apply q_VOk);exact fun _ => ⟨rfl,rfl⟩)|(intro _;exact rfl)|((with_reducible apply q_CRB);kernel_rfl)|((with_reducible apply q_bt);simp only [bq])|((with_reducible apply q_eqN);rfl)|((with_reducible apply q_FE);exact rfl)|with_reducible (first|exact isByte_wrap _|exact isByte_nat _)|(simp only [hgq,bq];done)|omega|(dsimp only;omega))
  · rfl
theorem btimes_ok (L : Lay) (hL : LayFits L) (st : List Stp) (ov : Int) (hl : st.length ≤ 9223372036854775807) (ho : -9223372036854775808 ≤ ov ∧ ov ≤ 9223372036854775807) (nm : ByteArray) (l sp ac br : Int) (h : fitErr L ⟨st, ov⟩ l sp ac br = 0) : OkV Try.prog 12 [vLay L, vR2 st ov, vS5 nm l sp ac br] [] (.tup [.c (rInt (entL L ⟨st, ov⟩ l sp ac br (trv ⟨st, ov⟩).length)), .c (rInt (levL L ⟨st, ov⟩ l sp ac br (trv ⟨st, ov⟩).length)), .c (xI (runI L ⟨st, ov⟩ l sp ac br)), .c (xI 0)]) [] := by
  have hF := fit_ok L hL st ov hl ho nm l sp ac br
  rw [h, if_pos rfl, if_pos rfl] at hF
  have hR := ride_of h
  obtain ⟨r1, r2, r3, r4, r5, r6, r7, r8, r9, r10, r11, r12, r13, r14⟩ := hR
  have hq := chk_of r3
  have hr1 := r1.ov0
  have hr2 := r1.two
  simp only at hr1 hr2 r4
  have hn3 := (valid_of r1.lay).n3
  have hm := times_ok (celL L (trv ⟨st, ov⟩)) (celOne L ⟨st, ov⟩) nm l sp ac br (by
    have := (bad_zero r12).2.1; omega)
  rw [r13, r12] at hm
  have hT := travelled_ok st ov hl ⟨by omega, by omega⟩
  unfold entL levL levF runI
  generalize hT' : rideT L ⟨st, ov⟩ l sp ac br = T at *
  generalize hts : trv ⟨st, ov⟩ = ts at *
  unfold vLay at hF ⊢
  refine X_fn mixedX Try.func12 rfl (by kernel_rfl) (Nat.le_of_ble_eq_true (by kernel_rfl)) (by kernel_rfl) rfl rfl (Nat.le_of_ble_eq_true rfl) rfl rfl ?_
  simp only [sl0, Nat.zero_add, Nat.reduceAdd]
  repeat' (first
    |with_reducible (first|refine q_and ?_ ?_|exact True.intro|exact TkEq.nil _|refine Red.o (by constructor) ?_|refine blockK_o' rfl ?_|refine LoopX_e' rfl ?_|assumption)
    |((with_reducible apply q_call);first|refine X_pure (hF) rfl ?_|refine X_pure (hm) rfl ?_|refine X_pure (hT) rfl ?_)
    |((with_reducible apply q_CI);intro hbq;(try simp only [bq] at hbq);(try (exfalso;omega)))
    |refine Rex.o (by (with_reducible constructor);apply Eq.refl) ?_
    |(intro (hgq : (_ : Bool) = true);(try simp only [bq] at hgq))
    |(intro (hgq : (_ : Bool) = false);(try simp only [bq] at hgq))
    |((with_reducible apply q_VOk);exact fun _ => ⟨rfl,rfl⟩)|(intro _;exact rfl)|((with_reducible apply q_CRB);kernel_rfl)|((with_reducible apply q_bt);simp only [bq])|((with_reducible apply q_eqN);rfl)|((with_reducible apply q_FE);exact rfl)|with_reducible (first|exact isByte_wrap _|exact isByte_nat _)|(simp only [hgq,bq];done)|omega|(dsimp only;omega))
  clear hF hm hT r13 r12 r11 r10
  have hrl : (row (endA L ts (ts.length - 1) + 1) T).length = _ := row_len _ _
  have hE : ∀ j, j + 1 ≤ ts.length → endA L ts j ≤ endA L ts (ts.length - 1) := fun j hj => endA_mono L ts (by omega)
  have hEb : endA L ts (ts.length - 1) ≤ 400 * 24 := by
    have : ∀ j, j + 1 ≤ ts.length → endA L ts j ≤ 400 * j := by
      intro j
      induction j with
      | zero => intro _; exact Nat.le_refl _
      | succ j ih => intro hj; have := ih (by omega); have := (r8 (j + 1) (by omega)).2.2; simp only [endA]; omega
    have := this (ts.length - 1) (by omega)
    omega
  refine W_loopS (fun k : Nat => SS [sC 3 (pB 0), sC 5 (pB 2), sC 6 (tInt (row k fun k => T (endA L ts (k - 1)))), sC 7 (tInt (row (min k (ts.length - 1)) fun k => T (endA L ts k + l.toNat))), sC 11 (rInt (row (endA L ts (ts.length - 1) + 1) T)), sC 13 (rStp ts), sI 14 (endA L ts (k - 1)), sC 38 (rStp ts), sI 39 ts.length, sI 40 k] [bLay L, none, bS5 nm l sp ac br]) (fun k => k ≤ ts.length) (fun k => ts.length - k) 0 ?_ (by omega) ?_
  ·
    refine X_weak rfl rfl rfl ?_ ?_ <;> repeat' (first|with_reducible (first|refine Wk.o (by constructor) ?_|refine q_and ?_ ?_|exact True.intro)|refine q_AgS rfl ?_ ?_|exact CLe.nil_tipS|exact CLe.nil_rowS|refine HLe.cells ?_ ?_|refine HLe.els ?_ ?_|refine SLe.cons ?_ ?_|exact (rfl : known _ = _)|with_reducible rfl|omega)
    all_goals rfl
  intro k hk
  have hl1 := row_len k fun k => T (endA L ts (k - 1))
  have hl2 := row_len (min k (ts.length - 1)) fun k => T (endA L ts k + l.toNat)
  by_cases hkn : k < ts.length
  · have f0 := hE (k - 1) (by omega)
    have f2 := hE k (by omega)
    have f1 : 0 < k → endA L ts k = endA L ts (k - 1) + secN L ts k := fun h => by
      obtain ⟨j, rfl⟩ : ∃ j, k = j + 1 := ⟨k - 1, by omega⟩
      rfl
    have f3 : k + 1 < ts.length → endA L ts k + l.toNat ≤ endA L ts (ts.length - 1) := fun h => by
      have a := hE (k + 1) (by omega)
      have b := (r8 (k + 1) h).2.1
      simp only [endA] at a
      omega
    have g1 : 0 ≤ (ts.getD (k : Int).toNat { sec := 0, dir := 0 }).sec ∧ (ts.getD (k : Int).toNat { sec := 0, dir := 0 }).sec < L.secs.length := r7 k hkn
    have g2 : (L.secs.getD (ts.getD (k : Int).toNat { sec := 0, dir := 0 }).sec.toNat sec0).len = (secN L ts k : Nat) := r9 k hkn
    have g3 := r8 k hkn
    generalize secN L ts k = sk at *
    have hex : (row (endA L ts (ts.length - 1) + 1) T).getD ((endA L ts (k - 1) : Nat) : Int).toNat 0 = T (endA L ts (k - 1)) := by rw [Int.toNat_natCast, row_get (by omega)]
    have f5 : endA L ts (k + 1 - 1) = endA L ts k := rfl
    have f6 : k = 0 → endA L ts (k - 1) = endA L ts k := fun h => by rw [h]
    have m1 : k + 1 < ts.length → min (k + 1) (ts.length - 1) = min k (ts.length - 1) + 1 := fun h => by omega
    have m2 : k + 1 < ts.length → min k (ts.length - 1) = k := fun h => by omega
    have m3 : ¬ k + 1 < ts.length → min (k + 1) (ts.length - 1) = min k (ts.length - 1) := fun h => by omega
    repeat' (first
      |with_reducible (first|refine q_and ?_ ?_|exact True.intro|exact TkEq.nil _|refine Red.o (by constructor) ?_|refine blockK_o' rfl ?_|refine LoopX_e' rfl ?_|assumption)
      |((with_reducible apply q_CI);intro hbq;(try simp only [bq] at hbq);(try (exfalso;omega)))
      |refine Rex.o (by (with_reducible constructor);apply Eq.refl) ?_
      |(intro (hgq : (_ : Bool) = true);(try simp only [bq] at hgq))
      |(intro (hgq : (_ : Bool) = false);(try simp only [bq] at hgq))
      |((with_reducible apply q_VOk);exact fun _ => ⟨rfl,rfl⟩)|(intro _;exact rfl)|((with_reducible apply q_CRB);kernel_rfl)|((with_reducible apply q_bt);simp only [bq])|((with_reducible apply q_eqN);rfl)|((with_reducible apply q_FE);exact rfl)|with_reducible (first|exact isByte_wrap _|exact isByte_nat _)|(simp only [hgq,bq];done)|omega|(dsimp only;omega))
    · have c : k + 1 < ts.length := by omega
      have hex2 : (row (endA L ts (ts.length - 1) + 1) T).getD ((endA L ts (k - 1) : Nat) + (L.secs.getD (ts.getD (k : Int).toNat { sec := 0, dir := 0 }).sec.toNat sec0).len + l).toNat 0 = T (endA L ts k + l.toNat) := by
        rw [show ((endA L ts (k - 1) : Nat) + (L.secs.getD (ts.getD (k : Int).toNat { sec := 0, dir := 0 }).sec.toNat sec0).len + l).toNat = endA L ts k + l.toNat by omega, row_get (by omega)]
      refine LoopK_n (k + 1) ?_ ((by omega)) (by (try dsimp only); omega)
      refine X_weak rfl rfl rfl ?_ ?_ <;> repeat' (first|with_reducible (first|refine Wk.o (by constructor) ?_|refine q_and ?_ ?_|exact True.intro)|refine q_AgS rfl ?_ ?_|exact CLe.nil_tipS|exact CLe.nil_rowS|refine HLe.cells ?_ ?_|refine HLe.els ?_ ?_|refine SLe.cons ?_ ?_|exact (rfl : known _ = _)|with_reducible rfl|omega)
      · rw [hex, row_snoc]; simp [fInt, fI]
      · rw [row_len, row_len]
      · rw [hex2, m1 c, row_snoc, m2 c]; simp [fInt, fI]
      · rw [row_len, row_len, m1 c]
    · have c : ¬ k + 1 < ts.length := by omega
      refine LoopK_n (k + 1) ?_ ((by omega)) (by (try dsimp only); omega)
      refine X_weak rfl rfl rfl ?_ ?_ <;> repeat' (first|with_reducible (first|refine Wk.o (by constructor) ?_|refine q_and ?_ ?_|exact True.intro)|refine q_AgS rfl ?_ ?_|exact CLe.nil_tipS|exact CLe.nil_rowS|refine HLe.cells ?_ ?_|refine HLe.els ?_ ?_|refine SLe.cons ?_ ?_|exact (rfl : known _ = _)|with_reducible rfl|omega)
      · rw [hex, row_snoc]; simp [fInt, fI]
      · rw [row_len, row_len]
      · rw [m3 c]
    · have c : k + 1 < ts.length := by omega
      have hex2 : (row (endA L ts (ts.length - 1) + 1) T).getD ((endA L ts (k - 1) : Nat) + l).toNat 0 = T (endA L ts k + l.toNat) := by
        rw [show ((endA L ts (k - 1) : Nat) + l).toNat = endA L ts k + l.toNat by omega, row_get (by omega)]
      refine LoopK_n (k + 1) ?_ ((by omega)) (by (try dsimp only); omega)
      refine X_weak rfl rfl rfl ?_ ?_ <;> repeat' (first|with_reducible (first|refine Wk.o (by constructor) ?_|refine q_and ?_ ?_|exact True.intro)|refine q_AgS rfl ?_ ?_|exact CLe.nil_tipS|exact CLe.nil_rowS|refine HLe.cells ?_ ?_|refine HLe.els ?_ ?_|refine SLe.cons ?_ ?_|exact (rfl : known _ = _)|with_reducible rfl|omega)
      · rw [hex, row_snoc]; simp [fInt, fI]
      · rw [row_len, row_len]
      · rw [hex2, m1 c, row_snoc, m2 c]; simp [fInt, fI]
      · rw [row_len, row_len, m1 c]
  · have hkn : k = ts.length := by omega
    subst hkn
    have hex : (row (endA L ts (ts.length - 1) + 1) T).getD ((endA L ts (ts.length - 1) : Nat) : Int).toNat 0 = T (endA L ts (ts.length - 1)) := by rw [Int.toNat_natCast, row_get (by omega)]
    have hr := r14 _ (Nat.le_refl _)
    have hU := up_ok ((row (endA L ts (ts.length - 1) + 1) T).getD ((endA L ts (ts.length - 1) : Nat) : Int).toNat 0) (by rw [hex]; omega)
    repeat' (first
      |with_reducible (first|refine q_and ?_ ?_|exact True.intro|exact TkEq.nil _|refine Red.o (by constructor) ?_|refine blockK_o' rfl ?_|refine LoopX_e' rfl ?_|assumption)
      |((with_reducible apply q_call);refine X_pure (hU) rfl ?_)
      |((with_reducible apply q_CI);intro hbq;(try simp only [bq] at hbq);(try (exfalso;omega)))
      |refine Rex.o (by (with_reducible constructor);apply Eq.refl) ?_
      |(intro (hgq : (_ : Bool) = true);(try simp only [bq] at hgq))
      |(intro (hgq : (_ : Bool) = false);(try simp only [bq] at hgq))
      |((with_reducible apply q_VOk);exact fun _ => ⟨rfl,rfl⟩)|(intro _;exact rfl)|((with_reducible apply q_CRB);kernel_rfl)|((with_reducible apply q_bt);simp only [bq])|((with_reducible apply q_eqN);rfl)|((with_reducible apply q_FE);exact rfl)|with_reducible (first|exact isByte_wrap _|exact isByte_nat _)|(simp only [hgq,bq];done)|omega|(dsimp only;omega))
    have hlev : (row ts.length fun k => T (if k + 1 < ts.length then endA L ts k + l.toNat else endA L ts k)) = (row (min ts.length (ts.length - 1)) fun k => T (endA L ts k + l.toNat)) ++ [T (endA L ts (ts.length - 1))] := by
      have e : ts.length = ts.length - 1 + 1 := by omega
      rw [Nat.min_eq_right (by omega)]
      conv => lhs; rw [show row ts.length = row (ts.length - 1 + 1) by rw [← e]]
      rw [row_snoc, if_neg (by omega)]
      congr 1
      exact row_ext fun j hj => by rw [if_pos (by omega)]
    rw [hlev]
    simp only [hex]
    apply tup_snoc
end Go.Proofs.Ytbpeakgihhdocaa.Av
namespace Go.Proofs.Ytbpeakgihhdocaa.Av
set_option linter.unusedVariables false
set_option linter.unusedSimpArgs false
section
variable (L : Lay) (r : Rte) (l sp ac br bf af : Int)
def entF (k : Nat) : Int := rideT L r l sp ac br (endA L (trv r) (k - 1))
end
theorem ride_mono {L : Lay} {r : Rte} {l sp ac br : Int} (h : Ride L r l sp ac br) {i j : Nat} (hij : i ≤ j) (hj : j ≤ endA L (trv r) ((trv r).length - 1)) : rideT L r l sp ac br i ≤ rideT L r l sp ac br j := by
  have hq := chk_of h.chk
  have hb := bad_zero h.bad
  have ha := h.all
  have ho := h.one
  induction j with
  | zero => rw [Nat.le_zero.1 hij]; exact Int.le_refl _
  | succ j ih =>
    rcases Nat.lt_or_ge i (j + 1) with h1 | h1
    · refine Int.le_trans (ih (by omega) (by omega)) ?_
      have := step_range (start := (celOne L r).toNat) (l := l.toNat) hq.2.2.1 hq.2.2.2.1 hq.2.2.2.2.1 hq.2.2.2.2.2.1 hq.2.2.2.2.2.2.1 hq.2.2.2.2.2.2.2 hb.2.2.1 (by omega) j (by omega)
      unfold rideT
      simp only [tim]
      omega
    · rw [show i = j + 1 by omega]; exact Int.le_refl _
section
variable {L : Lay} {r : Rte} {l sp ac br bf af : Int} (h : Ride L r l sp ac br)
include h
theorem lev_in {j : Nat} (hj : j < (trv r).length) : endA L (trv r) j ≤ (if j + 1 < (trv r).length then endA L (trv r) j + l.toNat else endA L (trv r) j) ∧ (if j + 1 < (trv r).length then endA L (trv r) j + l.toNat else endA L (trv r) j) ≤ endA L (trv r) ((trv r).length - 1) := by
  have a := endA_mono L (trv r) (show j ≤ (trv r).length - 1 by omega)
  split
  · rename_i c
    have b := endA_mono L (trv r) (show j + 1 ≤ (trv r).length - 1 by omega)
    have d := (h.len (j + 1) c).2.1
    have hq := chk_of h.chk
    simp only [endA] at b
    omega
  · omega
end
end Go.Proofs.Ytbpeakgihhdocaa.Av
namespace Go.Proofs.Ytbpeakgihhdocaa.Av
open Go.RowKit
set_option linter.unusedVariables false
set_option linter.unusedSimpArgs false
theorem okWide_spot {P : Program} {w : World} {r : Reach} {base : Nat} {t e : TypeId} {v : Value} (ht : P.underlying t = some (.slice e)) (h : Value.okWide P w r base t v) {a : Addr} {len cap : Nat} (hv : v = .slice (some a) len cap) : a.spot = none := by
  subst hv
  simp only [Value.okWide, ht, Cell.okWide, Cell.ok] at h
  exact h.2.2.2.1
theorem law_calls {f : FuncId} {args : List AVal} (hO : Ok Try.prog f args [] (aB true) []) (w : World) (vals : Array Value) (hs : vals.size = args.length) (hr : ∀ i (h : i < args.length) (h' : i < vals.size) l, RepA w (fun _ => .lock none) id l args[i] vals[i]) (hok : ∀ x ∈ args, x.ok 0 = true) :
    Calls Try.prog f vals w fun e w' => e = .returned (.bool true) ∧ Below w.heap.size w w' := by
  refine (hO.run w (fun _ => .lock none) id vals hs hr hok ⟨fun b cs h => by simp at h, fun b cs h => by simp at h⟩).mono ?_
  rintro e w' ⟨v, κ', ρ', rfl, hv, _, hfr, _⟩
  have hv : RepF w' κ' (.v (.bool true)) v := hv (.slot 0)
  rw [(repF_v.1 hv).1]
  exact ⟨rfl, hfr.os, hfr.tape, hfr.output, hfr.size, fun k hk => (hfr.lock k none hk rfl).2⟩
end Go.Proofs.Ytbpeakgihhdocaa.Av
