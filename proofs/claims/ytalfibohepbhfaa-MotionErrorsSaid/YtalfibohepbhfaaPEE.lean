/- What the claims use of their texts: Ps3, Ps4, Rt4, Rt5, Rt6, Rt7, Plain, DynPlain, PermPlain, Ref6Plain, Dy1, Dy2, Arith, Arith2, RefSqrt, BrA, Dy3, Dy4, Dy5, Bl1, Bl2. -/
import Derived.Test.YtalfibohepbhfaaPED
set_option linter.unusedVariables false
set_option linter.unusedSimpArgs false
set_option maxRecDepth 4000
set_option maxHeartbeats 4000000
namespace Go.Proofs.Ytalfibohepbhfaa.Av
open Go.RowKit
abbrev dW : Wrd := ⟨⟨#[]⟩, 0, 0⟩
theorem flat_fWrd (l : List PW) : (l.map PW.w).flatMap fWrd = (l.flatMap wF).map FVal.v := by
 induction l with
 | nil => rfl
 | cons a l ih => simp only [List.map_cons, List.flatMap_cons, List.map_append, ih]; rfl
theorem ok_words {P : Program} {f : FuncId} {args : List AVal} {t : TypeId} (fn : Func) (hf : P.funcs[f]? = some fn) (hb : fn.body.isSome = true) (hn : (fn.name == "runtime.NumGoroutine") = false) (ws : List PW)
  (h : ∀ (w : World) (κ : Nat → BK) (ρ : Nat → Nat) (vals : Array Value), vals.size = args.length → (∀ i (h : i < args.length) (h' : i < vals.size) l, RepA w κ ρ l args[i] vals[i]) → Calls P f vals w fun e w' => ∃ A c, e = .returned (.tuple #[.slice A ws.length c, .int .i64 0]) ∧ OwnF w' w.heap.size t 3 wF (.slice A ws.length c) ws ∧ Below w.heap.size w w') : Ok P f args [] (.tup [.c (.f (.row ((ws.map PW.w).flatMap fWrd) (ws.map PW.w).length)), .c (.f (.v (.int .i64 0)))]) [] := by
 refine ⟨⟨fn, hf, hb, hn⟩, rfl, rfl, Nat.le_refl _, fun w κ ρ vals hs hr hok hH => ?_⟩
 refine (h w κ ρ vals hs hr).mono ?_
 rintro e w' ⟨A, c, rfl, hO, hB⟩
 refine ⟨_, fun g => if g < w.heap.size then κ g else .lock none, ρ, rfl, fun l => ?_, ⟨fun b cs h => by simp at h, fun b cs h => by simp at h⟩, ⟨hB.os, hB.tape, hB.output, hB.size, fun g n hg hl => ⟨by rw [if_pos hg]; exact hl, hB.block g hg⟩, ⟨hB.size, fun g o x hg _ hx => ?_, fun g n hg hf => by rw [if_pos hg]; exact hf⟩⟩, fun _ _ => rfl⟩
 ·refine ⟨_, rfl, rfl, fun i hi hi' => ?_⟩
  match i, hi with
  | 0, _ =>
   refine ⟨rfl, ?_⟩
   show RepF _ _ (.row ((ws.map PW.w).flatMap fWrd) (ws.map PW.w).length) (.slice A ws.length c)
   rw [flat_fWrd, List.length_map]
   obtain ⟨h1, h2⟩ := hO
   rcases h2 with ⟨h0, h00⟩ | ⟨g, cap, cur, hv, hg, hh, hle, hcap, hsz, ht⟩
   ·injection h0 with e1 e2 e3
    have : ws = [] := List.eq_nil_of_length_eq_zero h00
    subst this
    rw [e1, show c = 0 from e3]
    exact .nil0
   ·injection hv with e1 e2 e3
    subst e1; subst e3
    refine repF_rowI ⟨g, 0, c, rfl, hle, fun j hj => ?_, fun _ => ⟨?_, ?_⟩⟩
    ·rw [List.length_map] at hj
     refine ⟨(ws.flatMap wF)[j], ?_, ?_⟩
     ·have hu : (ws.flatMap wF)[j]? = some (ws.flatMap wF)[j] := List.getElem?_eq_getElem hj
      conv at hu => lhs; rw [← ht]
      rw [List.getElem?_take] at hu
      split at hu
      ·simp only [World.cell?, hh, Nat.zero_add]
       simpa using hu
      ·cases hu
     ·rw [List.getElem_map]
      refine .v _ ?_
      have hm : (ws.flatMap wF)[j] ∈ ws.flatMap wF := List.getElem_mem hj
      obtain ⟨p, _, hp⟩ := List.mem_flatMap.1 hm
      revert hp
      generalize (ws.flatMap wF)[j] = u
      intro hp
      simp only [wF, List.mem_cons, List.not_mem_nil, or_false] at hp
      rcases hp with rfl | rfl | rfl <;> rfl
    ·exact lt_of_heap hh
    ·have hnl : ¬ g < w.heap.size := by omega
     show BK.fits (if g < w.heap.size then κ g else .lock none) _
     rw [if_neg hnl]; trivial
  | 1, _ => exact ⟨rfl, .v _ rfl⟩
 ·rw [World.cell?_of_block (w := w) (a := ⟨g, o, none⟩) (hB.block g hg)]
  exact hx
theorem one_ok (l : List UInt8) (ln : Int) (hok : okLine l = true) (hs : l.length ≤ 65536) (hw : (wOne l ln).length ≤ 64) : OkV Try.prog 73 [vS (bL l), vI ln] [] (.tup [.c (rWrd ((wOne l ln).map PW.w)), .c (xI 0)]) [] := by
 refine ok_words (t := 132) _ Try.func73 (by kernel_rfl) (by kernel_rfl) (wOne l ln) fun w κ ρ vals hs2 hr => ?_
 have hs2 : vals.size = 2 := hs2
 have h0 := (repF_v.1 (hr 0 (by simp) (by omega) (.slot 0))).1
 have h1 := (repF_v.1 (hr 1 (by simp) (by omega) (.slot 0))).1
 have hv : vals = #[.string (bL l), .int .i64 ln] := by
  apply Array.ext
  ·simpa using hs2
  ·intro i hi hi'
   match i, hi' with
   | 0, _ => exact h0
   | 1, _ => exact h1
 rw [hv]
 exact one_any (bL l) ln w hok hs hw
theorem u8_sub (b : Nat) (h1 : 48 ≤ b) (h2 : b ≤ 57) : IntKind.u8.wrap ((b : Int) - 48) = (b : Int) - 48 := by
 simp only [IntKind.wrap]
 simp [IntKind.bits, IntKind.signed]
 omega
theorem dig_ok (c : Nat) (hc : c < 256) : OkV Try.prog 98 [.c (.c (.f (.v (.int .u8 c))))] [] (vB (decide ((48 : Int) ≤ c) && decide ((c : Int) ≤ 57))) [] := by
 refine X_fn mixedX Try.func98 rfl (by kernel_rfl) (Nat.le_of_ble_eq_true (by kernel_rfl)) (by kernel_rfl) rfl rfl (Nat.le_of_ble_eq_true rfl) rfl rfl ?_
 simp only [sl0, Nat.zero_add, Nat.reduceAdd]
 repeat' (first
  |with_reducible (first|refine q_and ?_ ?_|exact True.intro|exact TkEq.nil _|refine Red.o (by constructor) ?_|refine blockK_o' rfl ?_|refine LoopX_e' rfl ?_|assumption)
  |((with_reducible apply q_CI);intro hbq;(try simp only [bq] at hbq);(try (exfalso;omega)))
  |refine Rex.o (by (with_reducible constructor);apply Eq.refl) ?_
  |(intro (hgq : (_ : Bool) = true);(try simp only [bq] at hgq))
  |(intro (hgq : (_ : Bool) = false);(try simp only [bq] at hgq))
  |((with_reducible apply q_VOk);exact fun _ => ⟨rfl,rfl⟩)|(intro _;exact rfl)|((with_reducible apply q_CRB);kernel_rfl)|((with_reducible apply q_bt);simp only [bq])|((with_reducible apply q_eqN);rfl)|((with_reducible apply q_FE);exact rfl)|with_reducible (first|exact isByte_wrap _|exact isByte_nat _)|(simp only [hgq,bq];done)|omega|(dsimp only;omega))
 repeat' (first|with_reducible (first|refine Wk.o (by constructor) ?_|refine q_and ?_ ?_|exact True.intro)|refine VEq.c ?_|refine VEq.agg ?_|refine VEq.tup ?_|refine TkEq.cells ?_ ?_|refine TkEq.els ?_ ?_|refine SEqL.cons ?_ ?_|refine TEqL.agg ?_ ?_|refine CEq.rows ?_|refine CEq.int ?_|rfl|omega)
def numU (l : List UInt8) (i : Nat) : Int := numL (l.take i)
theorem numU_succ (l : List UInt8) (i : Nat) (h : i < l.length) : numU l (i + 1) = 10 * numU l i + (((l.getD i 0).toNat : Int) - 48) := by
 unfold numU numL
 rw [List.take_succ_eq_append_getElem h, List.foldl_append, List.getD_eq_getElem?_getD, List.getElem?_eq_getElem h]
 rfl
theorem numU_rng (l : List UInt8) (hd : l.all digit = true) : ∀ i, i ≤ l.length → 0 ≤ numU l i ∧ numU l i + 1 ≤ 10 ^ i
 | 0, _ => ⟨by show (0 : Int) ≤ 0; omega, by show (0 : Int) + 1 ≤ 1; omega⟩
 | i + 1, h => by
  have ih := numU_rng l hd i (by omega)
  rw [numU_succ l i (by omega)]
  have hg : digit (l.getD i 0) = true := by
   rw [List.getD_eq_getElem?_getD, List.getElem?_eq_getElem (by omega)]
   exact List.all_eq_true.1 hd _ (List.getElem_mem _)
  unfold digit at hg
  simp only [Bool.and_eq_true, decide_eq_true_eq] at hg
  have e : (10 : Int) ^ (i + 1) = 10 * 10 ^ i := by rw [Int.pow_succ]; omega
  rw [e]
  omega
theorem bL_get (l : List UInt8) (i : Nat) : (bL l).data.getD i 0 = l.getD i 0 := by
 simp [bL, Array.getD_eq_getD_getElem?, List.getD_eq_getElem?_getD]
theorem number_ok (l : List UInt8) (h : okNum l = true) : OkV Try.prog 87 [vS (bL l)] [] (.tup [.c (xI (numL l)), .c (xB true)]) [] := by
 unfold okNum at h
 simp only [Bool.and_eq_true, decide_eq_true_eq, Bool.or_eq_true] at h
 obtain ⟨⟨⟨h1, h2⟩, h3⟩, h4⟩ := h
 have hz : (bL l).size = l.length := rfl
 have hdig : ∀ i, i < l.length → 48 ≤ ((bL l).data.getD i 0).toNat ∧ ((bL l).data.getD i 0).toNat ≤ 57 := fun i hi => by
  rw [bL_get]
  have hg : digit (l.getD i 0) = true := by
   rw [List.getD_eq_getElem?_getD, List.getElem?_eq_getElem hi]
   exact List.all_eq_true.1 h3 _ (List.getElem_mem _)
  unfold digit at hg
  simpa using hg
 have hd0 : 48 ≤ ((bL l).data.getD (0 : Int).toNat 0).toNat ∧ ((bL l).data.getD (0 : Int).toNat 0).toNat ≤ 57 := hdig 0 (by omega)
 have hz0 : l.length = 1 ∨ ((bL l).data.getD (0 : Int).toNat 0).toNat ≠ 48 := by
  rcases h4 with h | h
  ·exact .inl h
  ·right
   intro e
   have e2 : (bL l).data.getD (0 : Int).toNat 0 = l.getD 0 0 := bL_get l 0
   rw [e2] at e
   have : l.getD 0 0 = 48 := UInt8.toNat_inj.1 e
   rw [this] at h
   simp at h
 have hrg := numU_rng l h3
 have hpw : ∀ i, i ≤ 12 → (10 : Int) ^ i ≤ 10 ^ 12 := fun i hi => by
  have := Nat.pow_le_pow_right (n := 10) (by omega) hi
  exact_mod_cast this
 have hmx : (10 : Int) ^ 12 = 1000000000000 := by rfl
 refine X_fn mixedX Try.func87 rfl (by kernel_rfl) (Nat.le_of_ble_eq_true (by kernel_rfl)) (by kernel_rfl) rfl rfl (Nat.le_of_ble_eq_true rfl) rfl rfl ?_
 simp only [sl0, Nat.zero_add, Nat.reduceAdd]
 repeat' (first
  |with_reducible (first|refine q_and ?_ ?_|exact True.intro|exact TkEq.nil _|refine Red.o (by constructor) ?_|refine blockK_o' rfl ?_|refine LoopX_e' rfl ?_|assumption)
  |((with_reducible apply q_CI);intro hbq;(try simp only [bq] at hbq);(try (exfalso;omega)))
  |with_reducible (first|refine W_seq ?_|refine W_block ?_)
  |((with_reducible apply q_cond);refine X_cond rfl ?_ ?_;all_goals (intro hbq;(try simp only [bq] at hbq);(try (exfalso;omega))))
  |refine Rex.o (by (with_reducible constructor);apply Eq.refl) ?_
  |(intro (hgq : (_ : Bool) = true);(try simp only [bq] at hgq))
  |(intro (hgq : (_ : Bool) = false);(try simp only [bq] at hgq))
  |((with_reducible apply q_VOk);exact fun _ => ⟨rfl,rfl⟩)|(intro _;exact rfl)|((with_reducible apply q_CRB);kernel_rfl)|((with_reducible apply q_bt);simp only [bq])|((with_reducible apply q_eqN);rfl)|((with_reducible apply q_FE);exact rfl)|with_reducible (first|exact isByte_wrap _|exact isByte_nat _)|(simp only [hgq,bq];done)|omega|(dsimp only;omega))
 refine W_loopS (fun i : Nat => SS [sS 4 (bL l), sI 5 1, sI 6 (numU l i), sI 7 i] []) (fun i => i ≤ l.length) (fun i => l.length - i) 0 ?_ (by omega) ?_
 ·
  refine X_weak rfl rfl rfl ?_ ?_ <;> repeat' (first|with_reducible (first|refine Wk.o (by constructor) ?_|refine q_and ?_ ?_|exact True.intro)|refine q_AgS rfl ?_ ?_|exact CLe.nil_tipS|exact CLe.nil_rowS|refine HLe.cells ?_ ?_|refine HLe.els ?_ ?_|refine SLe.cons ?_ ?_|exact (rfl : known _ = _)|with_reducible rfl|omega)
  all_goals rfl
 intro i hi
 have hr1 := hrg i hi
 have hr2 := hpw i (by omega)
 have hD := dig_ok ((bL l).data.getD (i : Int).toNat 0).toNat (UInt8.toNat_lt _)
 by_cases hil : i < l.length
 ·have hdi : 48 ≤ ((bL l).data.getD (i : Int).toNat 0).toNat ∧ ((bL l).data.getD (i : Int).toNat 0).toNat ≤ 57 := hdig i hil
  have hu := u8_sub _ hdi.1 hdi.2
  have hs := numU_succ l i hil
  have e2 : (bL l).data.getD (i : Int).toNat 0 = l.getD i 0 := bL_get l i
  repeat' (first
   |with_reducible (first|refine q_and ?_ ?_|exact True.intro|exact TkEq.nil _|refine Red.o (by constructor) ?_|refine blockK_o' rfl ?_|refine LoopX_e' rfl ?_|assumption)
   |((with_reducible apply q_call);refine X_pure (hD) rfl ?_)
   |((with_reducible apply q_CI);intro hbq;(try simp only [bq] at hbq);(try (exfalso;omega)))
   |with_reducible (first|refine W_seq ?_|refine W_block ?_)
   |((with_reducible apply q_cond);refine X_cond rfl ?_ ?_;all_goals (intro hbq;(try simp only [bq] at hbq);(try (exfalso;omega))))
   |refine Rex.o (by (with_reducible constructor);apply Eq.refl) ?_
   |(intro (hgq : (_ : Bool) = true);(try simp only [bq] at hgq))
   |(intro (hgq : (_ : Bool) = false);(try simp only [bq] at hgq))
   |((with_reducible apply q_VOk);exact fun _ => ⟨rfl,rfl⟩)|(intro _;exact rfl)|((with_reducible apply q_CRB);kernel_rfl)|((with_reducible apply q_bt);simp only [bq])|((with_reducible apply q_eqN);rfl)|((with_reducible apply q_FE);exact rfl)|with_reducible (first|exact isByte_wrap _|exact isByte_nat _)|(simp only [hgq,bq];done)|omega|(dsimp only;omega))
  ·
   refine LoopK_n (i + 1) ?_ ((by omega)) (by (try dsimp only); omega)
   refine X_weak rfl rfl rfl ?_ ?_ <;> repeat' (first|with_reducible (first|refine Wk.o (by constructor) ?_|refine q_and ?_ ?_|exact True.intro)|refine q_AgS rfl ?_ ?_|exact CLe.nil_tipS|exact CLe.nil_rowS|refine HLe.cells ?_ ?_|refine HLe.els ?_ ?_|refine SLe.cons ?_ ?_|exact (rfl : known _ = _)|with_reducible rfl|omega)
   ·rw [hs, hu, e2]
 ·have hie : i = l.length := by omega
  subst hie
  have e1 : numU l l.length = numL l := by unfold numU; rw [List.take_length]
  repeat' (first
   |with_reducible (first|refine q_and ?_ ?_|exact True.intro|exact TkEq.nil _|refine Red.o (by constructor) ?_|refine blockK_o' rfl ?_|refine LoopX_e' rfl ?_|assumption)
   |((with_reducible apply q_call);refine X_pure (hD) rfl ?_)
   |((with_reducible apply q_CI);intro hbq;(try simp only [bq] at hbq);(try (exfalso;omega)))
   |with_reducible (first|refine W_seq ?_|refine W_block ?_)
   |((with_reducible apply q_cond);refine X_cond rfl ?_ ?_;all_goals (intro hbq;(try simp only [bq] at hbq);(try (exfalso;omega))))
   |refine Rex.o (by (with_reducible constructor);apply Eq.refl) ?_
   |(intro (hgq : (_ : Bool) = true);(try simp only [bq] at hgq))
   |(intro (hgq : (_ : Bool) = false);(try simp only [bq] at hgq))
   |((with_reducible apply q_VOk);exact fun _ => ⟨rfl,rfl⟩)|(intro _;exact rfl)|((with_reducible apply q_CRB);kernel_rfl)|((with_reducible apply q_bt);simp only [bq])|((with_reducible apply q_eqN);rfl)|((with_reducible apply q_FE);exact rfl)|with_reducible (first|exact isByte_wrap _|exact isByte_nat _)|(simp only [hgq,bq];done)|omega|(dsimp only;omega))
  ·rw [Int.one_mul, e1]
   repeat' (first|with_reducible (first|refine Wk.o (by constructor) ?_|refine q_and ?_ ?_|exact True.intro)|refine VEq.c ?_|refine VEq.agg ?_|refine VEq.tup ?_|refine TkEq.cells ?_ ?_|refine TkEq.els ?_ ?_|refine SEqL.cons ?_ ?_|refine TEqL.agg ?_ ?_|refine CEq.rows ?_|refine CEq.int ?_|rfl|omega)
theorem bL_toList (s : List UInt8) : (bL s).toList = s := by rw [ByteArray.toList_eq]; simp [bL]
theorem sEq {a : ByteArray} {s : List UInt8} (h : (a.toList == (bL s).toList) = true) : a.data.toList = s := by
 rw [bL_toList, ByteArray.toList_eq] at h
 simpa using h
theorem sNe {a : ByteArray} {s : List UInt8} (h : (a.toList == (bL s).toList) = false) : a.data.toList ≠ s := by
 rw [bL_toList, ByteArray.toList_eq] at h
 simpa using h
theorem letterEnd_ok (s : List UInt8) : OkV Try.prog 89 [vS (bL s)] [] (vI (endL s)) [] := by
 unfold endL
 have e : (bL s).data.toList = s := by simp [bL]
 refine X_fn mixedX Try.func89 rfl (by kernel_rfl) (Nat.le_of_ble_eq_true (by kernel_rfl)) (by kernel_rfl) rfl rfl (Nat.le_of_ble_eq_true rfl) rfl rfl ?_
 simp only [sl0, Nat.zero_add, Nat.reduceAdd]
 repeat' (first
  |with_reducible (first|refine q_and ?_ ?_|exact True.intro|exact TkEq.nil _|refine Red.o (by constructor) ?_|refine blockK_o' rfl ?_|refine LoopX_e' rfl ?_|assumption)
  |((with_reducible apply q_CI);intro hbq;(try simp only [bq] at hbq);(try (exfalso;omega)))
  |refine Rex.o (by (with_reducible constructor);apply Eq.refl) ?_
  |(intro (hgq : (_ : Bool) = true);(try simp only [bq] at hgq))
  |(intro (hgq : (_ : Bool) = false);(try simp only [bq] at hgq))
  |((with_reducible apply q_VOk);exact fun _ => ⟨rfl,rfl⟩)|(intro _;exact rfl)|((with_reducible apply q_CRB);kernel_rfl)|((with_reducible apply q_bt);simp only [bq])|((with_reducible apply q_eqN);rfl)|((with_reducible apply q_FE);exact rfl)|with_reducible (first|exact isByte_wrap _|exact isByte_nat _)|(simp only [hgq,bq];done)|omega|(dsimp only;omega))
 ·have h : (bL s).data.toList = [65] := sEq hbq
  rw [e] at h
  rw [if_pos h]
  repeat' (first|with_reducible (first|refine Wk.o (by constructor) ?_|refine q_and ?_ ?_|exact True.intro)|refine VEq.c ?_|refine VEq.agg ?_|refine VEq.tup ?_|refine TkEq.cells ?_ ?_|refine TkEq.els ?_ ?_|refine SEqL.cons ?_ ?_|refine TEqL.agg ?_ ?_|refine CEq.rows ?_|refine CEq.int ?_|rfl|omega)
 ·rename_i hbq2
  have h : (bL s).data.toList ≠ [65] := sNe hbq2
  have h2 : (bL s).data.toList = [66] := sEq hbq
  rw [e] at h h2
  rw [if_neg h, if_pos h2]
  repeat' (first|with_reducible (first|refine Wk.o (by constructor) ?_|refine q_and ?_ ?_|exact True.intro)|refine VEq.c ?_|refine VEq.agg ?_|refine VEq.tup ?_|refine TkEq.cells ?_ ?_|refine TkEq.els ?_ ?_|refine SEqL.cons ?_ ?_|refine TEqL.agg ?_ ?_|refine CEq.rows ?_|refine CEq.int ?_|rfl|omega)
 ·rename_i hbq2
  have h : (bL s).data.toList ≠ [65] := sNe hbq2
  have h2 : (bL s).data.toList ≠ [66] := sNe hbq
  rw [e] at h h2
  rw [if_neg h, if_neg h2]
  repeat' (first|with_reducible (first|refine Wk.o (by constructor) ?_|refine q_and ?_ ?_|exact True.intro)|refine VEq.c ?_|refine VEq.agg ?_|refine VEq.tup ?_|refine TkEq.cells ?_ ?_|refine TkEq.els ?_ ?_|refine SEqL.cons ?_ ?_|refine TEqL.agg ?_ ?_|refine CEq.rows ?_|refine CEq.int ?_|rfl|omega)
theorem placeL_at : ∀ {l : List ByteArray} {s : List UInt8} {i : Nat}, i < l.length → (l.getD i ⟨#[]⟩).data.toList = s → (∀ j, j < i → (l.getD j ⟨#[]⟩).data.toList ≠ s) → placeL l s = i
 | x :: l, s, 0, _, h, _ => by unfold placeL; rw [if_pos (show x.data.toList = s from h)]; rfl
 | x :: l, s, i + 1, hi, h, hn => by
  have h0 : ¬ x.data.toList = s := hn 0 (by omega)
  have ih := placeL_at (l := l) (s := s) (i := i) (by simpa using hi) h (fun j hj => hn (j + 1) (by omega))
  unfold placeL
  rw [if_neg h0, ih]
  simp only
  rw [if_neg (by omega)]; rfl
theorem placeL_no : ∀ {l : List ByteArray} {s : List UInt8}, (∀ j, j < l.length → (l.getD j ⟨#[]⟩).data.toList ≠ s) → placeL l s = -1
 | [], s, _ => rfl
 | x :: l, s, hn => by
  have h0 : ¬ x.data.toList = s := hn 0 (by simp)
  have ih := placeL_no (l := l) (s := s) (fun j hj => hn (j + 1) (by simpa using hj))
  unfold placeL
  rw [if_neg h0, ih]
  rfl
theorem place_ok (l : List ByteArray) (s : List UInt8) (hl : l.length ≤ 1000) : OkV Try.prog 88 [.c (rStr l), vS (bL s)] [] (vI (placeL l s)) [] := by
 refine X_fn mixedX Try.func88 rfl (by kernel_rfl) (Nat.le_of_ble_eq_true (by kernel_rfl)) (by kernel_rfl) rfl rfl (Nat.le_of_ble_eq_true rfl) rfl rfl ?_
 simp only [sl0, Nat.zero_add, Nat.reduceAdd]
 repeat' (first
  |with_reducible (first|refine q_and ?_ ?_|exact True.intro|exact TkEq.nil _|refine Red.o (by constructor) ?_|refine blockK_o' rfl ?_|refine LoopX_e' rfl ?_|assumption)
  |((with_reducible apply q_CI);intro hbq;(try simp only [bq] at hbq);(try (exfalso;omega)))
  |refine Rex.o (by (with_reducible constructor);apply Eq.refl) ?_
  |(intro (hgq : (_ : Bool) = true);(try simp only [bq] at hgq))
  |(intro (hgq : (_ : Bool) = false);(try simp only [bq] at hgq))
  |((with_reducible apply q_VOk);exact fun _ => ⟨rfl,rfl⟩)|(intro _;exact rfl)|((with_reducible apply q_CRB);kernel_rfl)|((with_reducible apply q_bt);simp only [bq])|((with_reducible apply q_eqN);rfl)|((with_reducible apply q_FE);exact rfl)|with_reducible (first|exact isByte_wrap _|exact isByte_nat _)|(simp only [hgq,bq];done)|omega|(dsimp only;omega))
 refine W_loopS (fun i : Nat => SS [sC 0 (rStr l), sS 1 (bL s), sI 5 i] []) (fun i => i ≤ l.length ∧ ∀ j, j < i → (l.getD j ⟨#[]⟩).data.toList ≠ s) (fun i => l.length - i) 0 ?_ ⟨by omega, fun j hj => by omega⟩ ?_
 ·
  refine X_weak rfl rfl rfl ?_ ?_ <;> repeat' (first|with_reducible (first|refine Wk.o (by constructor) ?_|refine q_and ?_ ?_|exact True.intro)|refine q_AgS rfl ?_ ?_|exact CLe.nil_tipS|exact CLe.nil_rowS|refine HLe.cells ?_ ?_|refine HLe.els ?_ ?_|refine SLe.cons ?_ ?_|exact (rfl : known _ = _)|with_reducible rfl|omega)
 intro i hi
 obtain ⟨hi, hno⟩ := hi
 repeat' (first
  |with_reducible (first|refine q_and ?_ ?_|exact True.intro|exact TkEq.nil _|refine Red.o (by constructor) ?_|refine blockK_o' rfl ?_|refine LoopX_e' rfl ?_|assumption)
  |((with_reducible apply q_CI);intro hbq;(try simp only [bq] at hbq);(try (exfalso;omega)))
  |refine Rex.o (by (with_reducible constructor);apply Eq.refl) ?_
  |(intro (hgq : (_ : Bool) = true);(try simp only [bq] at hgq))
  |(intro (hgq : (_ : Bool) = false);(try simp only [bq] at hgq))
  |((with_reducible apply q_VOk);exact fun _ => ⟨rfl,rfl⟩)|(intro _;exact rfl)|((with_reducible apply q_CRB);kernel_rfl)|((with_reducible apply q_bt);simp only [bq])|((with_reducible apply q_eqN);rfl)|((with_reducible apply q_FE);exact rfl)|with_reducible (first|exact isByte_wrap _|exact isByte_nat _)|(simp only [hgq,bq];done)|omega|(dsimp only;omega))
 ·rw [placeL_at (l := l) (s := s) (i := i) (by omega) (sEq hbq) hno]
  repeat' (first|with_reducible (first|refine Wk.o (by constructor) ?_|refine q_and ?_ ?_|exact True.intro)|refine VEq.c ?_|refine VEq.agg ?_|refine VEq.tup ?_|refine TkEq.cells ?_ ?_|refine TkEq.els ?_ ?_|refine SEqL.cons ?_ ?_|refine TEqL.agg ?_ ?_|refine CEq.rows ?_|refine CEq.int ?_|rfl|omega)
 ·
  refine LoopK_n (i + 1) ?_ (⟨by omega, upto_succ hno (sNe hbq)⟩) (by (try dsimp only); omega)
  refine X_weak rfl rfl rfl ?_ ?_ <;> repeat' (first|with_reducible (first|refine Wk.o (by constructor) ?_|refine q_and ?_ ?_|exact True.intro)|refine q_AgS rfl ?_ ?_|exact CLe.nil_tipS|exact CLe.nil_rowS|refine HLe.cells ?_ ?_|refine HLe.els ?_ ?_|refine SLe.cons ?_ ?_|exact (rfl : known _ = _)|with_reducible rfl|omega)
 ·rw [placeL_no (l := l) (s := s) (fun j hj => hno j (by omega))]
  repeat' (first|with_reducible (first|refine Wk.o (by constructor) ?_|refine q_and ?_ ?_|exact True.intro)|refine VEq.c ?_|refine VEq.agg ?_|refine VEq.tup ?_|refine TkEq.cells ?_ ?_|refine TkEq.els ?_ ?_|refine SEqL.cons ?_ ?_|refine TEqL.agg ?_ ?_|refine CEq.rows ?_|refine CEq.int ?_|rfl|omega)
abbrev bLayT (L : Lay) : Option SB := some (.cells [uStr L.sts, uStr L.pts, uSec L.secs, uLnk L.lnks])
theorem declSec_ok (L : Lay) (w : List Wrd) (a b c d : List UInt8) (hl : w.length = 5) (ha : (w.getD (1 : Int).toNat dW).tx = bL a) (hb : (w.getD (2 : Int).toNat dW).tx = bL b) (hc : (w.getD (3 : Int).toNat dW).tx = bL c) (hd : (w.getD (4 : Int).toNat dW).tx = bL d) (h1 : okNum b = true) (h2 : okNum c = true) (h3 : okNum d = true) (hL : L.secs.length ≤ 1000) :
  OkV Try.prog 74 [.c (pB 0), .c (rWrd w)] [bLayT L] (vI 0) [bLayT { L with secs := L.secs ++ [⟨bL a, numL b, numL c, numL d, -1⟩] }] := by
 have n1 := number_ok b h1
 have n2 := number_ok c h2
 have n3 := number_ok d h3
 rw [← hb] at n1
 rw [← hc] at n2
 rw [← hd] at n3
 refine X_fn mixedX Try.func74 rfl (by kernel_rfl) (Nat.le_of_ble_eq_true (by kernel_rfl)) (by kernel_rfl) rfl rfl (Nat.le_of_ble_eq_true rfl) rfl rfl ?_
 simp only [sl0, Nat.zero_add, Nat.reduceAdd]
 repeat' (first
  |with_reducible (first|refine q_and ?_ ?_|exact True.intro|exact TkEq.nil _|refine Red.o (by constructor) ?_|refine blockK_o' rfl ?_|refine LoopX_e' rfl ?_|assumption)
  |((with_reducible apply q_call);first|refine X_pure (n1) rfl ?_|refine X_pure (n2) rfl ?_|refine X_pure (n3) rfl ?_)
  |((with_reducible apply q_CI);intro hbq;(try simp only [bq] at hbq);(try (exfalso;omega)))
  |with_reducible (first|refine W_seq ?_|refine W_block ?_)
  |((with_reducible apply q_cond);refine X_cond rfl ?_ ?_;all_goals (intro hbq;(try simp only [bq] at hbq);(try (exfalso;omega))))
  |refine Rex.o (by (with_reducible constructor);apply Eq.refl) ?_
  |(intro (hgq : (_ : Bool) = true);(try simp only [bq] at hgq))
  |(intro (hgq : (_ : Bool) = false);(try simp only [bq] at hgq))
  |((with_reducible apply q_VOk);exact fun _ => ⟨rfl,rfl⟩)|(intro _;exact rfl)|((with_reducible apply q_CRB);kernel_rfl)|((with_reducible apply q_bt);simp only [bq])|((with_reducible apply q_eqN);rfl)|((with_reducible apply q_FE);exact rfl)|with_reducible (first|exact isByte_wrap _|exact isByte_nat _)|(simp only [hgq,bq];done)|omega|(dsimp only;omega))
 ·rfl
 ·rw [ha]
  repeat' (first|with_reducible (first|refine Wk.o (by constructor) ?_|refine q_and ?_ ?_|exact True.intro)|refine VEq.c ?_|refine VEq.agg ?_|refine VEq.tup ?_|refine TkEq.cells ?_ ?_|refine TkEq.els ?_ ?_|refine SEqL.cons ?_ ?_|refine TEqL.agg ?_ ?_|refine CEq.rows ?_|refine CEq.int ?_|rfl|omega)
theorem declSecAt_ok (L : Lay) (w : List Wrd) (a b c d e f : List UInt8) (hl : w.length = 7) (ha : (w.getD (1 : Int).toNat dW).tx = bL a) (hb : (w.getD (2 : Int).toNat dW).tx = bL b) (hc : (w.getD (3 : Int).toNat dW).tx = bL c) (hd : (w.getD (4 : Int).toNat dW).tx = bL d) (he : (w.getD (5 : Int).toNat dW).tx = bL [97, 116]) (hf : (w.getD (6 : Int).toNat dW).tx = bL f) (h1 : okNum b = true) (h2 : okNum c = true) (h3 : okNum d = true) (hp : 0 ≤ placeL L.sts f) (hL : L.secs.length ≤ 1000) (hS : L.sts.length ≤ 1000) :
  OkV Try.prog 74 [.c (pB 0), .c (rWrd w)] [bLayT L] (vI 0) [bLayT { L with secs := L.secs ++ [⟨bL a, numL b, numL c, numL d, placeL L.sts f⟩] }] := by
 have n1 := number_ok b h1
 have n2 := number_ok c h2
 have n3 := number_ok d h3
 have n4 := place_ok L.sts f hS
 rw [← hb] at n1
 rw [← hc] at n2
 rw [← hd] at n3
 rw [← hf] at n4
 refine X_fn mixedX Try.func74 rfl (by kernel_rfl) (Nat.le_of_ble_eq_true (by kernel_rfl)) (by kernel_rfl) rfl rfl (Nat.le_of_ble_eq_true rfl) rfl rfl ?_
 simp only [sl0, Nat.zero_add, Nat.reduceAdd]
 repeat' (first
  |with_reducible (first|refine q_and ?_ ?_|exact True.intro|exact TkEq.nil _|refine Red.o (by constructor) ?_|refine blockK_o' rfl ?_|refine LoopX_e' rfl ?_|assumption)
  |((with_reducible apply q_call);first|refine X_pure (n1) rfl ?_|refine X_pure (n2) rfl ?_|refine X_pure (n3) rfl ?_|refine X_pure (n4) rfl ?_)
  |((with_reducible apply q_CI);intro hbq;(try simp only [bq] at hbq);(try (exfalso;omega)))
  |with_reducible (first|refine W_seq ?_|refine W_block ?_)
  |((with_reducible apply q_cond);refine X_cond rfl ?_ ?_;all_goals (intro hbq;(try simp only [bq] at hbq);(try (exfalso;omega))))
  |refine Rex.o (by (with_reducible constructor);apply Eq.refl) ?_
  |(intro (hgq : (_ : Bool) = true);(try simp only [bq] at hgq))
  |(intro (hgq : (_ : Bool) = false);(try simp only [bq] at hgq))
  |((with_reducible apply q_VOk);exact fun _ => ⟨rfl,rfl⟩)|(intro _;exact rfl)|((with_reducible apply q_CRB);kernel_rfl)|((with_reducible apply q_bt);simp only [bq])|((with_reducible apply q_eqN);rfl)|((with_reducible apply q_FE);exact rfl)|with_reducible (first|exact isByte_wrap _|exact isByte_nat _)|(simp only [hgq,bq];done)|omega|(dsimp only;omega))
 ·exact absurd (show (w.getD (5 : Int).toNat dW).tx.data.toList = [97, 116] by rw [he]; simp [bL]) (sNe (s := [97, 116]) hbq.2)
 ·exact absurd (show (w.getD (5 : Int).toNat dW).tx.data.toList = [97, 116] by rw [he]; simp [bL]) (sNe (s := [97, 116]) hbq.2)
 ·rfl
 ·rw [ha]
  repeat' (first|with_reducible (first|refine Wk.o (by constructor) ?_|refine q_and ?_ ?_|exact True.intro)|refine VEq.c ?_|refine VEq.agg ?_|refine VEq.tup ?_|refine TkEq.cells ?_ ?_|refine TkEq.els ?_ ?_|refine SEqL.cons ?_ ?_|refine TEqL.agg ?_ ?_|refine CEq.rows ?_|refine CEq.int ?_|rfl|omega)
theorem declLnk_ok (L : Lay) (w : List Wrd) (a b c d : List UInt8) (hl : w.length = 5) (ha : (w.getD (1 : Int).toNat dW).tx = bL a) (hb : (w.getD (2 : Int).toNat dW).tx = bL b) (hc : (w.getD (3 : Int).toNat dW).tx = bL c) (hd : (w.getD (4 : Int).toNat dW).tx = bL d) (h1 : 0 ≤ endL b) (h2 : 0 ≤ endL d) (h3 : 0 ≤ placeL (L.secs.map Sec.nm) a) (h4 : 0 ≤ placeL (L.secs.map Sec.nm) c) (hL : L.secs.length ≤ 1000) (hL2 : L.lnks.length ≤ 1000) :
  OkV Try.prog 75 [.c (pB 0), .c (rWrd w)] [bLayT L] (vI 0) [bLayT { L with lnks := L.lnks ++ [⟨placeL (L.secs.map Sec.nm) a, endL b, placeL (L.secs.map Sec.nm) c, endL d, -1, 0⟩] }] := by
 have n1 := letterEnd_ok b
 have n2 := letterEnd_ok d
 have n3 := secNames_ok L hL
 have n4 := place_ok (L.secs.map Sec.nm) a (by simpa using hL)
 have n5 := place_ok (L.secs.map Sec.nm) c (by simpa using hL)
 rw [← hb] at n1
 rw [← hd] at n2
 rw [← ha] at n4
 rw [← hc] at n5
 unfold vLay at n3
 refine X_fn mixedX Try.func75 rfl (by kernel_rfl) (Nat.le_of_ble_eq_true (by kernel_rfl)) (by kernel_rfl) rfl rfl (Nat.le_of_ble_eq_true rfl) rfl rfl ?_
 simp only [sl0, Nat.zero_add, Nat.reduceAdd]
 repeat' (first
  |with_reducible (first|refine q_and ?_ ?_|exact True.intro|exact TkEq.nil _|refine Red.o (by constructor) ?_|refine blockK_o' rfl ?_|refine LoopX_e' rfl ?_|assumption)
  |((with_reducible apply q_call);first|refine X_pure (n1) rfl ?_|refine X_pure (n2) rfl ?_|refine X_pure (n3) rfl ?_|refine X_pure (n4) rfl ?_|refine X_pure (n5) rfl ?_)
  |((with_reducible apply q_CI);intro hbq;(try simp only [bq] at hbq);(try (exfalso;omega)))
  |with_reducible (first|refine W_seq ?_|refine W_block ?_)
  |((with_reducible apply q_cond);refine X_cond rfl ?_ ?_;all_goals (intro hbq;(try simp only [bq] at hbq);(try (exfalso;omega))))
  |refine Rex.o (by (with_reducible constructor);apply Eq.refl) ?_
  |(intro (hgq : (_ : Bool) = true);(try simp only [bq] at hgq))
  |(intro (hgq : (_ : Bool) = false);(try simp only [bq] at hgq))
  |((with_reducible apply q_VOk);exact fun _ => ⟨rfl,rfl⟩)|(intro _;exact rfl)|((with_reducible apply q_CRB);kernel_rfl)|((with_reducible apply q_bt);simp only [bq])|((with_reducible apply q_eqN);rfl)|((with_reducible apply q_FE);exact rfl)|with_reducible (first|exact isByte_wrap _|exact isByte_nat _)|(simp only [hgq,bq];done)|omega|(dsimp only;omega))
 ·rfl
 ·
  repeat' (first|with_reducible (first|refine Wk.o (by constructor) ?_|refine q_and ?_ ?_|exact True.intro)|refine VEq.c ?_|refine VEq.agg ?_|refine VEq.tup ?_|refine TkEq.cells ?_ ?_|refine TkEq.els ?_ ?_|refine SEqL.cons ?_ ?_|refine TEqL.agg ?_ ?_|refine CEq.rows ?_|refine CEq.int ?_|rfl|omega)
theorem wNe {w : List Wrd} {i : Nat} {a b : List UInt8} (h : (w.getD i dW).tx = bL a) (hab : a ≠ b) : ((w.getD i dW).tx.toList == (bL b).toList) = false := by
 rw [h, bL_toList, bL_toList]
 simpa using hab
theorem wEq {w : List Wrd} {i : Nat} {a : List UInt8} (h : (w.getD i dW).tx = bL a) : ((w.getD i dW).tx.toList == (bL a).toList) = true := by
 rw [h]; simp
theorem declare_ok (L L' : Lay) (ws : List PW) (h : declL L ws = some L') (hL : L.secs.length ≤ 1000) (hL2 : L.lnks.length ≤ 1000) (hS : L.sts.length ≤ 1000) :
  OkV Try.prog 54 [.c (pB 0), .c (rWrd (ws.map PW.w))] [bLayT L] (vI 0) [bLayT L'] := by
 have hg : ∀ i, i < ws.length → ((ws.map PW.w).getD i dW).tx = bL ((ws.map PW.tx).getD i []) := fun i hi => by
  simp [List.getD_eq_getElem?_getD, List.getElem?_map, List.getElem?_eq_getElem hi, PW.w]
 have hwl : (ws.map PW.w).length = ws.length := by simp
 have htl : (ws.map PW.tx).length = ws.length := by simp
 unfold declL at h
 generalize ws.map PW.w = w at *
 generalize ws.map PW.tx = tx at *
 match tx, h with
 | [k, a], h =>
  have hn : ws.length = 2 := by rw [← htl]; rfl
  have hw : w.length = 2 := by rw [hwl, hn]
  have h0 : (w.getD (0 : Int).toNat dW).tx = bL k := hg 0 (by omega)
  have h1 : (w.getD (1 : Int).toNat dW).tx = bL a := hg 1 (by omega)
  simp only at h
  split at h
  ·rename_i hk
   injection h with h; subst h
   rw [hk] at h0
   have q0 : ((w.getD (0 : Int).toNat { tx := { data := #[] }, ln := 0, co := 0 }).tx.toList == ByteArray.toList ⟨#[115, 116, 97, 116, 105, 111, 110]⟩) = true := wEq h0
   refine X_fn mixedX Try.func54 rfl (by kernel_rfl) (Nat.le_of_ble_eq_true (by kernel_rfl)) (by kernel_rfl) rfl rfl (Nat.le_of_ble_eq_true rfl) rfl rfl ?_
   simp only [sl0, Nat.zero_add, Nat.reduceAdd]
   repeat' (first
    |with_reducible (first|refine q_and ?_ ?_|exact True.intro|exact TkEq.nil _|refine Red.o (by constructor) ?_|refine blockK_o' rfl ?_|refine LoopX_e' rfl ?_|assumption)
    |((with_reducible apply q_CI);intro hbq;(try simp only [bq,and_true,true_and,and_false,false_and,or_true,true_or,or_false,false_or,not_true_eq_false,not_false_eq_true,Bool.true_eq_false,Bool.false_eq_true,q0] at hbq);(try (exfalso;omega)))
    |((with_reducible apply q_cond);refine X_cond rfl ?_ ?_;all_goals (intro hbq;(try simp only [bq,and_true,true_and,and_false,false_and,or_true,true_or,or_false,false_or,not_true_eq_false,not_false_eq_true,Bool.true_eq_false,Bool.false_eq_true,q0] at hbq);(try (exfalso;omega))))
    |((with_reducible apply q_CI);intro hbq;(try simp only [bq] at hbq);(try (exfalso;omega)))
    |with_reducible (first|refine W_seq ?_|refine W_block ?_)
    |((with_reducible apply q_cond);refine X_cond rfl ?_ ?_;all_goals (intro hbq;(try simp only [bq] at hbq);(try (exfalso;omega))))
    |refine Rex.o (by (with_reducible constructor);apply Eq.refl) ?_
    |(intro (hgq : (_ : Bool) = true);(try simp only [bq] at hgq))
    |(intro (hgq : (_ : Bool) = false);(try simp only [bq] at hgq))
    |((with_reducible apply q_VOk);exact fun _ => ⟨rfl,rfl⟩)|(intro _;exact rfl)|((with_reducible apply q_CRB);kernel_rfl)|((with_reducible apply q_bt);simp only [bq])|((with_reducible apply q_eqN);rfl)|((with_reducible apply q_FE);exact rfl)|with_reducible (first|exact isByte_wrap _|exact isByte_nat _)|(simp only [hgq,bq];done)|omega|(dsimp only;omega))
   ·rfl
   ·rw [h1]
    repeat' (first|with_reducible (first|refine Wk.o (by constructor) ?_|refine q_and ?_ ?_|exact True.intro)|refine VEq.c ?_|refine VEq.agg ?_|refine VEq.tup ?_|refine TkEq.cells ?_ ?_|refine TkEq.els ?_ ?_|refine SEqL.cons ?_ ?_|refine TEqL.agg ?_ ?_|refine CEq.rows ?_|refine CEq.int ?_|rfl|omega)
  ·cases h
 | [k, a, b, c, d], h =>
  have hn : ws.length = 5 := by rw [← htl]; rfl
  have hw : w.length = 5 := by rw [hwl, hn]
  have h0 : (w.getD (0 : Int).toNat dW).tx = bL k := hg 0 (by omega)
  have h1 : (w.getD (1 : Int).toNat dW).tx = bL a := hg 1 (by omega)
  have h2 : (w.getD (2 : Int).toNat dW).tx = bL b := hg 2 (by omega)
  have h3 : (w.getD (3 : Int).toNat dW).tx = bL c := hg 3 (by omega)
  have h4 : (w.getD (4 : Int).toNat dW).tx = bL d := hg 4 (by omega)
  simp only at h
  split at h
  ·rename_i hk
   split at h
   ·rename_i hnn
    injection h with h; subst h
    simp only [Bool.and_eq_true] at hnn
    rw [hk] at h0
    have q0 : ((w.getD (0 : Int).toNat { tx := { data := #[] }, ln := 0, co := 0 }).tx.toList == ByteArray.toList ⟨#[115, 101, 99, 116, 105, 111, 110]⟩) = true := wEq h0
    have hD := declSec_ok L w a b c d hw h1 h2 h3 h4 hnn.1.1 hnn.1.2 hnn.2 hL
    refine X_fn mixedX Try.func54 rfl (by kernel_rfl) (Nat.le_of_ble_eq_true (by kernel_rfl)) (by kernel_rfl) rfl rfl (Nat.le_of_ble_eq_true rfl) rfl rfl ?_
    simp only [sl0, Nat.zero_add, Nat.reduceAdd]
    repeat' (first
     |with_reducible (first|refine q_and ?_ ?_|exact True.intro|exact TkEq.nil _|refine Red.o (by constructor) ?_|refine blockK_o' rfl ?_|refine LoopX_e' rfl ?_|assumption)
     |((with_reducible apply q_call);refine X_call [0] (hD) rfl rfl rfl rfl rfl rfl rfl rfl rfl rfl rfl rfl rfl ?_)
     |((with_reducible apply q_CI);intro hbq;(try simp only [bq,and_true,true_and,and_false,false_and,or_true,true_or,or_false,false_or,not_true_eq_false,not_false_eq_true,Bool.true_eq_false,Bool.false_eq_true,q0] at hbq);(try (exfalso;omega)))
     |((with_reducible apply q_cond);refine X_cond rfl ?_ ?_;all_goals (intro hbq;(try simp only [bq,and_true,true_and,and_false,false_and,or_true,true_or,or_false,false_or,not_true_eq_false,not_false_eq_true,Bool.true_eq_false,Bool.false_eq_true,q0] at hbq);(try (exfalso;omega))))
     |((with_reducible apply q_CI);intro hbq;(try simp only [bq] at hbq);(try (exfalso;omega)))
     |with_reducible (first|refine W_seq ?_|refine W_block ?_)
     |((with_reducible apply q_cond);refine X_cond rfl ?_ ?_;all_goals (intro hbq;(try simp only [bq] at hbq);(try (exfalso;omega))))
     |refine Rex.o (by (with_reducible constructor);apply Eq.refl) ?_
     |(intro (hgq : (_ : Bool) = true);(try simp only [bq] at hgq))
     |(intro (hgq : (_ : Bool) = false);(try simp only [bq] at hgq))
     |((with_reducible apply q_VOk);exact fun _ => ⟨rfl,rfl⟩)|(intro _;exact rfl)|((with_reducible apply q_CRB);kernel_rfl)|((with_reducible apply q_bt);simp only [bq])|((with_reducible apply q_eqN);rfl)|((with_reducible apply q_FE);exact rfl)|with_reducible (first|exact isByte_wrap _|exact isByte_nat _)|(simp only [hgq,bq];done)|omega|(dsimp only;omega))
    ·rfl
    ·
     repeat' (first|with_reducible (first|refine Wk.o (by constructor) ?_|refine q_and ?_ ?_|exact True.intro)|refine VEq.c ?_|refine VEq.agg ?_|refine VEq.tup ?_|refine TkEq.cells ?_ ?_|refine TkEq.els ?_ ?_|refine SEqL.cons ?_ ?_|refine TEqL.agg ?_ ?_|refine CEq.rows ?_|refine CEq.int ?_|rfl|omega)
   ·cases h
  ·split at h
   ·rename_i hk
    split at h
    ·rename_i hnn
     injection h with h; subst h
     rw [hk] at h0
     have q0 : ((w.getD (0 : Int).toNat { tx := { data := #[] }, ln := 0, co := 0 }).tx.toList == ByteArray.toList ⟨#[115, 101, 99, 116, 105, 111, 110]⟩) = false := wNe h0 (by decide)
     have q1 : ((w.getD (0 : Int).toNat { tx := { data := #[] }, ln := 0, co := 0 }).tx.toList == ByteArray.toList ⟨#[108, 105, 110, 107]⟩) = true := wEq h0
     have hD := declLnk_ok L w a b c d hw h1 h2 h3 h4 hnn.1 hnn.2.1 hnn.2.2.1 hnn.2.2.2 hL hL2
     refine X_fn mixedX Try.func54 rfl (by kernel_rfl) (Nat.le_of_ble_eq_true (by kernel_rfl)) (by kernel_rfl) rfl rfl (Nat.le_of_ble_eq_true rfl) rfl rfl ?_
     simp only [sl0, Nat.zero_add, Nat.reduceAdd]
     repeat' (first
      |with_reducible (first|refine q_and ?_ ?_|exact True.intro|exact TkEq.nil _|refine Red.o (by constructor) ?_|refine blockK_o' rfl ?_|refine LoopX_e' rfl ?_|assumption)
      |((with_reducible apply q_call);refine X_call [0] (hD) rfl rfl rfl rfl rfl rfl rfl rfl rfl rfl rfl rfl rfl ?_)
      |((with_reducible apply q_CI);intro hbq;(try simp only [bq,and_true,true_and,and_false,false_and,or_true,true_or,or_false,false_or,not_true_eq_false,not_false_eq_true,Bool.true_eq_false,Bool.false_eq_true,q0, q1] at hbq);(try (exfalso;omega)))
      |((with_reducible apply q_cond);refine X_cond rfl ?_ ?_;all_goals (intro hbq;(try simp only [bq,and_true,true_and,and_false,false_and,or_true,true_or,or_false,false_or,not_true_eq_false,not_false_eq_true,Bool.true_eq_false,Bool.false_eq_true,q0, q1] at hbq);(try (exfalso;omega))))
      |((with_reducible apply q_CI);intro hbq;(try simp only [bq] at hbq);(try (exfalso;omega)))
      |with_reducible (first|refine W_seq ?_|refine W_block ?_)
      |((with_reducible apply q_cond);refine X_cond rfl ?_ ?_;all_goals (intro hbq;(try simp only [bq] at hbq);(try (exfalso;omega))))
      |refine Rex.o (by (with_reducible constructor);apply Eq.refl) ?_
      |(intro (hgq : (_ : Bool) = true);(try simp only [bq] at hgq))
      |(intro (hgq : (_ : Bool) = false);(try simp only [bq] at hgq))
      |((with_reducible apply q_VOk);exact fun _ => ⟨rfl,rfl⟩)|(intro _;exact rfl)|((with_reducible apply q_CRB);kernel_rfl)|((with_reducible apply q_bt);simp only [bq])|((with_reducible apply q_eqN);rfl)|((with_reducible apply q_FE);exact rfl)|with_reducible (first|exact isByte_wrap _|exact isByte_nat _)|(simp only [hgq,bq];done)|omega|(dsimp only;omega))
     ·rfl
     ·
      repeat' (first|with_reducible (first|refine Wk.o (by constructor) ?_|refine q_and ?_ ?_|exact True.intro)|refine VEq.c ?_|refine VEq.agg ?_|refine VEq.tup ?_|refine TkEq.cells ?_ ?_|refine TkEq.els ?_ ?_|refine SEqL.cons ?_ ?_|refine TEqL.agg ?_ ?_|refine CEq.rows ?_|refine CEq.int ?_|rfl|omega)
    ·cases h
   ·cases h
 | [k, a, b, c, d, e, f], h =>
  have hn : ws.length = 7 := by rw [← htl]; rfl
  have hw : w.length = 7 := by rw [hwl, hn]
  have h0 : (w.getD (0 : Int).toNat dW).tx = bL k := hg 0 (by omega)
  have h1 : (w.getD (1 : Int).toNat dW).tx = bL a := hg 1 (by omega)
  have h2 : (w.getD (2 : Int).toNat dW).tx = bL b := hg 2 (by omega)
  have h3 : (w.getD (3 : Int).toNat dW).tx = bL c := hg 3 (by omega)
  have h4 : (w.getD (4 : Int).toNat dW).tx = bL d := hg 4 (by omega)
  have h5 : (w.getD (5 : Int).toNat dW).tx = bL e := hg 5 (by omega)
  have h6 : (w.getD (6 : Int).toNat dW).tx = bL f := hg 6 (by omega)
  simp only at h
  split at h
  ·rename_i hk
   injection h with h; subst h
   obtain ⟨hk, he, hnn, hp⟩ := hk
   simp only [Bool.and_eq_true] at hnn
   rw [hk] at h0
   rw [he] at h5
   have q0 : ((w.getD (0 : Int).toNat { tx := { data := #[] }, ln := 0, co := 0 }).tx.toList == ByteArray.toList ⟨#[115, 101, 99, 116, 105, 111, 110]⟩) = true := wEq h0
   have hD := declSecAt_ok L w a b c d [97, 116] f hw h1 h2 h3 h4 h5 h6 hnn.1.1 hnn.1.2 hnn.2 hp hL hS
   refine X_fn mixedX Try.func54 rfl (by kernel_rfl) (Nat.le_of_ble_eq_true (by kernel_rfl)) (by kernel_rfl) rfl rfl (Nat.le_of_ble_eq_true rfl) rfl rfl ?_
   simp only [sl0, Nat.zero_add, Nat.reduceAdd]
   repeat' (first
    |with_reducible (first|refine q_and ?_ ?_|exact True.intro|exact TkEq.nil _|refine Red.o (by constructor) ?_|refine blockK_o' rfl ?_|refine LoopX_e' rfl ?_|assumption)
    |((with_reducible apply q_call);refine X_call [0] (hD) rfl rfl rfl rfl rfl rfl rfl rfl rfl rfl rfl rfl rfl ?_)
    |((with_reducible apply q_CI);intro hbq;(try simp only [bq,and_true,true_and,and_false,false_and,or_true,true_or,or_false,false_or,not_true_eq_false,not_false_eq_true,Bool.true_eq_false,Bool.false_eq_true,q0] at hbq);(try (exfalso;omega)))
    |((with_reducible apply q_cond);refine X_cond rfl ?_ ?_;all_goals (intro hbq;(try simp only [bq,and_true,true_and,and_false,false_and,or_true,true_or,or_false,false_or,not_true_eq_false,not_false_eq_true,Bool.true_eq_false,Bool.false_eq_true,q0] at hbq);(try (exfalso;omega))))
    |((with_reducible apply q_CI);intro hbq;(try simp only [bq] at hbq);(try (exfalso;omega)))
    |with_reducible (first|refine W_seq ?_|refine W_block ?_)
    |((with_reducible apply q_cond);refine X_cond rfl ?_ ?_;all_goals (intro hbq;(try simp only [bq] at hbq);(try (exfalso;omega))))
    |refine Rex.o (by (with_reducible constructor);apply Eq.refl) ?_
    |(intro (hgq : (_ : Bool) = true);(try simp only [bq] at hgq))
    |(intro (hgq : (_ : Bool) = false);(try simp only [bq] at hgq))
    |((with_reducible apply q_VOk);exact fun _ => ⟨rfl,rfl⟩)|(intro _;exact rfl)|((with_reducible apply q_CRB);kernel_rfl)|((with_reducible apply q_bt);simp only [bq])|((with_reducible apply q_eqN);rfl)|((with_reducible apply q_FE);exact rfl)|with_reducible (first|exact isByte_wrap _|exact isByte_nat _)|(simp only [hgq,bq];done)|omega|(dsimp only;omega))
   ·rfl
   ·
    repeat' (first|with_reducible (first|refine Wk.o (by constructor) ?_|refine q_and ?_ ?_|exact True.intro)|refine VEq.c ?_|refine VEq.agg ?_|refine VEq.tup ?_|refine TkEq.cells ?_ ?_|refine TkEq.els ?_ ?_|refine SEqL.cons ?_ ?_|refine TEqL.agg ?_ ?_|refine CEq.rows ?_|refine CEq.int ?_|rfl|omega)
  ·cases h
end Go.Proofs.Ytalfibohepbhfaa.Av
namespace Go.Proofs.Ytalfibohepbhfaa.Av
def okF : Nat → List UInt8 → Int → Bool
 | 0, _, _ => true
 | n + 1, s, ln => if s = [] then true else okLine (s.take (lineLen s)) && decide ((wOne (s.take (lineLen s)) ln).length ≤ 64) && okF n (s.drop (lineLen s + 1)) (ln + 1)
theorem lineLen_eq : ∀ {s : List UInt8} {m : Nat}, m ≤ s.length → (∀ k, k < m → s.getD k 0 ≠ 10) → (m = s.length ∨ s.getD m 0 = 10) → lineLen s = m
 | [], m, h, _, _ => by simp at h; subst h; rfl
 | b :: s, 0, _, _, h => by
  rcases h with h | h
  ·cases h
  ·have h : b = 10 := h
   subst h; rfl
 | b :: s, m + 1, h, hn, hm => by
  have hb : b ≠ 10 := hn 0 (by omega)
  have ih := lineLen_eq (s := s) (m := m) (by simpa using h) (fun k hk => hn (k + 1) (by omega)) (by simpa using hm)
  unfold lineLen at ih ⊢
  rw [List.takeWhile_cons, if_pos (by simpa using hb), List.length_cons, ih]
theorem bL_extract (s : List UInt8) (i j : Nat) : (bL s).extract i j = bL ((s.drop i).take (j - i)) := by
 apply ByteArray.ext
 rw [ByteArray.data_extract]
 apply Array.ext'
 rw [Array.toList_extract]
 show List.extract s i j = _
 rw [List.extract_eq_take_drop]
 rfl
structure LnG where
 i : Nat
 ln : Nat
 out : List (List PW)
theorem linesF_len : ∀ (n : Nat) (s : List UInt8) (ln : Int), (linesF n s ln).length ≤ s.length
 | 0, s, ln => Nat.zero_le _
 | n + 1, s, ln => by
  unfold linesF
  split
  ·simp
  ·rename_i hs
   have ih := linesF_len n (s.drop (lineLen s + 1)) (ln + 1)
   rw [List.length_drop] at ih
   have h0 : 0 < s.length := List.length_pos_iff.2 hs
   simp only [List.length_append]
   split <;> simp only [List.length_nil, List.length_cons] <;> omega
theorem lines_ok (s : List UInt8) (hs : s.length ≤ 65536) (hok : okF (s.length + 1) s 1 = true) : OkV Try.prog 53 [vS (bL s)] [] (.tup [.c (rWs ((linesF (s.length + 1) s 1).map fun l => l.map PW.w)), .c (xI 0), .c (xI 0)]) [] := by
 have hz : (bL s).size = s.length := rfl
 have htot := linesF_len (s.length + 1) s 1
 generalize hT : linesF (s.length + 1) s 1 = T at *
 refine X_fn mixedX Try.func53 rfl (by kernel_rfl) (Nat.le_of_ble_eq_true (by kernel_rfl)) (by kernel_rfl) rfl rfl (Nat.le_of_ble_eq_true rfl) rfl rfl ?_
 simp only [sl0, Nat.zero_add, Nat.reduceAdd]
 repeat' (first
  |with_reducible (first|refine q_and ?_ ?_|exact True.intro|exact TkEq.nil _|refine Red.o (by constructor) ?_|refine blockK_o' rfl ?_|refine LoopX_e' rfl ?_|assumption)
  |((with_reducible apply q_CI);intro hbq;(try simp only [bq] at hbq);(try (exfalso;omega)))
  |refine Rex.o (by (with_reducible constructor);apply Eq.refl) ?_
  |(intro (hgq : (_ : Bool) = true);(try simp only [bq] at hgq))
  |(intro (hgq : (_ : Bool) = false);(try simp only [bq] at hgq))
  |((with_reducible apply q_VOk);exact fun _ => ⟨rfl,rfl⟩)|(intro _;exact rfl)|((with_reducible apply q_CRB);kernel_rfl)|((with_reducible apply q_bt);simp only [bq])|((with_reducible apply q_eqN);rfl)|((with_reducible apply q_FE);exact rfl)|with_reducible (first|exact isByte_wrap _|exact isByte_nat _)|(simp only [hgq,bq];done)|omega|(dsimp only;omega))
 refine W_loopS (fun g : LnG => SS [sS 0 (bL s), sC 5 (.tipr 1 fWs vWs (fun _ => none) [] (g.out.map fun l => l.map PW.w)), sI 6 g.ln, sI 7 g.i] []) (fun g => g.i ≤ s.length + 1 ∧ g.ln ≤ g.i + 1 ∧ ∃ n, (s.drop g.i).length < n ∧ g.out ++ linesF n (s.drop g.i) g.ln = T ∧ okF n (s.drop g.i) g.ln = true) (fun g => s.length + 1 - g.i) ⟨0, 1, []⟩ ?_ ⟨by simp, by simp, s.length + 1, by simp, by simpa using hT, by simpa using hok⟩ ?_
 ·
  refine X_weak rfl rfl rfl ?_ ?_ <;> repeat' (first|with_reducible (first|refine Wk.o (by constructor) ?_|refine q_and ?_ ?_|exact True.intro)|refine q_AgS rfl ?_ ?_|exact CLe.nil_tipS|exact CLe.nil_rowS|refine HLe.cells ?_ ?_|refine HLe.els ?_ ?_|refine SLe.cons ?_ ?_|exact (rfl : known _ = _)|with_reducible rfl|omega)
  all_goals rfl
 rintro ⟨i, ln, out⟩ ⟨hi, hln, n, hn, hout, hokn⟩
 simp only at hi hln hout hokn hn
 have hol : out.length ≤ 65536 := by
  have := congrArg List.length hout
  rw [List.length_append] at this
  omega
 by_cases hil : i < s.length
 ·obtain ⟨n, rfl⟩ : ∃ m, n = m + 1 := ⟨n - 1, by omega⟩
  have hne : s.drop i ≠ [] := fun e => by
   have := congrArg List.length e
   rw [List.length_drop] at this
   simp at this
   omega
  have hlF : linesF (n + 1) (s.drop i) ln = (if wOne ((s.drop i).take (lineLen (s.drop i))) ln = [] then [] else [wOne ((s.drop i).take (lineLen (s.drop i))) ln]) ++ linesF n ((s.drop i).drop (lineLen (s.drop i) + 1)) (ln + 1) := by
   conv => lhs; unfold linesF
   rw [if_neg hne]
  unfold okF at hokn
  rw [if_neg hne] at hokn
  simp only [Bool.and_eq_true, decide_eq_true_eq] at hokn
  obtain ⟨⟨ho1, ho2⟩, ho3⟩ := hokn
  rw [hlF] at hout
  clear hlF
  repeat' (first
   |with_reducible (first|refine q_and ?_ ?_|exact True.intro|exact TkEq.nil _|refine Red.o (by constructor) ?_|refine blockK_o' rfl ?_|refine LoopX_e' rfl ?_|assumption)
   |((with_reducible apply q_CI);intro hbq;(try simp only [bq] at hbq);(try (exfalso;omega)))
   |refine Rex.o (by (with_reducible constructor);apply Eq.refl) ?_
   |(intro (hgq : (_ : Bool) = true);(try simp only [bq] at hgq))
   |(intro (hgq : (_ : Bool) = false);(try simp only [bq] at hgq))
   |((with_reducible apply q_VOk);exact fun _ => ⟨rfl,rfl⟩)|(intro _;exact rfl)|((with_reducible apply q_CRB);kernel_rfl)|((with_reducible apply q_bt);simp only [bq])|((with_reducible apply q_eqN);rfl)|((with_reducible apply q_FE);exact rfl)|with_reducible (first|exact isByte_wrap _|exact isByte_nat _)|(simp only [hgq,bq];done)|omega|(dsimp only;omega))
  refine W_loopS (fun j : Nat => SS [sS 0 (bL s), sC 5 (.tipr 1 fWs vWs (fun _ => none) [] (out.map fun l => l.map PW.w)), sI 6 ln, sI 7 i, sI 8 j] []) (fun j => i ≤ j ∧ j ≤ s.length ∧ ∀ k, i ≤ k → k < j → s.getD k 0 ≠ 10) (fun j => s.length - j) i ?_ ⟨by omega, by omega, fun k h1 h2 => by omega⟩ ?_
  ·
   refine X_weak rfl rfl rfl ?_ ?_ <;> repeat' (first|with_reducible (first|refine Wk.o (by constructor) ?_|refine q_and ?_ ?_|exact True.intro)|refine q_AgS rfl ?_ ?_|exact CLe.nil_tipS|exact CLe.nil_rowS|refine HLe.cells ?_ ?_|refine HLe.els ?_ ?_|refine SLe.cons ?_ ?_|exact (rfl : known _ = _)|with_reducible rfl|omega)
  rintro j ⟨hj1, hj2, hj3⟩
  have e2 : (bL s).data.getD (j : Int).toNat 0 = s.getD j 0 := bL_get s j
  by_cases hx : j < s.length ∧ s.getD j 0 ≠ 10
  ·have hx2 : ((bL s).data.getD (j : Int).toNat 0).toNat ≠ 10 := fun e => hx.2 (by rw [← e2]; exact UInt8.toNat_inj.1 e)
   obtain ⟨hx1, _⟩ := hx
   have hj4 : ∀ k, i ≤ k → k < j + 1 → s.getD k 0 ≠ 10 := fun k h1 h2 => by
    rcases Nat.lt_succ_iff_lt_or_eq.1 h2 with h | h
    ·exact hj3 k h1 h
    ·rw [h]; intro e; exact hx2 (by rw [e2, e]; rfl)
   repeat' (first
    |with_reducible (first|refine q_and ?_ ?_|exact True.intro|exact TkEq.nil _|refine Red.o (by constructor) ?_|refine blockK_o' rfl ?_|refine LoopX_e' rfl ?_|assumption)
    |((with_reducible apply q_CI);intro hbq;(try simp only [bq] at hbq);(try (exfalso;omega)))
    |refine Rex.o (by (with_reducible constructor);apply Eq.refl) ?_
    |(intro (hgq : (_ : Bool) = true);(try simp only [bq] at hgq))
    |(intro (hgq : (_ : Bool) = false);(try simp only [bq] at hgq))
    |((with_reducible apply q_VOk);exact fun _ => ⟨rfl,rfl⟩)|(intro _;exact rfl)|((with_reducible apply q_CRB);kernel_rfl)|((with_reducible apply q_bt);simp only [bq])|((with_reducible apply q_eqN);rfl)|((with_reducible apply q_FE);exact rfl)|with_reducible (first|exact isByte_wrap _|exact isByte_nat _)|(simp only [hgq,bq];done)|omega|(dsimp only;omega))
   ·
    refine LoopK_n (j + 1) ?_ (⟨by omega, by omega, hj4⟩) (by (try dsimp only); omega)
    refine X_weak rfl rfl rfl ?_ ?_ <;> repeat' (first|with_reducible (first|refine Wk.o (by constructor) ?_|refine q_and ?_ ?_|exact True.intro)|refine q_AgS rfl ?_ ?_|exact CLe.nil_tipS|exact CLe.nil_rowS|refine HLe.cells ?_ ?_|refine HLe.els ?_ ?_|refine SLe.cons ?_ ?_|exact (rfl : known _ = _)|with_reducible rfl|omega)
  ·have hx2 : s.length ≤ j ∨ ((bL s).data.getD (j : Int).toNat 0).toNat = 10 := by
    rcases Nat.lt_or_ge j s.length with h | h
    ·right
     rw [e2]
     have : s.getD j 0 = 10 := by
      rcases Classical.em (s.getD j 0 = 10) with h2 | h2
      ·exact h2
      ·exact absurd ⟨h, h2⟩ hx
     rw [this]; rfl
    ·exact .inl h
   have hLL : lineLen (s.drop i) = j - i := by
    refine lineLen_eq (by rw [List.length_drop]; omega) (fun k hk => ?_) ?_
    ·have := hj3 (i + k) (by omega) (by omega)
     rw [List.getD_eq_getElem?_getD, List.getElem?_drop, ← List.getD_eq_getElem?_getD]
     exact this
    ·rcases hx2 with h | h
     ·left; rw [List.length_drop]; omega
     ·right
      rw [e2] at h
      rw [List.getD_eq_getElem?_getD, List.getElem?_drop, ← List.getD_eq_getElem?_getD, show i + (j - i) = j by omega]
      exact UInt8.toNat_inj.1 h
   rw [hLL] at ho1 ho2 ho3 hout
   have hO := one_ok ((s.drop i).take (j - i)) ln ho1 (by rw [List.length_take, List.length_drop]; omega) ho2
   have hex : (bL s).extract (i : Int).toNat (j : Int).toNat = bL ((s.drop i).take (j - i)) := bL_extract s i j
   rw [← hex] at hO
   have hdd : (s.drop i).drop (j - i + 1) = s.drop (j + 1) := by rw [List.drop_drop]; congr 1; omega
   rw [hdd] at ho3 hout
   generalize wOne ((s.drop i).take (j - i)) ln = ws at *
   have hwl : (ws.map PW.w).length = ws.length := by simp
   have hom : (out.map fun l => l.map PW.w).length = out.length := by simp
   have hnn : (s.drop (j + 1)).length < n := by
    rw [List.length_drop] at hn ⊢
    omega
   by_cases hws : ws = []
   ·rw [hws, if_pos rfl, List.nil_append] at hout
    have hw0 : ws.length = 0 := by rw [hws]; rfl
    repeat' (first
     |with_reducible (first|refine q_and ?_ ?_|exact True.intro|exact TkEq.nil _|refine Red.o (by constructor) ?_|refine blockK_o' rfl ?_|refine LoopX_e' rfl ?_|assumption)
     |((with_reducible apply q_call);refine X_pure (hO) rfl ?_)
     |((with_reducible apply q_CI);intro hbq;(try simp only [bq] at hbq);(try (exfalso;omega)))
     |refine Rex.o (by (with_reducible constructor);apply Eq.refl) ?_
     |(intro (hgq : (_ : Bool) = true);(try simp only [bq] at hgq))
     |(intro (hgq : (_ : Bool) = false);(try simp only [bq] at hgq))
     |((with_reducible apply q_VOk);exact fun _ => ⟨rfl,rfl⟩)|(intro _;exact rfl)|((with_reducible apply q_CRB);kernel_rfl)|((with_reducible apply q_bt);simp only [bq])|((with_reducible apply q_eqN);rfl)|((with_reducible apply q_FE);exact rfl)|with_reducible (first|exact isByte_wrap _|exact isByte_nat _)|(simp only [hgq,bq];done)|omega|(dsimp only;omega))
    ·
     refine LoopK_n (⟨j + 1, ln + 1, out⟩) ?_ (⟨by simp only; omega, by simp only; omega, n, hnn, hout, ho3⟩) (by (try dsimp only); omega)
     refine X_weak rfl rfl rfl ?_ ?_ <;> repeat' (first|with_reducible (first|refine Wk.o (by constructor) ?_|refine q_and ?_ ?_|exact True.intro)|refine q_AgS rfl ?_ ?_|exact CLe.nil_tipS|exact CLe.nil_rowS|refine HLe.cells ?_ ?_|refine HLe.els ?_ ?_|refine SLe.cons ?_ ?_|exact (rfl : known _ = _)|with_reducible rfl|omega)
     all_goals rfl
   ·rw [if_neg hws] at hout
    have hw0 : 0 < ws.length := List.length_pos_iff.2 hws
    repeat' (first
     |with_reducible (first|refine q_and ?_ ?_|exact True.intro|exact TkEq.nil _|refine Red.o (by constructor) ?_|refine blockK_o' rfl ?_|refine LoopX_e' rfl ?_|assumption)
     |((with_reducible apply q_call);refine X_pure (hO) rfl ?_)
     |((with_reducible apply q_CI);intro hbq;(try simp only [bq] at hbq);(try (exfalso;omega)))
     |refine Rex.o (by (with_reducible constructor);apply Eq.refl) ?_
     |(intro (hgq : (_ : Bool) = true);(try simp only [bq] at hgq))
     |(intro (hgq : (_ : Bool) = false);(try simp only [bq] at hgq))
     |((with_reducible apply q_VOk);exact fun _ => ⟨rfl,rfl⟩)|(intro _;exact rfl)|((with_reducible apply q_CRB);kernel_rfl)|((with_reducible apply q_bt);simp only [bq])|((with_reducible apply q_eqN);rfl)|((with_reducible apply q_FE);exact rfl)|with_reducible (first|exact isByte_wrap _|exact isByte_nat _)|(simp only [hgq,bq];done)|omega|(dsimp only;omega))
    ·
     refine LoopK_n (⟨j + 1, ln + 1, out ++ [ws]⟩) ?_ (⟨by simp only; omega, by simp only; omega, n, hnn, by rw [List.append_assoc]; exact hout, ho3⟩) (by (try dsimp only); omega)
     refine X_weak rfl rfl rfl ?_ ?_ <;> repeat' (first|with_reducible (first|refine Wk.o (by constructor) ?_|refine q_and ?_ ?_|exact True.intro)|refine q_AgS rfl ?_ ?_|exact CLe.nil_tipS|exact CLe.nil_rowS|refine HLe.cells ?_ ?_|refine HLe.els ?_ ?_|refine SLe.cons ?_ ?_|exact (rfl : known _ = _)|with_reducible rfl|omega)
     all_goals first
      | rfl
      | simp [fWs]
 ·have hd : s.drop i = [] := List.drop_eq_nil_of_le (by omega)
  have hTo : out = T := by
   rw [hd] at hout
   have : linesF n [] ln = [] := by cases n <;> simp [linesF]
   rw [this, List.append_nil] at hout
   exact hout
  repeat' (first
   |with_reducible (first|refine q_and ?_ ?_|exact True.intro|exact TkEq.nil _|refine Red.o (by constructor) ?_|refine blockK_o' rfl ?_|refine LoopX_e' rfl ?_|assumption)
   |((with_reducible apply q_CI);intro hbq;(try simp only [bq] at hbq);(try (exfalso;omega)))
   |refine Rex.o (by (with_reducible constructor);apply Eq.refl) ?_
   |(intro (hgq : (_ : Bool) = true);(try simp only [bq] at hgq))
   |(intro (hgq : (_ : Bool) = false);(try simp only [bq] at hgq))
   |((with_reducible apply q_VOk);exact fun _ => ⟨rfl,rfl⟩)|(intro _;exact rfl)|((with_reducible apply q_CRB);kernel_rfl)|((with_reducible apply q_bt);simp only [bq])|((with_reducible apply q_eqN);rfl)|((with_reducible apply q_FE);exact rfl)|with_reducible (first|exact isByte_wrap _|exact isByte_nat _)|(simp only [hgq,bq];done)|omega|(dsimp only;omega))
  ·rw [hTo]
   repeat' (first|with_reducible (first|refine Wk.o (by constructor) ?_|refine q_and ?_ ?_|exact True.intro)|refine VEq.c ?_|refine VEq.agg ?_|refine VEq.tup ?_|refine TkEq.cells ?_ ?_|refine TkEq.els ?_ ?_|refine SEqL.cons ?_ ?_|refine TEqL.agg ?_ ?_|refine CEq.rows ?_|refine CEq.int ?_|rfl|omega)
theorem declL_len {L L' : Lay} {ws : List PW} (h : declL L ws = some L') : L'.secs.length ≤ L.secs.length + 1 ∧ L'.lnks.length ≤ L.lnks.length + 1 ∧ L'.sts.length ≤ L.sts.length + 1 := by
 unfold declL at h
 split at h
 ·split at h
  ·injection h with h; subst h; simp
  ·cases h
 ·split at h
  ·split at h
   ·injection h with h; subst h; simp
   ·cases h
  ·split at h
   ·split at h
    ·injection h with h; subst h; simp
    ·cases h
   ·cases h
 ·split at h
  ·injection h with h; subst h; simp
  ·cases h
 ·cases h
abbrev vLayT (L : Lay) : ST := .agg [rStr L.sts, rStr L.pts, rSec L.secs, rLnk L.lnks]
structure PaG where
 i : Nat
 L : Lay
theorem parse_ok (s : List UInt8) (L : Lay) (hs : s.length ≤ 65536) (hok : okF (s.length + 1) s 1 = true) (hL : parseL s = some L) (hn : (linesF (s.length + 1) s 1).length ≤ 500) (he : layErr L = 0) (hF : LayFits L) : OkV Try.prog 36 [vS (bL s)] [] (.tup [vLayT L, .c (xI 0), .c (xI 0)]) [] := by
 have hLn := lines_ok s hs hok
 unfold parseL at hL
 have hC := refCheck_okV L hF
 rw [he] at hC
 unfold vLay at hC
 generalize linesF (s.length + 1) s 1 = T at *
 have hml : (T.map fun l => l.map PW.w).length = T.length := by simp
 refine X_fn mixedX Try.func36 rfl (by kernel_rfl) (Nat.le_of_ble_eq_true (by kernel_rfl)) (by kernel_rfl) rfl rfl (Nat.le_of_ble_eq_true rfl) rfl rfl ?_
 simp only [sl0, Nat.zero_add, Nat.reduceAdd]
 repeat' (first
  |with_reducible (first|refine q_and ?_ ?_|exact True.intro|exact TkEq.nil _|refine Red.o (by constructor) ?_|refine blockK_o' rfl ?_|refine LoopX_e' rfl ?_|assumption)
  |((with_reducible apply q_call);refine X_pure (hLn) rfl ?_)
  |((with_reducible apply q_CI);intro hbq;(try simp only [bq] at hbq);(try (exfalso;omega)))
  |refine Rex.o (by (with_reducible constructor);apply Eq.refl) ?_
  |(intro (hgq : (_ : Bool) = true);(try simp only [bq] at hgq))
  |(intro (hgq : (_ : Bool) = false);(try simp only [bq] at hgq))
  |((with_reducible apply q_VOk);exact fun _ => ⟨rfl,rfl⟩)|(intro _;exact rfl)|((with_reducible apply q_CRB);kernel_rfl)|((with_reducible apply q_bt);simp only [bq])|((with_reducible apply q_eqN);rfl)|((with_reducible apply q_FE);exact rfl)|with_reducible (first|exact isByte_wrap _|exact isByte_nat _)|(simp only [hgq,bq];done)|omega|(dsimp only;omega))
 clear hLn hok hs
 refine W_loopS (fun g : PaG => SS [sC 2 (pB 0), sC 5 (rWs (T.map fun l => l.map PW.w)), sC 8 (pB 1), sI 9 g.i] [some (.cells [.c (.f .nils), .c (.f .nils), .c (.f .nils), .c (.f .nils)]), bLayT g.L]) (fun g => g.i ≤ T.length ∧ declsL g.L (T.drop g.i) = some L ∧ g.L.secs.length ≤ g.i ∧ g.L.lnks.length ≤ g.i ∧ g.L.sts.length ≤ g.i) (fun g => T.length - g.i) ⟨0, ⟨[], [], [], []⟩⟩ ?_ ⟨by simp, by simpa using hL, by simp, by simp, by simp⟩ ?_
 ·
  refine X_weak rfl rfl rfl ?_ ?_ <;> repeat' (first|with_reducible (first|refine Wk.o (by constructor) ?_|refine q_and ?_ ?_|exact True.intro)|refine q_AgS rfl ?_ ?_|exact CLe.nil_tipS|exact CLe.nil_rowS|refine HLe.cells ?_ ?_|refine HLe.els ?_ ?_|refine SLe.cons ?_ ?_|exact (rfl : known _ = _)|with_reducible rfl|omega)
  all_goals rfl
 rintro ⟨i, M⟩ ⟨hi, hM, hm1, hm2, hm3⟩
 simp only at hi hM hm1 hm2 hm3
 by_cases hil : i < T.length
 ·have hd : T.drop i = T.getD i [] :: T.drop (i + 1) := by
   rw [List.drop_eq_getElem_cons hil, List.getD_eq_getElem?_getD, List.getElem?_eq_getElem hil]; rfl
  rw [hd] at hM
  unfold declsL at hM
  split at hM
  ·rename_i L' hL'
   have hlen := declL_len hL'
   have hg : (T.map fun l => l.map PW.w).getD (i : Int).toNat [] = (T.getD i []).map PW.w := by
    simp [List.getD_eq_getElem?_getD, List.getElem?_map, List.getElem?_eq_getElem hil]
   have hD := declare_ok M L' (T.getD i []) hL' (by omega) (by omega) (by omega)
   rw [← hg] at hD
   repeat' (first
    |with_reducible (first|refine q_and ?_ ?_|exact True.intro|exact TkEq.nil _|refine Red.o (by constructor) ?_|refine blockK_o' rfl ?_|refine LoopX_e' rfl ?_|assumption)
    |((with_reducible apply q_call);refine X_call [1] (hD) rfl rfl rfl rfl rfl rfl rfl rfl rfl rfl rfl rfl rfl ?_)
    |((with_reducible apply q_CI);intro hbq;(try simp only [bq] at hbq);(try (exfalso;omega)))
    |refine Rex.o (by (with_reducible constructor);apply Eq.refl) ?_
    |(intro (hgq : (_ : Bool) = true);(try simp only [bq] at hgq))
    |(intro (hgq : (_ : Bool) = false);(try simp only [bq] at hgq))
    |((with_reducible apply q_VOk);exact fun _ => ⟨rfl,rfl⟩)|(intro _;exact rfl)|((with_reducible apply q_CRB);kernel_rfl)|((with_reducible apply q_bt);simp only [bq])|((with_reducible apply q_eqN);rfl)|((with_reducible apply q_FE);exact rfl)|with_reducible (first|exact isByte_wrap _|exact isByte_nat _)|(simp only [hgq,bq];done)|omega|(dsimp only;omega))
   ·
    refine LoopK_n (⟨i + 1, L'⟩) ?_ (⟨by simp only; omega, hM, by simp only; omega, by simp only; omega, by simp only; omega⟩) (by (try dsimp only); omega)
    refine X_weak rfl rfl rfl ?_ ?_ <;> repeat' (first|with_reducible (first|refine Wk.o (by constructor) ?_|refine q_and ?_ ?_|exact True.intro)|refine q_AgS rfl ?_ ?_|exact CLe.nil_tipS|exact CLe.nil_rowS|refine HLe.cells ?_ ?_|refine HLe.els ?_ ?_|refine SLe.cons ?_ ?_|exact (rfl : known _ = _)|with_reducible rfl|omega)
    ·rfl
  ·cases hM
 ·have hie : i = T.length := by omega
  subst hie
  have hML : M = L := by
   rw [List.drop_length] at hM
   unfold declsL at hM
   injection hM
  subst hML
  repeat' (first
   |with_reducible (first|refine q_and ?_ ?_|exact True.intro|exact TkEq.nil _|refine Red.o (by constructor) ?_|refine blockK_o' rfl ?_|refine LoopX_e' rfl ?_|assumption)
   |((with_reducible apply q_call);refine X_pure (hC) rfl ?_)
   |((with_reducible apply q_CI);intro hbq;(try simp only [bq] at hbq);(try (exfalso;omega)))
   |refine Rex.o (by (with_reducible constructor);apply Eq.refl) ?_
   |(intro (hgq : (_ : Bool) = true);(try simp only [bq] at hgq))
   |(intro (hgq : (_ : Bool) = false);(try simp only [bq] at hgq))
   |((with_reducible apply q_VOk);exact fun _ => ⟨rfl,rfl⟩)|(intro _;exact rfl)|((with_reducible apply q_CRB);kernel_rfl)|((with_reducible apply q_bt);simp only [bq])|((with_reducible apply q_eqN);rfl)|((with_reducible apply q_FE);exact rfl)|with_reducible (first|exact isByte_wrap _|exact isByte_nat _)|(simp only [hgq,bq];done)|omega|(dsimp only;omega))
  ·rfl
theorem in_ok (n lo hi : Int) : OkV Try.prog 62 [.c (xI n), .c (xI lo), .c (xI hi)] [] (vB (decide (lo ≤ n) && decide (n ≤ hi))) [] := by
 refine X_fn mixedX Try.func62 rfl (by kernel_rfl) (Nat.le_of_ble_eq_true (by kernel_rfl)) (by kernel_rfl) rfl rfl (Nat.le_of_ble_eq_true rfl) rfl rfl ?_
 simp only [sl0, Nat.zero_add, Nat.reduceAdd]
 repeat' (first
  |with_reducible (first|refine q_and ?_ ?_|exact True.intro|exact TkEq.nil _|refine Red.o (by constructor) ?_|refine blockK_o' rfl ?_|refine LoopX_e' rfl ?_|assumption)
  |((with_reducible apply q_CI);intro hbq;(try simp only [bq] at hbq);(try (exfalso;omega)))
  |refine Rex.o (by (with_reducible constructor);apply Eq.refl) ?_
  |(intro (hgq : (_ : Bool) = true);(try simp only [bq] at hgq))
  |(intro (hgq : (_ : Bool) = false);(try simp only [bq] at hgq))
  |((with_reducible apply q_VOk);exact fun _ => ⟨rfl,rfl⟩)|(intro _;exact rfl)|((with_reducible apply q_CRB);kernel_rfl)|((with_reducible apply q_bt);simp only [bq])|((with_reducible apply q_eqN);rfl)|((with_reducible apply q_FE);exact rfl)|with_reducible (first|exact isByte_wrap _|exact isByte_nat _)|(simp only [hgq,bq];done)|omega|(dsimp only;omega))
 repeat' (first|with_reducible (first|refine Wk.o (by constructor) ?_|refine q_and ?_ ?_|exact True.intro)|refine VEq.c ?_|refine VEq.agg ?_|refine VEq.tup ?_|refine TkEq.cells ?_ ?_|refine TkEq.els ?_ ?_|refine SEqL.cons ?_ ?_|refine TEqL.agg ?_ ?_|refine CEq.rows ?_|refine CEq.int ?_|rfl|omega)
theorem dup_at {st : List Stp} {i j : Nat} (hi : i < st.length) (hj : j < i) (h : (st.getD j st0).sec = (st.getD i st0).sec) : dupAt st i = true := by
 unfold dupAt
 rw [List.any_eq_true]
 refine ⟨st.getD j st0, ?_, by simpa using h⟩
 rw [List.getD_eq_getElem?_getD, List.getElem?_eq_getElem (by omega)]
 rw [List.mem_take_iff_getElem]
 exact ⟨j, by omega, rfl⟩
theorem dup_nat {st : List Stp} {i : Nat} (hi : i < st.length) (h : ∀ j, j < i → (st.getD j st0).sec ≠ (st.getD i st0).sec) : dupAt st i = false := by
 unfold dupAt
 rw [List.any_eq_false]
 intro x hx
 rw [List.mem_take_iff_getElem] at hx
 obtain ⟨j, hj, rfl⟩ := hx
 have := h j (by omega)
 rw [List.getD_eq_getElem?_getD, List.getElem?_eq_getElem (by omega)] at this
 simpa using this
theorem refRte_ok (L : Lay) (hL : LayFits L) (st : List Stp) (ov : Int) (hl : st.length ≤ 9223372036854775807) (ho : -9223372036854775808 ≤ ov ∧ ov ≤ 9223372036854775807) : OkV Try.prog 51 [vLay L, .agg [rStp st, xI ov]] [] (vI (rteErr L ⟨st, ov⟩)) [] := by
 have hC := refCheck_okV L hL
 have hl3 := hL.m3
 unfold vLay at hC ⊢
 refine X_fn mixedX Try.func51 rfl (by kernel_rfl) (Nat.le_of_ble_eq_true (by kernel_rfl)) (by kernel_rfl) rfl rfl (Nat.le_of_ble_eq_true rfl) rfl rfl ?_
 simp only [sl0, Nat.zero_add, Nat.reduceAdd]
 repeat' (first
  |with_reducible (first|refine q_and ?_ ?_|exact True.intro|exact TkEq.nil _|refine Red.o (by constructor) ?_|refine blockK_o' rfl ?_|refine LoopX_e' rfl ?_|assumption)
  |((with_reducible apply q_call);refine X_pure (hC) rfl ?_)
  |((with_reducible apply q_CI);intro hbq;(try simp only [bq] at hbq);(try (exfalso;omega)))
  |refine Rex.o (by (with_reducible constructor);apply Eq.refl) ?_
  |(intro (hgq : (_ : Bool) = true);(try simp only [bq] at hgq))
  |(intro (hgq : (_ : Bool) = false);(try simp only [bq] at hgq))
  |((with_reducible apply q_VOk);exact fun _ => ⟨rfl,rfl⟩)|(intro _;exact rfl)|((with_reducible apply q_CRB);kernel_rfl)|((with_reducible apply q_bt);simp only [bq])|((with_reducible apply q_eqN);rfl)|((with_reducible apply q_FE);exact rfl)|with_reducible (first|exact isByte_wrap _|exact isByte_nat _)|(simp only [hgq,bq];done)|omega|(dsimp only;omega))
 ·rw [rte_1 hbq]; rfl
 ·rename_i a1
  rw [rte_7 (by omega) (by simp only; omega)]; rfl
 ·rename_i a1 a2
  rw [rte_4 (by omega) (by simp only; omega) (by simp only; omega)]; rfl
 rename_i a1 a2
 clear hC
 have b1 : layErr L = 0 := by omega
 have b2 : ¬ (24 < st.length ∨ 2 < ov) := by omega
 have b3 : ¬ (ov < 0 ∨ (st.length : Int) - ov < 2) := by omega
 have hV := valid_of b1
 have hn3 := hV.n3
 refine W_loopS (fun i : Nat => SS [sC 2 (pB 0), sC 3 (pB 1), sI 5 i] [bLay L, bRte st ov]) (fun i => i ≤ st.length ∧ ∀ j, j < i → (st.getD j st0).ok L = true) (fun i => st.length - i) 0 ?_ ⟨by omega, fun j hj => by omega⟩ ?_
 ·
  refine X_weak rfl rfl rfl ?_ ?_ <;> repeat' (first|with_reducible (first|refine Wk.o (by constructor) ?_|refine q_and ?_ ?_|exact True.intro)|refine q_AgS rfl ?_ ?_|exact CLe.nil_tipS|exact CLe.nil_rowS|refine HLe.cells ?_ ?_|refine HLe.els ?_ ?_|refine SLe.cons ?_ ?_|exact (rfl : known _ = _)|with_reducible rfl|omega)
 intro i hi
 obtain ⟨hi, hok⟩ := hi
 have h1 := in_ok (st.getD (i : Int).toNat st0).sec 0 (L.secs.length - 1)
 have h2 := in_ok (st.getD (i : Int).toNat st0).dir 0 1
 repeat' (first
  |with_reducible (first|refine q_and ?_ ?_|exact True.intro|exact TkEq.nil _|refine Red.o (by constructor) ?_|refine blockK_o' rfl ?_|refine LoopX_e' rfl ?_|assumption)
  |((with_reducible apply q_call);refine X_pure (h1) rfl ?_)
  |((with_reducible apply q_callG);refine X_pureG ((fun _ => h2)) rfl ?_ ?_)
  |((with_reducible apply q_CI);intro hbq;(try simp only [bq] at hbq);(try (exfalso;omega)))
  |refine Rex.o (by (with_reducible constructor);apply Eq.refl) ?_
  |(intro (hgq : (_ : Bool) = true);(try simp only [bq] at hgq))
  |(intro (hgq : (_ : Bool) = false);(try simp only [bq] at hgq))
  |((with_reducible apply q_VOk);exact fun _ => ⟨rfl,rfl⟩)|(intro _;exact rfl)|((with_reducible apply q_CRB);kernel_rfl)|((with_reducible apply q_bt);simp only [bq])|((with_reducible apply q_eqN);rfl)|((with_reducible apply q_FE);exact rfl)|with_reducible (first|exact isByte_wrap _|exact isByte_nat _)|(simp only [hgq,bq];done)|omega|(dsimp only;omega))
 ·have hb : (st.getD (i : Int).toNat st0).ok L = false := by
   unfold Stp.ok
   simp only [Bool.and_eq_false_iff, Bool.or_eq_false_iff, decide_eq_false_iff_not]
   omega
  rw [rte_4b (r := ⟨st, ov⟩) b1 b2 b3 (all_no (l := st) (i := i) (by omega) hb)]; rfl
 ·have hb : (st.getD (i : Int).toNat st0).ok L = true := by
   unfold Stp.ok
   simp only [Bool.and_eq_true, Bool.or_eq_true, decide_eq_true_eq]
   omega
  refine LoopK_n (i + 1) ?_ (⟨by omega, upto_succ hok hb⟩) (by (try dsimp only); omega)
  refine X_weak rfl rfl rfl ?_ ?_ <;> repeat' (first|with_reducible (first|refine Wk.o (by constructor) ?_|refine q_and ?_ ?_|exact True.intro)|refine q_AgS rfl ?_ ?_|exact CLe.nil_tipS|exact CLe.nil_rowS|refine HLe.cells ?_ ?_|refine HLe.els ?_ ?_|refine SLe.cons ?_ ?_|exact (rfl : known _ = _)|with_reducible rfl|omega)
 have hie : i = st.length := by omega
 subst hie
 clear h1 h2
 have b4 : st.all (Stp.ok L) = true := all_yes hok
 clear hok hi hbq
 refine W_loopS (fun i : Nat => SS [sC 2 (pB 0), sC 3 (pB 1), sI 6 i] [bLay L, bRte st ov]) (fun i => i ≤ st.length ∧ ∀ j, j < i → dupAt st j = false) (fun i => st.length - i) 0 ?_ ⟨by omega, fun j hj => by omega⟩ ?_
 ·
  refine X_weak rfl rfl rfl ?_ ?_ <;> repeat' (first|with_reducible (first|refine Wk.o (by constructor) ?_|refine q_and ?_ ?_|exact True.intro)|refine q_AgS rfl ?_ ?_|exact CLe.nil_tipS|exact CLe.nil_rowS|refine HLe.cells ?_ ?_|refine HLe.els ?_ ?_|refine SLe.cons ?_ ?_|exact (rfl : known _ = _)|with_reducible rfl|omega)
 intro i hi
 obtain ⟨hi, hno⟩ := hi
 repeat' (first
  |with_reducible (first|refine q_and ?_ ?_|exact True.intro|exact TkEq.nil _|refine Red.o (by constructor) ?_|refine blockK_o' rfl ?_|refine LoopX_e' rfl ?_|assumption)
  |((with_reducible apply q_CI);intro hbq;(try simp only [bq] at hbq);(try (exfalso;omega)))
  |refine Rex.o (by (with_reducible constructor);apply Eq.refl) ?_
  |(intro (hgq : (_ : Bool) = true);(try simp only [bq] at hgq))
  |(intro (hgq : (_ : Bool) = false);(try simp only [bq] at hgq))
  |((with_reducible apply q_VOk);exact fun _ => ⟨rfl,rfl⟩)|(intro _;exact rfl)|((with_reducible apply q_CRB);kernel_rfl)|((with_reducible apply q_bt);simp only [bq])|((with_reducible apply q_eqN);rfl)|((with_reducible apply q_FE);exact rfl)|with_reducible (first|exact isByte_wrap _|exact isByte_nat _)|(simp only [hgq,bq];done)|omega|(dsimp only;omega))
 ·rename_i c1
  refine W_loopS (fun k : Nat => SS [sC 2 (pB 0), sC 3 (pB 1), sI 6 i, sI 7 k] [bLay L, bRte st ov]) (fun k => k ≤ i ∧ ∀ j, j < k → (st.getD j st0).sec ≠ (st.getD (i : Int).toNat st0).sec) (fun k => i - k) 0 ?_ ⟨by omega, fun j hj => by omega⟩ ?_
  ·
   refine X_weak rfl rfl rfl ?_ ?_ <;> repeat' (first|with_reducible (first|refine Wk.o (by constructor) ?_|refine q_and ?_ ?_|exact True.intro)|refine q_AgS rfl ?_ ?_|exact CLe.nil_tipS|exact CLe.nil_rowS|refine HLe.cells ?_ ?_|refine HLe.els ?_ ?_|refine SLe.cons ?_ ?_|exact (rfl : known _ = _)|with_reducible rfl|omega)
  intro k hk
  obtain ⟨hk, hne⟩ := hk
  repeat' (first
   |with_reducible (first|refine q_and ?_ ?_|exact True.intro|exact TkEq.nil _|refine Red.o (by constructor) ?_|refine blockK_o' rfl ?_|refine LoopX_e' rfl ?_|assumption)
   |((with_reducible apply q_CI);intro hbq;(try simp only [bq] at hbq);(try (exfalso;omega)))
   |refine Rex.o (by (with_reducible constructor);apply Eq.refl) ?_
   |(intro (hgq : (_ : Bool) = true);(try simp only [bq] at hgq))
   |(intro (hgq : (_ : Bool) = false);(try simp only [bq] at hgq))
   |((with_reducible apply q_VOk);exact fun _ => ⟨rfl,rfl⟩)|(intro _;exact rfl)|((with_reducible apply q_CRB);kernel_rfl)|((with_reducible apply q_bt);simp only [bq])|((with_reducible apply q_eqN);rfl)|((with_reducible apply q_FE);exact rfl)|with_reducible (first|exact isByte_wrap _|exact isByte_nat _)|(simp only [hgq,bq];done)|omega|(dsimp only;omega))
  ·rw [rte_5 (r := ⟨st, ov⟩) b1 b2 b3 b4 (dup_yes (st := st) (i := i) (by omega) (dup_at (j := k) (by omega) (by omega) (by simpa using hbq)))]; rfl
  ·
   refine LoopK_n (k + 1) ?_ (⟨by omega, upto_succ hne (by simpa using hbq)⟩) (by (try dsimp only); omega)
   refine X_weak rfl rfl rfl ?_ ?_ <;> repeat' (first|with_reducible (first|refine Wk.o (by constructor) ?_|refine q_and ?_ ?_|exact True.intro)|refine q_AgS rfl ?_ ?_|exact CLe.nil_tipS|exact CLe.nil_rowS|refine HLe.cells ?_ ?_|refine HLe.els ?_ ?_|refine SLe.cons ?_ ?_|exact (rfl : known _ = _)|with_reducible rfl|omega)
  ·have hki : k = i := by omega
   subst hki
   refine LoopK_n (k + 1) ?_ (⟨by omega, upto_succ hno (dup_nat (by omega) (by simpa using hne))⟩) (by (try dsimp only); omega)
   refine X_weak rfl rfl rfl ?_ ?_ <;> repeat' (first|with_reducible (first|refine Wk.o (by constructor) ?_|refine q_and ?_ ?_|exact True.intro)|refine q_AgS rfl ?_ ?_|exact CLe.nil_tipS|exact CLe.nil_rowS|refine HLe.cells ?_ ?_|refine HLe.els ?_ ?_|refine SLe.cons ?_ ?_|exact (rfl : known _ = _)|with_reducible rfl|omega)
 have hie : i = st.length := by omega
 subst hie
 have b5 : dupB st = false := dup_no hno
 clear hno hi hbq
 refine W_loopS (fun i : Nat => SS [sC 2 (pB 0), sC 3 (pB 1), sI 8 (i + 1 : Nat)] [bLay L, bRte st ov]) (fun i => i ≤ st.length - 1 ∧ ∀ j, j < i → (linkAt L st j).isSome = true) (fun i => st.length - 1 - i) 0 ?_ ⟨by omega, fun j hj => by omega⟩ ?_
 ·
  refine X_weak rfl rfl rfl ?_ ?_ <;> repeat' (first|with_reducible (first|refine Wk.o (by constructor) ?_|refine q_and ?_ ?_|exact True.intro)|refine q_AgS rfl ?_ ?_|exact CLe.nil_tipS|exact CLe.nil_rowS|refine HLe.cells ?_ ?_|refine HLe.els ?_ ?_|refine SLe.cons ?_ ?_|exact (rfl : known _ = _)|with_reducible rfl|omega)
 intro i hi
 obtain ⟨hi, hno⟩ := hi
 have hJ := joined_ok L (st.getD (((i + 1 : Nat) : Int) - 1).toNat st0) (st.getD ((i + 1 : Nat) : Int).toNat st0) hV
 have e1 : (((i + 1 : Nat) : Int) - 1).toNat = i := by omega
 have e2 : joinL L (st.getD (((i + 1 : Nat) : Int) - 1).toNat st0) (st.getD ((i + 1 : Nat) : Int).toNat st0) = linkAt L st i := by rw [e1, Int.toNat_natCast]; rfl
 rw [e2] at hJ
 unfold vLay at hJ
 repeat' (first
  |with_reducible (first|refine q_and ?_ ?_|exact True.intro|exact TkEq.nil _|refine Red.o (by constructor) ?_|refine blockK_o' rfl ?_|refine LoopX_e' rfl ?_|assumption)
  |((with_reducible apply q_call);refine X_pure (hJ) rfl ?_)
  |((with_reducible apply q_CI);intro hbq;(try simp only [bq] at hbq);(try (exfalso;omega)))
  |refine Rex.o (by (with_reducible constructor);apply Eq.refl) ?_
  |(intro (hgq : (_ : Bool) = true);(try simp only [bq] at hgq))
  |(intro (hgq : (_ : Bool) = false);(try simp only [bq] at hgq))
  |((with_reducible apply q_VOk);exact fun _ => ⟨rfl,rfl⟩)|(intro _;exact rfl)|((with_reducible apply q_CRB);kernel_rfl)|((with_reducible apply q_bt);simp only [bq])|((with_reducible apply q_eqN);rfl)|((with_reducible apply q_FE);exact rfl)|with_reducible (first|exact isByte_wrap _|exact isByte_nat _)|(simp only [hgq,bq];done)|omega|(dsimp only;omega))
 ·rw [rte_11 (r := ⟨st, ov⟩) b1 b2 b3 b4 b5 (link_no (i := i) (by simp only; omega) hbq)]; rfl
 ·
  refine LoopK_n (i + 1) ?_ (⟨by omega, upto_succ hno hbq⟩) (by (try dsimp only); omega)
  refine X_weak rfl rfl rfl ?_ ?_ <;> repeat' (first|with_reducible (first|refine Wk.o (by constructor) ?_|refine q_and ?_ ?_|exact True.intro)|refine q_AgS rfl ?_ ?_|exact CLe.nil_tipS|exact CLe.nil_rowS|refine HLe.cells ?_ ?_|refine HLe.els ?_ ?_|refine SLe.cons ?_ ?_|exact (rfl : known _ = _)|with_reducible rfl|omega)
 ·rw [rte_0 (r := ⟨st, ov⟩) b1 b2 b3 b4 b5 (link_yes fun j hj => hno j (by simp only at hj; omega))]; rfl
abbrev secA (L : Lay) (s : Stp) : Sec := L.secs.getD s.sec.toNat sec0
def celOf (L : Lay) (s : Stp) : Int × Int := ((secA L s).lim, if s.dir = 1 then -(secA L s).grd else (secA L s).grd)
def celsOf (L : Lay) (s : Stp) : List (Int × Int) := List.replicate (secA L s).len.toNat (celOf L s)
def celL (L : Lay) (l : List Stp) : List (Int × Int) := l.flatMap (celsOf L)
def trv (r : Rte) : List Stp := r.st.take ((r.st.length : Int) - r.ov).toNat
def celErr (L : Lay) (r : Rte) : Int := if rteErr L r ≠ 0 then rteErr L r else if 4000 < (celL L (trv r)).length then 7 else 0
def celOut (L : Lay) (r : Rte) : List (Int × Int) := if celErr L r = 0 then celL L (trv r) else []
def celOne (L : Lay) (r : Rte) : Int := if celErr L r = 0 then (secA L (r.st.getD 0 st0)).len else 0
theorem celErr_1 {L : Lay} {r : Rte} (h : ¬ rteErr L r = 0) : celErr L r = rteErr L r := if_pos h
theorem celErr_7 {L : Lay} {r : Rte} (h : rteErr L r = 0) (h2 : 4000 < (celL L (trv r)).length) : celErr L r = 7 := by unfold celErr; rw [if_neg (by simpa using h), if_pos h2]
theorem celErr_0 {L : Lay} {r : Rte} (h : rteErr L r = 0) (h2 : ¬ 4000 < (celL L (trv r)).length) : celErr L r = 0 := by unfold celErr; rw [if_neg (by simpa using h), if_neg h2]
theorem celL_snoc (L : Lay) {l : List Stp} {i : Nat} (h : i < l.length) : celL L (l.take (i + 1)) = celL L (l.take i) ++ celsOf L (l.getD i st0) := by
 unfold celL
 rw [take_snoc h, List.flatMap_append]
 simp
theorem sec_of {L : Lay} (hV : Valid L) {i : Nat} (h : i < L.secs.length) : secB L.sts.length (L.secs.getD i sec0) = true := by
 rw [List.getD_eq_getElem?_getD, List.getElem?_eq_getElem h]
 exact (hV.v3 _ (List.getElem_mem h)).2
theorem celL_len {L : Lay} (hV : Valid L) : ∀ {l : List Stp}, l.all (Stp.ok L) = true → (celL L l).length ≤ 400 * l.length
 | [], _ => Nat.le_refl _
 | s :: l, h => by
  rw [List.all_cons, Bool.and_eq_true] at h
  have ih := celL_len hV h.2
  obtain ⟨a, b, _⟩ := ok_dir h.1
  have h2 := secB_of (sec_of hV (i := s.sec.toNat) (by omega))
  have : (celsOf L s).length ≤ 400 := by unfold celsOf secA; rw [List.length_replicate]; omega
  unfold celL at ih ⊢
  rw [List.flatMap_cons, List.length_append, List.length_cons]
  omega
theorem all_take {L : Lay} {l : List Stp} (h : l.all (Stp.ok L) = true) (n : Nat) : (l.take n).all (Stp.ok L) = true := by
 rw [List.all_eq_true] at h ⊢
 exact fun x hx => h x (List.mem_of_mem_take hx)
theorem refCells_ok (L : Lay) (hL : LayFits L) (st : List Stp) (ov : Int) (hl : st.length ≤ 9223372036854775807) (ho : -9223372036854775808 ≤ ov ∧ ov ≤ 9223372036854775807) : OkV Try.prog 33 [vLay L, .agg [rStp st, xI ov]] [] (.tup [.c (rCell (celOut L ⟨st, ov⟩)), .c (xI (celOne L ⟨st, ov⟩)), .c (xI (celErr L ⟨st, ov⟩))]) [] := by
 have hC := refRte_ok L hL st ov hl ho
 unfold celOut celOne
 unfold vLay at hC ⊢
 refine X_fn mixedX Try.func33 rfl (by kernel_rfl) (Nat.le_of_ble_eq_true (by kernel_rfl)) (by kernel_rfl) rfl rfl (Nat.le_of_ble_eq_true rfl) rfl rfl ?_
 simp only [sl0, Nat.zero_add, Nat.reduceAdd]
 repeat' (first
  |with_reducible (first|refine q_and ?_ ?_|exact True.intro|exact TkEq.nil _|refine Red.o (by constructor) ?_|refine blockK_o' rfl ?_|refine LoopX_e' rfl ?_|assumption)
  |((with_reducible apply q_call);refine X_pure (hC) rfl ?_)
  |((with_reducible apply q_CI);intro hbq;(try simp only [bq] at hbq);(try (exfalso;omega)))
  |refine Rex.o (by (with_reducible constructor);apply Eq.refl) ?_
  |(intro (hgq : (_ : Bool) = true);(try simp only [bq] at hgq))
  |(intro (hgq : (_ : Bool) = false);(try simp only [bq] at hgq))
  |((with_reducible apply q_VOk);exact fun _ => ⟨rfl,rfl⟩)|(intro _;exact rfl)|((with_reducible apply q_CRB);kernel_rfl)|((with_reducible apply q_bt);simp only [bq])|((with_reducible apply q_eqN);rfl)|((with_reducible apply q_FE);exact rfl)|with_reducible (first|exact isByte_wrap _|exact isByte_nat _)|(simp only [hgq,bq];done)|omega|(dsimp only;omega))
 ·rw [celErr_1 hbq, if_neg hbq, if_neg hbq]; rfl
 clear hC
 have hr := rte_of (L := L) (r := ⟨st, ov⟩) (by omega)
 obtain ⟨r1, r2, r3, r4, r5, r6, r7, r8⟩ := hr
 simp only at r1 r2 r3 r4 r5 r6 r7 r8
 have hV := valid_of r1
 have hn3 := hV.n3
 refine W_loopS (fun i : Nat => SS [sC 2 (pB 0), sC 3 (pB 1), sC 8 (tCell (celL L (st.take i))), sI 9 i] [bLay L, bRte st ov]) (fun i => (i : Int) ≤ st.length - ov) (fun i => st.length - i) 0 ?_ (by omega) ?_
 ·
  refine X_weak rfl rfl rfl ?_ ?_ <;> repeat' (first|with_reducible (first|refine Wk.o (by constructor) ?_|refine q_and ?_ ?_|exact True.intro)|refine q_AgS rfl ?_ ?_|exact CLe.nil_tipS|exact CLe.nil_rowS|refine HLe.cells ?_ ?_|refine HLe.els ?_ ?_|refine SLe.cons ?_ ?_|exact (rfl : known _ = _)|with_reducible rfl|omega)
  all_goals rfl
 intro i hi
 have hsec : (i : Int) < st.length - ov → (0 ≤ (st.getD (i : Int).toNat { sec := 0, dir := 0 }).sec ∧ (st.getD (i : Int).toNat { sec := 0, dir := 0 }).sec < L.secs.length) ∧ ((L.secs.getD (st.getD (i : Int).toNat { sec := 0, dir := 0 }).sec.toNat sec0).len ≤ 400 ∧ 1 ≤ (L.secs.getD (st.getD (i : Int).toNat { sec := 0, dir := 0 }).sec.toNat sec0).len) ∧ (-40 ≤ (L.secs.getD (st.getD (i : Int).toNat { sec := 0, dir := 0 }).sec.toNat sec0).grd ∧ (L.secs.getD (st.getD (i : Int).toNat { sec := 0, dir := 0 }).sec.toNat sec0).grd ≤ 40) := fun h => by
  obtain ⟨x, y, _⟩ := ok_dir (all_at (i := i) r6 (by omega))
  rw [Int.toNat_natCast]
  have h2 := secB_of (sec_of hV (i := (st.getD i st0).sec.toNat) (by omega))
  exact ⟨⟨x, y⟩, ⟨h2.2.1, h2.1⟩, h2.2.2.2.2.1, h2.2.2.2.2.2.1⟩
 have hs0 : 0 ≤ (st.getD (Int.toNat 0) { sec := 0, dir := 0 }).sec ∧ (st.getD (Int.toNat 0) { sec := 0, dir := 0 }).sec < L.secs.length := by
  obtain ⟨x, y, _⟩ := ok_dir (all_at (i := 0) r6 (by omega))
  exact ⟨x, y⟩
 have hcl := celL_len hV (all_take r6 i)
 rw [List.length_take] at hcl
 repeat' (first
  |with_reducible (first|refine q_and ?_ ?_|exact True.intro|exact TkEq.nil _|refine Red.o (by constructor) ?_|refine blockK_o' rfl ?_|refine LoopX_e' rfl ?_|assumption)
  |((with_reducible apply q_CI);intro hbq;(try simp only [bq] at hbq);(try (exfalso;omega)))
  |refine Rex.o (by (with_reducible constructor);apply Eq.refl) ?_
  |(intro (hgq : (_ : Bool) = true);(try simp only [bq] at hgq))
  |(intro (hgq : (_ : Bool) = false);(try simp only [bq] at hgq))
  |((with_reducible apply q_VOk);exact fun _ => ⟨rfl,rfl⟩)|(intro _;exact rfl)|((with_reducible apply q_CRB);kernel_rfl)|((with_reducible apply q_bt);simp only [bq])|((with_reducible apply q_eqN);rfl)|((with_reducible apply q_FE);exact rfl)|with_reducible (first|exact isByte_wrap _|exact isByte_nat _)|(simp only [hgq,bq];done)|omega|(dsimp only;omega))
 ·rename_i c1
  generalize hS : L.secs.getD (st.getD (i : Int).toNat { sec := 0, dir := 0 }).sec.toNat sec0 = S at *
  have hc : celsOf L (st.getD (i : Int).toNat { sec := 0, dir := 0 }) = List.replicate S.len.toNat (S.lim, (-S.grd)) := by
   unfold celsOf celOf secA
   rw [hS]
   first | rw [if_pos hbq] | rw [if_neg hbq]
  have hs := (hsec c1).2
  clear hsec
  refine W_loopS (fun k : Nat => SS [sC 2 (pB 0), sC 3 (pB 1), sC 8 (tCell (celL L (st.take i) ++ List.replicate k (S.lim, (-S.grd)))), sI 9 i, sC 10 (pB 2), sI 11 (-S.grd), sI 12 k] [bLay L, bRte st ov, some (.cells [xS S.nm, xI S.len, xI S.lim, xI S.grd, xI S.stn])]) (fun k => k ≤ S.len) (fun k => S.len.toNat - k) 0 ?_ (by omega) ?_
  ·
   refine X_weak rfl rfl rfl ?_ ?_ <;> repeat' (first|with_reducible (first|refine Wk.o (by constructor) ?_|refine q_and ?_ ?_|exact True.intro)|refine q_AgS rfl ?_ ?_|exact CLe.nil_tipS|exact CLe.nil_rowS|refine HLe.cells ?_ ?_|refine HLe.els ?_ ?_|refine SLe.cons ?_ ?_|exact (rfl : known _ = _)|with_reducible rfl|omega)
   all_goals simp
  intro k hk
  have hkn : (celL L (st.take i) ++ List.replicate k (S.lim, (-S.grd))).length ≤ 20000 := by rw [List.length_append, List.length_replicate]; omega
  repeat' (first
   |with_reducible (first|refine q_and ?_ ?_|exact True.intro|exact TkEq.nil _|refine Red.o (by constructor) ?_|refine blockK_o' rfl ?_|refine LoopX_e' rfl ?_|assumption)
   |((with_reducible apply q_CI);intro hbq;(try simp only [bq] at hbq);(try (exfalso;omega)))
   |refine Rex.o (by (with_reducible constructor);apply Eq.refl) ?_
   |(intro (hgq : (_ : Bool) = true);(try simp only [bq] at hgq))
   |(intro (hgq : (_ : Bool) = false);(try simp only [bq] at hgq))
   |((with_reducible apply q_VOk);exact fun _ => ⟨rfl,rfl⟩)|(intro _;exact rfl)|((with_reducible apply q_CRB);kernel_rfl)|((with_reducible apply q_bt);simp only [bq])|((with_reducible apply q_eqN);rfl)|((with_reducible apply q_FE);exact rfl)|with_reducible (first|exact isByte_wrap _|exact isByte_nat _)|(simp only [hgq,bq];done)|omega|(dsimp only;omega))
  ·
   refine LoopK_n (k + 1) ?_ ((by omega)) (by (try dsimp only); omega)
   refine X_weak rfl rfl rfl ?_ ?_ <;> repeat' (first|with_reducible (first|refine Wk.o (by constructor) ?_|refine q_and ?_ ?_|exact True.intro)|refine q_AgS rfl ?_ ?_|exact CLe.nil_tipS|exact CLe.nil_rowS|refine HLe.cells ?_ ?_|refine HLe.els ?_ ?_|refine SLe.cons ?_ ?_|exact (rfl : known _ = _)|with_reducible rfl|omega)
   all_goals (rw [List.replicate_succ', ← List.append_assoc]; simp [fCell, fI, Nat.add_assoc])
  ·have hkl : k = S.len.toNat := by omega
   subst hkl
   refine LoopK_n (i + 1) ?_ ((by omega)) (by (try dsimp only); omega)
   refine X_weak rfl rfl rfl ?_ ?_ <;> repeat' (first|with_reducible (first|refine Wk.o (by constructor) ?_|refine q_and ?_ ?_|exact True.intro)|refine q_AgS rfl ?_ ?_|exact CLe.nil_tipS|exact CLe.nil_rowS|refine HLe.cells ?_ ?_|refine HLe.els ?_ ?_|refine SLe.cons ?_ ?_|exact (rfl : known _ = _)|with_reducible rfl|omega)
   all_goals (rw [celL_snoc L (by omega), ← hc]; try rfl)
 ·rename_i c1
  generalize hS : L.secs.getD (st.getD (i : Int).toNat { sec := 0, dir := 0 }).sec.toNat sec0 = S at *
  have hc : celsOf L (st.getD (i : Int).toNat { sec := 0, dir := 0 }) = List.replicate S.len.toNat (S.lim, S.grd) := by
   unfold celsOf celOf secA
   rw [hS]
   first | rw [if_pos hbq] | rw [if_neg hbq]
  have hs := (hsec c1).2
  clear hsec
  refine W_loopS (fun k : Nat => SS [sC 2 (pB 0), sC 3 (pB 1), sC 8 (tCell (celL L (st.take i) ++ List.replicate k (S.lim, S.grd))), sI 9 i, sC 10 (pB 2), sI 11 S.grd, sI 12 k] [bLay L, bRte st ov, some (.cells [xS S.nm, xI S.len, xI S.lim, xI S.grd, xI S.stn])]) (fun k => k ≤ S.len) (fun k => S.len.toNat - k) 0 ?_ (by omega) ?_
  ·
   refine X_weak rfl rfl rfl ?_ ?_ <;> repeat' (first|with_reducible (first|refine Wk.o (by constructor) ?_|refine q_and ?_ ?_|exact True.intro)|refine q_AgS rfl ?_ ?_|exact CLe.nil_tipS|exact CLe.nil_rowS|refine HLe.cells ?_ ?_|refine HLe.els ?_ ?_|refine SLe.cons ?_ ?_|exact (rfl : known _ = _)|with_reducible rfl|omega)
   all_goals simp
  intro k hk
  have hkn : (celL L (st.take i) ++ List.replicate k (S.lim, S.grd)).length ≤ 20000 := by rw [List.length_append, List.length_replicate]; omega
  repeat' (first
   |with_reducible (first|refine q_and ?_ ?_|exact True.intro|exact TkEq.nil _|refine Red.o (by constructor) ?_|refine blockK_o' rfl ?_|refine LoopX_e' rfl ?_|assumption)
   |((with_reducible apply q_CI);intro hbq;(try simp only [bq] at hbq);(try (exfalso;omega)))
   |refine Rex.o (by (with_reducible constructor);apply Eq.refl) ?_
   |(intro (hgq : (_ : Bool) = true);(try simp only [bq] at hgq))
   |(intro (hgq : (_ : Bool) = false);(try simp only [bq] at hgq))
   |((with_reducible apply q_VOk);exact fun _ => ⟨rfl,rfl⟩)|(intro _;exact rfl)|((with_reducible apply q_CRB);kernel_rfl)|((with_reducible apply q_bt);simp only [bq])|((with_reducible apply q_eqN);rfl)|((with_reducible apply q_FE);exact rfl)|with_reducible (first|exact isByte_wrap _|exact isByte_nat _)|(simp only [hgq,bq];done)|omega|(dsimp only;omega))
  ·
   refine LoopK_n (k + 1) ?_ ((by omega)) (by (try dsimp only); omega)
   refine X_weak rfl rfl rfl ?_ ?_ <;> repeat' (first|with_reducible (first|refine Wk.o (by constructor) ?_|refine q_and ?_ ?_|exact True.intro)|refine q_AgS rfl ?_ ?_|exact CLe.nil_tipS|exact CLe.nil_rowS|refine HLe.cells ?_ ?_|refine HLe.els ?_ ?_|refine SLe.cons ?_ ?_|exact (rfl : known _ = _)|with_reducible rfl|omega)
   all_goals (rw [List.replicate_succ', ← List.append_assoc]; simp [fCell, fI, Nat.add_assoc])
  ·have hkl : k = S.len.toNat := by omega
   subst hkl
   refine LoopK_n (i + 1) ?_ ((by omega)) (by (try dsimp only); omega)
   refine X_weak rfl rfl rfl ?_ ?_ <;> repeat' (first|with_reducible (first|refine Wk.o (by constructor) ?_|refine q_and ?_ ?_|exact True.intro)|refine q_AgS rfl ?_ ?_|exact CLe.nil_tipS|exact CLe.nil_rowS|refine HLe.cells ?_ ?_|refine HLe.els ?_ ?_|refine SLe.cons ?_ ?_|exact (rfl : known _ = _)|with_reducible rfl|omega)
   all_goals (rw [celL_snoc L (by omega), ← hc]; try rfl)
 ·have hie : i = ((st.length : Int) - ov).toNat := by omega
  subst hie
  rw [celErr_7 (r := ⟨st, ov⟩) (by omega) (by unfold trv; simp only; omega)]; rfl
 ·have hie : i = ((st.length : Int) - ov).toNat := by omega
  subst hie
  rw [celErr_0 (r := ⟨st, ov⟩) (by omega) (by unfold trv; simp only; omega)]; rfl
abbrev xU (n : Int) : SC := .c (.f (.v (.int .u64 n)))
theorem two_u {a b c d : Int} (h : a = c ∧ b = d) : (packS [ST.c (xU a), ST.c (xU b)]).den = (SV.tup [.c (xU c), .c (xU d)]).den := by
 rw [h.1, h.2]; rfl
theorem mul64_ok (n : Int) (h0 : 0 ≤ n) (h1 : n < 512) : OkV Try.prog 104 [.c (xU 1), .c (xU n)] [] (.tup [.c (xU 0), .c (xU n)]) [] := by
 refine X_fn mixedX Try.func104 rfl (by kernel_rfl) (Nat.le_of_ble_eq_true (by kernel_rfl)) (by kernel_rfl) rfl rfl (Nat.le_of_ble_eq_true rfl) rfl rfl ?_
 simp only [sl0, Nat.zero_add, Nat.reduceAdd]
 repeat' (first
  |with_reducible (first|refine q_and ?_ ?_|exact True.intro|exact TkEq.nil _|refine Red.o (by constructor) ?_|refine blockK_o' rfl ?_|refine LoopX_e' rfl ?_|assumption)
  |((with_reducible apply q_CI);intro hbq;(try simp only [bq] at hbq);(try (exfalso;omega)))
  |refine Rex.o (by (with_reducible constructor);apply Eq.refl) ?_
  |(intro (hgq : (_ : Bool) = true);(try simp only [bq] at hgq))
  |(intro (hgq : (_ : Bool) = false);(try simp only [bq] at hgq))
  |((with_reducible apply q_VOk);exact fun _ => ⟨rfl,rfl⟩)|(intro _;exact rfl)|((with_reducible apply q_CRB);kernel_rfl)|((with_reducible apply q_bt);simp only [bq])|((with_reducible apply q_eqN);rfl)|((with_reducible apply q_FE);exact rfl)|with_reducible (first|exact isByte_wrap _|exact isByte_nat _)|(simp only [hgq,bq];done)|omega|(dsimp only;omega))
 obtain ⟨m, rfl⟩ := Int.eq_ofNat_of_zero_le h0
 have h2 : m < 512 := by omega
 clear h0 h1
 apply two_u
 revert m
 decide +kernel
theorem mul_ok (n : Int) (h0 : 0 ≤ n) (h1 : n < 512) : OkV Try.prog 94 [.c (xU 1), .c (xU n)] [] (.tup [.c (xU 0), .c (xU n)]) [] := by
 have hM := mul64_ok n h0 h1
 refine X_fn mixedX Try.func94 rfl (by kernel_rfl) (Nat.le_of_ble_eq_true (by kernel_rfl)) (by kernel_rfl) rfl rfl (Nat.le_of_ble_eq_true rfl) rfl rfl ?_
 simp only [sl0, Nat.zero_add, Nat.reduceAdd]
 repeat' (first
  |with_reducible (first|refine q_and ?_ ?_|exact True.intro|exact TkEq.nil _|refine Red.o (by constructor) ?_|refine blockK_o' rfl ?_|refine LoopX_e' rfl ?_|assumption)
  |((with_reducible apply q_call);refine X_pure (hM) rfl ?_)
  |((with_reducible apply q_CI);intro hbq;(try simp only [bq] at hbq);(try (exfalso;omega)))
  |refine Rex.o (by (with_reducible constructor);apply Eq.refl) ?_
  |(intro (hgq : (_ : Bool) = true);(try simp only [bq] at hgq))
  |(intro (hgq : (_ : Bool) = false);(try simp only [bq] at hgq))
  |((with_reducible apply q_VOk);exact fun _ => ⟨rfl,rfl⟩)|(intro _;exact rfl)|((with_reducible apply q_CRB);kernel_rfl)|((with_reducible apply q_bt);simp only [bq])|((with_reducible apply q_eqN);rfl)|((with_reducible apply q_FE);exact rfl)|with_reducible (first|exact isByte_wrap _|exact isByte_nat _)|(simp only [hgq,bq];done)|omega|(dsimp only;omega))
 repeat' (first|with_reducible (first|refine Wk.o (by constructor) ?_|refine q_and ?_ ?_|exact True.intro)|refine VEq.c ?_|refine VEq.agg ?_|refine VEq.tup ?_|refine TkEq.cells ?_ ?_|refine TkEq.els ?_ ?_|refine SEqL.cons ?_ ?_|refine TEqL.agg ?_ ?_|refine CEq.rows ?_|refine CEq.int ?_|rfl|omega)
abbrev bCell (l : List (Int × Int)) : Option SB := some (.els 2 fCell vCell mCell (0, 0) l)
theorem u64_id (n : Int) (h0 : 0 ≤ n) (h1 : n < 512) : IntKind.u64.wrap n = n := by
 simp only [IntKind.wrap]
 simp [IntKind.bits, IntKind.signed]
 omega
def repK (c : Int × Int) (n k : Nat) : List (Int × Int) := List.replicate k c ++ List.replicate (n - k) (0, 0)
theorem rep_1 (c : Int × Int) (N : Nat) (h : 1 ≤ N) : spliceL (List.replicate N (0, 0)) (0 / 2) (List.take (min 1 N) [c]) = repK c N 1 := by
 rw [Nat.min_eq_left h]
 unfold spliceL repK
 simp
theorem rep_dbl (c : Int × Int) (N k : Nat) (h2 : k ≤ N) : spliceL (repK c N k) k ((repK c N k).take (min k (N - k))) = repK c N (k + min k (N - k)) := by
 have e : (repK c N k).take (min k (N - k)) = List.replicate (min k (N - k)) c := by
  unfold repK
  rw [List.take_append_of_le_length (by simp; omega), List.take_replicate]
  congr 1; omega
 rw [e]
 unfold spliceL repK
 rw [List.take_append_of_le_length (by simp), List.take_of_length_le (by simp), List.drop_append, List.drop_of_length_le (by simp), List.length_replicate, List.length_replicate, List.drop_replicate, List.nil_append, ← List.replicate_append_replicate]
 congr 2; omega
theorem repeat_ok (a b : Int) (n : Int) (h0 : 1 ≤ n) (h1 : n < 512) : OkV Try.prog 82 [.c (.c (.f (.row [fI a, fI b] 1))), .c (xI n)] [] (.c (rCell (List.replicate n.toNat (a, b)))) [] := by
 have e1 : IntKind.u64.wrap n = n := u64_id n (by omega) (by omega)
 have e2 : IntKind.u64.wrap ((1 : Nat) : Int) = 1 := u64_id 1 (by omega) (by omega)
 have hM : OkV Try.prog 94 [.c (xU (IntKind.u64.wrap ((1 : Nat) : Int))), .c (xU (IntKind.u64.wrap n))] [] (.tup [.c (xU 0), .c (xU n)]) [] := by
  rw [e1, e2]; exact mul_ok n (by omega) h1
 refine X_fnP mixedX Try.func82 rfl (by kernel_rfl) (Nat.le_of_ble_eq_true (by kernel_rfl)) (by kernel_rfl) rfl rfl ?_
 simp only [sl0, Nat.zero_add, Nat.reduceAdd]
 have hN : (n.toNat : Int) = n := by omega
 generalize n.toNat = N at hN ⊢
 subst hN
 have hrl : ∀ k, k ≤ N → (repK (a, b) N k).length = N := fun k hk => by unfold repK; simp; omega
 repeat' (first
  |with_reducible (first|refine q_and ?_ ?_|exact True.intro|exact TkEq.nil _|refine Red.o (by constructor) ?_|refine blockK_o' rfl ?_|refine LoopX_e' rfl ?_|assumption)
  |((with_reducible apply q_call);refine X_pure (hM) rfl ?_)
  |((with_reducible apply q_CI);intro hbq;(try simp only [bq] at hbq);(try (exfalso;omega)))
  |refine Rex.o (by (with_reducible constructor);apply Eq.refl) ?_
  |(intro (hgq : (_ : Bool) = true);(try simp only [bq] at hgq))
  |(intro (hgq : (_ : Bool) = false);(try simp only [bq] at hgq))
  |((with_reducible apply q_VOk);exact fun _ => ⟨rfl,rfl⟩)|(intro _;exact rfl)|((with_reducible apply q_CRB);kernel_rfl)|((with_reducible apply q_bt);simp only [bq])|((with_reducible apply q_eqN);rfl)|((with_reducible apply q_FE);exact rfl)|with_reducible (first|exact isByte_wrap _|exact isByte_nat _)|(simp only [hgq,bq];done)|omega|(dsimp only;omega))
 ·simp
 ·rfl
 refine W_loopS (fun k : Nat => SS [sI 8 k, sC 7 (.c (.arr 0 0 N N))] [bCell (repK (a, b) N k)]) (fun k => 1 ≤ k ∧ k ≤ N) (fun k => N - k) 1 ?_ (by omega) ?_
 ·
  refine X_weak rfl rfl rfl ?_ ?_ <;> repeat' (first|with_reducible (first|refine Wk.o (by constructor) ?_|refine q_and ?_ ?_|exact True.intro)|refine q_AgS rfl ?_ ?_|exact CLe.nil_tipS|exact CLe.nil_rowS|refine HLe.cells ?_ ?_|refine HLe.els ?_ ?_|refine SLe.cons ?_ ?_|exact (rfl : known _ = _)|with_reducible rfl|omega)
  all_goals first
   | exact rep_1 (a, b) N (by omega)
 intro k hk
 have hrk := hrl k hk.2
 repeat' (first
  |with_reducible (first|refine q_and ?_ ?_|exact True.intro|exact TkEq.nil _|refine Red.o (by constructor) ?_|refine blockK_o' rfl ?_|refine LoopX_e' rfl ?_|assumption)
  |((with_reducible apply q_CI);intro hbq;(try simp only [bq] at hbq);(try (exfalso;omega)))
  |refine Rex.o (by (with_reducible constructor);apply Eq.refl) ?_
  |(intro (hgq : (_ : Bool) = true);(try simp only [bq] at hgq))
  |(intro (hgq : (_ : Bool) = false);(try simp only [bq] at hgq))
  |((with_reducible apply q_VOk);exact fun _ => ⟨rfl,rfl⟩)|(intro _;exact rfl)|((with_reducible apply q_CRB);kernel_rfl)|((with_reducible apply q_bt);simp only [bq])|((with_reducible apply q_eqN);rfl)|((with_reducible apply q_FE);exact rfl)|with_reducible (first|exact isByte_wrap _|exact isByte_nat _)|(simp only [hgq,bq];done)|omega|(dsimp only;omega))
 ·
  refine LoopK_n (k + min k (N - k)) ?_ ((by omega)) (by (try dsimp only); omega)
  refine X_weak rfl rfl rfl ?_ ?_ <;> repeat' (first|with_reducible (first|refine Wk.o (by constructor) ?_|refine q_and ?_ ?_|exact True.intro)|refine q_AgS rfl ?_ ?_|exact CLe.nil_tipS|exact CLe.nil_rowS|refine HLe.cells ?_ ?_|refine HLe.els ?_ ?_|refine SLe.cons ?_ ?_|exact (rfl : known _ = _)|with_reducible rfl|omega)
  all_goals (rw [show ((k : Int).toNat : Nat) = k from rfl, show ((N : Int) - (k : Int)).toNat = N - k by omega]; first | (rw [Nat.zero_add, Nat.mul_div_cancel k (by decide : 0 < 2)]; exact rep_dbl (a, b) N k hk.2))
 have hkN : k = N := by omega
 subst hkN
 rw [show repK (a, b) k k = List.replicate k (a, b) by unfold repK; simp]
 rfl
theorem cells_ok (L : Lay) (hL : LayFits L) (st : List Stp) (ov : Int) (hl : st.length ≤ 9223372036854775807) (ho : -9223372036854775808 ≤ ov ∧ ov ≤ 9223372036854775807) : OkV Try.prog 63 [vLay L, .agg [rStp st, xI ov]] [] (.tup [.c (rCell (celOut L ⟨st, ov⟩)), .c (xI (celOne L ⟨st, ov⟩)), .c (xI (celErr L ⟨st, ov⟩))]) [] := by
 have hC := rteCheck_ok L hL st ov hl ho
 have hR : rteErr L { st := st, ov := ov } = 0 → ov ≤ 2 ∧ 0 ≤ ov ∧ ov + 2 ≤ st.length := fun h => by
  have hr := rte_of h
  exact ⟨hr.ov, hr.ov0, hr.two⟩
 unfold celOut celOne
 unfold vLay at hC ⊢
 refine X_fn mixedX Try.func63 rfl (by kernel_rfl) (Nat.le_of_ble_eq_true (by kernel_rfl)) (by kernel_rfl) rfl rfl (Nat.le_of_ble_eq_true rfl) rfl rfl ?_
 simp only [sl0, Nat.zero_add, Nat.reduceAdd]
 repeat' (first
  |with_reducible (first|refine q_and ?_ ?_|exact True.intro|exact TkEq.nil _|refine Red.o (by constructor) ?_|refine blockK_o' rfl ?_|refine LoopX_e' rfl ?_|assumption)
  |((with_reducible apply q_call);refine X_pure (hC) rfl ?_)
  |((with_reducible apply q_CI);intro hbq;(try simp only [bq] at hbq);(try (exfalso;omega)))
  |refine Rex.o (by (with_reducible constructor);apply Eq.refl) ?_
  |(intro (hgq : (_ : Bool) = true);(try simp only [bq] at hgq))
  |(intro (hgq : (_ : Bool) = false);(try simp only [bq] at hgq))
  |((with_reducible apply q_VOk);exact fun _ => ⟨rfl,rfl⟩)|(intro _;exact rfl)|((with_reducible apply q_CRB);kernel_rfl)|((with_reducible apply q_bt);simp only [bq])|((with_reducible apply q_eqN);rfl)|((with_reducible apply q_FE);exact rfl)|with_reducible (first|exact isByte_wrap _|exact isByte_nat _)|(simp only [hgq,bq];done)|omega|(dsimp only;omega))
 ·rw [celErr_1 hbq, if_neg hbq, if_neg hbq]; rfl
 clear hC
 have hr := rte_of (L := L) (r := ⟨st, ov⟩) (by omega)
 obtain ⟨r1, r2, r3, r4, r5, r6, r7, r8⟩ := hr
 simp only at r1 r2 r3 r4 r5 r6 r7 r8
 have hV := valid_of r1
 have hn3 := hV.n3
 have htl : (st.take ((st.length : Int) - ov).toNat).length = ((st.length : Int) - ov).toNat := by rw [List.length_take]; omega
 refine W_loopS (fun i : Nat => SS [sC 2 (pB 0), sC 3 (pB 1), sC 8 (tCell (celL L (st.take i))), sC 27 (rStp (st.take ((st.length : Int) - ov).toNat)), sI 28 (st.length - ov), sI 29 i] [bLay L, bRte st ov]) (fun i => (i : Int) ≤ st.length - ov) (fun i => st.length - i) 0 ?_ (by omega) ?_
 ·
  refine X_weak rfl rfl rfl ?_ ?_ <;> repeat' (first|with_reducible (first|refine Wk.o (by constructor) ?_|refine q_and ?_ ?_|exact True.intro)|refine q_AgS rfl ?_ ?_|exact CLe.nil_tipS|exact CLe.nil_rowS|refine HLe.cells ?_ ?_|refine HLe.els ?_ ?_|refine SLe.cons ?_ ?_|exact (rfl : known _ = _)|with_reducible rfl|omega)
 intro i hi
 have hg : (i : Int) < st.length - ov → (st.take ((st.length : Int) - ov).toNat).getD (i : Int).toNat { sec := 0, dir := 0 } = st.getD (i : Int).toNat { sec := 0, dir := 0 } := fun h => by
  rw [List.getD_eq_getElem?_getD, List.getD_eq_getElem?_getD, List.getElem?_take_of_lt (by omega)]
 have hcl := celL_len hV (all_take r6 i)
 rw [List.length_take] at hcl
 have hs0 : 0 ≤ (st.getD (Int.toNat 0) { sec := 0, dir := 0 }).sec ∧ (st.getD (Int.toNat 0) { sec := 0, dir := 0 }).sec < L.secs.length := by
  obtain ⟨x, y, _⟩ := ok_dir (all_at (i := 0) r6 (by omega))
  exact ⟨x, y⟩
 have hsec : (i : Int) < st.length - ov → (0 ≤ ((st.take ((st.length : Int) - ov).toNat).getD (i : Int).toNat { sec := 0, dir := 0 }).sec ∧ ((st.take ((st.length : Int) - ov).toNat).getD (i : Int).toNat { sec := 0, dir := 0 }).sec < L.secs.length) ∧ (1 ≤ (L.secs.getD ((st.take ((st.length : Int) - ov).toNat).getD (i : Int).toNat { sec := 0, dir := 0 }).sec.toNat sec0).len ∧ (L.secs.getD ((st.take ((st.length : Int) - ov).toNat).getD (i : Int).toNat { sec := 0, dir := 0 }).sec.toNat sec0).len < 512) ∧ (-40 ≤ (L.secs.getD ((st.take ((st.length : Int) - ov).toNat).getD (i : Int).toNat { sec := 0, dir := 0 }).sec.toNat sec0).grd ∧ (L.secs.getD ((st.take ((st.length : Int) - ov).toNat).getD (i : Int).toNat { sec := 0, dir := 0 }).sec.toNat sec0).grd ≤ 40) := fun h => by
  rw [hg h]
  obtain ⟨x, y, _⟩ := ok_dir (all_at (i := i) r6 (by omega))
  rw [Int.toNat_natCast]
  have h2 := secB_of (sec_of hV (i := (st.getD i st0).sec.toNat) (by omega))
  exact ⟨⟨x, y⟩, ⟨h2.1, Int.lt_of_le_of_lt h2.2.1 (by decide)⟩, h2.2.2.2.2.1, h2.2.2.2.2.2.1⟩
 generalize hT : (st.take ((st.length : Int) - ov).toNat).getD (i : Int).toNat { sec := 0, dir := 0 } = t at *
 by_cases hlt : (i : Int) < st.length - ov
 ·have hX1 := repeat_ok (L.secs.getD t.sec.toNat sec0).lim (-(L.secs.getD t.sec.toNat sec0).grd) (L.secs.getD t.sec.toNat sec0).len (hsec hlt).2.1.1 (hsec hlt).2.1.2
  have hX2 := repeat_ok (L.secs.getD t.sec.toNat sec0).lim (L.secs.getD t.sec.toNat sec0).grd (L.secs.getD t.sec.toNat sec0).len (hsec hlt).2.1.1 (hsec hlt).2.1.2
  subst hT
  repeat' (first
   |with_reducible (first|refine q_and ?_ ?_|exact True.intro|exact TkEq.nil _|refine Red.o (by constructor) ?_|refine blockK_o' rfl ?_|refine LoopX_e' rfl ?_|assumption)
   |((with_reducible apply q_call);first|refine X_pure (hX1) rfl ?_|refine X_pure (hX2) rfl ?_)
   |((with_reducible apply q_CI);intro hbq;(try simp only [bq] at hbq);(try (exfalso;omega)))
   |refine Rex.o (by (with_reducible constructor);apply Eq.refl) ?_
   |(intro (hgq : (_ : Bool) = true);(try simp only [bq] at hgq))
   |(intro (hgq : (_ : Bool) = false);(try simp only [bq] at hgq))
   |((with_reducible apply q_VOk);exact fun _ => ⟨rfl,rfl⟩)|(intro _;exact rfl)|((with_reducible apply q_CRB);kernel_rfl)|((with_reducible apply q_bt);simp only [bq])|((with_reducible apply q_eqN);rfl)|((with_reducible apply q_FE);exact rfl)|with_reducible (first|exact isByte_wrap _|exact isByte_nat _)|(simp only [hgq,bq];done)|omega|(dsimp only;omega))
  all_goals (try (exfalso; omega))
  all_goals (try (rw [List.length_replicate]; have := (hsec hlt).2.1; omega))
  ·generalize hSA : secA L (st.getD i st0) = SA
   have hc : celsOf L (st.getD i st0) = List.replicate SA.len.toNat (SA.lim, (-(SA).grd)) := by
    unfold celsOf celOf
    rw [if_pos (by rw [hg hlt, Int.toNat_natCast] at hbq; exact hbq), hSA]
   rw [hg hlt, Int.toNat_natCast]
   refine LoopK_n (i + 1) ?_ ((by omega)) (by (try dsimp only); omega)
   refine X_weak rfl rfl rfl ?_ ?_ <;> repeat' (first|with_reducible (first|refine Wk.o (by constructor) ?_|refine q_and ?_ ?_|exact True.intro)|refine q_AgS rfl ?_ ?_|exact CLe.nil_tipS|exact CLe.nil_rowS|refine HLe.cells ?_ ?_|refine HLe.els ?_ ?_|refine SLe.cons ?_ ?_|exact (rfl : known _ = _)|with_reducible rfl|omega)
   all_goals (rw [celL_snoc L (by omega), hc]; unfold secA at hSA; rw [hSA]; simp)
  ·generalize hSA : secA L (st.getD i st0) = SA
   have hc : celsOf L (st.getD i st0) = List.replicate SA.len.toNat (SA.lim, (SA).grd) := by
    unfold celsOf celOf
    rw [if_neg (by rw [hg hlt, Int.toNat_natCast] at hbq; exact hbq), hSA]
   rw [hg hlt, Int.toNat_natCast]
   refine LoopK_n (i + 1) ?_ ((by omega)) (by (try dsimp only); omega)
   refine X_weak rfl rfl rfl ?_ ?_ <;> repeat' (first|with_reducible (first|refine Wk.o (by constructor) ?_|refine q_and ?_ ?_|exact True.intro)|refine q_AgS rfl ?_ ?_|exact CLe.nil_tipS|exact CLe.nil_rowS|refine HLe.cells ?_ ?_|refine HLe.els ?_ ?_|refine SLe.cons ?_ ?_|exact (rfl : known _ = _)|with_reducible rfl|omega)
   all_goals (rw [celL_snoc L (by omega), hc]; unfold secA at hSA; rw [hSA]; simp)
 ·subst hT
  repeat' (first
   |with_reducible (first|refine q_and ?_ ?_|exact True.intro|exact TkEq.nil _|refine Red.o (by constructor) ?_|refine blockK_o' rfl ?_|refine LoopX_e' rfl ?_|assumption)
   |((with_reducible apply q_CI);intro hbq;(try simp only [bq] at hbq);(try (exfalso;omega)))
   |refine Rex.o (by (with_reducible constructor);apply Eq.refl) ?_
   |(intro (hgq : (_ : Bool) = true);(try simp only [bq] at hgq))
   |(intro (hgq : (_ : Bool) = false);(try simp only [bq] at hgq))
   |((with_reducible apply q_VOk);exact fun _ => ⟨rfl,rfl⟩)|(intro _;exact rfl)|((with_reducible apply q_CRB);kernel_rfl)|((with_reducible apply q_bt);simp only [bq])|((with_reducible apply q_eqN);rfl)|((with_reducible apply q_FE);exact rfl)|with_reducible (first|exact isByte_wrap _|exact isByte_nat _)|(simp only [hgq,bq];done)|omega|(dsimp only;omega))
  all_goals (try (exfalso; omega))
  ·have hie : i = ((st.length : Int) - ov).toNat := by omega
   subst hie
   rw [celErr_7 (r := ⟨st, ov⟩) (by omega) (by unfold trv; simp only; omega)]; rfl
  ·have hie : i = ((st.length : Int) - ov).toNat := by omega
   subst hie
   rw [celErr_0 (r := ⟨st, ov⟩) (by omega) (by unfold trv; simp only; omega)]; rfl
end Go.Proofs.Ytalfibohepbhfaa.Av
namespace Go.Proofs.Ytalfibohepbhfaa.Pl
theorem tmod_of_neg (a b : Int) (ha : a < 0) (hb : 1 ≤ b) :
  -b < a.tmod b ∧ a.tmod b ≤ 0 ∧ (a.tmod b < 0 → a.tmod b + b = a % b) ∧ (¬ a.tmod b < 0 → a.tmod b = a % b) := by
 have h1 := Int.emod_nonneg a (show b ≠ 0 by omega)
 have h2 := Int.emod_lt_of_pos a (show 0 < b by omega)
 have h3 := Int.tmod_eq_emod (a := a) (b := b)
 by_cases hd : b ∣ a
 ·have h4 : a % b = 0 := Int.emod_eq_zero_of_dvd hd
  rw [if_pos (Or.inr hd)] at h3
  omega
 ·have h4 : a % b ≠ 0 := fun h => hd (Int.dvd_of_emod_eq_zero h)
  rw [if_neg (by rintro (h | h); omega; exact hd h)] at h3
  omega
theorem tdiv_of_neg (a b : Int) (ha : a < 0) (hb : 1 ≤ b) :
  a ≤ a.tdiv b ∧ a.tdiv b ≤ 0 ∧ (a.tmod b < 0 → a < a.tdiv b ∧ a.tdiv b - 1 = a / b) ∧ (¬ a.tmod b < 0 → a.tdiv b = a / b) := by
 have h1 := Int.emod_nonneg a (show b ≠ 0 by omega)
 have h2 := Int.emod_lt_of_pos a (show 0 < b by omega)
 have h3 := Int.tmod_eq_emod (a := a) (b := b)
 have h5 := Int.tdiv_eq_ediv (a := a) (b := b)
 have e6 : a.tdiv b = -((-a) / b) := by
  have : a.tdiv b = -((-a).tdiv b) := by rw [Int.neg_tdiv]; omega
  rw [this, Int.tdiv_eq_ediv_of_nonneg (by omega)]
 have h7 : (-a) / b * b + (-a) % b = -a := Int.ediv_mul_add_emod (-a) b
 have h8 := Int.emod_nonneg (-a) (show b ≠ 0 by omega)
 have h9 : 0 ≤ (-a) / b := Int.ediv_nonneg (by omega) (by omega)
 have h10 : (-a) / b ≤ -a := Int.ediv_le_self b (by omega)
 have hs : b.sign = 1 := Int.sign_eq_one_of_pos (by omega)
 by_cases hd : b ∣ a
 ·have h4 : a % b = 0 := Int.emod_eq_zero_of_dvd hd
  rw [if_pos (Or.inr hd)] at h3 h5
  omega
 ·have h4 : a % b ≠ 0 := fun h => hd (Int.dvd_of_emod_eq_zero h)
  rw [if_neg (by rintro (h | h); omega; exact hd h)] at h3 h5
  rw [hs] at h5
  refine ⟨by omega, by omega, fun _ => ⟨?_, by omega⟩, by omega⟩
  have hb2 : 2 ≤ b := by
   rcases Int.lt_or_le 1 b with h | h
   ·omega
   ·obtain rfl : b = 1 := by omega
    exact absurd (Int.one_dvd a) hd
  have h11 : (-a) / b * 2 ≤ (-a) / b * b := Int.mul_le_mul_of_nonneg_left hb2 h9
  omega
def cdiv (a b : Int) : Int := -((-a) / b)
theorem cdiv_pos (a b : Int) (ha : 0 ≤ a) (hb : 1 ≤ b) (h : 0 < a % b) : cdiv a b = a / b + 1 := by
 unfold cdiv
 have h7 : a / b * b + a % b = a := Int.ediv_mul_add_emod a b
 have h2 := Int.emod_lt_of_pos a (show 0 < b by omega)
 have : -a / b = -(a / b) - 1 := by
  have h8 : -a = (b - a % b) + (-(a / b) - 1) * b := by rw [Int.sub_mul, Int.neg_mul]; omega
  rw [h8, Int.add_mul_ediv_right _ _ (by omega), Int.ediv_eq_zero_of_lt (by omega) (by omega)]
  omega
 omega
theorem cdiv_zero (a b : Int) (hb : 1 ≤ b) (h : a % b = 0) : cdiv a b = a / b := by
 unfold cdiv
 rw [Int.neg_ediv_of_dvd (Int.dvd_of_emod_eq_zero h)]; omega
theorem cdiv_neg (a b : Int) (ha : a < 0) (hb : 1 ≤ b) : cdiv a b = a.tdiv b := by
 unfold cdiv
 have : a.tdiv b = -((-a).tdiv b) := by rw [Int.neg_tdiv]; omega
 rw [this, Int.tdiv_eq_ediv_of_nonneg (by omega)]
theorem cdiv_bracket (a b : Int) (hb : 1 ≤ b) : a ≤ cdiv a b * b ∧ cdiv a b * b < a + b := by
 unfold cdiv
 have h7 : (-a) / b * b + (-a) % b = -a := Int.ediv_mul_add_emod (-a) b
 have h2 := Int.emod_lt_of_pos (-a) (show 0 < b by omega)
 have h1 := Int.emod_nonneg (-a) (show b ≠ 0 by omega)
 rw [Int.neg_mul]; omega
theorem ediv_le_self' (a b : Int) (ha : 0 ≤ a) (hb : 1 ≤ b) : 0 ≤ a / b ∧ a / b ≤ a := by
 exact ⟨Int.ediv_nonneg ha (by omega), Int.ediv_le_self b ha⟩
def isqrt : Nat → Nat
 | 0 => 0
 | n + 1 => if (isqrt n + 1) * (isqrt n + 1) ≤ n + 1 then isqrt n + 1 else isqrt n
theorem isqrt_spec (n : Nat) : isqrt n * isqrt n ≤ n ∧ n < (isqrt n + 1) * (isqrt n + 1) := by
 induction n with
 | zero => simp [isqrt]
 | succ n ih =>
  unfold isqrt
  split
  ·rename_i h
   refine ⟨h, ?_⟩
   have : (isqrt n + 1 + 1) * (isqrt n + 1 + 1) = (isqrt n + 1) * (isqrt n + 1) + 2 * (isqrt n + 1) + 1 := by
    simp [Nat.add_mul, Nat.mul_add]; omega
   omega
  ·omega
theorem isqrt_unique (n r : Nat) (h1 : r * r ≤ n) (h2 : n < (r + 1) * (r + 1)) : r = isqrt n := by
 obtain ⟨h3, h4⟩ := isqrt_spec n
 rcases Nat.lt_trichotomy r (isqrt n) with h | h | h
 ·have := Nat.mul_le_mul (show r + 1 ≤ isqrt n by omega) (show r + 1 ≤ isqrt n by omega); omega
 ·exact h
 ·have := Nat.mul_le_mul (show isqrt n + 1 ≤ r by omega) (show isqrt n + 1 ≤ r by omega); omega
theorem isqrt_mono {m n : Nat} (h : m ≤ n) : isqrt m ≤ isqrt n := by
 obtain ⟨h1, h2⟩ := isqrt_spec m
 obtain ⟨h3, h4⟩ := isqrt_spec n
 rcases Nat.lt_or_ge (isqrt n) (isqrt m) with h5 | h5
 ·have := Nat.mul_le_mul (show isqrt n + 1 ≤ isqrt m by omega) (show isqrt n + 1 ≤ isqrt m by omega); omega
 ·exact h5
end Go.Proofs.Ytalfibohepbhfaa.Pl
namespace Go.Proofs.Ytalfibohepbhfaa
def chkB (l sp ac br : Int) : Bool := decide (1 ≤ l ∧ l ≤ 40 ∧ 1000 ≤ sp ∧ sp ≤ 100000 ∧ 100 ≤ ac ∧ ac ≤ 2000 ∧ 100 ≤ br ∧ br ≤ 2000)
theorem chk_of {l sp ac br : Int} (h : chkB l sp ac br = true) : 1 ≤ l ∧ l ≤ 40 ∧ 1000 ≤ sp ∧ sp ≤ 100000 ∧ 100 ≤ ac ∧ ac ≤ 2000 ∧ 100 ≤ br ∧ br ≤ 2000 := by
 simpa [chkB] using h
def gainOf (g ac : Int) : Int := 20000 * (if 0 < g then max 50 (ac - 10 * g) else ac)
def lossOf (g br : Int) : Int := 20000 * (if g < 0 then max 50 (br + 10 * g) else br)
def cellB (c : Int × Int) : Bool := decide (1000 ≤ c.1 ∧ c.1 ≤ 100000 ∧ -40 ≤ c.2 ∧ c.2 ≤ 40)
theorem cell_of {c : Int × Int} (h : cellB c = true) : 1000 ≤ c.1 ∧ c.1 ≤ 100000 ∧ -40 ≤ c.2 ∧ c.2 ≤ 40 := by simpa [cellB] using h
theorem gain_range (g ac : Int) (h5 : 100 ≤ ac) (h6 : ac ≤ 2000) : 1000000 ≤ gainOf g ac ∧ gainOf g ac ≤ 40000000 := by unfold gainOf; split <;> omega
theorem loss_range (g br : Int) (h5 : 100 ≤ br) (h6 : br ≤ 2000) : 1000000 ≤ lossOf g br ∧ lossOf g br ≤ 40000000 := by unfold lossOf; split <;> omega
theorem getD_at {α : Type} (cs : List α) (d : α) {k : Nat} (h : k < cs.length) : cs.getD k d = cs[k] := by simp [List.getD, h]
def badRun (cs : List (Int × Int)) (start l sp ac br : Int) : Int :=
 if chkB l sp ac br = false then 1 else if 4000 < cs.length then 7 else if cs.all cellB = false then 4 else if start < 0 ∨ (cs.length : Int) - 2 < start then 4 else 0
def limitOf (cs : List (Int × Int)) (k l : Nat) (sp : Int) : Int := ((cs.take (k + 1)).drop (k - l)).foldl (fun m c => min m c.1) sp
def limTo (cs : List (Int × Int)) (lo j : Nat) (sp : Int) : Int := ((cs.drop lo).take j).foldl (fun m c => min m c.1) sp
theorem limTo_zero (cs : List (Int × Int)) (lo : Nat) (sp : Int) : limTo cs lo 0 sp = sp := by simp [limTo]
theorem limTo_succ (cs : List (Int × Int)) (lo j : Nat) (sp : Int) (h : lo + j < cs.length) : limTo cs lo (j + 1) sp = min (limTo cs lo j sp) (cs[lo + j]).1 := by
 unfold limTo
 rw [List.take_succ_eq_append_getElem (by simp; omega), List.foldl_append]
 simp
theorem limTo_all (cs : List (Int × Int)) (k l : Nat) (sp : Int) : limTo cs (k - l) (k + 1 - (k - l)) sp = limitOf cs k l sp := by
 unfold limTo limitOf
 rw [List.drop_take]
def fwd (cs : List (Int × Int)) (start l : Nat) (sp ac : Int) : Nat → Int
 | 0 => 0
 | j + 1 => min (min (limitOf cs (start + j) l sp) (limitOf cs (start + j + 1) l sp) * min (limitOf cs (start + j) l sp) (limitOf cs (start + j + 1) l sp)) (fwd cs start l sp ac j + gainOf (cs.getD (start + j) (0, 0)).2 ac)
def bwd (cs : List (Int × Int)) (start l : Nat) (sp ac br : Int) : Nat → Int
 | 0 => 0
 | d + 1 => min (fwd cs start l sp ac (cs.length - start - (d + 1))) (bwd cs start l sp ac br d + lossOf (cs.getD (cs.length - (d + 1)) (0, 0)).2 br)
def sqW (cs : List (Int × Int)) (start l : Nat) (sp ac br : Int) (j : Nat) : Int := if j = 0 then 0 else bwd cs start l sp ac br (cs.length - start - j)
theorem foldl_min_range (L : List (Int × Int)) (sp lo hi : Int) (h1 : lo ≤ sp) (h2 : sp ≤ hi) (h : ∀ c ∈ L, lo ≤ c.1) : lo ≤ L.foldl (fun m c => min m c.1) sp ∧ L.foldl (fun m c => min m c.1) sp ≤ sp := by
 induction L generalizing sp with
 | nil => exact ⟨h1, Int.le_refl _⟩
 | cons c L ih =>
  have hc := h c (List.mem_cons_self ..)
  have := ih (min sp c.1) (by omega) (by omega) (fun d hd => h d (List.mem_cons_of_mem _ hd))
  simp only [List.foldl_cons]
  omega
theorem limit_range (cs : List (Int × Int)) (k l : Nat) (sp : Int) (h1 : 1000 ≤ sp) (h : cs.all cellB = true) : 1000 ≤ limitOf cs k l sp ∧ limitOf cs k l sp ≤ sp :=
 foldl_min_range _ sp 1000 sp h1 (Int.le_refl _) (fun c hc => (cell_of (List.all_eq_true.1 h c (List.mem_of_mem_take (List.mem_of_mem_drop hc)))).1)
theorem sq_range (x y : Int) (hx : 1000 ≤ x) (hx' : x ≤ 100000) (hy : 1000 ≤ y) (hy' : y ≤ 100000) : 1000000 ≤ min x y * min x y ∧ min x y * min x y ≤ 10000000000 := by
 have h1 : 1000 ≤ min x y := by omega
 have h2 : min x y ≤ 100000 := by omega
 have a := Int.mul_le_mul h1 h1 (by omega) (by omega)
 have b := Int.mul_le_mul h2 h2 (by omega) (by omega)
 omega
theorem fwd_range (cs : List (Int × Int)) (start l : Nat) (sp ac : Int) (h1 : 1000 ≤ sp) (h2 : sp ≤ 100000) (h3 : 100 ≤ ac) (h4 : ac ≤ 2000) (h : cs.all cellB = true) (j : Nat) :
  0 ≤ fwd cs start l sp ac j ∧ fwd cs start l sp ac j ≤ 10000000000 ∧ (0 < j → 1000000 ≤ fwd cs start l sp ac j) := by
 induction j with
 | zero => simp [fwd]
 | succ j ih =>
  have a := limit_range cs (start + j) l sp h1 h
  have b := limit_range cs (start + j + 1) l sp h1 h
  have c := sq_range (limitOf cs (start + j) l sp) (limitOf cs (start + j + 1) l sp) (by omega) (by omega) (by omega) (by omega)
  have d := gain_range (cs.getD (start + j) (0, 0)).2 ac h3 h4
  simp only [fwd]
  omega
theorem bwd_range (cs : List (Int × Int)) (start l : Nat) (sp ac br : Int) (h1 : 1000 ≤ sp) (h2 : sp ≤ 100000) (h3 : 100 ≤ ac) (h4 : ac ≤ 2000) (h5 : 100 ≤ br) (h6 : br ≤ 2000) (h : cs.all cellB = true) (d : Nat) :
  0 ≤ bwd cs start l sp ac br d ∧ bwd cs start l sp ac br d ≤ 10000000000 ∧ (0 < d → d < cs.length - start → 1000000 ≤ bwd cs start l sp ac br d) := by
 induction d with
 | zero => simp [bwd]
 | succ d ih =>
  have a := fwd_range cs start l sp ac h1 h2 h3 h4 h (cs.length - start - (d + 1))
  have c := loss_range (cs.getD (cs.length - (d + 1)) (0, 0)).2 br h5 h6
  simp only [bwd]
  refine ⟨by omega, by omega, fun _ hd => ?_⟩
  have := a.2.2 (by omega)
  omega
def spd (cs : List (Int × Int)) (start l : Nat) (sp ac br : Int) (j : Nat) : Nat := Pl.isqrt (sqW cs start l sp ac br j).toNat
def tim (cs : List (Int × Int)) (start l : Nat) (sp ac br : Int) : Nat → Int
 | 0 => 0
 | j + 1 => tim cs start l sp ac br j + Pl.cdiv 20000000 ((spd cs start l sp ac br j : Int) + spd cs start l sp ac br (j + 1))
theorem bad_zero {cs : List (Int × Int)} {start l sp ac br : Int} (h : badRun cs start l sp ac br = 0) :
  chkB l sp ac br = true ∧ cs.length ≤ 4000 ∧ cs.all cellB = true ∧ 0 ≤ start ∧ start + 2 ≤ cs.length := by
 unfold badRun at h
 by_cases h1 : chkB l sp ac br = false
 ·rw [if_pos h1] at h; omega
 ·rw [if_neg h1] at h
  by_cases h2 : 4000 < cs.length
  ·rw [if_pos h2] at h; omega
  ·rw [if_neg h2] at h
   by_cases h3 : cs.all cellB = false
   ·rw [if_pos h3] at h; omega
   ·rw [if_neg h3] at h
    by_cases h4 : start < 0 ∨ (cs.length : Int) - 2 < start
    ·rw [if_pos h4] at h; omega
    ·exact ⟨by simpa using h1, by omega, by simpa using h3, by omega, by omega⟩
section
variable {cs : List (Int × Int)} {start l : Nat} {sp ac br : Int} (h1 : 1000 ≤ sp) (h2 : sp ≤ 100000) (h3 : 100 ≤ ac) (h4 : ac ≤ 2000) (h5 : 100 ≤ br) (h6 : br ≤ 2000) (h : cs.all cellB = true)
include h1 h2 h3 h4 h5 h6 h
theorem sqW_range (j : Nat) : 0 ≤ sqW cs start l sp ac br j ∧ sqW cs start l sp ac br j ≤ 10000000000 ∧ (0 < j → j < cs.length - start → 1000000 ≤ sqW cs start l sp ac br j) := by
 unfold sqW
 by_cases hj : j = 0
 ·rw [if_pos hj]; omega
 ·rw [if_neg hj]
  have := bwd_range cs start l sp ac br h1 h2 h3 h4 h5 h6 h (cs.length - start - j)
  exact ⟨this.1, this.2.1, fun _ hlt => this.2.2 (by omega) (by omega)⟩
theorem spd_range (j : Nat) : spd cs start l sp ac br j ≤ 100000 ∧ (0 < j → j < cs.length - start → 1000 ≤ spd cs start l sp ac br j) := by
 have h0 := sqW_range (start := start) (l := l) h1 h2 h3 h4 h5 h6 h j
 unfold spd
 constructor
 ·have := Pl.isqrt_mono (show (sqW cs start l sp ac br j).toNat ≤ 10000000000 by omega)
  have e := Pl.isqrt_unique 10000000000 100000 (by omega) (by omega)
  omega
 ·intro hj hlt
  have := Pl.isqrt_mono (show 1000000 ≤ (sqW cs start l sp ac br j).toNat by have := h0.2.2 hj hlt; omega)
  have e := Pl.isqrt_unique 1000000 1000 (by omega) (by omega)
  omega
theorem spd_sum (hst : start + 2 ≤ cs.length) (j : Nat) (hj : j < cs.length - start) : 1000 ≤ spd cs start l sp ac br j + spd cs start l sp ac br (j + 1) ∧ spd cs start l sp ac br j + spd cs start l sp ac br (j + 1) ≤ 200000 := by
 have a := spd_range (start := start) (l := l) h1 h2 h3 h4 h5 h6 h j
 have b := spd_range (start := start) (l := l) h1 h2 h3 h4 h5 h6 h (j + 1)
 refine ⟨?_, by omega⟩
 by_cases h0 : 0 < j
 ·have := a.2 h0 hj; omega
 ·have := b.2 (by omega) (by omega); omega
theorem step_range (hst : start + 2 ≤ cs.length) (j : Nat) (hj : j < cs.length - start) : 100 ≤ Pl.cdiv 20000000 ((spd cs start l sp ac br j : Int) + spd cs start l sp ac br (j + 1)) ∧ Pl.cdiv 20000000 ((spd cs start l sp ac br j : Int) + spd cs start l sp ac br (j + 1)) ≤ 20000 := by
 have a := spd_sum (start := start) (l := l) h1 h2 h3 h4 h5 h6 h hst j hj
 obtain ⟨b, c⟩ := Pl.cdiv_bracket 20000000 ((spd cs start l sp ac br j : Int) + spd cs start l sp ac br (j + 1)) (by omega)
 generalize Pl.cdiv 20000000 ((spd cs start l sp ac br j : Int) + spd cs start l sp ac br (j + 1)) = q at *
 generalize hs : (spd cs start l sp ac br j : Int) + spd cs start l sp ac br (j + 1) = s at *
 have hs1 : 1000 ≤ s := by omega
 have hs2 : s ≤ 200000 := by omega
 constructor
 ·rcases Int.lt_or_le q 100 with hq | hq
  ·rcases Int.lt_or_le q 0 with h0 | h0
   ·have := Int.mul_neg_of_neg_of_pos h0 (show 0 < s by omega); omega
   ·have := Int.mul_le_mul (show q ≤ 99 by omega) hs2 (by omega) (by omega); omega
  ·exact hq
 ·rcases Int.lt_or_le 20000 q with hq | hq
  ·have : 20001 * s ≤ q * s := Int.mul_le_mul_of_nonneg_right (by omega) (by omega)
   omega
  ·exact hq
theorem tim_range (hst : start + 2 ≤ cs.length) (j : Nat) (hj : j ≤ cs.length - start) : 100 * (j : Int) ≤ tim cs start l sp ac br j ∧ tim cs start l sp ac br j ≤ 20000 * (j : Int) := by
 induction j with
 | zero => simp [tim]
 | succ j ih =>
  have a := ih (by omega)
  have b := step_range (start := start) (l := l) h1 h2 h3 h4 h5 h6 h hst j (by omega)
  simp only [tim]
  omega
end
section
variable {cs : List (Int × Int)} {start l : Nat} {sp ac br : Int} (h1 : 1000 ≤ sp) (h2 : sp ≤ 100000) (h3 : 100 ≤ ac) (h4 : ac ≤ 2000) (h5 : 100 ≤ br) (h6 : br ≤ 2000) (h : cs.all cellB = true)
theorem sqW_zero : sqW cs start l sp ac br 0 = 0 := by simp [sqW]
theorem sqW_end (hm : 0 < cs.length - start) : sqW cs start l sp ac br (cs.length - start) = 0 := by
 unfold sqW; rw [if_neg (by omega), Nat.sub_self]; rfl
theorem sqW_mid (j : Nat) (hj : 0 < j) (hj2 : j < cs.length - start) : sqW cs start l sp ac br j = min (fwd cs start l sp ac j) (sqW cs start l sp ac br (j + 1) + lossOf (cs.getD (start + j) (0, 0)).2 br) := by
 unfold sqW
 rw [if_neg (by omega), if_neg (by omega), show cs.length - start - j = (cs.length - start - (j + 1)) + 1 by omega]
 simp only [bwd]
 rw [show cs.length - start - (cs.length - start - (j + 1) + 1) = j by omega, show cs.length - (cs.length - start - (j + 1) + 1) = start + j by omega]
include h1 h2 h3 h4 h in
include h1 h2 h3 h4 h5 h6 h in
include h1 h2 h3 h4 h5 h6 h in
include h1 h2 h3 h4 h5 h6 h in
end
def lsq (cs : List (Int × Int)) (start l : Nat) (sp : Int) (j : Nat) : Int :=
 min (limitOf cs (start + j - 1) l sp) (limitOf cs (start + j) l sp) * min (limitOf cs (start + j - 1) l sp) (limitOf cs (start + j) l sp)
def iniW (cs : List (Int × Int)) (start l : Nat) (sp : Int) (k j : Nat) : Int := if 0 < j ∧ j < k then lsq cs start l sp j else 0
def fwW (cs : List (Int × Int)) (start l : Nat) (sp ac : Int) (j : Nat) : Int := if j < cs.length - start then fwd cs start l sp ac j else 0
def rate (g ac : Int) : Int := if 0 < g then max 50 (ac - 10 * g) else ac
def rateB (g br : Int) : Int := if g < 0 then max 50 (br + 10 * g) else br
theorem gain_rate (g ac : Int) : gainOf g ac = 20000 * rate g ac := rfl
theorem loss_rate (g br : Int) : lossOf g br = 20000 * rateB g br := rfl
section
variable {cs : List (Int × Int)} {start l : Nat} {sp ac br : Int} (h1 : 1000 ≤ sp) (h2 : sp ≤ 100000) (h3 : 100 ≤ ac) (h4 : ac ≤ 2000) (h5 : 100 ≤ br) (h6 : br ≤ 2000) (h : cs.all cellB = true)
include h1 h2 h in
theorem lsq_range (j : Nat) : 1000000 ≤ lsq cs start l sp j ∧ lsq cs start l sp j ≤ 10000000000 := by
 have a := limit_range cs (start + j - 1) l sp h1 h
 have b := limit_range cs (start + j) l sp h1 h
 exact sq_range _ _ a.1 (by omega) b.1 (by omega)
include h1 h2 h in
theorem ini_range (k j : Nat) : 0 ≤ iniW cs start l sp k j ∧ iniW cs start l sp k j ≤ 10000000000 := by
 have := lsq_range (start := start) (l := l) h1 h2 h j
 unfold iniW
 split <;> omega
include h1 h2 h3 h4 h in
theorem fwW_range (j : Nat) : 0 ≤ fwW cs start l sp ac j ∧ fwW cs start l sp ac j ≤ 10000000000 := by
 have := fwd_range cs start l sp ac h1 h2 h3 h4 h j
 unfold fwW
 split <;> omega
include h1 h2 h3 h4 h in
theorem fwW_step (k : Nat) (hk : k < cs.length - start) : min (iniW cs start l sp (cs.length - start) (k + 1)) (fwW cs start l sp ac k + gainOf (cs.getD (start + k) (0, 0)).2 ac) = fwW cs start l sp ac (k + 1) := by
 have hf := (fwW_range (start := start) (l := l) h1 h2 h3 h4 h k).1
 have hg := (gain_range (cs.getD (start + k) (0, 0)).2 ac h3 h4).1
 by_cases e : k + 1 < cs.length - start
 ·have e1 : fwW cs start l sp ac (k + 1) = fwd cs start l sp ac (k + 1) := if_pos e
  have e2 : fwW cs start l sp ac k = fwd cs start l sp ac k := if_pos hk
  have e3 : iniW cs start l sp (cs.length - start) (k + 1) = lsq cs start l sp (k + 1) := if_pos ⟨by omega, e⟩
  rw [e1, e2, e3]
  simp only [fwd, lsq]
  rw [show start + (k + 1) - 1 = start + k by omega, show start + (k + 1) = start + k + 1 by omega]
 ·have e1 : fwW cs start l sp ac (k + 1) = 0 := if_neg e
  have e3 : iniW cs start l sp (cs.length - start) (k + 1) = 0 := if_neg (by omega)
  rw [e1, e3]
  omega
include h1 h2 h3 h4 h5 h6 h in
theorem sqW_step (k : Nat) (hk : k < cs.length - start) : min (fwW cs start l sp ac k) (sqW cs start l sp ac br (k + 1) + lossOf (cs.getD (start + k) (0, 0)).2 br) = sqW cs start l sp ac br k := by
 have hs := (sqW_range (start := start) (l := l) h1 h2 h3 h4 h5 h6 h (k + 1)).1
 have hg := (loss_range (cs.getD (start + k) (0, 0)).2 br h5 h6).1
 have e2 : fwW cs start l sp ac k = fwd cs start l sp ac k := if_pos hk
 by_cases h0 : k = 0
 ·subst h0
  have e3 : fwd cs start l sp ac 0 = 0 := rfl
  rw [sqW_zero, e2, e3]; omega
 ·rw [sqW_mid k (by omega) hk, e2]
end
end Go.Proofs.Ytalfibohepbhfaa
namespace Go.Proofs.Ytalfibohepbhfaa.Av
abbrev vS5 (nm : ByteArray) (l sp ac br : Int) : SV := .agg [xS nm, xI l, xI sp, xI ac, xI br]
abbrev bS5 (nm : ByteArray) (l sp ac br : Int) : Option SB := some (.cells [xS nm, xI l, xI sp, xI ac, xI br])
abbrev vCe (c : Int × Int) : SV := .agg [xI c.1, xI c.2]
theorem chk_bb (l sp ac br : Int) : chkB l sp ac br = (decide (1 ≤ l) && decide (l ≤ 40) && decide (1000 ≤ sp) && decide (sp ≤ 100000) && decide (100 ≤ ac) && decide (ac ≤ 2000) && decide (100 ≤ br) && decide (br ≤ 2000)) := by
 rw [Bool.eq_iff_iff]
 simp [chkB, and_assoc]
section
variable {cs : List (Int × Int)} {start l sp ac br : Int}
theorem bad_1 (h : ¬ chkB l sp ac br = true) : badRun cs start l sp ac br = 1 := if_pos (by simpa using h)
theorem bad_7 (h : chkB l sp ac br = true) (h2 : 4000 < cs.length) : badRun cs start l sp ac br = 7 := by unfold badRun; rw [if_neg (by rw [h]; decide), if_pos h2]
theorem bad_4 (h : chkB l sp ac br = true) (h2 : ¬ 4000 < cs.length) (h3 : cs.all cellB = false) : badRun cs start l sp ac br = 4 := by unfold badRun; rw [if_neg (by rw [h]; decide), if_neg h2, if_pos h3]
theorem bad_4s (h : chkB l sp ac br = true) (h2 : ¬ 4000 < cs.length) (h3 : cs.all cellB = true) (h4 : start < 0 ∨ (cs.length : Int) - 2 < start) : badRun cs start l sp ac br = 4 := by unfold badRun; rw [if_neg (by rw [h]; decide), if_neg h2, if_neg (by rw [h3]; decide), if_pos h4]
theorem bad_0 (h : chkB l sp ac br = true) (h2 : ¬ 4000 < cs.length) (h3 : cs.all cellB = true) (h4 : ¬ (start < 0 ∨ (cs.length : Int) - 2 < start)) : badRun cs start l sp ac br = 0 := by unfold badRun; rw [if_neg (by rw [h]; decide), if_neg h2, if_neg (by rw [h3]; decide), if_neg h4]
theorem cells_no {p : Int × Int → Bool} {i : Nat} (hi : i < cs.length) (h : p (cs.getD i (0, 0)) = false) : cs.all p = false := by
 rw [List.getD_eq_getElem?_getD, List.getElem?_eq_getElem hi] at h
 rw [Bool.eq_false_iff]
 intro ha
 have := List.all_eq_true.1 ha _ (List.getElem_mem hi)
 rw [show (some cs[i]).getD (0, 0) = cs[i] from rfl, this] at h
 cases h
theorem cells_yes {p : Int × Int → Bool} (h : ∀ j, j < cs.length → p (cs.getD j (0, 0)) = true) : cs.all p = true := by
 rw [List.all_eq_true]
 intro x hx
 obtain ⟨i, hi, rfl⟩ := List.mem_iff_getElem.1 hx
 have := h i hi
 rwa [List.getD_eq_getElem?_getD, List.getElem?_eq_getElem hi] at this
end
theorem uptoS {q : Nat → Prop} {i : Nat} (h : ∀ j, j < i → q j) (hi : q i) : ∀ j, j < i + 1 → q j := fun j hj => by
 rcases Nat.lt_succ_iff_lt_or_eq.1 hj with h1 | h1
 ·exact h j h1
 ·exact h1 ▸ hi
theorem foldl_snoc {α β : Type} {f : β → α → β} {b : β} {l : List α} {i : Nat} {d : α} (h : i < l.length) : (l.take (i + 1)).foldl f b = f ((l.take i).foldl f b) (l.getD i d) := by
 rw [List.take_succ_eq_append_getElem h, List.foldl_append, List.getD_eq_getElem?_getD, List.getElem?_eq_getElem h]
 rfl
theorem chk_ok (nm : ByteArray) (l sp ac br : Int) : OkV Try.prog 64 [vS5 nm l sp ac br] [] (vB (chkB l sp ac br)) [] := by
 rw [chk_bb]
 refine X_fn mixedX Try.func64 rfl (by kernel_rfl) (Nat.le_of_ble_eq_true (by kernel_rfl)) (by kernel_rfl) rfl rfl (Nat.le_of_ble_eq_true rfl) rfl rfl ?_
 simp only [sl0, Nat.zero_add, Nat.reduceAdd]
 repeat' (first
  |with_reducible (first|refine q_and ?_ ?_|exact True.intro|exact TkEq.nil _|refine Red.o (by constructor) ?_|refine blockK_o' rfl ?_|refine LoopX_e' rfl ?_|assumption)
  |((with_reducible apply q_CI);intro hbq;(try simp only [bq] at hbq);(try (exfalso;omega)))
  |refine Rex.o (by (with_reducible constructor);apply Eq.refl) ?_
  |(intro (hgq : (_ : Bool) = true);(try simp only [bq] at hgq))
  |(intro (hgq : (_ : Bool) = false);(try simp only [bq] at hgq))
  |((with_reducible apply q_VOk);exact fun _ => ⟨rfl,rfl⟩)|(intro _;exact rfl)|((with_reducible apply q_CRB);kernel_rfl)|((with_reducible apply q_bt);simp only [bq])|((with_reducible apply q_eqN);rfl)|((with_reducible apply q_FE);exact rfl)|with_reducible (first|exact isByte_wrap _|exact isByte_nat _)|(simp only [hgq,bq];done)|omega|(dsimp only;omega))
 repeat' (first|with_reducible (first|refine Wk.o (by constructor) ?_|refine q_and ?_ ?_|exact True.intro)|refine VEq.c ?_|refine VEq.agg ?_|refine VEq.tup ?_|refine TkEq.cells ?_ ?_|refine TkEq.els ?_ ?_|refine SEqL.cons ?_ ?_|refine TEqL.agg ?_ ?_|refine CEq.rows ?_|refine CEq.int ?_|rfl|omega)
theorem checkRun_ok (cs : List (Int × Int)) (start : Int) (nm : ByteArray) (l sp ac br : Int) (hl : cs.length ≤ 4611686018427387904) : OkV Try.prog 83 [.c (rCell cs), .c (xI start), vS5 nm l sp ac br] [] (vI (badRun cs start l sp ac br)) [] := by
 have hC := chk_ok nm l sp ac br
 refine X_fn mixedX Try.func83 rfl (by kernel_rfl) (Nat.le_of_ble_eq_true (by kernel_rfl)) (by kernel_rfl) rfl rfl (Nat.le_of_ble_eq_true rfl) rfl rfl ?_
 simp only [sl0, Nat.zero_add, Nat.reduceAdd]
 repeat' (first
  |with_reducible (first|refine q_and ?_ ?_|exact True.intro|exact TkEq.nil _|refine Red.o (by constructor) ?_|refine blockK_o' rfl ?_|refine LoopX_e' rfl ?_|assumption)
  |((with_reducible apply q_call);refine X_pure (hC) rfl ?_)
  |((with_reducible apply q_CI);intro hbq;(try simp only [bq] at hbq);(try (exfalso;omega)))
  |refine Rex.o (by (with_reducible constructor);apply Eq.refl) ?_
  |(intro (hgq : (_ : Bool) = true);(try simp only [bq] at hgq))
  |(intro (hgq : (_ : Bool) = false);(try simp only [bq] at hgq))
  |((with_reducible apply q_VOk);exact fun _ => ⟨rfl,rfl⟩)|(intro _;exact rfl)|((with_reducible apply q_CRB);kernel_rfl)|((with_reducible apply q_bt);simp only [bq])|((with_reducible apply q_eqN);rfl)|((with_reducible apply q_FE);exact rfl)|with_reducible (first|exact isByte_wrap _|exact isByte_nat _)|(simp only [hgq,bq];done)|omega|(dsimp only;omega))
 ·rw [bad_1 (by simpa using hbq)]; rfl
 ·rename_i a1
  rw [bad_7 (by simpa using a1) (by omega)]; rfl
 rename_i a1
 clear hC
 have b1 : chkB l sp ac br = true := by simpa using a1
 have b2 : ¬ 4000 < cs.length := by omega
 refine W_loopS (fun i : Nat => SS [sC 0 (rCell cs), sI 1 start, sC 17 (rCell cs), sI 18 cs.length, sI 19 i] []) (fun i => i ≤ cs.length ∧ ∀ j, j < i → cellB (cs.getD j (0, 0)) = true) (fun i => cs.length - i) 0 ?_ ⟨by omega, fun j hj => by omega⟩ ?_
 ·
  refine X_weak rfl rfl rfl ?_ ?_ <;> repeat' (first|with_reducible (first|refine Wk.o (by constructor) ?_|refine q_and ?_ ?_|exact True.intro)|refine q_AgS rfl ?_ ?_|exact CLe.nil_tipS|exact CLe.nil_rowS|refine HLe.cells ?_ ?_|refine HLe.els ?_ ?_|refine SLe.cons ?_ ?_|exact (rfl : known _ = _)|with_reducible rfl|omega)
 intro i hi
 obtain ⟨hi, hok⟩ := hi
 repeat' (first
  |with_reducible (first|refine q_and ?_ ?_|exact True.intro|exact TkEq.nil _|refine Red.o (by constructor) ?_|refine blockK_o' rfl ?_|refine LoopX_e' rfl ?_|assumption)
  |((with_reducible apply q_CI);intro hbq;(try simp only [bq] at hbq);(try (exfalso;omega)))
  |refine Rex.o (by (with_reducible constructor);apply Eq.refl) ?_
  |(intro (hgq : (_ : Bool) = true);(try simp only [bq] at hgq))
  |(intro (hgq : (_ : Bool) = false);(try simp only [bq] at hgq))
  |((with_reducible apply q_VOk);exact fun _ => ⟨rfl,rfl⟩)|(intro _;exact rfl)|((with_reducible apply q_CRB);kernel_rfl)|((with_reducible apply q_bt);simp only [bq])|((with_reducible apply q_eqN);rfl)|((with_reducible apply q_FE);exact rfl)|with_reducible (first|exact isByte_wrap _|exact isByte_nat _)|(simp only [hgq,bq];done)|omega|(dsimp only;omega))
 ·have hb : cellB (cs.getD (i : Int).toNat (0, 0)) = false := by unfold cellB; rw [decide_eq_false_iff_not]; omega
  rw [bad_4 b1 b2 (cells_no (i := i) (by omega) hb)]; rfl
 ·have hb : cellB (cs.getD (i : Int).toNat (0, 0)) = true := by unfold cellB; rw [decide_eq_true_eq]; omega
  refine LoopK_n (i + 1) ?_ (⟨by omega, uptoS hok hb⟩) (by (try dsimp only); omega)
  refine X_weak rfl rfl rfl ?_ ?_ <;> repeat' (first|with_reducible (first|refine Wk.o (by constructor) ?_|refine q_and ?_ ?_|exact True.intro)|refine q_AgS rfl ?_ ?_|exact CLe.nil_tipS|exact CLe.nil_rowS|refine HLe.cells ?_ ?_|refine HLe.els ?_ ?_|refine SLe.cons ?_ ?_|exact (rfl : known _ = _)|with_reducible rfl|omega)
 ·have hie : i = cs.length := by omega
  subst hie
  rw [bad_4s b1 b2 (cells_yes hok) (by omega)]; rfl
 ·have hie : i = cs.length := by omega
  subst hie
  rw [bad_0 b1 b2 (cells_yes hok) (by omega)]; rfl
theorem limit_ok (cs : List (Int × Int)) (k : Nat) (nm : ByteArray) (l sp ac br : Int) (hk : k < cs.length) (hl : cs.length ≤ 4000) (h0 : 0 ≤ l) (h1 : l ≤ 40) : OkV Try.prog 95 [.c (rCell cs), .c (xI k), vS5 nm l sp ac br] [] (vI (limitOf cs k l.toNat sp)) [] := by
 refine X_fn mixedX Try.func95 rfl (by kernel_rfl) (Nat.le_of_ble_eq_true (by kernel_rfl)) (by kernel_rfl) rfl rfl (Nat.le_of_ble_eq_true rfl) rfl rfl ?_
 simp only [sl0, Nat.zero_add, Nat.reduceAdd]
 repeat' (first
  |with_reducible (first|refine q_and ?_ ?_|exact True.intro|exact TkEq.nil _|refine Red.o (by constructor) ?_|refine blockK_o' rfl ?_|refine LoopX_e' rfl ?_|assumption)
  |((with_reducible apply q_CI);intro hbq;(try simp only [bq] at hbq);(try (exfalso;omega)))
  |refine Rex.o (by (with_reducible constructor);apply Eq.refl) ?_
  |(intro (hgq : (_ : Bool) = true);(try simp only [bq] at hgq))
  |(intro (hgq : (_ : Bool) = false);(try simp only [bq] at hgq))
  |((with_reducible apply q_VOk);exact fun _ => ⟨rfl,rfl⟩)|(intro _;exact rfl)|((with_reducible apply q_CRB);kernel_rfl)|((with_reducible apply q_bt);simp only [bq])|((with_reducible apply q_eqN);rfl)|((with_reducible apply q_FE);exact rfl)|with_reducible (first|exact isByte_wrap _|exact isByte_nat _)|(simp only [hgq,bq];done)|omega|(dsimp only;omega))
 generalize hxs : (cs.drop (max 0 ((k : Int) - l)).toNat).take ((k : Int) + 1 - max 0 ((k : Int) - l)).toNat = xs
 have hxl : xs.length ≤ 4000 := by rw [← hxs, List.length_take, List.length_drop]; omega
 have hL : limitOf cs k l.toNat sp = xs.foldl (fun m c => min m c.1) sp := by
  rw [← limTo_all, ← hxs, show (max 0 ((k : Int) - l)).toNat = k - l.toNat by omega, show ((k : Int) + 1 - max 0 ((k : Int) - l)).toNat = k + 1 - (k - l.toNat) by omega]
  rfl
 rw [hL]
 clear hL hxs
 refine W_loopS (fun i : Nat => SS [sI 7 ((xs.take i).foldl (fun m c => min m c.1) sp), sC 20 (rCell xs), sI 21 xs.length, sI 22 i] []) (fun i => i ≤ xs.length) (fun i => xs.length - i) 0 ?_ (by omega) ?_
 ·
  refine X_weak rfl rfl rfl ?_ ?_ <;> repeat' (first|with_reducible (first|refine Wk.o (by constructor) ?_|refine q_and ?_ ?_|exact True.intro)|refine q_AgS rfl ?_ ?_|exact CLe.nil_tipS|exact CLe.nil_rowS|refine HLe.cells ?_ ?_|refine HLe.els ?_ ?_|refine SLe.cons ?_ ?_|exact (rfl : known _ = _)|with_reducible rfl|omega)
  all_goals rfl
 intro i hi
 repeat' (first
  |with_reducible (first|refine q_and ?_ ?_|exact True.intro|exact TkEq.nil _|refine Red.o (by constructor) ?_|refine blockK_o' rfl ?_|refine LoopX_e' rfl ?_|assumption)
  |((with_reducible apply q_CI);intro hbq;(try simp only [bq] at hbq);(try (exfalso;omega)))
  |refine Rex.o (by (with_reducible constructor);apply Eq.refl) ?_
  |(intro (hgq : (_ : Bool) = true);(try simp only [bq] at hgq))
  |(intro (hgq : (_ : Bool) = false);(try simp only [bq] at hgq))
  |((with_reducible apply q_VOk);exact fun _ => ⟨rfl,rfl⟩)|(intro _;exact rfl)|((with_reducible apply q_CRB);kernel_rfl)|((with_reducible apply q_bt);simp only [bq])|((with_reducible apply q_eqN);rfl)|((with_reducible apply q_FE);exact rfl)|with_reducible (first|exact isByte_wrap _|exact isByte_nat _)|(simp only [hgq,bq];done)|omega|(dsimp only;omega))
 ·
  refine LoopK_n (i + 1) ?_ ((by omega)) (by (try dsimp only); omega)
  refine X_weak rfl rfl rfl ?_ ?_ <;> repeat' (first|with_reducible (first|refine Wk.o (by constructor) ?_|refine q_and ?_ ?_|exact True.intro)|refine q_AgS rfl ?_ ?_|exact CLe.nil_tipS|exact CLe.nil_rowS|refine HLe.cells ?_ ?_|refine HLe.els ?_ ?_|refine SLe.cons ?_ ?_|exact (rfl : known _ = _)|with_reducible rfl|omega)
  all_goals (rw [foldl_snoc (d := (0, 0)) (by omega)]; rfl)
 ·have hie : i = xs.length := by omega
  subst hie
  rw [List.take_length]; rfl
theorem gain_ok (c : Int × Int) (nm : ByteArray) (l sp ac br : Int) (h0 : -40 ≤ c.2 ∧ c.2 ≤ 40) (h5 : 100 ≤ ac) (h6 : ac ≤ 2000) : OkV Try.prog 96 [vCe c, vS5 nm l sp ac br] [] (vI (gainOf c.2 ac)) [] := by
 unfold gainOf
 refine X_fn mixedX Try.func96 rfl (by kernel_rfl) (Nat.le_of_ble_eq_true (by kernel_rfl)) (by kernel_rfl) rfl rfl (Nat.le_of_ble_eq_true rfl) rfl rfl ?_
 simp only [sl0, Nat.zero_add, Nat.reduceAdd]
 repeat' (first
  |with_reducible (first|refine q_and ?_ ?_|exact True.intro|exact TkEq.nil _|refine Red.o (by constructor) ?_|refine blockK_o' rfl ?_|refine LoopX_e' rfl ?_|assumption)
  |((with_reducible apply q_CI);intro hbq;(try simp only [bq] at hbq);(try (exfalso;omega)))
  |refine Rex.o (by (with_reducible constructor);apply Eq.refl) ?_
  |(intro (hgq : (_ : Bool) = true);(try simp only [bq] at hgq))
  |(intro (hgq : (_ : Bool) = false);(try simp only [bq] at hgq))
  |((with_reducible apply q_VOk);exact fun _ => ⟨rfl,rfl⟩)|(intro _;exact rfl)|((with_reducible apply q_CRB);kernel_rfl)|((with_reducible apply q_bt);simp only [bq])|((with_reducible apply q_eqN);rfl)|((with_reducible apply q_FE);exact rfl)|with_reducible (first|exact isByte_wrap _|exact isByte_nat _)|(simp only [hgq,bq];done)|omega|(dsimp only;omega))
 ·rw [if_pos (by omega)]; rfl
 ·rw [if_neg (by omega)]; rfl
theorem loss_ok (c : Int × Int) (nm : ByteArray) (l sp ac br : Int) (h0 : -40 ≤ c.2 ∧ c.2 ≤ 40) (h5 : 100 ≤ br) (h6 : br ≤ 2000) : OkV Try.prog 97 [vCe c, vS5 nm l sp ac br] [] (vI (lossOf c.2 br)) [] := by
 unfold lossOf
 refine X_fn mixedX Try.func97 rfl (by kernel_rfl) (Nat.le_of_ble_eq_true (by kernel_rfl)) (by kernel_rfl) rfl rfl (Nat.le_of_ble_eq_true rfl) rfl rfl ?_
 simp only [sl0, Nat.zero_add, Nat.reduceAdd]
 repeat' (first
  |with_reducible (first|refine q_and ?_ ?_|exact True.intro|exact TkEq.nil _|refine Red.o (by constructor) ?_|refine blockK_o' rfl ?_|refine LoopX_e' rfl ?_|assumption)
  |((with_reducible apply q_CI);intro hbq;(try simp only [bq] at hbq);(try (exfalso;omega)))
  |refine Rex.o (by (with_reducible constructor);apply Eq.refl) ?_
  |(intro (hgq : (_ : Bool) = true);(try simp only [bq] at hgq))
  |(intro (hgq : (_ : Bool) = false);(try simp only [bq] at hgq))
  |((with_reducible apply q_VOk);exact fun _ => ⟨rfl,rfl⟩)|(intro _;exact rfl)|((with_reducible apply q_CRB);kernel_rfl)|((with_reducible apply q_bt);simp only [bq])|((with_reducible apply q_eqN);rfl)|((with_reducible apply q_FE);exact rfl)|with_reducible (first|exact isByte_wrap _|exact isByte_nat _)|(simp only [hgq,bq];done)|omega|(dsimp only;omega))
 ·rw [if_pos (by omega)]; rfl
 ·rw [if_neg (by omega)]; rfl
abbrev bInt (l : List Int) : Option SB := some (.els 1 fInt vInt mInt 0 l)
def row (n : Nat) (f : Nat → Int) : List Int := (List.range n).map f
theorem row_len (n : Nat) (f : Nat → Int) : (row n f).length = n := by simp [row]
theorem row_get {n : Nat} {f : Nat → Int} {i : Nat} (h : i < n) : (row n f).getD i 0 = f i := by simp [row, List.getD_eq_getElem?_getD, h]
theorem row_set {n : Nat} {f g : Nat → Int} {i : Nat} {x : Int} (hx : g i = x) (h : ∀ j, j < n → j ≠ i → g j = f j) : (row n f).set i x = row n g := by
 apply List.ext_getElem
 ·simp [row]
 ·intro j h1 h2
  have hj : j < n := by simpa [row] using h2
  rw [List.getElem_set]
  split
  ·rename_i e; subst e; simp [row, hx]
  ·rename_i e; simp only [row, List.getElem_map, List.getElem_range]; exact (h j hj (fun e' => e e'.symm)).symm
theorem row_ext {n : Nat} {f g : Nat → Int} (h : ∀ j, j < n → f j = g j) : row n f = row n g := by
 unfold row
 exact List.map_congr_left fun j hj => h j (List.mem_range.1 hj)
theorem row_zero (n : Nat) : List.replicate n (0 : Int) = row n fun _ => 0 := by
 apply List.ext_getElem
 ·simp [row]
 ·intro j h1 h2; simp [row]
theorem squares_ok (cs : List (Int × Int)) (s : Nat) (nm : ByteArray) (l sp ac br : Int) (h : badRun cs s l sp ac br = 0) : OkV Try.prog 84 [.c (rCell cs), .c (xI s), vS5 nm l sp ac br] [] (.c (.c (.arr 1 0 (cs.length - s + 1) (cs.length - s + 1)))) [bS5 nm l sp ac br, bInt (row (cs.length - s + 1) (sqW cs s l.toNat sp ac br))] := by
 obtain ⟨hc, hn, hall, h0, h2⟩ := bad_zero h
 obtain ⟨l1, l2, l3, l4, l5, l6, l7, l8⟩ := chk_of hc
 have hL := limit_ok cs s nm l sp ac br (by omega) hn (by omega) l2
 refine X_fn mixedX Try.func84 rfl (by kernel_rfl) (Nat.le_of_ble_eq_true (by kernel_rfl)) (by kernel_rfl) rfl rfl (Nat.le_of_ble_eq_true rfl) rfl rfl ?_
 simp only [sl0, Nat.zero_add, Nat.reduceAdd]
 repeat' (first
  |with_reducible (first|refine q_and ?_ ?_|exact True.intro|exact TkEq.nil _|refine Red.o (by constructor) ?_|refine blockK_o' rfl ?_|refine LoopX_e' rfl ?_|assumption)
  |((with_reducible apply q_call);refine X_pure (hL) rfl ?_)
  |((with_reducible apply q_CI);intro hbq;(try simp only [bq] at hbq);(try (exfalso;omega)))
  |refine Rex.o (by (with_reducible constructor);apply Eq.refl) ?_
  |(intro (hgq : (_ : Bool) = true);(try simp only [bq] at hgq))
  |(intro (hgq : (_ : Bool) = false);(try simp only [bq] at hgq))
  |((with_reducible apply q_VOk);exact fun _ => ⟨rfl,rfl⟩)|(intro _;exact rfl)|((with_reducible apply q_CRB);kernel_rfl)|((with_reducible apply q_bt);simp only [bq])|((with_reducible apply q_eqN);rfl)|((with_reducible apply q_FE);exact rfl)|with_reducible (first|exact isByte_wrap _|exact isByte_nat _)|(simp only [hgq,bq];done)|omega|(dsimp only;omega))
 clear hL
 have eN : ((cs.length : Int) - s + 1).toNat = cs.length - s + 1 := by omega
 refine W_loopS (fun i : Nat => SS [sC 0 (rCell cs), sI 1 s, sC 5 (pB 0), sI 7 cs.length, sC 8 (.c (.arr 1 0 (cs.length - s + 1) (cs.length - s + 1))), sI 9 (limitOf cs (s + i) l.toNat sp), sI 10 (s + i + 1 : Nat)] [bS5 nm l sp ac br, bInt (row (cs.length - s + 1) fun j => if j ≤ i then fwd cs s l.toNat sp ac j else 0)]) (fun i => s + i + 1 ≤ cs.length) (fun i => cs.length - i) 0 ?_ (by omega) ?_
 ·
  refine X_weak rfl rfl rfl ?_ ?_ <;> repeat' (first|with_reducible (first|refine Wk.o (by constructor) ?_|refine q_and ?_ ?_|exact True.intro)|refine q_AgS rfl ?_ ?_|exact CLe.nil_tipS|exact CLe.nil_rowS|refine HLe.cells ?_ ?_|refine HLe.els ?_ ?_|refine SLe.cons ?_ ?_|exact (rfl : known _ = _)|with_reducible rfl|omega)
  ·rw [eN, row_zero]
   refine row_ext fun j hj => ?_
   by_cases hj0 : j ≤ 0
   ·rw [if_pos hj0, show j = 0 by omega]; rfl
   ·rw [if_neg hj0]
  ·rfl
 intro i hi
 by_cases hlt : s + i + 1 < cs.length
 ·have hL := limit_ok cs (s + i + 1) nm l sp ac br hlt hn (by omega) l2
  have hce := cell_of (List.all_eq_true.1 hall _ (List.getElem_mem (show s + i < cs.length by omega)))
  have eg : cs.getD (((s + i + 1 : Nat) : Int) - 1).toNat (0, 0) = cs[s + i] := by
   rw [show (((s + i + 1 : Nat) : Int) - 1).toNat = s + i by omega]; exact getD_at _ _ _
  rw [← eg] at hce
  have hG := gain_ok (cs.getD (((s + i + 1 : Nat) : Int) - 1).toNat (0, 0)) nm l sp ac br ⟨hce.2.2.1, hce.2.2.2⟩ l5 l6
  have hgr := gain_range (cs.getD (((s + i + 1 : Nat) : Int) - 1).toNat (0, 0)).2 ac l5 l6
  have a1 := limit_range cs (s + i) l.toNat sp l3 hall
  have a2 := limit_range cs (s + i + 1) l.toNat sp l3 hall
  have a3 := sq_range (limitOf cs (s + i) l.toNat sp) (limitOf cs (s + i + 1) l.toNat sp) a1.1 (by omega) a2.1 (by omega)
  have a4 := fwd_range cs s l.toNat sp ac l3 l4 l5 l6 hall i
  have a5 : (row (cs.length - s + 1) fun j => if j ≤ i then fwd cs s l.toNat sp ac j else 0).getD (((s + i + 1 : Nat) : Int) - 1 - s).toNat 0 = fwd cs s l.toNat sp ac i := by
   rw [show (((s + i + 1 : Nat) : Int) - 1 - s).toNat = i by omega, row_get (by omega), if_pos (Nat.le_refl _)]
  rw [← a5] at a4
  have a6 := row_len (cs.length - s + 1) fun j => if j ≤ i then fwd cs s l.toNat sp ac j else 0
  repeat' (first
   |with_reducible (first|refine q_and ?_ ?_|exact True.intro|exact TkEq.nil _|refine Red.o (by constructor) ?_|refine blockK_o' rfl ?_|refine LoopX_e' rfl ?_|assumption)
   |((with_reducible apply q_call);first|refine X_pure (hL) rfl ?_|refine X_pure (hG) rfl ?_)
   |((with_reducible apply q_CI);intro hbq;(try simp only [bq] at hbq);(try (exfalso;omega)))
   |refine Rex.o (by (with_reducible constructor);apply Eq.refl) ?_
   |(intro (hgq : (_ : Bool) = true);(try simp only [bq] at hgq))
   |(intro (hgq : (_ : Bool) = false);(try simp only [bq] at hgq))
   |((with_reducible apply q_VOk);exact fun _ => ⟨rfl,rfl⟩)|(intro _;exact rfl)|((with_reducible apply q_CRB);kernel_rfl)|((with_reducible apply q_bt);simp only [bq])|((with_reducible apply q_eqN);rfl)|((with_reducible apply q_FE);exact rfl)|with_reducible (first|exact isByte_wrap _|exact isByte_nat _)|(simp only [hgq,bq];done)|omega|(dsimp only;omega))
  ·rfl
  ·
   refine LoopK_n (i + 1) ?_ ((by omega)) (by (try dsimp only); omega)
   refine X_weak rfl rfl rfl ?_ ?_ <;> repeat' (first|with_reducible (first|refine Wk.o (by constructor) ?_|refine q_and ?_ ?_|exact True.intro)|refine q_AgS rfl ?_ ?_|exact CLe.nil_tipS|exact CLe.nil_rowS|refine HLe.cells ?_ ?_|refine HLe.els ?_ ?_|refine SLe.cons ?_ ?_|exact (rfl : known _ = _)|with_reducible rfl|omega)
   ·rw [a5, show (((s + i + 1 : Nat) : Int) - s).toNat = i + 1 by omega, show (((s + i + 1 : Nat) : Int) - 1).toNat = s + i by omega]
    refine row_set (i := i + 1) ?_ fun j hj hne => ?_
    ·rw [if_pos (Nat.le_refl _)]; rfl
    ·by_cases hji : j ≤ i
     ·rw [if_pos hji, if_pos (by omega)]
     ·rw [if_neg hji, if_neg (by omega)]
   ·rfl
 ·
  repeat' (first
   |with_reducible (first|refine q_and ?_ ?_|exact True.intro|exact TkEq.nil _|refine Red.o (by constructor) ?_|refine blockK_o' rfl ?_|refine LoopX_e' rfl ?_|assumption)
   |((with_reducible apply q_CI);intro hbq;(try simp only [bq] at hbq);(try (exfalso;omega)))
   |refine Rex.o (by (with_reducible constructor);apply Eq.refl) ?_
   |(intro (hgq : (_ : Bool) = true);(try simp only [bq] at hgq))
   |(intro (hgq : (_ : Bool) = false);(try simp only [bq] at hgq))
   |((with_reducible apply q_VOk);exact fun _ => ⟨rfl,rfl⟩)|(intro _;exact rfl)|((with_reducible apply q_CRB);kernel_rfl)|((with_reducible apply q_bt);simp only [bq])|((with_reducible apply q_eqN);rfl)|((with_reducible apply q_FE);exact rfl)|with_reducible (first|exact isByte_wrap _|exact isByte_nat _)|(simp only [hgq,bq];done)|omega|(dsimp only;omega))
  refine W_loopS (fun d : Nat => SS [sC 0 (rCell cs), sI 1 s, sC 5 (pB 0), sI 7 cs.length, sC 8 (.c (.arr 1 0 (cs.length - s + 1) (cs.length - s + 1))), sI 13 ((cs.length : Int) - 1 - d)] [bS5 nm l sp ac br, bInt (row (cs.length - s + 1) fun j => if j + d < cs.length - s then fwd cs s l.toNat sp ac j else sqW cs s l.toNat sp ac br j)]) (fun d => s + d + 1 ≤ cs.length) (fun d => cs.length - d) 0 ?_ (by omega) ?_
  ·
   refine X_weak rfl rfl rfl ?_ ?_ <;> repeat' (first|with_reducible (first|refine Wk.o (by constructor) ?_|refine q_and ?_ ?_|exact True.intro)|refine q_AgS rfl ?_ ?_|exact CLe.nil_tipS|exact CLe.nil_rowS|refine HLe.cells ?_ ?_|refine HLe.els ?_ ?_|refine SLe.cons ?_ ?_|exact (rfl : known _ = _)|with_reducible rfl|omega)
   all_goals (
    refine row_ext fun j hj => ?_
    by_cases hji : j ≤ i
    ·rw [if_pos hji, if_pos (by omega)]
    ·rw [if_neg hji, if_neg (by omega), show j = cs.length - s by omega, sqW_end (by omega)])
  intro d hd
  by_cases hdl : s + d + 1 < cs.length
  ·generalize he : cs.length - 1 - d - s = e
   have e1 : ((cs.length : Int) - 1 - d).toNat = s + e := by omega
   have hce := cell_of (List.all_eq_true.1 hall _ (List.getElem_mem (show s + e < cs.length by omega)))
   have eg : cs.getD ((cs.length : Int) - 1 - d).toNat (0, 0) = cs[s + e] := by rw [e1]; exact getD_at _ _ _
   rw [← eg] at hce
   have hG := loss_ok (cs.getD ((cs.length : Int) - 1 - d).toNat (0, 0)) nm l sp ac br ⟨hce.2.2.1, hce.2.2.2⟩ l7 l8
   have hgr := loss_range (cs.getD ((cs.length : Int) - 1 - d).toNat (0, 0)).2 br l7 l8
   have a6 := row_len (cs.length - s + 1) fun j => if j + d < cs.length - s then fwd cs s l.toNat sp ac j else sqW cs s l.toNat sp ac br j
   have a4 := sqW_range (start := s) (l := l.toNat) l3 l4 l5 l6 l7 l8 hall (e + 1)
   have a5 : (row (cs.length - s + 1) fun j => if j + d < cs.length - s then fwd cs s l.toNat sp ac j else sqW cs s l.toNat sp ac br j).getD ((cs.length : Int) - 1 - d + 1 - s).toNat 0 = sqW cs s l.toNat sp ac br (e + 1) := by
    rw [show ((cs.length : Int) - 1 - d + 1 - s).toNat = e + 1 by omega, row_get (by omega), if_neg (by omega)]
   have a7 : (row (cs.length - s + 1) fun j => if j + d < cs.length - s then fwd cs s l.toNat sp ac j else sqW cs s l.toNat sp ac br j).getD ((cs.length : Int) - 1 - d - s).toNat 0 = fwd cs s l.toNat sp ac e := by
    rw [show ((cs.length : Int) - 1 - d - s).toNat = e by omega, row_get (by omega), if_pos (by omega)]
   rw [← a5] at a4
   repeat' (first
    |with_reducible (first|refine q_and ?_ ?_|exact True.intro|exact TkEq.nil _|refine Red.o (by constructor) ?_|refine blockK_o' rfl ?_|refine LoopX_e' rfl ?_|assumption)
    |((with_reducible apply q_call);refine X_pure (hG) rfl ?_)
    |((with_reducible apply q_CI);intro hbq;(try simp only [bq] at hbq);(try (exfalso;omega)))
    |refine Rex.o (by (with_reducible constructor);apply Eq.refl) ?_
    |(intro (hgq : (_ : Bool) = true);(try simp only [bq] at hgq))
    |(intro (hgq : (_ : Bool) = false);(try simp only [bq] at hgq))
    |((with_reducible apply q_VOk);exact fun _ => ⟨rfl,rfl⟩)|(intro _;exact rfl)|((with_reducible apply q_CRB);kernel_rfl)|((with_reducible apply q_bt);simp only [bq])|((with_reducible apply q_eqN);rfl)|((with_reducible apply q_FE);exact rfl)|with_reducible (first|exact isByte_wrap _|exact isByte_nat _)|(simp only [hgq,bq];done)|omega|(dsimp only;omega))
   ·rfl
   ·
    refine LoopK_n (d + 1) ?_ ((by omega)) (by (try dsimp only); omega)
    refine X_weak rfl rfl rfl ?_ ?_ <;> repeat' (first|with_reducible (first|refine Wk.o (by constructor) ?_|refine q_and ?_ ?_|exact True.intro)|refine q_AgS rfl ?_ ?_|exact CLe.nil_tipS|exact CLe.nil_rowS|refine HLe.cells ?_ ?_|refine HLe.els ?_ ?_|refine SLe.cons ?_ ?_|exact (rfl : known _ = _)|with_reducible rfl|omega)
    all_goals (
     rw [a5, a7, show ((cs.length : Int) - 1 - d - s).toNat = e by omega, e1]
     refine row_set (i := e) ?_ fun j hj hne => ?_
     ·rw [if_neg (by omega)]
      exact sqW_mid e (by omega) (by omega)
     ·by_cases hji : j + d < cs.length - s
      ·rw [if_pos hji, if_pos (by omega)]
      ·rw [if_neg hji, if_neg (by omega)])
  ·
   have hr : row (cs.length - s + 1) (fun j => if j + d < cs.length - s then fwd cs s l.toNat sp ac j else sqW cs s l.toNat sp ac br j) = row (cs.length - s + 1) (sqW cs s l.toNat sp ac br) := row_ext fun j hj => by
    by_cases hj0 : j + d < cs.length - s
    ·rw [if_pos hj0, show j = 0 by omega, sqW_zero]; rfl
    ·rw [if_neg hj0]
   repeat' (first
    |with_reducible (first|refine q_and ?_ ?_|exact True.intro|exact TkEq.nil _|refine Red.o (by constructor) ?_|refine blockK_o' rfl ?_|refine LoopX_e' rfl ?_|assumption)
    |((with_reducible apply q_CI);intro hbq;(try simp only [bq] at hbq);(try (exfalso;omega)))
    |refine Rex.o (by (with_reducible constructor);apply Eq.refl) ?_
    |(intro (hgq : (_ : Bool) = true);(try simp only [bq] at hgq))
    |(intro (hgq : (_ : Bool) = false);(try simp only [bq] at hgq))
    |((with_reducible apply q_VOk);exact fun _ => ⟨rfl,rfl⟩)|(intro _;exact rfl)|((with_reducible apply q_CRB);kernel_rfl)|((with_reducible apply q_bt);simp only [bq])|((with_reducible apply q_eqN);rfl)|((with_reducible apply q_FE);exact rfl)|with_reducible (first|exact isByte_wrap _|exact isByte_nat _)|(simp only [hgq,bq];done)|omega|(dsimp only;omega))
   ·rfl
   ·rw [hr]
    repeat' (first|with_reducible (first|refine Wk.o (by constructor) ?_|refine q_and ?_ ?_|exact True.intro)|refine VEq.c ?_|refine VEq.agg ?_|refine VEq.tup ?_|refine TkEq.cells ?_ ?_|refine TkEq.els ?_ ?_|refine SEqL.cons ?_ ?_|refine TEqL.agg ?_ ?_|refine CEq.rows ?_|refine CEq.int ?_|rfl|omega)
end Go.Proofs.Ytalfibohepbhfaa.Av
namespace Go.Proofs.Ytalfibohepbhfaa
open Go.RowKit
theorem refCeil_any (a b : Int) (w : World) (ha : -9223372036854775808 ≤ a) (ha' : a ≤ 9223372036854775807) (hb : 1 ≤ b) (hb' : b ≤ 9223372036854775807) :
  Calls Try.prog 35 #[.int .i64 a, .int .i64 b] w fun e w' => e = .returned (.int .i64 (Pl.cdiv a b)) ∧ w = w' := by
 by_cases h : 0 ≤ a
 ·have h1 := Int.emod_nonneg a (show b ≠ 0 by omega)
  have h2 := Pl.ediv_le_self' a b h hb
  by_cases hr : 0 < a % b
  ·have h3 : a / b < a := by
    have := Int.ediv_mul_add_emod a b
    have := Int.mul_le_mul_of_nonneg_left hb h2.1
    omega
   have H := Lib.hid (Pl.cdiv_pos a b h hb hr)
   go_enter Try.func35, Try.ntmps35
   go_wp2
   go_ret
   exact ⟨ret_int H.out.symm, rfl⟩
  ·have H := Lib.hid (Pl.cdiv_zero a b hb (by omega))
   go_enter Try.func35, Try.ntmps35
   go_wp2
   go_ret
   exact ⟨ret_int H.out.symm, rfl⟩
 ·obtain ⟨h1, h2, h3, h4⟩ := Pl.tdiv_of_neg a b (by omega) hb
  obtain ⟨g1, g2, g3, g4⟩ := Pl.tmod_of_neg a b (by omega) hb
  have H := Lib.hid (Pl.cdiv_neg a b (by omega) hb)
  clear h4 h3 g3 g4
  go_enter Try.func35, Try.ntmps35
  go_wp2
  go_ret
  exact ⟨ret_int H.out.symm, rfl⟩
theorem ceilDiv_any (a b : Int) (w : World) (ha : -9223372036854775808 ≤ a) (ha' : a ≤ 9223372036854775807) (hb : 1 ≤ b) (hb' : b ≤ 9223372036854775807) :
  Calls Try.prog 66 #[.int .i64 a, .int .i64 b] w fun e w' => e = .returned (.tuple #[.int .i64 (Pl.cdiv a b), .int .i64 0]) ∧ w = w' := by
 by_cases h : 0 ≤ a
 ·have h1 := Int.emod_nonneg a (show b ≠ 0 by omega)
  have h2 := Pl.ediv_le_self' a b h hb
  by_cases hr : 0 < a % b
  ·have h3 : a / b < a := by
    have := Int.ediv_mul_add_emod a b
    have := Int.mul_le_mul_of_nonneg_left hb h2.1
    omega
   have H := Lib.hid (Pl.cdiv_pos a b h hb hr)
   go_enter Try.func66, Try.ntmps66
   go_wp2
   go_ret2
   exact ⟨ret_int2 H.out.symm rfl, rfl⟩
  ·have H := Lib.hid (Pl.cdiv_zero a b hb (by omega))
   go_enter Try.func66, Try.ntmps66
   go_wp2
   go_ret2
   exact ⟨ret_int2 H.out.symm rfl, rfl⟩
 ·obtain ⟨h1, h2, h3, h4⟩ := Pl.tdiv_of_neg a b (by omega) hb
  obtain ⟨g1, g2, g3, g4⟩ := Pl.tmod_of_neg a b (by omega) hb
  have H := Lib.hid (Pl.cdiv_neg a b (by omega) hb)
  clear h4 h3 g3 g4
  go_enter Try.func66, Try.ntmps66
  go_wp2
  go_ret2
  exact ⟨ret_int2 H.out.symm rfl, rfl⟩
end Go.Proofs.Ytalfibohepbhfaa
namespace Go.Proofs.Ytalfibohepbhfaa
open Go.RowKit
theorem sqrt_any (n : Nat) (w : World) (hn : (n : Int) ≤ 9223372036854775807) :
  Calls Try.prog 85 #[.int .i64 n] w fun e w' => e = .returned (.int .i64 (Pl.isqrt n : Nat)) ∧ w = w' := by
 go_enter Try.func85, Try.ntmps85
 go_wp2
 go_loop [3, 4] (fun u v => ∃ k p r : Nat, Hid (p = 2 ^ k) ∧ k ≤ 32 ∧ r + p ≤ 4294967296 ∧ Hid (r * r ≤ n ∧ n < (r + p) * (r + p)) ∧ u = .int .i64 r ∧ v = .int .i64 ((p / 2 : Nat) : Int)) (fun _ v => (intOf v).toNat)
 case atStart => exact ⟨32, 4294967296, 0, Lib.hid rfl, by omega, by omega, Lib.hid (by omega), rfl, rfl⟩
 case round =>
  obtain ⟨k, p, r, Hp, hk, hr, Hn, rfl, rfl⟩ := hrel
  cases k with
  | zero =>
   have hp : p = 1 := Hp.out
   subst hp
   go_wp2
   go_ret
   exact ⟨ret_int (by rw [Pl.isqrt_unique n r Hn.out.1 Hn.out.2]), rfl⟩
  | succ k =>
   obtain ⟨q, Hq⟩ : ∃ q : Nat, Hid (q = 2 ^ k) := ⟨_, Lib.hid rfl⟩
   obtain rfl : p = 2 * q := by rw [Hp.out, Hq.out, Nat.pow_succ]; omega
   have hq : 1 ≤ q := by rw [Hq.out]; exact Nat.one_le_two_pow
   have hle : Hid (r + q ≤ n / (r + q) ↔ (r + q) * (r + q) ≤ n) := Lib.hid (Nat.le_div_iff_mul_le (by omega))
   have hi1 : (n : Int) / ((r : Int) + (q : Int)) = ((n / (r + q) : Nat) : Int) := by simp
   have hi2 : (n : Int) / ((r : Int) + (q : Int)) ≤ 9223372036854775807 := by
    rw [hi1]; have := Nat.div_le_self n (r + q); omega
   rw [show 2 * q / 2 = q by omega]
   by_cases hd : r + q ≤ n / (r + q)
   ·have hi3 : (r : Int) + (q : Int) ≤ (n : Int) / ((r : Int) + (q : Int)) := by rw [hi1]; omega
    have Hm : Hid ((r + q) * (r + q) ≤ n ∧ n < (r + q + q) * (r + q + q)) := Lib.hid ⟨hle.out.1 hd, by rw [Nat.add_assoc, ← Nat.two_mul]; exact Hn.out.2⟩
    clear hi1 hd
    go_wp2
    go_round
    case rel => exact ⟨k, q, r + q, Hq, by omega, by omega, Hm, by go_num, by go_num⟩
    case measure => simp [intOf]; omega
   ·have hi3 : (n : Int) / ((r : Int) + (q : Int)) < (r : Int) + (q : Int) := by rw [hi1]; omega
    have hi4 : 0 ≤ (n : Int) / ((r : Int) + (q : Int)) := by rw [hi1]; exact Int.natCast_nonneg _
    have Hm : Hid (r * r ≤ n ∧ n < (r + q) * (r + q)) := Lib.hid ⟨Hn.out.1, Nat.lt_of_not_le (fun h => hd (hle.out.2 h))⟩
    clear hi1 hd
    go_wp2
    go_round
    case rel => exact ⟨k, q, r, Hq, by omega, by omega, Hm, rfl, by go_num⟩
    case measure => simp [intOf]; omega
end Go.Proofs.Ytalfibohepbhfaa
namespace Go.Proofs.Ytalfibohepbhfaa
open Go.RowKit
theorem sq_bound (m : Nat) (h : m ≤ 3037000499) : m * m ≤ 9223372030926249001 := Nat.mul_le_mul h h
theorem refSqrt_any (n : Nat) (w : World) (hn : (n : Int) ≤ 9223372036854775807) :
  Calls Try.prog 72 #[.int .i64 n] w fun e w' => e = .returned (.int .i64 (Pl.isqrt n : Nat)) ∧ w = w' := by
 by_cases h0 : n = 0
 ·subst h0
  go_enter Try.func72, Try.ntmps72
  go_wp2
  go_ret
  exact ⟨rfl, rfl⟩
 ·have hd : decide ((n : Int) ≤ 0) = false := by simp; omega
  go_enter Try.func72, Try.ntmps72
  go_wp2
  clear hd
  go_loop [3, 4] (fun u v => ∃ lo hi : Nat, lo ≤ hi ∧ hi ≤ 3037000499 ∧ Hid (lo * lo ≤ n ∧ n < (hi + 1) * (hi + 1)) ∧ u = .int .i64 lo ∧ v = .int .i64 hi) (fun u v => (intOf v).toNat - (intOf u).toNat)
  case atStart => exact ⟨0, 3037000499, by omega, by omega, Lib.hid (by omega), rfl, rfl⟩
  case round =>
   obtain ⟨lo, hi, h1, h2, Hn, rfl, rfl⟩ := hrel
   by_cases hlt : lo < hi
   ·obtain ⟨m, Hm⟩ : ∃ m, Hid ((lo + hi + 1) / 2 = m) := ⟨_, Lib.hid rfl⟩
    have hm1 : lo < m := by have := Hm.out; omega
    have hm2 : m ≤ hi := by have := Hm.out; omega
    obtain ⟨q, Hq⟩ : ∃ q, Hid (m * m = q) := ⟨_, Lib.hid rfl⟩
    have hq : q ≤ 9223372030926249001 := by rw [← Hq.out]; exact sq_bound m (by omega)
    have hqi : (m : Int) * m = (q : Int) := by rw [← Hq.out]; simp
    have e1 : ((lo : Int) + hi + 1) / 2 = (m : Int) := by have := Hm.out; omega
    have e2 : IntKind.i64.wrap ((m : Int) * m) = (q : Int) := by rw [hqi, IntKind.wrap_i64]; omega
    have e3 : Int.tdiv ((lo : Int) + hi + 1) 2 = (m : Int) := by rw [Int.tdiv_eq_ediv_of_nonneg (by omega)]; exact e1
    by_cases hle : q ≤ n
    ·go_wp2
     go_round
     case rel => exact ⟨m, hi, hm2, h2, Lib.hid ⟨by rw [Hq.out]; exact hle, Hn.out.2⟩, rfl, rfl⟩
     case measure => simp [intOf]; omega
    ·have hd : decide ((q : Int) ≤ (n : Int)) = false := by simp; omega
     go_wp2
     go_round
     case rel => exact ⟨lo, m - 1, by omega, by omega, Lib.hid ⟨Hn.out.1, by rw [show m - 1 + 1 = m by omega, Hq.out]; omega⟩, rfl, by go_num⟩
     case measure => simp [intOf]; omega
   ·obtain rfl : lo = hi := by omega
    go_wp2
    go_ret
    exact ⟨ret_int (by rw [Pl.isqrt_unique n lo Hn.out.1 Hn.out.2]), rfl⟩
end Go.Proofs.Ytalfibohepbhfaa
namespace Go.Proofs.Ytalfibohepbhfaa.Av
open Go.RowKit
theorem two_arg {vals : Array Value} (h : vals.size = 2) : vals = #[vals[0], vals[1]] := by
 apply Array.ext
 ·simp [h]
 ·intro i h1 h2
  match i, h2 with
  | 0, _ => rfl
  | 1, _ => rfl
theorem refCeil_ok (a b : Int) (ha : -9223372036854775808 ≤ a ∧ a ≤ 9223372036854775807) (hb : 1 ≤ b ∧ b ≤ 9223372036854775807) : Ok Try.prog 35 [i64 a, i64 b] [] (i64 (Pl.cdiv a b)) [] := by
 refine ok_old _ Try.func35 (by kernel_rfl) (by kernel_rfl) rfl rfl fun w κ ρ vals hv hr => ⟨_, plain_i, ?_⟩
 have hv : vals.size = 2 := hv
 have h0 : vals[0] = .int .i64 a := (repF_v.1 (hr 0 (by simp) (by omega) (.slot 0))).1
 have h1 : vals[1] = .int .i64 b := (repF_v.1 (hr 1 (by simp) (by omega) (.slot 0))).1
 rw [two_arg hv, h0, h1]
 exact (refCeil_any a b w ha.1 ha.2 hb.1 hb.2).mono fun e w' ⟨h1, h2⟩ => ⟨h1, by subst h2; exact Below.refl _ _⟩
theorem refCeil_okV (a b : Int) (ha : -9223372036854775808 ≤ a ∧ a ≤ 9223372036854775807) (hb : 1 ≤ b ∧ b ≤ 9223372036854775807) : OkV Try.prog 35 [.c (xI a), .c (xI b)] [] (vI (Pl.cdiv a b)) [] := refCeil_ok a b ha hb
theorem ceilDiv_ok (a b : Int) (ha : -9223372036854775808 ≤ a ∧ a ≤ 9223372036854775807) (hb : 1 ≤ b ∧ b ≤ 9223372036854775807) : Ok Try.prog 66 [i64 a, i64 b] [] (.tup [.c (.f (.v (.int .i64 (Pl.cdiv a b)))), .c (.f (.v (.int .i64 0)))]) [] := by
 refine ok_old _ Try.func66 (by kernel_rfl) (by kernel_rfl) rfl rfl fun w κ ρ vals hv hr => ⟨_, plain_2 plain_i plain_i rfl rfl, ?_⟩
 have hv : vals.size = 2 := hv
 have h0 : vals[0] = .int .i64 a := (repF_v.1 (hr 0 (by simp) (by omega) (.slot 0))).1
 have h1 : vals[1] = .int .i64 b := (repF_v.1 (hr 1 (by simp) (by omega) (.slot 0))).1
 rw [two_arg hv, h0, h1]
 exact (ceilDiv_any a b w ha.1 ha.2 hb.1 hb.2).mono fun e w' ⟨h1, h2⟩ => ⟨h1, by subst h2; exact Below.refl _ _⟩
theorem ceilDiv_okV (a b : Int) (ha : -9223372036854775808 ≤ a ∧ a ≤ 9223372036854775807) (hb : 1 ≤ b ∧ b ≤ 9223372036854775807) : OkV Try.prog 66 [.c (xI a), .c (xI b)] [] (.tup [.c (xI (Pl.cdiv a b)), .c (xI 0)]) [] := ceilDiv_ok a b ha hb
theorem sqrt_ok (a : Int) (ha : 0 ≤ a ∧ a ≤ 9223372036854775807) : Ok Try.prog 85 [i64 a] [] (i64 (Pl.isqrt a.toNat : Nat)) [] := by
 refine ok_old _ Try.func85 (by kernel_rfl) (by kernel_rfl) rfl rfl fun w κ ρ vals hv hr => ⟨_, plain_i, ?_⟩
 have hv : vals.size = 1 := hv
 have h0 : vals[0] = .int .i64 a := (repF_v.1 (hr 0 (by simp) (by omega) (.slot 0))).1
 rw [one_arg hv, h0]
 obtain ⟨m, rfl⟩ := Int.eq_ofNat_of_zero_le ha.1
 exact (sqrt_any m w ha.2).mono fun e w' ⟨h1, h2⟩ => ⟨h1, by subst h2; exact Below.refl _ _⟩
theorem sqrt_okV (a : Int) (ha : 0 ≤ a ∧ a ≤ 9223372036854775807) : OkV Try.prog 85 [.c (xI a)] [] (vI (Pl.isqrt a.toNat : Nat)) [] := sqrt_ok a ha
theorem refSqrt_ok (a : Int) (ha : 0 ≤ a ∧ a ≤ 9223372036854775807) : Ok Try.prog 72 [i64 a] [] (i64 (Pl.isqrt a.toNat : Nat)) [] := by
 refine ok_old _ Try.func72 (by kernel_rfl) (by kernel_rfl) rfl rfl fun w κ ρ vals hv hr => ⟨_, plain_i, ?_⟩
 have hv : vals.size = 1 := hv
 have h0 : vals[0] = .int .i64 a := (repF_v.1 (hr 0 (by simp) (by omega) (.slot 0))).1
 rw [one_arg hv, h0]
 obtain ⟨m, rfl⟩ := Int.eq_ofNat_of_zero_le ha.1
 exact (refSqrt_any m w ha.2).mono fun e w' ⟨h1, h2⟩ => ⟨h1, by subst h2; exact Below.refl _ _⟩
theorem refSqrt_okV (a : Int) (ha : 0 ≤ a ∧ a ≤ 9223372036854775807) : OkV Try.prog 72 [.c (xI a)] [] (vI (Pl.isqrt a.toNat : Nat)) [] := refSqrt_ok a ha
end Go.Proofs.Ytalfibohepbhfaa.Av
namespace Go.Proofs.Ytalfibohepbhfaa.Av
def speedL (cs : List (Int × Int)) (s : Int) (l sp ac br : Int) : List Int := if badRun cs s l sp ac br = 0 then row (cs.length - s.toNat + 1) (fun j => ((spd cs s.toNat l.toNat sp ac br j : Nat) : Int)) else []
def timeL (cs : List (Int × Int)) (s : Int) (l sp ac br : Int) : List Int := if badRun cs s l sp ac br = 0 then row (cs.length - s.toNat + 1) (tim cs s.toNat l.toNat sp ac br) else []
theorem speeds_ok (cs : List (Int × Int)) (start : Int) (nm : ByteArray) (l sp ac br : Int) (hl : cs.length ≤ 4611686018427387904) : OkV Try.prog 65 [.c (rCell cs), .c (xI start), vS5 nm l sp ac br] [] (.tup [.c (rInt (speedL cs start l sp ac br)), .c (xI (badRun cs start l sp ac br))]) [] := by
 have hC := checkRun_ok cs start nm l sp ac br hl
 unfold speedL
 by_cases h : badRun cs start l sp ac br = 0
 ·obtain ⟨hc, hn, hall, h0, h2⟩ := bad_zero h
  obtain ⟨l1, l2, l3, l4, l5, l6, l7, l8⟩ := chk_of hc
  obtain ⟨s, rfl⟩ := Int.eq_ofNat_of_zero_le h0
  have hS := squares_ok cs s nm l sp ac br h
  rw [h] at hC ⊢
  rw [if_pos rfl]
  simp only [Int.toNat_natCast]
  refine X_fnP mixedX Try.func65 rfl (by kernel_rfl) (Nat.le_of_ble_eq_true (by kernel_rfl)) (by kernel_rfl) rfl rfl ?_
  simp only [sl0, Nat.zero_add, Nat.reduceAdd]
  repeat' (first
   |with_reducible (first|refine q_and ?_ ?_|exact True.intro|exact TkEq.nil _|refine Red.o (by constructor) ?_|refine blockK_o' rfl ?_|refine LoopX_e' rfl ?_|assumption)
   |((with_reducible apply q_call);first|refine X_pure (hC) rfl ?_|refine X_call [] (hS) rfl rfl rfl rfl rfl rfl rfl rfl rfl rfl rfl rfl rfl ?_)
   |((with_reducible apply q_CI);intro hbq;(try simp only [bq] at hbq);(try (exfalso;omega)))
   |refine Rex.o (by (with_reducible constructor);apply Eq.refl) ?_
   |(intro (hgq : (_ : Bool) = true);(try simp only [bq] at hgq))
   |(intro (hgq : (_ : Bool) = false);(try simp only [bq] at hgq))
   |((with_reducible apply q_VOk);exact fun _ => ⟨rfl,rfl⟩)|(intro _;exact rfl)|((with_reducible apply q_CRB);kernel_rfl)|((with_reducible apply q_bt);simp only [bq])|((with_reducible apply q_eqN);rfl)|((with_reducible apply q_FE);exact rfl)|with_reducible (first|exact isByte_wrap _|exact isByte_nat _)|(simp only [hgq,bq];done)|omega|(dsimp only;omega))
  clear hC hS
  refine W_loopS (fun i : Nat => SS [sC 9 (.c (.arr 2 0 (cs.length - s + 1) (cs.length - s + 1))), sC 23 (.c (.arr 2 0 (cs.length - s + 1) (cs.length - s + 1))), sI 24 (cs.length - s + 1 : Nat), sI 25 i] [none, none, bInt (row (cs.length - s + 1) fun j => if j < i then ((spd cs s l.toNat sp ac br j : Nat) : Int) else sqW cs s l.toNat sp ac br j)]) (fun i => i ≤ cs.length - s + 1) (fun i => cs.length - s + 1 - i) 0 ?_ (by omega) ?_
  ·
   refine X_weak rfl rfl rfl ?_ ?_ <;> repeat' (first|with_reducible (first|refine Wk.o (by constructor) ?_|refine q_and ?_ ?_|exact True.intro)|refine q_AgS rfl ?_ ?_|exact CLe.nil_tipS|exact CLe.nil_rowS|refine HLe.cells ?_ ?_|refine HLe.els ?_ ?_|refine SLe.cons ?_ ?_|exact (rfl : known _ = _)|with_reducible rfl|omega)
   all_goals rfl
  intro i hi
  have a6 := row_len (cs.length - s + 1) fun j => if j < i then ((spd cs s l.toNat sp ac br j : Nat) : Int) else sqW cs s l.toNat sp ac br j
  have a4 := sqW_range (start := s) (l := l.toNat) l3 l4 l5 l6 l7 l8 hall i
  by_cases hil : i < cs.length - s + 1
  ·have a5 : (row (cs.length - s + 1) fun j => if j < i then ((spd cs s l.toNat sp ac br j : Nat) : Int) else sqW cs s l.toNat sp ac br j).getD (i : Int).toNat 0 = sqW cs s l.toNat sp ac br i := by
    rw [Int.toNat_natCast, row_get hil, if_neg (by omega)]
   have hQ := sqrt_okV ((row (cs.length - s + 1) fun j => if j < i then ((spd cs s l.toNat sp ac br j : Nat) : Int) else sqW cs s l.toNat sp ac br j).getD (i : Int).toNat 0) (by rw [a5]; omega)
   repeat' (first
    |with_reducible (first|refine q_and ?_ ?_|exact True.intro|exact TkEq.nil _|refine Red.o (by constructor) ?_|refine blockK_o' rfl ?_|refine LoopX_e' rfl ?_|assumption)
    |((with_reducible apply q_call);refine X_pure (hQ) rfl ?_)
    |((with_reducible apply q_CI);intro hbq;(try simp only [bq] at hbq);(try (exfalso;omega)))
    |refine Rex.o (by (with_reducible constructor);apply Eq.refl) ?_
    |(intro (hgq : (_ : Bool) = true);(try simp only [bq] at hgq))
    |(intro (hgq : (_ : Bool) = false);(try simp only [bq] at hgq))
    |((with_reducible apply q_VOk);exact fun _ => ⟨rfl,rfl⟩)|(intro _;exact rfl)|((with_reducible apply q_CRB);kernel_rfl)|((with_reducible apply q_bt);simp only [bq])|((with_reducible apply q_eqN);rfl)|((with_reducible apply q_FE);exact rfl)|with_reducible (first|exact isByte_wrap _|exact isByte_nat _)|(simp only [hgq,bq];done)|omega|(dsimp only;omega))
   ·rfl
   ·
    refine LoopK_n (i + 1) ?_ ((by omega)) (by (try dsimp only); omega)
    refine X_weak rfl rfl rfl ?_ ?_ <;> repeat' (first|with_reducible (first|refine Wk.o (by constructor) ?_|refine q_and ?_ ?_|exact True.intro)|refine q_AgS rfl ?_ ?_|exact CLe.nil_tipS|exact CLe.nil_rowS|refine HLe.cells ?_ ?_|refine HLe.els ?_ ?_|refine SLe.cons ?_ ?_|exact (rfl : known _ = _)|with_reducible rfl|omega)
    all_goals (
     rw [a5, Int.toNat_natCast]
     refine row_set (i := i) ?_ fun j hj hne => ?_
     ·rw [if_pos (by omega)]; rfl
     ·by_cases hji : j < i
      ·rw [if_pos hji, if_pos (by omega)]
      ·rw [if_neg hji, if_neg (by omega)])
  ·have hr : row (cs.length - s + 1) (fun j => if j < i then ((spd cs s l.toNat sp ac br j : Nat) : Int) else sqW cs s l.toNat sp ac br j) = row (cs.length - s + 1) fun j => ((spd cs s l.toNat sp ac br j : Nat) : Int) := row_ext fun j hj => if_pos (by omega)
   repeat' (first
    |with_reducible (first|refine q_and ?_ ?_|exact True.intro|exact TkEq.nil _|refine Red.o (by constructor) ?_|refine blockK_o' rfl ?_|refine LoopX_e' rfl ?_|assumption)
    |((with_reducible apply q_CI);intro hbq;(try simp only [bq] at hbq);(try (exfalso;omega)))
    |refine Rex.o (by (with_reducible constructor);apply Eq.refl) ?_
    |(intro (hgq : (_ : Bool) = true);(try simp only [bq] at hgq))
    |(intro (hgq : (_ : Bool) = false);(try simp only [bq] at hgq))
    |((with_reducible apply q_VOk);exact fun _ => ⟨rfl,rfl⟩)|(intro _;exact rfl)|((with_reducible apply q_CRB);kernel_rfl)|((with_reducible apply q_bt);simp only [bq])|((with_reducible apply q_eqN);rfl)|((with_reducible apply q_FE);exact rfl)|with_reducible (first|exact isByte_wrap _|exact isByte_nat _)|(simp only [hgq,bq];done)|omega|(dsimp only;omega))
   rw [hr]; rfl
 ·rw [if_neg h]
  refine X_fn mixedX Try.func65 rfl (by kernel_rfl) (Nat.le_of_ble_eq_true (by kernel_rfl)) (by kernel_rfl) rfl rfl (Nat.le_of_ble_eq_true rfl) rfl rfl ?_
  simp only [sl0, Nat.zero_add, Nat.reduceAdd]
  repeat' (first
   |with_reducible (first|refine q_and ?_ ?_|exact True.intro|exact TkEq.nil _|refine Red.o (by constructor) ?_|refine blockK_o' rfl ?_|refine LoopX_e' rfl ?_|assumption)
   |((with_reducible apply q_call);refine X_pure (hC) rfl ?_)
   |((with_reducible apply q_CI);intro hbq;(try simp only [bq] at hbq);(try (exfalso;omega)))
   |refine Rex.o (by (with_reducible constructor);apply Eq.refl) ?_
   |(intro (hgq : (_ : Bool) = true);(try simp only [bq] at hgq))
   |(intro (hgq : (_ : Bool) = false);(try simp only [bq] at hgq))
   |((with_reducible apply q_VOk);exact fun _ => ⟨rfl,rfl⟩)|(intro _;exact rfl)|((with_reducible apply q_CRB);kernel_rfl)|((with_reducible apply q_bt);simp only [bq])|((with_reducible apply q_eqN);rfl)|((with_reducible apply q_FE);exact rfl)|with_reducible (first|exact isByte_wrap _|exact isByte_nat _)|(simp only [hgq,bq];done)|omega|(dsimp only;omega))
  ·rfl
theorem times_ok (cs : List (Int × Int)) (start : Int) (nm : ByteArray) (l sp ac br : Int) (hl : cs.length ≤ 4611686018427387904) : OkV Try.prog 48 [.c (rCell cs), .c (xI start), vS5 nm l sp ac br] [] (.tup [.c (rInt (timeL cs start l sp ac br)), .c (xI (badRun cs start l sp ac br))]) [] := by
 have hC := speeds_ok cs start nm l sp ac br hl
 unfold timeL
 by_cases h : badRun cs start l sp ac br = 0
 ·obtain ⟨hc, hn, hall, h0, h2⟩ := bad_zero h
  obtain ⟨l1, l2, l3, l4, l5, l6, l7, l8⟩ := chk_of hc
  obtain ⟨s, rfl⟩ := Int.eq_ofNat_of_zero_le h0
  unfold speedL at hC
  rw [h, if_pos rfl] at hC
  rw [h, if_pos rfl]
  simp only [Int.toNat_natCast] at hC ⊢
  have b6 := row_len (cs.length - s + 1) fun j => ((spd cs s l.toNat sp ac br j : Nat) : Int)
  have b5 : ∀ j, j < cs.length - s + 1 → (row (cs.length - s + 1) fun j => ((spd cs s l.toNat sp ac br j : Nat) : Int)).getD j 0 = spd cs s l.toNat sp ac br j := fun j hj => row_get hj
  generalize (row (cs.length - s + 1) fun j => ((spd cs s l.toNat sp ac br j : Nat) : Int)) = vs at hC b6 b5
  refine X_fnP mixedX Try.func48 rfl (by kernel_rfl) (Nat.le_of_ble_eq_true (by kernel_rfl)) (by kernel_rfl) rfl rfl ?_
  simp only [sl0, Nat.zero_add, Nat.reduceAdd]
  repeat' (first
   |with_reducible (first|refine q_and ?_ ?_|exact True.intro|exact TkEq.nil _|refine Red.o (by constructor) ?_|refine blockK_o' rfl ?_|refine LoopX_e' rfl ?_|assumption)
   |((with_reducible apply q_call);refine X_pure (hC) rfl ?_)
   |((with_reducible apply q_CI);intro hbq;(try simp only [bq] at hbq);(try (exfalso;omega)))
   |refine Rex.o (by (with_reducible constructor);apply Eq.refl) ?_
   |(intro (hgq : (_ : Bool) = true);(try simp only [bq] at hgq))
   |(intro (hgq : (_ : Bool) = false);(try simp only [bq] at hgq))
   |((with_reducible apply q_VOk);exact fun _ => ⟨rfl,rfl⟩)|(intro _;exact rfl)|((with_reducible apply q_CRB);kernel_rfl)|((with_reducible apply q_bt);simp only [bq])|((with_reducible apply q_eqN);rfl)|((with_reducible apply q_FE);exact rfl)|with_reducible (first|exact isByte_wrap _|exact isByte_nat _)|(simp only [hgq,bq];done)|omega|(dsimp only;omega))
  clear hC
  refine W_loopS (fun i : Nat => SS [sC 8 (rInt vs), sC 10 (.c (.arr 1 0 (cs.length - s + 1) (cs.length - s + 1))), sI 11 (i + 1 : Nat)] [none, bInt (row (cs.length - s + 1) fun j => if j ≤ i then tim cs s l.toNat sp ac br j else 0)]) (fun i => i ≤ cs.length - s) (fun i => cs.length - s - i) 0 ?_ (by omega) ?_
  ·
   refine X_weak rfl rfl rfl ?_ ?_ <;> repeat' (first|with_reducible (first|refine Wk.o (by constructor) ?_|refine q_and ?_ ?_|exact True.intro)|refine q_AgS rfl ?_ ?_|exact CLe.nil_tipS|exact CLe.nil_rowS|refine HLe.cells ?_ ?_|refine HLe.els ?_ ?_|refine SLe.cons ?_ ?_|exact (rfl : known _ = _)|with_reducible rfl|omega)
   all_goals first
    | (rw [b6]; rfl)
    | (
     rw [b6, Int.toNat_natCast, row_zero]
     refine row_ext fun j hj => ?_
     by_cases hj0 : j ≤ 0
     ·rw [if_pos hj0, show j = 0 by omega]; rfl
     ·rw [if_neg hj0])
  intro i hi
  have a6 := row_len (cs.length - s + 1) fun j => if j ≤ i then tim cs s l.toNat sp ac br j else 0
  by_cases hil : i < cs.length - s
  ·have e1 : (((i + 1 : Nat) : Int) - 1).toNat = i := by omega
   have e2 : ((i + 1 : Nat) : Int).toNat = i + 1 := by omega
   have a5 : (row (cs.length - s + 1) fun j => if j ≤ i then tim cs s l.toNat sp ac br j else 0).getD (((i + 1 : Nat) : Int) - 1).toNat 0 = tim cs s l.toNat sp ac br i := by
    rw [e1, row_get (by omega), if_pos (Nat.le_refl _)]
   have a4 := tim_range (start := s) (l := l.toNat) l3 l4 l5 l6 l7 l8 hall (by omega) i (by omega)
   have a7 := spd_sum (start := s) (l := l.toNat) l3 l4 l5 l6 l7 l8 hall (by omega) i hil
   have a8 := step_range (start := s) (l := l.toNat) l3 l4 l5 l6 l7 l8 hall (by omega) i hil
   have c1 := b5 i (by omega)
   have c2 := b5 (i + 1) (by omega)
   have c3 : vs.getD (((i + 1 : Nat) : Int) - 1).toNat 0 = spd cs s l.toNat sp ac br i := by rw [e1, c1]
   have c4 : vs.getD ((i + 1 : Nat) : Int).toNat 0 = spd cs s l.toNat sp ac br (i + 1) := by rw [e2, c2]
   have c5 : Pl.cdiv 20000000 (vs.getD (((i + 1 : Nat) : Int) - 1).toNat 0 + vs.getD ((i + 1 : Nat) : Int).toNat 0) = Pl.cdiv 20000000 ((spd cs s l.toNat sp ac br i : Int) + spd cs s l.toNat sp ac br (i + 1)) := by rw [c3, c4]
   rw [← c5] at a8
   have hQ := ceilDiv_okV 20000000 (vs.getD (((i + 1 : Nat) : Int) - 1).toNat 0 + vs.getD ((i + 1 : Nat) : Int).toNat 0) (by omega) (by rw [c3, c4]; omega)
   repeat' (first
    |with_reducible (first|refine q_and ?_ ?_|exact True.intro|exact TkEq.nil _|refine Red.o (by constructor) ?_|refine blockK_o' rfl ?_|refine LoopX_e' rfl ?_|assumption)
    |((with_reducible apply q_call);refine X_pure (hQ) rfl ?_)
    |((with_reducible apply q_CI);intro hbq;(try simp only [bq] at hbq);(try (exfalso;omega)))
    |refine Rex.o (by (with_reducible constructor);apply Eq.refl) ?_
    |(intro (hgq : (_ : Bool) = true);(try simp only [bq] at hgq))
    |(intro (hgq : (_ : Bool) = false);(try simp only [bq] at hgq))
    |((with_reducible apply q_VOk);exact fun _ => ⟨rfl,rfl⟩)|(intro _;exact rfl)|((with_reducible apply q_CRB);kernel_rfl)|((with_reducible apply q_bt);simp only [bq])|((with_reducible apply q_eqN);rfl)|((with_reducible apply q_FE);exact rfl)|with_reducible (first|exact isByte_wrap _|exact isByte_nat _)|(simp only [hgq,bq];done)|omega|(dsimp only;omega))
   ·rfl
   ·
    refine LoopK_n (i + 1) ?_ ((by omega)) (by (try dsimp only); omega)
    refine X_weak rfl rfl rfl ?_ ?_ <;> repeat' (first|with_reducible (first|refine Wk.o (by constructor) ?_|refine q_and ?_ ?_|exact True.intro)|refine q_AgS rfl ?_ ?_|exact CLe.nil_tipS|exact CLe.nil_rowS|refine HLe.cells ?_ ?_|refine HLe.els ?_ ?_|refine SLe.cons ?_ ?_|exact (rfl : known _ = _)|with_reducible rfl|omega)
    all_goals (
     rw [a5, c5, e2]
     refine row_set (i := i + 1) ?_ fun j hj hne => ?_
     ·rw [if_pos (by omega)]; rfl
     ·by_cases hji : j ≤ i
      ·rw [if_pos hji, if_pos (by omega)]
      ·rw [if_neg hji, if_neg (by omega)])
  ·have hr : row (cs.length - s + 1) (fun j => if j ≤ i then tim cs s l.toNat sp ac br j else 0) = row (cs.length - s + 1) (tim cs s l.toNat sp ac br) := row_ext fun j hj => if_pos (by omega)
   repeat' (first
    |with_reducible (first|refine q_and ?_ ?_|exact True.intro|exact TkEq.nil _|refine Red.o (by constructor) ?_|refine blockK_o' rfl ?_|refine LoopX_e' rfl ?_|assumption)
    |((with_reducible apply q_CI);intro hbq;(try simp only [bq] at hbq);(try (exfalso;omega)))
    |refine Rex.o (by (with_reducible constructor);apply Eq.refl) ?_
    |(intro (hgq : (_ : Bool) = true);(try simp only [bq] at hgq))
    |(intro (hgq : (_ : Bool) = false);(try simp only [bq] at hgq))
    |((with_reducible apply q_VOk);exact fun _ => ⟨rfl,rfl⟩)|(intro _;exact rfl)|((with_reducible apply q_CRB);kernel_rfl)|((with_reducible apply q_bt);simp only [bq])|((with_reducible apply q_eqN);rfl)|((with_reducible apply q_FE);exact rfl)|with_reducible (first|exact isByte_wrap _|exact isByte_nat _)|(simp only [hgq,bq];done)|omega|(dsimp only;omega))
   rw [hr]; rfl
 ·unfold speedL at hC
  rw [if_neg h] at hC ⊢
  refine X_fn mixedX Try.func48 rfl (by kernel_rfl) (Nat.le_of_ble_eq_true (by kernel_rfl)) (by kernel_rfl) rfl rfl (Nat.le_of_ble_eq_true rfl) rfl rfl ?_
  simp only [sl0, Nat.zero_add, Nat.reduceAdd]
  repeat' (first
   |with_reducible (first|refine q_and ?_ ?_|exact True.intro|exact TkEq.nil _|refine Red.o (by constructor) ?_|refine blockK_o' rfl ?_|refine LoopX_e' rfl ?_|assumption)
   |((with_reducible apply q_call);refine X_pure (hC) rfl ?_)
   |((with_reducible apply q_CI);intro hbq;(try simp only [bq] at hbq);(try (exfalso;omega)))
   |refine Rex.o (by (with_reducible constructor);apply Eq.refl) ?_
   |(intro (hgq : (_ : Bool) = true);(try simp only [bq] at hgq))
   |(intro (hgq : (_ : Bool) = false);(try simp only [bq] at hgq))
   |((with_reducible apply q_VOk);exact fun _ => ⟨rfl,rfl⟩)|(intro _;exact rfl)|((with_reducible apply q_CRB);kernel_rfl)|((with_reducible apply q_bt);simp only [bq])|((with_reducible apply q_eqN);rfl)|((with_reducible apply q_FE);exact rfl)|with_reducible (first|exact isByte_wrap _|exact isByte_nat _)|(simp only [hgq,bq];done)|omega|(dsimp only;omega))
  ·rfl
theorem inR_ok (n lo hi : Int) : OkV Try.prog 62 [.c (xI n), .c (xI lo), .c (xI hi)] [] (vB (decide (lo ≤ n) && decide (n ≤ hi))) [] := by
 refine X_fn mixedX Try.func62 rfl (by kernel_rfl) (Nat.le_of_ble_eq_true (by kernel_rfl)) (by kernel_rfl) rfl rfl (Nat.le_of_ble_eq_true rfl) rfl rfl ?_
 simp only [sl0, Nat.zero_add, Nat.reduceAdd]
 repeat' (first
  |with_reducible (first|refine q_and ?_ ?_|exact True.intro|exact TkEq.nil _|refine Red.o (by constructor) ?_|refine blockK_o' rfl ?_|refine LoopX_e' rfl ?_|assumption)
  |((with_reducible apply q_CI);intro hbq;(try simp only [bq] at hbq);(try (exfalso;omega)))
  |refine Rex.o (by (with_reducible constructor);apply Eq.refl) ?_
  |(intro (hgq : (_ : Bool) = true);(try simp only [bq] at hgq))
  |(intro (hgq : (_ : Bool) = false);(try simp only [bq] at hgq))
  |((with_reducible apply q_VOk);exact fun _ => ⟨rfl,rfl⟩)|(intro _;exact rfl)|((with_reducible apply q_CRB);kernel_rfl)|((with_reducible apply q_bt);simp only [bq])|((with_reducible apply q_eqN);rfl)|((with_reducible apply q_FE);exact rfl)|with_reducible (first|exact isByte_wrap _|exact isByte_nat _)|(simp only [hgq,bq];done)|omega|(dsimp only;omega))
 repeat' (first|with_reducible (first|refine Wk.o (by constructor) ?_|refine q_and ?_ ?_|exact True.intro)|refine VEq.c ?_|refine VEq.agg ?_|refine VEq.tup ?_|refine TkEq.cells ?_ ?_|refine TkEq.els ?_ ?_|refine SEqL.cons ?_ ?_|refine TEqL.agg ?_ ?_|refine CEq.rows ?_|refine CEq.int ?_|rfl|omega)
theorem chk_b4 (l sp ac br : Int) : chkB l sp ac br = ((decide (1 ≤ l) && decide (l ≤ 40)) && (decide (1000 ≤ sp) && decide (sp ≤ 100000)) && (decide (100 ≤ ac) && decide (ac ≤ 2000)) && (decide (100 ≤ br) && decide (br ≤ 2000))) := by
 rw [Bool.eq_iff_iff]
 simp [chkB, and_assoc]
theorem chkStock_ok (nm : ByteArray) (l sp ac br : Int) : OkV Try.prog 44 [vS5 nm l sp ac br] [] (vB (chkB l sp ac br)) [] := by
 have h1 := inR_ok l 1 40
 have h2 := inR_ok sp 1000 100000
 have h3 := inR_ok ac 100 2000
 have h4 := inR_ok br 100 2000
 rw [chk_b4]
 refine X_fn mixedX Try.func44 rfl (by kernel_rfl) (Nat.le_of_ble_eq_true (by kernel_rfl)) (by kernel_rfl) rfl rfl (Nat.le_of_ble_eq_true rfl) rfl rfl ?_
 simp only [sl0, Nat.zero_add, Nat.reduceAdd]
 repeat' (first
  |with_reducible (first|refine q_and ?_ ?_|exact True.intro|exact TkEq.nil _|refine Red.o (by constructor) ?_|refine blockK_o' rfl ?_|refine LoopX_e' rfl ?_|assumption)
  |((with_reducible apply q_call);refine X_pure (h1) rfl ?_)
  |((with_reducible apply q_callG);refine X_pureG ((fun _ => h2)) rfl ?_ ?_)
  |((with_reducible apply q_callG);refine X_pureG ((fun _ => h3)) rfl ?_ ?_)
  |((with_reducible apply q_callG);refine X_pureG ((fun _ => h4)) rfl ?_ ?_)
  |((with_reducible apply q_CI);intro hbq;(try simp only [bq] at hbq);(try (exfalso;omega)))
  |refine Rex.o (by (with_reducible constructor);apply Eq.refl) ?_
  |(intro (hgq : (_ : Bool) = true);(try simp only [bq] at hgq))
  |(intro (hgq : (_ : Bool) = false);(try simp only [bq] at hgq))
  |((with_reducible apply q_VOk);exact fun _ => ⟨rfl,rfl⟩)|(intro _;exact rfl)|((with_reducible apply q_CRB);kernel_rfl)|((with_reducible apply q_bt);simp only [bq])|((with_reducible apply q_eqN);rfl)|((with_reducible apply q_FE);exact rfl)|with_reducible (first|exact isByte_wrap _|exact isByte_nat _)|(simp only [hgq,bq];done)|omega|(dsimp only;omega))
 repeat' (first|with_reducible (first|refine Wk.o (by constructor) ?_|refine q_and ?_ ?_|exact True.intro)|refine VEq.c ?_|refine VEq.agg ?_|refine VEq.tup ?_|refine TkEq.cells ?_ ?_|refine TkEq.els ?_ ?_|refine SEqL.cons ?_ ?_|refine TEqL.agg ?_ ?_|refine CEq.rows ?_|refine CEq.int ?_|rfl|omega)
theorem refBad_ok (cs : List (Int × Int)) (start : Int) (nm : ByteArray) (l sp ac br : Int) (hl : cs.length ≤ 4611686018427387904) : OkV Try.prog 68 [.c (rCell cs), .c (xI start), vS5 nm l sp ac br] [] (vI (badRun cs start l sp ac br)) [] := by
 have hC := chkStock_ok nm l sp ac br
 refine X_fn mixedX Try.func68 rfl (by kernel_rfl) (Nat.le_of_ble_eq_true (by kernel_rfl)) (by kernel_rfl) rfl rfl (Nat.le_of_ble_eq_true rfl) rfl rfl ?_
 simp only [sl0, Nat.zero_add, Nat.reduceAdd]
 repeat' (first
  |with_reducible (first|refine q_and ?_ ?_|exact True.intro|exact TkEq.nil _|refine Red.o (by constructor) ?_|refine blockK_o' rfl ?_|refine LoopX_e' rfl ?_|assumption)
  |((with_reducible apply q_call);refine X_pure (hC) rfl ?_)
  |((with_reducible apply q_CI);intro hbq;(try simp only [bq] at hbq);(try (exfalso;omega)))
  |refine Rex.o (by (with_reducible constructor);apply Eq.refl) ?_
  |(intro (hgq : (_ : Bool) = true);(try simp only [bq] at hgq))
  |(intro (hgq : (_ : Bool) = false);(try simp only [bq] at hgq))
  |((with_reducible apply q_VOk);exact fun _ => ⟨rfl,rfl⟩)|(intro _;exact rfl)|((with_reducible apply q_CRB);kernel_rfl)|((with_reducible apply q_bt);simp only [bq])|((with_reducible apply q_eqN);rfl)|((with_reducible apply q_FE);exact rfl)|with_reducible (first|exact isByte_wrap _|exact isByte_nat _)|(simp only [hgq,bq];done)|omega|(dsimp only;omega))
 ·rw [bad_1 (by simpa using hbq)]; rfl
 ·rename_i a1
  rw [bad_7 (by simpa using a1) (by omega)]; rfl
 rename_i a1
 clear hC
 have b1 : chkB l sp ac br = true := by simpa using a1
 have b2 : ¬ 4000 < cs.length := by omega
 refine W_loopS (fun i : Nat => SS [sC 0 (rCell cs), sI 1 start, sI 7 i] []) (fun i => i ≤ cs.length ∧ ∀ j, j < i → cellB (cs.getD j (0, 0)) = true) (fun i => cs.length - i) 0 ?_ ⟨by omega, fun j hj => by omega⟩ ?_
 ·
  refine X_weak rfl rfl rfl ?_ ?_ <;> repeat' (first|with_reducible (first|refine Wk.o (by constructor) ?_|refine q_and ?_ ?_|exact True.intro)|refine q_AgS rfl ?_ ?_|exact CLe.nil_tipS|exact CLe.nil_rowS|refine HLe.cells ?_ ?_|refine HLe.els ?_ ?_|refine SLe.cons ?_ ?_|exact (rfl : known _ = _)|with_reducible rfl|omega)
 intro i hi
 obtain ⟨hi, hok⟩ := hi
 have h1 := inR_ok (cs.getD (i : Int).toNat (0, 0)).1 1000 100000
 have h2 := inR_ok (cs.getD (i : Int).toNat (0, 0)).2 (-40) 40
 repeat' (first
  |with_reducible (first|refine q_and ?_ ?_|exact True.intro|exact TkEq.nil _|refine Red.o (by constructor) ?_|refine blockK_o' rfl ?_|refine LoopX_e' rfl ?_|assumption)
  |((with_reducible apply q_call);refine X_pure (h1) rfl ?_)
  |((with_reducible apply q_callG);refine X_pureG ((fun _ => h2)) rfl ?_ ?_)
  |((with_reducible apply q_CI);intro hbq;(try simp only [bq] at hbq);(try (exfalso;omega)))
  |refine Rex.o (by (with_reducible constructor);apply Eq.refl) ?_
  |(intro (hgq : (_ : Bool) = true);(try simp only [bq] at hgq))
  |(intro (hgq : (_ : Bool) = false);(try simp only [bq] at hgq))
  |((with_reducible apply q_VOk);exact fun _ => ⟨rfl,rfl⟩)|(intro _;exact rfl)|((with_reducible apply q_CRB);kernel_rfl)|((with_reducible apply q_bt);simp only [bq])|((with_reducible apply q_eqN);rfl)|((with_reducible apply q_FE);exact rfl)|with_reducible (first|exact isByte_wrap _|exact isByte_nat _)|(simp only [hgq,bq];done)|omega|(dsimp only;omega))
 ·have hb : cellB (cs.getD (i : Int).toNat (0, 0)) = false := by unfold cellB; rw [decide_eq_false_iff_not]; omega
  rw [bad_4 b1 b2 (cells_no (i := i) (by omega) hb)]; rfl
 ·have hb : cellB (cs.getD (i : Int).toNat (0, 0)) = true := by unfold cellB; rw [decide_eq_true_eq]; omega
  refine LoopK_n (i + 1) ?_ (⟨by omega, uptoS hok hb⟩) (by (try dsimp only); omega)
  refine X_weak rfl rfl rfl ?_ ?_ <;> repeat' (first|with_reducible (first|refine Wk.o (by constructor) ?_|refine q_and ?_ ?_|exact True.intro)|refine q_AgS rfl ?_ ?_|exact CLe.nil_tipS|exact CLe.nil_rowS|refine HLe.cells ?_ ?_|refine HLe.els ?_ ?_|refine SLe.cons ?_ ?_|exact (rfl : known _ = _)|with_reducible rfl|omega)
 ·have hie : i = cs.length := by omega
  subst hie
  rw [bad_4s b1 b2 (cells_yes hok) (by omega)]; rfl
 ·have hie : i = cs.length := by omega
  subst hie
  rw [bad_0 b1 b2 (cells_yes hok) (by omega)]; rfl
theorem refLimit_ok (cs : List (Int × Int)) (k : Nat) (nm : ByteArray) (l sp ac br : Int) (hk : k < cs.length) (hl : cs.length ≤ 4000) (h0 : 0 ≤ l) (h1 : l ≤ 40) : OkV Try.prog 69 [.c (rCell cs), .c (xI k), vS5 nm l sp ac br] [] (vI (limitOf cs k l.toNat sp)) [] := by
 refine X_fn mixedX Try.func69 rfl (by kernel_rfl) (Nat.le_of_ble_eq_true (by kernel_rfl)) (by kernel_rfl) rfl rfl (Nat.le_of_ble_eq_true rfl) rfl rfl ?_
 simp only [sl0, Nat.zero_add, Nat.reduceAdd]
 repeat' (first
  |with_reducible (first|refine q_and ?_ ?_|exact True.intro|exact TkEq.nil _|refine Red.o (by constructor) ?_|refine blockK_o' rfl ?_|refine LoopX_e' rfl ?_|assumption)
  |((with_reducible apply q_CI);intro hbq;(try simp only [bq] at hbq);(try (exfalso;omega)))
  |refine Rex.o (by (with_reducible constructor);apply Eq.refl) ?_
  |(intro (hgq : (_ : Bool) = true);(try simp only [bq] at hgq))
  |(intro (hgq : (_ : Bool) = false);(try simp only [bq] at hgq))
  |((with_reducible apply q_VOk);exact fun _ => ⟨rfl,rfl⟩)|(intro _;exact rfl)|((with_reducible apply q_CRB);kernel_rfl)|((with_reducible apply q_bt);simp only [bq])|((with_reducible apply q_eqN);rfl)|((with_reducible apply q_FE);exact rfl)|with_reducible (first|exact isByte_wrap _|exact isByte_nat _)|(simp only [hgq,bq];done)|omega|(dsimp only;omega))
 generalize hlo : k - l.toNat = lo
 have elo : max 0 ((k : Int) - l) = lo := by omega
 refine W_loopS (fun i : Nat => SS [sC 0 (rCell cs), sI 1 k, sI 7 (limTo cs lo i sp), sI 8 (lo + i : Nat)] []) (fun i => lo + i ≤ k + 1) (fun i => k + 1 - i) 0 ?_ (by omega) ?_
 ·
  refine X_weak rfl rfl rfl ?_ ?_ <;> repeat' (first|with_reducible (first|refine Wk.o (by constructor) ?_|refine q_and ?_ ?_|exact True.intro)|refine q_AgS rfl ?_ ?_|exact CLe.nil_tipS|exact CLe.nil_rowS|refine HLe.cells ?_ ?_|refine HLe.els ?_ ?_|refine SLe.cons ?_ ?_|exact (rfl : known _ = _)|with_reducible rfl|omega)
  all_goals rw [limTo_zero]
 intro i hi
 repeat' (first
  |with_reducible (first|refine q_and ?_ ?_|exact True.intro|exact TkEq.nil _|refine Red.o (by constructor) ?_|refine blockK_o' rfl ?_|refine LoopX_e' rfl ?_|assumption)
  |((with_reducible apply q_CI);intro hbq;(try simp only [bq] at hbq);(try (exfalso;omega)))
  |refine Rex.o (by (with_reducible constructor);apply Eq.refl) ?_
  |(intro (hgq : (_ : Bool) = true);(try simp only [bq] at hgq))
  |(intro (hgq : (_ : Bool) = false);(try simp only [bq] at hgq))
  |((with_reducible apply q_VOk);exact fun _ => ⟨rfl,rfl⟩)|(intro _;exact rfl)|((with_reducible apply q_CRB);kernel_rfl)|((with_reducible apply q_bt);simp only [bq])|((with_reducible apply q_eqN);rfl)|((with_reducible apply q_FE);exact rfl)|with_reducible (first|exact isByte_wrap _|exact isByte_nat _)|(simp only [hgq,bq];done)|omega|(dsimp only;omega))
 ·
  refine LoopK_n (i + 1) ?_ ((by omega)) (by (try dsimp only); omega)
  refine X_weak rfl rfl rfl ?_ ?_ <;> repeat' (first|with_reducible (first|refine Wk.o (by constructor) ?_|refine q_and ?_ ?_|exact True.intro)|refine q_AgS rfl ?_ ?_|exact CLe.nil_tipS|exact CLe.nil_rowS|refine HLe.cells ?_ ?_|refine HLe.els ?_ ?_|refine SLe.cons ?_ ?_|exact (rfl : known _ = _)|with_reducible rfl|omega)
  all_goals (rw [limTo_succ _ _ _ _ (by omega), Int.toNat_natCast, getD_at _ _ (by omega)])
 ·have hie : i = k + 1 - lo := by omega
  subst hie
  rw [← hlo, limTo_all]; rfl
theorem accel_ok (c : Int × Int) (nm : ByteArray) (l sp ac br : Int) (h0 : -40 ≤ c.2 ∧ c.2 ≤ 40) (h5 : 100 ≤ ac) (h6 : ac ≤ 2000) : OkV Try.prog 70 [vCe c, vS5 nm l sp ac br] [] (vI (rate c.2 ac)) [] := by
 unfold rate
 refine X_fn mixedX Try.func70 rfl (by kernel_rfl) (Nat.le_of_ble_eq_true (by kernel_rfl)) (by kernel_rfl) rfl rfl (Nat.le_of_ble_eq_true rfl) rfl rfl ?_
 simp only [sl0, Nat.zero_add, Nat.reduceAdd]
 repeat' (first
  |with_reducible (first|refine q_and ?_ ?_|exact True.intro|exact TkEq.nil _|refine Red.o (by constructor) ?_|refine blockK_o' rfl ?_|refine LoopX_e' rfl ?_|assumption)
  |((with_reducible apply q_CI);intro hbq;(try simp only [bq] at hbq);(try (exfalso;omega)))
  |refine Rex.o (by (with_reducible constructor);apply Eq.refl) ?_
  |(intro (hgq : (_ : Bool) = true);(try simp only [bq] at hgq))
  |(intro (hgq : (_ : Bool) = false);(try simp only [bq] at hgq))
  |((with_reducible apply q_VOk);exact fun _ => ⟨rfl,rfl⟩)|(intro _;exact rfl)|((with_reducible apply q_CRB);kernel_rfl)|((with_reducible apply q_bt);simp only [bq])|((with_reducible apply q_eqN);rfl)|((with_reducible apply q_FE);exact rfl)|with_reducible (first|exact isByte_wrap _|exact isByte_nat _)|(simp only [hgq,bq];done)|omega|(dsimp only;omega))
 ·rw [if_pos (by omega)]; rfl
 ·rw [if_neg (by omega)]; rfl
theorem brake_ok (c : Int × Int) (nm : ByteArray) (l sp ac br : Int) (h0 : -40 ≤ c.2 ∧ c.2 ≤ 40) (h5 : 100 ≤ br) (h6 : br ≤ 2000) : OkV Try.prog 71 [vCe c, vS5 nm l sp ac br] [] (vI (rateB c.2 br)) [] := by
 unfold rateB
 refine X_fn mixedX Try.func71 rfl (by kernel_rfl) (Nat.le_of_ble_eq_true (by kernel_rfl)) (by kernel_rfl) rfl rfl (Nat.le_of_ble_eq_true rfl) rfl rfl ?_
 simp only [sl0, Nat.zero_add, Nat.reduceAdd]
 repeat' (first
  |with_reducible (first|refine q_and ?_ ?_|exact True.intro|exact TkEq.nil _|refine Red.o (by constructor) ?_|refine blockK_o' rfl ?_|refine LoopX_e' rfl ?_|assumption)
  |((with_reducible apply q_CI);intro hbq;(try simp only [bq] at hbq);(try (exfalso;omega)))
  |refine Rex.o (by (with_reducible constructor);apply Eq.refl) ?_
  |(intro (hgq : (_ : Bool) = true);(try simp only [bq] at hgq))
  |(intro (hgq : (_ : Bool) = false);(try simp only [bq] at hgq))
  |((with_reducible apply q_VOk);exact fun _ => ⟨rfl,rfl⟩)|(intro _;exact rfl)|((with_reducible apply q_CRB);kernel_rfl)|((with_reducible apply q_bt);simp only [bq])|((with_reducible apply q_eqN);rfl)|((with_reducible apply q_FE);exact rfl)|with_reducible (first|exact isByte_wrap _|exact isByte_nat _)|(simp only [hgq,bq];done)|omega|(dsimp only;omega))
 ·rw [if_pos (by omega)]; rfl
 ·rw [if_neg (by omega)]; rfl
theorem refSpeeds_ok (cs : List (Int × Int)) (start : Int) (nm : ByteArray) (l sp ac br : Int) (hl : cs.length ≤ 4611686018427387904) : OkV Try.prog 52 [.c (rCell cs), .c (xI start), vS5 nm l sp ac br] [] (.tup [.c (rInt (speedL cs start l sp ac br)), .c (xI (badRun cs start l sp ac br))]) [] := by
 have hC := refBad_ok cs start nm l sp ac br hl
 unfold speedL
 by_cases h : badRun cs start l sp ac br = 0
 ·obtain ⟨hc, hn, hall, h0, h2⟩ := bad_zero h
  obtain ⟨l1, l2, l3, l4, l5, l6, l7, l8⟩ := chk_of hc
  obtain ⟨s, rfl⟩ := Int.eq_ofNat_of_zero_le h0
  rw [h] at hC ⊢
  rw [if_pos rfl]
  simp only [Int.toNat_natCast]
  refine X_fnP mixedX Try.func52 rfl (by kernel_rfl) (Nat.le_of_ble_eq_true (by kernel_rfl)) (by kernel_rfl) rfl rfl ?_
  simp only [sl0, Nat.zero_add, Nat.reduceAdd]
  repeat' (first
   |with_reducible (first|refine q_and ?_ ?_|exact True.intro|exact TkEq.nil _|refine Red.o (by constructor) ?_|refine blockK_o' rfl ?_|refine LoopX_e' rfl ?_|assumption)
   |((with_reducible apply q_call);refine X_pure (hC) rfl ?_)
   |((with_reducible apply q_CI);intro hbq;(try simp only [bq] at hbq);(try (exfalso;omega)))
   |refine Rex.o (by (with_reducible constructor);apply Eq.refl) ?_
   |(intro (hgq : (_ : Bool) = true);(try simp only [bq] at hgq))
   |(intro (hgq : (_ : Bool) = false);(try simp only [bq] at hgq))
   |((with_reducible apply q_VOk);exact fun _ => ⟨rfl,rfl⟩)|(intro _;exact rfl)|((with_reducible apply q_CRB);kernel_rfl)|((with_reducible apply q_bt);simp only [bq])|((with_reducible apply q_eqN);rfl)|((with_reducible apply q_FE);exact rfl)|with_reducible (first|exact isByte_wrap _|exact isByte_nat _)|(simp only [hgq,bq];done)|omega|(dsimp only;omega))
  clear hC
  have eM : ((cs.length : Int) - s) = (cs.length - s : Nat) := by omega
  refine W_loopS (fun k : Nat => SS [sC 0 (rCell cs), sI 1 s, sC 5 (pB 0), sI 9 (cs.length - s : Nat), sC 10 (.c (.arr 1 0 (cs.length - s + 1) (cs.length - s + 1))), sI 11 (k + 1 : Nat)] [bS5 nm l sp ac br, bInt (row (cs.length - s + 1) (iniW cs s l.toNat sp (k + 1)))]) (fun k => k + 1 ≤ cs.length - s) (fun k => cs.length - s - k) 0 ?_ (by omega) ?_
  ·
   refine X_weak rfl rfl rfl ?_ ?_ <;> repeat' (first|with_reducible (first|refine Wk.o (by constructor) ?_|refine q_and ?_ ?_|exact True.intro)|refine q_AgS rfl ?_ ?_|exact CLe.nil_tipS|exact CLe.nil_rowS|refine HLe.cells ?_ ?_|refine HLe.els ?_ ?_|refine SLe.cons ?_ ?_|exact (rfl : known _ = _)|with_reducible rfl|omega)
   all_goals first
    | omega
    | (
     rw [show ((cs.length : Int) - s + 1).toNat = cs.length - s + 1 by omega, row_zero]
     refine row_ext fun j hj => ?_
     unfold iniW
     rw [if_neg (by omega)])
    | (rw [show ((cs.length : Int) - s + 1).toNat = cs.length - s + 1 by omega])
  intro k hk
  have a6 := row_len (cs.length - s + 1) (iniW cs s l.toNat sp (k + 1))
  by_cases hlt : k + 1 < cs.length - s
  ·have hA : OkV Try.prog 69 [.c (rCell cs), .c (xI ((s : Int) + ((k + 1 : Nat) : Int) - 1)), vS5 nm l sp ac br] [] (vI (limitOf cs (s + k) l.toNat sp)) [] := by
    rw [show (s : Int) + ((k + 1 : Nat) : Int) - 1 = ((s + k : Nat) : Int) by omega]
    exact refLimit_ok cs (s + k) nm l sp ac br (by omega) hn (by omega) l2
   have hB : OkV Try.prog 69 [.c (rCell cs), .c (xI ((s : Int) + ((k + 1 : Nat) : Int))), vS5 nm l sp ac br] [] (vI (limitOf cs (s + k + 1) l.toNat sp)) [] := by
    rw [show (s : Int) + ((k + 1 : Nat) : Int) = ((s + k + 1 : Nat) : Int) by omega]
    exact refLimit_ok cs (s + k + 1) nm l sp ac br (by omega) hn (by omega) l2
   have a1 := limit_range cs (s + k) l.toNat sp l3 hall
   have a2 := limit_range cs (s + k + 1) l.toNat sp l3 hall
   have a3 := sq_range (limitOf cs (s + k) l.toNat sp) (limitOf cs (s + k + 1) l.toNat sp) a1.1 (by omega) a2.1 (by omega)
   repeat' (first
    |with_reducible (first|refine q_and ?_ ?_|exact True.intro|exact TkEq.nil _|refine Red.o (by constructor) ?_|refine blockK_o' rfl ?_|refine LoopX_e' rfl ?_|assumption)
    |((with_reducible apply q_call);first|refine X_pure (hA) rfl ?_|refine X_pure (hB) rfl ?_)
    |((with_reducible apply q_CI);intro hbq;(try simp only [bq] at hbq);(try (exfalso;omega)))
    |refine Rex.o (by (with_reducible constructor);apply Eq.refl) ?_
    |(intro (hgq : (_ : Bool) = true);(try simp only [bq] at hgq))
    |(intro (hgq : (_ : Bool) = false);(try simp only [bq] at hgq))
    |((with_reducible apply q_VOk);exact fun _ => ⟨rfl,rfl⟩)|(intro _;exact rfl)|((with_reducible apply q_CRB);kernel_rfl)|((with_reducible apply q_bt);simp only [bq])|((with_reducible apply q_eqN);rfl)|((with_reducible apply q_FE);exact rfl)|with_reducible (first|exact isByte_wrap _|exact isByte_nat _)|(simp only [hgq,bq];done)|omega|(dsimp only;omega))
   ·rfl
   ·
    refine LoopK_n (k + 1) ?_ ((by omega)) (by (try dsimp only); omega)
    refine X_weak rfl rfl rfl ?_ ?_ <;> repeat' (first|with_reducible (first|refine Wk.o (by constructor) ?_|refine q_and ?_ ?_|exact True.intro)|refine q_AgS rfl ?_ ?_|exact CLe.nil_tipS|exact CLe.nil_rowS|refine HLe.cells ?_ ?_|refine HLe.els ?_ ?_|refine SLe.cons ?_ ?_|exact (rfl : known _ = _)|with_reducible rfl|omega)
    all_goals (
     rw [Int.toNat_natCast]
     refine row_set (i := k + 1) ?_ fun j hj hne => ?_
     ·unfold iniW lsq
      rw [if_pos (by omega), show s + (k + 1) - 1 = s + k by omega, show s + (k + 1) = s + k + 1 by omega]
     ·unfold iniW
      by_cases hj0 : 0 < j ∧ j < k + 1
      ·rw [if_pos hj0, if_pos (by omega)]
      ·rw [if_neg hj0, if_neg (by omega)])
  have hkM : k + 1 = cs.length - s := by omega
  repeat' (first
   |with_reducible (first|refine q_and ?_ ?_|exact True.intro|exact TkEq.nil _|refine Red.o (by constructor) ?_|refine blockK_o' rfl ?_|refine LoopX_e' rfl ?_|assumption)
   |((with_reducible apply q_CI);intro hbq;(try simp only [bq] at hbq);(try (exfalso;omega)))
   |refine Rex.o (by (with_reducible constructor);apply Eq.refl) ?_
   |(intro (hgq : (_ : Bool) = true);(try simp only [bq] at hgq))
   |(intro (hgq : (_ : Bool) = false);(try simp only [bq] at hgq))
   |((with_reducible apply q_VOk);exact fun _ => ⟨rfl,rfl⟩)|(intro _;exact rfl)|((with_reducible apply q_CRB);kernel_rfl)|((with_reducible apply q_bt);simp only [bq])|((with_reducible apply q_eqN);rfl)|((with_reducible apply q_FE);exact rfl)|with_reducible (first|exact isByte_wrap _|exact isByte_nat _)|(simp only [hgq,bq];done)|omega|(dsimp only;omega))
  rw [hkM] at a6 ⊢
  clear a6
  refine W_loopS (fun k : Nat => SS [sC 0 (rCell cs), sI 1 s, sC 5 (pB 0), sI 9 (cs.length - s : Nat), sC 10 (.c (.arr 1 0 (cs.length - s + 1) (cs.length - s + 1))), sI 13 k] [bS5 nm l sp ac br, bInt (row (cs.length - s + 1) fun j => if j ≤ k then fwW cs s l.toNat sp ac j else iniW cs s l.toNat sp (cs.length - s) j)]) (fun k => k ≤ cs.length - s) (fun k => cs.length - s - k) 0 ?_ (by omega) ?_
  ·
   refine X_weak rfl rfl rfl ?_ ?_ <;> repeat' (first|with_reducible (first|refine Wk.o (by constructor) ?_|refine q_and ?_ ?_|exact True.intro)|refine q_AgS rfl ?_ ?_|exact CLe.nil_tipS|exact CLe.nil_rowS|refine HLe.cells ?_ ?_|refine HLe.els ?_ ?_|refine SLe.cons ?_ ?_|exact (rfl : known _ = _)|with_reducible rfl|omega)
   all_goals (
    refine row_ext fun j hj => ?_
    by_cases hj0 : j ≤ 0
    ·rw [if_pos hj0, show j = 0 by omega]
     unfold iniW fwW
     rw [if_neg (by omega), if_pos (by omega)]
     rfl
    ·rw [if_neg hj0])
  clear hk hkM hlt
  intro k hk
  have a6 : (row (cs.length - s + 1) fun j => if j ≤ k then fwW cs s l.toNat sp ac j else iniW cs s l.toNat sp (cs.length - s) j).length = _ := row_len _ _
  by_cases hlt : k < cs.length - s
  ·have e1 : ((s : Int) + k).toNat = s + k := by omega
   have e2 : ((k : Int) + 1).toNat = k + 1 := by omega
   have hce := cell_of (List.all_eq_true.1 hall _ (List.getElem_mem (show s + k < cs.length by omega)))
   have eg : (cs.getD ((s : Int) + k).toNat (0, 0)) = cs[s + k] := by rw [e1]; exact getD_at _ _ _
   rw [← eg] at hce
   have hG := accel_ok (cs.getD ((s : Int) + k).toNat (0, 0)) nm l sp ac br ⟨hce.2.2.1, hce.2.2.2⟩ l5 l6
   have hgr := gain_range (cs.getD ((s : Int) + k).toNat (0, 0)).2 ac l5 l6
   rw [gain_rate] at hgr
   have a5 : (row (cs.length - s + 1) fun j => if j ≤ k then fwW cs s l.toNat sp ac j else iniW cs s l.toNat sp (cs.length - s) j).getD (k : Int).toNat 0 = fwW cs s l.toNat sp ac k := by rw [Int.toNat_natCast, row_get (by omega), if_pos (Nat.le_refl _)]
   have a7 : (row (cs.length - s + 1) fun j => if j ≤ k then fwW cs s l.toNat sp ac j else iniW cs s l.toNat sp (cs.length - s) j).getD ((k : Int) + 1).toNat 0 = iniW cs s l.toNat sp (cs.length - s) (k + 1) := by rw [e2, row_get (by omega), if_neg (by omega)]
   have a3 := fwW_range (start := s) (l := l.toNat) l3 l4 l5 l6 hall k
   have a4 := ini_range (start := s) (l := l.toNat) l3 l4 hall (cs.length - s) (k + 1)
   repeat' (first
    |with_reducible (first|refine q_and ?_ ?_|exact True.intro|exact TkEq.nil _|refine Red.o (by constructor) ?_|refine blockK_o' rfl ?_|refine LoopX_e' rfl ?_|assumption)
    |((with_reducible apply q_call);refine X_pure (hG) rfl ?_)
    |((with_reducible apply q_CI);intro hbq;(try simp only [bq] at hbq);(try (exfalso;omega)))
    |refine Rex.o (by (with_reducible constructor);apply Eq.refl) ?_
    |(intro (hgq : (_ : Bool) = true);(try simp only [bq] at hgq))
    |(intro (hgq : (_ : Bool) = false);(try simp only [bq] at hgq))
    |((with_reducible apply q_VOk);exact fun _ => ⟨rfl,rfl⟩)|(intro _;exact rfl)|((with_reducible apply q_CRB);kernel_rfl)|((with_reducible apply q_bt);simp only [bq])|((with_reducible apply q_eqN);rfl)|((with_reducible apply q_FE);exact rfl)|with_reducible (first|exact isByte_wrap _|exact isByte_nat _)|(simp only [hgq,bq];done)|omega|(dsimp only;omega))
   ·rfl
   ·
    refine LoopK_n (k + 1) ?_ ((by omega)) (by (try dsimp only); omega)
    refine X_weak rfl rfl rfl ?_ ?_ <;> repeat' (first|with_reducible (first|refine Wk.o (by constructor) ?_|refine q_and ?_ ?_|exact True.intro)|refine q_AgS rfl ?_ ?_|exact CLe.nil_tipS|exact CLe.nil_rowS|refine HLe.cells ?_ ?_|refine HLe.els ?_ ?_|refine SLe.cons ?_ ?_|exact (rfl : known _ = _)|with_reducible rfl|omega)
    all_goals (
     rw [a5, a7, e1, e2, ← gain_rate, fwW_step l3 l4 l5 l6 hall k hlt]
     refine row_set (i := k + 1) ?_ fun j hj hne => ?_
     ·rw [if_pos (Nat.le_refl _)]
     ·by_cases hji : j ≤ k
      ·rw [if_pos hji, if_pos (by omega)]
      ·rw [if_neg hji, if_neg (by omega)])
  have hkM : k = cs.length - s := by omega
  repeat' (first
   |with_reducible (first|refine q_and ?_ ?_|exact True.intro|exact TkEq.nil _|refine Red.o (by constructor) ?_|refine blockK_o' rfl ?_|refine LoopX_e' rfl ?_|assumption)
   |((with_reducible apply q_CI);intro hbq;(try simp only [bq] at hbq);(try (exfalso;omega)))
   |refine Rex.o (by (with_reducible constructor);apply Eq.refl) ?_
   |(intro (hgq : (_ : Bool) = true);(try simp only [bq] at hgq))
   |(intro (hgq : (_ : Bool) = false);(try simp only [bq] at hgq))
   |((with_reducible apply q_VOk);exact fun _ => ⟨rfl,rfl⟩)|(intro _;exact rfl)|((with_reducible apply q_CRB);kernel_rfl)|((with_reducible apply q_bt);simp only [bq])|((with_reducible apply q_eqN);rfl)|((with_reducible apply q_FE);exact rfl)|with_reducible (first|exact isByte_wrap _|exact isByte_nat _)|(simp only [hgq,bq];done)|omega|(dsimp only;omega))
  refine W_loopS (fun d : Nat => SS [sC 0 (rCell cs), sI 1 s, sC 5 (pB 0), sI 9 (cs.length - s : Nat), sC 10 (.c (.arr 1 0 (cs.length - s + 1) (cs.length - s + 1))), sI 14 (((cs.length - s : Nat) : Int) - d)] [bS5 nm l sp ac br, bInt (row (cs.length - s + 1) fun j => if j + d < cs.length - s then fwW cs s l.toNat sp ac j else sqW cs s l.toNat sp ac br j)]) (fun d => d ≤ cs.length - s) (fun d => cs.length - s - d) 0 ?_ (by omega) ?_
  ·
   refine X_weak rfl rfl rfl ?_ ?_ <;> repeat' (first|with_reducible (first|refine Wk.o (by constructor) ?_|refine q_and ?_ ?_|exact True.intro)|refine q_AgS rfl ?_ ?_|exact CLe.nil_tipS|exact CLe.nil_rowS|refine HLe.cells ?_ ?_|refine HLe.els ?_ ?_|refine SLe.cons ?_ ?_|exact (rfl : known _ = _)|with_reducible rfl|omega)
   all_goals (
    refine row_ext fun j hj => ?_
    rw [if_pos (by omega)]
    by_cases hj0 : j < cs.length - s
    ·rw [if_pos (by omega)]
    ·rw [if_neg (by omega), show j = cs.length - s by omega, sqW_end (by omega)]
     unfold fwW
     rw [if_neg (by omega)])
  clear hk hkM hlt a6
  intro d hd
  have a6 : (row (cs.length - s + 1) fun j => if j + d < cs.length - s then fwW cs s l.toNat sp ac j else sqW cs s l.toNat sp ac br j).length = _ := row_len _ _
  by_cases hlt : d < cs.length - s
  ·generalize he : cs.length - s - d - 1 = e
   have e1 : ((s : Int) + (((cs.length - s : Nat) : Int) - d) - 1).toNat = s + e := by omega
   have e2 : (((cs.length - s : Nat) : Int) - d - 1).toNat = e := by omega
   have e3 : (((cs.length - s : Nat) : Int) - d).toNat = e + 1 := by omega
   have hce := cell_of (List.all_eq_true.1 hall _ (List.getElem_mem (show s + e < cs.length by omega)))
   have eg : (cs.getD ((s : Int) + (((cs.length - s : Nat) : Int) - d) - 1).toNat (0, 0)) = cs[s + e] := by rw [e1]; exact getD_at _ _ _
   rw [← eg] at hce
   have hG := brake_ok (cs.getD ((s : Int) + (((cs.length - s : Nat) : Int) - d) - 1).toNat (0, 0)) nm l sp ac br ⟨hce.2.2.1, hce.2.2.2⟩ l7 l8
   have hgr := loss_range (cs.getD ((s : Int) + (((cs.length - s : Nat) : Int) - d) - 1).toNat (0, 0)).2 br l7 l8
   rw [loss_rate] at hgr
   have a5 : (row (cs.length - s + 1) fun j => if j + d < cs.length - s then fwW cs s l.toNat sp ac j else sqW cs s l.toNat sp ac br j).getD (((cs.length - s : Nat) : Int) - d).toNat 0 = sqW cs s l.toNat sp ac br (e + 1) := by rw [e3, row_get (by omega), if_neg (by omega)]
   have a7 : (row (cs.length - s + 1) fun j => if j + d < cs.length - s then fwW cs s l.toNat sp ac j else sqW cs s l.toNat sp ac br j).getD (((cs.length - s : Nat) : Int) - d - 1).toNat 0 = fwW cs s l.toNat sp ac e := by rw [e2, row_get (by omega), if_pos (by omega)]
   have a3 := fwW_range (start := s) (l := l.toNat) l3 l4 l5 l6 hall e
   have a4 := sqW_range (start := s) (l := l.toNat) l3 l4 l5 l6 l7 l8 hall (e + 1)
   repeat' (first
    |with_reducible (first|refine q_and ?_ ?_|exact True.intro|exact TkEq.nil _|refine Red.o (by constructor) ?_|refine blockK_o' rfl ?_|refine LoopX_e' rfl ?_|assumption)
    |((with_reducible apply q_call);refine X_pure (hG) rfl ?_)
    |((with_reducible apply q_CI);intro hbq;(try simp only [bq] at hbq);(try (exfalso;omega)))
    |refine Rex.o (by (with_reducible constructor);apply Eq.refl) ?_
    |(intro (hgq : (_ : Bool) = true);(try simp only [bq] at hgq))
    |(intro (hgq : (_ : Bool) = false);(try simp only [bq] at hgq))
    |((with_reducible apply q_VOk);exact fun _ => ⟨rfl,rfl⟩)|(intro _;exact rfl)|((with_reducible apply q_CRB);kernel_rfl)|((with_reducible apply q_bt);simp only [bq])|((with_reducible apply q_eqN);rfl)|((with_reducible apply q_FE);exact rfl)|with_reducible (first|exact isByte_wrap _|exact isByte_nat _)|(simp only [hgq,bq];done)|omega|(dsimp only;omega))
   ·rfl
   ·
    refine LoopK_n (d + 1) ?_ ((by omega)) (by (try dsimp only); omega)
    refine X_weak rfl rfl rfl ?_ ?_ <;> repeat' (first|with_reducible (first|refine Wk.o (by constructor) ?_|refine q_and ?_ ?_|exact True.intro)|refine q_AgS rfl ?_ ?_|exact CLe.nil_tipS|exact CLe.nil_rowS|refine HLe.cells ?_ ?_|refine HLe.els ?_ ?_|refine SLe.cons ?_ ?_|exact (rfl : known _ = _)|with_reducible rfl|omega)
    all_goals (
     rw [a5, a7, e1, e2, ← loss_rate, sqW_step l3 l4 l5 l6 l7 l8 hall e (by omega)]
     refine row_set (i := e) ?_ fun j hj hne => ?_
     ·rw [if_neg (by omega)]
     ·by_cases hji : j + d < cs.length - s
      ·rw [if_pos hji, if_pos (by omega)]
      ·rw [if_neg hji, if_neg (by omega)])
  have hkM : d = cs.length - s := by omega
  repeat' (first
   |with_reducible (first|refine q_and ?_ ?_|exact True.intro|exact TkEq.nil _|refine Red.o (by constructor) ?_|refine blockK_o' rfl ?_|refine LoopX_e' rfl ?_|assumption)
   |((with_reducible apply q_CI);intro hbq;(try simp only [bq] at hbq);(try (exfalso;omega)))
   |refine Rex.o (by (with_reducible constructor);apply Eq.refl) ?_
   |(intro (hgq : (_ : Bool) = true);(try simp only [bq] at hgq))
   |(intro (hgq : (_ : Bool) = false);(try simp only [bq] at hgq))
   |((with_reducible apply q_VOk);exact fun _ => ⟨rfl,rfl⟩)|(intro _;exact rfl)|((with_reducible apply q_CRB);kernel_rfl)|((with_reducible apply q_bt);simp only [bq])|((with_reducible apply q_eqN);rfl)|((with_reducible apply q_FE);exact rfl)|with_reducible (first|exact isByte_wrap _|exact isByte_nat _)|(simp only [hgq,bq];done)|omega|(dsimp only;omega))
  refine W_loopS (fun i : Nat => SS [sI 9 (cs.length - s : Nat), sC 10 (.c (.arr 1 0 (cs.length - s + 1) (cs.length - s + 1))), sI 15 i] [none, bInt (row (cs.length - s + 1) fun j => if j < i then ((spd cs s l.toNat sp ac br j : Nat) : Int) else sqW cs s l.toNat sp ac br j)]) (fun i => i ≤ cs.length - s + 1) (fun i => cs.length - s + 1 - i) 0 ?_ (by omega) ?_
  ·
   refine X_weak rfl rfl rfl ?_ ?_ <;> repeat' (first|with_reducible (first|refine Wk.o (by constructor) ?_|refine q_and ?_ ?_|exact True.intro)|refine q_AgS rfl ?_ ?_|exact CLe.nil_tipS|exact CLe.nil_rowS|refine HLe.cells ?_ ?_|refine HLe.els ?_ ?_|refine SLe.cons ?_ ?_|exact (rfl : known _ = _)|with_reducible rfl|omega)
   all_goals (
    refine row_ext fun j hj => ?_
    rw [if_neg (by omega), if_neg (by omega)])
  clear hd hkM hlt a6
  intro i hi
  have a6 : (row (cs.length - s + 1) fun j => if j < i then ((spd cs s l.toNat sp ac br j : Nat) : Int) else sqW cs s l.toNat sp ac br j).length = _ := row_len _ _
  have a4 := sqW_range (start := s) (l := l.toNat) l3 l4 l5 l6 l7 l8 hall i
  by_cases hil : i < cs.length - s + 1
  ·have a5 : (row (cs.length - s + 1) fun j => if j < i then ((spd cs s l.toNat sp ac br j : Nat) : Int) else sqW cs s l.toNat sp ac br j).getD (i : Int).toNat 0 = sqW cs s l.toNat sp ac br i := by
    rw [Int.toNat_natCast, row_get hil, if_neg (by omega)]
   have hQ := refSqrt_okV ((row (cs.length - s + 1) fun j => if j < i then ((spd cs s l.toNat sp ac br j : Nat) : Int) else sqW cs s l.toNat sp ac br j).getD (i : Int).toNat 0) (by rw [a5]; omega)
   repeat' (first
    |with_reducible (first|refine q_and ?_ ?_|exact True.intro|exact TkEq.nil _|refine Red.o (by constructor) ?_|refine blockK_o' rfl ?_|refine LoopX_e' rfl ?_|assumption)
    |((with_reducible apply q_call);refine X_pure (hQ) rfl ?_)
    |((with_reducible apply q_CI);intro hbq;(try simp only [bq] at hbq);(try (exfalso;omega)))
    |refine Rex.o (by (with_reducible constructor);apply Eq.refl) ?_
    |(intro (hgq : (_ : Bool) = true);(try simp only [bq] at hgq))
    |(intro (hgq : (_ : Bool) = false);(try simp only [bq] at hgq))
    |((with_reducible apply q_VOk);exact fun _ => ⟨rfl,rfl⟩)|(intro _;exact rfl)|((with_reducible apply q_CRB);kernel_rfl)|((with_reducible apply q_bt);simp only [bq])|((with_reducible apply q_eqN);rfl)|((with_reducible apply q_FE);exact rfl)|with_reducible (first|exact isByte_wrap _|exact isByte_nat _)|(simp only [hgq,bq];done)|omega|(dsimp only;omega))
   ·rfl
   ·
    refine LoopK_n (i + 1) ?_ ((by omega)) (by (try dsimp only); omega)
    refine X_weak rfl rfl rfl ?_ ?_ <;> repeat' (first|with_reducible (first|refine Wk.o (by constructor) ?_|refine q_and ?_ ?_|exact True.intro)|refine q_AgS rfl ?_ ?_|exact CLe.nil_tipS|exact CLe.nil_rowS|refine HLe.cells ?_ ?_|refine HLe.els ?_ ?_|refine SLe.cons ?_ ?_|exact (rfl : known _ = _)|with_reducible rfl|omega)
    all_goals (
     rw [a5, Int.toNat_natCast]
     refine row_set (i := i) ?_ fun j hj hne => ?_
     ·rw [if_pos (by omega)]; rfl
     ·by_cases hji : j < i
      ·rw [if_pos hji, if_pos (by omega)]
      ·rw [if_neg hji, if_neg (by omega)])
  ·have hr : (row (cs.length - s + 1) fun j => if j < i then ((spd cs s l.toNat sp ac br j : Nat) : Int) else sqW cs s l.toNat sp ac br j) = row (cs.length - s + 1) fun j => ((spd cs s l.toNat sp ac br j : Nat) : Int) := row_ext fun j hj => if_pos (by omega)
   repeat' (first
    |with_reducible (first|refine q_and ?_ ?_|exact True.intro|exact TkEq.nil _|refine Red.o (by constructor) ?_|refine blockK_o' rfl ?_|refine LoopX_e' rfl ?_|assumption)
    |((with_reducible apply q_CI);intro hbq;(try simp only [bq] at hbq);(try (exfalso;omega)))
    |refine Rex.o (by (with_reducible constructor);apply Eq.refl) ?_
    |(intro (hgq : (_ : Bool) = true);(try simp only [bq] at hgq))
    |(intro (hgq : (_ : Bool) = false);(try simp only [bq] at hgq))
    |((with_reducible apply q_VOk);exact fun _ => ⟨rfl,rfl⟩)|(intro _;exact rfl)|((with_reducible apply q_CRB);kernel_rfl)|((with_reducible apply q_bt);simp only [bq])|((with_reducible apply q_eqN);rfl)|((with_reducible apply q_FE);exact rfl)|with_reducible (first|exact isByte_wrap _|exact isByte_nat _)|(simp only [hgq,bq];done)|omega|(dsimp only;omega))
   rw [hr]; rfl
 ·rw [if_neg h]
  refine X_fn mixedX Try.func52 rfl (by kernel_rfl) (Nat.le_of_ble_eq_true (by kernel_rfl)) (by kernel_rfl) rfl rfl (Nat.le_of_ble_eq_true rfl) rfl rfl ?_
  simp only [sl0, Nat.zero_add, Nat.reduceAdd]
  repeat' (first
   |with_reducible (first|refine q_and ?_ ?_|exact True.intro|exact TkEq.nil _|refine Red.o (by constructor) ?_|refine blockK_o' rfl ?_|refine LoopX_e' rfl ?_|assumption)
   |((with_reducible apply q_call);refine X_pure (hC) rfl ?_)
   |((with_reducible apply q_CI);intro hbq;(try simp only [bq] at hbq);(try (exfalso;omega)))
   |refine Rex.o (by (with_reducible constructor);apply Eq.refl) ?_
   |(intro (hgq : (_ : Bool) = true);(try simp only [bq] at hgq))
   |(intro (hgq : (_ : Bool) = false);(try simp only [bq] at hgq))
   |((with_reducible apply q_VOk);exact fun _ => ⟨rfl,rfl⟩)|(intro _;exact rfl)|((with_reducible apply q_CRB);kernel_rfl)|((with_reducible apply q_bt);simp only [bq])|((with_reducible apply q_eqN);rfl)|((with_reducible apply q_FE);exact rfl)|with_reducible (first|exact isByte_wrap _|exact isByte_nat _)|(simp only [hgq,bq];done)|omega|(dsimp only;omega))
  ·rfl
theorem refTimes_ok (cs : List (Int × Int)) (start : Int) (nm : ByteArray) (l sp ac br : Int) (hl : cs.length ≤ 4611686018427387904) : OkV Try.prog 34 [.c (rCell cs), .c (xI start), vS5 nm l sp ac br] [] (.tup [.c (rInt (timeL cs start l sp ac br)), .c (xI (badRun cs start l sp ac br))]) [] := by
 have hC := refSpeeds_ok cs start nm l sp ac br hl
 unfold timeL
 by_cases h : badRun cs start l sp ac br = 0
 ·obtain ⟨hc, hn, hall, h0, h2⟩ := bad_zero h
  obtain ⟨l1, l2, l3, l4, l5, l6, l7, l8⟩ := chk_of hc
  obtain ⟨s, rfl⟩ := Int.eq_ofNat_of_zero_le h0
  unfold speedL at hC
  rw [h, if_pos rfl] at hC
  rw [h, if_pos rfl]
  simp only [Int.toNat_natCast] at hC ⊢
  have b6 := row_len (cs.length - s + 1) fun j => ((spd cs s l.toNat sp ac br j : Nat) : Int)
  have b5 : ∀ j, j < cs.length - s + 1 → (row (cs.length - s + 1) fun j => ((spd cs s l.toNat sp ac br j : Nat) : Int)).getD j 0 = spd cs s l.toNat sp ac br j := fun j hj => row_get hj
  generalize (row (cs.length - s + 1) fun j => ((spd cs s l.toNat sp ac br j : Nat) : Int)) = vs at hC b6 b5
  refine X_fnP mixedX Try.func34 rfl (by kernel_rfl) (Nat.le_of_ble_eq_true (by kernel_rfl)) (by kernel_rfl) rfl rfl ?_
  simp only [sl0, Nat.zero_add, Nat.reduceAdd]
  repeat' (first
   |with_reducible (first|refine q_and ?_ ?_|exact True.intro|exact TkEq.nil _|refine Red.o (by constructor) ?_|refine blockK_o' rfl ?_|refine LoopX_e' rfl ?_|assumption)
   |((with_reducible apply q_call);refine X_pure (hC) rfl ?_)
   |((with_reducible apply q_CI);intro hbq;(try simp only [bq] at hbq);(try (exfalso;omega)))
   |refine Rex.o (by (with_reducible constructor);apply Eq.refl) ?_
   |(intro (hgq : (_ : Bool) = true);(try simp only [bq] at hgq))
   |(intro (hgq : (_ : Bool) = false);(try simp only [bq] at hgq))
   |((with_reducible apply q_VOk);exact fun _ => ⟨rfl,rfl⟩)|(intro _;exact rfl)|((with_reducible apply q_CRB);kernel_rfl)|((with_reducible apply q_bt);simp only [bq])|((with_reducible apply q_eqN);rfl)|((with_reducible apply q_FE);exact rfl)|with_reducible (first|exact isByte_wrap _|exact isByte_nat _)|(simp only [hgq,bq];done)|omega|(dsimp only;omega))
  clear hC
  refine W_loopS (fun i : Nat => SS [sC 8 (rInt vs), sC 10 (.c (.arr 1 0 (cs.length - s + 1) (cs.length - s + 1))), sI 11 (i + 1 : Nat)] [none, bInt (row (cs.length - s + 1) fun j => if j ≤ i then tim cs s l.toNat sp ac br j else 0)]) (fun i => i ≤ cs.length - s) (fun i => cs.length - s - i) 0 ?_ (by omega) ?_
  ·
   refine X_weak rfl rfl rfl ?_ ?_ <;> repeat' (first|with_reducible (first|refine Wk.o (by constructor) ?_|refine q_and ?_ ?_|exact True.intro)|refine q_AgS rfl ?_ ?_|exact CLe.nil_tipS|exact CLe.nil_rowS|refine HLe.cells ?_ ?_|refine HLe.els ?_ ?_|refine SLe.cons ?_ ?_|exact (rfl : known _ = _)|with_reducible rfl|omega)
   all_goals first
    | (rw [b6]; rfl)
    | (
     rw [b6, Int.toNat_natCast, row_zero]
     refine row_ext fun j hj => ?_
     by_cases hj0 : j ≤ 0
     ·rw [if_pos hj0, show j = 0 by omega]; rfl
     ·rw [if_neg hj0])
  intro i hi
  have a6 := row_len (cs.length - s + 1) fun j => if j ≤ i then tim cs s l.toNat sp ac br j else 0
  by_cases hil : i < cs.length - s
  ·have e1 : (((i + 1 : Nat) : Int) - 1).toNat = i := by omega
   have e2 : ((i + 1 : Nat) : Int).toNat = i + 1 := by omega
   have a5 : (row (cs.length - s + 1) fun j => if j ≤ i then tim cs s l.toNat sp ac br j else 0).getD (((i + 1 : Nat) : Int) - 1).toNat 0 = tim cs s l.toNat sp ac br i := by
    rw [e1, row_get (by omega), if_pos (Nat.le_refl _)]
   have a4 := tim_range (start := s) (l := l.toNat) l3 l4 l5 l6 l7 l8 hall (by omega) i (by omega)
   have a7 := spd_sum (start := s) (l := l.toNat) l3 l4 l5 l6 l7 l8 hall (by omega) i hil
   have a8 := step_range (start := s) (l := l.toNat) l3 l4 l5 l6 l7 l8 hall (by omega) i hil
   have c1 := b5 i (by omega)
   have c2 := b5 (i + 1) (by omega)
   have c3 : vs.getD (((i + 1 : Nat) : Int) - 1).toNat 0 = spd cs s l.toNat sp ac br i := by rw [e1, c1]
   have c4 : vs.getD ((i + 1 : Nat) : Int).toNat 0 = spd cs s l.toNat sp ac br (i + 1) := by rw [e2, c2]
   have c5 : Pl.cdiv 20000000 (vs.getD (((i + 1 : Nat) : Int) - 1).toNat 0 + vs.getD ((i + 1 : Nat) : Int).toNat 0) = Pl.cdiv 20000000 ((spd cs s l.toNat sp ac br i : Int) + spd cs s l.toNat sp ac br (i + 1)) := by rw [c3, c4]
   rw [← c5] at a8
   have hQ := refCeil_okV 20000000 (vs.getD (((i + 1 : Nat) : Int) - 1).toNat 0 + vs.getD ((i + 1 : Nat) : Int).toNat 0) (by omega) (by rw [c3, c4]; omega)
   repeat' (first
    |with_reducible (first|refine q_and ?_ ?_|exact True.intro|exact TkEq.nil _|refine Red.o (by constructor) ?_|refine blockK_o' rfl ?_|refine LoopX_e' rfl ?_|assumption)
    |((with_reducible apply q_call);refine X_pure (hQ) rfl ?_)
    |((with_reducible apply q_CI);intro hbq;(try simp only [bq] at hbq);(try (exfalso;omega)))
    |refine Rex.o (by (with_reducible constructor);apply Eq.refl) ?_
    |(intro (hgq : (_ : Bool) = true);(try simp only [bq] at hgq))
    |(intro (hgq : (_ : Bool) = false);(try simp only [bq] at hgq))
    |((with_reducible apply q_VOk);exact fun _ => ⟨rfl,rfl⟩)|(intro _;exact rfl)|((with_reducible apply q_CRB);kernel_rfl)|((with_reducible apply q_bt);simp only [bq])|((with_reducible apply q_eqN);rfl)|((with_reducible apply q_FE);exact rfl)|with_reducible (first|exact isByte_wrap _|exact isByte_nat _)|(simp only [hgq,bq];done)|omega|(dsimp only;omega))
   ·rfl
   ·
    refine LoopK_n (i + 1) ?_ ((by omega)) (by (try dsimp only); omega)
    refine X_weak rfl rfl rfl ?_ ?_ <;> repeat' (first|with_reducible (first|refine Wk.o (by constructor) ?_|refine q_and ?_ ?_|exact True.intro)|refine q_AgS rfl ?_ ?_|exact CLe.nil_tipS|exact CLe.nil_rowS|refine HLe.cells ?_ ?_|refine HLe.els ?_ ?_|refine SLe.cons ?_ ?_|exact (rfl : known _ = _)|with_reducible rfl|omega)
    all_goals (
     rw [a5, c5, e2]
     refine row_set (i := i + 1) ?_ fun j hj hne => ?_
     ·rw [if_pos (by omega)]; rfl
     ·by_cases hji : j ≤ i
      ·rw [if_pos hji, if_pos (by omega)]
      ·rw [if_neg hji, if_neg (by omega)])
  ·have hr : row (cs.length - s + 1) (fun j => if j ≤ i then tim cs s l.toNat sp ac br j else 0) = row (cs.length - s + 1) (tim cs s l.toNat sp ac br) := row_ext fun j hj => if_pos (by omega)
   repeat' (first
    |with_reducible (first|refine q_and ?_ ?_|exact True.intro|exact TkEq.nil _|refine Red.o (by constructor) ?_|refine blockK_o' rfl ?_|refine LoopX_e' rfl ?_|assumption)
    |((with_reducible apply q_CI);intro hbq;(try simp only [bq] at hbq);(try (exfalso;omega)))
    |refine Rex.o (by (with_reducible constructor);apply Eq.refl) ?_
    |(intro (hgq : (_ : Bool) = true);(try simp only [bq] at hgq))
    |(intro (hgq : (_ : Bool) = false);(try simp only [bq] at hgq))
    |((with_reducible apply q_VOk);exact fun _ => ⟨rfl,rfl⟩)|(intro _;exact rfl)|((with_reducible apply q_CRB);kernel_rfl)|((with_reducible apply q_bt);simp only [bq])|((with_reducible apply q_eqN);rfl)|((with_reducible apply q_FE);exact rfl)|with_reducible (first|exact isByte_wrap _|exact isByte_nat _)|(simp only [hgq,bq];done)|omega|(dsimp only;omega))
   rw [hr]; rfl
 ·unfold speedL at hC
  rw [if_neg h] at hC ⊢
  refine X_fn mixedX Try.func34 rfl (by kernel_rfl) (Nat.le_of_ble_eq_true (by kernel_rfl)) (by kernel_rfl) rfl rfl (Nat.le_of_ble_eq_true rfl) rfl rfl ?_
  simp only [sl0, Nat.zero_add, Nat.reduceAdd]
  repeat' (first
   |with_reducible (first|refine q_and ?_ ?_|exact True.intro|exact TkEq.nil _|refine Red.o (by constructor) ?_|refine blockK_o' rfl ?_|refine LoopX_e' rfl ?_|assumption)
   |((with_reducible apply q_call);refine X_pure (hC) rfl ?_)
   |((with_reducible apply q_CI);intro hbq;(try simp only [bq] at hbq);(try (exfalso;omega)))
   |refine Rex.o (by (with_reducible constructor);apply Eq.refl) ?_
   |(intro (hgq : (_ : Bool) = true);(try simp only [bq] at hgq))
   |(intro (hgq : (_ : Bool) = false);(try simp only [bq] at hgq))
   |((with_reducible apply q_VOk);exact fun _ => ⟨rfl,rfl⟩)|(intro _;exact rfl)|((with_reducible apply q_CRB);kernel_rfl)|((with_reducible apply q_bt);simp only [bq])|((with_reducible apply q_eqN);rfl)|((with_reducible apply q_FE);exact rfl)|with_reducible (first|exact isByte_wrap _|exact isByte_nat _)|(simp only [hgq,bq];done)|omega|(dsimp only;omega))
  ·rfl
abbrev vR2 (st : List Stp) (ov : Int) : SV := .agg [rStp st, xI ov]
def tight (L : Lay) (l : Int) (s : Stp) : Bool := decide ((secA L s).len < max 2 l)
def fitErr (L : Lay) (r : Rte) (l sp ac br : Int) : Int := if celErr L r ≠ 0 then celErr L r else if chkB l sp ac br = false then 1 else if (trv r).any (tight L l) = true then 12 else 0
section
variable {L : Lay} {r : Rte} {l sp ac br : Int}
theorem fit_c (h : ¬ celErr L r = 0) : fitErr L r l sp ac br = celErr L r := if_pos h
theorem fit_1 (h : celErr L r = 0) (h2 : chkB l sp ac br = false) : fitErr L r l sp ac br = 1 := by unfold fitErr; rw [if_neg (by simpa using h), if_pos h2]
theorem fit_12 (h : celErr L r = 0) (h2 : chkB l sp ac br = true) (h3 : (trv r).any (tight L l) = true) : fitErr L r l sp ac br = 12 := by unfold fitErr; rw [if_neg (by simpa using h), if_neg (by rw [h2]; decide), if_pos h3]
theorem fit_0 (h : celErr L r = 0) (h2 : chkB l sp ac br = true) (h3 : (trv r).any (tight L l) = false) : fitErr L r l sp ac br = 0 := by unfold fitErr; rw [if_neg (by simpa using h), if_neg (by rw [h2]; decide), if_neg (by rw [h3]; decide)]
theorem cel_rte (h : celErr L r = 0) : rteErr L r = 0 := by
 unfold celErr at h
 split at h
 ·exact h
 ·rename_i h2; simpa using h2
theorem trv_len (h : RteOk L r) : ((trv r).length : Int) = r.st.length - r.ov := by
 have := h.ov0; have := h.two; have := h.ov
 unfold trv; rw [List.length_take]; omega
theorem trv_at (h : RteOk L r) {i : Nat} (hi : (i : Int) < r.st.length - r.ov) : (trv r).getD i st0 = r.st.getD i st0 := by
 unfold trv
 rw [List.getD_eq_getElem?_getD, List.getD_eq_getElem?_getD, List.getElem?_take_of_lt (by omega)]
theorem any_at {l : List Stp} {p : Stp → Bool} {i : Nat} (hi : i < l.length) (h : p (l.getD i st0) = true) : l.any p = true := by
 rw [List.getD_eq_getElem?_getD, List.getElem?_eq_getElem hi] at h
 exact List.any_eq_true.2 ⟨_, List.getElem_mem hi, h⟩
theorem any_not {l : List Stp} {p : Stp → Bool} (h : ∀ j, j < l.length → p (l.getD j st0) = false) : l.any p = false := by
 rw [Bool.eq_false_iff]
 intro ha
 obtain ⟨x, hx, h1⟩ := List.any_eq_true.1 ha
 obtain ⟨i, hi, rfl⟩ := List.mem_iff_getElem.1 hx
 have := h i hi
 rw [List.getD_eq_getElem?_getD, List.getElem?_eq_getElem hi] at this
 rw [show (some l[i]).getD st0 = l[i] from rfl] at this
 rw [this] at h1; cases h1
end
theorem travelled_ok (st : List Stp) (ov : Int) (hl : st.length ≤ 9223372036854775807) (h0 : 0 ≤ ov ∧ ov ≤ st.length) : OkV Try.prog 49 [vR2 st ov] [] (.c (rStp (trv ⟨st, ov⟩))) [] := by
 unfold trv
 refine X_fn mixedX Try.func49 rfl (by kernel_rfl) (Nat.le_of_ble_eq_true (by kernel_rfl)) (by kernel_rfl) rfl rfl (Nat.le_of_ble_eq_true rfl) rfl rfl ?_
 simp only [sl0, Nat.zero_add, Nat.reduceAdd]
 repeat' (first
  |with_reducible (first|refine q_and ?_ ?_|exact True.intro|exact TkEq.nil _|refine Red.o (by constructor) ?_|refine blockK_o' rfl ?_|refine LoopX_e' rfl ?_|assumption)
  |((with_reducible apply q_CI);intro hbq;(try simp only [bq] at hbq);(try (exfalso;omega)))
  |refine Rex.o (by (with_reducible constructor);apply Eq.refl) ?_
  |(intro (hgq : (_ : Bool) = true);(try simp only [bq] at hgq))
  |(intro (hgq : (_ : Bool) = false);(try simp only [bq] at hgq))
  |((with_reducible apply q_VOk);exact fun _ => ⟨rfl,rfl⟩)|(intro _;exact rfl)|((with_reducible apply q_CRB);kernel_rfl)|((with_reducible apply q_bt);simp only [bq])|((with_reducible apply q_eqN);rfl)|((with_reducible apply q_FE);exact rfl)|with_reducible (first|exact isByte_wrap _|exact isByte_nat _)|(simp only [hgq,bq];done)|omega|(dsimp only;omega))
 repeat' (first|with_reducible (first|refine Wk.o (by constructor) ?_|refine q_and ?_ ?_|exact True.intro)|refine VEq.c ?_|refine VEq.agg ?_|refine VEq.tup ?_|refine TkEq.cells ?_ ?_|refine TkEq.els ?_ ?_|refine SEqL.cons ?_ ?_|refine TEqL.agg ?_ ?_|refine CEq.rows ?_|refine CEq.int ?_|rfl|omega)
theorem fit_ok (L : Lay) (hL : LayFits L) (st : List Stp) (ov : Int) (hl : st.length ≤ 9223372036854775807) (ho : -9223372036854775808 ≤ ov ∧ ov ≤ 9223372036854775807) (nm : ByteArray) (l sp ac br : Int) : OkV Try.prog 45 [vLay L, vR2 st ov, vS5 nm l sp ac br] [] (.tup [.agg [rCell (if fitErr L ⟨st, ov⟩ l sp ac br = 0 then celL L (trv ⟨st, ov⟩) else []), xI (if fitErr L ⟨st, ov⟩ l sp ac br = 0 then celOne L ⟨st, ov⟩ else 0)], .c (xI (fitErr L ⟨st, ov⟩ l sp ac br))]) [] := by
 have hC := cells_ok L hL st ov hl ho
 have hK := chk_ok nm l sp ac br
 by_cases hc : celErr L ⟨st, ov⟩ = 0
 ·have hr := rte_of (cel_rte hc)
  have hT := travelled_ok st ov hl ⟨hr.ov0, by have := hr.two; simp only at this; omega⟩
  have htl := trv_len hr
  have hr1 := hr.ov0
  have hr3 := hr.len
  simp only at hr1 hr3
  have hV := valid_of hr.lay
  have hn3 := hV.n3
  have hok := all_take hr.ok ((st.length : Int) - ov).toNat
  change (trv ⟨st, ov⟩).all (Stp.ok L) = true at hok
  unfold celOut at hC
  rw [hc, if_pos rfl] at hC
  generalize hts : trv ⟨st, ov⟩ = ts at *
  simp only at htl
  generalize celOne L ⟨st, ov⟩ = one at hC ⊢
  unfold vLay at hC ⊢
  refine X_fn mixedX Try.func45 rfl (by kernel_rfl) (Nat.le_of_ble_eq_true (by kernel_rfl)) (by kernel_rfl) rfl rfl (Nat.le_of_ble_eq_true rfl) rfl rfl ?_
  simp only [sl0, Nat.zero_add, Nat.reduceAdd]
  repeat' (first
   |with_reducible (first|refine q_and ?_ ?_|exact True.intro|exact TkEq.nil _|refine Red.o (by constructor) ?_|refine blockK_o' rfl ?_|refine LoopX_e' rfl ?_|assumption)
   |((with_reducible apply q_call);first|refine X_pure (hC) rfl ?_|refine X_pure (hK) rfl ?_|refine X_pure (hT) rfl ?_)
   |((with_reducible apply q_CI);intro hbq;(try simp only [bq] at hbq);(try (exfalso;omega)))
   |refine Rex.o (by (with_reducible constructor);apply Eq.refl) ?_
   |(intro (hgq : (_ : Bool) = true);(try simp only [bq] at hgq))
   |(intro (hgq : (_ : Bool) = false);(try simp only [bq] at hgq))
   |((with_reducible apply q_VOk);exact fun _ => ⟨rfl,rfl⟩)|(intro _;exact rfl)|((with_reducible apply q_CRB);kernel_rfl)|((with_reducible apply q_bt);simp only [bq])|((with_reducible apply q_eqN);rfl)|((with_reducible apply q_FE);exact rfl)|with_reducible (first|exact isByte_wrap _|exact isByte_nat _)|(simp only [hgq,bq];done)|omega|(dsimp only;omega))
  ·rw [fit_1 hc hbq]; rfl
  have hb' := hbq
  clear hC hK hT
  have hq := chk_of hbq
  refine W_loopS (fun i : Nat => SS [sC 3 (pB 0), sC 5 (pB 2), sC 6 (pB 3), sC 8 (rCell (celL L ts)), sI 9 one, sC 29 (rStp ts), sI 30 ts.length, sI 31 i] [bLay L, none, bS5 nm l sp ac br, some (.cells [.c (.f .nils), xI 0])]) (fun i => i ≤ ts.length ∧ ∀ j, j < i → tight L l (ts.getD j st0) = false) (fun i => ts.length - i) 0 ?_ ⟨by omega, fun j hj => by omega⟩ ?_
  ·
   refine X_weak rfl rfl rfl ?_ ?_ <;> repeat' (first|with_reducible (first|refine Wk.o (by constructor) ?_|refine q_and ?_ ?_|exact True.intro)|refine q_AgS rfl ?_ ?_|exact CLe.nil_tipS|exact CLe.nil_rowS|refine HLe.cells ?_ ?_|refine HLe.els ?_ ?_|refine SLe.cons ?_ ?_|exact (rfl : known _ = _)|with_reducible rfl|omega)
  intro i hi
  obtain ⟨hi, hno⟩ := hi
  have hsec : (i : Int) < ts.length → 0 ≤ (ts.getD (i : Int).toNat { sec := 0, dir := 0 }).sec ∧ (ts.getD (i : Int).toNat { sec := 0, dir := 0 }).sec < L.secs.length := fun h => by
   obtain ⟨x, y, _⟩ := ok_dir (all_at (i := i) hok (by omega))
   exact ⟨x, y⟩
  repeat' (first
   |with_reducible (first|refine q_and ?_ ?_|exact True.intro|exact TkEq.nil _|refine Red.o (by constructor) ?_|refine blockK_o' rfl ?_|refine LoopX_e' rfl ?_|assumption)
   |((with_reducible apply q_CI);intro hbq;(try simp only [bq] at hbq);(try (exfalso;omega)))
   |refine Rex.o (by (with_reducible constructor);apply Eq.refl) ?_
   |(intro (hgq : (_ : Bool) = true);(try simp only [bq] at hgq))
   |(intro (hgq : (_ : Bool) = false);(try simp only [bq] at hgq))
   |((with_reducible apply q_VOk);exact fun _ => ⟨rfl,rfl⟩)|(intro _;exact rfl)|((with_reducible apply q_CRB);kernel_rfl)|((with_reducible apply q_bt);simp only [bq])|((with_reducible apply q_eqN);rfl)|((with_reducible apply q_FE);exact rfl)|with_reducible (first|exact isByte_wrap _|exact isByte_nat _)|(simp only [hgq,bq];done)|omega|(dsimp only;omega))
  ·rw [fit_12 hc hb' (any_at (i := i) (by rw [hts]; omega) (by rw [hts]; unfold tight secA; simpa using hbq))]; rfl
  ·
   refine LoopK_n (i + 1) ?_ (⟨by omega, upto_succ hno (by unfold tight secA; simpa using hbq)⟩) (by (try dsimp only); omega)
   refine X_weak rfl rfl rfl ?_ ?_ <;> repeat' (first|with_reducible (first|refine Wk.o (by constructor) ?_|refine q_and ?_ ?_|exact True.intro)|refine q_AgS rfl ?_ ?_|exact CLe.nil_tipS|exact CLe.nil_rowS|refine HLe.cells ?_ ?_|refine HLe.els ?_ ?_|refine SLe.cons ?_ ?_|exact (rfl : known _ = _)|with_reducible rfl|omega)
  ·rw [fit_0 hc hb' (by rw [hts]; exact any_not fun j hj => hno j (by omega))]; rfl
 ·rw [fit_c hc, if_neg hc, if_neg hc]
  unfold celOut celOne at hC
  rw [if_neg hc, if_neg hc] at hC
  unfold vLay at hC ⊢
  refine X_fn mixedX Try.func45 rfl (by kernel_rfl) (Nat.le_of_ble_eq_true (by kernel_rfl)) (by kernel_rfl) rfl rfl (Nat.le_of_ble_eq_true rfl) rfl rfl ?_
  simp only [sl0, Nat.zero_add, Nat.reduceAdd]
  repeat' (first
   |with_reducible (first|refine q_and ?_ ?_|exact True.intro|exact TkEq.nil _|refine Red.o (by constructor) ?_|refine blockK_o' rfl ?_|refine LoopX_e' rfl ?_|assumption)
   |((with_reducible apply q_call);refine X_pure (hC) rfl ?_)
   |((with_reducible apply q_CI);intro hbq;(try simp only [bq] at hbq);(try (exfalso;omega)))
   |refine Rex.o (by (with_reducible constructor);apply Eq.refl) ?_
   |(intro (hgq : (_ : Bool) = true);(try simp only [bq] at hgq))
   |(intro (hgq : (_ : Bool) = false);(try simp only [bq] at hgq))
   |((with_reducible apply q_VOk);exact fun _ => ⟨rfl,rfl⟩)|(intro _;exact rfl)|((with_reducible apply q_CRB);kernel_rfl)|((with_reducible apply q_bt);simp only [bq])|((with_reducible apply q_eqN);rfl)|((with_reducible apply q_FE);exact rfl)|with_reducible (first|exact isByte_wrap _|exact isByte_nat _)|(simp only [hgq,bq];done)|omega|(dsimp only;omega))
  ·rfl
theorem fits_ok (L : Lay) (hL : LayFits L) (st : List Stp) (ov : Int) (hl : st.length ≤ 9223372036854775807) (ho : -9223372036854775808 ≤ ov ∧ ov ≤ 9223372036854775807) (nm : ByteArray) (l sp ac br : Int) : OkV Try.prog 30 [vLay L, vR2 st ov, vS5 nm l sp ac br] [] (vI (fitErr L ⟨st, ov⟩ l sp ac br)) [] := by
 have hF := fit_ok L hL st ov hl ho nm l sp ac br
 unfold vLay at hF ⊢
 refine X_fn mixedX Try.func30 rfl (by kernel_rfl) (Nat.le_of_ble_eq_true (by kernel_rfl)) (by kernel_rfl) rfl rfl (Nat.le_of_ble_eq_true rfl) rfl rfl ?_
 simp only [sl0, Nat.zero_add, Nat.reduceAdd]
 repeat' (first
  |with_reducible (first|refine q_and ?_ ?_|exact True.intro|exact TkEq.nil _|refine Red.o (by constructor) ?_|refine blockK_o' rfl ?_|refine LoopX_e' rfl ?_|assumption)
  |((with_reducible apply q_call);refine X_pure (hF) rfl ?_)
  |((with_reducible apply q_CI);intro hbq;(try simp only [bq] at hbq);(try (exfalso;omega)))
  |refine Rex.o (by (with_reducible constructor);apply Eq.refl) ?_
  |(intro (hgq : (_ : Bool) = true);(try simp only [bq] at hgq))
  |(intro (hgq : (_ : Bool) = false);(try simp only [bq] at hgq))
  |((with_reducible apply q_VOk);exact fun _ => ⟨rfl,rfl⟩)|(intro _;exact rfl)|((with_reducible apply q_CRB);kernel_rfl)|((with_reducible apply q_bt);simp only [bq])|((with_reducible apply q_eqN);rfl)|((with_reducible apply q_FE);exact rfl)|with_reducible (first|exact isByte_wrap _|exact isByte_nat _)|(simp only [hgq,bq];done)|omega|(dsimp only;omega))
 repeat' (first|with_reducible (first|refine Wk.o (by constructor) ?_|refine q_and ?_ ?_|exact True.intro)|refine VEq.c ?_|refine VEq.agg ?_|refine VEq.tup ?_|refine TkEq.cells ?_ ?_|refine TkEq.els ?_ ?_|refine SEqL.cons ?_ ?_|refine TEqL.agg ?_ ?_|refine CEq.rows ?_|refine CEq.int ?_|rfl|omega)
theorem refFits_ok (L : Lay) (hL : LayFits L) (st : List Stp) (ov : Int) (hl : st.length ≤ 9223372036854775807) (ho : -9223372036854775808 ≤ ov ∧ ov ≤ 9223372036854775807) (nm : ByteArray) (l sp ac br : Int) : OkV Try.prog 28 [vLay L, vR2 st ov, vS5 nm l sp ac br] [] (vI (fitErr L ⟨st, ov⟩ l sp ac br)) [] := by
 have hC := refCells_ok L hL st ov hl ho
 have hK := chkStock_ok nm l sp ac br
 by_cases hc : celErr L ⟨st, ov⟩ = 0
 ·have hr := rte_of (cel_rte hc)
  have hr1 := hr.ov0
  have hr2 := hr.two
  have hr3 := hr.len
  have hr4 := hr.ok
  simp only at hr1 hr2 hr3 hr4
  have htl := trv_len hr
  have hV := valid_of hr.lay
  have hn3 := hV.n3
  rw [hc] at hC
  unfold vLay at hC ⊢
  refine X_fn mixedX Try.func28 rfl (by kernel_rfl) (Nat.le_of_ble_eq_true (by kernel_rfl)) (by kernel_rfl) rfl rfl (Nat.le_of_ble_eq_true rfl) rfl rfl ?_
  simp only [sl0, Nat.zero_add, Nat.reduceAdd]
  repeat' (first
   |with_reducible (first|refine q_and ?_ ?_|exact True.intro|exact TkEq.nil _|refine Red.o (by constructor) ?_|refine blockK_o' rfl ?_|refine LoopX_e' rfl ?_|assumption)
   |((with_reducible apply q_call);first|refine X_pure (hC) rfl ?_|refine X_pure (hK) rfl ?_)
   |((with_reducible apply q_CI);intro hbq;(try simp only [bq] at hbq);(try (exfalso;omega)))
   |refine Rex.o (by (with_reducible constructor);apply Eq.refl) ?_
   |(intro (hgq : (_ : Bool) = true);(try simp only [bq] at hgq))
   |(intro (hgq : (_ : Bool) = false);(try simp only [bq] at hgq))
   |((with_reducible apply q_VOk);exact fun _ => ⟨rfl,rfl⟩)|(intro _;exact rfl)|((with_reducible apply q_CRB);kernel_rfl)|((with_reducible apply q_bt);simp only [bq])|((with_reducible apply q_eqN);rfl)|((with_reducible apply q_FE);exact rfl)|with_reducible (first|exact isByte_wrap _|exact isByte_nat _)|(simp only [hgq,bq];done)|omega|(dsimp only;omega))
  ·rw [fit_1 hc hbq]; rfl
  have hb' := hbq
  clear hC hK
  have hq := chk_of hbq
  refine W_loopS (fun i : Nat => SS [sC 3 (pB 0), sC 4 (pB 1), sC 5 (pB 2), sI 10 i] [bLay L, bRte st ov, bS5 nm l sp ac br]) (fun i => (i : Int) ≤ st.length - ov ∧ ∀ j, j < i → tight L l (st.getD j st0) = false) (fun i => st.length - i) 0 ?_ ⟨by omega, fun j hj => by omega⟩ ?_
  ·
   refine X_weak rfl rfl rfl ?_ ?_ <;> repeat' (first|with_reducible (first|refine Wk.o (by constructor) ?_|refine q_and ?_ ?_|exact True.intro)|refine q_AgS rfl ?_ ?_|exact CLe.nil_tipS|exact CLe.nil_rowS|refine HLe.cells ?_ ?_|refine HLe.els ?_ ?_|refine SLe.cons ?_ ?_|exact (rfl : known _ = _)|with_reducible rfl|omega)
  intro i hi
  obtain ⟨hi, hno⟩ := hi
  have hsec : (i : Int) < st.length - ov → 0 ≤ (st.getD (i : Int).toNat { sec := 0, dir := 0 }).sec ∧ (st.getD (i : Int).toNat { sec := 0, dir := 0 }).sec < L.secs.length := fun h => by
   obtain ⟨x, y, _⟩ := ok_dir (all_at (i := i) hr4 (by omega))
   exact ⟨x, y⟩
  repeat' (first
   |with_reducible (first|refine q_and ?_ ?_|exact True.intro|exact TkEq.nil _|refine Red.o (by constructor) ?_|refine blockK_o' rfl ?_|refine LoopX_e' rfl ?_|assumption)
   |((with_reducible apply q_CI);intro hbq;(try simp only [bq] at hbq);(try (exfalso;omega)))
   |refine Rex.o (by (with_reducible constructor);apply Eq.refl) ?_
   |(intro (hgq : (_ : Bool) = true);(try simp only [bq] at hgq))
   |(intro (hgq : (_ : Bool) = false);(try simp only [bq] at hgq))
   |((with_reducible apply q_VOk);exact fun _ => ⟨rfl,rfl⟩)|(intro _;exact rfl)|((with_reducible apply q_CRB);kernel_rfl)|((with_reducible apply q_bt);simp only [bq])|((with_reducible apply q_eqN);rfl)|((with_reducible apply q_FE);exact rfl)|with_reducible (first|exact isByte_wrap _|exact isByte_nat _)|(simp only [hgq,bq];done)|omega|(dsimp only;omega))
  ·rw [fit_12 hc hb' (any_at (i := i) (by have := htl; simp only at this; omega) (by rw [trv_at hr (by simp only; omega)]; unfold tight secA; simpa using hbq))]; rfl
  ·
   refine LoopK_n (i + 1) ?_ (⟨by omega, upto_succ hno (by unfold tight secA; simpa using hbq)⟩) (by (try dsimp only); omega)
   refine X_weak rfl rfl rfl ?_ ?_ <;> repeat' (first|with_reducible (first|refine Wk.o (by constructor) ?_|refine q_and ?_ ?_|exact True.intro)|refine q_AgS rfl ?_ ?_|exact CLe.nil_tipS|exact CLe.nil_rowS|refine HLe.cells ?_ ?_|refine HLe.els ?_ ?_|refine SLe.cons ?_ ?_|exact (rfl : known _ = _)|with_reducible rfl|omega)
  ·rw [fit_0 hc hb' (any_not fun j hj => by rw [trv_at hr (by simp only at htl ⊢; omega)]; exact hno j (by simp only at htl; omega))]; rfl
 ·rw [fit_c hc]
  unfold vLay at hC ⊢
  refine X_fn mixedX Try.func28 rfl (by kernel_rfl) (Nat.le_of_ble_eq_true (by kernel_rfl)) (by kernel_rfl) rfl rfl (Nat.le_of_ble_eq_true rfl) rfl rfl ?_
  simp only [sl0, Nat.zero_add, Nat.reduceAdd]
  repeat' (first
   |with_reducible (first|refine q_and ?_ ?_|exact True.intro|exact TkEq.nil _|refine Red.o (by constructor) ?_|refine blockK_o' rfl ?_|refine LoopX_e' rfl ?_|assumption)
   |((with_reducible apply q_call);refine X_pure (hC) rfl ?_)
   |((with_reducible apply q_CI);intro hbq;(try simp only [bq] at hbq);(try (exfalso;omega)))
   |refine Rex.o (by (with_reducible constructor);apply Eq.refl) ?_
   |(intro (hgq : (_ : Bool) = true);(try simp only [bq] at hgq))
   |(intro (hgq : (_ : Bool) = false);(try simp only [bq] at hgq))
   |((with_reducible apply q_VOk);exact fun _ => ⟨rfl,rfl⟩)|(intro _;exact rfl)|((with_reducible apply q_CRB);kernel_rfl)|((with_reducible apply q_bt);simp only [bq])|((with_reducible apply q_eqN);rfl)|((with_reducible apply q_FE);exact rfl)|with_reducible (first|exact isByte_wrap _|exact isByte_nat _)|(simp only [hgq,bq];done)|omega|(dsimp only;omega))
  ·rfl
abbrev secN (L : Lay) (ts : List Stp) (k : Nat) : Nat := (L.secs.getD (ts.getD k st0).sec.toNat sec0).len.toNat
def endA (L : Lay) (ts : List Stp) : Nat → Nat
 | 0 => 0
 | k + 1 => endA L ts k + secN L ts (k + 1)
def rideT (L : Lay) (r : Rte) (l sp ac br : Int) : Nat → Int := tim (celL L (trv r)) (celOne L r).toNat l.toNat sp ac br
structure Ride (L : Lay) (r : Rte) (l sp ac br : Int) : Prop where
 rt : RteOk L r
 cel : celErr L r = 0
 chk : chkB l sp ac br = true
 n : ((trv r).length : Int) = r.st.length - r.ov
 n2 : 2 ≤ (trv r).length
 n24 : (trv r).length ≤ 24
 sec : ∀ k, k < (trv r).length → 0 ≤ ((trv r).getD k st0).sec ∧ ((trv r).getD k st0).sec < L.secs.length
 len : ∀ k, k < (trv r).length → 2 ≤ secN L (trv r) k ∧ l ≤ secN L (trv r) k ∧ secN L (trv r) k ≤ 400
 leni : ∀ k, k < (trv r).length → (L.secs.getD ((trv r).getD k st0).sec.toNat sec0).len = secN L (trv r) k
 one : celOne L r = secN L (trv r) 0
 all : (celL L (trv r)).length = secN L (trv r) 0 + endA L (trv r) ((trv r).length - 1)
 bad : badRun (celL L (trv r)) (celOne L r) l sp ac br = 0
 tl : timeL (celL L (trv r)) (celOne L r) l sp ac br = row (endA L (trv r) ((trv r).length - 1) + 1) (rideT L r l sp ac br)
 rng : ∀ j, j ≤ endA L (trv r) ((trv r).length - 1) → 0 ≤ rideT L r l sp ac br j ∧ rideT L r l sp ac br j ≤ 80000000
theorem endA_mono (L : Lay) (ts : List Stp) {i j : Nat} (h : i ≤ j) : endA L ts i ≤ endA L ts j := by
 induction j with
 | zero => rw [Nat.le_zero.1 h]; exact Nat.le_refl _
 | succ j ih =>
  rcases Nat.lt_or_ge i (j + 1) with h1 | h1
  ·exact Nat.le_trans (ih (by omega)) (Nat.le_add_right _ _)
  ·rw [show i = j + 1 by omega]; exact Nat.le_refl _
theorem celL_endA (L : Lay) (ts : List Stp) : ∀ k, k < ts.length → (celL L (ts.take (k + 1))).length = secN L ts 0 + endA L ts k
 | 0, h => by
  rw [celL_snoc L h, List.length_append]
  simp [celL, celsOf, secN, endA]
 | k + 1, h => by
  rw [celL_snoc L h, List.length_append, celL_endA L ts k (by omega)]
  simp only [celsOf, List.length_replicate, endA, secN, secA]
  omega
theorem cel_all {L : Lay} (hV : Valid L) : ∀ {l : List Stp}, l.all (Stp.ok L) = true → (celL L l).all cellB = true
 | [], _ => rfl
 | s :: l, h => by
  rw [List.all_cons, Bool.and_eq_true] at h
  have ih := cel_all hV h.2
  obtain ⟨a, b, _⟩ := ok_dir h.1
  have h2 := secB_of (sec_of hV (i := s.sec.toNat) (by omega))
  unfold celL at ih ⊢
  rw [List.flatMap_cons, List.all_append, ih, Bool.and_true, List.all_eq_true]
  intro c hc
  rw [(List.mem_replicate.1 hc).2]
  unfold celOf cellB secA
  rw [decide_eq_true_eq]
  split <;> (simp only; omega)
theorem ride_of {L : Lay} {r : Rte} {l sp ac br : Int} (h : fitErr L r l sp ac br = 0) : Ride L r l sp ac br := by
 have hc : celErr L r = 0 := by
  unfold fitErr at h
  split at h
  ·exact h
  ·rename_i h2; simpa using h2
 unfold fitErr at h
 rw [if_neg (by simpa using hc)] at h
 by_cases hk : chkB l sp ac br = false
 ·rw [if_pos hk] at h; cases h
 rw [if_neg hk] at h
 by_cases ht : (trv r).any (tight L l) = true
 ·rw [if_pos ht] at h; cases h
 clear h
 have hk : chkB l sp ac br = true := by simpa using hk
 have hq := chk_of hk
 have hr := rte_of (cel_rte hc)
 have hV := valid_of hr.lay
 have hn := trv_len hr
 have h1 := hr.two
 have h2 := hr.ov0
 have h3 := hr.len
 have hok : (trv r).all (Stp.ok L) = true := all_take hr.ok _
 have hsec : ∀ k, k < (trv r).length → 0 ≤ ((trv r).getD k st0).sec ∧ ((trv r).getD k st0).sec < L.secs.length := fun k hk => by
  obtain ⟨a, b, _⟩ := ok_dir (all_at hok hk)
  exact ⟨a, b⟩
 have hb : ∀ k, k < (trv r).length → 1 ≤ (secA L ((trv r).getD k st0)).len ∧ (secA L ((trv r).getD k st0)).len ≤ 400 ∧ max 2 l ≤ (secA L ((trv r).getD k st0)).len := fun k hk => by
  have h4 := secB_of (sec_of hV (i := ((trv r).getD k st0).sec.toNat) (by have := hsec k hk; omega))
  have h5 : tight L l ((trv r).getD k st0) = false := by
   cases e : tight L l ((trv r).getD k st0)
   ·rfl
   ·exact absurd (any_at hk e) ht
  unfold tight at h5
  rw [decide_eq_false_iff_not] at h5
  exact ⟨h4.1, h4.2.1, by omega⟩
 have hlen : ∀ k, k < (trv r).length → 2 ≤ secN L (trv r) k ∧ l ≤ secN L (trv r) k ∧ secN L (trv r) k ≤ 400 := fun k hk => by
  have := hb k hk
  unfold secA at this
  unfold secN
  omega
 have hli : ∀ k, k < (trv r).length → (L.secs.getD ((trv r).getD k st0).sec.toNat sec0).len = secN L (trv r) k := fun k hk => by
  have := hb k hk
  unfold secA at this
  unfold secN
  omega
 have hall := celL_endA L (trv r) ((trv r).length - 1) (by omega)
 rw [show (trv r).length - 1 + 1 = (trv r).length by omega, List.take_length] at hall
 have hone : celOne L r = secN L (trv r) 0 := by
  unfold celOne
  rw [if_pos hc, ← hli 0 (by omega), trv_at hr (by omega)]
 have hc4 : (celL L (trv r)).length ≤ 4000 := by
  unfold celErr at hc
  rw [if_neg (by simpa using cel_rte hc)] at hc
  split at hc
  ·cases hc
  ·omega
 have he1 : endA L (trv r) 1 ≤ endA L (trv r) ((trv r).length - 1) := endA_mono L (trv r) (by omega)
 have he2 : endA L (trv r) 1 = secN L (trv r) 1 := Nat.zero_add _
 have hl1 := hlen 1 (by omega)
 have hbad : badRun (celL L (trv r)) (celOne L r) l sp ac br = 0 := bad_0 hk (by omega) (cel_all hV hok) (by rw [hone]; omega)
 have htl : timeL (celL L (trv r)) (celOne L r) l sp ac br = row (endA L (trv r) ((trv r).length - 1) + 1) (rideT L r l sp ac br) := by
  unfold timeL rideT
  rw [if_pos hbad, hall, hone, Int.toNat_natCast, Nat.add_sub_cancel_left]
 refine ⟨hr, hc, hk, hn, by omega, by omega, hsec, hlen, hli, hone, hall, hbad, htl, fun j hj => ?_⟩
 have h5 := tim_range (start := (celOne L r).toNat) (l := l.toNat) hq.2.2.1 hq.2.2.2.1 hq.2.2.2.2.1 hq.2.2.2.2.2.1 hq.2.2.2.2.2.2.1 hq.2.2.2.2.2.2.2 (cel_all hV hok) (by rw [hone, Int.toNat_natCast]; omega) j (by rw [hone, Int.toNat_natCast]; omega)
 unfold rideT
 omega
end Go.Proofs.Ytalfibohepbhfaa.Av
