/- What the claims use of their texts: Ps3, Ps4, Kp1, Kp2, Kp3, Kp4, Rt4, Rt5, Rt6, Rt7, Plain, DynPlain, PermPlain, Ref6Plain, Dy1, Dy2, Arith, Arith2. -/
import Derived.Test.YtbpeakgihhdocaaGreatPYD
set_option linter.unusedVariables false
set_option linter.unusedSimpArgs false
set_option maxRecDepth 4000
set_option maxHeartbeats 4000000
namespace Go.Proofs.YtbpeakgihhdocaaGreat.Av
open Go.RowKit
abbrev dW : Wrd := ⟨⟨#[]⟩, 0, 0⟩
theorem flat_fWrd (l : List PW) : (l.map PW.w).flatMap fWrd = (l.flatMap wF).map FVal.v := by
 induction l with
 | nil => rfl
 | cons a l ih => simp only [List.map_cons, List.flatMap_cons, List.map_append, ih]; rfl
theorem ok_words {P : Program} {f : FuncId} {args : List AVal} {t : TypeId} (fn : Func) (hf : P.funcs[f]? = some fn) (hb : fn.body.isSome = true) (hn : (fn.name == "runtime.NumGoroutine") = false) (ws : List PW)
  (h : ∀ (w : World) (κ : Nat → BK) (ρ : Nat → Nat) (vals : Array Value), vals.size = args.length → (∀ i (h : i < args.length) (h' : i < vals.size) l, RepA w κ ρ l args[i] vals[i]) → Calls P f vals w fun e w' => ∃ A c, e = .returned (.tuple #[.slice A ws.length c, .int .i64 0]) ∧ OwnF w' w.heap.size t 3 wF (.slice A ws.length c) ws ∧ Below w.heap.size w w') : Ok P f args [] (.tup [.c (.f (.row ((ws.map PW.w).flatMap fWrd) (ws.map PW.w).length)), .c (.f (.v (.int .i64 0)))]) [] := by
 refine ⟨⟨fn, hf, hb, hn⟩, rfl, rfl, Nat.le_refl _, fun w κ ρ vals hs hr hok hH => ?_⟩
 refine (h w κ ρ vals hs hr).mono ?_
 rintro e w' ⟨A, c, rfl, hO, hB⟩
 refine ⟨_, fun g => if g < w.heap.size then κ g else .lock none, ρ, rfl, fun l => ?_, ⟨fun b cs h => by simp at h, fun b cs h => by simp at h⟩, ⟨hB.os, hB.tape, hB.output, hB.size, fun g n hg hl => ⟨by rw [if_pos hg]; exact hl, hB.block g hg⟩, ⟨hB.size, fun g o x hg _ hx => ?_, fun g n hg hf => by rw [if_pos hg]; exact hf⟩⟩, fun _ _ => rfl⟩
 ·refine ⟨_, rfl, rfl, fun i hi hi' => ?_⟩
  match i, hi with
  | 0, _ =>
   refine ⟨rfl, ?_⟩
   show RepF _ _ (.row ((ws.map PW.w).flatMap fWrd) (ws.map PW.w).length) (.slice A ws.length c)
   rw [flat_fWrd, List.length_map]
   obtain ⟨h1, h2⟩ := hO
   rcases h2 with ⟨h0, h00⟩ | ⟨g, cap, cur, hv, hg, hh, hle, hcap, hsz, ht⟩
   ·injection h0 with e1 e2 e3
    have : ws = [] := List.eq_nil_of_length_eq_zero h00
    subst this
    rw [e1, show c = 0 from e3]
    exact .nil0
   ·injection hv with e1 e2 e3
    subst e1; subst e3
    refine repF_rowI ⟨g, 0, c, rfl, hle, fun j hj => ?_, fun _ => ⟨?_, ?_⟩⟩
    ·rw [List.length_map] at hj
     refine ⟨(ws.flatMap wF)[j], ?_, ?_⟩
     ·have hu : (ws.flatMap wF)[j]? = some (ws.flatMap wF)[j] := List.getElem?_eq_getElem hj
      conv at hu => lhs; rw [← ht]
      rw [List.getElem?_take] at hu
      split at hu
      ·simp only [World.cell?, hh, Nat.zero_add]
       simpa using hu
      ·cases hu
     ·rw [List.getElem_map]
      refine .v _ ?_
      have hm : (ws.flatMap wF)[j] ∈ ws.flatMap wF := List.getElem_mem hj
      obtain ⟨p, _, hp⟩ := List.mem_flatMap.1 hm
      revert hp
      generalize (ws.flatMap wF)[j] = u
      intro hp
      simp only [wF, List.mem_cons, List.not_mem_nil, or_false] at hp
      rcases hp with rfl | rfl | rfl <;> rfl
    ·exact lt_of_heap hh
    ·have hnl : ¬ g < w.heap.size := by omega
     show BK.fits (if g < w.heap.size then κ g else .lock none) _
     rw [if_neg hnl]; trivial
  | 1, _ => exact ⟨rfl, .v _ rfl⟩
 ·rw [World.cell?_of_block (w := w) (a := ⟨g, o, none⟩) (hB.block g hg)]
  exact hx
theorem one_ok (l : List UInt8) (ln : Int) (hok : okLine l = true) (hs : l.length ≤ 65536) (hw : (wOne l ln).length ≤ 64) : OkV Tryz.prog 76 [vS (bL l), vI ln] [] (.tup [.c (rWrd ((wOne l ln).map PW.w)), .c (xI 0)]) [] := by
 refine ok_words (t := 125) _ Tryz.func76 (by kernel_rfl) (by kernel_rfl) (wOne l ln) fun w κ ρ vals hs2 hr => ?_
 have hs2 : vals.size = 2 := hs2
 have h0 := (repF_v.1 (hr 0 (by simp) (by omega) (.slot 0))).1
 have h1 := (repF_v.1 (hr 1 (by simp) (by omega) (.slot 0))).1
 have hv : vals = #[.string (bL l), .int .i64 ln] := by
  apply Array.ext
  ·simpa using hs2
  ·intro i hi hi'
   match i, hi' with
   | 0, _ => exact h0
   | 1, _ => exact h1
 rw [hv]
 exact one_any (bL l) ln w hok hs hw
theorem u8_sub (b : Nat) (h1 : 48 ≤ b) (h2 : b ≤ 57) : IntKind.u8.wrap ((b : Int) - 48) = (b : Int) - 48 := by
 simp only [IntKind.wrap]
 simp [IntKind.bits, IntKind.signed]
 omega
theorem dig_ok (c : Nat) (hc : c < 256) : OkV Tryz.prog 95 [.c (.c (.f (.v (.int .u8 c))))] [] (vB (decide ((48 : Int) ≤ c) && decide ((c : Int) ≤ 57))) [] := by
 refine X_fn mixedX Tryz.func95 rfl (by kernel_rfl) (Nat.le_of_ble_eq_true (by kernel_rfl)) (by kernel_rfl) rfl rfl (Nat.le_of_ble_eq_true rfl) rfl rfl ?_
 simp only [sl0, Nat.zero_add, Nat.reduceAdd]
 repeat' (first
  |with_reducible (first|refine q_and ?_ ?_|exact True.intro|exact TkEq.nil _|refine Red.o (by constructor) ?_|refine blockK_o' rfl ?_|refine LoopX_e' rfl ?_|assumption)
  |((with_reducible apply q_CI);intro hbq;(try simp only [bq] at hbq);(try (exfalso;omega)))
  |refine Rex.o (by (with_reducible constructor);apply Eq.refl) ?_
  |(intro (hgq : (_ : Bool) = true);(try simp only [bq] at hgq))
  |(intro (hgq : (_ : Bool) = false);(try simp only [bq] at hgq))
  |((with_reducible apply q_VOk);exact fun _ => ⟨rfl,rfl⟩)|(intro _;exact rfl)|((with_reducible apply q_CRB);kernel_rfl)|((with_reducible apply q_bt);simp only [bq])|((with_reducible apply q_eqN);rfl)|((with_reducible apply q_FE);exact rfl)|with_reducible (first|exact isByte_wrap _|exact isByte_nat _)|(simp only [hgq,bq];done)|omega|(dsimp only;omega))
 repeat' (first|with_reducible (first|refine Wk.o (by constructor) ?_|refine q_and ?_ ?_|exact True.intro)|refine VEq.c ?_|refine VEq.agg ?_|refine VEq.tup ?_|refine TkEq.cells ?_ ?_|refine TkEq.els ?_ ?_|refine SEqL.cons ?_ ?_|refine TEqL.agg ?_ ?_|refine CEq.rows ?_|refine CEq.int ?_|rfl|omega)
def numU (l : List UInt8) (i : Nat) : Int := numL (l.take i)
theorem numU_succ (l : List UInt8) (i : Nat) (h : i < l.length) : numU l (i + 1) = 10 * numU l i + (((l.getD i 0).toNat : Int) - 48) := by
 unfold numU numL
 rw [List.take_succ_eq_append_getElem h, List.foldl_append, List.getD_eq_getElem?_getD, List.getElem?_eq_getElem h]
 rfl
theorem numU_rng (l : List UInt8) (hd : l.all digit = true) : ∀ i, i ≤ l.length → 0 ≤ numU l i ∧ numU l i + 1 ≤ 10 ^ i
 | 0, _ => ⟨by show (0 : Int) ≤ 0; omega, by show (0 : Int) + 1 ≤ 1; omega⟩
 | i + 1, h => by
  have ih := numU_rng l hd i (by omega)
  rw [numU_succ l i (by omega)]
  have hg : digit (l.getD i 0) = true := by
   rw [List.getD_eq_getElem?_getD, List.getElem?_eq_getElem (by omega)]
   exact List.all_eq_true.1 hd _ (List.getElem_mem _)
  unfold digit at hg
  simp only [Bool.and_eq_true, decide_eq_true_eq] at hg
  have e : (10 : Int) ^ (i + 1) = 10 * 10 ^ i := by rw [Int.pow_succ]; omega
  rw [e]
  omega
theorem bL_get (l : List UInt8) (i : Nat) : (bL l).data.getD i 0 = l.getD i 0 := by
 simp [bL, Array.getD_eq_getD_getElem?, List.getD_eq_getElem?_getD]
theorem number_ok (l : List UInt8) (h : okNum l = true) : OkV Tryz.prog 91 [vS (bL l)] [] (.tup [.c (xI (numL l)), .c (xB true)]) [] := by
 unfold okNum at h
 simp only [Bool.and_eq_true, decide_eq_true_eq, Bool.or_eq_true] at h
 obtain ⟨⟨⟨h1, h2⟩, h3⟩, h4⟩ := h
 have hz : (bL l).size = l.length := rfl
 have hdig : ∀ i, i < l.length → 48 ≤ ((bL l).data.getD i 0).toNat ∧ ((bL l).data.getD i 0).toNat ≤ 57 := fun i hi => by
  rw [bL_get]
  have hg : digit (l.getD i 0) = true := by
   rw [List.getD_eq_getElem?_getD, List.getElem?_eq_getElem hi]
   exact List.all_eq_true.1 h3 _ (List.getElem_mem _)
  unfold digit at hg
  simpa using hg
 have hd0 : 48 ≤ ((bL l).data.getD (0 : Int).toNat 0).toNat ∧ ((bL l).data.getD (0 : Int).toNat 0).toNat ≤ 57 := hdig 0 (by omega)
 have hz0 : l.length = 1 ∨ ((bL l).data.getD (0 : Int).toNat 0).toNat ≠ 48 := by
  rcases h4 with h | h
  ·exact .inl h
  ·right
   intro e
   have e2 : (bL l).data.getD (0 : Int).toNat 0 = l.getD 0 0 := bL_get l 0
   rw [e2] at e
   have : l.getD 0 0 = 48 := UInt8.toNat_inj.1 e
   rw [this] at h
   simp at h
 have hrg := numU_rng l h3
 have hpw : ∀ i, i ≤ 12 → (10 : Int) ^ i ≤ 10 ^ 12 := fun i hi => by
  have := Nat.pow_le_pow_right (n := 10) (by omega) hi
  exact_mod_cast this
 have hmx : (10 : Int) ^ 12 = 1000000000000 := by rfl
 refine X_fn mixedX Tryz.func91 rfl (by kernel_rfl) (Nat.le_of_ble_eq_true (by kernel_rfl)) (by kernel_rfl) rfl rfl (Nat.le_of_ble_eq_true rfl) rfl rfl ?_
 simp only [sl0, Nat.zero_add, Nat.reduceAdd]
 repeat' (first
  |with_reducible (first|refine q_and ?_ ?_|exact True.intro|exact TkEq.nil _|refine Red.o (by constructor) ?_|refine blockK_o' rfl ?_|refine LoopX_e' rfl ?_|assumption)
  |((with_reducible apply q_CI);intro hbq;(try simp only [bq] at hbq);(try (exfalso;omega)))
  |with_reducible (first|refine W_seq ?_|refine W_block ?_)
  |((with_reducible apply q_cond);refine X_cond rfl ?_ ?_;all_goals (intro hbq;(try simp only [bq] at hbq);(try (exfalso;omega))))
  |refine Rex.o (by (with_reducible constructor);apply Eq.refl) ?_
  |(intro (hgq : (_ : Bool) = true);(try simp only [bq] at hgq))
  |(intro (hgq : (_ : Bool) = false);(try simp only [bq] at hgq))
  |((with_reducible apply q_VOk);exact fun _ => ⟨rfl,rfl⟩)|(intro _;exact rfl)|((with_reducible apply q_CRB);kernel_rfl)|((with_reducible apply q_bt);simp only [bq])|((with_reducible apply q_eqN);rfl)|((with_reducible apply q_FE);exact rfl)|with_reducible (first|exact isByte_wrap _|exact isByte_nat _)|(simp only [hgq,bq];done)|omega|(dsimp only;omega))
 refine W_loopS (fun i : Nat => SS [sS 4 (bL l), sI 5 1, sI 6 (numU l i), sI 7 i] []) (fun i => i ≤ l.length) (fun i => l.length - i) 0 ?_ (by omega) ?_
 ·
  refine X_weak rfl rfl rfl ?_ ?_ <;> repeat' (first|with_reducible (first|refine Wk.o (by constructor) ?_|refine q_and ?_ ?_|exact True.intro)|refine q_AgS rfl ?_ ?_|exact CLe.nil_tipS|exact CLe.nil_rowS|refine HLe.cells ?_ ?_|refine HLe.els ?_ ?_|refine SLe.cons ?_ ?_|exact (rfl : known _ = _)|with_reducible rfl|omega)
  all_goals rfl
 intro i hi
 have hr1 := hrg i hi
 have hr2 := hpw i (by omega)
 have hD := dig_ok ((bL l).data.getD (i : Int).toNat 0).toNat (UInt8.toNat_lt _)
 by_cases hil : i < l.length
 ·have hdi : 48 ≤ ((bL l).data.getD (i : Int).toNat 0).toNat ∧ ((bL l).data.getD (i : Int).toNat 0).toNat ≤ 57 := hdig i hil
  have hu := u8_sub _ hdi.1 hdi.2
  have hs := numU_succ l i hil
  have e2 : (bL l).data.getD (i : Int).toNat 0 = l.getD i 0 := bL_get l i
  repeat' (first
   |with_reducible (first|refine q_and ?_ ?_|exact True.intro|exact TkEq.nil _|refine Red.o (by constructor) ?_|refine blockK_o' rfl ?_|refine LoopX_e' rfl ?_|assumption)
   |((with_reducible apply q_call);refine X_pure (hD) rfl ?_)
   |((with_reducible apply q_CI);intro hbq;(try simp only [bq] at hbq);(try (exfalso;omega)))
   |with_reducible (first|refine W_seq ?_|refine W_block ?_)
   |((with_reducible apply q_cond);refine X_cond rfl ?_ ?_;all_goals (intro hbq;(try simp only [bq] at hbq);(try (exfalso;omega))))
   |refine Rex.o (by (with_reducible constructor);apply Eq.refl) ?_
   |(intro (hgq : (_ : Bool) = true);(try simp only [bq] at hgq))
   |(intro (hgq : (_ : Bool) = false);(try simp only [bq] at hgq))
   |((with_reducible apply q_VOk);exact fun _ => ⟨rfl,rfl⟩)|(intro _;exact rfl)|((with_reducible apply q_CRB);kernel_rfl)|((with_reducible apply q_bt);simp only [bq])|((with_reducible apply q_eqN);rfl)|((with_reducible apply q_FE);exact rfl)|with_reducible (first|exact isByte_wrap _|exact isByte_nat _)|(simp only [hgq,bq];done)|omega|(dsimp only;omega))
  ·
   refine LoopK_n (i + 1) ?_ ((by omega)) (by (try dsimp only); omega)
   refine X_weak rfl rfl rfl ?_ ?_ <;> repeat' (first|with_reducible (first|refine Wk.o (by constructor) ?_|refine q_and ?_ ?_|exact True.intro)|refine q_AgS rfl ?_ ?_|exact CLe.nil_tipS|exact CLe.nil_rowS|refine HLe.cells ?_ ?_|refine HLe.els ?_ ?_|refine SLe.cons ?_ ?_|exact (rfl : known _ = _)|with_reducible rfl|omega)
   ·rw [hs, hu, e2]
 ·have hie : i = l.length := by omega
  subst hie
  have e1 : numU l l.length = numL l := by unfold numU; rw [List.take_length]
  repeat' (first
   |with_reducible (first|refine q_and ?_ ?_|exact True.intro|exact TkEq.nil _|refine Red.o (by constructor) ?_|refine blockK_o' rfl ?_|refine LoopX_e' rfl ?_|assumption)
   |((with_reducible apply q_call);refine X_pure (hD) rfl ?_)
   |((with_reducible apply q_CI);intro hbq;(try simp only [bq] at hbq);(try (exfalso;omega)))
   |with_reducible (first|refine W_seq ?_|refine W_block ?_)
   |((with_reducible apply q_cond);refine X_cond rfl ?_ ?_;all_goals (intro hbq;(try simp only [bq] at hbq);(try (exfalso;omega))))
   |refine Rex.o (by (with_reducible constructor);apply Eq.refl) ?_
   |(intro (hgq : (_ : Bool) = true);(try simp only [bq] at hgq))
   |(intro (hgq : (_ : Bool) = false);(try simp only [bq] at hgq))
   |((with_reducible apply q_VOk);exact fun _ => ⟨rfl,rfl⟩)|(intro _;exact rfl)|((with_reducible apply q_CRB);kernel_rfl)|((with_reducible apply q_bt);simp only [bq])|((with_reducible apply q_eqN);rfl)|((with_reducible apply q_FE);exact rfl)|with_reducible (first|exact isByte_wrap _|exact isByte_nat _)|(simp only [hgq,bq];done)|omega|(dsimp only;omega))
  ·rw [Int.one_mul, e1]
   repeat' (first|with_reducible (first|refine Wk.o (by constructor) ?_|refine q_and ?_ ?_|exact True.intro)|refine VEq.c ?_|refine VEq.agg ?_|refine VEq.tup ?_|refine TkEq.cells ?_ ?_|refine TkEq.els ?_ ?_|refine SEqL.cons ?_ ?_|refine TEqL.agg ?_ ?_|refine CEq.rows ?_|refine CEq.int ?_|rfl|omega)
theorem bL_toList (s : List UInt8) : (bL s).toList = s := by rw [ByteArray.toList_eq]; simp [bL]
theorem sEq {a : ByteArray} {s : List UInt8} (h : (a.toList == (bL s).toList) = true) : a.data.toList = s := by
 rw [bL_toList, ByteArray.toList_eq] at h
 simpa using h
theorem sNe {a : ByteArray} {s : List UInt8} (h : (a.toList == (bL s).toList) = false) : a.data.toList ≠ s := by
 rw [bL_toList, ByteArray.toList_eq] at h
 simpa using h
theorem letterEnd_ok (s : List UInt8) : OkV Tryz.prog 93 [vS (bL s)] [] (vI (endL s)) [] := by
 unfold endL
 have e : (bL s).data.toList = s := by simp [bL]
 refine X_fn mixedX Tryz.func93 rfl (by kernel_rfl) (Nat.le_of_ble_eq_true (by kernel_rfl)) (by kernel_rfl) rfl rfl (Nat.le_of_ble_eq_true rfl) rfl rfl ?_
 simp only [sl0, Nat.zero_add, Nat.reduceAdd]
 repeat' (first
  |with_reducible (first|refine q_and ?_ ?_|exact True.intro|exact TkEq.nil _|refine Red.o (by constructor) ?_|refine blockK_o' rfl ?_|refine LoopX_e' rfl ?_|assumption)
  |((with_reducible apply q_CI);intro hbq;(try simp only [bq] at hbq);(try (exfalso;omega)))
  |refine Rex.o (by (with_reducible constructor);apply Eq.refl) ?_
  |(intro (hgq : (_ : Bool) = true);(try simp only [bq] at hgq))
  |(intro (hgq : (_ : Bool) = false);(try simp only [bq] at hgq))
  |((with_reducible apply q_VOk);exact fun _ => ⟨rfl,rfl⟩)|(intro _;exact rfl)|((with_reducible apply q_CRB);kernel_rfl)|((with_reducible apply q_bt);simp only [bq])|((with_reducible apply q_eqN);rfl)|((with_reducible apply q_FE);exact rfl)|with_reducible (first|exact isByte_wrap _|exact isByte_nat _)|(simp only [hgq,bq];done)|omega|(dsimp only;omega))
 ·have h : (bL s).data.toList = [65] := sEq hbq
  rw [e] at h
  rw [if_pos h]
  repeat' (first|with_reducible (first|refine Wk.o (by constructor) ?_|refine q_and ?_ ?_|exact True.intro)|refine VEq.c ?_|refine VEq.agg ?_|refine VEq.tup ?_|refine TkEq.cells ?_ ?_|refine TkEq.els ?_ ?_|refine SEqL.cons ?_ ?_|refine TEqL.agg ?_ ?_|refine CEq.rows ?_|refine CEq.int ?_|rfl|omega)
 ·rename_i hbq2
  have h : (bL s).data.toList ≠ [65] := sNe hbq2
  have h2 : (bL s).data.toList = [66] := sEq hbq
  rw [e] at h h2
  rw [if_neg h, if_pos h2]
  repeat' (first|with_reducible (first|refine Wk.o (by constructor) ?_|refine q_and ?_ ?_|exact True.intro)|refine VEq.c ?_|refine VEq.agg ?_|refine VEq.tup ?_|refine TkEq.cells ?_ ?_|refine TkEq.els ?_ ?_|refine SEqL.cons ?_ ?_|refine TEqL.agg ?_ ?_|refine CEq.rows ?_|refine CEq.int ?_|rfl|omega)
 ·rename_i hbq2
  have h : (bL s).data.toList ≠ [65] := sNe hbq2
  have h2 : (bL s).data.toList ≠ [66] := sNe hbq
  rw [e] at h h2
  rw [if_neg h, if_neg h2]
  repeat' (first|with_reducible (first|refine Wk.o (by constructor) ?_|refine q_and ?_ ?_|exact True.intro)|refine VEq.c ?_|refine VEq.agg ?_|refine VEq.tup ?_|refine TkEq.cells ?_ ?_|refine TkEq.els ?_ ?_|refine SEqL.cons ?_ ?_|refine TEqL.agg ?_ ?_|refine CEq.rows ?_|refine CEq.int ?_|rfl|omega)
theorem placeL_at : ∀ {l : List ByteArray} {s : List UInt8} {i : Nat}, i < l.length → (l.getD i ⟨#[]⟩).data.toList = s → (∀ j, j < i → (l.getD j ⟨#[]⟩).data.toList ≠ s) → placeL l s = i
 | x :: l, s, 0, _, h, _ => by unfold placeL; rw [if_pos (show x.data.toList = s from h)]; rfl
 | x :: l, s, i + 1, hi, h, hn => by
  have h0 : ¬ x.data.toList = s := hn 0 (by omega)
  have ih := placeL_at (l := l) (s := s) (i := i) (by simpa using hi) h (fun j hj => hn (j + 1) (by omega))
  unfold placeL
  rw [if_neg h0, ih]
  simp only
  rw [if_neg (by omega)]; rfl
theorem placeL_no : ∀ {l : List ByteArray} {s : List UInt8}, (∀ j, j < l.length → (l.getD j ⟨#[]⟩).data.toList ≠ s) → placeL l s = -1
 | [], s, _ => rfl
 | x :: l, s, hn => by
  have h0 : ¬ x.data.toList = s := hn 0 (by simp)
  have ih := placeL_no (l := l) (s := s) (fun j hj => hn (j + 1) (by simpa using hj))
  unfold placeL
  rw [if_neg h0, ih]
  rfl
theorem place_ok (l : List ByteArray) (s : List UInt8) (hl : l.length ≤ 1000) : OkV Tryz.prog 92 [.c (rStr l), vS (bL s)] [] (vI (placeL l s)) [] := by
 refine X_fn mixedX Tryz.func92 rfl (by kernel_rfl) (Nat.le_of_ble_eq_true (by kernel_rfl)) (by kernel_rfl) rfl rfl (Nat.le_of_ble_eq_true rfl) rfl rfl ?_
 simp only [sl0, Nat.zero_add, Nat.reduceAdd]
 repeat' (first
  |with_reducible (first|refine q_and ?_ ?_|exact True.intro|exact TkEq.nil _|refine Red.o (by constructor) ?_|refine blockK_o' rfl ?_|refine LoopX_e' rfl ?_|assumption)
  |((with_reducible apply q_CI);intro hbq;(try simp only [bq] at hbq);(try (exfalso;omega)))
  |refine Rex.o (by (with_reducible constructor);apply Eq.refl) ?_
  |(intro (hgq : (_ : Bool) = true);(try simp only [bq] at hgq))
  |(intro (hgq : (_ : Bool) = false);(try simp only [bq] at hgq))
  |((with_reducible apply q_VOk);exact fun _ => ⟨rfl,rfl⟩)|(intro _;exact rfl)|((with_reducible apply q_CRB);kernel_rfl)|((with_reducible apply q_bt);simp only [bq])|((with_reducible apply q_eqN);rfl)|((with_reducible apply q_FE);exact rfl)|with_reducible (first|exact isByte_wrap _|exact isByte_nat _)|(simp only [hgq,bq];done)|omega|(dsimp only;omega))
 refine W_loopS (fun i : Nat => SS [sC 0 (rStr l), sS 1 (bL s), sI 5 i] []) (fun i => i ≤ l.length ∧ ∀ j, j < i → (l.getD j ⟨#[]⟩).data.toList ≠ s) (fun i => l.length - i) 0 ?_ ⟨by omega, fun j hj => by omega⟩ ?_
 ·
  refine X_weak rfl rfl rfl ?_ ?_ <;> repeat' (first|with_reducible (first|refine Wk.o (by constructor) ?_|refine q_and ?_ ?_|exact True.intro)|refine q_AgS rfl ?_ ?_|exact CLe.nil_tipS|exact CLe.nil_rowS|refine HLe.cells ?_ ?_|refine HLe.els ?_ ?_|refine SLe.cons ?_ ?_|exact (rfl : known _ = _)|with_reducible rfl|omega)
 intro i hi
 obtain ⟨hi, hno⟩ := hi
 repeat' (first
  |with_reducible (first|refine q_and ?_ ?_|exact True.intro|exact TkEq.nil _|refine Red.o (by constructor) ?_|refine blockK_o' rfl ?_|refine LoopX_e' rfl ?_|assumption)
  |((with_reducible apply q_CI);intro hbq;(try simp only [bq] at hbq);(try (exfalso;omega)))
  |refine Rex.o (by (with_reducible constructor);apply Eq.refl) ?_
  |(intro (hgq : (_ : Bool) = true);(try simp only [bq] at hgq))
  |(intro (hgq : (_ : Bool) = false);(try simp only [bq] at hgq))
  |((with_reducible apply q_VOk);exact fun _ => ⟨rfl,rfl⟩)|(intro _;exact rfl)|((with_reducible apply q_CRB);kernel_rfl)|((with_reducible apply q_bt);simp only [bq])|((with_reducible apply q_eqN);rfl)|((with_reducible apply q_FE);exact rfl)|with_reducible (first|exact isByte_wrap _|exact isByte_nat _)|(simp only [hgq,bq];done)|omega|(dsimp only;omega))
 ·rw [placeL_at (l := l) (s := s) (i := i) (by omega) (sEq hbq) hno]
  repeat' (first|with_reducible (first|refine Wk.o (by constructor) ?_|refine q_and ?_ ?_|exact True.intro)|refine VEq.c ?_|refine VEq.agg ?_|refine VEq.tup ?_|refine TkEq.cells ?_ ?_|refine TkEq.els ?_ ?_|refine SEqL.cons ?_ ?_|refine TEqL.agg ?_ ?_|refine CEq.rows ?_|refine CEq.int ?_|rfl|omega)
 ·
  refine LoopK_n (i + 1) ?_ (⟨by omega, upto_succ hno (sNe hbq)⟩) (by (try dsimp only); omega)
  refine X_weak rfl rfl rfl ?_ ?_ <;> repeat' (first|with_reducible (first|refine Wk.o (by constructor) ?_|refine q_and ?_ ?_|exact True.intro)|refine q_AgS rfl ?_ ?_|exact CLe.nil_tipS|exact CLe.nil_rowS|refine HLe.cells ?_ ?_|refine HLe.els ?_ ?_|refine SLe.cons ?_ ?_|exact (rfl : known _ = _)|with_reducible rfl|omega)
 ·rw [placeL_no (l := l) (s := s) (fun j hj => hno j (by omega))]
  repeat' (first|with_reducible (first|refine Wk.o (by constructor) ?_|refine q_and ?_ ?_|exact True.intro)|refine VEq.c ?_|refine VEq.agg ?_|refine VEq.tup ?_|refine TkEq.cells ?_ ?_|refine TkEq.els ?_ ?_|refine SEqL.cons ?_ ?_|refine TEqL.agg ?_ ?_|refine CEq.rows ?_|refine CEq.int ?_|rfl|omega)
abbrev bLayT (L : Lay) : Option SB := some (.cells [uStr L.sts, uStr L.pts, uSec L.secs, uLnk L.lnks])
theorem secNames_ok (L : Lay) (h : L.secs.length ≤ 1000) : OkV Tryz.prog 66 [vLay L] [] (.c (rStr (L.secs.map Sec.nm))) [] := by
 unfold vLay
 refine X_fn mixedX Tryz.func66 rfl (by kernel_rfl) (Nat.le_of_ble_eq_true (by kernel_rfl)) (by kernel_rfl) rfl rfl (Nat.le_of_ble_eq_true rfl) rfl rfl ?_
 simp only [sl0, Nat.zero_add, Nat.reduceAdd]
 repeat' (first
  |with_reducible (first|refine q_and ?_ ?_|exact True.intro|exact TkEq.nil _|refine Red.o (by constructor) ?_|refine blockK_o' rfl ?_|refine LoopX_e' rfl ?_|assumption)
  |((with_reducible apply q_CI);intro hbq;(try simp only [bq] at hbq);(try (exfalso;omega)))
  |refine Rex.o (by (with_reducible constructor);apply Eq.refl) ?_
  |(intro (hgq : (_ : Bool) = true);(try simp only [bq] at hgq))
  |(intro (hgq : (_ : Bool) = false);(try simp only [bq] at hgq))
  |((with_reducible apply q_VOk);exact fun _ => ⟨rfl,rfl⟩)|(intro _;exact rfl)|((with_reducible apply q_CRB);kernel_rfl)|((with_reducible apply q_bt);simp only [bq])|((with_reducible apply q_eqN);rfl)|((with_reducible apply q_FE);exact rfl)|with_reducible (first|exact isByte_wrap _|exact isByte_nat _)|(simp only [hgq,bq];done)|omega|(dsimp only;omega))
 refine W_loopS (fun i : Nat => SS [sC 1 (pB 0), sC 3 (uStr ((L.secs.take i).map Sec.nm)), sI 4 i] [bLay L]) (fun i => i ≤ L.secs.length) (fun i => L.secs.length - i) 0 ?_ (by omega) ?_
 ·
  refine X_weak rfl rfl rfl ?_ ?_ <;> repeat' (first|with_reducible (first|refine Wk.o (by constructor) ?_|refine q_and ?_ ?_|exact True.intro)|refine q_AgS rfl ?_ ?_|exact CLe.nil_tipS|exact CLe.nil_rowS|refine HLe.cells ?_ ?_|refine HLe.els ?_ ?_|refine SLe.cons ?_ ?_|exact (rfl : known _ = _)|with_reducible rfl|omega)
 intro i hi
 have hl : ((L.secs.take i).map Sec.nm).length = min i L.secs.length := by simp
 have hsn : i < L.secs.length → (L.secs.take (i + 1)).map Sec.nm = (L.secs.take i).map Sec.nm ++ [(L.secs.getD i sec0).nm] := fun h => by
  rw [List.take_succ_eq_append_getElem h, List.map_append, List.getD_eq_getElem?_getD, List.getElem?_eq_getElem h]
  rfl
 repeat' (first
  |with_reducible (first|refine q_and ?_ ?_|exact True.intro|exact TkEq.nil _|refine Red.o (by constructor) ?_|refine blockK_o' rfl ?_|refine LoopX_e' rfl ?_|assumption)
  |((with_reducible apply q_CI);intro hbq;(try simp only [bq] at hbq);(try (exfalso;omega)))
  |refine Rex.o (by (with_reducible constructor);apply Eq.refl) ?_
  |(intro (hgq : (_ : Bool) = true);(try simp only [bq] at hgq))
  |(intro (hgq : (_ : Bool) = false);(try simp only [bq] at hgq))
  |((with_reducible apply q_VOk);exact fun _ => ⟨rfl,rfl⟩)|(intro _;exact rfl)|((with_reducible apply q_CRB);kernel_rfl)|((with_reducible apply q_bt);simp only [bq])|((with_reducible apply q_eqN);rfl)|((with_reducible apply q_FE);exact rfl)|with_reducible (first|exact isByte_wrap _|exact isByte_nat _)|(simp only [hgq,bq];done)|omega|(dsimp only;omega))
 ·
  refine LoopK_n (i + 1) ?_ ((by omega)) (by (try dsimp only); omega)
  refine X_weak rfl rfl rfl ?_ ?_ <;> repeat' (first|with_reducible (first|refine Wk.o (by constructor) ?_|refine q_and ?_ ?_|exact True.intro)|refine q_AgS rfl ?_ ?_|exact CLe.nil_tipS|exact CLe.nil_rowS|refine HLe.cells ?_ ?_|refine HLe.els ?_ ?_|refine SLe.cons ?_ ?_|exact (rfl : known _ = _)|with_reducible rfl|omega)
  ·rw [hsn (by omega)]; rfl
 ·have hie : i = L.secs.length := by omega
  subst hie
  rw [List.take_length]
  repeat' (first|with_reducible (first|refine Wk.o (by constructor) ?_|refine q_and ?_ ?_|exact True.intro)|refine VEq.c ?_|refine VEq.agg ?_|refine VEq.tup ?_|refine TkEq.cells ?_ ?_|refine TkEq.els ?_ ?_|refine SEqL.cons ?_ ?_|refine TEqL.agg ?_ ?_|refine CEq.rows ?_|refine CEq.int ?_|rfl|omega)
theorem declSec_ok (L : Lay) (w : List Wrd) (a b c d : List UInt8) (hl : w.length = 5) (ha : (w.getD (1 : Int).toNat dW).tx = bL a) (hb : (w.getD (2 : Int).toNat dW).tx = bL b) (hc : (w.getD (3 : Int).toNat dW).tx = bL c) (hd : (w.getD (4 : Int).toNat dW).tx = bL d) (h1 : okNum b = true) (h2 : okNum c = true) (h3 : okNum d = true) (hL : L.secs.length ≤ 1000) :
  OkV Tryz.prog 77 [.c (pB 0), .c (rWrd w)] [bLayT L] (vI 0) [bLayT { L with secs := L.secs ++ [⟨bL a, numL b, numL c, numL d, -1⟩] }] := by
 have n1 := number_ok b h1
 have n2 := number_ok c h2
 have n3 := number_ok d h3
 rw [← hb] at n1
 rw [← hc] at n2
 rw [← hd] at n3
 refine X_fn mixedX Tryz.func77 rfl (by kernel_rfl) (Nat.le_of_ble_eq_true (by kernel_rfl)) (by kernel_rfl) rfl rfl (Nat.le_of_ble_eq_true rfl) rfl rfl ?_
 simp only [sl0, Nat.zero_add, Nat.reduceAdd]
 repeat' (first
  |with_reducible (first|refine q_and ?_ ?_|exact True.intro|exact TkEq.nil _|refine Red.o (by constructor) ?_|refine blockK_o' rfl ?_|refine LoopX_e' rfl ?_|assumption)
  |((with_reducible apply q_call);first|refine X_pure (n1) rfl ?_|refine X_pure (n2) rfl ?_|refine X_pure (n3) rfl ?_)
  |((with_reducible apply q_CI);intro hbq;(try simp only [bq] at hbq);(try (exfalso;omega)))
  |with_reducible (first|refine W_seq ?_|refine W_block ?_)
  |((with_reducible apply q_cond);refine X_cond rfl ?_ ?_;all_goals (intro hbq;(try simp only [bq] at hbq);(try (exfalso;omega))))
  |refine Rex.o (by (with_reducible constructor);apply Eq.refl) ?_
  |(intro (hgq : (_ : Bool) = true);(try simp only [bq] at hgq))
  |(intro (hgq : (_ : Bool) = false);(try simp only [bq] at hgq))
  |((with_reducible apply q_VOk);exact fun _ => ⟨rfl,rfl⟩)|(intro _;exact rfl)|((with_reducible apply q_CRB);kernel_rfl)|((with_reducible apply q_bt);simp only [bq])|((with_reducible apply q_eqN);rfl)|((with_reducible apply q_FE);exact rfl)|with_reducible (first|exact isByte_wrap _|exact isByte_nat _)|(simp only [hgq,bq];done)|omega|(dsimp only;omega))
 ·rfl
 ·rw [ha]
  repeat' (first|with_reducible (first|refine Wk.o (by constructor) ?_|refine q_and ?_ ?_|exact True.intro)|refine VEq.c ?_|refine VEq.agg ?_|refine VEq.tup ?_|refine TkEq.cells ?_ ?_|refine TkEq.els ?_ ?_|refine SEqL.cons ?_ ?_|refine TEqL.agg ?_ ?_|refine CEq.rows ?_|refine CEq.int ?_|rfl|omega)
theorem declSecAt_ok (L : Lay) (w : List Wrd) (a b c d e f : List UInt8) (hl : w.length = 7) (ha : (w.getD (1 : Int).toNat dW).tx = bL a) (hb : (w.getD (2 : Int).toNat dW).tx = bL b) (hc : (w.getD (3 : Int).toNat dW).tx = bL c) (hd : (w.getD (4 : Int).toNat dW).tx = bL d) (he : (w.getD (5 : Int).toNat dW).tx = bL [97, 116]) (hf : (w.getD (6 : Int).toNat dW).tx = bL f) (h1 : okNum b = true) (h2 : okNum c = true) (h3 : okNum d = true) (hp : 0 ≤ placeL L.sts f) (hL : L.secs.length ≤ 1000) (hS : L.sts.length ≤ 1000) :
  OkV Tryz.prog 77 [.c (pB 0), .c (rWrd w)] [bLayT L] (vI 0) [bLayT { L with secs := L.secs ++ [⟨bL a, numL b, numL c, numL d, placeL L.sts f⟩] }] := by
 have n1 := number_ok b h1
 have n2 := number_ok c h2
 have n3 := number_ok d h3
 have n4 := place_ok L.sts f hS
 rw [← hb] at n1
 rw [← hc] at n2
 rw [← hd] at n3
 rw [← hf] at n4
 refine X_fn mixedX Tryz.func77 rfl (by kernel_rfl) (Nat.le_of_ble_eq_true (by kernel_rfl)) (by kernel_rfl) rfl rfl (Nat.le_of_ble_eq_true rfl) rfl rfl ?_
 simp only [sl0, Nat.zero_add, Nat.reduceAdd]
 repeat' (first
  |with_reducible (first|refine q_and ?_ ?_|exact True.intro|exact TkEq.nil _|refine Red.o (by constructor) ?_|refine blockK_o' rfl ?_|refine LoopX_e' rfl ?_|assumption)
  |((with_reducible apply q_call);first|refine X_pure (n1) rfl ?_|refine X_pure (n2) rfl ?_|refine X_pure (n3) rfl ?_|refine X_pure (n4) rfl ?_)
  |((with_reducible apply q_CI);intro hbq;(try simp only [bq] at hbq);(try (exfalso;omega)))
  |with_reducible (first|refine W_seq ?_|refine W_block ?_)
  |((with_reducible apply q_cond);refine X_cond rfl ?_ ?_;all_goals (intro hbq;(try simp only [bq] at hbq);(try (exfalso;omega))))
  |refine Rex.o (by (with_reducible constructor);apply Eq.refl) ?_
  |(intro (hgq : (_ : Bool) = true);(try simp only [bq] at hgq))
  |(intro (hgq : (_ : Bool) = false);(try simp only [bq] at hgq))
  |((with_reducible apply q_VOk);exact fun _ => ⟨rfl,rfl⟩)|(intro _;exact rfl)|((with_reducible apply q_CRB);kernel_rfl)|((with_reducible apply q_bt);simp only [bq])|((with_reducible apply q_eqN);rfl)|((with_reducible apply q_FE);exact rfl)|with_reducible (first|exact isByte_wrap _|exact isByte_nat _)|(simp only [hgq,bq];done)|omega|(dsimp only;omega))
 ·exact absurd (show (w.getD (5 : Int).toNat dW).tx.data.toList = [97, 116] by rw [he]; simp [bL]) (sNe (s := [97, 116]) hbq.2)
 ·exact absurd (show (w.getD (5 : Int).toNat dW).tx.data.toList = [97, 116] by rw [he]; simp [bL]) (sNe (s := [97, 116]) hbq.2)
 ·rfl
 ·rw [ha]
  repeat' (first|with_reducible (first|refine Wk.o (by constructor) ?_|refine q_and ?_ ?_|exact True.intro)|refine VEq.c ?_|refine VEq.agg ?_|refine VEq.tup ?_|refine TkEq.cells ?_ ?_|refine TkEq.els ?_ ?_|refine SEqL.cons ?_ ?_|refine TEqL.agg ?_ ?_|refine CEq.rows ?_|refine CEq.int ?_|rfl|omega)
theorem declLnk_ok (L : Lay) (w : List Wrd) (a b c d : List UInt8) (hl : w.length = 5) (ha : (w.getD (1 : Int).toNat dW).tx = bL a) (hb : (w.getD (2 : Int).toNat dW).tx = bL b) (hc : (w.getD (3 : Int).toNat dW).tx = bL c) (hd : (w.getD (4 : Int).toNat dW).tx = bL d) (h1 : 0 ≤ endL b) (h2 : 0 ≤ endL d) (h3 : 0 ≤ placeL (L.secs.map Sec.nm) a) (h4 : 0 ≤ placeL (L.secs.map Sec.nm) c) (hL : L.secs.length ≤ 1000) (hL2 : L.lnks.length ≤ 1000) :
  OkV Tryz.prog 78 [.c (pB 0), .c (rWrd w)] [bLayT L] (vI 0) [bLayT { L with lnks := L.lnks ++ [⟨placeL (L.secs.map Sec.nm) a, endL b, placeL (L.secs.map Sec.nm) c, endL d, -1, 0⟩] }] := by
 have n1 := letterEnd_ok b
 have n2 := letterEnd_ok d
 have n3 := secNames_ok L hL
 have n4 := place_ok (L.secs.map Sec.nm) a (by simpa using hL)
 have n5 := place_ok (L.secs.map Sec.nm) c (by simpa using hL)
 rw [← hb] at n1
 rw [← hd] at n2
 rw [← ha] at n4
 rw [← hc] at n5
 unfold vLay at n3
 refine X_fn mixedX Tryz.func78 rfl (by kernel_rfl) (Nat.le_of_ble_eq_true (by kernel_rfl)) (by kernel_rfl) rfl rfl (Nat.le_of_ble_eq_true rfl) rfl rfl ?_
 simp only [sl0, Nat.zero_add, Nat.reduceAdd]
 repeat' (first
  |with_reducible (first|refine q_and ?_ ?_|exact True.intro|exact TkEq.nil _|refine Red.o (by constructor) ?_|refine blockK_o' rfl ?_|refine LoopX_e' rfl ?_|assumption)
  |((with_reducible apply q_call);first|refine X_pure (n1) rfl ?_|refine X_pure (n2) rfl ?_|refine X_pure (n3) rfl ?_|refine X_pure (n4) rfl ?_|refine X_pure (n5) rfl ?_)
  |((with_reducible apply q_CI);intro hbq;(try simp only [bq] at hbq);(try (exfalso;omega)))
  |with_reducible (first|refine W_seq ?_|refine W_block ?_)
  |((with_reducible apply q_cond);refine X_cond rfl ?_ ?_;all_goals (intro hbq;(try simp only [bq] at hbq);(try (exfalso;omega))))
  |refine Rex.o (by (with_reducible constructor);apply Eq.refl) ?_
  |(intro (hgq : (_ : Bool) = true);(try simp only [bq] at hgq))
  |(intro (hgq : (_ : Bool) = false);(try simp only [bq] at hgq))
  |((with_reducible apply q_VOk);exact fun _ => ⟨rfl,rfl⟩)|(intro _;exact rfl)|((with_reducible apply q_CRB);kernel_rfl)|((with_reducible apply q_bt);simp only [bq])|((with_reducible apply q_eqN);rfl)|((with_reducible apply q_FE);exact rfl)|with_reducible (first|exact isByte_wrap _|exact isByte_nat _)|(simp only [hgq,bq];done)|omega|(dsimp only;omega))
 ·rfl
 ·
  repeat' (first|with_reducible (first|refine Wk.o (by constructor) ?_|refine q_and ?_ ?_|exact True.intro)|refine VEq.c ?_|refine VEq.agg ?_|refine VEq.tup ?_|refine TkEq.cells ?_ ?_|refine TkEq.els ?_ ?_|refine SEqL.cons ?_ ?_|refine TEqL.agg ?_ ?_|refine CEq.rows ?_|refine CEq.int ?_|rfl|omega)
theorem wNe {w : List Wrd} {i : Nat} {a b : List UInt8} (h : (w.getD i dW).tx = bL a) (hab : a ≠ b) : ((w.getD i dW).tx.toList == (bL b).toList) = false := by
 rw [h, bL_toList, bL_toList]
 simpa using hab
theorem wEq {w : List Wrd} {i : Nat} {a : List UInt8} (h : (w.getD i dW).tx = bL a) : ((w.getD i dW).tx.toList == (bL a).toList) = true := by
 rw [h]; simp
theorem declare_ok (L L' : Lay) (ws : List PW) (h : declL L ws = some L') (hL : L.secs.length ≤ 1000) (hL2 : L.lnks.length ≤ 1000) (hS : L.sts.length ≤ 1000) :
  OkV Tryz.prog 64 [.c (pB 0), .c (rWrd (ws.map PW.w))] [bLayT L] (vI 0) [bLayT L'] := by
 have hg : ∀ i, i < ws.length → ((ws.map PW.w).getD i dW).tx = bL ((ws.map PW.tx).getD i []) := fun i hi => by
  simp [List.getD_eq_getElem?_getD, List.getElem?_map, List.getElem?_eq_getElem hi, PW.w]
 have hwl : (ws.map PW.w).length = ws.length := by simp
 have htl : (ws.map PW.tx).length = ws.length := by simp
 unfold declL at h
 generalize ws.map PW.w = w at *
 generalize ws.map PW.tx = tx at *
 match tx, h with
 | [k, a], h =>
  have hn : ws.length = 2 := by rw [← htl]; rfl
  have hw : w.length = 2 := by rw [hwl, hn]
  have h0 : (w.getD (0 : Int).toNat dW).tx = bL k := hg 0 (by omega)
  have h1 : (w.getD (1 : Int).toNat dW).tx = bL a := hg 1 (by omega)
  simp only at h
  split at h
  ·rename_i hk
   injection h with h; subst h
   rw [hk] at h0
   have q0 : ((w.getD (0 : Int).toNat { tx := { data := #[] }, ln := 0, co := 0 }).tx.toList == ByteArray.toList ⟨#[115, 116, 97, 116, 105, 111, 110]⟩) = true := wEq h0
   refine X_fn mixedX Tryz.func64 rfl (by kernel_rfl) (Nat.le_of_ble_eq_true (by kernel_rfl)) (by kernel_rfl) rfl rfl (Nat.le_of_ble_eq_true rfl) rfl rfl ?_
   simp only [sl0, Nat.zero_add, Nat.reduceAdd]
   repeat' (first
    |with_reducible (first|refine q_and ?_ ?_|exact True.intro|exact TkEq.nil _|refine Red.o (by constructor) ?_|refine blockK_o' rfl ?_|refine LoopX_e' rfl ?_|assumption)
    |((with_reducible apply q_CI);intro hbq;(try simp only [bq,and_true,true_and,and_false,false_and,or_true,true_or,or_false,false_or,not_true_eq_false,not_false_eq_true,Bool.true_eq_false,Bool.false_eq_true,q0] at hbq);(try (exfalso;omega)))
    |((with_reducible apply q_cond);refine X_cond rfl ?_ ?_;all_goals (intro hbq;(try simp only [bq,and_true,true_and,and_false,false_and,or_true,true_or,or_false,false_or,not_true_eq_false,not_false_eq_true,Bool.true_eq_false,Bool.false_eq_true,q0] at hbq);(try (exfalso;omega))))
    |((with_reducible apply q_CI);intro hbq;(try simp only [bq] at hbq);(try (exfalso;omega)))
    |with_reducible (first|refine W_seq ?_|refine W_block ?_)
    |((with_reducible apply q_cond);refine X_cond rfl ?_ ?_;all_goals (intro hbq;(try simp only [bq] at hbq);(try (exfalso;omega))))
    |refine Rex.o (by (with_reducible constructor);apply Eq.refl) ?_
    |(intro (hgq : (_ : Bool) = true);(try simp only [bq] at hgq))
    |(intro (hgq : (_ : Bool) = false);(try simp only [bq] at hgq))
    |((with_reducible apply q_VOk);exact fun _ => ⟨rfl,rfl⟩)|(intro _;exact rfl)|((with_reducible apply q_CRB);kernel_rfl)|((with_reducible apply q_bt);simp only [bq])|((with_reducible apply q_eqN);rfl)|((with_reducible apply q_FE);exact rfl)|with_reducible (first|exact isByte_wrap _|exact isByte_nat _)|(simp only [hgq,bq];done)|omega|(dsimp only;omega))
   ·rfl
   ·rw [h1]
    repeat' (first|with_reducible (first|refine Wk.o (by constructor) ?_|refine q_and ?_ ?_|exact True.intro)|refine VEq.c ?_|refine VEq.agg ?_|refine VEq.tup ?_|refine TkEq.cells ?_ ?_|refine TkEq.els ?_ ?_|refine SEqL.cons ?_ ?_|refine TEqL.agg ?_ ?_|refine CEq.rows ?_|refine CEq.int ?_|rfl|omega)
  ·cases h
 | [k, a, b, c, d], h =>
  have hn : ws.length = 5 := by rw [← htl]; rfl
  have hw : w.length = 5 := by rw [hwl, hn]
  have h0 : (w.getD (0 : Int).toNat dW).tx = bL k := hg 0 (by omega)
  have h1 : (w.getD (1 : Int).toNat dW).tx = bL a := hg 1 (by omega)
  have h2 : (w.getD (2 : Int).toNat dW).tx = bL b := hg 2 (by omega)
  have h3 : (w.getD (3 : Int).toNat dW).tx = bL c := hg 3 (by omega)
  have h4 : (w.getD (4 : Int).toNat dW).tx = bL d := hg 4 (by omega)
  simp only at h
  split at h
  ·rename_i hk
   split at h
   ·rename_i hnn
    injection h with h; subst h
    simp only [Bool.and_eq_true] at hnn
    rw [hk] at h0
    have q0 : ((w.getD (0 : Int).toNat { tx := { data := #[] }, ln := 0, co := 0 }).tx.toList == ByteArray.toList ⟨#[115, 101, 99, 116, 105, 111, 110]⟩) = true := wEq h0
    have hD := declSec_ok L w a b c d hw h1 h2 h3 h4 hnn.1.1 hnn.1.2 hnn.2 hL
    refine X_fn mixedX Tryz.func64 rfl (by kernel_rfl) (Nat.le_of_ble_eq_true (by kernel_rfl)) (by kernel_rfl) rfl rfl (Nat.le_of_ble_eq_true rfl) rfl rfl ?_
    simp only [sl0, Nat.zero_add, Nat.reduceAdd]
    repeat' (first
     |with_reducible (first|refine q_and ?_ ?_|exact True.intro|exact TkEq.nil _|refine Red.o (by constructor) ?_|refine blockK_o' rfl ?_|refine LoopX_e' rfl ?_|assumption)
     |((with_reducible apply q_call);refine X_call [0] (hD) rfl rfl rfl rfl rfl rfl rfl rfl rfl rfl rfl rfl rfl ?_)
     |((with_reducible apply q_CI);intro hbq;(try simp only [bq,and_true,true_and,and_false,false_and,or_true,true_or,or_false,false_or,not_true_eq_false,not_false_eq_true,Bool.true_eq_false,Bool.false_eq_true,q0] at hbq);(try (exfalso;omega)))
     |((with_reducible apply q_cond);refine X_cond rfl ?_ ?_;all_goals (intro hbq;(try simp only [bq,and_true,true_and,and_false,false_and,or_true,true_or,or_false,false_or,not_true_eq_false,not_false_eq_true,Bool.true_eq_false,Bool.false_eq_true,q0] at hbq);(try (exfalso;omega))))
     |((with_reducible apply q_CI);intro hbq;(try simp only [bq] at hbq);(try (exfalso;omega)))
     |with_reducible (first|refine W_seq ?_|refine W_block ?_)
     |((with_reducible apply q_cond);refine X_cond rfl ?_ ?_;all_goals (intro hbq;(try simp only [bq] at hbq);(try (exfalso;omega))))
     |refine Rex.o (by (with_reducible constructor);apply Eq.refl) ?_
     |(intro (hgq : (_ : Bool) = true);(try simp only [bq] at hgq))
     |(intro (hgq : (_ : Bool) = false);(try simp only [bq] at hgq))
     |((with_reducible apply q_VOk);exact fun _ => ⟨rfl,rfl⟩)|(intro _;exact rfl)|((with_reducible apply q_CRB);kernel_rfl)|((with_reducible apply q_bt);simp only [bq])|((with_reducible apply q_eqN);rfl)|((with_reducible apply q_FE);exact rfl)|with_reducible (first|exact isByte_wrap _|exact isByte_nat _)|(simp only [hgq,bq];done)|omega|(dsimp only;omega))
    ·rfl
    ·
     repeat' (first|with_reducible (first|refine Wk.o (by constructor) ?_|refine q_and ?_ ?_|exact True.intro)|refine VEq.c ?_|refine VEq.agg ?_|refine VEq.tup ?_|refine TkEq.cells ?_ ?_|refine TkEq.els ?_ ?_|refine SEqL.cons ?_ ?_|refine TEqL.agg ?_ ?_|refine CEq.rows ?_|refine CEq.int ?_|rfl|omega)
   ·cases h
  ·split at h
   ·rename_i hk
    split at h
    ·rename_i hnn
     injection h with h; subst h
     rw [hk] at h0
     have q0 : ((w.getD (0 : Int).toNat { tx := { data := #[] }, ln := 0, co := 0 }).tx.toList == ByteArray.toList ⟨#[115, 101, 99, 116, 105, 111, 110]⟩) = false := wNe h0 (by decide)
     have q1 : ((w.getD (0 : Int).toNat { tx := { data := #[] }, ln := 0, co := 0 }).tx.toList == ByteArray.toList ⟨#[108, 105, 110, 107]⟩) = true := wEq h0
     have hD := declLnk_ok L w a b c d hw h1 h2 h3 h4 hnn.1 hnn.2.1 hnn.2.2.1 hnn.2.2.2 hL hL2
     refine X_fn mixedX Tryz.func64 rfl (by kernel_rfl) (Nat.le_of_ble_eq_true (by kernel_rfl)) (by kernel_rfl) rfl rfl (Nat.le_of_ble_eq_true rfl) rfl rfl ?_
     simp only [sl0, Nat.zero_add, Nat.reduceAdd]
     repeat' (first
      |with_reducible (first|refine q_and ?_ ?_|exact True.intro|exact TkEq.nil _|refine Red.o (by constructor) ?_|refine blockK_o' rfl ?_|refine LoopX_e' rfl ?_|assumption)
      |((with_reducible apply q_call);refine X_call [0] (hD) rfl rfl rfl rfl rfl rfl rfl rfl rfl rfl rfl rfl rfl ?_)
      |((with_reducible apply q_CI);intro hbq;(try simp only [bq,and_true,true_and,and_false,false_and,or_true,true_or,or_false,false_or,not_true_eq_false,not_false_eq_true,Bool.true_eq_false,Bool.false_eq_true,q0, q1] at hbq);(try (exfalso;omega)))
      |((with_reducible apply q_cond);refine X_cond rfl ?_ ?_;all_goals (intro hbq;(try simp only [bq,and_true,true_and,and_false,false_and,or_true,true_or,or_false,false_or,not_true_eq_false,not_false_eq_true,Bool.true_eq_false,Bool.false_eq_true,q0, q1] at hbq);(try (exfalso;omega))))
      |((with_reducible apply q_CI);intro hbq;(try simp only [bq] at hbq);(try (exfalso;omega)))
      |with_reducible (first|refine W_seq ?_|refine W_block ?_)
      |((with_reducible apply q_cond);refine X_cond rfl ?_ ?_;all_goals (intro hbq;(try simp only [bq] at hbq);(try (exfalso;omega))))
      |refine Rex.o (by (with_reducible constructor);apply Eq.refl) ?_
      |(intro (hgq : (_ : Bool) = true);(try simp only [bq] at hgq))
      |(intro (hgq : (_ : Bool) = false);(try simp only [bq] at hgq))
      |((with_reducible apply q_VOk);exact fun _ => ⟨rfl,rfl⟩)|(intro _;exact rfl)|((with_reducible apply q_CRB);kernel_rfl)|((with_reducible apply q_bt);simp only [bq])|((with_reducible apply q_eqN);rfl)|((with_reducible apply q_FE);exact rfl)|with_reducible (first|exact isByte_wrap _|exact isByte_nat _)|(simp only [hgq,bq];done)|omega|(dsimp only;omega))
     ·rfl
     ·
      repeat' (first|with_reducible (first|refine Wk.o (by constructor) ?_|refine q_and ?_ ?_|exact True.intro)|refine VEq.c ?_|refine VEq.agg ?_|refine VEq.tup ?_|refine TkEq.cells ?_ ?_|refine TkEq.els ?_ ?_|refine SEqL.cons ?_ ?_|refine TEqL.agg ?_ ?_|refine CEq.rows ?_|refine CEq.int ?_|rfl|omega)
    ·cases h
   ·cases h
 | [k, a, b, c, d, e, f], h =>
  have hn : ws.length = 7 := by rw [← htl]; rfl
  have hw : w.length = 7 := by rw [hwl, hn]
  have h0 : (w.getD (0 : Int).toNat dW).tx = bL k := hg 0 (by omega)
  have h1 : (w.getD (1 : Int).toNat dW).tx = bL a := hg 1 (by omega)
  have h2 : (w.getD (2 : Int).toNat dW).tx = bL b := hg 2 (by omega)
  have h3 : (w.getD (3 : Int).toNat dW).tx = bL c := hg 3 (by omega)
  have h4 : (w.getD (4 : Int).toNat dW).tx = bL d := hg 4 (by omega)
  have h5 : (w.getD (5 : Int).toNat dW).tx = bL e := hg 5 (by omega)
  have h6 : (w.getD (6 : Int).toNat dW).tx = bL f := hg 6 (by omega)
  simp only at h
  split at h
  ·rename_i hk
   injection h with h; subst h
   obtain ⟨hk, he, hnn, hp⟩ := hk
   simp only [Bool.and_eq_true] at hnn
   rw [hk] at h0
   rw [he] at h5
   have q0 : ((w.getD (0 : Int).toNat { tx := { data := #[] }, ln := 0, co := 0 }).tx.toList == ByteArray.toList ⟨#[115, 101, 99, 116, 105, 111, 110]⟩) = true := wEq h0
   have hD := declSecAt_ok L w a b c d [97, 116] f hw h1 h2 h3 h4 h5 h6 hnn.1.1 hnn.1.2 hnn.2 hp hL hS
   refine X_fn mixedX Tryz.func64 rfl (by kernel_rfl) (Nat.le_of_ble_eq_true (by kernel_rfl)) (by kernel_rfl) rfl rfl (Nat.le_of_ble_eq_true rfl) rfl rfl ?_
   simp only [sl0, Nat.zero_add, Nat.reduceAdd]
   repeat' (first
    |with_reducible (first|refine q_and ?_ ?_|exact True.intro|exact TkEq.nil _|refine Red.o (by constructor) ?_|refine blockK_o' rfl ?_|refine LoopX_e' rfl ?_|assumption)
    |((with_reducible apply q_call);refine X_call [0] (hD) rfl rfl rfl rfl rfl rfl rfl rfl rfl rfl rfl rfl rfl ?_)
    |((with_reducible apply q_CI);intro hbq;(try simp only [bq,and_true,true_and,and_false,false_and,or_true,true_or,or_false,false_or,not_true_eq_false,not_false_eq_true,Bool.true_eq_false,Bool.false_eq_true,q0] at hbq);(try (exfalso;omega)))
    |((with_reducible apply q_cond);refine X_cond rfl ?_ ?_;all_goals (intro hbq;(try simp only [bq,and_true,true_and,and_false,false_and,or_true,true_or,or_false,false_or,not_true_eq_false,not_false_eq_true,Bool.true_eq_false,Bool.false_eq_true,q0] at hbq);(try (exfalso;omega))))
    |((with_reducible apply q_CI);intro hbq;(try simp only [bq] at hbq);(try (exfalso;omega)))
    |with_reducible (first|refine W_seq ?_|refine W_block ?_)
    |((with_reducible apply q_cond);refine X_cond rfl ?_ ?_;all_goals (intro hbq;(try simp only [bq] at hbq);(try (exfalso;omega))))
    |refine Rex.o (by (with_reducible constructor);apply Eq.refl) ?_
    |(intro (hgq : (_ : Bool) = true);(try simp only [bq] at hgq))
    |(intro (hgq : (_ : Bool) = false);(try simp only [bq] at hgq))
    |((with_reducible apply q_VOk);exact fun _ => ⟨rfl,rfl⟩)|(intro _;exact rfl)|((with_reducible apply q_CRB);kernel_rfl)|((with_reducible apply q_bt);simp only [bq])|((with_reducible apply q_eqN);rfl)|((with_reducible apply q_FE);exact rfl)|with_reducible (first|exact isByte_wrap _|exact isByte_nat _)|(simp only [hgq,bq];done)|omega|(dsimp only;omega))
   ·rfl
   ·
    repeat' (first|with_reducible (first|refine Wk.o (by constructor) ?_|refine q_and ?_ ?_|exact True.intro)|refine VEq.c ?_|refine VEq.agg ?_|refine VEq.tup ?_|refine TkEq.cells ?_ ?_|refine TkEq.els ?_ ?_|refine SEqL.cons ?_ ?_|refine TEqL.agg ?_ ?_|refine CEq.rows ?_|refine CEq.int ?_|rfl|omega)
  ·cases h
end Go.Proofs.YtbpeakgihhdocaaGreat.Av
namespace Go.Proofs.YtbpeakgihhdocaaGreat.Av
def okF : Nat → List UInt8 → Int → Bool
 | 0, _, _ => true
 | n + 1, s, ln => if s = [] then true else okLine (s.take (lineLen s)) && decide ((wOne (s.take (lineLen s)) ln).length ≤ 64) && okF n (s.drop (lineLen s + 1)) (ln + 1)
theorem lineLen_eq : ∀ {s : List UInt8} {m : Nat}, m ≤ s.length → (∀ k, k < m → s.getD k 0 ≠ 10) → (m = s.length ∨ s.getD m 0 = 10) → lineLen s = m
 | [], m, h, _, _ => by simp at h; subst h; rfl
 | b :: s, 0, _, _, h => by
  rcases h with h | h
  ·cases h
  ·have h : b = 10 := h
   subst h; rfl
 | b :: s, m + 1, h, hn, hm => by
  have hb : b ≠ 10 := hn 0 (by omega)
  have ih := lineLen_eq (s := s) (m := m) (by simpa using h) (fun k hk => hn (k + 1) (by omega)) (by simpa using hm)
  unfold lineLen at ih ⊢
  rw [List.takeWhile_cons, if_pos (by simpa using hb), List.length_cons, ih]
theorem bL_extract (s : List UInt8) (i j : Nat) : (bL s).extract i j = bL ((s.drop i).take (j - i)) := by
 apply ByteArray.ext
 rw [ByteArray.data_extract]
 apply Array.ext'
 rw [Array.toList_extract]
 show List.extract s i j = _
 rw [List.extract_eq_take_drop]
 rfl
structure LnG where
 i : Nat
 ln : Nat
 out : List (List PW)
theorem linesF_len : ∀ (n : Nat) (s : List UInt8) (ln : Int), (linesF n s ln).length ≤ s.length
 | 0, s, ln => Nat.zero_le _
 | n + 1, s, ln => by
  unfold linesF
  split
  ·simp
  ·rename_i hs
   have ih := linesF_len n (s.drop (lineLen s + 1)) (ln + 1)
   rw [List.length_drop] at ih
   have h0 : 0 < s.length := List.length_pos_iff.2 hs
   simp only [List.length_append]
   split <;> simp only [List.length_nil, List.length_cons] <;> omega
theorem lines_ok (s : List UInt8) (hs : s.length ≤ 65536) (hok : okF (s.length + 1) s 1 = true) : OkV Tryz.prog 63 [vS (bL s)] [] (.tup [.c (rWs ((linesF (s.length + 1) s 1).map fun l => l.map PW.w)), .c (xI 0), .c (xI 0)]) [] := by
 have hz : (bL s).size = s.length := rfl
 have htot := linesF_len (s.length + 1) s 1
 generalize hT : linesF (s.length + 1) s 1 = T at *
 refine X_fn mixedX Tryz.func63 rfl (by kernel_rfl) (Nat.le_of_ble_eq_true (by kernel_rfl)) (by kernel_rfl) rfl rfl (Nat.le_of_ble_eq_true rfl) rfl rfl ?_
 simp only [sl0, Nat.zero_add, Nat.reduceAdd]
 repeat' (first
  |with_reducible (first|refine q_and ?_ ?_|exact True.intro|exact TkEq.nil _|refine Red.o (by constructor) ?_|refine blockK_o' rfl ?_|refine LoopX_e' rfl ?_|assumption)
  |((with_reducible apply q_CI);intro hbq;(try simp only [bq] at hbq);(try (exfalso;omega)))
  |refine Rex.o (by (with_reducible constructor);apply Eq.refl) ?_
  |(intro (hgq : (_ : Bool) = true);(try simp only [bq] at hgq))
  |(intro (hgq : (_ : Bool) = false);(try simp only [bq] at hgq))
  |((with_reducible apply q_VOk);exact fun _ => ⟨rfl,rfl⟩)|(intro _;exact rfl)|((with_reducible apply q_CRB);kernel_rfl)|((with_reducible apply q_bt);simp only [bq])|((with_reducible apply q_eqN);rfl)|((with_reducible apply q_FE);exact rfl)|with_reducible (first|exact isByte_wrap _|exact isByte_nat _)|(simp only [hgq,bq];done)|omega|(dsimp only;omega))
 refine W_loopS (fun g : LnG => SS [sS 0 (bL s), sC 5 (.tipr 1 fWs vWs (fun _ => none) [] (g.out.map fun l => l.map PW.w)), sI 6 g.ln, sI 7 g.i] []) (fun g => g.i ≤ s.length + 1 ∧ g.ln ≤ g.i + 1 ∧ ∃ n, (s.drop g.i).length < n ∧ g.out ++ linesF n (s.drop g.i) g.ln = T ∧ okF n (s.drop g.i) g.ln = true) (fun g => s.length + 1 - g.i) ⟨0, 1, []⟩ ?_ ⟨by simp, by simp, s.length + 1, by simp, by simpa using hT, by simpa using hok⟩ ?_
 ·
  refine X_weak rfl rfl rfl ?_ ?_ <;> repeat' (first|with_reducible (first|refine Wk.o (by constructor) ?_|refine q_and ?_ ?_|exact True.intro)|refine q_AgS rfl ?_ ?_|exact CLe.nil_tipS|exact CLe.nil_rowS|refine HLe.cells ?_ ?_|refine HLe.els ?_ ?_|refine SLe.cons ?_ ?_|exact (rfl : known _ = _)|with_reducible rfl|omega)
  all_goals rfl
 rintro ⟨i, ln, out⟩ ⟨hi, hln, n, hn, hout, hokn⟩
 simp only at hi hln hout hokn hn
 have hol : out.length ≤ 65536 := by
  have := congrArg List.length hout
  rw [List.length_append] at this
  omega
 by_cases hil : i < s.length
 ·obtain ⟨n, rfl⟩ : ∃ m, n = m + 1 := ⟨n - 1, by omega⟩
  have hne : s.drop i ≠ [] := fun e => by
   have := congrArg List.length e
   rw [List.length_drop] at this
   simp at this
   omega
  have hlF : linesF (n + 1) (s.drop i) ln = (if wOne ((s.drop i).take (lineLen (s.drop i))) ln = [] then [] else [wOne ((s.drop i).take (lineLen (s.drop i))) ln]) ++ linesF n ((s.drop i).drop (lineLen (s.drop i) + 1)) (ln + 1) := by
   conv => lhs; unfold linesF
   rw [if_neg hne]
  unfold okF at hokn
  rw [if_neg hne] at hokn
  simp only [Bool.and_eq_true, decide_eq_true_eq] at hokn
  obtain ⟨⟨ho1, ho2⟩, ho3⟩ := hokn
  rw [hlF] at hout
  clear hlF
  repeat' (first
   |with_reducible (first|refine q_and ?_ ?_|exact True.intro|exact TkEq.nil _|refine Red.o (by constructor) ?_|refine blockK_o' rfl ?_|refine LoopX_e' rfl ?_|assumption)
   |((with_reducible apply q_CI);intro hbq;(try simp only [bq] at hbq);(try (exfalso;omega)))
   |refine Rex.o (by (with_reducible constructor);apply Eq.refl) ?_
   |(intro (hgq : (_ : Bool) = true);(try simp only [bq] at hgq))
   |(intro (hgq : (_ : Bool) = false);(try simp only [bq] at hgq))
   |((with_reducible apply q_VOk);exact fun _ => ⟨rfl,rfl⟩)|(intro _;exact rfl)|((with_reducible apply q_CRB);kernel_rfl)|((with_reducible apply q_bt);simp only [bq])|((with_reducible apply q_eqN);rfl)|((with_reducible apply q_FE);exact rfl)|with_reducible (first|exact isByte_wrap _|exact isByte_nat _)|(simp only [hgq,bq];done)|omega|(dsimp only;omega))
  refine W_loopS (fun j : Nat => SS [sS 0 (bL s), sC 5 (.tipr 1 fWs vWs (fun _ => none) [] (out.map fun l => l.map PW.w)), sI 6 ln, sI 7 i, sI 8 j] []) (fun j => i ≤ j ∧ j ≤ s.length ∧ ∀ k, i ≤ k → k < j → s.getD k 0 ≠ 10) (fun j => s.length - j) i ?_ ⟨by omega, by omega, fun k h1 h2 => by omega⟩ ?_
  ·
   refine X_weak rfl rfl rfl ?_ ?_ <;> repeat' (first|with_reducible (first|refine Wk.o (by constructor) ?_|refine q_and ?_ ?_|exact True.intro)|refine q_AgS rfl ?_ ?_|exact CLe.nil_tipS|exact CLe.nil_rowS|refine HLe.cells ?_ ?_|refine HLe.els ?_ ?_|refine SLe.cons ?_ ?_|exact (rfl : known _ = _)|with_reducible rfl|omega)
  rintro j ⟨hj1, hj2, hj3⟩
  have e2 : (bL s).data.getD (j : Int).toNat 0 = s.getD j 0 := bL_get s j
  by_cases hx : j < s.length ∧ s.getD j 0 ≠ 10
  ·have hx2 : ((bL s).data.getD (j : Int).toNat 0).toNat ≠ 10 := fun e => hx.2 (by rw [← e2]; exact UInt8.toNat_inj.1 e)
   obtain ⟨hx1, _⟩ := hx
   have hj4 : ∀ k, i ≤ k → k < j + 1 → s.getD k 0 ≠ 10 := fun k h1 h2 => by
    rcases Nat.lt_succ_iff_lt_or_eq.1 h2 with h | h
    ·exact hj3 k h1 h
    ·rw [h]; intro e; exact hx2 (by rw [e2, e]; rfl)
   repeat' (first
    |with_reducible (first|refine q_and ?_ ?_|exact True.intro|exact TkEq.nil _|refine Red.o (by constructor) ?_|refine blockK_o' rfl ?_|refine LoopX_e' rfl ?_|assumption)
    |((with_reducible apply q_CI);intro hbq;(try simp only [bq] at hbq);(try (exfalso;omega)))
    |refine Rex.o (by (with_reducible constructor);apply Eq.refl) ?_
    |(intro (hgq : (_ : Bool) = true);(try simp only [bq] at hgq))
    |(intro (hgq : (_ : Bool) = false);(try simp only [bq] at hgq))
    |((with_reducible apply q_VOk);exact fun _ => ⟨rfl,rfl⟩)|(intro _;exact rfl)|((with_reducible apply q_CRB);kernel_rfl)|((with_reducible apply q_bt);simp only [bq])|((with_reducible apply q_eqN);rfl)|((with_reducible apply q_FE);exact rfl)|with_reducible (first|exact isByte_wrap _|exact isByte_nat _)|(simp only [hgq,bq];done)|omega|(dsimp only;omega))
   ·
    refine LoopK_n (j + 1) ?_ (⟨by omega, by omega, hj4⟩) (by (try dsimp only); omega)
    refine X_weak rfl rfl rfl ?_ ?_ <;> repeat' (first|with_reducible (first|refine Wk.o (by constructor) ?_|refine q_and ?_ ?_|exact True.intro)|refine q_AgS rfl ?_ ?_|exact CLe.nil_tipS|exact CLe.nil_rowS|refine HLe.cells ?_ ?_|refine HLe.els ?_ ?_|refine SLe.cons ?_ ?_|exact (rfl : known _ = _)|with_reducible rfl|omega)
  ·have hx2 : s.length ≤ j ∨ ((bL s).data.getD (j : Int).toNat 0).toNat = 10 := by
    rcases Nat.lt_or_ge j s.length with h | h
    ·right
     rw [e2]
     have : s.getD j 0 = 10 := by
      rcases Classical.em (s.getD j 0 = 10) with h2 | h2
      ·exact h2
      ·exact absurd ⟨h, h2⟩ hx
     rw [this]; rfl
    ·exact .inl h
   have hLL : lineLen (s.drop i) = j - i := by
    refine lineLen_eq (by rw [List.length_drop]; omega) (fun k hk => ?_) ?_
    ·have := hj3 (i + k) (by omega) (by omega)
     rw [List.getD_eq_getElem?_getD, List.getElem?_drop, ← List.getD_eq_getElem?_getD]
     exact this
    ·rcases hx2 with h | h
     ·left; rw [List.length_drop]; omega
     ·right
      rw [e2] at h
      rw [List.getD_eq_getElem?_getD, List.getElem?_drop, ← List.getD_eq_getElem?_getD, show i + (j - i) = j by omega]
      exact UInt8.toNat_inj.1 h
   rw [hLL] at ho1 ho2 ho3 hout
   have hO := one_ok ((s.drop i).take (j - i)) ln ho1 (by rw [List.length_take, List.length_drop]; omega) ho2
   have hex : (bL s).extract (i : Int).toNat (j : Int).toNat = bL ((s.drop i).take (j - i)) := bL_extract s i j
   rw [← hex] at hO
   have hdd : (s.drop i).drop (j - i + 1) = s.drop (j + 1) := by rw [List.drop_drop]; congr 1; omega
   rw [hdd] at ho3 hout
   generalize wOne ((s.drop i).take (j - i)) ln = ws at *
   have hwl : (ws.map PW.w).length = ws.length := by simp
   have hom : (out.map fun l => l.map PW.w).length = out.length := by simp
   have hnn : (s.drop (j + 1)).length < n := by
    rw [List.length_drop] at hn ⊢
    omega
   by_cases hws : ws = []
   ·rw [hws, if_pos rfl, List.nil_append] at hout
    have hw0 : ws.length = 0 := by rw [hws]; rfl
    repeat' (first
     |with_reducible (first|refine q_and ?_ ?_|exact True.intro|exact TkEq.nil _|refine Red.o (by constructor) ?_|refine blockK_o' rfl ?_|refine LoopX_e' rfl ?_|assumption)
     |((with_reducible apply q_call);refine X_pure (hO) rfl ?_)
     |((with_reducible apply q_CI);intro hbq;(try simp only [bq] at hbq);(try (exfalso;omega)))
     |refine Rex.o (by (with_reducible constructor);apply Eq.refl) ?_
     |(intro (hgq : (_ : Bool) = true);(try simp only [bq] at hgq))
     |(intro (hgq : (_ : Bool) = false);(try simp only [bq] at hgq))
     |((with_reducible apply q_VOk);exact fun _ => ⟨rfl,rfl⟩)|(intro _;exact rfl)|((with_reducible apply q_CRB);kernel_rfl)|((with_reducible apply q_bt);simp only [bq])|((with_reducible apply q_eqN);rfl)|((with_reducible apply q_FE);exact rfl)|with_reducible (first|exact isByte_wrap _|exact isByte_nat _)|(simp only [hgq,bq];done)|omega|(dsimp only;omega))
    ·
     refine LoopK_n (⟨j + 1, ln + 1, out⟩) ?_ (⟨by simp only; omega, by simp only; omega, n, hnn, hout, ho3⟩) (by (try dsimp only); omega)
     refine X_weak rfl rfl rfl ?_ ?_ <;> repeat' (first|with_reducible (first|refine Wk.o (by constructor) ?_|refine q_and ?_ ?_|exact True.intro)|refine q_AgS rfl ?_ ?_|exact CLe.nil_tipS|exact CLe.nil_rowS|refine HLe.cells ?_ ?_|refine HLe.els ?_ ?_|refine SLe.cons ?_ ?_|exact (rfl : known _ = _)|with_reducible rfl|omega)
     all_goals rfl
   ·rw [if_neg hws] at hout
    have hw0 : 0 < ws.length := List.length_pos_iff.2 hws
    repeat' (first
     |with_reducible (first|refine q_and ?_ ?_|exact True.intro|exact TkEq.nil _|refine Red.o (by constructor) ?_|refine blockK_o' rfl ?_|refine LoopX_e' rfl ?_|assumption)
     |((with_reducible apply q_call);refine X_pure (hO) rfl ?_)
     |((with_reducible apply q_CI);intro hbq;(try simp only [bq] at hbq);(try (exfalso;omega)))
     |refine Rex.o (by (with_reducible constructor);apply Eq.refl) ?_
     |(intro (hgq : (_ : Bool) = true);(try simp only [bq] at hgq))
     |(intro (hgq : (_ : Bool) = false);(try simp only [bq] at hgq))
     |((with_reducible apply q_VOk);exact fun _ => ⟨rfl,rfl⟩)|(intro _;exact rfl)|((with_reducible apply q_CRB);kernel_rfl)|((with_reducible apply q_bt);simp only [bq])|((with_reducible apply q_eqN);rfl)|((with_reducible apply q_FE);exact rfl)|with_reducible (first|exact isByte_wrap _|exact isByte_nat _)|(simp only [hgq,bq];done)|omega|(dsimp only;omega))
    ·
     refine LoopK_n (⟨j + 1, ln + 1, out ++ [ws]⟩) ?_ (⟨by simp only; omega, by simp only; omega, n, hnn, by rw [List.append_assoc]; exact hout, ho3⟩) (by (try dsimp only); omega)
     refine X_weak rfl rfl rfl ?_ ?_ <;> repeat' (first|with_reducible (first|refine Wk.o (by constructor) ?_|refine q_and ?_ ?_|exact True.intro)|refine q_AgS rfl ?_ ?_|exact CLe.nil_tipS|exact CLe.nil_rowS|refine HLe.cells ?_ ?_|refine HLe.els ?_ ?_|refine SLe.cons ?_ ?_|exact (rfl : known _ = _)|with_reducible rfl|omega)
     all_goals first
      | rfl
      | simp [fWs]
 ·have hd : s.drop i = [] := List.drop_eq_nil_of_le (by omega)
  have hTo : out = T := by
   rw [hd] at hout
   have : linesF n [] ln = [] := by cases n <;> simp [linesF]
   rw [this, List.append_nil] at hout
   exact hout
  repeat' (first
   |with_reducible (first|refine q_and ?_ ?_|exact True.intro|exact TkEq.nil _|refine Red.o (by constructor) ?_|refine blockK_o' rfl ?_|refine LoopX_e' rfl ?_|assumption)
   |((with_reducible apply q_CI);intro hbq;(try simp only [bq] at hbq);(try (exfalso;omega)))
   |refine Rex.o (by (with_reducible constructor);apply Eq.refl) ?_
   |(intro (hgq : (_ : Bool) = true);(try simp only [bq] at hgq))
   |(intro (hgq : (_ : Bool) = false);(try simp only [bq] at hgq))
   |((with_reducible apply q_VOk);exact fun _ => ⟨rfl,rfl⟩)|(intro _;exact rfl)|((with_reducible apply q_CRB);kernel_rfl)|((with_reducible apply q_bt);simp only [bq])|((with_reducible apply q_eqN);rfl)|((with_reducible apply q_FE);exact rfl)|with_reducible (first|exact isByte_wrap _|exact isByte_nat _)|(simp only [hgq,bq];done)|omega|(dsimp only;omega))
  ·rw [hTo]
   repeat' (first|with_reducible (first|refine Wk.o (by constructor) ?_|refine q_and ?_ ?_|exact True.intro)|refine VEq.c ?_|refine VEq.agg ?_|refine VEq.tup ?_|refine TkEq.cells ?_ ?_|refine TkEq.els ?_ ?_|refine SEqL.cons ?_ ?_|refine TEqL.agg ?_ ?_|refine CEq.rows ?_|refine CEq.int ?_|rfl|omega)
theorem declL_len {L L' : Lay} {ws : List PW} (h : declL L ws = some L') : L'.secs.length ≤ L.secs.length + 1 ∧ L'.lnks.length ≤ L.lnks.length + 1 ∧ L'.sts.length ≤ L.sts.length + 1 := by
 unfold declL at h
 split at h
 ·split at h
  ·injection h with h; subst h; simp
  ·cases h
 ·split at h
  ·split at h
   ·injection h with h; subst h; simp
   ·cases h
  ·split at h
   ·split at h
    ·injection h with h; subst h; simp
    ·cases h
   ·cases h
 ·split at h
  ·injection h with h; subst h; simp
  ·cases h
 ·cases h
abbrev vLayT (L : Lay) : ST := .agg [rStr L.sts, rStr L.pts, rSec L.secs, rLnk L.lnks]
structure PaG where
 i : Nat
 L : Lay
theorem parse_ok (s : List UInt8) (L : Lay) (hs : s.length ≤ 65536) (hok : okF (s.length + 1) s 1 = true) (hL : parseL s = some L) (hn : (linesF (s.length + 1) s 1).length ≤ 500) (he : layErr L = 0) (hF : LayFits L) : OkV Tryz.prog 38 [vS (bL s)] [] (.tup [vLayT L, .c (xI 0), .c (xI 0)]) [] := by
 have hLn := lines_ok s hs hok
 unfold parseL at hL
 have hC := refCheck_okV L hF
 rw [he] at hC
 unfold vLay at hC
 generalize linesF (s.length + 1) s 1 = T at *
 have hml : (T.map fun l => l.map PW.w).length = T.length := by simp
 refine X_fn mixedX Tryz.func38 rfl (by kernel_rfl) (Nat.le_of_ble_eq_true (by kernel_rfl)) (by kernel_rfl) rfl rfl (Nat.le_of_ble_eq_true rfl) rfl rfl ?_
 simp only [sl0, Nat.zero_add, Nat.reduceAdd]
 repeat' (first
  |with_reducible (first|refine q_and ?_ ?_|exact True.intro|exact TkEq.nil _|refine Red.o (by constructor) ?_|refine blockK_o' rfl ?_|refine LoopX_e' rfl ?_|assumption)
  |((with_reducible apply q_call);refine X_pure (hLn) rfl ?_)
  |((with_reducible apply q_CI);intro hbq;(try simp only [bq] at hbq);(try (exfalso;omega)))
  |refine Rex.o (by (with_reducible constructor);apply Eq.refl) ?_
  |(intro (hgq : (_ : Bool) = true);(try simp only [bq] at hgq))
  |(intro (hgq : (_ : Bool) = false);(try simp only [bq] at hgq))
  |((with_reducible apply q_VOk);exact fun _ => ⟨rfl,rfl⟩)|(intro _;exact rfl)|((with_reducible apply q_CRB);kernel_rfl)|((with_reducible apply q_bt);simp only [bq])|((with_reducible apply q_eqN);rfl)|((with_reducible apply q_FE);exact rfl)|with_reducible (first|exact isByte_wrap _|exact isByte_nat _)|(simp only [hgq,bq];done)|omega|(dsimp only;omega))
 clear hLn hok hs
 refine W_loopS (fun g : PaG => SS [sC 2 (pB 0), sC 5 (rWs (T.map fun l => l.map PW.w)), sC 8 (pB 1), sI 9 g.i] [some (.cells [.c (.f .nils), .c (.f .nils), .c (.f .nils), .c (.f .nils)]), bLayT g.L]) (fun g => g.i ≤ T.length ∧ declsL g.L (T.drop g.i) = some L ∧ g.L.secs.length ≤ g.i ∧ g.L.lnks.length ≤ g.i ∧ g.L.sts.length ≤ g.i) (fun g => T.length - g.i) ⟨0, ⟨[], [], [], []⟩⟩ ?_ ⟨by simp, by simpa using hL, by simp, by simp, by simp⟩ ?_
 ·
  refine X_weak rfl rfl rfl ?_ ?_ <;> repeat' (first|with_reducible (first|refine Wk.o (by constructor) ?_|refine q_and ?_ ?_|exact True.intro)|refine q_AgS rfl ?_ ?_|exact CLe.nil_tipS|exact CLe.nil_rowS|refine HLe.cells ?_ ?_|refine HLe.els ?_ ?_|refine SLe.cons ?_ ?_|exact (rfl : known _ = _)|with_reducible rfl|omega)
  all_goals rfl
 rintro ⟨i, M⟩ ⟨hi, hM, hm1, hm2, hm3⟩
 simp only at hi hM hm1 hm2 hm3
 by_cases hil : i < T.length
 ·have hd : T.drop i = T.getD i [] :: T.drop (i + 1) := by
   rw [List.drop_eq_getElem_cons hil, List.getD_eq_getElem?_getD, List.getElem?_eq_getElem hil]; rfl
  rw [hd] at hM
  unfold declsL at hM
  split at hM
  ·rename_i L' hL'
   have hlen := declL_len hL'
   have hg : (T.map fun l => l.map PW.w).getD (i : Int).toNat [] = (T.getD i []).map PW.w := by
    simp [List.getD_eq_getElem?_getD, List.getElem?_map, List.getElem?_eq_getElem hil]
   have hD := declare_ok M L' (T.getD i []) hL' (by omega) (by omega) (by omega)
   rw [← hg] at hD
   repeat' (first
    |with_reducible (first|refine q_and ?_ ?_|exact True.intro|exact TkEq.nil _|refine Red.o (by constructor) ?_|refine blockK_o' rfl ?_|refine LoopX_e' rfl ?_|assumption)
    |((with_reducible apply q_call);refine X_call [1] (hD) rfl rfl rfl rfl rfl rfl rfl rfl rfl rfl rfl rfl rfl ?_)
    |((with_reducible apply q_CI);intro hbq;(try simp only [bq] at hbq);(try (exfalso;omega)))
    |refine Rex.o (by (with_reducible constructor);apply Eq.refl) ?_
    |(intro (hgq : (_ : Bool) = true);(try simp only [bq] at hgq))
    |(intro (hgq : (_ : Bool) = false);(try simp only [bq] at hgq))
    |((with_reducible apply q_VOk);exact fun _ => ⟨rfl,rfl⟩)|(intro _;exact rfl)|((with_reducible apply q_CRB);kernel_rfl)|((with_reducible apply q_bt);simp only [bq])|((with_reducible apply q_eqN);rfl)|((with_reducible apply q_FE);exact rfl)|with_reducible (first|exact isByte_wrap _|exact isByte_nat _)|(simp only [hgq,bq];done)|omega|(dsimp only;omega))
   ·
    refine LoopK_n (⟨i + 1, L'⟩) ?_ (⟨by simp only; omega, hM, by simp only; omega, by simp only; omega, by simp only; omega⟩) (by (try dsimp only); omega)
    refine X_weak rfl rfl rfl ?_ ?_ <;> repeat' (first|with_reducible (first|refine Wk.o (by constructor) ?_|refine q_and ?_ ?_|exact True.intro)|refine q_AgS rfl ?_ ?_|exact CLe.nil_tipS|exact CLe.nil_rowS|refine HLe.cells ?_ ?_|refine HLe.els ?_ ?_|refine SLe.cons ?_ ?_|exact (rfl : known _ = _)|with_reducible rfl|omega)
    ·rfl
  ·cases hM
 ·have hie : i = T.length := by omega
  subst hie
  have hML : M = L := by
   rw [List.drop_length] at hM
   unfold declsL at hM
   injection hM
  subst hML
  repeat' (first
   |with_reducible (first|refine q_and ?_ ?_|exact True.intro|exact TkEq.nil _|refine Red.o (by constructor) ?_|refine blockK_o' rfl ?_|refine LoopX_e' rfl ?_|assumption)
   |((with_reducible apply q_call);refine X_pure (hC) rfl ?_)
   |((with_reducible apply q_CI);intro hbq;(try simp only [bq] at hbq);(try (exfalso;omega)))
   |refine Rex.o (by (with_reducible constructor);apply Eq.refl) ?_
   |(intro (hgq : (_ : Bool) = true);(try simp only [bq] at hgq))
   |(intro (hgq : (_ : Bool) = false);(try simp only [bq] at hgq))
   |((with_reducible apply q_VOk);exact fun _ => ⟨rfl,rfl⟩)|(intro _;exact rfl)|((with_reducible apply q_CRB);kernel_rfl)|((with_reducible apply q_bt);simp only [bq])|((with_reducible apply q_eqN);rfl)|((with_reducible apply q_FE);exact rfl)|with_reducible (first|exact isByte_wrap _|exact isByte_nat _)|(simp only [hgq,bq];done)|omega|(dsimp only;omega))
  ·rfl
def pick (v : Int) (n : Nat) : Nat := (v % 18446744073709551616).toNat % n
theorem pick_lt (v : Int) {n : Nat} (h : 0 < n) : pick v n < n := Nat.mod_lt _ h
theorem wrapU64 (v : Int) : IntKind.u64.wrap v = v % 18446744073709551616 := by
 simp only [IntKind.wrap]
 simp [IntKind.bits, IntKind.signed]
theorem pick_eq (v : Int) (n : Nat) (h0 : 0 < n) (hn : n ≤ 9223372036854775807) : (IntKind.u64.wrap v).tmod (IntKind.u64.wrap (n : Int)) = (pick v n : Int) := by
 have e1 : IntKind.u64.wrap (n : Int) = n := by rw [wrapU64]; omega
 rw [e1, wrapU64]
 have h1 : 0 ≤ v % 18446744073709551616 := Int.emod_nonneg _ (by omega)
 obtain ⟨m, hm⟩ := Int.eq_ofNat_of_zero_le h1
 rw [hm, ← Int.ofNat_tmod]
 unfold pick
 rw [hm, Int.toNat_natCast]
theorem pick_ok (v : Int) (n : Nat) (h0 : 0 < n) (hn : n ≤ 9223372036854775807) : OkV Tryz.prog 10 [vI v, vI n] [] (vI (pick v n)) [] := by
 have e1 : IntKind.u64.wrap (n : Int) = n := by rw [wrapU64]; omega
 have hz : IntKind.u64.wrap (n : Int) ≠ 0 := by rw [e1]; omega
 have e2 := pick_eq v n h0 hn
 have e3 := pick_lt v h0
 refine X_fnP mixedX Tryz.func10 rfl (by kernel_rfl) (Nat.le_of_ble_eq_true (by kernel_rfl)) (by kernel_rfl) rfl rfl ?_
 simp only [sl0, Nat.zero_add, Nat.reduceAdd]
 repeat' (first
  |with_reducible (first|refine WR_pp ?_|refine WR_pd ?_|refine W_seq ?_|refine seqK_n ?_|refine seqK_r ?_|refine seqK_e ?_|refine W_block ?_|refine blockK_n ?_|refine blockK_r ?_|refine LoopK_e ?_|refine LoopK_r ?_|refine LoopX_r ?_|refine W_skip ?_|refine W_exit ?_|refine W_ret ?_|refine W_region (WOps_WR ?_)|refine W_draw (WOpsD_WR ?_)|refine WR_nil ?_|refine q_and ?_ ?_|exact True.intro|assumption|refine blockK_e rfl ?_|refine blockK_o (by decide) ?_|refine LoopX_e (by decide) ?_)
  |((with_reducible apply q_WR);first|refine X_run rfl ?_ ?_|refine WR_nilD (by kernel_rfl) ?_)
  |((with_reducible apply q_cond);refine X_cond rfl ?_ ?_;all_goals (intro hbq;(try simp only [bq] at hbq);(try (exfalso;omega))))
  |((with_reducible apply q_ret);refine X_ret tabOk trivial rfl rfl ?_ ?_)
  |((with_reducible apply q_retP);refine X_retP tabOk trivial rfl rfl ?_ ?_)
  |(intro (hgq : (_ : Bool) = true);(try simp only [bq] at hgq))
  |(intro (hgq : (_ : Bool) = false);(try simp only [bq] at hgq))
  |((with_reducible apply q_VOk);exact fun _ => ⟨rfl,rfl⟩)
  |(intro _;exact rfl)
  |((with_reducible apply q_bt);simp only [bq])
  |((with_reducible apply q_eqN);rfl)
  |with_reducible exact isByte_wrap _
  |with_reducible exact isByte_nat _
  |(simp only [hgq,bq];done)
  |omega)
 repeat' (first|with_reducible (first|exact TkEq.nil _|refine TkEq.none ?_|refine TkEq.cells ?_ ?_|refine TkEq.els ?_ ?_|exact SEqL.nil|refine SEqL.cons ?_ ?_|exact TEqL.nil|refine TEqL.c ?_ ?_|refine TEqL.agg ?_ ?_|exact CEq.refl _|refine CEq.int ?_|refine CEq.bool ?_|refine CEq.str ?_|refine CEq.rows ?_|refine CEq.row ?_ ?_|refine CEq.tips ?_|refine CEq.tip ?_ ?_|refine CEq.raw ?_ ?_|refine CEq.arr ?_ ?_)|refine VEq.c ?_|refine VEq.agg ?_|refine VEq.tup ?_|refine TkEq.cells ?_ ?_|refine TkEq.els ?_ ?_|refine SEqL.cons ?_ ?_|refine TEqL.agg ?_ ?_|refine CEq.rows ?_|refine CEq.int ?_|rfl|omega)
structure Src where
 l : List Int
 i : Nat
def Src.ok (s : Src) : Prop := s.i ≤ s.l.length ∧ s.l.length ≤ 9223372036854775807
def Src.box (s : Src) : SB := .cells [rInt s.l, xI s.i]
def Src.nx (s : Src) (n : Nat) : Nat := match s.l[s.i]? with
 | some v => pick v n
 | none => 0
def Src.af (s : Src) : Src := if s.i < s.l.length then { s with i := s.i + 1 } else s
theorem Src.nx_lt (s : Src) {n : Nat} (h : 0 < n) : s.nx n < n := by
 unfold Src.nx
 split
 ·exact pick_lt _ h
 ·exact h
theorem Src.af_ok {s : Src} (h : s.ok) : s.af.ok := by
 obtain ⟨h1, h2⟩ := h
 unfold Src.af
 split
 ·exact ⟨by simp only; omega, h2⟩
 ·exact ⟨h1, h2⟩
theorem next_ok (s : Src) (n : Nat) (hs : s.ok) (h0 : 0 < n) (hn : n ≤ 9223372036854775807) : OkV Tryz.prog 34 [.c (pB 0), vI n] [some s.box] (vI (s.nx n)) [some s.af.box] := by
 obtain ⟨l, i⟩ := s
 obtain ⟨h1, h2⟩ := hs
 simp only at h1 h2
 unfold Src.box Src.nx Src.af
 simp only
 refine X_fn mixedX Tryz.func34 rfl (by kernel_rfl) (Nat.le_of_ble_eq_true (by kernel_rfl)) (by kernel_rfl) rfl rfl (Nat.le_of_ble_eq_true rfl) rfl rfl ?_
 simp only [sl0, Nat.zero_add, Nat.reduceAdd]
 have hP := pick_ok (l.getD ((i : Int) + 1 - 1).toNat 0) n h0 hn
 repeat' (first
  |with_reducible (first|refine WR_pp ?_|refine WR_pd ?_|refine W_seq ?_|refine seqK_n ?_|refine seqK_r ?_|refine seqK_e ?_|refine W_block ?_|refine blockK_n ?_|refine blockK_r ?_|refine LoopK_e ?_|refine LoopK_r ?_|refine LoopX_r ?_|refine W_skip ?_|refine W_exit ?_|refine W_ret ?_|refine W_region (WOps_WR ?_)|refine W_draw (WOpsD_WR ?_)|refine WR_nil ?_|refine q_and ?_ ?_|exact True.intro|assumption|refine blockK_e rfl ?_|refine blockK_o (by decide) ?_|refine LoopX_e (by decide) ?_)
  |((with_reducible apply q_call);refine X_pure (hP) rfl ?_)
  |((with_reducible apply q_WR);first|refine X_run rfl ?_ ?_|refine WR_nilD (by kernel_rfl) ?_)
  |((with_reducible apply q_cond);refine X_cond rfl ?_ ?_;all_goals (intro hbq;(try simp only [bq] at hbq);(try (exfalso;omega))))
  |((with_reducible apply q_ret);refine X_ret tabOk trivial rfl rfl ?_ ?_)
  |((with_reducible apply q_retP);refine X_retP tabOk trivial rfl rfl ?_ ?_)
  |(intro (hgq : (_ : Bool) = true);(try simp only [bq] at hgq))
  |(intro (hgq : (_ : Bool) = false);(try simp only [bq] at hgq))
  |((with_reducible apply q_VOk);exact fun _ => ⟨rfl,rfl⟩)
  |(intro _;exact rfl)
  |((with_reducible apply q_bt);simp only [bq])
  |((with_reducible apply q_eqN);rfl)
  |with_reducible exact isByte_wrap _
  |with_reducible exact isByte_nat _
  |(simp only [hgq,bq];done)
  |omega)
 ·rw [List.getElem?_eq_none (by omega)]
  repeat' (first|with_reducible (first|exact TkEq.nil _|refine TkEq.none ?_|refine TkEq.cells ?_ ?_|refine TkEq.els ?_ ?_|exact SEqL.nil|refine SEqL.cons ?_ ?_|exact TEqL.nil|refine TEqL.c ?_ ?_|refine TEqL.agg ?_ ?_|exact CEq.refl _|refine CEq.int ?_|refine CEq.bool ?_|refine CEq.str ?_|refine CEq.rows ?_|refine CEq.row ?_ ?_|refine CEq.tips ?_|refine CEq.tip ?_ ?_|refine CEq.raw ?_ ?_|refine CEq.arr ?_ ?_)|refine VEq.c ?_|refine VEq.agg ?_|refine VEq.tup ?_|refine TkEq.cells ?_ ?_|refine TkEq.els ?_ ?_|refine SEqL.cons ?_ ?_|refine TEqL.agg ?_ ?_|refine CEq.rows ?_|refine CEq.int ?_|rfl|omega)
 ·rw [if_neg (by omega)]
  repeat' (first|with_reducible (first|exact TkEq.nil _|refine TkEq.none ?_|refine TkEq.cells ?_ ?_|refine TkEq.els ?_ ?_|exact SEqL.nil|refine SEqL.cons ?_ ?_|exact TEqL.nil|refine TEqL.c ?_ ?_|refine TEqL.agg ?_ ?_|exact CEq.refl _|refine CEq.int ?_|refine CEq.bool ?_|refine CEq.str ?_|refine CEq.rows ?_|refine CEq.row ?_ ?_|refine CEq.tips ?_|refine CEq.tip ?_ ?_|refine CEq.raw ?_ ?_|refine CEq.arr ?_ ?_)|refine VEq.c ?_|refine VEq.agg ?_|refine VEq.tup ?_|refine TkEq.cells ?_ ?_|refine TkEq.els ?_ ?_|refine SEqL.cons ?_ ?_|refine TEqL.agg ?_ ?_|refine CEq.rows ?_|refine CEq.int ?_|rfl|omega)
 ·rw [show ((i : Int) + 1 - 1).toNat = ((i : Int)).toNat by omega, ← Int.toNat_natCast i, getD_nth (d := 0) (l := l) (by omega) (by omega)]
  repeat' (first|with_reducible (first|exact TkEq.nil _|refine TkEq.none ?_|refine TkEq.cells ?_ ?_|refine TkEq.els ?_ ?_|exact SEqL.nil|refine SEqL.cons ?_ ?_|exact TEqL.nil|refine TEqL.c ?_ ?_|refine TEqL.agg ?_ ?_|exact CEq.refl _|refine CEq.int ?_|refine CEq.bool ?_|refine CEq.str ?_|refine CEq.rows ?_|refine CEq.row ?_ ?_|refine CEq.tips ?_|refine CEq.tip ?_ ?_|refine CEq.raw ?_ ?_|refine CEq.arr ?_ ?_)|refine VEq.c ?_|refine VEq.agg ?_|refine VEq.tup ?_|refine TkEq.cells ?_ ?_|refine TkEq.els ?_ ?_|refine SEqL.cons ?_ ?_|refine TEqL.agg ?_ ?_|refine CEq.rows ?_|refine CEq.int ?_|rfl|omega)
 ·rw [if_pos (by omega)]
  repeat' (first|with_reducible (first|exact TkEq.nil _|refine TkEq.none ?_|refine TkEq.cells ?_ ?_|refine TkEq.els ?_ ?_|exact SEqL.nil|refine SEqL.cons ?_ ?_|exact TEqL.nil|refine TEqL.c ?_ ?_|refine TEqL.agg ?_ ?_|exact CEq.refl _|refine CEq.int ?_|refine CEq.bool ?_|refine CEq.str ?_|refine CEq.rows ?_|refine CEq.row ?_ ?_|refine CEq.tips ?_|refine CEq.tip ?_ ?_|refine CEq.raw ?_ ?_|refine CEq.arr ?_ ?_)|refine VEq.c ?_|refine VEq.agg ?_|refine VEq.tup ?_|refine TkEq.cells ?_ ?_|refine TkEq.els ?_ ?_|refine SEqL.cons ?_ ?_|refine TEqL.agg ?_ ?_|refine CEq.rows ?_|refine CEq.int ?_|rfl|omega)
def digits : ByteArray := ⟨#[48, 49, 50, 51, 52, 53, 54, 55, 56, 57]⟩
def nameN (w : ByteArray) (n : Nat) : ByteArray := w ++ digits.extract (n % 10) (n % 10 + 1)
theorem digit_size (n : Nat) : (digits.extract (n % 10) (n % 10 + 1)).size = 1 := by
 rw [ByteArray.size_extract]
 have : digits.size = 10 := rfl
 omega
theorem named_ok (w : ByteArray) (n : Nat) (hw : w.size ≤ 1000) (hn : n ≤ 1000000) : OkV Tryz.prog 53 [vS w, vI n] [] (vS (nameN w n)) [] := by
 have z : (⟨#[48, 49, 50, 51, 52, 53, 54, 55, 56, 57]⟩ : ByteArray).size = 10 := rfl
 have e1 : ((n : Int) % 10).toNat = n % 10 := by omega
 have e2 : ((n : Int) % 10 + 1).toNat = n % 10 + 1 := by omega
 have hsz := digit_size n
 unfold digits at hsz
 unfold nameN digits
 refine X_fnP mixedX Tryz.func53 rfl (by kernel_rfl) (Nat.le_of_ble_eq_true (by kernel_rfl)) (by kernel_rfl) rfl rfl ?_
 simp only [sl0, Nat.zero_add, Nat.reduceAdd]
 repeat' (first
  |with_reducible (first|refine WR_pp ?_|refine WR_pd ?_|refine W_seq ?_|refine seqK_n ?_|refine seqK_r ?_|refine seqK_e ?_|refine W_block ?_|refine blockK_n ?_|refine blockK_r ?_|refine LoopK_e ?_|refine LoopK_r ?_|refine LoopX_r ?_|refine W_skip ?_|refine W_exit ?_|refine W_ret ?_|refine W_region (WOps_WR ?_)|refine W_draw (WOpsD_WR ?_)|refine WR_nil ?_|refine q_and ?_ ?_|exact True.intro|assumption|refine blockK_e rfl ?_|refine blockK_o (by decide) ?_|refine LoopX_e (by decide) ?_)
  |((with_reducible apply q_WR);first|refine X_run rfl ?_ ?_|refine WR_nilD (by kernel_rfl) ?_)
  |((with_reducible apply q_cond);refine X_cond rfl ?_ ?_;all_goals (intro hbq;(try simp only [bq] at hbq);(try (exfalso;omega))))
  |((with_reducible apply q_ret);refine X_ret tabOk trivial rfl rfl ?_ ?_)
  |((with_reducible apply q_retP);refine X_retP tabOk trivial rfl rfl ?_ ?_)
  |(intro (hgq : (_ : Bool) = true);(try simp only [bq] at hgq))
  |(intro (hgq : (_ : Bool) = false);(try simp only [bq] at hgq))
  |((with_reducible apply q_VOk);exact fun _ => ⟨rfl,rfl⟩)
  |(intro _;exact rfl)
  |((with_reducible apply q_bt);simp only [bq])
  |((with_reducible apply q_eqN);rfl)
  |with_reducible exact isByte_wrap _
  |with_reducible exact isByte_nat _
  |(simp only [hgq,bq];done)
  |omega)
 ·rw [e1, e2, hsz]; omega
 ·rw [e1, e2]
  repeat' (first|with_reducible (first|exact TkEq.nil _|refine TkEq.none ?_|refine TkEq.cells ?_ ?_|refine TkEq.els ?_ ?_|exact SEqL.nil|refine SEqL.cons ?_ ?_|exact TEqL.nil|refine TEqL.c ?_ ?_|refine TEqL.agg ?_ ?_|exact CEq.refl _|refine CEq.int ?_|refine CEq.bool ?_|refine CEq.str ?_|refine CEq.rows ?_|refine CEq.row ?_ ?_|refine CEq.tips ?_|refine CEq.tip ?_ ?_|refine CEq.raw ?_ ?_|refine CEq.arr ?_ ?_)|refine VEq.c ?_|refine VEq.agg ?_|refine VEq.tup ?_|refine TkEq.cells ?_ ?_|refine TkEq.els ?_ ?_|refine SEqL.cons ?_ ?_|refine TEqL.agg ?_ ?_|refine CEq.rows ?_|refine CEq.int ?_|rfl|omega)
theorem nameN_size (w : ByteArray) (n : Nat) : (nameN w n).size = w.size + 1 := by
 unfold nameN
 rw [ByteArray.size_append, digit_size]
def Src.sec (s : Src) (nm : ByteArray) (st : Int) : Sec := ⟨nm, 2 + s.nx 9, 5000 + 5000 * s.af.nx 7, s.af.af.nx 21 - 10, st⟩
theorem section_ok (s : Src) (nm : ByteArray) (st : Int) (hs : s.ok) : OkV Tryz.prog 54 [.c (pB 0), vS nm, vI st] [some s.box] (.agg (vSec (s.sec nm st))) [some s.af.af.af.box] := by
 have k1 := s.nx_lt (n := 9) (by omega)
 have k2 := s.af.nx_lt (n := 7) (by omega)
 have k3 := s.af.af.nx_lt (n := 21) (by omega)
 have h1 := next_ok s 9 hs (by omega) (by omega)
 have h2 := next_ok s.af 7 (Src.af_ok hs) (by omega) (by omega)
 have h3 := next_ok s.af.af 21 (Src.af_ok (Src.af_ok hs)) (by omega) (by omega)
 refine X_fn mixedX Tryz.func54 rfl (by kernel_rfl) (Nat.le_of_ble_eq_true (by kernel_rfl)) (by kernel_rfl) rfl rfl (Nat.le_of_ble_eq_true rfl) rfl rfl ?_
 simp only [sl0, Nat.zero_add, Nat.reduceAdd]
 repeat' (first
  |with_reducible (first|refine WR_pp ?_|refine WR_pd ?_|refine W_seq ?_|refine seqK_n ?_|refine seqK_r ?_|refine seqK_e ?_|refine W_block ?_|refine blockK_n ?_|refine blockK_r ?_|refine LoopK_e ?_|refine LoopK_r ?_|refine LoopX_r ?_|refine W_skip ?_|refine W_exit ?_|refine W_ret ?_|refine W_region (WOps_WR ?_)|refine W_draw (WOpsD_WR ?_)|refine WR_nil ?_|refine q_and ?_ ?_|exact True.intro|assumption|refine blockK_e rfl ?_|refine blockK_o (by decide) ?_|refine LoopX_e (by decide) ?_)
  |((with_reducible apply q_call);first|refine X_call [0] (h1) rfl rfl rfl rfl rfl rfl rfl rfl rfl rfl rfl rfl rfl ?_|refine X_call [0] (h2) rfl rfl rfl rfl rfl rfl rfl rfl rfl rfl rfl rfl rfl ?_|refine X_call [0] (h3) rfl rfl rfl rfl rfl rfl rfl rfl rfl rfl rfl rfl rfl ?_)
  |((with_reducible apply q_WR);first|refine X_run rfl ?_ ?_|refine WR_nilD (by kernel_rfl) ?_)
  |((with_reducible apply q_cond);refine X_cond rfl ?_ ?_;all_goals (intro hbq;(try simp only [bq] at hbq);(try (exfalso;omega))))
  |((with_reducible apply q_ret);refine X_ret tabOk trivial rfl rfl ?_ ?_)
  |((with_reducible apply q_retP);refine X_retP tabOk trivial rfl rfl ?_ ?_)
  |(intro (hgq : (_ : Bool) = true);(try simp only [bq] at hgq))
  |(intro (hgq : (_ : Bool) = false);(try simp only [bq] at hgq))
  |((with_reducible apply q_VOk);exact fun _ => ⟨rfl,rfl⟩)
  |(intro _;exact rfl)
  |((with_reducible apply q_bt);simp only [bq])
  |((with_reducible apply q_eqN);rfl)
  |with_reducible exact isByte_wrap _
  |with_reducible exact isByte_nat _
  |(simp only [hgq,bq];done)
  |omega)
 repeat' (first|with_reducible (first|exact TkEq.nil _|refine TkEq.none ?_|refine TkEq.cells ?_ ?_|refine TkEq.els ?_ ?_|exact SEqL.nil|refine SEqL.cons ?_ ?_|exact TEqL.nil|refine TEqL.c ?_ ?_|refine TEqL.agg ?_ ?_|exact CEq.refl _|refine CEq.int ?_|refine CEq.bool ?_|refine CEq.str ?_|refine CEq.rows ?_|refine CEq.row ?_ ?_|refine CEq.tips ?_|refine CEq.tip ?_ ?_|refine CEq.raw ?_ ?_|refine CEq.arr ?_ ?_)|refine VEq.c ?_|refine VEq.agg ?_|refine VEq.tup ?_|refine TkEq.cells ?_ ?_|refine TkEq.els ?_ ?_|refine SEqL.cons ?_ ?_|refine TEqL.agg ?_ ?_|refine CEq.rows ?_|refine CEq.int ?_|rfl|omega)
structure Bld where
 L : Lay
 tracks : List (List Int)
 between : List (List Int)
def Bld.box (b : Bld) : SB := .cells [tStr b.L.sts, tStr b.L.pts, tSec b.L.secs, tLnk b.L.lnks, tTrk b.tracks, tTrk b.between, .c (.f .nils)]
structure Bld.small (b : Bld) : Prop where
 s1 : b.L.sts.length ≤ 1000
 s2 : b.L.pts.length ≤ 1000
 s3 : b.L.secs.length ≤ 1000
 s4 : b.L.lnks.length ≤ 1000
def Bld.add (b : Bld) (x : Sec) : Bld := { b with L := { b.L with secs := b.L.secs ++ [x] } }
def Bld.link (b : Bld) (k : Lnk) : Bld := { b with L := { b.L with lnks := b.L.lnks ++ [k] } }
def Bld.pt (b : Bld) : Bld := { b with L := { b.L with pts := b.L.pts ++ [nameN ⟨#[80]⟩ b.L.pts.length] } }
theorem add_ok (b : Bld) (x : Sec) (hb : b.small) : OkV Tryz.prog 55 [.c (pB 0), .agg (vSec x)] [some b.box] (vI b.L.secs.length) [some (b.add x).box] := by
 have h3 := hb.s3
 refine X_fn mixedX Tryz.func55 rfl (by kernel_rfl) (Nat.le_of_ble_eq_true (by kernel_rfl)) (by kernel_rfl) rfl rfl (Nat.le_of_ble_eq_true rfl) rfl rfl ?_
 simp only [sl0, Nat.zero_add, Nat.reduceAdd]
 repeat' (first
  |with_reducible (first|refine WR_pp ?_|refine WR_pd ?_|refine W_seq ?_|refine seqK_n ?_|refine seqK_r ?_|refine seqK_e ?_|refine W_block ?_|refine blockK_n ?_|refine blockK_r ?_|refine LoopK_e ?_|refine LoopK_r ?_|refine LoopX_r ?_|refine W_skip ?_|refine W_exit ?_|refine W_ret ?_|refine W_region (WOps_WR ?_)|refine W_draw (WOpsD_WR ?_)|refine WR_nil ?_|refine q_and ?_ ?_|exact True.intro|assumption|refine blockK_e rfl ?_|refine blockK_o (by decide) ?_|refine LoopX_e (by decide) ?_)
  |((with_reducible apply q_WR);first|refine X_run rfl ?_ ?_|refine WR_nilD (by kernel_rfl) ?_)
  |((with_reducible apply q_cond);refine X_cond rfl ?_ ?_;all_goals (intro hbq;(try simp only [bq] at hbq);(try (exfalso;omega))))
  |((with_reducible apply q_ret);refine X_ret tabOk trivial rfl rfl ?_ ?_)
  |((with_reducible apply q_retP);refine X_retP tabOk trivial rfl rfl ?_ ?_)
  |(intro (hgq : (_ : Bool) = true);(try simp only [bq] at hgq))
  |(intro (hgq : (_ : Bool) = false);(try simp only [bq] at hgq))
  |((with_reducible apply q_VOk);exact fun _ => ⟨rfl,rfl⟩)
  |(intro _;exact rfl)
  |((with_reducible apply q_bt);simp only [bq])
  |((with_reducible apply q_eqN);rfl)
  |with_reducible exact isByte_wrap _
  |with_reducible exact isByte_nat _
  |(simp only [hgq,bq];done)
  |omega)
 repeat' (first|with_reducible (first|exact TkEq.nil _|refine TkEq.none ?_|refine TkEq.cells ?_ ?_|refine TkEq.els ?_ ?_|exact SEqL.nil|refine SEqL.cons ?_ ?_|exact TEqL.nil|refine TEqL.c ?_ ?_|refine TEqL.agg ?_ ?_|exact CEq.refl _|refine CEq.int ?_|refine CEq.bool ?_|refine CEq.str ?_|refine CEq.rows ?_|refine CEq.row ?_ ?_|refine CEq.tips ?_|refine CEq.tip ?_ ?_|refine CEq.raw ?_ ?_|refine CEq.arr ?_ ?_)|refine VEq.c ?_|refine VEq.agg ?_|refine VEq.tup ?_|refine TkEq.cells ?_ ?_|refine TkEq.els ?_ ?_|refine SEqL.cons ?_ ?_|refine TEqL.agg ?_ ?_|refine CEq.rows ?_|refine CEq.int ?_|rfl|omega)
 all_goals simp [fSec, Bld.add, fS, fI]
theorem link_ok (b : Bld) (p q pt ps : Int) (hb : b.small) : OkV Tryz.prog 56 [.c (pB 0), vI p, vI q, vI pt, vI ps] [some b.box] (.tup []) [some (b.link ⟨p, 1, q, 0, pt, ps⟩).box] := by
 have h4 := hb.s4
 refine X_fn mixedX Tryz.func56 rfl (by kernel_rfl) (Nat.le_of_ble_eq_true (by kernel_rfl)) (by kernel_rfl) rfl rfl (Nat.le_of_ble_eq_true rfl) rfl rfl ?_
 simp only [sl0, Nat.zero_add, Nat.reduceAdd]
 repeat' (first
  |with_reducible (first|refine WR_pp ?_|refine WR_pd ?_|refine W_seq ?_|refine seqK_n ?_|refine seqK_r ?_|refine seqK_e ?_|refine W_block ?_|refine blockK_n ?_|refine blockK_r ?_|refine LoopK_e ?_|refine LoopK_r ?_|refine LoopX_r ?_|refine W_skip ?_|refine W_exit ?_|refine W_ret ?_|refine W_region (WOps_WR ?_)|refine W_draw (WOpsD_WR ?_)|refine WR_nil ?_|refine q_and ?_ ?_|exact True.intro|assumption|refine blockK_e rfl ?_|refine blockK_o (by decide) ?_|refine LoopX_e (by decide) ?_)
  |((with_reducible apply q_WR);first|refine X_run rfl ?_ ?_|refine WR_nilD (by kernel_rfl) ?_)
  |((with_reducible apply q_cond);refine X_cond rfl ?_ ?_;all_goals (intro hbq;(try simp only [bq] at hbq);(try (exfalso;omega))))
  |((with_reducible apply q_ret);refine X_ret tabOk trivial rfl rfl ?_ ?_)
  |((with_reducible apply q_retP);refine X_retP tabOk trivial rfl rfl ?_ ?_)
  |(intro (hgq : (_ : Bool) = true);(try simp only [bq] at hgq))
  |(intro (hgq : (_ : Bool) = false);(try simp only [bq] at hgq))
  |((with_reducible apply q_VOk);exact fun _ => ⟨rfl,rfl⟩)
  |(intro _;exact rfl)
  |((with_reducible apply q_bt);simp only [bq])
  |((with_reducible apply q_eqN);rfl)
  |with_reducible exact isByte_wrap _
  |with_reducible exact isByte_nat _
  |(simp only [hgq,bq];done)
  |omega)
 repeat' (first|with_reducible (first|exact TkEq.nil _|refine TkEq.none ?_|refine TkEq.cells ?_ ?_|refine TkEq.els ?_ ?_|exact SEqL.nil|refine SEqL.cons ?_ ?_|exact TEqL.nil|refine TEqL.c ?_ ?_|refine TEqL.agg ?_ ?_|exact CEq.refl _|refine CEq.int ?_|refine CEq.bool ?_|refine CEq.str ?_|refine CEq.rows ?_|refine CEq.row ?_ ?_|refine CEq.tips ?_|refine CEq.tip ?_ ?_|refine CEq.raw ?_ ?_|refine CEq.arr ?_ ?_)|refine VEq.c ?_|refine VEq.agg ?_|refine VEq.tup ?_|refine TkEq.cells ?_ ?_|refine TkEq.els ?_ ?_|refine SEqL.cons ?_ ?_|refine TEqL.agg ?_ ?_|refine CEq.rows ?_|refine CEq.int ?_|rfl|omega)
 all_goals simp [fLnk, Bld.link, fI]
theorem point_ok (b : Bld) (hb : b.small) : OkV Tryz.prog 72 [.c (pB 0)] [some b.box] (vI b.L.pts.length) [some b.pt.box] := by
 have h2 := hb.s2
 have hN := named_ok ⟨#[80]⟩ b.L.pts.length (by decide) (by omega)
 refine X_fn mixedX Tryz.func72 rfl (by kernel_rfl) (Nat.le_of_ble_eq_true (by kernel_rfl)) (by kernel_rfl) rfl rfl (Nat.le_of_ble_eq_true rfl) rfl rfl ?_
 simp only [sl0, Nat.zero_add, Nat.reduceAdd]
 repeat' (first
  |with_reducible (first|refine WR_pp ?_|refine WR_pd ?_|refine W_seq ?_|refine seqK_n ?_|refine seqK_r ?_|refine seqK_e ?_|refine W_block ?_|refine blockK_n ?_|refine blockK_r ?_|refine LoopK_e ?_|refine LoopK_r ?_|refine LoopX_r ?_|refine W_skip ?_|refine W_exit ?_|refine W_ret ?_|refine W_region (WOps_WR ?_)|refine W_draw (WOpsD_WR ?_)|refine WR_nil ?_|refine q_and ?_ ?_|exact True.intro|assumption|refine blockK_e rfl ?_|refine blockK_o (by decide) ?_|refine LoopX_e (by decide) ?_)
  |((with_reducible apply q_call);refine X_pure (hN) rfl ?_)
  |((with_reducible apply q_WR);first|refine X_run rfl ?_ ?_|refine WR_nilD (by kernel_rfl) ?_)
  |((with_reducible apply q_cond);refine X_cond rfl ?_ ?_;all_goals (intro hbq;(try simp only [bq] at hbq);(try (exfalso;omega))))
  |((with_reducible apply q_ret);refine X_ret tabOk trivial rfl rfl ?_ ?_)
  |((with_reducible apply q_retP);refine X_retP tabOk trivial rfl rfl ?_ ?_)
  |(intro (hgq : (_ : Bool) = true);(try simp only [bq] at hgq))
  |(intro (hgq : (_ : Bool) = false);(try simp only [bq] at hgq))
  |((with_reducible apply q_VOk);exact fun _ => ⟨rfl,rfl⟩)
  |(intro _;exact rfl)
  |((with_reducible apply q_bt);simp only [bq])
  |((with_reducible apply q_eqN);rfl)
  |with_reducible exact isByte_wrap _
  |with_reducible exact isByte_nat _
  |(simp only [hgq,bq];done)
  |omega)
 repeat' (first|with_reducible (first|exact TkEq.nil _|refine TkEq.none ?_|refine TkEq.cells ?_ ?_|refine TkEq.els ?_ ?_|exact SEqL.nil|refine SEqL.cons ?_ ?_|exact TEqL.nil|refine TEqL.c ?_ ?_|refine TEqL.agg ?_ ?_|exact CEq.refl _|refine CEq.int ?_|refine CEq.bool ?_|refine CEq.str ?_|refine CEq.rows ?_|refine CEq.row ?_ ?_|refine CEq.tips ?_|refine CEq.tip ?_ ?_|refine CEq.raw ?_ ?_|refine CEq.arr ?_ ?_)|refine VEq.c ?_|refine VEq.agg ?_|refine VEq.tup ?_|refine TkEq.cells ?_ ?_|refine TkEq.els ?_ ?_|refine SEqL.cons ?_ ?_|refine TEqL.agg ?_ ?_|refine CEq.rows ?_|refine CEq.int ?_|rfl|omega)
 all_goals simp [fStr, Bld.pt, fS]
def Bld.links (b : Bld) (x pt : Int) (east : Bool) (ts : List Int) : Nat → Bld
 | 0 => b
 | i + 1 => (b.links x pt east ts i).link (if east = true then ⟨x, 1, ts.getD i 0, 0, pt, i⟩ else ⟨ts.getD i 0, 1, x, 0, pt, i⟩)
def Bld.fan (b : Bld) (x : Int) (ts : List Int) (east : Bool) : Bld :=
 if 1 < ts.length then b.pt.links x b.L.pts.length east ts ts.length else b.links x (-1) east ts ts.length
theorem links_small {b : Bld} (hb : b.small) (x pt : Int) (east : Bool) (ts : List Int) : ∀ i, (b.links x pt east ts i).L.sts = b.L.sts ∧ (b.links x pt east ts i).L.pts = b.L.pts ∧ (b.links x pt east ts i).L.secs = b.L.secs ∧ (b.links x pt east ts i).L.lnks.length = b.L.lnks.length + i
 | 0 => ⟨rfl, rfl, rfl, rfl⟩
 | i + 1 => by
  obtain ⟨h1, h2, h3, h4⟩ := links_small hb x pt east ts i
  refine ⟨h1, h2, h3, ?_⟩
  simp only [Bld.links, Bld.link, List.length_append, h4, List.length_singleton]
  omega
theorem fan_ok (b : Bld) (x : Int) (ts : List Int) (east : Bool) (hb : b.small) (ht : ts.length ≤ 10) (hb2 : b.L.lnks.length ≤ 900) (hb3 : b.L.pts.length ≤ 900) : OkV Tryz.prog 57 [.c (pB 0), vI x, .c (rInt ts), vB east] [some b.box] (.tup []) [some (b.fan x ts east).box] := by
 have hP := point_ok b hb
 refine X_fn mixedX Tryz.func57 rfl (by kernel_rfl) (Nat.le_of_ble_eq_true (by kernel_rfl)) (by kernel_rfl) rfl rfl (Nat.le_of_ble_eq_true rfl) rfl rfl ?_
 simp only [sl0, Nat.zero_add, Nat.reduceAdd]
 repeat' (first
  |with_reducible (first|refine WR_pp ?_|refine WR_pd ?_|refine W_seq ?_|refine seqK_n ?_|refine seqK_r ?_|refine seqK_e ?_|refine W_block ?_|refine blockK_n ?_|refine blockK_r ?_|refine LoopK_e ?_|refine LoopK_r ?_|refine LoopX_r ?_|refine W_skip ?_|refine W_exit ?_|refine W_ret ?_|refine W_region (WOps_WR ?_)|refine W_draw (WOpsD_WR ?_)|refine WR_nil ?_|refine q_and ?_ ?_|exact True.intro|assumption|refine blockK_e rfl ?_|refine blockK_o (by decide) ?_|refine LoopX_e (by decide) ?_)
  |((with_reducible apply q_call);refine X_call [0] (hP) rfl rfl rfl rfl rfl rfl rfl rfl rfl rfl rfl rfl rfl ?_)
  |((with_reducible apply q_WR);first|refine X_run rfl ?_ ?_|refine WR_nilD (by kernel_rfl) ?_)
  |((with_reducible apply q_cond);refine X_cond rfl ?_ ?_;all_goals (intro hbq;(try simp only [bq] at hbq);(try (exfalso;omega))))
  |((with_reducible apply q_ret);refine X_ret tabOk trivial rfl rfl ?_ ?_)
  |((with_reducible apply q_retP);refine X_retP tabOk trivial rfl rfl ?_ ?_)
  |(intro (hgq : (_ : Bool) = true);(try simp only [bq] at hgq))
  |(intro (hgq : (_ : Bool) = false);(try simp only [bq] at hgq))
  |((with_reducible apply q_VOk);exact fun _ => ⟨rfl,rfl⟩)
  |(intro _;exact rfl)
  |((with_reducible apply q_bt);simp only [bq])
  |((with_reducible apply q_eqN);rfl)
  |with_reducible exact isByte_wrap _
  |with_reducible exact isByte_nat _
  |(simp only [hgq,bq];done)
  |omega)
 ·have hB : (b.pt).small ∧ (b.pt).L.lnks.length ≤ 900 := by
   refine ⟨⟨hb.s1, ?_, hb.s3, hb.s4⟩, hb2⟩
   (try simp only [Bld.pt, List.length_append, List.length_singleton])
   omega
  have hf : b.fan x ts east = (b.pt).links x (b.L.pts.length : Int) east ts ts.length := by unfold Bld.fan; rw [if_pos (by omega)]
  rw [hf]
  obtain ⟨hB, hB2⟩ := hB
  have hL : ∀ i, i ≤ ts.length → ((b.pt).links x (b.L.pts.length : Int) east ts i).small := fun i hi => by
   obtain ⟨k1, k2, k3, k4⟩ := links_small hB x (b.L.pts.length : Int) east ts i
   exact ⟨by rw [k1]; exact hB.s1, by rw [k2]; exact hB.s2, by rw [k3]; exact hB.s3, by rw [k4]; omega⟩
  clear hP hf
  refine W_loopS (fun i : Nat => SS [sC 0 (pB 0), sI 1 x, sC 2 (rInt ts), sB 3 east, sI 8 (b.L.pts.length : Int), sI 16 ts.length, sI 17 i] [some ((b.pt).links x (b.L.pts.length : Int) east ts i).box]) (fun i => i ≤ ts.length) (fun i => ts.length - i) 0 ?_ (by omega) ?_
  ·
   refine X_weak rfl rfl rfl ?_ ?_ <;> repeat' (first|with_reducible (first|exact q_AgS0|exact HLe.nil _|refine HLe.none ?_|refine HLe.cells ?_ ?_|refine HLe.els ?_ ?_|exact SLe.nil|refine SLe.cons ?_ ?_|exact ELe.refl _|refine ELe.c rfl ?_|exact CLe.refl _|exact CLe.nil_row|exact CLe.nil_rowS|exact CLe.nil_tip|exact CLe.nil_tipS|exact CLe.int (by omega)|refine CLe.tip ?_ ?_|refine CLe.tip_row ?_ ?_|refine CLe.row ?_ ?_|refine CLe.tipr_row ?_|refine CLe.rows ?_|refine CLe.tips ?_|refine CLe.int ?_|refine CLe.bool ?_|refine CLe.str ?_|refine CLe.arr ?_ ?_)|refine q_AgS rfl ?_ ?_|exact CLe.nil_tipS|exact CLe.nil_rowS|refine HLe.cells ?_ ?_|refine HLe.els ?_ ?_|refine SLe.cons ?_ ?_|with_reducible rfl|omega)
   all_goals rfl
  ·intro i hi
   have hK1 := link_ok ((b.pt).links x (b.L.pts.length : Int) east ts i) x (ts.getD (i : Int).toNat 0) (b.L.pts.length : Int) i (hL i hi)
   have hK2 := link_ok ((b.pt).links x (b.L.pts.length : Int) east ts i) (ts.getD (i : Int).toNat 0) x (b.L.pts.length : Int) i (hL i hi)
   repeat' (first
    |with_reducible (first|refine WR_pp ?_|refine WR_pd ?_|refine W_seq ?_|refine seqK_n ?_|refine seqK_r ?_|refine seqK_e ?_|refine W_block ?_|refine blockK_n ?_|refine blockK_r ?_|refine LoopK_e ?_|refine LoopK_r ?_|refine LoopX_r ?_|refine W_skip ?_|refine W_exit ?_|refine W_ret ?_|refine W_region (WOps_WR ?_)|refine W_draw (WOpsD_WR ?_)|refine WR_nil ?_|refine q_and ?_ ?_|exact True.intro|assumption|refine blockK_e rfl ?_|refine blockK_o (by decide) ?_|refine LoopX_e (by decide) ?_)
    |((with_reducible apply q_call);first|refine X_call [0] (hK1) rfl rfl rfl rfl rfl rfl rfl rfl rfl rfl rfl rfl rfl ?_|refine X_call [0] (hK2) rfl rfl rfl rfl rfl rfl rfl rfl rfl rfl rfl rfl rfl ?_)
    |((with_reducible apply q_WR);first|refine X_run rfl ?_ ?_|refine WR_nilD (by kernel_rfl) ?_)
    |((with_reducible apply q_cond);refine X_cond rfl ?_ ?_;all_goals (intro hbq;(try simp only [bq] at hbq);(try (exfalso;omega))))
    |((with_reducible apply q_ret);refine X_ret tabOk trivial rfl rfl ?_ ?_)
    |((with_reducible apply q_retP);refine X_retP tabOk trivial rfl rfl ?_ ?_)
    |(intro (hgq : (_ : Bool) = true);(try simp only [bq] at hgq))
    |(intro (hgq : (_ : Bool) = false);(try simp only [bq] at hgq))
    |((with_reducible apply q_VOk);exact fun _ => ⟨rfl,rfl⟩)
    |(intro _;exact rfl)
    |((with_reducible apply q_bt);simp only [bq])
    |((with_reducible apply q_eqN);rfl)
    |with_reducible exact isByte_wrap _
    |with_reducible exact isByte_nat _
    |(simp only [hgq,bq];done)
    |omega)
   ·
    refine LoopK_n (i + 1) ?_ ?_ ?_
    rotate_left
    ·(try dsimp only); omega
    ·(try dsimp only); omega
    refine X_weak rfl rfl rfl ?_ ?_ <;> repeat' (first|with_reducible (first|exact q_AgS0|exact HLe.nil _|refine HLe.none ?_|refine HLe.cells ?_ ?_|refine HLe.els ?_ ?_|exact SLe.nil|refine SLe.cons ?_ ?_|exact ELe.refl _|refine ELe.c rfl ?_|exact CLe.refl _|exact CLe.nil_row|exact CLe.nil_rowS|exact CLe.nil_tip|exact CLe.nil_tipS|exact CLe.int (by omega)|refine CLe.tip ?_ ?_|refine CLe.tip_row ?_ ?_|refine CLe.row ?_ ?_|refine CLe.tipr_row ?_|refine CLe.rows ?_|refine CLe.tips ?_|refine CLe.int ?_|refine CLe.bool ?_|refine CLe.str ?_|refine CLe.arr ?_ ?_)|refine q_AgS rfl ?_ ?_|exact CLe.nil_tipS|exact CLe.nil_rowS|refine HLe.cells ?_ ?_|refine HLe.els ?_ ?_|refine SLe.cons ?_ ?_|with_reducible rfl|omega)
    all_goals (subst hbq; rfl)
   ·
    refine LoopK_n (i + 1) ?_ ?_ ?_
    rotate_left
    ·(try dsimp only); omega
    ·(try dsimp only); omega
    refine X_weak rfl rfl rfl ?_ ?_ <;> repeat' (first|with_reducible (first|exact q_AgS0|exact HLe.nil _|refine HLe.none ?_|refine HLe.cells ?_ ?_|refine HLe.els ?_ ?_|exact SLe.nil|refine SLe.cons ?_ ?_|exact ELe.refl _|refine ELe.c rfl ?_|exact CLe.refl _|exact CLe.nil_row|exact CLe.nil_rowS|exact CLe.nil_tip|exact CLe.nil_tipS|exact CLe.int (by omega)|refine CLe.tip ?_ ?_|refine CLe.tip_row ?_ ?_|refine CLe.row ?_ ?_|refine CLe.tipr_row ?_|refine CLe.rows ?_|refine CLe.tips ?_|refine CLe.int ?_|refine CLe.bool ?_|refine CLe.str ?_|refine CLe.arr ?_ ?_)|refine q_AgS rfl ?_ ?_|exact CLe.nil_tipS|exact CLe.nil_rowS|refine HLe.cells ?_ ?_|refine HLe.els ?_ ?_|refine SLe.cons ?_ ?_|with_reducible rfl|omega)
    all_goals (subst hbq; rfl)
   ·have hie : i = ts.length := by omega
    subst hie
    repeat' (first|with_reducible (first|exact TkEq.nil _|refine TkEq.none ?_|refine TkEq.cells ?_ ?_|refine TkEq.els ?_ ?_|exact SEqL.nil|refine SEqL.cons ?_ ?_|exact TEqL.nil|refine TEqL.c ?_ ?_|refine TEqL.agg ?_ ?_|exact CEq.refl _|refine CEq.int ?_|refine CEq.bool ?_|refine CEq.str ?_|refine CEq.rows ?_|refine CEq.row ?_ ?_|refine CEq.tips ?_|refine CEq.tip ?_ ?_|refine CEq.raw ?_ ?_|refine CEq.arr ?_ ?_)|refine VEq.c ?_|refine VEq.agg ?_|refine VEq.tup ?_|refine TkEq.cells ?_ ?_|refine TkEq.els ?_ ?_|refine SEqL.cons ?_ ?_|refine TEqL.agg ?_ ?_|refine CEq.rows ?_|refine CEq.int ?_|rfl|omega)
   ·have hie : i = ts.length := by omega
    subst hie
    repeat' (first|with_reducible (first|exact TkEq.nil _|refine TkEq.none ?_|refine TkEq.cells ?_ ?_|refine TkEq.els ?_ ?_|exact SEqL.nil|refine SEqL.cons ?_ ?_|exact TEqL.nil|refine TEqL.c ?_ ?_|refine TEqL.agg ?_ ?_|exact CEq.refl _|refine CEq.int ?_|refine CEq.bool ?_|refine CEq.str ?_|refine CEq.rows ?_|refine CEq.row ?_ ?_|refine CEq.tips ?_|refine CEq.tip ?_ ?_|refine CEq.raw ?_ ?_|refine CEq.arr ?_ ?_)|refine VEq.c ?_|refine VEq.agg ?_|refine VEq.tup ?_|refine TkEq.cells ?_ ?_|refine TkEq.els ?_ ?_|refine SEqL.cons ?_ ?_|refine TEqL.agg ?_ ?_|refine CEq.rows ?_|refine CEq.int ?_|rfl|omega)
 ·have hB : (b).small ∧ (b).L.lnks.length ≤ 900 := by
   refine ⟨⟨hb.s1, ?_, hb.s3, hb.s4⟩, hb2⟩
   (try simp only [Bld.pt, List.length_append, List.length_singleton])
   omega
  have hf : b.fan x ts east = (b).links x (-1) east ts ts.length := by unfold Bld.fan; rw [if_neg (by omega)]
  rw [hf]
  obtain ⟨hB, hB2⟩ := hB
  have hL : ∀ i, i ≤ ts.length → ((b).links x (-1) east ts i).small := fun i hi => by
   obtain ⟨k1, k2, k3, k4⟩ := links_small hB x (-1) east ts i
   exact ⟨by rw [k1]; exact hB.s1, by rw [k2]; exact hB.s2, by rw [k3]; exact hB.s3, by rw [k4]; omega⟩
  clear hP hf
  refine W_loopS (fun i : Nat => SS [sC 0 (pB 0), sI 1 x, sC 2 (rInt ts), sB 3 east, sI 8 (-1), sI 16 ts.length, sI 17 i] [some ((b).links x (-1) east ts i).box]) (fun i => i ≤ ts.length) (fun i => ts.length - i) 0 ?_ (by omega) ?_
  ·
   refine X_weak rfl rfl rfl ?_ ?_ <;> repeat' (first|with_reducible (first|exact q_AgS0|exact HLe.nil _|refine HLe.none ?_|refine HLe.cells ?_ ?_|refine HLe.els ?_ ?_|exact SLe.nil|refine SLe.cons ?_ ?_|exact ELe.refl _|refine ELe.c rfl ?_|exact CLe.refl _|exact CLe.nil_row|exact CLe.nil_rowS|exact CLe.nil_tip|exact CLe.nil_tipS|exact CLe.int (by omega)|refine CLe.tip ?_ ?_|refine CLe.tip_row ?_ ?_|refine CLe.row ?_ ?_|refine CLe.tipr_row ?_|refine CLe.rows ?_|refine CLe.tips ?_|refine CLe.int ?_|refine CLe.bool ?_|refine CLe.str ?_|refine CLe.arr ?_ ?_)|refine q_AgS rfl ?_ ?_|exact CLe.nil_tipS|exact CLe.nil_rowS|refine HLe.cells ?_ ?_|refine HLe.els ?_ ?_|refine SLe.cons ?_ ?_|with_reducible rfl|omega)
   all_goals rfl
  ·intro i hi
   have hK1 := link_ok ((b).links x (-1) east ts i) x (ts.getD (i : Int).toNat 0) (-1) i (hL i hi)
   have hK2 := link_ok ((b).links x (-1) east ts i) (ts.getD (i : Int).toNat 0) x (-1) i (hL i hi)
   repeat' (first
    |with_reducible (first|refine WR_pp ?_|refine WR_pd ?_|refine W_seq ?_|refine seqK_n ?_|refine seqK_r ?_|refine seqK_e ?_|refine W_block ?_|refine blockK_n ?_|refine blockK_r ?_|refine LoopK_e ?_|refine LoopK_r ?_|refine LoopX_r ?_|refine W_skip ?_|refine W_exit ?_|refine W_ret ?_|refine W_region (WOps_WR ?_)|refine W_draw (WOpsD_WR ?_)|refine WR_nil ?_|refine q_and ?_ ?_|exact True.intro|assumption|refine blockK_e rfl ?_|refine blockK_o (by decide) ?_|refine LoopX_e (by decide) ?_)
    |((with_reducible apply q_call);first|refine X_call [0] (hK1) rfl rfl rfl rfl rfl rfl rfl rfl rfl rfl rfl rfl rfl ?_|refine X_call [0] (hK2) rfl rfl rfl rfl rfl rfl rfl rfl rfl rfl rfl rfl rfl ?_)
    |((with_reducible apply q_WR);first|refine X_run rfl ?_ ?_|refine WR_nilD (by kernel_rfl) ?_)
    |((with_reducible apply q_cond);refine X_cond rfl ?_ ?_;all_goals (intro hbq;(try simp only [bq] at hbq);(try (exfalso;omega))))
    |((with_reducible apply q_ret);refine X_ret tabOk trivial rfl rfl ?_ ?_)
    |((with_reducible apply q_retP);refine X_retP tabOk trivial rfl rfl ?_ ?_)
    |(intro (hgq : (_ : Bool) = true);(try simp only [bq] at hgq))
    |(intro (hgq : (_ : Bool) = false);(try simp only [bq] at hgq))
    |((with_reducible apply q_VOk);exact fun _ => ⟨rfl,rfl⟩)
    |(intro _;exact rfl)
    |((with_reducible apply q_bt);simp only [bq])
    |((with_reducible apply q_eqN);rfl)
    |with_reducible exact isByte_wrap _
    |with_reducible exact isByte_nat _
    |(simp only [hgq,bq];done)
    |omega)
   ·
    refine LoopK_n (i + 1) ?_ ?_ ?_
    rotate_left
    ·(try dsimp only); omega
    ·(try dsimp only); omega
    refine X_weak rfl rfl rfl ?_ ?_ <;> repeat' (first|with_reducible (first|exact q_AgS0|exact HLe.nil _|refine HLe.none ?_|refine HLe.cells ?_ ?_|refine HLe.els ?_ ?_|exact SLe.nil|refine SLe.cons ?_ ?_|exact ELe.refl _|refine ELe.c rfl ?_|exact CLe.refl _|exact CLe.nil_row|exact CLe.nil_rowS|exact CLe.nil_tip|exact CLe.nil_tipS|exact CLe.int (by omega)|refine CLe.tip ?_ ?_|refine CLe.tip_row ?_ ?_|refine CLe.row ?_ ?_|refine CLe.tipr_row ?_|refine CLe.rows ?_|refine CLe.tips ?_|refine CLe.int ?_|refine CLe.bool ?_|refine CLe.str ?_|refine CLe.arr ?_ ?_)|refine q_AgS rfl ?_ ?_|exact CLe.nil_tipS|exact CLe.nil_rowS|refine HLe.cells ?_ ?_|refine HLe.els ?_ ?_|refine SLe.cons ?_ ?_|with_reducible rfl|omega)
    all_goals (subst hbq; rfl)
   ·
    refine LoopK_n (i + 1) ?_ ?_ ?_
    rotate_left
    ·(try dsimp only); omega
    ·(try dsimp only); omega
    refine X_weak rfl rfl rfl ?_ ?_ <;> repeat' (first|with_reducible (first|exact q_AgS0|exact HLe.nil _|refine HLe.none ?_|refine HLe.cells ?_ ?_|refine HLe.els ?_ ?_|exact SLe.nil|refine SLe.cons ?_ ?_|exact ELe.refl _|refine ELe.c rfl ?_|exact CLe.refl _|exact CLe.nil_row|exact CLe.nil_rowS|exact CLe.nil_tip|exact CLe.nil_tipS|exact CLe.int (by omega)|refine CLe.tip ?_ ?_|refine CLe.tip_row ?_ ?_|refine CLe.row ?_ ?_|refine CLe.tipr_row ?_|refine CLe.rows ?_|refine CLe.tips ?_|refine CLe.int ?_|refine CLe.bool ?_|refine CLe.str ?_|refine CLe.arr ?_ ?_)|refine q_AgS rfl ?_ ?_|exact CLe.nil_tipS|exact CLe.nil_rowS|refine HLe.cells ?_ ?_|refine HLe.els ?_ ?_|refine SLe.cons ?_ ?_|with_reducible rfl|omega)
    all_goals (subst hbq; rfl)
   ·have hie : i = ts.length := by omega
    subst hie
    repeat' (first|with_reducible (first|exact TkEq.nil _|refine TkEq.none ?_|refine TkEq.cells ?_ ?_|refine TkEq.els ?_ ?_|exact SEqL.nil|refine SEqL.cons ?_ ?_|exact TEqL.nil|refine TEqL.c ?_ ?_|refine TEqL.agg ?_ ?_|exact CEq.refl _|refine CEq.int ?_|refine CEq.bool ?_|refine CEq.str ?_|refine CEq.rows ?_|refine CEq.row ?_ ?_|refine CEq.tips ?_|refine CEq.tip ?_ ?_|refine CEq.raw ?_ ?_|refine CEq.arr ?_ ?_)|refine VEq.c ?_|refine VEq.agg ?_|refine VEq.tup ?_|refine TkEq.cells ?_ ?_|refine TkEq.els ?_ ?_|refine SEqL.cons ?_ ?_|refine TEqL.agg ?_ ?_|refine CEq.rows ?_|refine CEq.int ?_|rfl|omega)
   ·have hie : i = ts.length := by omega
    subst hie
    repeat' (first|with_reducible (first|exact TkEq.nil _|refine TkEq.none ?_|refine TkEq.cells ?_ ?_|refine TkEq.els ?_ ?_|exact SEqL.nil|refine SEqL.cons ?_ ?_|exact TEqL.nil|refine TEqL.c ?_ ?_|refine TEqL.agg ?_ ?_|exact CEq.refl _|refine CEq.int ?_|refine CEq.bool ?_|refine CEq.str ?_|refine CEq.rows ?_|refine CEq.row ?_ ?_|refine CEq.tips ?_|refine CEq.tip ?_ ?_|refine CEq.raw ?_ ?_|refine CEq.arr ?_ ?_)|refine VEq.c ?_|refine VEq.agg ?_|refine VEq.tup ?_|refine TkEq.cells ?_ ?_|refine TkEq.els ?_ ?_|refine SEqL.cons ?_ ?_|refine TEqL.agg ?_ ?_|refine CEq.rows ?_|refine CEq.int ?_|rfl|omega)
def iter {σ : Type} (f : Nat → σ → σ) (x : σ) : Nat → σ
 | 0 => x
 | i + 1 => f i (iter f x i)
def Bld.addSt (b : Bld) (nm : ByteArray) : Bld := { b with L := { b.L with sts := b.L.sts ++ [nm] } }
def Bld.addTr (b : Bld) (t : List Int) : Bld := { b with tracks := b.tracks ++ [t] }
def Bld.addBt (b : Bld) (t : List Int) : Bld := { b with between := b.between ++ [t] }
def Bld.zero : Bld := ⟨⟨[], [], [], []⟩, [], []⟩
structure Bld.le (b : Bld) (m : Nat) : Prop where
 s1 : b.L.sts.length ≤ m
 s2 : b.L.pts.length ≤ m
 s3 : b.L.secs.length ≤ m
 s4 : b.L.lnks.length ≤ m
 s5 : b.tracks.length ≤ m
 s6 : b.between.length ≤ m
theorem Bld.le.small {b : Bld} {m : Nat} (h : b.le m) (hm : m ≤ 900) : b.small := ⟨by have := h.s1; omega, by have := h.s2; omega, by have := h.s3; omega, by have := h.s4; omega⟩
theorem Bld.le.mono {b : Bld} {m k : Nat} (h : b.le m) (hm : m ≤ k) : b.le k := ⟨Nat.le_trans h.s1 hm, Nat.le_trans h.s2 hm, Nat.le_trans h.s3 hm, Nat.le_trans h.s4 hm, Nat.le_trans h.s5 hm, Nat.le_trans h.s6 hm⟩
abbrev TBS := List Int × Bld × Src
def secT (i k : Nat) (s : Src) : Sec := { s.sec (nameN (nameN ⟨#[84]⟩ i) k) i with len := (s.sec (nameN (nameN ⟨#[84]⟩ i) k) i).len + 2 }
def tStep (i k : Nat) (x : TBS) : TBS := (x.1 ++ [(x.2.1.L.secs.length : Int)], x.2.1.add (secT i k x.2.2), x.2.2.af.af.af)
def tLoop (i : Nat) : Nat → TBS → TBS
 | 0, x => x
 | k + 1, x => tLoop i k (tStep i (k + 1) x)
def oStep (i : Nat) (x : Bld × Src) : Bld × Src :=
 let y := tLoop i (1 + x.2.nx 2) ([], x.1.addSt (nameN ⟨#[83]⟩ i), x.2.af)
 (y.2.1.addTr y.1, y.2.2)
theorem add_le {b : Bld} {m : Nat} (h : b.le m) (x : Sec) : (b.add x).le (m + 1) := ⟨Nat.le_succ_of_le h.s1, Nat.le_succ_of_le h.s2, by have := h.s3; simp only [Bld.add, List.length_append, List.length_singleton]; omega, Nat.le_succ_of_le h.s4, Nat.le_succ_of_le h.s5, Nat.le_succ_of_le h.s6⟩
theorem tLoop_le (i : Nat) : ∀ (k : Nat) (x : TBS) (m : Nat), x.2.1.le m → x.2.2.ok → (tLoop i k x).2.1.le (m + k) ∧ (tLoop i k x).2.2.ok ∧ (tLoop i k x).1.length = x.1.length + k
 | 0, x, m, h, hs => ⟨h, hs, rfl⟩
 | k + 1, x, m, h, hs => by
  obtain ⟨h1, h2, h3⟩ := tLoop_le i k (tStep i (k + 1) x) (m + 1) (add_le h _) (Src.af_ok (Src.af_ok (Src.af_ok hs)))
  refine ⟨h1.mono (by omega), h2, ?_⟩
  simp only [tLoop]
  rw [h3]
  simp only [tStep, List.length_append, List.length_singleton]
  omega
theorem oStep_le (i : Nat) (x : Bld × Src) (m : Nat) (h : x.1.le m) (hs : x.2.ok) : (oStep i x).1.le (m + 4) ∧ (oStep i x).2.ok := by
 have hk := x.2.nx_lt (n := 2) (by omega)
 have h0 : (x.1.addSt (nameN ⟨#[83]⟩ i)).le (m + 1) := ⟨by have := h.s1; simp only [Bld.addSt, List.length_append, List.length_singleton]; omega, Nat.le_succ_of_le h.s2, Nat.le_succ_of_le h.s3, Nat.le_succ_of_le h.s4, Nat.le_succ_of_le h.s5, Nat.le_succ_of_le h.s6⟩
 obtain ⟨h1, h2, h3⟩ := tLoop_le i (1 + x.2.nx 2) ([], x.1.addSt (nameN ⟨#[83]⟩ i), x.2.af) (m + 1) h0 (Src.af_ok hs)
 have h1' := h1.mono (show m + 1 + (1 + x.2.nx 2) ≤ m + 3 by omega)
 exact ⟨⟨Nat.le_succ_of_le h1'.s1, Nat.le_succ_of_le h1'.s2, Nat.le_succ_of_le h1'.s3, Nat.le_succ_of_le h1'.s4, by have := h1'.s5; simp only [oStep, Bld.addTr, List.length_append, List.length_singleton]; omega, Nat.le_succ_of_le h1'.s6⟩, h2⟩
theorem iter_le {f : Nat → Bld × Src → Bld × Src} (c : Nat) (hf : ∀ i x m, x.1.le m → x.2.ok → (f i x).1.le (m + c) ∧ (f i x).2.ok) {x : Bld × Src} {m : Nat} (h : x.1.le m) (hs : x.2.ok) : ∀ i, (iter f x i).1.le (m + i * c) ∧ (iter f x i).2.ok
 | 0 => ⟨h.mono (by omega), hs⟩
 | i + 1 => by
  obtain ⟨h1, h2⟩ := iter_le c hf h hs i
  obtain ⟨h3, h4⟩ := hf i _ _ h1 h2
  exact ⟨h3.mono (by rw [Nat.succ_mul]; omega), h4⟩
theorem zero_le' : Bld.zero.le 0 := ⟨Nat.le_refl _, Nat.le_refl _, Nat.le_refl _, Nat.le_refl _, Nat.le_refl _, Nat.le_refl _⟩
def secL (i k : Nat) (s : Src) : Sec := s.sec (nameN (nameN ⟨#[76]⟩ i) k) (-1)
def lStep (i k : Nat) (x : TBS) : TBS := (x.1 ++ [(x.2.1.L.secs.length : Int)], x.2.1.add (secL i k x.2.2), x.2.2.af.af.af)
def lLoop (i : Nat) : Nat → TBS → TBS
 | 0, x => x
 | k + 1, x => lLoop i k (lStep i (k + 1) x)
def cLoop (b : Bld) (t : List Int) : Nat → Bld
 | 0 => b
 | k + 1 => (cLoop b t k).link ⟨t.getD k 0, 1, t.getD (k + 1) 0, 0, -1, 0⟩
def pStep (i : Nat) (x : Bld × Src) : Bld × Src :=
 let y := lLoop i (1 + x.2.nx 2) ([], x.1, x.2.af)
 let c := cLoop y.2.1 y.1 (y.1.length - 1)
 let d := c.fan (y.1.getD 0 0) (c.tracks.getD i []) false
 let e := d.fan (y.1.getD (y.1.length - 1) 0) (d.tracks.getD (i + 1) []) true
 (e.addBt y.1, y.2.2)
def rowB (s : Src) : Bld × Src := iter pStep (iter oStep (Bld.zero, s.af) (2 + s.nx 2)) (1 + s.nx 2)
def TrOk (b : Bld) (m : Nat) : Prop := b.tracks.length = m ∧ ∀ t ∈ b.tracks, 1 ≤ t.length ∧ t.length ≤ 2
theorem tLoop_tr (i : Nat) : ∀ (k : Nat) (x : TBS), (tLoop i k x).2.1.tracks = x.2.1.tracks
 | 0, x => rfl
 | k + 1, x => tLoop_tr i k (tStep i (k + 1) x)
theorem oStep_tr (i : Nat) (x : Bld × Src) (m : Nat) (hl : x.1.le 100) (hs : x.2.ok) (h : TrOk x.1 m) : TrOk (oStep i x).1 (m + 1) := by
 have hk := x.2.nx_lt (n := 2) (by omega)
 have h0 : (x.1.addSt (nameN ⟨#[83]⟩ i)).le 101 := ⟨by have := hl.s1; simp only [Bld.addSt, List.length_append, List.length_singleton]; omega, Nat.le_succ_of_le hl.s2, Nat.le_succ_of_le hl.s3, Nat.le_succ_of_le hl.s4, Nat.le_succ_of_le hl.s5, Nat.le_succ_of_le hl.s6⟩
 obtain ⟨_, _, h3⟩ := tLoop_le i (1 + x.2.nx 2) ([], x.1.addSt (nameN ⟨#[83]⟩ i), x.2.af) 101 h0 (Src.af_ok hs)
 have h4 := tLoop_tr i (1 + x.2.nx 2) ([], x.1.addSt (nameN ⟨#[83]⟩ i), x.2.af)
 simp only [List.length_nil, Nat.zero_add] at h3
 unfold TrOk
 simp only [oStep, Bld.addTr]
 rw [h4]
 refine ⟨by simp only [Bld.addSt, List.length_append, List.length_singleton]; rw [h.1], fun t ht => ?_⟩
 rcases List.mem_append.1 ht with ht | ht
 ·exact h.2 t ht
 ·rw [List.mem_singleton] at ht
  rw [ht, h3]
  omega
theorem oIter_tr {s : Src} (hs : s.ok) : ∀ i, i ≤ 3 → TrOk (iter oStep (Bld.zero, s) i).1 i
 | 0, _ => ⟨rfl, fun t ht => by cases ht⟩
 | i + 1, hi => by
  obtain ⟨h1, h2⟩ := iter_le (x := (Bld.zero, s)) (m := 0) 4 oStep_le zero_le' hs i
  exact oStep_tr i _ i (h1.mono (by omega)) h2 (oIter_tr hs i (by omega))
theorem lLoop_le (i : Nat) : ∀ (k : Nat) (x : TBS) (m : Nat), x.2.1.le m → x.2.2.ok → (lLoop i k x).2.1.le (m + k) ∧ (lLoop i k x).2.2.ok ∧ (lLoop i k x).1.length = x.1.length + k ∧ (lLoop i k x).2.1.tracks = x.2.1.tracks
 | 0, x, m, h, hs => ⟨h, hs, rfl, rfl⟩
 | k + 1, x, m, h, hs => by
  obtain ⟨h1, h2, h3, h4⟩ := lLoop_le i k (lStep i (k + 1) x) (m + 1) (add_le h _) (Src.af_ok (Src.af_ok (Src.af_ok hs)))
  refine ⟨h1.mono (by omega), h2, ?_, h4⟩
  simp only [lLoop]
  rw [h3]
  simp only [lStep, List.length_append, List.length_singleton]
  omega
theorem link_le {b : Bld} {m : Nat} (h : b.le m) (k : Lnk) : (b.link k).le (m + 1) := ⟨Nat.le_succ_of_le h.s1, Nat.le_succ_of_le h.s2, Nat.le_succ_of_le h.s3, by have := h.s4; simp only [Bld.link, List.length_append, List.length_singleton]; omega, Nat.le_succ_of_le h.s5, Nat.le_succ_of_le h.s6⟩
theorem pt_le {b : Bld} {m : Nat} (h : b.le m) : b.pt.le (m + 1) := ⟨Nat.le_succ_of_le h.s1, by have := h.s2; simp only [Bld.pt, List.length_append, List.length_singleton]; omega, Nat.le_succ_of_le h.s3, Nat.le_succ_of_le h.s4, Nat.le_succ_of_le h.s5, Nat.le_succ_of_le h.s6⟩
theorem cLoop_le {b : Bld} {m : Nat} (h : b.le m) (t : List Int) : ∀ k, (cLoop b t k).le (m + k) ∧ (cLoop b t k).tracks = b.tracks
 | 0 => ⟨h, rfl⟩
 | k + 1 => by
  obtain ⟨h1, h2⟩ := cLoop_le h t k
  exact ⟨link_le h1 _, h2⟩
theorem links_le {b : Bld} {m : Nat} (h : b.le m) (x pt : Int) (east : Bool) (ts : List Int) : ∀ k, (b.links x pt east ts k).le (m + k) ∧ (b.links x pt east ts k).tracks = b.tracks
 | 0 => ⟨h, rfl⟩
 | k + 1 => by
  obtain ⟨h1, h2⟩ := links_le h x pt east ts k
  exact ⟨link_le h1 _, h2⟩
theorem fan_le {b : Bld} {m : Nat} (h : b.le m) (x : Int) (ts : List Int) (east : Bool) (ht : ts.length ≤ 2) : (b.fan x ts east).le (m + 3) ∧ (b.fan x ts east).tracks = b.tracks := by
 unfold Bld.fan
 split
 ·obtain ⟨h1, h2⟩ := links_le (pt_le h) x b.L.pts.length east ts ts.length
  exact ⟨h1.mono (by omega), h2⟩
 ·obtain ⟨h1, h2⟩ := links_le h x (-1) east ts ts.length
  exact ⟨h1.mono (by omega), h2⟩
theorem pStep_le (i : Nat) (x : Bld × Src) (m k : Nat) (h : x.1.le m) (hs : x.2.ok) (ht : TrOk x.1 k) : (pStep i x).1.le (m + 10) ∧ (pStep i x).2.ok ∧ TrOk (pStep i x).1 k := by
 have hk := x.2.nx_lt (n := 2) (by omega)
 obtain ⟨h1, h2, h3, h4⟩ := lLoop_le i (1 + x.2.nx 2) ([], x.1, x.2.af) m h (Src.af_ok hs)
 simp only [List.length_nil, Nat.zero_add] at h3 h4
 have hlen : ∀ {b : Bld} (j : Nat), b.tracks = x.1.tracks → (b.tracks.getD j []).length ≤ 2 := fun {b} j e => by
  rw [e, List.getD_eq_getElem?_getD]
  cases hj : x.1.tracks[j]? with
  | none => simp
  | some t => exact (ht.2 t (List.mem_of_getElem? hj)).2
 unfold pStep
 simp only
 generalize lLoop i (1 + x.2.nx 2) ([], x.1, x.2.af) = y at h1 h2 h3 h4
 obtain ⟨c1, c2⟩ := cLoop_le h1 y.1 (y.1.length - 1)
 obtain ⟨d1, d2⟩ := fan_le c1 (y.1.getD 0 0) _ false (hlen (b := cLoop y.2.1 y.1 (y.1.length - 1)) i (c2.trans h4))
 obtain ⟨e1, e2⟩ := fan_le d1 (y.1.getD (y.1.length - 1) 0) _ true (hlen (i + 1) (d2.trans (c2.trans h4)))
 have e3 := e2.trans (d2.trans (c2.trans h4))
 refine ⟨?_, h2, ?_⟩
 ·have e1' := e1.mono (show m + (1 + x.2.nx 2) + (y.1.length - 1) + 3 + 3 ≤ m + 9 by omega)
  exact ⟨Nat.le_succ_of_le e1'.s1, Nat.le_succ_of_le e1'.s2, Nat.le_succ_of_le e1'.s3, Nat.le_succ_of_le e1'.s4, Nat.le_succ_of_le e1'.s5, by have := e1'.s6; simp only [Bld.addBt, List.length_append, List.length_singleton]; omega⟩
 ·unfold TrOk
  simp only [Bld.addBt]
  rw [e3]
  exact ht
theorem pIter_le {x : Bld × Src} {m k : Nat} (h : x.1.le m) (hs : x.2.ok) (ht : TrOk x.1 k) : ∀ i, (iter pStep x i).1.le (m + i * 10) ∧ (iter pStep x i).2.ok ∧ TrOk (iter pStep x i).1 k
 | 0 => ⟨h.mono (by omega), hs, ht⟩
 | i + 1 => by
  obtain ⟨h1, h2, h3⟩ := pIter_le h hs ht i
  obtain ⟨h4, h5, h6⟩ := pStep_le i _ _ k h1 h2 h3
  exact ⟨h4.mono (by rw [Nat.succ_mul]; omega), h5, h6⟩
abbrev slR (n : Nat) : SL := [sC 0 (pB 0), sC 3 (pB 1), sI 4 (2 + n)]
theorem row_ok (s : Src) (hs : s.ok) : OkV Tryz.prog 25 [.c (pB 0)] [some s.box] (.c (pB 1)) [some (rowB s).2.box, some (rowB s).1.box] := by
 have hk := s.nx_lt (n := 2) (by omega)
 have hN := next_ok s 2 hs (by omega) (by omega)
 unfold rowB
 obtain ⟨n, en⟩ : ∃ n, s.nx 2 = n := ⟨_, rfl⟩
 rw [en] at hN hk ⊢
 refine X_fn mixedX Tryz.func25 rfl (by kernel_rfl) (Nat.le_of_ble_eq_true (by kernel_rfl)) (by kernel_rfl) rfl rfl (Nat.le_of_ble_eq_true rfl) rfl rfl ?_
 simp only [sl0, Nat.zero_add, Nat.reduceAdd]
 repeat' (first
  |with_reducible (first|refine WR_pp ?_|refine WR_pd ?_|refine W_seq ?_|refine seqK_n ?_|refine seqK_r ?_|refine seqK_e ?_|refine W_block ?_|refine blockK_n ?_|refine blockK_r ?_|refine LoopK_e ?_|refine LoopK_r ?_|refine LoopX_r ?_|refine W_skip ?_|refine W_exit ?_|refine W_ret ?_|refine W_region (WOps_WR ?_)|refine W_draw (WOpsD_WR ?_)|refine WR_nil ?_|refine q_and ?_ ?_|exact True.intro|assumption|refine blockK_e rfl ?_|refine blockK_o (by decide) ?_|refine LoopX_e (by decide) ?_)
  |((with_reducible apply q_call);refine X_call [0] (hN) rfl rfl rfl rfl rfl rfl rfl rfl rfl rfl rfl rfl rfl ?_)
  |((with_reducible apply q_WR);first|refine X_run rfl ?_ ?_|refine WR_nilD (by kernel_rfl) ?_)
  |((with_reducible apply q_cond);refine X_cond rfl ?_ ?_;all_goals (intro hbq;(try simp only [bq] at hbq);(try (exfalso;omega))))
  |((with_reducible apply q_ret);refine X_ret tabOk trivial rfl rfl ?_ ?_)
  |((with_reducible apply q_retP);refine X_retP tabOk trivial rfl rfl ?_ ?_)
  |(intro (hgq : (_ : Bool) = true);(try simp only [bq] at hgq))
  |(intro (hgq : (_ : Bool) = false);(try simp only [bq] at hgq))
  |((with_reducible apply q_VOk);exact fun _ => ⟨rfl,rfl⟩)
  |(intro _;exact rfl)
  |((with_reducible apply q_bt);simp only [bq])
  |((with_reducible apply q_eqN);rfl)
  |with_reducible exact isByte_wrap _
  |with_reducible exact isByte_nat _
  |(simp only [hgq,bq];done)
  |omega)
 refine W_loopS (fun i : Nat => SS (sI 5 i :: slR n) [some (iter oStep (Bld.zero, s.af) i).2.box, some (iter oStep (Bld.zero, s.af) i).1.box]) (fun i => i ≤ 2 + n) (fun i => 2 + n - i) 0 ?_ (by omega) ?_
 ·
  refine X_weak rfl rfl rfl ?_ ?_ <;> repeat' (first|with_reducible (first|exact q_AgS0|exact HLe.nil _|refine HLe.none ?_|refine HLe.cells ?_ ?_|refine HLe.els ?_ ?_|exact SLe.nil|refine SLe.cons ?_ ?_|exact ELe.refl _|refine ELe.c rfl ?_|exact CLe.refl _|exact CLe.nil_row|exact CLe.nil_rowS|exact CLe.nil_tip|exact CLe.nil_tipS|exact CLe.int (by omega)|refine CLe.tip ?_ ?_|refine CLe.tip_row ?_ ?_|refine CLe.row ?_ ?_|refine CLe.tipr_row ?_|refine CLe.rows ?_|refine CLe.tips ?_|refine CLe.int ?_|refine CLe.bool ?_|refine CLe.str ?_|refine CLe.arr ?_ ?_)|refine q_AgS rfl ?_ ?_|exact CLe.nil_tipS|exact CLe.nil_rowS|refine HLe.cells ?_ ?_|refine HLe.els ?_ ?_|refine SLe.cons ?_ ?_|with_reducible rfl|omega)
  all_goals rfl
 ·intro i hi
  have hin : i ≤ 3 := by omega
  obtain ⟨hle, hso⟩ := iter_le (x := (Bld.zero, s.af)) (m := 0) 4 oStep_le zero_le' (Src.af_ok hs) i
  obtain ⟨X, eX⟩ : ∃ X, iter oStep (Bld.zero, s.af) i = X := ⟨_, rfl⟩
  have eX1 : iter oStep (Bld.zero, s.af) (i + 1) = oStep i X := by rw [← eX]; rfl
  rw [eX] at hle hso
  rw [eX]
  by_cases hlt : i < 2 + n
  ·obtain ⟨b, s1⟩ := X
   dsimp only at hle hso ⊢
   have hk2 := s1.nx_lt (n := 2) (by omega)
   have hS := named_ok ⟨#[83]⟩ i (by decide) (by omega)
   have hN1 := next_ok s1 2 hso (by omega) (by omega)
   have hl1 := hle.s1
   obtain ⟨F, eF⟩ : ∃ F, tLoop i (1 + s1.nx 2) ([], b.addSt (nameN ⟨#[83]⟩ i), s1.af) = F := ⟨_, rfl⟩
   have eO : oStep i (b, s1) = (F.2.1.addTr F.1, F.2.2) := by simp only [oStep, eF]
   rw [eO] at eX1
   have h0 : (b.addSt (nameN ⟨#[83]⟩ i)).le (0 + i * 4 + 1) := ⟨by simp only [Bld.addSt, List.length_append, List.length_singleton]; omega, Nat.le_succ_of_le hle.s2, Nat.le_succ_of_le hle.s3, Nat.le_succ_of_le hle.s4, Nat.le_succ_of_le hle.s5, Nat.le_succ_of_le hle.s6⟩
   repeat' (first
    |with_reducible (first|refine WR_pp ?_|refine WR_pd ?_|refine W_seq ?_|refine seqK_n ?_|refine seqK_r ?_|refine seqK_e ?_|refine W_block ?_|refine blockK_n ?_|refine blockK_r ?_|refine LoopK_e ?_|refine LoopK_r ?_|refine LoopX_r ?_|refine W_skip ?_|refine W_exit ?_|refine W_ret ?_|refine W_region (WOps_WR ?_)|refine W_draw (WOpsD_WR ?_)|refine WR_nil ?_|refine q_and ?_ ?_|exact True.intro|assumption|refine blockK_e rfl ?_|refine blockK_o (by decide) ?_|refine LoopX_e (by decide) ?_)
    |((with_reducible apply q_call);first|refine X_pure (hS) rfl ?_|refine X_call [0] (hN1) rfl rfl rfl rfl rfl rfl rfl rfl rfl rfl rfl rfl rfl ?_)
    |((with_reducible apply q_WR);first|refine X_run rfl ?_ ?_|refine WR_nilD (by kernel_rfl) ?_)
    |((with_reducible apply q_cond);refine X_cond rfl ?_ ?_;all_goals (intro hbq;(try simp only [bq] at hbq);(try (exfalso;omega))))
    |((with_reducible apply q_ret);refine X_ret tabOk trivial rfl rfl ?_ ?_)
    |((with_reducible apply q_retP);refine X_retP tabOk trivial rfl rfl ?_ ?_)
    |(intro (hgq : (_ : Bool) = true);(try simp only [bq] at hgq))
    |(intro (hgq : (_ : Bool) = false);(try simp only [bq] at hgq))
    |((with_reducible apply q_VOk);exact fun _ => ⟨rfl,rfl⟩)
    |(intro _;exact rfl)
    |((with_reducible apply q_bt);simp only [bq])
    |((with_reducible apply q_eqN);rfl)
    |with_reducible exact isByte_wrap _
    |with_reducible exact isByte_nat _
    |(simp only [hgq,bq];done)
    |omega)
   refine W_loopS (fun g : Nat × TBS => SS (sI 7 g.1 :: sC 6 (tInt g.2.1) :: sI 5 i :: slR n) [some g.2.2.2.box, some g.2.2.1.box]) (fun g => tLoop i g.1 g.2 = F ∧ (∃ m, g.2.2.1.le m ∧ m + g.1 ≤ 20) ∧ g.2.2.2.ok ∧ g.2.1.length + g.1 ≤ 3) (fun g => g.1) (1 + s1.nx 2, [], b.addSt (nameN ⟨#[83]⟩ i), s1.af) ?_ ⟨eF, ⟨_, h0, by dsimp only; omega⟩, Src.af_ok hso, by simp only [List.length_nil]; omega⟩ ?_
   ·
    refine X_weak rfl rfl rfl ?_ ?_ <;> repeat' (first|with_reducible (first|exact q_AgS0|exact HLe.nil _|refine HLe.none ?_|refine HLe.cells ?_ ?_|refine HLe.els ?_ ?_|exact SLe.nil|refine SLe.cons ?_ ?_|exact ELe.refl _|refine ELe.c rfl ?_|exact CLe.refl _|exact CLe.nil_row|exact CLe.nil_rowS|exact CLe.nil_tip|exact CLe.nil_tipS|exact CLe.int (by omega)|refine CLe.tip ?_ ?_|refine CLe.tip_row ?_ ?_|refine CLe.row ?_ ?_|refine CLe.tipr_row ?_|refine CLe.rows ?_|refine CLe.tips ?_|refine CLe.int ?_|refine CLe.bool ?_|refine CLe.str ?_|refine CLe.arr ?_ ?_)|refine q_AgS rfl ?_ ?_|exact CLe.nil_tipS|exact CLe.nil_rowS|refine HLe.cells ?_ ?_|refine HLe.els ?_ ?_|refine SLe.cons ?_ ?_|with_reducible rfl|omega)
    all_goals (simp [Bld.addSt, fStr, fS]; done)
   ·intro g hg
    obtain ⟨k, tt, b2, s2⟩ := g
    obtain ⟨g1, ⟨m, g2, g2'⟩, g3, g4⟩ := hg
    dsimp only at g1 g2 g2' g3 g4 ⊢
    cases k with
    | zero =>
     have hF : (tt, b2, s2) = F := g1
     subst hF
     have hl5 := g2.s5
     repeat' (first
      |with_reducible (first|refine WR_pp ?_|refine WR_pd ?_|refine W_seq ?_|refine seqK_n ?_|refine seqK_r ?_|refine seqK_e ?_|refine W_block ?_|refine blockK_n ?_|refine blockK_r ?_|refine LoopK_e ?_|refine LoopK_r ?_|refine LoopX_r ?_|refine W_skip ?_|refine W_exit ?_|refine W_ret ?_|refine W_region (WOps_WR ?_)|refine W_draw (WOpsD_WR ?_)|refine WR_nil ?_|refine q_and ?_ ?_|exact True.intro|assumption|refine blockK_e rfl ?_|refine blockK_o (by decide) ?_|refine LoopX_e (by decide) ?_)
      |((with_reducible apply q_WR);first|refine X_run rfl ?_ ?_|refine WR_nilD (by kernel_rfl) ?_)
      |((with_reducible apply q_cond);refine X_cond rfl ?_ ?_;all_goals (intro hbq;(try simp only [bq] at hbq);(try (exfalso;omega))))
      |((with_reducible apply q_ret);refine X_ret tabOk trivial rfl rfl ?_ ?_)
      |((with_reducible apply q_retP);refine X_retP tabOk trivial rfl rfl ?_ ?_)
      |(intro (hgq : (_ : Bool) = true);(try simp only [bq] at hgq))
      |(intro (hgq : (_ : Bool) = false);(try simp only [bq] at hgq))
      |((with_reducible apply q_VOk);exact fun _ => ⟨rfl,rfl⟩)
      |(intro _;exact rfl)
      |((with_reducible apply q_bt);simp only [bq])
      |((with_reducible apply q_eqN);rfl)
      |with_reducible exact isByte_wrap _
      |with_reducible exact isByte_nat _
      |(simp only [hgq,bq];done)
      |omega)
     refine LoopK_n (i + 1) ?_ (by omega) (by omega)
     rw [eX1]
     refine X_weak rfl rfl rfl ?_ ?_ <;> repeat' (first|with_reducible (first|exact q_AgS0|exact HLe.nil _|refine HLe.none ?_|refine HLe.cells ?_ ?_|refine HLe.els ?_ ?_|exact SLe.nil|refine SLe.cons ?_ ?_|exact ELe.refl _|refine ELe.c rfl ?_|exact CLe.refl _|exact CLe.nil_row|exact CLe.nil_rowS|exact CLe.nil_tip|exact CLe.nil_tipS|exact CLe.int (by omega)|refine CLe.tip ?_ ?_|refine CLe.tip_row ?_ ?_|refine CLe.row ?_ ?_|refine CLe.tipr_row ?_|refine CLe.rows ?_|refine CLe.tips ?_|refine CLe.int ?_|refine CLe.bool ?_|refine CLe.str ?_|refine CLe.arr ?_ ?_)|refine q_AgS rfl ?_ ?_|exact CLe.nil_tipS|exact CLe.nil_rowS|refine HLe.cells ?_ ?_|refine HLe.els ?_ ?_|refine SLe.cons ?_ ?_|with_reducible rfl|omega)
     all_goals (simp [Bld.addTr, fTrk]; done)
    | succ k =>
     have hT := named_ok ⟨#[84]⟩ i (by decide) (by omega)
     have hT2 := named_ok (nameN ⟨#[84]⟩ i) (k + 1) (by rw [nameN_size]; decide) (by omega)
     have hC := section_ok s2 (nameN (nameN ⟨#[84]⟩ i) (k + 1)) i g3
     have hA := add_ok b2 (secT i (k + 1) s2) (g2.small (by omega))
     have q1 := s2.nx_lt (n := 9) (by omega)
     have q2 : (s2.sec (nameN (nameN ⟨#[84]⟩ i) (k + 1)) i).len = 2 + s2.nx 9 := rfl
     repeat' (first
      |with_reducible (first|refine WR_pp ?_|refine WR_pd ?_|refine W_seq ?_|refine seqK_n ?_|refine seqK_r ?_|refine seqK_e ?_|refine W_block ?_|refine blockK_n ?_|refine blockK_r ?_|refine LoopK_e ?_|refine LoopK_r ?_|refine LoopX_r ?_|refine W_skip ?_|refine W_exit ?_|refine W_ret ?_|refine W_region (WOps_WR ?_)|refine W_draw (WOpsD_WR ?_)|refine WR_nil ?_|refine q_and ?_ ?_|exact True.intro|assumption|refine blockK_e rfl ?_|refine blockK_o (by decide) ?_|refine LoopX_e (by decide) ?_)
      |((with_reducible apply q_call);first|refine X_pure (hT) rfl ?_|refine X_pure (hT2) rfl ?_|refine X_call [0] (hC) rfl rfl rfl rfl rfl rfl rfl rfl rfl rfl rfl rfl rfl ?_|refine X_call [1] (hA) rfl rfl rfl rfl rfl rfl rfl rfl rfl rfl rfl rfl rfl ?_)
      |((with_reducible apply q_WR);first|refine X_run rfl ?_ ?_|refine WR_nilD (by kernel_rfl) ?_)
      |((with_reducible apply q_cond);refine X_cond rfl ?_ ?_;all_goals (intro hbq;(try simp only [bq] at hbq);(try (exfalso;omega))))
      |((with_reducible apply q_ret);refine X_ret tabOk trivial rfl rfl ?_ ?_)
      |((with_reducible apply q_retP);refine X_retP tabOk trivial rfl rfl ?_ ?_)
      |(intro (hgq : (_ : Bool) = true);(try simp only [bq] at hgq))
      |(intro (hgq : (_ : Bool) = false);(try simp only [bq] at hgq))
      |((with_reducible apply q_VOk);exact fun _ => ⟨rfl,rfl⟩)
      |(intro _;exact rfl)
      |((with_reducible apply q_bt);simp only [bq])
      |((with_reducible apply q_eqN);rfl)
      |with_reducible exact isByte_wrap _
      |with_reducible exact isByte_nat _
      |(simp only [hgq,bq];done)
      |omega)
     refine LoopK_n (k, tStep i (k + 1) (tt, b2, s2)) ?_ ⟨g1, ⟨m + 1, add_le g2 _, by simp only; omega⟩, Src.af_ok (Src.af_ok (Src.af_ok g3)), by simp only [tStep, List.length_append, List.length_singleton]; omega⟩ (by simp only; omega)
     refine X_weak rfl rfl rfl ?_ ?_ <;> repeat' (first|with_reducible (first|exact q_AgS0|exact HLe.nil _|refine HLe.none ?_|refine HLe.cells ?_ ?_|refine HLe.els ?_ ?_|exact SLe.nil|refine SLe.cons ?_ ?_|exact ELe.refl _|refine ELe.c rfl ?_|exact CLe.refl _|exact CLe.nil_row|exact CLe.nil_rowS|exact CLe.nil_tip|exact CLe.nil_tipS|exact CLe.int (by omega)|refine CLe.tip ?_ ?_|refine CLe.tip_row ?_ ?_|refine CLe.row ?_ ?_|refine CLe.tipr_row ?_|refine CLe.rows ?_|refine CLe.tips ?_|refine CLe.int ?_|refine CLe.bool ?_|refine CLe.str ?_|refine CLe.arr ?_ ?_)|refine q_AgS rfl ?_ ?_|exact CLe.nil_tipS|exact CLe.nil_rowS|refine HLe.cells ?_ ?_|refine HLe.els ?_ ?_|refine SLe.cons ?_ ?_|with_reducible rfl|omega)
     all_goals (simp [tStep, fInt, fI]; done)
  ·have hie : i = 2 + n := by omega
   subst hie
   clear eX1
   obtain ⟨b0, s0⟩ := X
   dsimp only at hle hso ⊢
   rw [eX]
   clear hlt hi hin
   have hTr := oIter_tr (Src.af_ok hs) (2 + n) (by omega)
   rw [eX] at hTr
   repeat' (first
    |with_reducible (first|refine WR_pp ?_|refine WR_pd ?_|refine W_seq ?_|refine seqK_n ?_|refine seqK_r ?_|refine seqK_e ?_|refine W_block ?_|refine blockK_n ?_|refine blockK_r ?_|refine LoopK_e ?_|refine LoopK_r ?_|refine LoopX_r ?_|refine W_skip ?_|refine W_exit ?_|refine W_ret ?_|refine W_region (WOps_WR ?_)|refine W_draw (WOpsD_WR ?_)|refine WR_nil ?_|refine q_and ?_ ?_|exact True.intro|assumption|refine blockK_e rfl ?_|refine blockK_o (by decide) ?_|refine LoopX_e (by decide) ?_)
    |((with_reducible apply q_WR);first|refine X_run rfl ?_ ?_|refine WR_nilD (by kernel_rfl) ?_)
    |((with_reducible apply q_cond);refine X_cond rfl ?_ ?_;all_goals (intro hbq;(try simp only [bq] at hbq);(try (exfalso;omega))))
    |((with_reducible apply q_ret);refine X_ret tabOk trivial rfl rfl ?_ ?_)
    |((with_reducible apply q_retP);refine X_retP tabOk trivial rfl rfl ?_ ?_)
    |(intro (hgq : (_ : Bool) = true);(try simp only [bq] at hgq))
    |(intro (hgq : (_ : Bool) = false);(try simp only [bq] at hgq))
    |((with_reducible apply q_VOk);exact fun _ => ⟨rfl,rfl⟩)
    |(intro _;exact rfl)
    |((with_reducible apply q_bt);simp only [bq])
    |((with_reducible apply q_eqN);rfl)
    |with_reducible exact isByte_wrap _
    |with_reducible exact isByte_nat _
    |(simp only [hgq,bq];done)
    |omega)
   refine W_loopS (fun i : Nat => SS (sI 9 i :: slR n) [some (iter pStep (b0, s0) i).2.box, some (iter pStep (b0, s0) i).1.box]) (fun i => i ≤ 1 + n) (fun i => 1 + n - i) 0 ?_ (by omega) ?_
   ·
    refine X_weak rfl rfl rfl ?_ ?_ <;> repeat' (first|with_reducible (first|exact q_AgS0|exact HLe.nil _|refine HLe.none ?_|refine HLe.cells ?_ ?_|refine HLe.els ?_ ?_|exact SLe.nil|refine SLe.cons ?_ ?_|exact ELe.refl _|refine ELe.c rfl ?_|exact CLe.refl _|exact CLe.nil_row|exact CLe.nil_rowS|exact CLe.nil_tip|exact CLe.nil_tipS|exact CLe.int (by omega)|refine CLe.tip ?_ ?_|refine CLe.tip_row ?_ ?_|refine CLe.row ?_ ?_|refine CLe.tipr_row ?_|refine CLe.rows ?_|refine CLe.tips ?_|refine CLe.int ?_|refine CLe.bool ?_|refine CLe.str ?_|refine CLe.arr ?_ ?_)|refine q_AgS rfl ?_ ?_|exact CLe.nil_tipS|exact CLe.nil_rowS|refine HLe.cells ?_ ?_|refine HLe.els ?_ ?_|refine SLe.cons ?_ ?_|with_reducible rfl|omega)
    all_goals rfl
   ·intro i hi
    obtain ⟨hpl, hps, hpt⟩ := pIter_le hle hso hTr i
    obtain ⟨X, eX2⟩ : ∃ X, iter pStep (b0, s0) i = X := ⟨_, rfl⟩
    have eX1 : iter pStep (b0, s0) (i + 1) = pStep i X := by rw [← eX2]; rfl
    rw [eX2] at hpl hps hpt
    rw [eX2]
    by_cases hlt : i < 1 + n
    ·obtain ⟨b, s1⟩ := X
     dsimp only at hpl hps hpt ⊢
     have hk2 := s1.nx_lt (n := 2) (by omega)
     have hN1 := next_ok s1 2 hps (by omega) (by omega)
     have hin : i ≤ 2 := by omega
     obtain ⟨F, eF⟩ : ∃ F, lLoop i (1 + s1.nx 2) ([], b, s1.af) = F := ⟨_, rfl⟩
     obtain ⟨f1, f2, f3, f4⟩ := lLoop_le i (1 + s1.nx 2) ([], b, s1.af) _ hpl (Src.af_ok hps)
     rw [eF] at f1 f2 f3 f4
     simp only [List.length_nil, Nat.zero_add] at f3 f4
     have hTrF : TrOk F.2.1 (2 + n) := ⟨by rw [f4]; exact hpt.1, by rw [f4]; exact hpt.2⟩
     repeat' (first
      |with_reducible (first|refine WR_pp ?_|refine WR_pd ?_|refine W_seq ?_|refine seqK_n ?_|refine seqK_r ?_|refine seqK_e ?_|refine W_block ?_|refine blockK_n ?_|refine blockK_r ?_|refine LoopK_e ?_|refine LoopK_r ?_|refine LoopX_r ?_|refine W_skip ?_|refine W_exit ?_|refine W_ret ?_|refine W_region (WOps_WR ?_)|refine W_draw (WOpsD_WR ?_)|refine WR_nil ?_|refine q_and ?_ ?_|exact True.intro|assumption|refine blockK_e rfl ?_|refine blockK_o (by decide) ?_|refine LoopX_e (by decide) ?_)
      |((with_reducible apply q_call);refine X_call [0] (hN1) rfl rfl rfl rfl rfl rfl rfl rfl rfl rfl rfl rfl rfl ?_)
      |((with_reducible apply q_WR);first|refine X_run rfl ?_ ?_|refine WR_nilD (by kernel_rfl) ?_)
      |((with_reducible apply q_cond);refine X_cond rfl ?_ ?_;all_goals (intro hbq;(try simp only [bq] at hbq);(try (exfalso;omega))))
      |((with_reducible apply q_ret);refine X_ret tabOk trivial rfl rfl ?_ ?_)
      |((with_reducible apply q_retP);refine X_retP tabOk trivial rfl rfl ?_ ?_)
      |(intro (hgq : (_ : Bool) = true);(try simp only [bq] at hgq))
      |(intro (hgq : (_ : Bool) = false);(try simp only [bq] at hgq))
      |((with_reducible apply q_VOk);exact fun _ => ⟨rfl,rfl⟩)
      |(intro _;exact rfl)
      |((with_reducible apply q_bt);simp only [bq])
      |((with_reducible apply q_eqN);rfl)
      |with_reducible exact isByte_wrap _
      |with_reducible exact isByte_nat _
      |(simp only [hgq,bq];done)
      |omega)
     refine W_loopS (fun g : Nat × TBS => SS (sI 11 g.1 :: sC 10 (tInt g.2.1) :: sI 9 i :: slR n) [some g.2.2.2.box, some g.2.2.1.box]) (fun g => lLoop i g.1 g.2 = F ∧ (∃ m, g.2.2.1.le m ∧ m + g.1 ≤ 100) ∧ g.2.2.2.ok ∧ g.2.1.length + g.1 ≤ 3) (fun g => g.1) (1 + s1.nx 2, [], b, s1.af) ?_ ⟨eF, ⟨_, hpl, by dsimp only; omega⟩, Src.af_ok hps, by simp only [List.length_nil]; omega⟩ ?_
     ·
      refine X_weak rfl rfl rfl ?_ ?_ <;> repeat' (first|with_reducible (first|exact q_AgS0|exact HLe.nil _|refine HLe.none ?_|refine HLe.cells ?_ ?_|refine HLe.els ?_ ?_|exact SLe.nil|refine SLe.cons ?_ ?_|exact ELe.refl _|refine ELe.c rfl ?_|exact CLe.refl _|exact CLe.nil_row|exact CLe.nil_rowS|exact CLe.nil_tip|exact CLe.nil_tipS|exact CLe.int (by omega)|refine CLe.tip ?_ ?_|refine CLe.tip_row ?_ ?_|refine CLe.row ?_ ?_|refine CLe.tipr_row ?_|refine CLe.rows ?_|refine CLe.tips ?_|refine CLe.int ?_|refine CLe.bool ?_|refine CLe.str ?_|refine CLe.arr ?_ ?_)|refine q_AgS rfl ?_ ?_|exact CLe.nil_tipS|exact CLe.nil_rowS|refine HLe.cells ?_ ?_|refine HLe.els ?_ ?_|refine SLe.cons ?_ ?_|with_reducible rfl|omega)
     ·intro g hg
      obtain ⟨k, tt, b2, s2⟩ := g
      obtain ⟨g1, ⟨m, g2, g2'⟩, g3, g4⟩ := hg
      dsimp only at g1 g2 g2' g3 g4 ⊢
      cases k with
      | succ k =>
       have hT := named_ok ⟨#[76]⟩ i (by decide) (by omega)
       have hT2 := named_ok (nameN ⟨#[76]⟩ i) (k + 1) (by rw [nameN_size]; decide) (by omega)
       have hC := section_ok s2 (nameN (nameN ⟨#[76]⟩ i) (k + 1)) (-1) g3
       have hA := add_ok b2 (secL i (k + 1) s2) (g2.small (by omega))
       repeat' (first
        |with_reducible (first|refine WR_pp ?_|refine WR_pd ?_|refine W_seq ?_|refine seqK_n ?_|refine seqK_r ?_|refine seqK_e ?_|refine W_block ?_|refine blockK_n ?_|refine blockK_r ?_|refine LoopK_e ?_|refine LoopK_r ?_|refine LoopX_r ?_|refine W_skip ?_|refine W_exit ?_|refine W_ret ?_|refine W_region (WOps_WR ?_)|refine W_draw (WOpsD_WR ?_)|refine WR_nil ?_|refine q_and ?_ ?_|exact True.intro|assumption|refine blockK_e rfl ?_|refine blockK_o (by decide) ?_|refine LoopX_e (by decide) ?_)
        |((with_reducible apply q_call);first|refine X_pure (hT) rfl ?_|refine X_pure (hT2) rfl ?_|refine X_call [0] (hC) rfl rfl rfl rfl rfl rfl rfl rfl rfl rfl rfl rfl rfl ?_|refine X_call [1] (hA) rfl rfl rfl rfl rfl rfl rfl rfl rfl rfl rfl rfl rfl ?_)
        |((with_reducible apply q_WR);first|refine X_run rfl ?_ ?_|refine WR_nilD (by kernel_rfl) ?_)
        |((with_reducible apply q_cond);refine X_cond rfl ?_ ?_;all_goals (intro hbq;(try simp only [bq] at hbq);(try (exfalso;omega))))
        |((with_reducible apply q_ret);refine X_ret tabOk trivial rfl rfl ?_ ?_)
        |((with_reducible apply q_retP);refine X_retP tabOk trivial rfl rfl ?_ ?_)
        |(intro (hgq : (_ : Bool) = true);(try simp only [bq] at hgq))
        |(intro (hgq : (_ : Bool) = false);(try simp only [bq] at hgq))
        |((with_reducible apply q_VOk);exact fun _ => ⟨rfl,rfl⟩)
        |(intro _;exact rfl)
        |((with_reducible apply q_bt);simp only [bq])
        |((with_reducible apply q_eqN);rfl)
        |with_reducible exact isByte_wrap _
        |with_reducible exact isByte_nat _
        |(simp only [hgq,bq];done)
        |omega)
       refine LoopK_n (k, lStep i (k + 1) (tt, b2, s2)) ?_ ⟨g1, ⟨m + 1, add_le g2 _, by simp only; omega⟩, Src.af_ok (Src.af_ok (Src.af_ok g3)), by simp only [lStep, List.length_append, List.length_singleton]; omega⟩ (by simp only; omega)
       refine X_weak rfl rfl rfl ?_ ?_ <;> repeat' (first|with_reducible (first|exact q_AgS0|exact HLe.nil _|refine HLe.none ?_|refine HLe.cells ?_ ?_|refine HLe.els ?_ ?_|exact SLe.nil|refine SLe.cons ?_ ?_|exact ELe.refl _|refine ELe.c rfl ?_|exact CLe.refl _|exact CLe.nil_row|exact CLe.nil_rowS|exact CLe.nil_tip|exact CLe.nil_tipS|exact CLe.int (by omega)|refine CLe.tip ?_ ?_|refine CLe.tip_row ?_ ?_|refine CLe.row ?_ ?_|refine CLe.tipr_row ?_|refine CLe.rows ?_|refine CLe.tips ?_|refine CLe.int ?_|refine CLe.bool ?_|refine CLe.str ?_|refine CLe.arr ?_ ?_)|refine q_AgS rfl ?_ ?_|exact CLe.nil_tipS|exact CLe.nil_rowS|refine HLe.cells ?_ ?_|refine HLe.els ?_ ?_|refine SLe.cons ?_ ?_|with_reducible rfl|omega)
       all_goals (simp [lStep, fInt, fI]; done)
      | zero =>
       have hF : (tt, b2, s2) = F := g1
       subst hF
       simp only at f1 f2 f3 f4 hTrF
       have hcl := fun k => cLoop_le f1 tt k
       repeat' (first
        |with_reducible (first|refine WR_pp ?_|refine WR_pd ?_|refine W_seq ?_|refine seqK_n ?_|refine seqK_r ?_|refine seqK_e ?_|refine W_block ?_|refine blockK_n ?_|refine blockK_r ?_|refine LoopK_e ?_|refine LoopK_r ?_|refine LoopX_r ?_|refine W_skip ?_|refine W_exit ?_|refine W_ret ?_|refine W_region (WOps_WR ?_)|refine W_draw (WOpsD_WR ?_)|refine WR_nil ?_|refine q_and ?_ ?_|exact True.intro|assumption|refine blockK_e rfl ?_|refine blockK_o (by decide) ?_|refine LoopX_e (by decide) ?_)
        |((with_reducible apply q_WR);first|refine X_run rfl ?_ ?_|refine WR_nilD (by kernel_rfl) ?_)
        |((with_reducible apply q_cond);refine X_cond rfl ?_ ?_;all_goals (intro hbq;(try simp only [bq] at hbq);(try (exfalso;omega))))
        |((with_reducible apply q_ret);refine X_ret tabOk trivial rfl rfl ?_ ?_)
        |((with_reducible apply q_retP);refine X_retP tabOk trivial rfl rfl ?_ ?_)
        |(intro (hgq : (_ : Bool) = true);(try simp only [bq] at hgq))
        |(intro (hgq : (_ : Bool) = false);(try simp only [bq] at hgq))
        |((with_reducible apply q_VOk);exact fun _ => ⟨rfl,rfl⟩)
        |(intro _;exact rfl)
        |((with_reducible apply q_bt);simp only [bq])
        |((with_reducible apply q_eqN);rfl)
        |with_reducible exact isByte_wrap _
        |with_reducible exact isByte_nat _
        |(simp only [hgq,bq];done)
        |omega)
       refine W_loopS (fun k : Nat => SS (sI 12 k :: sC 10 (tInt tt) :: sI 9 i :: slR n) [some s2.box, some (cLoop b2 tt k).box]) (fun k => k ≤ tt.length - 1) (fun k => tt.length - 1 - k) 0 ?_ (by omega) ?_
       ·
        refine X_weak rfl rfl rfl ?_ ?_ <;> repeat' (first|with_reducible (first|exact q_AgS0|exact HLe.nil _|refine HLe.none ?_|refine HLe.cells ?_ ?_|refine HLe.els ?_ ?_|exact SLe.nil|refine SLe.cons ?_ ?_|exact ELe.refl _|refine ELe.c rfl ?_|exact CLe.refl _|exact CLe.nil_row|exact CLe.nil_rowS|exact CLe.nil_tip|exact CLe.nil_tipS|exact CLe.int (by omega)|refine CLe.tip ?_ ?_|refine CLe.tip_row ?_ ?_|refine CLe.row ?_ ?_|refine CLe.tipr_row ?_|refine CLe.rows ?_|refine CLe.tips ?_|refine CLe.int ?_|refine CLe.bool ?_|refine CLe.str ?_|refine CLe.arr ?_ ?_)|refine q_AgS rfl ?_ ?_|exact CLe.nil_tipS|exact CLe.nil_rowS|refine HLe.cells ?_ ?_|refine HLe.els ?_ ?_|refine SLe.cons ?_ ?_|with_reducible rfl|omega)
        all_goals rfl
       ·intro k hkl
        by_cases hkt : k < tt.length - 1
        ·have hK := link_ok (cLoop b2 tt k) (tt.getD (k : Int).toNat 0) (tt.getD ((k : Int) + 1).toNat 0) (-1) 0 ((hcl k).1.small (by omega))
         repeat' (first
          |with_reducible (first|refine WR_pp ?_|refine WR_pd ?_|refine W_seq ?_|refine seqK_n ?_|refine seqK_r ?_|refine seqK_e ?_|refine W_block ?_|refine blockK_n ?_|refine blockK_r ?_|refine LoopK_e ?_|refine LoopK_r ?_|refine LoopX_r ?_|refine W_skip ?_|refine W_exit ?_|refine W_ret ?_|refine W_region (WOps_WR ?_)|refine W_draw (WOpsD_WR ?_)|refine WR_nil ?_|refine q_and ?_ ?_|exact True.intro|assumption|refine blockK_e rfl ?_|refine blockK_o (by decide) ?_|refine LoopX_e (by decide) ?_)
          |((with_reducible apply q_call);refine X_call [1] (hK) rfl rfl rfl rfl rfl rfl rfl rfl rfl rfl rfl rfl rfl ?_)
          |((with_reducible apply q_WR);first|refine X_run rfl ?_ ?_|refine WR_nilD (by kernel_rfl) ?_)
          |((with_reducible apply q_cond);refine X_cond rfl ?_ ?_;all_goals (intro hbq;(try simp only [bq] at hbq);(try (exfalso;omega))))
          |((with_reducible apply q_ret);refine X_ret tabOk trivial rfl rfl ?_ ?_)
          |((with_reducible apply q_retP);refine X_retP tabOk trivial rfl rfl ?_ ?_)
          |(intro (hgq : (_ : Bool) = true);(try simp only [bq] at hgq))
          |(intro (hgq : (_ : Bool) = false);(try simp only [bq] at hgq))
          |((with_reducible apply q_VOk);exact fun _ => ⟨rfl,rfl⟩)
          |(intro _;exact rfl)
          |((with_reducible apply q_bt);simp only [bq])
          |((with_reducible apply q_eqN);rfl)
          |with_reducible exact isByte_wrap _
          |with_reducible exact isByte_nat _
          |(simp only [hgq,bq];done)
          |omega)
         refine LoopK_n (k + 1) ?_ ?_ ?_
         rotate_left
         ·(try dsimp only); omega
         ·(try dsimp only); omega
         refine X_weak rfl rfl rfl ?_ ?_ <;> repeat' (first|with_reducible (first|exact q_AgS0|exact HLe.nil _|refine HLe.none ?_|refine HLe.cells ?_ ?_|refine HLe.els ?_ ?_|exact SLe.nil|refine SLe.cons ?_ ?_|exact ELe.refl _|refine ELe.c rfl ?_|exact CLe.refl _|exact CLe.nil_row|exact CLe.nil_rowS|exact CLe.nil_tip|exact CLe.nil_tipS|exact CLe.int (by omega)|refine CLe.tip ?_ ?_|refine CLe.tip_row ?_ ?_|refine CLe.row ?_ ?_|refine CLe.tipr_row ?_|refine CLe.rows ?_|refine CLe.tips ?_|refine CLe.int ?_|refine CLe.bool ?_|refine CLe.str ?_|refine CLe.arr ?_ ?_)|refine q_AgS rfl ?_ ?_|exact CLe.nil_tipS|exact CLe.nil_rowS|refine HLe.cells ?_ ?_|refine HLe.els ?_ ?_|refine SLe.cons ?_ ?_|with_reducible rfl|omega)
         all_goals (simp [cLoop]; done)
        ·have hke : k = tt.length - 1 := by omega
         obtain ⟨c1, c2⟩ := hcl k
         have hc : cLoop b2 tt k = cLoop b2 tt (tt.length - 1) := by rw [hke]
         rw [hc] at c1 c2 ⊢
         generalize eC : cLoop b2 tt (tt.length - 1) = c at c1 c2 hc ⊢
         have hTc : TrOk c (2 + n) := by rw [show TrOk c (2 + n) = (c.tracks.length = 2 + n ∧ ∀ t ∈ c.tracks, 1 ≤ t.length ∧ t.length ≤ 2) from rfl, c2]; exact hTrF
         have hlen : ∀ j, (c.tracks.getD j []).length ≤ 2 := fun j => by
          rw [List.getD_eq_getElem?_getD]
          cases hj : c.tracks[j]? with
          | none => simp
          | some t => exact (hTc.2 t (List.mem_of_getElem? hj)).2
         have l1 := hlen (i : Int).toNat
         have l2 := hlen ((i : Int) + 1).toNat
         have c4 := c1.s4
         have c3 := c1.s2
         have hF1 := fan_ok c (tt.getD (0 : Int).toNat 0) (c.tracks.getD (i : Int).toNat []) false (c1.small (by omega)) (by omega) (by omega) (by omega)
         obtain ⟨d1, d2⟩ := fan_le c1 (tt.getD (0 : Int).toNat 0) (c.tracks.getD (i : Int).toNat []) false l1
         generalize eD : c.fan (tt.getD (0 : Int).toNat 0) (c.tracks.getD (i : Int).toNat []) false = e at d1 d2 hF1
         have d3 := d1.s2
         have d4 := d1.s4
         have l2' : (e.tracks.getD ((i : Int) + 1).toNat []).length ≤ 2 := by rw [d2]; exact l2
         have hF2 := fan_ok e (tt.getD ((tt.length : Int) - 1).toNat 0) (e.tracks.getD ((i : Int) + 1).toNat []) true (d1.small (by omega)) (by omega) (by omega) (by omega)
         obtain ⟨u1, u2⟩ := fan_le d1 (tt.getD ((tt.length : Int) - 1).toNat 0) (e.tracks.getD ((i : Int) + 1).toNat []) true l2'
         generalize eE : e.fan (tt.getD ((tt.length : Int) - 1).toNat 0) (e.tracks.getD ((i : Int) + 1).toNat []) true = u at u1 u2 hF2
         have u6 := u1.s6
         have t1 := hTc.1
         have t2 : e.tracks.length = 2 + n := by rw [d2]; exact t1
         repeat' (first
          |with_reducible (first|refine WR_pp ?_|refine WR_pd ?_|refine W_seq ?_|refine seqK_n ?_|refine seqK_r ?_|refine seqK_e ?_|refine W_block ?_|refine blockK_n ?_|refine blockK_r ?_|refine LoopK_e ?_|refine LoopK_r ?_|refine LoopX_r ?_|refine W_skip ?_|refine W_exit ?_|refine W_ret ?_|refine W_region (WOps_WR ?_)|refine W_draw (WOpsD_WR ?_)|refine WR_nil ?_|refine q_and ?_ ?_|exact True.intro|assumption|refine blockK_e rfl ?_|refine blockK_o (by decide) ?_|refine LoopX_e (by decide) ?_)
          |((with_reducible apply q_call);first|refine X_call [1] (hF1) rfl rfl rfl rfl rfl rfl rfl rfl rfl rfl rfl rfl rfl ?_|refine X_call [1] (hF2) rfl rfl rfl rfl rfl rfl rfl rfl rfl rfl rfl rfl rfl ?_)
          |((with_reducible apply q_WR);first|refine X_run rfl ?_ ?_|refine WR_nilD (by kernel_rfl) ?_)
          |((with_reducible apply q_cond);refine X_cond rfl ?_ ?_;all_goals (intro hbq;(try simp only [bq] at hbq);(try (exfalso;omega))))
          |((with_reducible apply q_ret);refine X_ret tabOk trivial rfl rfl ?_ ?_)
          |((with_reducible apply q_retP);refine X_retP tabOk trivial rfl rfl ?_ ?_)
          |(intro (hgq : (_ : Bool) = true);(try simp only [bq] at hgq))
          |(intro (hgq : (_ : Bool) = false);(try simp only [bq] at hgq))
          |((with_reducible apply q_VOk);exact fun _ => ⟨rfl,rfl⟩)
          |(intro _;exact rfl)
          |((with_reducible apply q_bt);simp only [bq])
          |((with_reducible apply q_eqN);rfl)
          |with_reducible exact isByte_wrap _
          |with_reducible exact isByte_nat _
          |(simp only [hgq,bq];done)
          |omega)
         have n1 : ((i : Int)).toNat = i := by omega
         have n2 : ((i : Int) + 1).toNat = i + 1 := by omega
         have n3 : ((tt.length : Int) - 1).toNat = tt.length - 1 := by omega
         have hp : pStep i (b, s1) = (u.addBt tt, s2) := by
          rw [n1, Int.toNat_zero] at eD
          rw [n2, n3] at eE
          simp only [pStep, eF, eC, eD, eE]
         refine LoopK_n (i + 1) ?_ (by omega) (by omega)
         rw [eX1, hp]
         refine X_weak rfl rfl rfl ?_ ?_ <;> repeat' (first|with_reducible (first|exact q_AgS0|exact HLe.nil _|refine HLe.none ?_|refine HLe.cells ?_ ?_|refine HLe.els ?_ ?_|exact SLe.nil|refine SLe.cons ?_ ?_|exact ELe.refl _|refine ELe.c rfl ?_|exact CLe.refl _|exact CLe.nil_row|exact CLe.nil_rowS|exact CLe.nil_tip|exact CLe.nil_tipS|exact CLe.int (by omega)|refine CLe.tip ?_ ?_|refine CLe.tip_row ?_ ?_|refine CLe.row ?_ ?_|refine CLe.tipr_row ?_|refine CLe.rows ?_|refine CLe.tips ?_|refine CLe.int ?_|refine CLe.bool ?_|refine CLe.str ?_|refine CLe.arr ?_ ?_)|refine q_AgS rfl ?_ ?_|exact CLe.nil_tipS|exact CLe.nil_rowS|refine HLe.cells ?_ ?_|refine HLe.els ?_ ?_|refine SLe.cons ?_ ?_|with_reducible rfl|omega)
         all_goals (simp [Bld.addBt, fTrk]; done)
    ·have hie : i = 1 + n := by omega
     subst hie
     repeat' (first
      |with_reducible (first|refine WR_pp ?_|refine WR_pd ?_|refine W_seq ?_|refine seqK_n ?_|refine seqK_r ?_|refine seqK_e ?_|refine W_block ?_|refine blockK_n ?_|refine blockK_r ?_|refine LoopK_e ?_|refine LoopK_r ?_|refine LoopX_r ?_|refine W_skip ?_|refine W_exit ?_|refine W_ret ?_|refine W_region (WOps_WR ?_)|refine W_draw (WOpsD_WR ?_)|refine WR_nil ?_|refine q_and ?_ ?_|exact True.intro|assumption|refine blockK_e rfl ?_|refine blockK_o (by decide) ?_|refine LoopX_e (by decide) ?_)
      |((with_reducible apply q_WR);first|refine X_run rfl ?_ ?_|refine WR_nilD (by kernel_rfl) ?_)
      |((with_reducible apply q_cond);refine X_cond rfl ?_ ?_;all_goals (intro hbq;(try simp only [bq] at hbq);(try (exfalso;omega))))
      |((with_reducible apply q_ret);refine X_ret tabOk trivial rfl rfl ?_ ?_)
      |((with_reducible apply q_retP);refine X_retP tabOk trivial rfl rfl ?_ ?_)
      |(intro (hgq : (_ : Bool) = true);(try simp only [bq] at hgq))
      |(intro (hgq : (_ : Bool) = false);(try simp only [bq] at hgq))
      |((with_reducible apply q_VOk);exact fun _ => ⟨rfl,rfl⟩)
      |(intro _;exact rfl)
      |((with_reducible apply q_bt);simp only [bq])
      |((with_reducible apply q_eqN);rfl)
      |with_reducible exact isByte_wrap _
      |with_reducible exact isByte_nat _
      |(simp only [hgq,bq];done)
      |omega)
     repeat' (first|with_reducible (first|exact TkEq.nil _|refine TkEq.none ?_|refine TkEq.cells ?_ ?_|refine TkEq.els ?_ ?_|exact SEqL.nil|refine SEqL.cons ?_ ?_|exact TEqL.nil|refine TEqL.c ?_ ?_|refine TEqL.agg ?_ ?_|exact CEq.refl _|refine CEq.int ?_|refine CEq.bool ?_|refine CEq.str ?_|refine CEq.rows ?_|refine CEq.row ?_ ?_|refine CEq.tips ?_|refine CEq.tip ?_ ?_|refine CEq.raw ?_ ?_|refine CEq.arr ?_ ?_)|refine VEq.c ?_|refine VEq.agg ?_|refine VEq.tup ?_|refine TkEq.cells ?_ ?_|refine TkEq.els ?_ ?_|refine SEqL.cons ?_ ?_|refine TEqL.agg ?_ ?_|refine CEq.rows ?_|refine CEq.int ?_|rfl|omega)
     all_goals (rw [eX2])
theorem from_ok (l : List Int) : OkV Tryz.prog 26 [.c (rInt l)] [] (.c (pB 0)) [some (Src.box ⟨l, 0⟩)] := by
 refine X_fn mixedX Tryz.func26 rfl (by kernel_rfl) (Nat.le_of_ble_eq_true (by kernel_rfl)) (by kernel_rfl) rfl rfl (Nat.le_of_ble_eq_true rfl) rfl rfl ?_
 simp only [sl0, Nat.zero_add, Nat.reduceAdd]
 repeat' (first
  |with_reducible (first|refine WR_pp ?_|refine WR_pd ?_|refine W_seq ?_|refine seqK_n ?_|refine seqK_r ?_|refine seqK_e ?_|refine W_block ?_|refine blockK_n ?_|refine blockK_r ?_|refine LoopK_e ?_|refine LoopK_r ?_|refine LoopX_r ?_|refine W_skip ?_|refine W_exit ?_|refine W_ret ?_|refine W_region (WOps_WR ?_)|refine W_draw (WOpsD_WR ?_)|refine WR_nil ?_|refine q_and ?_ ?_|exact True.intro|assumption|refine blockK_e rfl ?_|refine blockK_o (by decide) ?_|refine LoopX_e (by decide) ?_)
  |((with_reducible apply q_WR);first|refine X_run rfl ?_ ?_|refine WR_nilD (by kernel_rfl) ?_)
  |((with_reducible apply q_cond);refine X_cond rfl ?_ ?_;all_goals (intro hbq;(try simp only [bq] at hbq);(try (exfalso;omega))))
  |((with_reducible apply q_ret);refine X_ret tabOk trivial rfl rfl ?_ ?_)
  |((with_reducible apply q_retP);refine X_retP tabOk trivial rfl rfl ?_ ?_)
  |(intro (hgq : (_ : Bool) = true);(try simp only [bq] at hgq))
  |(intro (hgq : (_ : Bool) = false);(try simp only [bq] at hgq))
  |((with_reducible apply q_VOk);exact fun _ => ⟨rfl,rfl⟩)
  |(intro _;exact rfl)
  |((with_reducible apply q_bt);simp only [bq])
  |((with_reducible apply q_eqN);rfl)
  |with_reducible exact isByte_wrap _
  |with_reducible exact isByte_nat _
  |(simp only [hgq,bq];done)
  |omega)
 repeat' (first|with_reducible (first|exact TkEq.nil _|refine TkEq.none ?_|refine TkEq.cells ?_ ?_|refine TkEq.els ?_ ?_|exact SEqL.nil|refine SEqL.cons ?_ ?_|exact TEqL.nil|refine TEqL.c ?_ ?_|refine TEqL.agg ?_ ?_|exact CEq.refl _|refine CEq.int ?_|refine CEq.bool ?_|refine CEq.str ?_|refine CEq.rows ?_|refine CEq.row ?_ ?_|refine CEq.tips ?_|refine CEq.tip ?_ ?_|refine CEq.raw ?_ ?_|refine CEq.arr ?_ ?_)|refine VEq.c ?_|refine VEq.agg ?_|refine VEq.tup ?_|refine TkEq.cells ?_ ?_|refine TkEq.els ?_ ?_|refine SEqL.cons ?_ ?_|refine TEqL.agg ?_ ?_|refine CEq.rows ?_|refine CEq.int ?_|rfl|omega)
def genL (l : List Int) : Lay := (rowB ⟨l, 0⟩).1.L
theorem layout_ok (l : List Int) (hl : l.length ≤ 9223372036854775807) : OkV Tryz.prog 12 [.c (rInt l)] [] (vLay (genL l)) [] := by
 have h1 := from_ok l
 have h2 := row_ok ⟨l, 0⟩ ⟨Nat.zero_le _, hl⟩
 unfold genL
 refine X_fnP mixedX Tryz.func12 rfl (by kernel_rfl) (Nat.le_of_ble_eq_true (by kernel_rfl)) (by kernel_rfl) rfl rfl ?_
 simp only [sl0, Nat.zero_add, Nat.reduceAdd]
 repeat' (first
  |with_reducible (first|refine WR_pp ?_|refine WR_pd ?_|refine W_seq ?_|refine seqK_n ?_|refine seqK_r ?_|refine seqK_e ?_|refine W_block ?_|refine blockK_n ?_|refine blockK_r ?_|refine LoopK_e ?_|refine LoopK_r ?_|refine LoopX_r ?_|refine W_skip ?_|refine W_exit ?_|refine W_ret ?_|refine W_region (WOps_WR ?_)|refine W_draw (WOpsD_WR ?_)|refine WR_nil ?_|refine q_and ?_ ?_|exact True.intro|assumption|refine blockK_e rfl ?_|refine blockK_o (by decide) ?_|refine LoopX_e (by decide) ?_)
  |((with_reducible apply q_call);first|refine X_call [] (h1) rfl rfl rfl rfl rfl rfl rfl rfl rfl rfl rfl rfl rfl ?_|refine X_call [1] (h2) rfl rfl rfl rfl rfl rfl rfl rfl rfl rfl rfl rfl rfl ?_)
  |((with_reducible apply q_WR);first|refine X_run rfl ?_ ?_|refine WR_nilD (by kernel_rfl) ?_)
  |((with_reducible apply q_cond);refine X_cond rfl ?_ ?_;all_goals (intro hbq;(try simp only [bq] at hbq);(try (exfalso;omega))))
  |((with_reducible apply q_ret);refine X_ret tabOk trivial rfl rfl ?_ ?_)
  |((with_reducible apply q_retP);refine X_retP tabOk trivial rfl rfl ?_ ?_)
  |(intro (hgq : (_ : Bool) = true);(try simp only [bq] at hgq))
  |(intro (hgq : (_ : Bool) = false);(try simp only [bq] at hgq))
  |((with_reducible apply q_VOk);exact fun _ => ⟨rfl,rfl⟩)
  |(intro _;exact rfl)
  |((with_reducible apply q_bt);simp only [bq])
  |((with_reducible apply q_eqN);rfl)
  |with_reducible exact isByte_wrap _
  |with_reducible exact isByte_nat _
  |(simp only [hgq,bq];done)
  |omega)
 repeat' (first|with_reducible (first|exact TkEq.nil _|refine TkEq.none ?_|refine TkEq.cells ?_ ?_|refine TkEq.els ?_ ?_|exact SEqL.nil|refine SEqL.cons ?_ ?_|exact TEqL.nil|refine TEqL.c ?_ ?_|refine TEqL.agg ?_ ?_|exact CEq.refl _|refine CEq.int ?_|refine CEq.bool ?_|refine CEq.str ?_|refine CEq.rows ?_|refine CEq.row ?_ ?_|refine CEq.tips ?_|refine CEq.tip ?_ ?_|refine CEq.raw ?_ ?_|refine CEq.arr ?_ ?_)|refine VEq.c ?_|refine VEq.agg ?_|refine VEq.tup ?_|refine TkEq.cells ?_ ?_|refine TkEq.els ?_ ?_|refine SEqL.cons ?_ ?_|refine TEqL.agg ?_ ?_|refine CEq.rows ?_|refine CEq.int ?_|rfl|omega)
def secZ (x : Sec) : Sec := ⟨x.nm, 1, 1000, 0, x.stn⟩
def layZ (L : Lay) : Lay := { L with secs := L.secs.map secZ }
def Bld.z (b : Bld) : Bld := { b with L := layZ b.L }
def goodS (x : Sec) : Prop := 1 ≤ x.len ∧ x.len ≤ 400 ∧ 1000 ≤ x.lim ∧ x.lim ≤ 100000 ∧ -40 ≤ x.grd ∧ x.grd ≤ 40
theorem secB_z (n : Nat) (x : Sec) (h : goodS x) : secB n (secZ x) = secB n x := by
 obtain ⟨h1, h2, h3, h4, h5, h6⟩ := h
 unfold secB secZ
 simp only [decide_eq_decide]
 omega
theorem secsErr_z (n : Nat) : ∀ (l : List Sec) (seen : List ByteArray), (∀ x ∈ l, goodS x) → secsErr n seen (l.map secZ) = secsErr n seen l
 | [], _, _ => rfl
 | x :: r, seen, h => by
  rw [List.map_cons, secsErr, secsErr, secB_z n x (h x (List.mem_cons_self ..)), secsErr_z n r _ (fun y hy => h y (List.mem_cons_of_mem _ hy))]
  rfl
theorem layErr_z (L : Lay) (h : ∀ x ∈ L.secs, goodS x) : layErr (layZ L) = layErr L := by
 unfold layErr layZ
 simp only [List.length_map, secsErr_z _ _ _ h]
theorem sec_good (s : Src) (nm : ByteArray) (st : Int) : goodS (s.sec nm st) ∧ goodS { s.sec nm st with len := (s.sec nm st).len + 2 } := by
 have k1 := s.nx_lt (n := 9) (by omega)
 have k2 := s.af.nx_lt (n := 7) (by omega)
 have k3 := s.af.af.nx_lt (n := 21) (by omega)
 unfold goodS Src.sec
 simp only
 omega
abbrev TBQ := List Int × Bld
def tLoopZ (i : Nat) : Nat → TBQ → TBQ
 | 0, x => x
 | k + 1, x => tLoopZ i k (x.1 ++ [(x.2.L.secs.length : Int)], x.2.add ⟨nameN (nameN ⟨#[84]⟩ i) (k + 1), 1, 1000, 0, i⟩)
def oStepZ (i c : Nat) (b : Bld) : Bld := let y := tLoopZ i c ([], b.addSt (nameN ⟨#[83]⟩ i)); y.2.addTr y.1
def lLoopZ (i : Nat) : Nat → TBQ → TBQ
 | 0, x => x
 | k + 1, x => lLoopZ i k (x.1 ++ [(x.2.L.secs.length : Int)], x.2.add ⟨nameN (nameN ⟨#[76]⟩ i) (k + 1), 1, 1000, 0, -1⟩)
def pStepZ (i n : Nat) (b : Bld) : Bld :=
 let y := lLoopZ i n ([], b)
 let c := cLoop y.2 y.1 (y.1.length - 1)
 let d := c.fan (y.1.getD 0 0) (c.tracks.getD i []) false
 let e := d.fan (y.1.getD (y.1.length - 1) 0) (d.tracks.getD (i + 1) []) true
 e.addBt y.1
theorem add_z (b : Bld) (x : Sec) : (b.add x).z = b.z.add (secZ x) := by simp [Bld.z, Bld.add, layZ]
theorem len_z (b : Bld) : b.z.L.secs.length = b.L.secs.length := by simp [Bld.z, layZ]
theorem tLoop_z (i : Nat) : ∀ (k : Nat) (x : TBS), ((tLoop i k x).1, (tLoop i k x).2.1.z) = tLoopZ i k (x.1, x.2.1.z)
 | 0, x => rfl
 | k + 1, x => by
  rw [tLoop, tLoop_z i k, tLoopZ, len_z]
  simp only [tStep, add_z]
  rfl
theorem lLoop_z (i : Nat) : ∀ (k : Nat) (x : TBS), ((lLoop i k x).1, (lLoop i k x).2.1.z) = lLoopZ i k (x.1, x.2.1.z)
 | 0, x => rfl
 | k + 1, x => by
  rw [lLoop, lLoop_z i k, lLoopZ, len_z]
  simp only [lStep, add_z]
  rfl
theorem oStep_z (i : Nat) (x : Bld × Src) : (oStep i x).1.z = oStepZ i (1 + x.2.nx 2) x.1.z := by
 have h := tLoop_z i (1 + x.2.nx 2) ([], x.1.addSt (nameN ⟨#[83]⟩ i), x.2.af)
 have h1 := congrArg Prod.fst h
 have h2 := congrArg Prod.snd h
 simp only at h1 h2
 unfold oStep oStepZ
 simp only
 rw [show (x.1.z.addSt (nameN ⟨#[83]⟩ i)) = (x.1.addSt (nameN ⟨#[83]⟩ i)).z from rfl, ← h1, ← h2]
 rfl
theorem links_z (b : Bld) (x pt : Int) (east : Bool) (ts : List Int) : ∀ i, (b.links x pt east ts i).z = b.z.links x pt east ts i
 | 0 => rfl
 | i + 1 => by
  rw [Bld.links, Bld.links, ← links_z b x pt east ts i]
  rfl
theorem fan_z (b : Bld) (x : Int) (ts : List Int) (east : Bool) : (b.fan x ts east).z = b.z.fan x ts east := by
 unfold Bld.fan
 split
 ·rw [links_z]; rfl
 ·rw [links_z]
theorem cLoop_z (b : Bld) (t : List Int) : ∀ k, (cLoop b t k).z = cLoop b.z t k
 | 0 => rfl
 | k + 1 => by
  rw [cLoop, cLoop, ← cLoop_z b t k]
  rfl
theorem tracks_z (b : Bld) : b.z.tracks = b.tracks := rfl
theorem addBt_z (b : Bld) (t : List Int) : (b.addBt t).z = b.z.addBt t := rfl
theorem pStep_z (i : Nat) (x : Bld × Src) : (pStep i x).1.z = pStepZ i (1 + x.2.nx 2) x.1.z := by
 have h := lLoop_z i (1 + x.2.nx 2) ([], x.1, x.2.af)
 have h1 := congrArg Prod.fst h
 have h2 := congrArg Prod.snd h
 simp only at h1 h2
 unfold pStep pStepZ
 generalize lLoop i (1 + x.2.nx 2) ([], x.1, x.2.af) = y at h1 h2 ⊢
 generalize lLoopZ i (1 + x.2.nx 2) ([], x.1.z) = u at h1 h2 ⊢
 obtain ⟨u1, u2⟩ := u
 obtain ⟨y1, y2, y3⟩ := y
 simp only at h1 h2 ⊢
 subst h1 h2
 simp only [← cLoop_z, tracks_z, ← fan_z, ← addBt_z]
def iterZ (f : Nat → Nat → Bld → Bld) (c : Nat → Nat) (b : Bld) : Nat → Bld
 | 0 => b
 | i + 1 => f i (c i) (iterZ f c b i)
theorem iter_z {f : Nat → Bld × Src → Bld × Src} {g : Nat → Nat → Bld → Bld} (h : ∀ i x, (f i x).1.z = g i (1 + x.2.nx 2) x.1.z) (x : Bld × Src) : ∀ i, (iter f x i).1.z = iterZ g (fun i => 1 + (iter f x i).2.nx 2) x.1.z i
 | 0 => rfl
 | i + 1 => by
  rw [iter, h, iter_z h x i]
  rfl
def shapeB (n a0 a1 a2 c0 c1 : Nat) : Bld := iterZ pStepZ (fun i => [c0, c1].getD i 1) (iterZ oStepZ (fun i => [a0, a1, a2].getD i 1) Bld.zero (2 + n)) (1 + n)
def shapesB : Bool := [0, 1].all fun n => [1, 2].all fun a0 => [1, 2].all fun a1 => [1, 2].all fun a2 => [1, 2].all fun c0 => [1, 2].all fun c1 => decide (layErr (shapeB n a0 a1 a2 c0 c1).L = 0)
set_option maxRecDepth 100000 in
theorem shapes_ok : shapesB = true := by kernel_rfl
theorem two_mem (s : Src) : 1 + s.nx 2 ∈ [1, 2] := by
 have := s.nx_lt (n := 2) (by omega)
 generalize s.nx 2 = k at this ⊢
 match k, this with
 | 0, _ => simp
 | 1, _ => simp
theorem shape_ok {n a0 a1 a2 c0 c1 : Nat} (hn : n ∈ [0, 1]) (h0 : a0 ∈ [1, 2]) (h1 : a1 ∈ [1, 2]) (h2 : a2 ∈ [1, 2]) (h3 : c0 ∈ [1, 2]) (h4 : c1 ∈ [1, 2]) : layErr (shapeB n a0 a1 a2 c0 c1).L = 0 := by
 have h := shapes_ok
 unfold shapesB at h
 have h := List.all_eq_true.1 h n hn
 have h := List.all_eq_true.1 h a0 h0
 have h := List.all_eq_true.1 h a1 h1
 have h := List.all_eq_true.1 h a2 h2
 have h := List.all_eq_true.1 h c0 h3
 have h := List.all_eq_true.1 h c1 h4
 exact of_decide_eq_true h
theorem iterZ_congr (f : Nat → Nat → Bld → Bld) (c c' : Nat → Nat) (b : Bld) : ∀ i, (∀ j, j < i → c j = c' j) → iterZ f c b i = iterZ f c' b i
 | 0, _ => rfl
 | i + 1, h => by rw [iterZ, iterZ, h i (by omega), iterZ_congr f c c' b i (fun j hj => h j (by omega))]
def GS (b : Bld) : Prop := ∀ x ∈ b.L.secs, goodS x
theorem GS.add {b : Bld} (h : GS b) {x : Sec} (hx : goodS x) : GS (b.add x) := fun y hy => by
 simp only [Bld.add, List.mem_append, List.mem_singleton] at hy
 rcases hy with hy | rfl
 ·exact h y hy
 ·exact hx
theorem GS.of {b c : Bld} (h : GS b) (e : c.L.secs = b.L.secs) : GS c := fun y hy => h y (e ▸ hy)
theorem tLoop_gs (i : Nat) : ∀ (k : Nat) (x : TBS), GS x.2.1 → GS (tLoop i k x).2.1
 | 0, x, h => h
 | k + 1, x, h => tLoop_gs i k _ (h.add (sec_good _ _ _).2)
theorem lLoop_gs (i : Nat) : ∀ (k : Nat) (x : TBS), GS x.2.1 → GS (lLoop i k x).2.1
 | 0, x, h => h
 | k + 1, x, h => lLoop_gs i k _ (h.add (sec_good _ _ _).1)
theorem oStep_gs (i : Nat) (x : Bld × Src) (h : GS x.1) : GS (oStep i x).1 :=
 (tLoop_gs i (1 + x.2.nx 2) ([], x.1.addSt (nameN ⟨#[83]⟩ i), x.2.af) (h.of rfl)).of rfl
theorem links_secs (b : Bld) (x pt : Int) (east : Bool) (ts : List Int) : ∀ i, (b.links x pt east ts i).L.secs = b.L.secs
 | 0 => rfl
 | i + 1 => links_secs b x pt east ts i
theorem fan_secs (b : Bld) (x : Int) (ts : List Int) (east : Bool) : (b.fan x ts east).L.secs = b.L.secs := by
 unfold Bld.fan
 split
 ·rw [links_secs]; rfl
 ·rw [links_secs]
theorem cLoop_secs (b : Bld) (t : List Int) : ∀ k, (cLoop b t k).L.secs = b.L.secs
 | 0 => rfl
 | k + 1 => cLoop_secs b t k
theorem pStep_gs (i : Nat) (x : Bld × Src) (h : GS x.1) : GS (pStep i x).1 := by
 have hl := lLoop_gs i (1 + x.2.nx 2) ([], x.1, x.2.af) h
 unfold pStep
 generalize lLoop i (1 + x.2.nx 2) ([], x.1, x.2.af) = y at hl ⊢
 refine hl.of ?_
 simp only
 show (Bld.fan _ _ _ _).L.secs = _
 rw [fan_secs, fan_secs, cLoop_secs]
theorem iter_gs {f : Nat → Bld × Src → Bld × Src} (hf : ∀ i x, GS x.1 → GS (f i x).1) {x : Bld × Src} (h : GS x.1) : ∀ i, GS (iter f x i).1
 | 0 => h
 | i + 1 => hf _ _ (iter_gs hf h i)
theorem shapeAny (n : Nat) (hn : n < 2) (c1 c2 : Nat → Nat) (h1 : ∀ i, c1 i ∈ [1, 2]) (h2 : ∀ i, c2 i ∈ [1, 2]) : layErr (iterZ pStepZ c2 (iterZ oStepZ c1 Bld.zero (2 + n)) (1 + n)).L = 0 := by
 rw [iterZ_congr oStepZ c1 (fun i => [c1 0, c1 1, c1 2].getD i 1) _ (2 + n) (fun j hj => by
  match j, (show j < 3 by omega) with
  | 0, _ => rfl
  | 1, _ => rfl
  | 2, _ => rfl), iterZ_congr pStepZ c2 (fun i => [c2 0, c2 1].getD i 1) _ (1 + n) (fun j hj => by
  match j, (show j < 2 by omega) with
  | 0, _ => rfl
  | 1, _ => rfl)]
 have hm : n ∈ [0, 1] := by
  match n, hn with
  | 0, _ => simp
  | 1, _ => simp
 exact shape_ok hm (h1 0) (h1 1) (h1 2) (h2 0) (h2 1)
theorem genL_ok (l : List Int) : layErr (genL l) = 0 := by
 have hk := (⟨l, 0⟩ : Src).nx_lt (n := 2) (by omega)
 have g0 : GS Bld.zero := fun x hx => by cases hx
 have g1 := iter_gs oStep_gs (x := (Bld.zero, (⟨l, 0⟩ : Src).af)) g0 (2 + (⟨l, 0⟩ : Src).nx 2)
 have g2 := iter_gs pStep_gs g1 (1 + (⟨l, 0⟩ : Src).nx 2)
 have e1 := iter_z oStep_z (Bld.zero, (⟨l, 0⟩ : Src).af) (2 + (⟨l, 0⟩ : Src).nx 2)
 have e2 := iter_z pStep_z (iter oStep (Bld.zero, (⟨l, 0⟩ : Src).af) (2 + (⟨l, 0⟩ : Src).nx 2)) (1 + (⟨l, 0⟩ : Src).nx 2)
 rw [e1, show Bld.z (Bld.zero, (⟨l, 0⟩ : Src).af).1 = Bld.zero from rfl] at e2
 have hs := shapeAny ((⟨l, 0⟩ : Src).nx 2) hk _ _ (fun i => two_mem (iter oStep (Bld.zero, (⟨l, 0⟩ : Src).af) i).2) (fun i => two_mem (iter pStep (iter oStep (Bld.zero, (⟨l, 0⟩ : Src).af) (2 + (⟨l, 0⟩ : Src).nx 2)) i).2)
 rw [← e2] at hs
 have hz := layErr_z _ g2
 unfold genL rowB
 rw [← hz]
 exact hs
theorem in_ok (n lo hi : Int) : OkV Tryz.prog 40 [.c (xI n), .c (xI lo), .c (xI hi)] [] (vB (decide (lo ≤ n) && decide (n ≤ hi))) [] := by
 refine X_fn mixedX Tryz.func40 rfl (by kernel_rfl) (Nat.le_of_ble_eq_true (by kernel_rfl)) (by kernel_rfl) rfl rfl (Nat.le_of_ble_eq_true rfl) rfl rfl ?_
 simp only [sl0, Nat.zero_add, Nat.reduceAdd]
 repeat' (first
  |with_reducible (first|refine q_and ?_ ?_|exact True.intro|exact TkEq.nil _|refine Red.o (by constructor) ?_|refine blockK_o' rfl ?_|refine LoopX_e' rfl ?_|assumption)
  |((with_reducible apply q_CI);intro hbq;(try simp only [bq] at hbq);(try (exfalso;omega)))
  |refine Rex.o (by (with_reducible constructor);apply Eq.refl) ?_
  |(intro (hgq : (_ : Bool) = true);(try simp only [bq] at hgq))
  |(intro (hgq : (_ : Bool) = false);(try simp only [bq] at hgq))
  |((with_reducible apply q_VOk);exact fun _ => ⟨rfl,rfl⟩)|(intro _;exact rfl)|((with_reducible apply q_CRB);kernel_rfl)|((with_reducible apply q_bt);simp only [bq])|((with_reducible apply q_eqN);rfl)|((with_reducible apply q_FE);exact rfl)|with_reducible (first|exact isByte_wrap _|exact isByte_nat _)|(simp only [hgq,bq];done)|omega|(dsimp only;omega))
 repeat' (first|with_reducible (first|refine Wk.o (by constructor) ?_|refine q_and ?_ ?_|exact True.intro)|refine VEq.c ?_|refine VEq.agg ?_|refine VEq.tup ?_|refine TkEq.cells ?_ ?_|refine TkEq.els ?_ ?_|refine SEqL.cons ?_ ?_|refine TEqL.agg ?_ ?_|refine CEq.rows ?_|refine CEq.int ?_|rfl|omega)
theorem dup_at {st : List Stp} {i j : Nat} (hi : i < st.length) (hj : j < i) (h : (st.getD j st0).sec = (st.getD i st0).sec) : dupAt st i = true := by
 unfold dupAt
 rw [List.any_eq_true]
 refine ⟨st.getD j st0, ?_, by simpa using h⟩
 rw [List.getD_eq_getElem?_getD, List.getElem?_eq_getElem (by omega)]
 rw [List.mem_take_iff_getElem]
 exact ⟨j, by omega, rfl⟩
theorem dup_nat {st : List Stp} {i : Nat} (hi : i < st.length) (h : ∀ j, j < i → (st.getD j st0).sec ≠ (st.getD i st0).sec) : dupAt st i = false := by
 unfold dupAt
 rw [List.any_eq_false]
 intro x hx
 rw [List.mem_take_iff_getElem] at hx
 obtain ⟨j, hj, rfl⟩ := hx
 have := h j (by omega)
 rw [List.getD_eq_getElem?_getD, List.getElem?_eq_getElem (by omega)] at this
 simpa using this
theorem refRte_ok (L : Lay) (hL : LayFits L) (st : List Stp) (ov : Int) (hl : st.length ≤ 9223372036854775807) (ho : -9223372036854775808 ≤ ov ∧ ov ≤ 9223372036854775807) : OkV Tryz.prog 21 [vLay L, .agg [rStp st, xI ov]] [] (vI (rteErr L ⟨st, ov⟩)) [] := by
 have hC := refCheck_okV L hL
 have hl3 := hL.m3
 unfold vLay at hC ⊢
 refine X_fn mixedX Tryz.func21 rfl (by kernel_rfl) (Nat.le_of_ble_eq_true (by kernel_rfl)) (by kernel_rfl) rfl rfl (Nat.le_of_ble_eq_true rfl) rfl rfl ?_
 simp only [sl0, Nat.zero_add, Nat.reduceAdd]
 repeat' (first
  |with_reducible (first|refine q_and ?_ ?_|exact True.intro|exact TkEq.nil _|refine Red.o (by constructor) ?_|refine blockK_o' rfl ?_|refine LoopX_e' rfl ?_|assumption)
  |((with_reducible apply q_call);refine X_pure (hC) rfl ?_)
  |((with_reducible apply q_CI);intro hbq;(try simp only [bq] at hbq);(try (exfalso;omega)))
  |refine Rex.o (by (with_reducible constructor);apply Eq.refl) ?_
  |(intro (hgq : (_ : Bool) = true);(try simp only [bq] at hgq))
  |(intro (hgq : (_ : Bool) = false);(try simp only [bq] at hgq))
  |((with_reducible apply q_VOk);exact fun _ => ⟨rfl,rfl⟩)|(intro _;exact rfl)|((with_reducible apply q_CRB);kernel_rfl)|((with_reducible apply q_bt);simp only [bq])|((with_reducible apply q_eqN);rfl)|((with_reducible apply q_FE);exact rfl)|with_reducible (first|exact isByte_wrap _|exact isByte_nat _)|(simp only [hgq,bq];done)|omega|(dsimp only;omega))
 ·rw [rte_1 hbq]; rfl
 ·rename_i a1
  rw [rte_7 (by omega) (by simp only; omega)]; rfl
 ·rename_i a1 a2
  rw [rte_4 (by omega) (by simp only; omega) (by simp only; omega)]; rfl
 rename_i a1 a2
 clear hC
 have b1 : layErr L = 0 := by omega
 have b2 : ¬ (24 < st.length ∨ 2 < ov) := by omega
 have b3 : ¬ (ov < 0 ∨ (st.length : Int) - ov < 2) := by omega
 have hV := valid_of b1
 have hn3 := hV.n3
 refine W_loopS (fun i : Nat => SS [sC 2 (pB 0), sC 3 (pB 1), sI 5 i] [bLay L, bRte st ov]) (fun i => i ≤ st.length ∧ ∀ j, j < i → (st.getD j st0).ok L = true) (fun i => st.length - i) 0 ?_ ⟨by omega, fun j hj => by omega⟩ ?_
 ·
  refine X_weak rfl rfl rfl ?_ ?_ <;> repeat' (first|with_reducible (first|refine Wk.o (by constructor) ?_|refine q_and ?_ ?_|exact True.intro)|refine q_AgS rfl ?_ ?_|exact CLe.nil_tipS|exact CLe.nil_rowS|refine HLe.cells ?_ ?_|refine HLe.els ?_ ?_|refine SLe.cons ?_ ?_|exact (rfl : known _ = _)|with_reducible rfl|omega)
 intro i hi
 obtain ⟨hi, hok⟩ := hi
 have h1 := in_ok (st.getD (i : Int).toNat st0).sec 0 (L.secs.length - 1)
 have h2 := in_ok (st.getD (i : Int).toNat st0).dir 0 1
 repeat' (first
  |with_reducible (first|refine q_and ?_ ?_|exact True.intro|exact TkEq.nil _|refine Red.o (by constructor) ?_|refine blockK_o' rfl ?_|refine LoopX_e' rfl ?_|assumption)
  |((with_reducible apply q_call);refine X_pure (h1) rfl ?_)
  |((with_reducible apply q_callG);refine X_pureG ((fun _ => h2)) rfl ?_ ?_)
  |((with_reducible apply q_CI);intro hbq;(try simp only [bq] at hbq);(try (exfalso;omega)))
  |refine Rex.o (by (with_reducible constructor);apply Eq.refl) ?_
  |(intro (hgq : (_ : Bool) = true);(try simp only [bq] at hgq))
  |(intro (hgq : (_ : Bool) = false);(try simp only [bq] at hgq))
  |((with_reducible apply q_VOk);exact fun _ => ⟨rfl,rfl⟩)|(intro _;exact rfl)|((with_reducible apply q_CRB);kernel_rfl)|((with_reducible apply q_bt);simp only [bq])|((with_reducible apply q_eqN);rfl)|((with_reducible apply q_FE);exact rfl)|with_reducible (first|exact isByte_wrap _|exact isByte_nat _)|(simp only [hgq,bq];done)|omega|(dsimp only;omega))
 ·have hb : (st.getD (i : Int).toNat st0).ok L = false := by
   unfold Stp.ok
   simp only [Bool.and_eq_false_iff, Bool.or_eq_false_iff, decide_eq_false_iff_not]
   omega
  rw [rte_4b (r := ⟨st, ov⟩) b1 b2 b3 (all_no (l := st) (i := i) (by omega) hb)]; rfl
 ·have hb : (st.getD (i : Int).toNat st0).ok L = true := by
   unfold Stp.ok
   simp only [Bool.and_eq_true, Bool.or_eq_true, decide_eq_true_eq]
   omega
  refine LoopK_n (i + 1) ?_ (⟨by omega, upto_succ hok hb⟩) (by (try dsimp only); omega)
  refine X_weak rfl rfl rfl ?_ ?_ <;> repeat' (first|with_reducible (first|refine Wk.o (by constructor) ?_|refine q_and ?_ ?_|exact True.intro)|refine q_AgS rfl ?_ ?_|exact CLe.nil_tipS|exact CLe.nil_rowS|refine HLe.cells ?_ ?_|refine HLe.els ?_ ?_|refine SLe.cons ?_ ?_|exact (rfl : known _ = _)|with_reducible rfl|omega)
 have hie : i = st.length := by omega
 subst hie
 clear h1 h2
 have b4 : st.all (Stp.ok L) = true := all_yes hok
 clear hok hi hbq
 refine W_loopS (fun i : Nat => SS [sC 2 (pB 0), sC 3 (pB 1), sI 6 i] [bLay L, bRte st ov]) (fun i => i ≤ st.length ∧ ∀ j, j < i → dupAt st j = false) (fun i => st.length - i) 0 ?_ ⟨by omega, fun j hj => by omega⟩ ?_
 ·
  refine X_weak rfl rfl rfl ?_ ?_ <;> repeat' (first|with_reducible (first|refine Wk.o (by constructor) ?_|refine q_and ?_ ?_|exact True.intro)|refine q_AgS rfl ?_ ?_|exact CLe.nil_tipS|exact CLe.nil_rowS|refine HLe.cells ?_ ?_|refine HLe.els ?_ ?_|refine SLe.cons ?_ ?_|exact (rfl : known _ = _)|with_reducible rfl|omega)
 intro i hi
 obtain ⟨hi, hno⟩ := hi
 repeat' (first
  |with_reducible (first|refine q_and ?_ ?_|exact True.intro|exact TkEq.nil _|refine Red.o (by constructor) ?_|refine blockK_o' rfl ?_|refine LoopX_e' rfl ?_|assumption)
  |((with_reducible apply q_CI);intro hbq;(try simp only [bq] at hbq);(try (exfalso;omega)))
  |refine Rex.o (by (with_reducible constructor);apply Eq.refl) ?_
  |(intro (hgq : (_ : Bool) = true);(try simp only [bq] at hgq))
  |(intro (hgq : (_ : Bool) = false);(try simp only [bq] at hgq))
  |((with_reducible apply q_VOk);exact fun _ => ⟨rfl,rfl⟩)|(intro _;exact rfl)|((with_reducible apply q_CRB);kernel_rfl)|((with_reducible apply q_bt);simp only [bq])|((with_reducible apply q_eqN);rfl)|((with_reducible apply q_FE);exact rfl)|with_reducible (first|exact isByte_wrap _|exact isByte_nat _)|(simp only [hgq,bq];done)|omega|(dsimp only;omega))
 ·rename_i c1
  refine W_loopS (fun k : Nat => SS [sC 2 (pB 0), sC 3 (pB 1), sI 6 i, sI 7 k] [bLay L, bRte st ov]) (fun k => k ≤ i ∧ ∀ j, j < k → (st.getD j st0).sec ≠ (st.getD (i : Int).toNat st0).sec) (fun k => i - k) 0 ?_ ⟨by omega, fun j hj => by omega⟩ ?_
  ·
   refine X_weak rfl rfl rfl ?_ ?_ <;> repeat' (first|with_reducible (first|refine Wk.o (by constructor) ?_|refine q_and ?_ ?_|exact True.intro)|refine q_AgS rfl ?_ ?_|exact CLe.nil_tipS|exact CLe.nil_rowS|refine HLe.cells ?_ ?_|refine HLe.els ?_ ?_|refine SLe.cons ?_ ?_|exact (rfl : known _ = _)|with_reducible rfl|omega)
  intro k hk
  obtain ⟨hk, hne⟩ := hk
  repeat' (first
   |with_reducible (first|refine q_and ?_ ?_|exact True.intro|exact TkEq.nil _|refine Red.o (by constructor) ?_|refine blockK_o' rfl ?_|refine LoopX_e' rfl ?_|assumption)
   |((with_reducible apply q_CI);intro hbq;(try simp only [bq] at hbq);(try (exfalso;omega)))
   |refine Rex.o (by (with_reducible constructor);apply Eq.refl) ?_
   |(intro (hgq : (_ : Bool) = true);(try simp only [bq] at hgq))
   |(intro (hgq : (_ : Bool) = false);(try simp only [bq] at hgq))
   |((with_reducible apply q_VOk);exact fun _ => ⟨rfl,rfl⟩)|(intro _;exact rfl)|((with_reducible apply q_CRB);kernel_rfl)|((with_reducible apply q_bt);simp only [bq])|((with_reducible apply q_eqN);rfl)|((with_reducible apply q_FE);exact rfl)|with_reducible (first|exact isByte_wrap _|exact isByte_nat _)|(simp only [hgq,bq];done)|omega|(dsimp only;omega))
  ·rw [rte_5 (r := ⟨st, ov⟩) b1 b2 b3 b4 (dup_yes (st := st) (i := i) (by omega) (dup_at (j := k) (by omega) (by omega) (by simpa using hbq)))]; rfl
  ·
   refine LoopK_n (k + 1) ?_ (⟨by omega, upto_succ hne (by simpa using hbq)⟩) (by (try dsimp only); omega)
   refine X_weak rfl rfl rfl ?_ ?_ <;> repeat' (first|with_reducible (first|refine Wk.o (by constructor) ?_|refine q_and ?_ ?_|exact True.intro)|refine q_AgS rfl ?_ ?_|exact CLe.nil_tipS|exact CLe.nil_rowS|refine HLe.cells ?_ ?_|refine HLe.els ?_ ?_|refine SLe.cons ?_ ?_|exact (rfl : known _ = _)|with_reducible rfl|omega)
  ·have hki : k = i := by omega
   subst hki
   refine LoopK_n (k + 1) ?_ (⟨by omega, upto_succ hno (dup_nat (by omega) (by simpa using hne))⟩) (by (try dsimp only); omega)
   refine X_weak rfl rfl rfl ?_ ?_ <;> repeat' (first|with_reducible (first|refine Wk.o (by constructor) ?_|refine q_and ?_ ?_|exact True.intro)|refine q_AgS rfl ?_ ?_|exact CLe.nil_tipS|exact CLe.nil_rowS|refine HLe.cells ?_ ?_|refine HLe.els ?_ ?_|refine SLe.cons ?_ ?_|exact (rfl : known _ = _)|with_reducible rfl|omega)
 have hie : i = st.length := by omega
 subst hie
 have b5 : dupB st = false := dup_no hno
 clear hno hi hbq
 refine W_loopS (fun i : Nat => SS [sC 2 (pB 0), sC 3 (pB 1), sI 8 (i + 1 : Nat)] [bLay L, bRte st ov]) (fun i => i ≤ st.length - 1 ∧ ∀ j, j < i → (linkAt L st j).isSome = true) (fun i => st.length - 1 - i) 0 ?_ ⟨by omega, fun j hj => by omega⟩ ?_
 ·
  refine X_weak rfl rfl rfl ?_ ?_ <;> repeat' (first|with_reducible (first|refine Wk.o (by constructor) ?_|refine q_and ?_ ?_|exact True.intro)|refine q_AgS rfl ?_ ?_|exact CLe.nil_tipS|exact CLe.nil_rowS|refine HLe.cells ?_ ?_|refine HLe.els ?_ ?_|refine SLe.cons ?_ ?_|exact (rfl : known _ = _)|with_reducible rfl|omega)
 intro i hi
 obtain ⟨hi, hno⟩ := hi
 have hJ := joined_ok L (st.getD (((i + 1 : Nat) : Int) - 1).toNat st0) (st.getD ((i + 1 : Nat) : Int).toNat st0) hV
 have e1 : (((i + 1 : Nat) : Int) - 1).toNat = i := by omega
 have e2 : joinL L (st.getD (((i + 1 : Nat) : Int) - 1).toNat st0) (st.getD ((i + 1 : Nat) : Int).toNat st0) = linkAt L st i := by rw [e1, Int.toNat_natCast]; rfl
 rw [e2] at hJ
 unfold vLay at hJ
 repeat' (first
  |with_reducible (first|refine q_and ?_ ?_|exact True.intro|exact TkEq.nil _|refine Red.o (by constructor) ?_|refine blockK_o' rfl ?_|refine LoopX_e' rfl ?_|assumption)
  |((with_reducible apply q_call);refine X_pure (hJ) rfl ?_)
  |((with_reducible apply q_CI);intro hbq;(try simp only [bq] at hbq);(try (exfalso;omega)))
  |refine Rex.o (by (with_reducible constructor);apply Eq.refl) ?_
  |(intro (hgq : (_ : Bool) = true);(try simp only [bq] at hgq))
  |(intro (hgq : (_ : Bool) = false);(try simp only [bq] at hgq))
  |((with_reducible apply q_VOk);exact fun _ => ⟨rfl,rfl⟩)|(intro _;exact rfl)|((with_reducible apply q_CRB);kernel_rfl)|((with_reducible apply q_bt);simp only [bq])|((with_reducible apply q_eqN);rfl)|((with_reducible apply q_FE);exact rfl)|with_reducible (first|exact isByte_wrap _|exact isByte_nat _)|(simp only [hgq,bq];done)|omega|(dsimp only;omega))
 ·rw [rte_11 (r := ⟨st, ov⟩) b1 b2 b3 b4 b5 (link_no (i := i) (by simp only; omega) hbq)]; rfl
 ·
  refine LoopK_n (i + 1) ?_ (⟨by omega, upto_succ hno hbq⟩) (by (try dsimp only); omega)
  refine X_weak rfl rfl rfl ?_ ?_ <;> repeat' (first|with_reducible (first|refine Wk.o (by constructor) ?_|refine q_and ?_ ?_|exact True.intro)|refine q_AgS rfl ?_ ?_|exact CLe.nil_tipS|exact CLe.nil_rowS|refine HLe.cells ?_ ?_|refine HLe.els ?_ ?_|refine SLe.cons ?_ ?_|exact (rfl : known _ = _)|with_reducible rfl|omega)
 ·rw [rte_0 (r := ⟨st, ov⟩) b1 b2 b3 b4 b5 (link_yes fun j hj => hno j (by simp only at hj; omega))]; rfl
abbrev secA (L : Lay) (s : Stp) : Sec := L.secs.getD s.sec.toNat sec0
def celOf (L : Lay) (s : Stp) : Int × Int := ((secA L s).lim, if s.dir = 1 then -(secA L s).grd else (secA L s).grd)
def celsOf (L : Lay) (s : Stp) : List (Int × Int) := List.replicate (secA L s).len.toNat (celOf L s)
def celL (L : Lay) (l : List Stp) : List (Int × Int) := l.flatMap (celsOf L)
def trv (r : Rte) : List Stp := r.st.take ((r.st.length : Int) - r.ov).toNat
def celErr (L : Lay) (r : Rte) : Int := if rteErr L r ≠ 0 then rteErr L r else if 4000 < (celL L (trv r)).length then 7 else 0
def celOut (L : Lay) (r : Rte) : List (Int × Int) := if celErr L r = 0 then celL L (trv r) else []
def celOne (L : Lay) (r : Rte) : Int := if celErr L r = 0 then (secA L (r.st.getD 0 st0)).len else 0
theorem celErr_1 {L : Lay} {r : Rte} (h : ¬ rteErr L r = 0) : celErr L r = rteErr L r := if_pos h
theorem celErr_7 {L : Lay} {r : Rte} (h : rteErr L r = 0) (h2 : 4000 < (celL L (trv r)).length) : celErr L r = 7 := by unfold celErr; rw [if_neg (by simpa using h), if_pos h2]
theorem celErr_0 {L : Lay} {r : Rte} (h : rteErr L r = 0) (h2 : ¬ 4000 < (celL L (trv r)).length) : celErr L r = 0 := by unfold celErr; rw [if_neg (by simpa using h), if_neg h2]
theorem celL_snoc (L : Lay) {l : List Stp} {i : Nat} (h : i < l.length) : celL L (l.take (i + 1)) = celL L (l.take i) ++ celsOf L (l.getD i st0) := by
 unfold celL
 rw [take_snoc h, List.flatMap_append]
 simp
theorem sec_of {L : Lay} (hV : Valid L) {i : Nat} (h : i < L.secs.length) : secB L.sts.length (L.secs.getD i sec0) = true := by
 rw [List.getD_eq_getElem?_getD, List.getElem?_eq_getElem h]
 exact (hV.v3 _ (List.getElem_mem h)).2
theorem celL_len {L : Lay} (hV : Valid L) : ∀ {l : List Stp}, l.all (Stp.ok L) = true → (celL L l).length ≤ 400 * l.length
 | [], _ => Nat.le_refl _
 | s :: l, h => by
  rw [List.all_cons, Bool.and_eq_true] at h
  have ih := celL_len hV h.2
  obtain ⟨a, b, _⟩ := ok_dir h.1
  have h2 := secB_of (sec_of hV (i := s.sec.toNat) (by omega))
  have : (celsOf L s).length ≤ 400 := by unfold celsOf secA; rw [List.length_replicate]; omega
  unfold celL at ih ⊢
  rw [List.flatMap_cons, List.length_append, List.length_cons]
  omega
theorem all_take {L : Lay} {l : List Stp} (h : l.all (Stp.ok L) = true) (n : Nat) : (l.take n).all (Stp.ok L) = true := by
 rw [List.all_eq_true] at h ⊢
 exact fun x hx => h x (List.mem_of_mem_take hx)
theorem refCells_ok (L : Lay) (hL : LayFits L) (st : List Stp) (ov : Int) (hl : st.length ≤ 9223372036854775807) (ho : -9223372036854775808 ≤ ov ∧ ov ≤ 9223372036854775807) : OkV Tryz.prog 7 [vLay L, .agg [rStp st, xI ov]] [] (.tup [.c (rCell (celOut L ⟨st, ov⟩)), .c (xI (celOne L ⟨st, ov⟩)), .c (xI (celErr L ⟨st, ov⟩))]) [] := by
 have hC := refRte_ok L hL st ov hl ho
 unfold celOut celOne
 unfold vLay at hC ⊢
 refine X_fn mixedX Tryz.func7 rfl (by kernel_rfl) (Nat.le_of_ble_eq_true (by kernel_rfl)) (by kernel_rfl) rfl rfl (Nat.le_of_ble_eq_true rfl) rfl rfl ?_
 simp only [sl0, Nat.zero_add, Nat.reduceAdd]
 repeat' (first
  |with_reducible (first|refine q_and ?_ ?_|exact True.intro|exact TkEq.nil _|refine Red.o (by constructor) ?_|refine blockK_o' rfl ?_|refine LoopX_e' rfl ?_|assumption)
  |((with_reducible apply q_call);refine X_pure (hC) rfl ?_)
  |((with_reducible apply q_CI);intro hbq;(try simp only [bq] at hbq);(try (exfalso;omega)))
  |refine Rex.o (by (with_reducible constructor);apply Eq.refl) ?_
  |(intro (hgq : (_ : Bool) = true);(try simp only [bq] at hgq))
  |(intro (hgq : (_ : Bool) = false);(try simp only [bq] at hgq))
  |((with_reducible apply q_VOk);exact fun _ => ⟨rfl,rfl⟩)|(intro _;exact rfl)|((with_reducible apply q_CRB);kernel_rfl)|((with_reducible apply q_bt);simp only [bq])|((with_reducible apply q_eqN);rfl)|((with_reducible apply q_FE);exact rfl)|with_reducible (first|exact isByte_wrap _|exact isByte_nat _)|(simp only [hgq,bq];done)|omega|(dsimp only;omega))
 ·rw [celErr_1 hbq, if_neg hbq, if_neg hbq]; rfl
 clear hC
 have hr := rte_of (L := L) (r := ⟨st, ov⟩) (by omega)
 obtain ⟨r1, r2, r3, r4, r5, r6, r7, r8⟩ := hr
 simp only at r1 r2 r3 r4 r5 r6 r7 r8
 have hV := valid_of r1
 have hn3 := hV.n3
 refine W_loopS (fun i : Nat => SS [sC 2 (pB 0), sC 3 (pB 1), sC 8 (tCell (celL L (st.take i))), sI 9 i] [bLay L, bRte st ov]) (fun i => (i : Int) ≤ st.length - ov) (fun i => st.length - i) 0 ?_ (by omega) ?_
 ·
  refine X_weak rfl rfl rfl ?_ ?_ <;> repeat' (first|with_reducible (first|refine Wk.o (by constructor) ?_|refine q_and ?_ ?_|exact True.intro)|refine q_AgS rfl ?_ ?_|exact CLe.nil_tipS|exact CLe.nil_rowS|refine HLe.cells ?_ ?_|refine HLe.els ?_ ?_|refine SLe.cons ?_ ?_|exact (rfl : known _ = _)|with_reducible rfl|omega)
  all_goals rfl
 intro i hi
 have hsec : (i : Int) < st.length - ov → (0 ≤ (st.getD (i : Int).toNat { sec := 0, dir := 0 }).sec ∧ (st.getD (i : Int).toNat { sec := 0, dir := 0 }).sec < L.secs.length) ∧ ((L.secs.getD (st.getD (i : Int).toNat { sec := 0, dir := 0 }).sec.toNat sec0).len ≤ 400 ∧ 1 ≤ (L.secs.getD (st.getD (i : Int).toNat { sec := 0, dir := 0 }).sec.toNat sec0).len) ∧ (-40 ≤ (L.secs.getD (st.getD (i : Int).toNat { sec := 0, dir := 0 }).sec.toNat sec0).grd ∧ (L.secs.getD (st.getD (i : Int).toNat { sec := 0, dir := 0 }).sec.toNat sec0).grd ≤ 40) := fun h => by
  obtain ⟨x, y, _⟩ := ok_dir (all_at (i := i) r6 (by omega))
  rw [Int.toNat_natCast]
  have h2 := secB_of (sec_of hV (i := (st.getD i st0).sec.toNat) (by omega))
  exact ⟨⟨x, y⟩, ⟨h2.2.1, h2.1⟩, h2.2.2.2.2.1, h2.2.2.2.2.2.1⟩
 have hs0 : 0 ≤ (st.getD (Int.toNat 0) { sec := 0, dir := 0 }).sec ∧ (st.getD (Int.toNat 0) { sec := 0, dir := 0 }).sec < L.secs.length := by
  obtain ⟨x, y, _⟩ := ok_dir (all_at (i := 0) r6 (by omega))
  exact ⟨x, y⟩
 have hcl := celL_len hV (all_take r6 i)
 rw [List.length_take] at hcl
 repeat' (first
  |with_reducible (first|refine q_and ?_ ?_|exact True.intro|exact TkEq.nil _|refine Red.o (by constructor) ?_|refine blockK_o' rfl ?_|refine LoopX_e' rfl ?_|assumption)
  |((with_reducible apply q_CI);intro hbq;(try simp only [bq] at hbq);(try (exfalso;omega)))
  |refine Rex.o (by (with_reducible constructor);apply Eq.refl) ?_
  |(intro (hgq : (_ : Bool) = true);(try simp only [bq] at hgq))
  |(intro (hgq : (_ : Bool) = false);(try simp only [bq] at hgq))
  |((with_reducible apply q_VOk);exact fun _ => ⟨rfl,rfl⟩)|(intro _;exact rfl)|((with_reducible apply q_CRB);kernel_rfl)|((with_reducible apply q_bt);simp only [bq])|((with_reducible apply q_eqN);rfl)|((with_reducible apply q_FE);exact rfl)|with_reducible (first|exact isByte_wrap _|exact isByte_nat _)|(simp only [hgq,bq];done)|omega|(dsimp only;omega))
 ·rename_i c1
  generalize hS : L.secs.getD (st.getD (i : Int).toNat { sec := 0, dir := 0 }).sec.toNat sec0 = S at *
  have hc : celsOf L (st.getD (i : Int).toNat { sec := 0, dir := 0 }) = List.replicate S.len.toNat (S.lim, (-S.grd)) := by
   unfold celsOf celOf secA
   rw [hS]
   first | rw [if_pos hbq] | rw [if_neg hbq]
  have hs := (hsec c1).2
  clear hsec
  refine W_loopS (fun k : Nat => SS [sC 2 (pB 0), sC 3 (pB 1), sC 8 (tCell (celL L (st.take i) ++ List.replicate k (S.lim, (-S.grd)))), sI 9 i, sC 10 (pB 2), sI 11 (-S.grd), sI 12 k] [bLay L, bRte st ov, some (.cells [xS S.nm, xI S.len, xI S.lim, xI S.grd, xI S.stn])]) (fun k => k ≤ S.len) (fun k => S.len.toNat - k) 0 ?_ (by omega) ?_
  ·
   refine X_weak rfl rfl rfl ?_ ?_ <;> repeat' (first|with_reducible (first|refine Wk.o (by constructor) ?_|refine q_and ?_ ?_|exact True.intro)|refine q_AgS rfl ?_ ?_|exact CLe.nil_tipS|exact CLe.nil_rowS|refine HLe.cells ?_ ?_|refine HLe.els ?_ ?_|refine SLe.cons ?_ ?_|exact (rfl : known _ = _)|with_reducible rfl|omega)
   all_goals simp
  intro k hk
  have hkn : (celL L (st.take i) ++ List.replicate k (S.lim, (-S.grd))).length ≤ 20000 := by rw [List.length_append, List.length_replicate]; omega
  repeat' (first
   |with_reducible (first|refine q_and ?_ ?_|exact True.intro|exact TkEq.nil _|refine Red.o (by constructor) ?_|refine blockK_o' rfl ?_|refine LoopX_e' rfl ?_|assumption)
   |((with_reducible apply q_CI);intro hbq;(try simp only [bq] at hbq);(try (exfalso;omega)))
   |refine Rex.o (by (with_reducible constructor);apply Eq.refl) ?_
   |(intro (hgq : (_ : Bool) = true);(try simp only [bq] at hgq))
   |(intro (hgq : (_ : Bool) = false);(try simp only [bq] at hgq))
   |((with_reducible apply q_VOk);exact fun _ => ⟨rfl,rfl⟩)|(intro _;exact rfl)|((with_reducible apply q_CRB);kernel_rfl)|((with_reducible apply q_bt);simp only [bq])|((with_reducible apply q_eqN);rfl)|((with_reducible apply q_FE);exact rfl)|with_reducible (first|exact isByte_wrap _|exact isByte_nat _)|(simp only [hgq,bq];done)|omega|(dsimp only;omega))
  ·
   refine LoopK_n (k + 1) ?_ ((by omega)) (by (try dsimp only); omega)
   refine X_weak rfl rfl rfl ?_ ?_ <;> repeat' (first|with_reducible (first|refine Wk.o (by constructor) ?_|refine q_and ?_ ?_|exact True.intro)|refine q_AgS rfl ?_ ?_|exact CLe.nil_tipS|exact CLe.nil_rowS|refine HLe.cells ?_ ?_|refine HLe.els ?_ ?_|refine SLe.cons ?_ ?_|exact (rfl : known _ = _)|with_reducible rfl|omega)
   all_goals (rw [List.replicate_succ', ← List.append_assoc]; simp [fCell, fI, Nat.add_assoc])
  ·have hkl : k = S.len.toNat := by omega
   subst hkl
   refine LoopK_n (i + 1) ?_ ((by omega)) (by (try dsimp only); omega)
   refine X_weak rfl rfl rfl ?_ ?_ <;> repeat' (first|with_reducible (first|refine Wk.o (by constructor) ?_|refine q_and ?_ ?_|exact True.intro)|refine q_AgS rfl ?_ ?_|exact CLe.nil_tipS|exact CLe.nil_rowS|refine HLe.cells ?_ ?_|refine HLe.els ?_ ?_|refine SLe.cons ?_ ?_|exact (rfl : known _ = _)|with_reducible rfl|omega)
   all_goals (rw [celL_snoc L (by omega), ← hc]; try rfl)
 ·rename_i c1
  generalize hS : L.secs.getD (st.getD (i : Int).toNat { sec := 0, dir := 0 }).sec.toNat sec0 = S at *
  have hc : celsOf L (st.getD (i : Int).toNat { sec := 0, dir := 0 }) = List.replicate S.len.toNat (S.lim, S.grd) := by
   unfold celsOf celOf secA
   rw [hS]
   first | rw [if_pos hbq] | rw [if_neg hbq]
  have hs := (hsec c1).2
  clear hsec
  refine W_loopS (fun k : Nat => SS [sC 2 (pB 0), sC 3 (pB 1), sC 8 (tCell (celL L (st.take i) ++ List.replicate k (S.lim, S.grd))), sI 9 i, sC 10 (pB 2), sI 11 S.grd, sI 12 k] [bLay L, bRte st ov, some (.cells [xS S.nm, xI S.len, xI S.lim, xI S.grd, xI S.stn])]) (fun k => k ≤ S.len) (fun k => S.len.toNat - k) 0 ?_ (by omega) ?_
  ·
   refine X_weak rfl rfl rfl ?_ ?_ <;> repeat' (first|with_reducible (first|refine Wk.o (by constructor) ?_|refine q_and ?_ ?_|exact True.intro)|refine q_AgS rfl ?_ ?_|exact CLe.nil_tipS|exact CLe.nil_rowS|refine HLe.cells ?_ ?_|refine HLe.els ?_ ?_|refine SLe.cons ?_ ?_|exact (rfl : known _ = _)|with_reducible rfl|omega)
   all_goals simp
  intro k hk
  have hkn : (celL L (st.take i) ++ List.replicate k (S.lim, S.grd)).length ≤ 20000 := by rw [List.length_append, List.length_replicate]; omega
  repeat' (first
   |with_reducible (first|refine q_and ?_ ?_|exact True.intro|exact TkEq.nil _|refine Red.o (by constructor) ?_|refine blockK_o' rfl ?_|refine LoopX_e' rfl ?_|assumption)
   |((with_reducible apply q_CI);intro hbq;(try simp only [bq] at hbq);(try (exfalso;omega)))
   |refine Rex.o (by (with_reducible constructor);apply Eq.refl) ?_
   |(intro (hgq : (_ : Bool) = true);(try simp only [bq] at hgq))
   |(intro (hgq : (_ : Bool) = false);(try simp only [bq] at hgq))
   |((with_reducible apply q_VOk);exact fun _ => ⟨rfl,rfl⟩)|(intro _;exact rfl)|((with_reducible apply q_CRB);kernel_rfl)|((with_reducible apply q_bt);simp only [bq])|((with_reducible apply q_eqN);rfl)|((with_reducible apply q_FE);exact rfl)|with_reducible (first|exact isByte_wrap _|exact isByte_nat _)|(simp only [hgq,bq];done)|omega|(dsimp only;omega))
  ·
   refine LoopK_n (k + 1) ?_ ((by omega)) (by (try dsimp only); omega)
   refine X_weak rfl rfl rfl ?_ ?_ <;> repeat' (first|with_reducible (first|refine Wk.o (by constructor) ?_|refine q_and ?_ ?_|exact True.intro)|refine q_AgS rfl ?_ ?_|exact CLe.nil_tipS|exact CLe.nil_rowS|refine HLe.cells ?_ ?_|refine HLe.els ?_ ?_|refine SLe.cons ?_ ?_|exact (rfl : known _ = _)|with_reducible rfl|omega)
   all_goals (rw [List.replicate_succ', ← List.append_assoc]; simp [fCell, fI, Nat.add_assoc])
  ·have hkl : k = S.len.toNat := by omega
   subst hkl
   refine LoopK_n (i + 1) ?_ ((by omega)) (by (try dsimp only); omega)
   refine X_weak rfl rfl rfl ?_ ?_ <;> repeat' (first|with_reducible (first|refine Wk.o (by constructor) ?_|refine q_and ?_ ?_|exact True.intro)|refine q_AgS rfl ?_ ?_|exact CLe.nil_tipS|exact CLe.nil_rowS|refine HLe.cells ?_ ?_|refine HLe.els ?_ ?_|refine SLe.cons ?_ ?_|exact (rfl : known _ = _)|with_reducible rfl|omega)
   all_goals (rw [celL_snoc L (by omega), ← hc]; try rfl)
 ·have hie : i = ((st.length : Int) - ov).toNat := by omega
  subst hie
  rw [celErr_7 (r := ⟨st, ov⟩) (by omega) (by unfold trv; simp only; omega)]; rfl
 ·have hie : i = ((st.length : Int) - ov).toNat := by omega
  subst hie
  rw [celErr_0 (r := ⟨st, ov⟩) (by omega) (by unfold trv; simp only; omega)]; rfl
abbrev xU (n : Int) : SC := .c (.f (.v (.int .u64 n)))
theorem two_u {a b c d : Int} (h : a = c ∧ b = d) : (packS [ST.c (xU a), ST.c (xU b)]).den = (SV.tup [.c (xU c), .c (xU d)]).den := by
 rw [h.1, h.2]; rfl
theorem mul64_ok (n : Int) (h0 : 0 ≤ n) (h1 : n < 512) : OkV Tryz.prog 103 [.c (xU 1), .c (xU n)] [] (.tup [.c (xU 0), .c (xU n)]) [] := by
 refine X_fn mixedX Tryz.func103 rfl (by kernel_rfl) (Nat.le_of_ble_eq_true (by kernel_rfl)) (by kernel_rfl) rfl rfl (Nat.le_of_ble_eq_true rfl) rfl rfl ?_
 simp only [sl0, Nat.zero_add, Nat.reduceAdd]
 repeat' (first
  |with_reducible (first|refine q_and ?_ ?_|exact True.intro|exact TkEq.nil _|refine Red.o (by constructor) ?_|refine blockK_o' rfl ?_|refine LoopX_e' rfl ?_|assumption)
  |((with_reducible apply q_CI);intro hbq;(try simp only [bq] at hbq);(try (exfalso;omega)))
  |refine Rex.o (by (with_reducible constructor);apply Eq.refl) ?_
  |(intro (hgq : (_ : Bool) = true);(try simp only [bq] at hgq))
  |(intro (hgq : (_ : Bool) = false);(try simp only [bq] at hgq))
  |((with_reducible apply q_VOk);exact fun _ => ⟨rfl,rfl⟩)|(intro _;exact rfl)|((with_reducible apply q_CRB);kernel_rfl)|((with_reducible apply q_bt);simp only [bq])|((with_reducible apply q_eqN);rfl)|((with_reducible apply q_FE);exact rfl)|with_reducible (first|exact isByte_wrap _|exact isByte_nat _)|(simp only [hgq,bq];done)|omega|(dsimp only;omega))
 obtain ⟨m, rfl⟩ := Int.eq_ofNat_of_zero_le h0
 have h2 : m < 512 := by omega
 clear h0 h1
 apply two_u
 revert m
 decide +kernel
theorem mul_ok (n : Int) (h0 : 0 ≤ n) (h1 : n < 512) : OkV Tryz.prog 89 [.c (xU 1), .c (xU n)] [] (.tup [.c (xU 0), .c (xU n)]) [] := by
 have hM := mul64_ok n h0 h1
 refine X_fn mixedX Tryz.func89 rfl (by kernel_rfl) (Nat.le_of_ble_eq_true (by kernel_rfl)) (by kernel_rfl) rfl rfl (Nat.le_of_ble_eq_true rfl) rfl rfl ?_
 simp only [sl0, Nat.zero_add, Nat.reduceAdd]
 repeat' (first
  |with_reducible (first|refine q_and ?_ ?_|exact True.intro|exact TkEq.nil _|refine Red.o (by constructor) ?_|refine blockK_o' rfl ?_|refine LoopX_e' rfl ?_|assumption)
  |((with_reducible apply q_call);refine X_pure (hM) rfl ?_)
  |((with_reducible apply q_CI);intro hbq;(try simp only [bq] at hbq);(try (exfalso;omega)))
  |refine Rex.o (by (with_reducible constructor);apply Eq.refl) ?_
  |(intro (hgq : (_ : Bool) = true);(try simp only [bq] at hgq))
  |(intro (hgq : (_ : Bool) = false);(try simp only [bq] at hgq))
  |((with_reducible apply q_VOk);exact fun _ => ⟨rfl,rfl⟩)|(intro _;exact rfl)|((with_reducible apply q_CRB);kernel_rfl)|((with_reducible apply q_bt);simp only [bq])|((with_reducible apply q_eqN);rfl)|((with_reducible apply q_FE);exact rfl)|with_reducible (first|exact isByte_wrap _|exact isByte_nat _)|(simp only [hgq,bq];done)|omega|(dsimp only;omega))
 repeat' (first|with_reducible (first|refine Wk.o (by constructor) ?_|refine q_and ?_ ?_|exact True.intro)|refine VEq.c ?_|refine VEq.agg ?_|refine VEq.tup ?_|refine TkEq.cells ?_ ?_|refine TkEq.els ?_ ?_|refine SEqL.cons ?_ ?_|refine TEqL.agg ?_ ?_|refine CEq.rows ?_|refine CEq.int ?_|rfl|omega)
abbrev bCell (l : List (Int × Int)) : Option SB := some (.els 2 fCell vCell mCell (0, 0) l)
theorem u64_id (n : Int) (h0 : 0 ≤ n) (h1 : n < 512) : IntKind.u64.wrap n = n := by
 simp only [IntKind.wrap]
 simp [IntKind.bits, IntKind.signed]
 omega
def repK (c : Int × Int) (n k : Nat) : List (Int × Int) := List.replicate k c ++ List.replicate (n - k) (0, 0)
theorem rep_1 (c : Int × Int) (N : Nat) (h : 1 ≤ N) : spliceL (List.replicate N (0, 0)) (0 / 2) (List.take (min 1 N) [c]) = repK c N 1 := by
 rw [Nat.min_eq_left h]
 unfold spliceL repK
 simp
theorem rep_dbl (c : Int × Int) (N k : Nat) (h2 : k ≤ N) : spliceL (repK c N k) k ((repK c N k).take (min k (N - k))) = repK c N (k + min k (N - k)) := by
 have e : (repK c N k).take (min k (N - k)) = List.replicate (min k (N - k)) c := by
  unfold repK
  rw [List.take_append_of_le_length (by simp; omega), List.take_replicate]
  congr 1; omega
 rw [e]
 unfold spliceL repK
 rw [List.take_append_of_le_length (by simp), List.take_of_length_le (by simp), List.drop_append, List.drop_of_length_le (by simp), List.length_replicate, List.length_replicate, List.drop_replicate, List.nil_append, ← List.replicate_append_replicate]
 congr 2; omega
theorem repeat_ok (a b : Int) (n : Int) (h0 : 1 ≤ n) (h1 : n < 512) : OkV Tryz.prog 75 [.c (.c (.f (.row [fI a, fI b] 1))), .c (xI n)] [] (.c (rCell (List.replicate n.toNat (a, b)))) [] := by
 have e1 : IntKind.u64.wrap n = n := u64_id n (by omega) (by omega)
 have e2 : IntKind.u64.wrap ((1 : Nat) : Int) = 1 := u64_id 1 (by omega) (by omega)
 have hM : OkV Tryz.prog 89 [.c (xU (IntKind.u64.wrap ((1 : Nat) : Int))), .c (xU (IntKind.u64.wrap n))] [] (.tup [.c (xU 0), .c (xU n)]) [] := by
  rw [e1, e2]; exact mul_ok n (by omega) h1
 refine X_fnP mixedX Tryz.func75 rfl (by kernel_rfl) (Nat.le_of_ble_eq_true (by kernel_rfl)) (by kernel_rfl) rfl rfl ?_
 simp only [sl0, Nat.zero_add, Nat.reduceAdd]
 have hN : (n.toNat : Int) = n := by omega
 generalize n.toNat = N at hN ⊢
 subst hN
 have hrl : ∀ k, k ≤ N → (repK (a, b) N k).length = N := fun k hk => by unfold repK; simp; omega
 repeat' (first
  |with_reducible (first|refine q_and ?_ ?_|exact True.intro|exact TkEq.nil _|refine Red.o (by constructor) ?_|refine blockK_o' rfl ?_|refine LoopX_e' rfl ?_|assumption)
  |((with_reducible apply q_call);refine X_pure (hM) rfl ?_)
  |((with_reducible apply q_CI);intro hbq;(try simp only [bq] at hbq);(try (exfalso;omega)))
  |refine Rex.o (by (with_reducible constructor);apply Eq.refl) ?_
  |(intro (hgq : (_ : Bool) = true);(try simp only [bq] at hgq))
  |(intro (hgq : (_ : Bool) = false);(try simp only [bq] at hgq))
  |((with_reducible apply q_VOk);exact fun _ => ⟨rfl,rfl⟩)|(intro _;exact rfl)|((with_reducible apply q_CRB);kernel_rfl)|((with_reducible apply q_bt);simp only [bq])|((with_reducible apply q_eqN);rfl)|((with_reducible apply q_FE);exact rfl)|with_reducible (first|exact isByte_wrap _|exact isByte_nat _)|(simp only [hgq,bq];done)|omega|(dsimp only;omega))
 ·simp
 ·rfl
 refine W_loopS (fun k : Nat => SS [sI 8 k, sC 7 (.c (.arr 0 0 N N))] [bCell (repK (a, b) N k)]) (fun k => 1 ≤ k ∧ k ≤ N) (fun k => N - k) 1 ?_ (by omega) ?_
 ·
  refine X_weak rfl rfl rfl ?_ ?_ <;> repeat' (first|with_reducible (first|refine Wk.o (by constructor) ?_|refine q_and ?_ ?_|exact True.intro)|refine q_AgS rfl ?_ ?_|exact CLe.nil_tipS|exact CLe.nil_rowS|refine HLe.cells ?_ ?_|refine HLe.els ?_ ?_|refine SLe.cons ?_ ?_|exact (rfl : known _ = _)|with_reducible rfl|omega)
  all_goals first
   | exact rep_1 (a, b) N (by omega)
 intro k hk
 have hrk := hrl k hk.2
 repeat' (first
  |with_reducible (first|refine q_and ?_ ?_|exact True.intro|exact TkEq.nil _|refine Red.o (by constructor) ?_|refine blockK_o' rfl ?_|refine LoopX_e' rfl ?_|assumption)
  |((with_reducible apply q_CI);intro hbq;(try simp only [bq] at hbq);(try (exfalso;omega)))
  |refine Rex.o (by (with_reducible constructor);apply Eq.refl) ?_
  |(intro (hgq : (_ : Bool) = true);(try simp only [bq] at hgq))
  |(intro (hgq : (_ : Bool) = false);(try simp only [bq] at hgq))
  |((with_reducible apply q_VOk);exact fun _ => ⟨rfl,rfl⟩)|(intro _;exact rfl)|((with_reducible apply q_CRB);kernel_rfl)|((with_reducible apply q_bt);simp only [bq])|((with_reducible apply q_eqN);rfl)|((with_reducible apply q_FE);exact rfl)|with_reducible (first|exact isByte_wrap _|exact isByte_nat _)|(simp only [hgq,bq];done)|omega|(dsimp only;omega))
 ·
  refine LoopK_n (k + min k (N - k)) ?_ ((by omega)) (by (try dsimp only); omega)
  refine X_weak rfl rfl rfl ?_ ?_ <;> repeat' (first|with_reducible (first|refine Wk.o (by constructor) ?_|refine q_and ?_ ?_|exact True.intro)|refine q_AgS rfl ?_ ?_|exact CLe.nil_tipS|exact CLe.nil_rowS|refine HLe.cells ?_ ?_|refine HLe.els ?_ ?_|refine SLe.cons ?_ ?_|exact (rfl : known _ = _)|with_reducible rfl|omega)
  all_goals (rw [show ((k : Int).toNat : Nat) = k from rfl, show ((N : Int) - (k : Int)).toNat = N - k by omega]; first | (rw [Nat.zero_add, Nat.mul_div_cancel k (by decide : 0 < 2)]; exact rep_dbl (a, b) N k hk.2))
 have hkN : k = N := by omega
 subst hkN
 rw [show repK (a, b) k k = List.replicate k (a, b) by unfold repK; simp]
 rfl
theorem cells_ok (L : Lay) (hL : LayFits L) (st : List Stp) (ov : Int) (hl : st.length ≤ 9223372036854775807) (ho : -9223372036854775808 ≤ ov ∧ ov ≤ 9223372036854775807) : OkV Tryz.prog 61 [vLay L, .agg [rStp st, xI ov]] [] (.tup [.c (rCell (celOut L ⟨st, ov⟩)), .c (xI (celOne L ⟨st, ov⟩)), .c (xI (celErr L ⟨st, ov⟩))]) [] := by
 have hC := rteCheck_ok L hL st ov hl ho
 have hR : rteErr L { st := st, ov := ov } = 0 → ov ≤ 2 ∧ 0 ≤ ov ∧ ov + 2 ≤ st.length := fun h => by
  have hr := rte_of h
  exact ⟨hr.ov, hr.ov0, hr.two⟩
 unfold celOut celOne
 unfold vLay at hC ⊢
 refine X_fn mixedX Tryz.func61 rfl (by kernel_rfl) (Nat.le_of_ble_eq_true (by kernel_rfl)) (by kernel_rfl) rfl rfl (Nat.le_of_ble_eq_true rfl) rfl rfl ?_
 simp only [sl0, Nat.zero_add, Nat.reduceAdd]
 repeat' (first
  |with_reducible (first|refine q_and ?_ ?_|exact True.intro|exact TkEq.nil _|refine Red.o (by constructor) ?_|refine blockK_o' rfl ?_|refine LoopX_e' rfl ?_|assumption)
  |((with_reducible apply q_call);refine X_pure (hC) rfl ?_)
  |((with_reducible apply q_CI);intro hbq;(try simp only [bq] at hbq);(try (exfalso;omega)))
  |refine Rex.o (by (with_reducible constructor);apply Eq.refl) ?_
  |(intro (hgq : (_ : Bool) = true);(try simp only [bq] at hgq))
  |(intro (hgq : (_ : Bool) = false);(try simp only [bq] at hgq))
  |((with_reducible apply q_VOk);exact fun _ => ⟨rfl,rfl⟩)|(intro _;exact rfl)|((with_reducible apply q_CRB);kernel_rfl)|((with_reducible apply q_bt);simp only [bq])|((with_reducible apply q_eqN);rfl)|((with_reducible apply q_FE);exact rfl)|with_reducible (first|exact isByte_wrap _|exact isByte_nat _)|(simp only [hgq,bq];done)|omega|(dsimp only;omega))
 ·rw [celErr_1 hbq, if_neg hbq, if_neg hbq]; rfl
 clear hC
 have hr := rte_of (L := L) (r := ⟨st, ov⟩) (by omega)
 obtain ⟨r1, r2, r3, r4, r5, r6, r7, r8⟩ := hr
 simp only at r1 r2 r3 r4 r5 r6 r7 r8
 have hV := valid_of r1
 have hn3 := hV.n3
 have htl : (st.take ((st.length : Int) - ov).toNat).length = ((st.length : Int) - ov).toNat := by rw [List.length_take]; omega
 refine W_loopS (fun i : Nat => SS [sC 2 (pB 0), sC 3 (pB 1), sC 8 (tCell (celL L (st.take i))), sC 27 (rStp (st.take ((st.length : Int) - ov).toNat)), sI 28 (st.length - ov), sI 29 i] [bLay L, bRte st ov]) (fun i => (i : Int) ≤ st.length - ov) (fun i => st.length - i) 0 ?_ (by omega) ?_
 ·
  refine X_weak rfl rfl rfl ?_ ?_ <;> repeat' (first|with_reducible (first|refine Wk.o (by constructor) ?_|refine q_and ?_ ?_|exact True.intro)|refine q_AgS rfl ?_ ?_|exact CLe.nil_tipS|exact CLe.nil_rowS|refine HLe.cells ?_ ?_|refine HLe.els ?_ ?_|refine SLe.cons ?_ ?_|exact (rfl : known _ = _)|with_reducible rfl|omega)
 intro i hi
 have hg : (i : Int) < st.length - ov → (st.take ((st.length : Int) - ov).toNat).getD (i : Int).toNat { sec := 0, dir := 0 } = st.getD (i : Int).toNat { sec := 0, dir := 0 } := fun h => by
  rw [List.getD_eq_getElem?_getD, List.getD_eq_getElem?_getD, List.getElem?_take_of_lt (by omega)]
 have hcl := celL_len hV (all_take r6 i)
 rw [List.length_take] at hcl
 have hs0 : 0 ≤ (st.getD (Int.toNat 0) { sec := 0, dir := 0 }).sec ∧ (st.getD (Int.toNat 0) { sec := 0, dir := 0 }).sec < L.secs.length := by
  obtain ⟨x, y, _⟩ := ok_dir (all_at (i := 0) r6 (by omega))
  exact ⟨x, y⟩
 have hsec : (i : Int) < st.length - ov → (0 ≤ ((st.take ((st.length : Int) - ov).toNat).getD (i : Int).toNat { sec := 0, dir := 0 }).sec ∧ ((st.take ((st.length : Int) - ov).toNat).getD (i : Int).toNat { sec := 0, dir := 0 }).sec < L.secs.length) ∧ (1 ≤ (L.secs.getD ((st.take ((st.length : Int) - ov).toNat).getD (i : Int).toNat { sec := 0, dir := 0 }).sec.toNat sec0).len ∧ (L.secs.getD ((st.take ((st.length : Int) - ov).toNat).getD (i : Int).toNat { sec := 0, dir := 0 }).sec.toNat sec0).len < 512) ∧ (-40 ≤ (L.secs.getD ((st.take ((st.length : Int) - ov).toNat).getD (i : Int).toNat { sec := 0, dir := 0 }).sec.toNat sec0).grd ∧ (L.secs.getD ((st.take ((st.length : Int) - ov).toNat).getD (i : Int).toNat { sec := 0, dir := 0 }).sec.toNat sec0).grd ≤ 40) := fun h => by
  rw [hg h]
  obtain ⟨x, y, _⟩ := ok_dir (all_at (i := i) r6 (by omega))
  rw [Int.toNat_natCast]
  have h2 := secB_of (sec_of hV (i := (st.getD i st0).sec.toNat) (by omega))
  exact ⟨⟨x, y⟩, ⟨h2.1, Int.lt_of_le_of_lt h2.2.1 (by decide)⟩, h2.2.2.2.2.1, h2.2.2.2.2.2.1⟩
 generalize hT : (st.take ((st.length : Int) - ov).toNat).getD (i : Int).toNat { sec := 0, dir := 0 } = t at *
 by_cases hlt : (i : Int) < st.length - ov
 ·have hX1 := repeat_ok (L.secs.getD t.sec.toNat sec0).lim (-(L.secs.getD t.sec.toNat sec0).grd) (L.secs.getD t.sec.toNat sec0).len (hsec hlt).2.1.1 (hsec hlt).2.1.2
  have hX2 := repeat_ok (L.secs.getD t.sec.toNat sec0).lim (L.secs.getD t.sec.toNat sec0).grd (L.secs.getD t.sec.toNat sec0).len (hsec hlt).2.1.1 (hsec hlt).2.1.2
  subst hT
  repeat' (first
   |with_reducible (first|refine q_and ?_ ?_|exact True.intro|exact TkEq.nil _|refine Red.o (by constructor) ?_|refine blockK_o' rfl ?_|refine LoopX_e' rfl ?_|assumption)
   |((with_reducible apply q_call);first|refine X_pure (hX1) rfl ?_|refine X_pure (hX2) rfl ?_)
   |((with_reducible apply q_CI);intro hbq;(try simp only [bq] at hbq);(try (exfalso;omega)))
   |refine Rex.o (by (with_reducible constructor);apply Eq.refl) ?_
   |(intro (hgq : (_ : Bool) = true);(try simp only [bq] at hgq))
   |(intro (hgq : (_ : Bool) = false);(try simp only [bq] at hgq))
   |((with_reducible apply q_VOk);exact fun _ => ⟨rfl,rfl⟩)|(intro _;exact rfl)|((with_reducible apply q_CRB);kernel_rfl)|((with_reducible apply q_bt);simp only [bq])|((with_reducible apply q_eqN);rfl)|((with_reducible apply q_FE);exact rfl)|with_reducible (first|exact isByte_wrap _|exact isByte_nat _)|(simp only [hgq,bq];done)|omega|(dsimp only;omega))
  all_goals (try (exfalso; omega))
  all_goals (try (rw [List.length_replicate]; have := (hsec hlt).2.1; omega))
  ·generalize hSA : secA L (st.getD i st0) = SA
   have hc : celsOf L (st.getD i st0) = List.replicate SA.len.toNat (SA.lim, (-(SA).grd)) := by
    unfold celsOf celOf
    rw [if_pos (by rw [hg hlt, Int.toNat_natCast] at hbq; exact hbq), hSA]
   rw [hg hlt, Int.toNat_natCast]
   refine LoopK_n (i + 1) ?_ ((by omega)) (by (try dsimp only); omega)
   refine X_weak rfl rfl rfl ?_ ?_ <;> repeat' (first|with_reducible (first|refine Wk.o (by constructor) ?_|refine q_and ?_ ?_|exact True.intro)|refine q_AgS rfl ?_ ?_|exact CLe.nil_tipS|exact CLe.nil_rowS|refine HLe.cells ?_ ?_|refine HLe.els ?_ ?_|refine SLe.cons ?_ ?_|exact (rfl : known _ = _)|with_reducible rfl|omega)
   all_goals (rw [celL_snoc L (by omega), hc]; unfold secA at hSA; rw [hSA]; simp)
  ·generalize hSA : secA L (st.getD i st0) = SA
   have hc : celsOf L (st.getD i st0) = List.replicate SA.len.toNat (SA.lim, (SA).grd) := by
    unfold celsOf celOf
    rw [if_neg (by rw [hg hlt, Int.toNat_natCast] at hbq; exact hbq), hSA]
   rw [hg hlt, Int.toNat_natCast]
   refine LoopK_n (i + 1) ?_ ((by omega)) (by (try dsimp only); omega)
   refine X_weak rfl rfl rfl ?_ ?_ <;> repeat' (first|with_reducible (first|refine Wk.o (by constructor) ?_|refine q_and ?_ ?_|exact True.intro)|refine q_AgS rfl ?_ ?_|exact CLe.nil_tipS|exact CLe.nil_rowS|refine HLe.cells ?_ ?_|refine HLe.els ?_ ?_|refine SLe.cons ?_ ?_|exact (rfl : known _ = _)|with_reducible rfl|omega)
   all_goals (rw [celL_snoc L (by omega), hc]; unfold secA at hSA; rw [hSA]; simp)
 ·subst hT
  repeat' (first
   |with_reducible (first|refine q_and ?_ ?_|exact True.intro|exact TkEq.nil _|refine Red.o (by constructor) ?_|refine blockK_o' rfl ?_|refine LoopX_e' rfl ?_|assumption)
   |((with_reducible apply q_CI);intro hbq;(try simp only [bq] at hbq);(try (exfalso;omega)))
   |refine Rex.o (by (with_reducible constructor);apply Eq.refl) ?_
   |(intro (hgq : (_ : Bool) = true);(try simp only [bq] at hgq))
   |(intro (hgq : (_ : Bool) = false);(try simp only [bq] at hgq))
   |((with_reducible apply q_VOk);exact fun _ => ⟨rfl,rfl⟩)|(intro _;exact rfl)|((with_reducible apply q_CRB);kernel_rfl)|((with_reducible apply q_bt);simp only [bq])|((with_reducible apply q_eqN);rfl)|((with_reducible apply q_FE);exact rfl)|with_reducible (first|exact isByte_wrap _|exact isByte_nat _)|(simp only [hgq,bq];done)|omega|(dsimp only;omega))
  all_goals (try (exfalso; omega))
  ·have hie : i = ((st.length : Int) - ov).toNat := by omega
   subst hie
   rw [celErr_7 (r := ⟨st, ov⟩) (by omega) (by unfold trv; simp only; omega)]; rfl
  ·have hie : i = ((st.length : Int) - ov).toNat := by omega
   subst hie
   rw [celErr_0 (r := ⟨st, ov⟩) (by omega) (by unfold trv; simp only; omega)]; rfl
end Go.Proofs.YtbpeakgihhdocaaGreat.Av
namespace Go.Proofs.YtbpeakgihhdocaaGreat.Pl
theorem tmod_of_neg (a b : Int) (ha : a < 0) (hb : 1 ≤ b) :
  -b < a.tmod b ∧ a.tmod b ≤ 0 ∧ (a.tmod b < 0 → a.tmod b + b = a % b) ∧ (¬ a.tmod b < 0 → a.tmod b = a % b) := by
 have h1 := Int.emod_nonneg a (show b ≠ 0 by omega)
 have h2 := Int.emod_lt_of_pos a (show 0 < b by omega)
 have h3 := Int.tmod_eq_emod (a := a) (b := b)
 by_cases hd : b ∣ a
 ·have h4 : a % b = 0 := Int.emod_eq_zero_of_dvd hd
  rw [if_pos (Or.inr hd)] at h3
  omega
 ·have h4 : a % b ≠ 0 := fun h => hd (Int.dvd_of_emod_eq_zero h)
  rw [if_neg (by rintro (h | h); omega; exact hd h)] at h3
  omega
theorem tdiv_of_neg (a b : Int) (ha : a < 0) (hb : 1 ≤ b) :
  a ≤ a.tdiv b ∧ a.tdiv b ≤ 0 ∧ (a.tmod b < 0 → a < a.tdiv b ∧ a.tdiv b - 1 = a / b) ∧ (¬ a.tmod b < 0 → a.tdiv b = a / b) := by
 have h1 := Int.emod_nonneg a (show b ≠ 0 by omega)
 have h2 := Int.emod_lt_of_pos a (show 0 < b by omega)
 have h3 := Int.tmod_eq_emod (a := a) (b := b)
 have h5 := Int.tdiv_eq_ediv (a := a) (b := b)
 have e6 : a.tdiv b = -((-a) / b) := by
  have : a.tdiv b = -((-a).tdiv b) := by rw [Int.neg_tdiv]; omega
  rw [this, Int.tdiv_eq_ediv_of_nonneg (by omega)]
 have h7 : (-a) / b * b + (-a) % b = -a := Int.ediv_mul_add_emod (-a) b
 have h8 := Int.emod_nonneg (-a) (show b ≠ 0 by omega)
 have h9 : 0 ≤ (-a) / b := Int.ediv_nonneg (by omega) (by omega)
 have h10 : (-a) / b ≤ -a := Int.ediv_le_self b (by omega)
 have hs : b.sign = 1 := Int.sign_eq_one_of_pos (by omega)
 by_cases hd : b ∣ a
 ·have h4 : a % b = 0 := Int.emod_eq_zero_of_dvd hd
  rw [if_pos (Or.inr hd)] at h3 h5
  omega
 ·have h4 : a % b ≠ 0 := fun h => hd (Int.dvd_of_emod_eq_zero h)
  rw [if_neg (by rintro (h | h); omega; exact hd h)] at h3 h5
  rw [hs] at h5
  refine ⟨by omega, by omega, fun _ => ⟨?_, by omega⟩, by omega⟩
  have hb2 : 2 ≤ b := by
   rcases Int.lt_or_le 1 b with h | h
   ·omega
   ·obtain rfl : b = 1 := by omega
    exact absurd (Int.one_dvd a) hd
  have h11 : (-a) / b * 2 ≤ (-a) / b * b := Int.mul_le_mul_of_nonneg_left hb2 h9
  omega
def cdiv (a b : Int) : Int := -((-a) / b)
theorem cdiv_pos (a b : Int) (ha : 0 ≤ a) (hb : 1 ≤ b) (h : 0 < a % b) : cdiv a b = a / b + 1 := by
 unfold cdiv
 have h7 : a / b * b + a % b = a := Int.ediv_mul_add_emod a b
 have h2 := Int.emod_lt_of_pos a (show 0 < b by omega)
 have : -a / b = -(a / b) - 1 := by
  have h8 : -a = (b - a % b) + (-(a / b) - 1) * b := by rw [Int.sub_mul, Int.neg_mul]; omega
  rw [h8, Int.add_mul_ediv_right _ _ (by omega), Int.ediv_eq_zero_of_lt (by omega) (by omega)]
  omega
 omega
theorem cdiv_zero (a b : Int) (hb : 1 ≤ b) (h : a % b = 0) : cdiv a b = a / b := by
 unfold cdiv
 rw [Int.neg_ediv_of_dvd (Int.dvd_of_emod_eq_zero h)]; omega
theorem cdiv_neg (a b : Int) (ha : a < 0) (hb : 1 ≤ b) : cdiv a b = a.tdiv b := by
 unfold cdiv
 have : a.tdiv b = -((-a).tdiv b) := by rw [Int.neg_tdiv]; omega
 rw [this, Int.tdiv_eq_ediv_of_nonneg (by omega)]
theorem cdiv_bracket (a b : Int) (hb : 1 ≤ b) : a ≤ cdiv a b * b ∧ cdiv a b * b < a + b := by
 unfold cdiv
 have h7 : (-a) / b * b + (-a) % b = -a := Int.ediv_mul_add_emod (-a) b
 have h2 := Int.emod_lt_of_pos (-a) (show 0 < b by omega)
 have h1 := Int.emod_nonneg (-a) (show b ≠ 0 by omega)
 rw [Int.neg_mul]; omega
theorem ediv_le_self' (a b : Int) (ha : 0 ≤ a) (hb : 1 ≤ b) : 0 ≤ a / b ∧ a / b ≤ a := by
 exact ⟨Int.ediv_nonneg ha (by omega), Int.ediv_le_self b ha⟩
def isqrt : Nat → Nat
 | 0 => 0
 | n + 1 => if (isqrt n + 1) * (isqrt n + 1) ≤ n + 1 then isqrt n + 1 else isqrt n
theorem isqrt_spec (n : Nat) : isqrt n * isqrt n ≤ n ∧ n < (isqrt n + 1) * (isqrt n + 1) := by
 induction n with
 | zero => simp [isqrt]
 | succ n ih =>
  unfold isqrt
  split
  ·rename_i h
   refine ⟨h, ?_⟩
   have : (isqrt n + 1 + 1) * (isqrt n + 1 + 1) = (isqrt n + 1) * (isqrt n + 1) + 2 * (isqrt n + 1) + 1 := by
    simp [Nat.add_mul, Nat.mul_add]; omega
   omega
  ·omega
theorem isqrt_unique (n r : Nat) (h1 : r * r ≤ n) (h2 : n < (r + 1) * (r + 1)) : r = isqrt n := by
 obtain ⟨h3, h4⟩ := isqrt_spec n
 rcases Nat.lt_trichotomy r (isqrt n) with h | h | h
 ·have := Nat.mul_le_mul (show r + 1 ≤ isqrt n by omega) (show r + 1 ≤ isqrt n by omega); omega
 ·exact h
 ·have := Nat.mul_le_mul (show isqrt n + 1 ≤ r by omega) (show isqrt n + 1 ≤ r by omega); omega
theorem isqrt_mono {m n : Nat} (h : m ≤ n) : isqrt m ≤ isqrt n := by
 obtain ⟨h1, h2⟩ := isqrt_spec m
 obtain ⟨h3, h4⟩ := isqrt_spec n
 rcases Nat.lt_or_ge (isqrt n) (isqrt m) with h5 | h5
 ·have := Nat.mul_le_mul (show isqrt n + 1 ≤ isqrt m by omega) (show isqrt n + 1 ≤ isqrt m by omega); omega
 ·exact h5
end Go.Proofs.YtbpeakgihhdocaaGreat.Pl
namespace Go.Proofs.YtbpeakgihhdocaaGreat
def chkB (l sp ac br : Int) : Bool := decide (1 ≤ l ∧ l ≤ 40 ∧ 1000 ≤ sp ∧ sp ≤ 100000 ∧ 100 ≤ ac ∧ ac ≤ 2000 ∧ 100 ≤ br ∧ br ≤ 2000)
theorem chk_of {l sp ac br : Int} (h : chkB l sp ac br = true) : 1 ≤ l ∧ l ≤ 40 ∧ 1000 ≤ sp ∧ sp ≤ 100000 ∧ 100 ≤ ac ∧ ac ≤ 2000 ∧ 100 ≤ br ∧ br ≤ 2000 := by
 simpa [chkB] using h
def gainOf (g ac : Int) : Int := 20000 * (if 0 < g then max 50 (ac - 10 * g) else ac)
def lossOf (g br : Int) : Int := 20000 * (if g < 0 then max 50 (br + 10 * g) else br)
def cellB (c : Int × Int) : Bool := decide (1000 ≤ c.1 ∧ c.1 ≤ 100000 ∧ -40 ≤ c.2 ∧ c.2 ≤ 40)
theorem cell_of {c : Int × Int} (h : cellB c = true) : 1000 ≤ c.1 ∧ c.1 ≤ 100000 ∧ -40 ≤ c.2 ∧ c.2 ≤ 40 := by simpa [cellB] using h
theorem gain_range (g ac : Int) (h5 : 100 ≤ ac) (h6 : ac ≤ 2000) : 1000000 ≤ gainOf g ac ∧ gainOf g ac ≤ 40000000 := by unfold gainOf; split <;> omega
theorem loss_range (g br : Int) (h5 : 100 ≤ br) (h6 : br ≤ 2000) : 1000000 ≤ lossOf g br ∧ lossOf g br ≤ 40000000 := by unfold lossOf; split <;> omega
theorem getD_at {α : Type} (cs : List α) (d : α) {k : Nat} (h : k < cs.length) : cs.getD k d = cs[k] := by simp [List.getD, h]
def badRun (cs : List (Int × Int)) (start l sp ac br : Int) : Int :=
 if chkB l sp ac br = false then 1 else if 4000 < cs.length then 7 else if cs.all cellB = false then 4 else if start < 0 ∨ (cs.length : Int) - 2 < start then 4 else 0
def limitOf (cs : List (Int × Int)) (k l : Nat) (sp : Int) : Int := ((cs.take (k + 1)).drop (k - l)).foldl (fun m c => min m c.1) sp
def limTo (cs : List (Int × Int)) (lo j : Nat) (sp : Int) : Int := ((cs.drop lo).take j).foldl (fun m c => min m c.1) sp
theorem limTo_zero (cs : List (Int × Int)) (lo : Nat) (sp : Int) : limTo cs lo 0 sp = sp := by simp [limTo]
theorem limTo_succ (cs : List (Int × Int)) (lo j : Nat) (sp : Int) (h : lo + j < cs.length) : limTo cs lo (j + 1) sp = min (limTo cs lo j sp) (cs[lo + j]).1 := by
 unfold limTo
 rw [List.take_succ_eq_append_getElem (by simp; omega), List.foldl_append]
 simp
theorem limTo_all (cs : List (Int × Int)) (k l : Nat) (sp : Int) : limTo cs (k - l) (k + 1 - (k - l)) sp = limitOf cs k l sp := by
 unfold limTo limitOf
 rw [List.drop_take]
def fwd (cs : List (Int × Int)) (start l : Nat) (sp ac : Int) : Nat → Int
 | 0 => 0
 | j + 1 => min (min (limitOf cs (start + j) l sp) (limitOf cs (start + j + 1) l sp) * min (limitOf cs (start + j) l sp) (limitOf cs (start + j + 1) l sp)) (fwd cs start l sp ac j + gainOf (cs.getD (start + j) (0, 0)).2 ac)
def bwd (cs : List (Int × Int)) (start l : Nat) (sp ac br : Int) : Nat → Int
 | 0 => 0
 | d + 1 => min (fwd cs start l sp ac (cs.length - start - (d + 1))) (bwd cs start l sp ac br d + lossOf (cs.getD (cs.length - (d + 1)) (0, 0)).2 br)
def sqW (cs : List (Int × Int)) (start l : Nat) (sp ac br : Int) (j : Nat) : Int := if j = 0 then 0 else bwd cs start l sp ac br (cs.length - start - j)
theorem foldl_min_range (L : List (Int × Int)) (sp lo hi : Int) (h1 : lo ≤ sp) (h2 : sp ≤ hi) (h : ∀ c ∈ L, lo ≤ c.1) : lo ≤ L.foldl (fun m c => min m c.1) sp ∧ L.foldl (fun m c => min m c.1) sp ≤ sp := by
 induction L generalizing sp with
 | nil => exact ⟨h1, Int.le_refl _⟩
 | cons c L ih =>
  have hc := h c (List.mem_cons_self ..)
  have := ih (min sp c.1) (by omega) (by omega) (fun d hd => h d (List.mem_cons_of_mem _ hd))
  simp only [List.foldl_cons]
  omega
theorem limit_range (cs : List (Int × Int)) (k l : Nat) (sp : Int) (h1 : 1000 ≤ sp) (h : cs.all cellB = true) : 1000 ≤ limitOf cs k l sp ∧ limitOf cs k l sp ≤ sp :=
 foldl_min_range _ sp 1000 sp h1 (Int.le_refl _) (fun c hc => (cell_of (List.all_eq_true.1 h c (List.mem_of_mem_take (List.mem_of_mem_drop hc)))).1)
theorem sq_range (x y : Int) (hx : 1000 ≤ x) (hx' : x ≤ 100000) (hy : 1000 ≤ y) (hy' : y ≤ 100000) : 1000000 ≤ min x y * min x y ∧ min x y * min x y ≤ 10000000000 := by
 have h1 : 1000 ≤ min x y := by omega
 have h2 : min x y ≤ 100000 := by omega
 have a := Int.mul_le_mul h1 h1 (by omega) (by omega)
 have b := Int.mul_le_mul h2 h2 (by omega) (by omega)
 omega
theorem fwd_range (cs : List (Int × Int)) (start l : Nat) (sp ac : Int) (h1 : 1000 ≤ sp) (h2 : sp ≤ 100000) (h3 : 100 ≤ ac) (h4 : ac ≤ 2000) (h : cs.all cellB = true) (j : Nat) :
  0 ≤ fwd cs start l sp ac j ∧ fwd cs start l sp ac j ≤ 10000000000 ∧ (0 < j → 1000000 ≤ fwd cs start l sp ac j) := by
 induction j with
 | zero => simp [fwd]
 | succ j ih =>
  have a := limit_range cs (start + j) l sp h1 h
  have b := limit_range cs (start + j + 1) l sp h1 h
  have c := sq_range (limitOf cs (start + j) l sp) (limitOf cs (start + j + 1) l sp) (by omega) (by omega) (by omega) (by omega)
  have d := gain_range (cs.getD (start + j) (0, 0)).2 ac h3 h4
  simp only [fwd]
  omega
theorem bwd_range (cs : List (Int × Int)) (start l : Nat) (sp ac br : Int) (h1 : 1000 ≤ sp) (h2 : sp ≤ 100000) (h3 : 100 ≤ ac) (h4 : ac ≤ 2000) (h5 : 100 ≤ br) (h6 : br ≤ 2000) (h : cs.all cellB = true) (d : Nat) :
  0 ≤ bwd cs start l sp ac br d ∧ bwd cs start l sp ac br d ≤ 10000000000 ∧ (0 < d → d < cs.length - start → 1000000 ≤ bwd cs start l sp ac br d) := by
 induction d with
 | zero => simp [bwd]
 | succ d ih =>
  have a := fwd_range cs start l sp ac h1 h2 h3 h4 h (cs.length - start - (d + 1))
  have c := loss_range (cs.getD (cs.length - (d + 1)) (0, 0)).2 br h5 h6
  simp only [bwd]
  refine ⟨by omega, by omega, fun _ hd => ?_⟩
  have := a.2.2 (by omega)
  omega
def spd (cs : List (Int × Int)) (start l : Nat) (sp ac br : Int) (j : Nat) : Nat := Pl.isqrt (sqW cs start l sp ac br j).toNat
def tim (cs : List (Int × Int)) (start l : Nat) (sp ac br : Int) : Nat → Int
 | 0 => 0
 | j + 1 => tim cs start l sp ac br j + Pl.cdiv 20000000 ((spd cs start l sp ac br j : Int) + spd cs start l sp ac br (j + 1))
theorem bad_zero {cs : List (Int × Int)} {start l sp ac br : Int} (h : badRun cs start l sp ac br = 0) :
  chkB l sp ac br = true ∧ cs.length ≤ 4000 ∧ cs.all cellB = true ∧ 0 ≤ start ∧ start + 2 ≤ cs.length := by
 unfold badRun at h
 by_cases h1 : chkB l sp ac br = false
 ·rw [if_pos h1] at h; omega
 ·rw [if_neg h1] at h
  by_cases h2 : 4000 < cs.length
  ·rw [if_pos h2] at h; omega
  ·rw [if_neg h2] at h
   by_cases h3 : cs.all cellB = false
   ·rw [if_pos h3] at h; omega
   ·rw [if_neg h3] at h
    by_cases h4 : start < 0 ∨ (cs.length : Int) - 2 < start
    ·rw [if_pos h4] at h; omega
    ·exact ⟨by simpa using h1, by omega, by simpa using h3, by omega, by omega⟩
section
variable {cs : List (Int × Int)} {start l : Nat} {sp ac br : Int} (h1 : 1000 ≤ sp) (h2 : sp ≤ 100000) (h3 : 100 ≤ ac) (h4 : ac ≤ 2000) (h5 : 100 ≤ br) (h6 : br ≤ 2000) (h : cs.all cellB = true)
include h1 h2 h3 h4 h5 h6 h
theorem sqW_range (j : Nat) : 0 ≤ sqW cs start l sp ac br j ∧ sqW cs start l sp ac br j ≤ 10000000000 ∧ (0 < j → j < cs.length - start → 1000000 ≤ sqW cs start l sp ac br j) := by
 unfold sqW
 by_cases hj : j = 0
 ·rw [if_pos hj]; omega
 ·rw [if_neg hj]
  have := bwd_range cs start l sp ac br h1 h2 h3 h4 h5 h6 h (cs.length - start - j)
  exact ⟨this.1, this.2.1, fun _ hlt => this.2.2 (by omega) (by omega)⟩
theorem spd_range (j : Nat) : spd cs start l sp ac br j ≤ 100000 ∧ (0 < j → j < cs.length - start → 1000 ≤ spd cs start l sp ac br j) := by
 have h0 := sqW_range (start := start) (l := l) h1 h2 h3 h4 h5 h6 h j
 unfold spd
 constructor
 ·have := Pl.isqrt_mono (show (sqW cs start l sp ac br j).toNat ≤ 10000000000 by omega)
  have e := Pl.isqrt_unique 10000000000 100000 (by omega) (by omega)
  omega
 ·intro hj hlt
  have := Pl.isqrt_mono (show 1000000 ≤ (sqW cs start l sp ac br j).toNat by have := h0.2.2 hj hlt; omega)
  have e := Pl.isqrt_unique 1000000 1000 (by omega) (by omega)
  omega
theorem spd_sum (hst : start + 2 ≤ cs.length) (j : Nat) (hj : j < cs.length - start) : 1000 ≤ spd cs start l sp ac br j + spd cs start l sp ac br (j + 1) ∧ spd cs start l sp ac br j + spd cs start l sp ac br (j + 1) ≤ 200000 := by
 have a := spd_range (start := start) (l := l) h1 h2 h3 h4 h5 h6 h j
 have b := spd_range (start := start) (l := l) h1 h2 h3 h4 h5 h6 h (j + 1)
 refine ⟨?_, by omega⟩
 by_cases h0 : 0 < j
 ·have := a.2 h0 hj; omega
 ·have := b.2 (by omega) (by omega); omega
theorem step_range (hst : start + 2 ≤ cs.length) (j : Nat) (hj : j < cs.length - start) : 100 ≤ Pl.cdiv 20000000 ((spd cs start l sp ac br j : Int) + spd cs start l sp ac br (j + 1)) ∧ Pl.cdiv 20000000 ((spd cs start l sp ac br j : Int) + spd cs start l sp ac br (j + 1)) ≤ 20000 := by
 have a := spd_sum (start := start) (l := l) h1 h2 h3 h4 h5 h6 h hst j hj
 obtain ⟨b, c⟩ := Pl.cdiv_bracket 20000000 ((spd cs start l sp ac br j : Int) + spd cs start l sp ac br (j + 1)) (by omega)
 generalize Pl.cdiv 20000000 ((spd cs start l sp ac br j : Int) + spd cs start l sp ac br (j + 1)) = q at *
 generalize hs : (spd cs start l sp ac br j : Int) + spd cs start l sp ac br (j + 1) = s at *
 have hs1 : 1000 ≤ s := by omega
 have hs2 : s ≤ 200000 := by omega
 constructor
 ·rcases Int.lt_or_le q 100 with hq | hq
  ·rcases Int.lt_or_le q 0 with h0 | h0
   ·have := Int.mul_neg_of_neg_of_pos h0 (show 0 < s by omega); omega
   ·have := Int.mul_le_mul (show q ≤ 99 by omega) hs2 (by omega) (by omega); omega
  ·exact hq
 ·rcases Int.lt_or_le 20000 q with hq | hq
  ·have : 20001 * s ≤ q * s := Int.mul_le_mul_of_nonneg_right (by omega) (by omega)
   omega
  ·exact hq
theorem tim_range (hst : start + 2 ≤ cs.length) (j : Nat) (hj : j ≤ cs.length - start) : 100 * (j : Int) ≤ tim cs start l sp ac br j ∧ tim cs start l sp ac br j ≤ 20000 * (j : Int) := by
 induction j with
 | zero => simp [tim]
 | succ j ih =>
  have a := ih (by omega)
  have b := step_range (start := start) (l := l) h1 h2 h3 h4 h5 h6 h hst j (by omega)
  simp only [tim]
  omega
end
section
variable {cs : List (Int × Int)} {start l : Nat} {sp ac br : Int} (h1 : 1000 ≤ sp) (h2 : sp ≤ 100000) (h3 : 100 ≤ ac) (h4 : ac ≤ 2000) (h5 : 100 ≤ br) (h6 : br ≤ 2000) (h : cs.all cellB = true)
theorem sqW_zero : sqW cs start l sp ac br 0 = 0 := by simp [sqW]
theorem sqW_end (hm : 0 < cs.length - start) : sqW cs start l sp ac br (cs.length - start) = 0 := by
 unfold sqW; rw [if_neg (by omega), Nat.sub_self]; rfl
theorem sqW_mid (j : Nat) (hj : 0 < j) (hj2 : j < cs.length - start) : sqW cs start l sp ac br j = min (fwd cs start l sp ac j) (sqW cs start l sp ac br (j + 1) + lossOf (cs.getD (start + j) (0, 0)).2 br) := by
 unfold sqW
 rw [if_neg (by omega), if_neg (by omega), show cs.length - start - j = (cs.length - start - (j + 1)) + 1 by omega]
 simp only [bwd]
 rw [show cs.length - start - (cs.length - start - (j + 1) + 1) = j by omega, show cs.length - (cs.length - start - (j + 1) + 1) = start + j by omega]
include h1 h2 h3 h4 h in
include h1 h2 h3 h4 h5 h6 h in
include h1 h2 h3 h4 h5 h6 h in
include h1 h2 h3 h4 h5 h6 h in
end
def lsq (cs : List (Int × Int)) (start l : Nat) (sp : Int) (j : Nat) : Int :=
 min (limitOf cs (start + j - 1) l sp) (limitOf cs (start + j) l sp) * min (limitOf cs (start + j - 1) l sp) (limitOf cs (start + j) l sp)
def iniW (cs : List (Int × Int)) (start l : Nat) (sp : Int) (k j : Nat) : Int := if 0 < j ∧ j < k then lsq cs start l sp j else 0
def fwW (cs : List (Int × Int)) (start l : Nat) (sp ac : Int) (j : Nat) : Int := if j < cs.length - start then fwd cs start l sp ac j else 0
def rate (g ac : Int) : Int := if 0 < g then max 50 (ac - 10 * g) else ac
def rateB (g br : Int) : Int := if g < 0 then max 50 (br + 10 * g) else br
theorem gain_rate (g ac : Int) : gainOf g ac = 20000 * rate g ac := rfl
theorem loss_rate (g br : Int) : lossOf g br = 20000 * rateB g br := rfl
section
variable {cs : List (Int × Int)} {start l : Nat} {sp ac br : Int} (h1 : 1000 ≤ sp) (h2 : sp ≤ 100000) (h3 : 100 ≤ ac) (h4 : ac ≤ 2000) (h5 : 100 ≤ br) (h6 : br ≤ 2000) (h : cs.all cellB = true)
include h1 h2 h in
theorem lsq_range (j : Nat) : 1000000 ≤ lsq cs start l sp j ∧ lsq cs start l sp j ≤ 10000000000 := by
 have a := limit_range cs (start + j - 1) l sp h1 h
 have b := limit_range cs (start + j) l sp h1 h
 exact sq_range _ _ a.1 (by omega) b.1 (by omega)
include h1 h2 h in
theorem ini_range (k j : Nat) : 0 ≤ iniW cs start l sp k j ∧ iniW cs start l sp k j ≤ 10000000000 := by
 have := lsq_range (start := start) (l := l) h1 h2 h j
 unfold iniW
 split <;> omega
include h1 h2 h3 h4 h in
theorem fwW_range (j : Nat) : 0 ≤ fwW cs start l sp ac j ∧ fwW cs start l sp ac j ≤ 10000000000 := by
 have := fwd_range cs start l sp ac h1 h2 h3 h4 h j
 unfold fwW
 split <;> omega
include h1 h2 h3 h4 h in
theorem fwW_step (k : Nat) (hk : k < cs.length - start) : min (iniW cs start l sp (cs.length - start) (k + 1)) (fwW cs start l sp ac k + gainOf (cs.getD (start + k) (0, 0)).2 ac) = fwW cs start l sp ac (k + 1) := by
 have hf := (fwW_range (start := start) (l := l) h1 h2 h3 h4 h k).1
 have hg := (gain_range (cs.getD (start + k) (0, 0)).2 ac h3 h4).1
 by_cases e : k + 1 < cs.length - start
 ·have e1 : fwW cs start l sp ac (k + 1) = fwd cs start l sp ac (k + 1) := if_pos e
  have e2 : fwW cs start l sp ac k = fwd cs start l sp ac k := if_pos hk
  have e3 : iniW cs start l sp (cs.length - start) (k + 1) = lsq cs start l sp (k + 1) := if_pos ⟨by omega, e⟩
  rw [e1, e2, e3]
  simp only [fwd, lsq]
  rw [show start + (k + 1) - 1 = start + k by omega, show start + (k + 1) = start + k + 1 by omega]
 ·have e1 : fwW cs start l sp ac (k + 1) = 0 := if_neg e
  have e3 : iniW cs start l sp (cs.length - start) (k + 1) = 0 := if_neg (by omega)
  rw [e1, e3]
  omega
include h1 h2 h3 h4 h5 h6 h in
theorem sqW_step (k : Nat) (hk : k < cs.length - start) : min (fwW cs start l sp ac k) (sqW cs start l sp ac br (k + 1) + lossOf (cs.getD (start + k) (0, 0)).2 br) = sqW cs start l sp ac br k := by
 have hs := (sqW_range (start := start) (l := l) h1 h2 h3 h4 h5 h6 h (k + 1)).1
 have hg := (loss_range (cs.getD (start + k) (0, 0)).2 br h5 h6).1
 have e2 : fwW cs start l sp ac k = fwd cs start l sp ac k := if_pos hk
 by_cases h0 : k = 0
 ·subst h0
  have e3 : fwd cs start l sp ac 0 = 0 := rfl
  rw [sqW_zero, e2, e3]; omega
 ·rw [sqW_mid k (by omega) hk, e2]
end
end Go.Proofs.YtbpeakgihhdocaaGreat
namespace Go.Proofs.YtbpeakgihhdocaaGreat.Av
abbrev vS5 (nm : ByteArray) (l sp ac br : Int) : SV := .agg [xS nm, xI l, xI sp, xI ac, xI br]
abbrev bS5 (nm : ByteArray) (l sp ac br : Int) : Option SB := some (.cells [xS nm, xI l, xI sp, xI ac, xI br])
abbrev vCe (c : Int × Int) : SV := .agg [xI c.1, xI c.2]
theorem chk_bb (l sp ac br : Int) : chkB l sp ac br = (decide (1 ≤ l) && decide (l ≤ 40) && decide (1000 ≤ sp) && decide (sp ≤ 100000) && decide (100 ≤ ac) && decide (ac ≤ 2000) && decide (100 ≤ br) && decide (br ≤ 2000)) := by
 rw [Bool.eq_iff_iff]
 simp [chkB, and_assoc]
section
variable {cs : List (Int × Int)} {start l sp ac br : Int}
theorem bad_1 (h : ¬ chkB l sp ac br = true) : badRun cs start l sp ac br = 1 := if_pos (by simpa using h)
theorem bad_7 (h : chkB l sp ac br = true) (h2 : 4000 < cs.length) : badRun cs start l sp ac br = 7 := by unfold badRun; rw [if_neg (by rw [h]; decide), if_pos h2]
theorem bad_4 (h : chkB l sp ac br = true) (h2 : ¬ 4000 < cs.length) (h3 : cs.all cellB = false) : badRun cs start l sp ac br = 4 := by unfold badRun; rw [if_neg (by rw [h]; decide), if_neg h2, if_pos h3]
theorem bad_4s (h : chkB l sp ac br = true) (h2 : ¬ 4000 < cs.length) (h3 : cs.all cellB = true) (h4 : start < 0 ∨ (cs.length : Int) - 2 < start) : badRun cs start l sp ac br = 4 := by unfold badRun; rw [if_neg (by rw [h]; decide), if_neg h2, if_neg (by rw [h3]; decide), if_pos h4]
theorem bad_0 (h : chkB l sp ac br = true) (h2 : ¬ 4000 < cs.length) (h3 : cs.all cellB = true) (h4 : ¬ (start < 0 ∨ (cs.length : Int) - 2 < start)) : badRun cs start l sp ac br = 0 := by unfold badRun; rw [if_neg (by rw [h]; decide), if_neg h2, if_neg (by rw [h3]; decide), if_neg h4]
theorem cells_no {p : Int × Int → Bool} {i : Nat} (hi : i < cs.length) (h : p (cs.getD i (0, 0)) = false) : cs.all p = false := by
 rw [List.getD_eq_getElem?_getD, List.getElem?_eq_getElem hi] at h
 rw [Bool.eq_false_iff]
 intro ha
 have := List.all_eq_true.1 ha _ (List.getElem_mem hi)
 rw [show (some cs[i]).getD (0, 0) = cs[i] from rfl, this] at h
 cases h
theorem cells_yes {p : Int × Int → Bool} (h : ∀ j, j < cs.length → p (cs.getD j (0, 0)) = true) : cs.all p = true := by
 rw [List.all_eq_true]
 intro x hx
 obtain ⟨i, hi, rfl⟩ := List.mem_iff_getElem.1 hx
 have := h i hi
 rwa [List.getD_eq_getElem?_getD, List.getElem?_eq_getElem hi] at this
end
theorem uptoS {q : Nat → Prop} {i : Nat} (h : ∀ j, j < i → q j) (hi : q i) : ∀ j, j < i + 1 → q j := fun j hj => by
 rcases Nat.lt_succ_iff_lt_or_eq.1 hj with h1 | h1
 ·exact h j h1
 ·exact h1 ▸ hi
theorem foldl_snoc {α β : Type} {f : β → α → β} {b : β} {l : List α} {i : Nat} {d : α} (h : i < l.length) : (l.take (i + 1)).foldl f b = f ((l.take i).foldl f b) (l.getD i d) := by
 rw [List.take_succ_eq_append_getElem h, List.foldl_append, List.getD_eq_getElem?_getD, List.getElem?_eq_getElem h]
 rfl
theorem chk_ok (nm : ByteArray) (l sp ac br : Int) : OkV Tryz.prog 62 [vS5 nm l sp ac br] [] (vB (chkB l sp ac br)) [] := by
 rw [chk_bb]
 refine X_fn mixedX Tryz.func62 rfl (by kernel_rfl) (Nat.le_of_ble_eq_true (by kernel_rfl)) (by kernel_rfl) rfl rfl (Nat.le_of_ble_eq_true rfl) rfl rfl ?_
 simp only [sl0, Nat.zero_add, Nat.reduceAdd]
 repeat' (first
  |with_reducible (first|refine q_and ?_ ?_|exact True.intro|exact TkEq.nil _|refine Red.o (by constructor) ?_|refine blockK_o' rfl ?_|refine LoopX_e' rfl ?_|assumption)
  |((with_reducible apply q_CI);intro hbq;(try simp only [bq] at hbq);(try (exfalso;omega)))
  |refine Rex.o (by (with_reducible constructor);apply Eq.refl) ?_
  |(intro (hgq : (_ : Bool) = true);(try simp only [bq] at hgq))
  |(intro (hgq : (_ : Bool) = false);(try simp only [bq] at hgq))
  |((with_reducible apply q_VOk);exact fun _ => ⟨rfl,rfl⟩)|(intro _;exact rfl)|((with_reducible apply q_CRB);kernel_rfl)|((with_reducible apply q_bt);simp only [bq])|((with_reducible apply q_eqN);rfl)|((with_reducible apply q_FE);exact rfl)|with_reducible (first|exact isByte_wrap _|exact isByte_nat _)|(simp only [hgq,bq];done)|omega|(dsimp only;omega))
 repeat' (first|with_reducible (first|refine Wk.o (by constructor) ?_|refine q_and ?_ ?_|exact True.intro)|refine VEq.c ?_|refine VEq.agg ?_|refine VEq.tup ?_|refine TkEq.cells ?_ ?_|refine TkEq.els ?_ ?_|refine SEqL.cons ?_ ?_|refine TEqL.agg ?_ ?_|refine CEq.rows ?_|refine CEq.int ?_|rfl|omega)
theorem checkRun_ok (cs : List (Int × Int)) (start : Int) (nm : ByteArray) (l sp ac br : Int) (hl : cs.length ≤ 4611686018427387904) : OkV Tryz.prog 85 [.c (rCell cs), .c (xI start), vS5 nm l sp ac br] [] (vI (badRun cs start l sp ac br)) [] := by
 have hC := chk_ok nm l sp ac br
 refine X_fn mixedX Tryz.func85 rfl (by kernel_rfl) (Nat.le_of_ble_eq_true (by kernel_rfl)) (by kernel_rfl) rfl rfl (Nat.le_of_ble_eq_true rfl) rfl rfl ?_
 simp only [sl0, Nat.zero_add, Nat.reduceAdd]
 repeat' (first
  |with_reducible (first|refine q_and ?_ ?_|exact True.intro|exact TkEq.nil _|refine Red.o (by constructor) ?_|refine blockK_o' rfl ?_|refine LoopX_e' rfl ?_|assumption)
  |((with_reducible apply q_call);refine X_pure (hC) rfl ?_)
  |((with_reducible apply q_CI);intro hbq;(try simp only [bq] at hbq);(try (exfalso;omega)))
  |refine Rex.o (by (with_reducible constructor);apply Eq.refl) ?_
  |(intro (hgq : (_ : Bool) = true);(try simp only [bq] at hgq))
  |(intro (hgq : (_ : Bool) = false);(try simp only [bq] at hgq))
  |((with_reducible apply q_VOk);exact fun _ => ⟨rfl,rfl⟩)|(intro _;exact rfl)|((with_reducible apply q_CRB);kernel_rfl)|((with_reducible apply q_bt);simp only [bq])|((with_reducible apply q_eqN);rfl)|((with_reducible apply q_FE);exact rfl)|with_reducible (first|exact isByte_wrap _|exact isByte_nat _)|(simp only [hgq,bq];done)|omega|(dsimp only;omega))
 ·rw [bad_1 (by simpa using hbq)]; rfl
 ·rename_i a1
  rw [bad_7 (by simpa using a1) (by omega)]; rfl
 rename_i a1
 clear hC
 have b1 : chkB l sp ac br = true := by simpa using a1
 have b2 : ¬ 4000 < cs.length := by omega
 refine W_loopS (fun i : Nat => SS [sC 0 (rCell cs), sI 1 start, sC 17 (rCell cs), sI 18 cs.length, sI 19 i] []) (fun i => i ≤ cs.length ∧ ∀ j, j < i → cellB (cs.getD j (0, 0)) = true) (fun i => cs.length - i) 0 ?_ ⟨by omega, fun j hj => by omega⟩ ?_
 ·
  refine X_weak rfl rfl rfl ?_ ?_ <;> repeat' (first|with_reducible (first|refine Wk.o (by constructor) ?_|refine q_and ?_ ?_|exact True.intro)|refine q_AgS rfl ?_ ?_|exact CLe.nil_tipS|exact CLe.nil_rowS|refine HLe.cells ?_ ?_|refine HLe.els ?_ ?_|refine SLe.cons ?_ ?_|exact (rfl : known _ = _)|with_reducible rfl|omega)
 intro i hi
 obtain ⟨hi, hok⟩ := hi
 repeat' (first
  |with_reducible (first|refine q_and ?_ ?_|exact True.intro|exact TkEq.nil _|refine Red.o (by constructor) ?_|refine blockK_o' rfl ?_|refine LoopX_e' rfl ?_|assumption)
  |((with_reducible apply q_CI);intro hbq;(try simp only [bq] at hbq);(try (exfalso;omega)))
  |refine Rex.o (by (with_reducible constructor);apply Eq.refl) ?_
  |(intro (hgq : (_ : Bool) = true);(try simp only [bq] at hgq))
  |(intro (hgq : (_ : Bool) = false);(try simp only [bq] at hgq))
  |((with_reducible apply q_VOk);exact fun _ => ⟨rfl,rfl⟩)|(intro _;exact rfl)|((with_reducible apply q_CRB);kernel_rfl)|((with_reducible apply q_bt);simp only [bq])|((with_reducible apply q_eqN);rfl)|((with_reducible apply q_FE);exact rfl)|with_reducible (first|exact isByte_wrap _|exact isByte_nat _)|(simp only [hgq,bq];done)|omega|(dsimp only;omega))
 ·have hb : cellB (cs.getD (i : Int).toNat (0, 0)) = false := by unfold cellB; rw [decide_eq_false_iff_not]; omega
  rw [bad_4 b1 b2 (cells_no (i := i) (by omega) hb)]; rfl
 ·have hb : cellB (cs.getD (i : Int).toNat (0, 0)) = true := by unfold cellB; rw [decide_eq_true_eq]; omega
  refine LoopK_n (i + 1) ?_ (⟨by omega, uptoS hok hb⟩) (by (try dsimp only); omega)
  refine X_weak rfl rfl rfl ?_ ?_ <;> repeat' (first|with_reducible (first|refine Wk.o (by constructor) ?_|refine q_and ?_ ?_|exact True.intro)|refine q_AgS rfl ?_ ?_|exact CLe.nil_tipS|exact CLe.nil_rowS|refine HLe.cells ?_ ?_|refine HLe.els ?_ ?_|refine SLe.cons ?_ ?_|exact (rfl : known _ = _)|with_reducible rfl|omega)
 ·have hie : i = cs.length := by omega
  subst hie
  rw [bad_4s b1 b2 (cells_yes hok) (by omega)]; rfl
 ·have hie : i = cs.length := by omega
  subst hie
  rw [bad_0 b1 b2 (cells_yes hok) (by omega)]; rfl
theorem limit_ok (cs : List (Int × Int)) (k : Nat) (nm : ByteArray) (l sp ac br : Int) (hk : k < cs.length) (hl : cs.length ≤ 4000) (h0 : 0 ≤ l) (h1 : l ≤ 40) : OkV Tryz.prog 97 [.c (rCell cs), .c (xI k), vS5 nm l sp ac br] [] (vI (limitOf cs k l.toNat sp)) [] := by
 refine X_fn mixedX Tryz.func97 rfl (by kernel_rfl) (Nat.le_of_ble_eq_true (by kernel_rfl)) (by kernel_rfl) rfl rfl (Nat.le_of_ble_eq_true rfl) rfl rfl ?_
 simp only [sl0, Nat.zero_add, Nat.reduceAdd]
 repeat' (first
  |with_reducible (first|refine q_and ?_ ?_|exact True.intro|exact TkEq.nil _|refine Red.o (by constructor) ?_|refine blockK_o' rfl ?_|refine LoopX_e' rfl ?_|assumption)
  |((with_reducible apply q_CI);intro hbq;(try simp only [bq] at hbq);(try (exfalso;omega)))
  |refine Rex.o (by (with_reducible constructor);apply Eq.refl) ?_
  |(intro (hgq : (_ : Bool) = true);(try simp only [bq] at hgq))
  |(intro (hgq : (_ : Bool) = false);(try simp only [bq] at hgq))
  |((with_reducible apply q_VOk);exact fun _ => ⟨rfl,rfl⟩)|(intro _;exact rfl)|((with_reducible apply q_CRB);kernel_rfl)|((with_reducible apply q_bt);simp only [bq])|((with_reducible apply q_eqN);rfl)|((with_reducible apply q_FE);exact rfl)|with_reducible (first|exact isByte_wrap _|exact isByte_nat _)|(simp only [hgq,bq];done)|omega|(dsimp only;omega))
 generalize hxs : (cs.drop (max 0 ((k : Int) - l)).toNat).take ((k : Int) + 1 - max 0 ((k : Int) - l)).toNat = xs
 have hxl : xs.length ≤ 4000 := by rw [← hxs, List.length_take, List.length_drop]; omega
 have hL : limitOf cs k l.toNat sp = xs.foldl (fun m c => min m c.1) sp := by
  rw [← limTo_all, ← hxs, show (max 0 ((k : Int) - l)).toNat = k - l.toNat by omega, show ((k : Int) + 1 - max 0 ((k : Int) - l)).toNat = k + 1 - (k - l.toNat) by omega]
  rfl
 rw [hL]
 clear hL hxs
 refine W_loopS (fun i : Nat => SS [sI 7 ((xs.take i).foldl (fun m c => min m c.1) sp), sC 20 (rCell xs), sI 21 xs.length, sI 22 i] []) (fun i => i ≤ xs.length) (fun i => xs.length - i) 0 ?_ (by omega) ?_
 ·
  refine X_weak rfl rfl rfl ?_ ?_ <;> repeat' (first|with_reducible (first|refine Wk.o (by constructor) ?_|refine q_and ?_ ?_|exact True.intro)|refine q_AgS rfl ?_ ?_|exact CLe.nil_tipS|exact CLe.nil_rowS|refine HLe.cells ?_ ?_|refine HLe.els ?_ ?_|refine SLe.cons ?_ ?_|exact (rfl : known _ = _)|with_reducible rfl|omega)
  all_goals rfl
 intro i hi
 repeat' (first
  |with_reducible (first|refine q_and ?_ ?_|exact True.intro|exact TkEq.nil _|refine Red.o (by constructor) ?_|refine blockK_o' rfl ?_|refine LoopX_e' rfl ?_|assumption)
  |((with_reducible apply q_CI);intro hbq;(try simp only [bq] at hbq);(try (exfalso;omega)))
  |refine Rex.o (by (with_reducible constructor);apply Eq.refl) ?_
  |(intro (hgq : (_ : Bool) = true);(try simp only [bq] at hgq))
  |(intro (hgq : (_ : Bool) = false);(try simp only [bq] at hgq))
  |((with_reducible apply q_VOk);exact fun _ => ⟨rfl,rfl⟩)|(intro _;exact rfl)|((with_reducible apply q_CRB);kernel_rfl)|((with_reducible apply q_bt);simp only [bq])|((with_reducible apply q_eqN);rfl)|((with_reducible apply q_FE);exact rfl)|with_reducible (first|exact isByte_wrap _|exact isByte_nat _)|(simp only [hgq,bq];done)|omega|(dsimp only;omega))
 ·
  refine LoopK_n (i + 1) ?_ ((by omega)) (by (try dsimp only); omega)
  refine X_weak rfl rfl rfl ?_ ?_ <;> repeat' (first|with_reducible (first|refine Wk.o (by constructor) ?_|refine q_and ?_ ?_|exact True.intro)|refine q_AgS rfl ?_ ?_|exact CLe.nil_tipS|exact CLe.nil_rowS|refine HLe.cells ?_ ?_|refine HLe.els ?_ ?_|refine SLe.cons ?_ ?_|exact (rfl : known _ = _)|with_reducible rfl|omega)
  all_goals (rw [foldl_snoc (d := (0, 0)) (by omega)]; rfl)
 ·have hie : i = xs.length := by omega
  subst hie
  rw [List.take_length]; rfl
theorem gain_ok (c : Int × Int) (nm : ByteArray) (l sp ac br : Int) (h0 : -40 ≤ c.2 ∧ c.2 ≤ 40) (h5 : 100 ≤ ac) (h6 : ac ≤ 2000) : OkV Tryz.prog 98 [vCe c, vS5 nm l sp ac br] [] (vI (gainOf c.2 ac)) [] := by
 unfold gainOf
 refine X_fn mixedX Tryz.func98 rfl (by kernel_rfl) (Nat.le_of_ble_eq_true (by kernel_rfl)) (by kernel_rfl) rfl rfl (Nat.le_of_ble_eq_true rfl) rfl rfl ?_
 simp only [sl0, Nat.zero_add, Nat.reduceAdd]
 repeat' (first
  |with_reducible (first|refine q_and ?_ ?_|exact True.intro|exact TkEq.nil _|refine Red.o (by constructor) ?_|refine blockK_o' rfl ?_|refine LoopX_e' rfl ?_|assumption)
  |((with_reducible apply q_CI);intro hbq;(try simp only [bq] at hbq);(try (exfalso;omega)))
  |refine Rex.o (by (with_reducible constructor);apply Eq.refl) ?_
  |(intro (hgq : (_ : Bool) = true);(try simp only [bq] at hgq))
  |(intro (hgq : (_ : Bool) = false);(try simp only [bq] at hgq))
  |((with_reducible apply q_VOk);exact fun _ => ⟨rfl,rfl⟩)|(intro _;exact rfl)|((with_reducible apply q_CRB);kernel_rfl)|((with_reducible apply q_bt);simp only [bq])|((with_reducible apply q_eqN);rfl)|((with_reducible apply q_FE);exact rfl)|with_reducible (first|exact isByte_wrap _|exact isByte_nat _)|(simp only [hgq,bq];done)|omega|(dsimp only;omega))
 ·rw [if_pos (by omega)]; rfl
 ·rw [if_neg (by omega)]; rfl
theorem loss_ok (c : Int × Int) (nm : ByteArray) (l sp ac br : Int) (h0 : -40 ≤ c.2 ∧ c.2 ≤ 40) (h5 : 100 ≤ br) (h6 : br ≤ 2000) : OkV Tryz.prog 99 [vCe c, vS5 nm l sp ac br] [] (vI (lossOf c.2 br)) [] := by
 unfold lossOf
 refine X_fn mixedX Tryz.func99 rfl (by kernel_rfl) (Nat.le_of_ble_eq_true (by kernel_rfl)) (by kernel_rfl) rfl rfl (Nat.le_of_ble_eq_true rfl) rfl rfl ?_
 simp only [sl0, Nat.zero_add, Nat.reduceAdd]
 repeat' (first
  |with_reducible (first|refine q_and ?_ ?_|exact True.intro|exact TkEq.nil _|refine Red.o (by constructor) ?_|refine blockK_o' rfl ?_|refine LoopX_e' rfl ?_|assumption)
  |((with_reducible apply q_CI);intro hbq;(try simp only [bq] at hbq);(try (exfalso;omega)))
  |refine Rex.o (by (with_reducible constructor);apply Eq.refl) ?_
  |(intro (hgq : (_ : Bool) = true);(try simp only [bq] at hgq))
  |(intro (hgq : (_ : Bool) = false);(try simp only [bq] at hgq))
  |((with_reducible apply q_VOk);exact fun _ => ⟨rfl,rfl⟩)|(intro _;exact rfl)|((with_reducible apply q_CRB);kernel_rfl)|((with_reducible apply q_bt);simp only [bq])|((with_reducible apply q_eqN);rfl)|((with_reducible apply q_FE);exact rfl)|with_reducible (first|exact isByte_wrap _|exact isByte_nat _)|(simp only [hgq,bq];done)|omega|(dsimp only;omega))
 ·rw [if_pos (by omega)]; rfl
 ·rw [if_neg (by omega)]; rfl
abbrev bInt (l : List Int) : Option SB := some (.els 1 fInt vInt mInt 0 l)
def row (n : Nat) (f : Nat → Int) : List Int := (List.range n).map f
theorem row_len (n : Nat) (f : Nat → Int) : (row n f).length = n := by simp [row]
theorem row_get {n : Nat} {f : Nat → Int} {i : Nat} (h : i < n) : (row n f).getD i 0 = f i := by simp [row, List.getD_eq_getElem?_getD, h]
theorem row_set {n : Nat} {f g : Nat → Int} {i : Nat} {x : Int} (hx : g i = x) (h : ∀ j, j < n → j ≠ i → g j = f j) : (row n f).set i x = row n g := by
 apply List.ext_getElem
 ·simp [row]
 ·intro j h1 h2
  have hj : j < n := by simpa [row] using h2
  rw [List.getElem_set]
  split
  ·rename_i e; subst e; simp [row, hx]
  ·rename_i e; simp only [row, List.getElem_map, List.getElem_range]; exact (h j hj (fun e' => e e'.symm)).symm
theorem row_ext {n : Nat} {f g : Nat → Int} (h : ∀ j, j < n → f j = g j) : row n f = row n g := by
 unfold row
 exact List.map_congr_left fun j hj => h j (List.mem_range.1 hj)
theorem row_zero (n : Nat) : List.replicate n (0 : Int) = row n fun _ => 0 := by
 apply List.ext_getElem
 ·simp [row]
 ·intro j h1 h2; simp [row]
theorem squares_ok (cs : List (Int × Int)) (s : Nat) (nm : ByteArray) (l sp ac br : Int) (h : badRun cs s l sp ac br = 0) : OkV Tryz.prog 86 [.c (rCell cs), .c (xI s), vS5 nm l sp ac br] [] (.c (.c (.arr 1 0 (cs.length - s + 1) (cs.length - s + 1)))) [bS5 nm l sp ac br, bInt (row (cs.length - s + 1) (sqW cs s l.toNat sp ac br))] := by
 obtain ⟨hc, hn, hall, h0, h2⟩ := bad_zero h
 obtain ⟨l1, l2, l3, l4, l5, l6, l7, l8⟩ := chk_of hc
 have hL := limit_ok cs s nm l sp ac br (by omega) hn (by omega) l2
 refine X_fn mixedX Tryz.func86 rfl (by kernel_rfl) (Nat.le_of_ble_eq_true (by kernel_rfl)) (by kernel_rfl) rfl rfl (Nat.le_of_ble_eq_true rfl) rfl rfl ?_
 simp only [sl0, Nat.zero_add, Nat.reduceAdd]
 repeat' (first
  |with_reducible (first|refine q_and ?_ ?_|exact True.intro|exact TkEq.nil _|refine Red.o (by constructor) ?_|refine blockK_o' rfl ?_|refine LoopX_e' rfl ?_|assumption)
  |((with_reducible apply q_call);refine X_pure (hL) rfl ?_)
  |((with_reducible apply q_CI);intro hbq;(try simp only [bq] at hbq);(try (exfalso;omega)))
  |refine Rex.o (by (with_reducible constructor);apply Eq.refl) ?_
  |(intro (hgq : (_ : Bool) = true);(try simp only [bq] at hgq))
  |(intro (hgq : (_ : Bool) = false);(try simp only [bq] at hgq))
  |((with_reducible apply q_VOk);exact fun _ => ⟨rfl,rfl⟩)|(intro _;exact rfl)|((with_reducible apply q_CRB);kernel_rfl)|((with_reducible apply q_bt);simp only [bq])|((with_reducible apply q_eqN);rfl)|((with_reducible apply q_FE);exact rfl)|with_reducible (first|exact isByte_wrap _|exact isByte_nat _)|(simp only [hgq,bq];done)|omega|(dsimp only;omega))
 clear hL
 have eN : ((cs.length : Int) - s + 1).toNat = cs.length - s + 1 := by omega
 refine W_loopS (fun i : Nat => SS [sC 0 (rCell cs), sI 1 s, sC 5 (pB 0), sI 7 cs.length, sC 8 (.c (.arr 1 0 (cs.length - s + 1) (cs.length - s + 1))), sI 9 (limitOf cs (s + i) l.toNat sp), sI 10 (s + i + 1 : Nat)] [bS5 nm l sp ac br, bInt (row (cs.length - s + 1) fun j => if j ≤ i then fwd cs s l.toNat sp ac j else 0)]) (fun i => s + i + 1 ≤ cs.length) (fun i => cs.length - i) 0 ?_ (by omega) ?_
 ·
  refine X_weak rfl rfl rfl ?_ ?_ <;> repeat' (first|with_reducible (first|refine Wk.o (by constructor) ?_|refine q_and ?_ ?_|exact True.intro)|refine q_AgS rfl ?_ ?_|exact CLe.nil_tipS|exact CLe.nil_rowS|refine HLe.cells ?_ ?_|refine HLe.els ?_ ?_|refine SLe.cons ?_ ?_|exact (rfl : known _ = _)|with_reducible rfl|omega)
  ·rw [eN, row_zero]
   refine row_ext fun j hj => ?_
   by_cases hj0 : j ≤ 0
   ·rw [if_pos hj0, show j = 0 by omega]; rfl
   ·rw [if_neg hj0]
  ·rfl
 intro i hi
 by_cases hlt : s + i + 1 < cs.length
 ·have hL := limit_ok cs (s + i + 1) nm l sp ac br hlt hn (by omega) l2
  have hce := cell_of (List.all_eq_true.1 hall _ (List.getElem_mem (show s + i < cs.length by omega)))
  have eg : cs.getD (((s + i + 1 : Nat) : Int) - 1).toNat (0, 0) = cs[s + i] := by
   rw [show (((s + i + 1 : Nat) : Int) - 1).toNat = s + i by omega]; exact getD_at _ _ _
  rw [← eg] at hce
  have hG := gain_ok (cs.getD (((s + i + 1 : Nat) : Int) - 1).toNat (0, 0)) nm l sp ac br ⟨hce.2.2.1, hce.2.2.2⟩ l5 l6
  have hgr := gain_range (cs.getD (((s + i + 1 : Nat) : Int) - 1).toNat (0, 0)).2 ac l5 l6
  have a1 := limit_range cs (s + i) l.toNat sp l3 hall
  have a2 := limit_range cs (s + i + 1) l.toNat sp l3 hall
  have a3 := sq_range (limitOf cs (s + i) l.toNat sp) (limitOf cs (s + i + 1) l.toNat sp) a1.1 (by omega) a2.1 (by omega)
  have a4 := fwd_range cs s l.toNat sp ac l3 l4 l5 l6 hall i
  have a5 : (row (cs.length - s + 1) fun j => if j ≤ i then fwd cs s l.toNat sp ac j else 0).getD (((s + i + 1 : Nat) : Int) - 1 - s).toNat 0 = fwd cs s l.toNat sp ac i := by
   rw [show (((s + i + 1 : Nat) : Int) - 1 - s).toNat = i by omega, row_get (by omega), if_pos (Nat.le_refl _)]
  rw [← a5] at a4
  have a6 := row_len (cs.length - s + 1) fun j => if j ≤ i then fwd cs s l.toNat sp ac j else 0
  repeat' (first
   |with_reducible (first|refine q_and ?_ ?_|exact True.intro|exact TkEq.nil _|refine Red.o (by constructor) ?_|refine blockK_o' rfl ?_|refine LoopX_e' rfl ?_|assumption)
   |((with_reducible apply q_call);first|refine X_pure (hL) rfl ?_|refine X_pure (hG) rfl ?_)
   |((with_reducible apply q_CI);intro hbq;(try simp only [bq] at hbq);(try (exfalso;omega)))
   |refine Rex.o (by (with_reducible constructor);apply Eq.refl) ?_
   |(intro (hgq : (_ : Bool) = true);(try simp only [bq] at hgq))
   |(intro (hgq : (_ : Bool) = false);(try simp only [bq] at hgq))
   |((with_reducible apply q_VOk);exact fun _ => ⟨rfl,rfl⟩)|(intro _;exact rfl)|((with_reducible apply q_CRB);kernel_rfl)|((with_reducible apply q_bt);simp only [bq])|((with_reducible apply q_eqN);rfl)|((with_reducible apply q_FE);exact rfl)|with_reducible (first|exact isByte_wrap _|exact isByte_nat _)|(simp only [hgq,bq];done)|omega|(dsimp only;omega))
  ·rfl
  ·
   refine LoopK_n (i + 1) ?_ ((by omega)) (by (try dsimp only); omega)
   refine X_weak rfl rfl rfl ?_ ?_ <;> repeat' (first|with_reducible (first|refine Wk.o (by constructor) ?_|refine q_and ?_ ?_|exact True.intro)|refine q_AgS rfl ?_ ?_|exact CLe.nil_tipS|exact CLe.nil_rowS|refine HLe.cells ?_ ?_|refine HLe.els ?_ ?_|refine SLe.cons ?_ ?_|exact (rfl : known _ = _)|with_reducible rfl|omega)
   ·rw [a5, show (((s + i + 1 : Nat) : Int) - s).toNat = i + 1 by omega, show (((s + i + 1 : Nat) : Int) - 1).toNat = s + i by omega]
    refine row_set (i := i + 1) ?_ fun j hj hne => ?_
    ·rw [if_pos (Nat.le_refl _)]; rfl
    ·by_cases hji : j ≤ i
     ·rw [if_pos hji, if_pos (by omega)]
     ·rw [if_neg hji, if_neg (by omega)]
   ·rfl
 ·
  repeat' (first
   |with_reducible (first|refine q_and ?_ ?_|exact True.intro|exact TkEq.nil _|refine Red.o (by constructor) ?_|refine blockK_o' rfl ?_|refine LoopX_e' rfl ?_|assumption)
   |((with_reducible apply q_CI);intro hbq;(try simp only [bq] at hbq);(try (exfalso;omega)))
   |refine Rex.o (by (with_reducible constructor);apply Eq.refl) ?_
   |(intro (hgq : (_ : Bool) = true);(try simp only [bq] at hgq))
   |(intro (hgq : (_ : Bool) = false);(try simp only [bq] at hgq))
   |((with_reducible apply q_VOk);exact fun _ => ⟨rfl,rfl⟩)|(intro _;exact rfl)|((with_reducible apply q_CRB);kernel_rfl)|((with_reducible apply q_bt);simp only [bq])|((with_reducible apply q_eqN);rfl)|((with_reducible apply q_FE);exact rfl)|with_reducible (first|exact isByte_wrap _|exact isByte_nat _)|(simp only [hgq,bq];done)|omega|(dsimp only;omega))
  refine W_loopS (fun d : Nat => SS [sC 0 (rCell cs), sI 1 s, sC 5 (pB 0), sI 7 cs.length, sC 8 (.c (.arr 1 0 (cs.length - s + 1) (cs.length - s + 1))), sI 13 ((cs.length : Int) - 1 - d)] [bS5 nm l sp ac br, bInt (row (cs.length - s + 1) fun j => if j + d < cs.length - s then fwd cs s l.toNat sp ac j else sqW cs s l.toNat sp ac br j)]) (fun d => s + d + 1 ≤ cs.length) (fun d => cs.length - d) 0 ?_ (by omega) ?_
  ·
   refine X_weak rfl rfl rfl ?_ ?_ <;> repeat' (first|with_reducible (first|refine Wk.o (by constructor) ?_|refine q_and ?_ ?_|exact True.intro)|refine q_AgS rfl ?_ ?_|exact CLe.nil_tipS|exact CLe.nil_rowS|refine HLe.cells ?_ ?_|refine HLe.els ?_ ?_|refine SLe.cons ?_ ?_|exact (rfl : known _ = _)|with_reducible rfl|omega)
   all_goals (
    refine row_ext fun j hj => ?_
    by_cases hji : j ≤ i
    ·rw [if_pos hji, if_pos (by omega)]
    ·rw [if_neg hji, if_neg (by omega), show j = cs.length - s by omega, sqW_end (by omega)])
  intro d hd
  by_cases hdl : s + d + 1 < cs.length
  ·generalize he : cs.length - 1 - d - s = e
   have e1 : ((cs.length : Int) - 1 - d).toNat = s + e := by omega
   have hce := cell_of (List.all_eq_true.1 hall _ (List.getElem_mem (show s + e < cs.length by omega)))
   have eg : cs.getD ((cs.length : Int) - 1 - d).toNat (0, 0) = cs[s + e] := by rw [e1]; exact getD_at _ _ _
   rw [← eg] at hce
   have hG := loss_ok (cs.getD ((cs.length : Int) - 1 - d).toNat (0, 0)) nm l sp ac br ⟨hce.2.2.1, hce.2.2.2⟩ l7 l8
   have hgr := loss_range (cs.getD ((cs.length : Int) - 1 - d).toNat (0, 0)).2 br l7 l8
   have a6 := row_len (cs.length - s + 1) fun j => if j + d < cs.length - s then fwd cs s l.toNat sp ac j else sqW cs s l.toNat sp ac br j
   have a4 := sqW_range (start := s) (l := l.toNat) l3 l4 l5 l6 l7 l8 hall (e + 1)
   have a5 : (row (cs.length - s + 1) fun j => if j + d < cs.length - s then fwd cs s l.toNat sp ac j else sqW cs s l.toNat sp ac br j).getD ((cs.length : Int) - 1 - d + 1 - s).toNat 0 = sqW cs s l.toNat sp ac br (e + 1) := by
    rw [show ((cs.length : Int) - 1 - d + 1 - s).toNat = e + 1 by omega, row_get (by omega), if_neg (by omega)]
   have a7 : (row (cs.length - s + 1) fun j => if j + d < cs.length - s then fwd cs s l.toNat sp ac j else sqW cs s l.toNat sp ac br j).getD ((cs.length : Int) - 1 - d - s).toNat 0 = fwd cs s l.toNat sp ac e := by
    rw [show ((cs.length : Int) - 1 - d - s).toNat = e by omega, row_get (by omega), if_pos (by omega)]
   rw [← a5] at a4
   repeat' (first
    |with_reducible (first|refine q_and ?_ ?_|exact True.intro|exact TkEq.nil _|refine Red.o (by constructor) ?_|refine blockK_o' rfl ?_|refine LoopX_e' rfl ?_|assumption)
    |((with_reducible apply q_call);refine X_pure (hG) rfl ?_)
    |((with_reducible apply q_CI);intro hbq;(try simp only [bq] at hbq);(try (exfalso;omega)))
    |refine Rex.o (by (with_reducible constructor);apply Eq.refl) ?_
    |(intro (hgq : (_ : Bool) = true);(try simp only [bq] at hgq))
    |(intro (hgq : (_ : Bool) = false);(try simp only [bq] at hgq))
    |((with_reducible apply q_VOk);exact fun _ => ⟨rfl,rfl⟩)|(intro _;exact rfl)|((with_reducible apply q_CRB);kernel_rfl)|((with_reducible apply q_bt);simp only [bq])|((with_reducible apply q_eqN);rfl)|((with_reducible apply q_FE);exact rfl)|with_reducible (first|exact isByte_wrap _|exact isByte_nat _)|(simp only [hgq,bq];done)|omega|(dsimp only;omega))
   ·rfl
   ·
    refine LoopK_n (d + 1) ?_ ((by omega)) (by (try dsimp only); omega)
    refine X_weak rfl rfl rfl ?_ ?_ <;> repeat' (first|with_reducible (first|refine Wk.o (by constructor) ?_|refine q_and ?_ ?_|exact True.intro)|refine q_AgS rfl ?_ ?_|exact CLe.nil_tipS|exact CLe.nil_rowS|refine HLe.cells ?_ ?_|refine HLe.els ?_ ?_|refine SLe.cons ?_ ?_|exact (rfl : known _ = _)|with_reducible rfl|omega)
    all_goals (
     rw [a5, a7, show ((cs.length : Int) - 1 - d - s).toNat = e by omega, e1]
     refine row_set (i := e) ?_ fun j hj hne => ?_
     ·rw [if_neg (by omega)]
      exact sqW_mid e (by omega) (by omega)
     ·by_cases hji : j + d < cs.length - s
      ·rw [if_pos hji, if_pos (by omega)]
      ·rw [if_neg hji, if_neg (by omega)])
  ·
   have hr : row (cs.length - s + 1) (fun j => if j + d < cs.length - s then fwd cs s l.toNat sp ac j else sqW cs s l.toNat sp ac br j) = row (cs.length - s + 1) (sqW cs s l.toNat sp ac br) := row_ext fun j hj => by
    by_cases hj0 : j + d < cs.length - s
    ·rw [if_pos hj0, show j = 0 by omega, sqW_zero]; rfl
    ·rw [if_neg hj0]
   repeat' (first
    |with_reducible (first|refine q_and ?_ ?_|exact True.intro|exact TkEq.nil _|refine Red.o (by constructor) ?_|refine blockK_o' rfl ?_|refine LoopX_e' rfl ?_|assumption)
    |((with_reducible apply q_CI);intro hbq;(try simp only [bq] at hbq);(try (exfalso;omega)))
    |refine Rex.o (by (with_reducible constructor);apply Eq.refl) ?_
    |(intro (hgq : (_ : Bool) = true);(try simp only [bq] at hgq))
    |(intro (hgq : (_ : Bool) = false);(try simp only [bq] at hgq))
    |((with_reducible apply q_VOk);exact fun _ => ⟨rfl,rfl⟩)|(intro _;exact rfl)|((with_reducible apply q_CRB);kernel_rfl)|((with_reducible apply q_bt);simp only [bq])|((with_reducible apply q_eqN);rfl)|((with_reducible apply q_FE);exact rfl)|with_reducible (first|exact isByte_wrap _|exact isByte_nat _)|(simp only [hgq,bq];done)|omega|(dsimp only;omega))
   ·rfl
   ·rw [hr]
    repeat' (first|with_reducible (first|refine Wk.o (by constructor) ?_|refine q_and ?_ ?_|exact True.intro)|refine VEq.c ?_|refine VEq.agg ?_|refine VEq.tup ?_|refine TkEq.cells ?_ ?_|refine TkEq.els ?_ ?_|refine SEqL.cons ?_ ?_|refine TEqL.agg ?_ ?_|refine CEq.rows ?_|refine CEq.int ?_|rfl|omega)
end Go.Proofs.YtbpeakgihhdocaaGreat.Av
namespace Go.Proofs.YtbpeakgihhdocaaGreat
open Go.RowKit
theorem refFloor_any (a b : Int) (w : World) (ha : -9223372036854775808 ≤ a) (ha' : a ≤ 9223372036854775807) (hb : 1 ≤ b) (hb' : b ≤ 9223372036854775807) :
  Calls Tryz.prog 11 #[.int .i64 a, .int .i64 b] w fun e w' => e = .returned (.int .i64 (a / b)) ∧ w = w' := by
 by_cases h : 0 ≤ a
 ·have h1 := Int.emod_nonneg a (show b ≠ 0 by omega)
  have h2 := Pl.ediv_le_self' a b h hb
  go_enter Tryz.func11, Tryz.ntmps11
  go_wp2
  go_ret
  exact ⟨rfl, rfl⟩
 ·obtain ⟨h1, h2, h3, h4⟩ := Pl.tdiv_of_neg a b (by omega) hb
  have H4 := Lib.hid h4
  clear h4
  by_cases ht : a.tmod b < 0
  ·obtain ⟨h5, h6⟩ := h3 ht
   have H6 := Lib.hid h6
   clear h3 h6
   go_enter Tryz.func11, Tryz.ntmps11
   go_wp2
   go_ret
   exact ⟨ret_int H6.out, rfl⟩
  ·clear h3
   go_enter Tryz.func11, Tryz.ntmps11
   go_wp2
   go_ret
   exact ⟨ret_int (H4.out ht), rfl⟩
theorem floorDiv_any (a b : Int) (w : World) (ha : -9223372036854775808 ≤ a) (ha' : a ≤ 9223372036854775807) (hb : 1 ≤ b) (hb' : b ≤ 9223372036854775807) :
  Calls Tryz.prog 70 #[.int .i64 a, .int .i64 b] w fun e w' => e = .returned (.tuple #[.int .i64 (a / b), .int .i64 0]) ∧ w = w' := by
 by_cases h : 0 ≤ a
 ·have h1 := Int.emod_nonneg a (show b ≠ 0 by omega)
  have h2 := Pl.ediv_le_self' a b h hb
  go_enter Tryz.func70, Tryz.ntmps70
  go_wp2
  go_ret2
  exact ⟨rfl, rfl⟩
 ·obtain ⟨h1, h2, h3, h4⟩ := Pl.tdiv_of_neg a b (by omega) hb
  have H4 := Lib.hid h4
  clear h4
  by_cases ht : a.tmod b < 0
  ·obtain ⟨h5, h6⟩ := h3 ht
   have H6 := Lib.hid h6
   clear h3 h6
   go_enter Tryz.func70, Tryz.ntmps70
   go_wp2
   go_ret2
   exact ⟨ret_int2 H6.out rfl, rfl⟩
  ·clear h3
   go_enter Tryz.func70, Tryz.ntmps70
   go_wp2
   go_ret2
   exact ⟨ret_int2 (H4.out ht) rfl, rfl⟩
theorem refCeil_any (a b : Int) (w : World) (ha : -9223372036854775808 ≤ a) (ha' : a ≤ 9223372036854775807) (hb : 1 ≤ b) (hb' : b ≤ 9223372036854775807) :
  Calls Tryz.prog 23 #[.int .i64 a, .int .i64 b] w fun e w' => e = .returned (.int .i64 (Pl.cdiv a b)) ∧ w = w' := by
 by_cases h : 0 ≤ a
 ·have h1 := Int.emod_nonneg a (show b ≠ 0 by omega)
  have h2 := Pl.ediv_le_self' a b h hb
  by_cases hr : 0 < a % b
  ·have h3 : a / b < a := by
    have := Int.ediv_mul_add_emod a b
    have := Int.mul_le_mul_of_nonneg_left hb h2.1
    omega
   have H := Lib.hid (Pl.cdiv_pos a b h hb hr)
   go_enter Tryz.func23, Tryz.ntmps23
   go_wp2
   go_ret
   exact ⟨ret_int H.out.symm, rfl⟩
  ·have H := Lib.hid (Pl.cdiv_zero a b hb (by omega))
   go_enter Tryz.func23, Tryz.ntmps23
   go_wp2
   go_ret
   exact ⟨ret_int H.out.symm, rfl⟩
 ·obtain ⟨h1, h2, h3, h4⟩ := Pl.tdiv_of_neg a b (by omega) hb
  obtain ⟨g1, g2, g3, g4⟩ := Pl.tmod_of_neg a b (by omega) hb
  have H := Lib.hid (Pl.cdiv_neg a b (by omega) hb)
  clear h4 h3 g3 g4
  go_enter Tryz.func23, Tryz.ntmps23
  go_wp2
  go_ret
  exact ⟨ret_int H.out.symm, rfl⟩
theorem ceilDiv_any (a b : Int) (w : World) (ha : -9223372036854775808 ≤ a) (ha' : a ≤ 9223372036854775807) (hb : 1 ≤ b) (hb' : b ≤ 9223372036854775807) :
  Calls Tryz.prog 69 #[.int .i64 a, .int .i64 b] w fun e w' => e = .returned (.tuple #[.int .i64 (Pl.cdiv a b), .int .i64 0]) ∧ w = w' := by
 by_cases h : 0 ≤ a
 ·have h1 := Int.emod_nonneg a (show b ≠ 0 by omega)
  have h2 := Pl.ediv_le_self' a b h hb
  by_cases hr : 0 < a % b
  ·have h3 : a / b < a := by
    have := Int.ediv_mul_add_emod a b
    have := Int.mul_le_mul_of_nonneg_left hb h2.1
    omega
   have H := Lib.hid (Pl.cdiv_pos a b h hb hr)
   go_enter Tryz.func69, Tryz.ntmps69
   go_wp2
   go_ret2
   exact ⟨ret_int2 H.out.symm rfl, rfl⟩
  ·have H := Lib.hid (Pl.cdiv_zero a b hb (by omega))
   go_enter Tryz.func69, Tryz.ntmps69
   go_wp2
   go_ret2
   exact ⟨ret_int2 H.out.symm rfl, rfl⟩
 ·obtain ⟨h1, h2, h3, h4⟩ := Pl.tdiv_of_neg a b (by omega) hb
  obtain ⟨g1, g2, g3, g4⟩ := Pl.tmod_of_neg a b (by omega) hb
  have H := Lib.hid (Pl.cdiv_neg a b (by omega) hb)
  clear h4 h3 g3 g4
  go_enter Tryz.func69, Tryz.ntmps69
  go_wp2
  go_ret2
  exact ⟨ret_int2 H.out.symm rfl, rfl⟩
end Go.Proofs.YtbpeakgihhdocaaGreat
namespace Go.Proofs.YtbpeakgihhdocaaGreat
open Go.RowKit
theorem sqrt_any (n : Nat) (w : World) (hn : (n : Int) ≤ 9223372036854775807) :
  Calls Tryz.prog 87 #[.int .i64 n] w fun e w' => e = .returned (.int .i64 (Pl.isqrt n : Nat)) ∧ w = w' := by
 go_enter Tryz.func87, Tryz.ntmps87
 go_wp2
 go_loop [3, 4] (fun u v => ∃ k p r : Nat, Hid (p = 2 ^ k) ∧ k ≤ 32 ∧ r + p ≤ 4294967296 ∧ Hid (r * r ≤ n ∧ n < (r + p) * (r + p)) ∧ u = .int .i64 r ∧ v = .int .i64 ((p / 2 : Nat) : Int)) (fun _ v => (intOf v).toNat)
 case atStart => exact ⟨32, 4294967296, 0, Lib.hid rfl, by omega, by omega, Lib.hid (by omega), rfl, rfl⟩
 case round =>
  obtain ⟨k, p, r, Hp, hk, hr, Hn, rfl, rfl⟩ := hrel
  cases k with
  | zero =>
   have hp : p = 1 := Hp.out
   subst hp
   go_wp2
   go_ret
   exact ⟨ret_int (by rw [Pl.isqrt_unique n r Hn.out.1 Hn.out.2]), rfl⟩
  | succ k =>
   obtain ⟨q, Hq⟩ : ∃ q : Nat, Hid (q = 2 ^ k) := ⟨_, Lib.hid rfl⟩
   obtain rfl : p = 2 * q := by rw [Hp.out, Hq.out, Nat.pow_succ]; omega
   have hq : 1 ≤ q := by rw [Hq.out]; exact Nat.one_le_two_pow
   have hle : Hid (r + q ≤ n / (r + q) ↔ (r + q) * (r + q) ≤ n) := Lib.hid (Nat.le_div_iff_mul_le (by omega))
   have hi1 : (n : Int) / ((r : Int) + (q : Int)) = ((n / (r + q) : Nat) : Int) := by simp
   have hi2 : (n : Int) / ((r : Int) + (q : Int)) ≤ 9223372036854775807 := by
    rw [hi1]; have := Nat.div_le_self n (r + q); omega
   rw [show 2 * q / 2 = q by omega]
   by_cases hd : r + q ≤ n / (r + q)
   ·have hi3 : (r : Int) + (q : Int) ≤ (n : Int) / ((r : Int) + (q : Int)) := by rw [hi1]; omega
    have Hm : Hid ((r + q) * (r + q) ≤ n ∧ n < (r + q + q) * (r + q + q)) := Lib.hid ⟨hle.out.1 hd, by rw [Nat.add_assoc, ← Nat.two_mul]; exact Hn.out.2⟩
    clear hi1 hd
    go_wp2
    go_round
    case rel => exact ⟨k, q, r + q, Hq, by omega, by omega, Hm, by go_num, by go_num⟩
    case measure => simp [intOf]; omega
   ·have hi3 : (n : Int) / ((r : Int) + (q : Int)) < (r : Int) + (q : Int) := by rw [hi1]; omega
    have hi4 : 0 ≤ (n : Int) / ((r : Int) + (q : Int)) := by rw [hi1]; exact Int.natCast_nonneg _
    have Hm : Hid (r * r ≤ n ∧ n < (r + q) * (r + q)) := Lib.hid ⟨Hn.out.1, Nat.lt_of_not_le (fun h => hd (hle.out.2 h))⟩
    clear hi1 hd
    go_wp2
    go_round
    case rel => exact ⟨k, q, r, Hq, by omega, by omega, Hm, rfl, by go_num⟩
    case measure => simp [intOf]; omega
end Go.Proofs.YtbpeakgihhdocaaGreat
