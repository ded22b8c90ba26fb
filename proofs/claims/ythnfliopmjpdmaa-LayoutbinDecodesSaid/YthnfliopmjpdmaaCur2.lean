/- The cursor of layoutbin reads a layout. -/
import Derived.Test.YthnfliopmjpdmaaCur
import Derived.Test.YthnfliopmjpdmaaAvLay
namespace Go.Proofs.Ythnfliopmjpdmaa.Av
set_option linter.unusedVariables false
set_option linter.unusedSimpArgs false
set_option maxRecDepth 4000
set_option maxHeartbeats 4000000

theorem curD : DataBox Cur.box := ⟨fun σ x => rfl, fun n x => rfl⟩
def Cur.n (c : Cur) (k : Nat) : Nat := leNum (c.bytes k).1 (c.bytes k).1.size
def Cur.af (c : Cur) (k : Nat) : Cur := (c.bytes k).2
def Cur.nm (c : Cur) : ByteArray := c.name.1
def Cur.afn (c : Cur) : Cur := c.name.2
theorem Cur.bytes_le (c : Cur) (k : Nat) : (c.bytes k).1.size ≤ k := by
  unfold Cur.bytes
  split
  · simp [ByteArray.size]
  · simp; omega
theorem Cur.n_lt (c : Cur) (k : Nat) : c.n k < 2 ^ (8 * k) :=
  Nat.lt_of_lt_of_le (leNum_lt _ _) (Nat.pow_le_pow_right (by omega) (by have := c.bytes_le k; omega))
theorem Cur.n1 (c : Cur) : c.n 1 < 256 := c.n_lt 1
theorem Cur.af_ok {c : Cur} (h : c.ok) (k : Nat) : (c.af k).ok := by
  obtain ⟨h1, h2⟩ := h
  unfold Cur.af Cur.bytes
  split
  · exact ⟨h1, h2⟩
  · rename_i hh
    refine ⟨?_, h2⟩
    simp at hh ⊢
    omega
theorem Cur.afn_ok {c : Cur} (h : c.ok) : c.afn.ok := by
  unfold Cur.afn Cur.name
  split
  · exact h
  · split
    · exact Cur.af_ok h _
    · exact Cur.af_ok h _
theorem num_ok (c : Cur) (k : Nat) (hc : c.ok) (hk : k ≤ 4) : Ok Try.prog 33 [.c (.ptr 0 0), i64 k] [some c.box] (i64 (c.n k)) [some (c.af k).box] := cursor_number c k hc hk
theorem nm_ok (c : Cur) (hc : c.ok) : Ok Try.prog 52 [.c (.ptr 0 0)] [some c.box] (aS c.nm) [some c.afn.box] := cursor_name c hc
def Cur.stepN (c : Cur) : ByteArray × Cur := (c.nm, c.afn)
def Cur.stepS (c : Cur) : Sec × Cur := (⟨c.nm, c.afn.n 2, (c.afn.af 2).n 3, ((c.afn.af 2).af 3).n 1 - 40, (((c.afn.af 2).af 3).af 1).n 1 - 1⟩, (((c.afn.af 2).af 3).af 1).af 1)
def Cur.stepL (c : Cur) : Lnk × Cur := (⟨(c.n 1 / 2 : Nat), (c.n 1 % 2 : Nat), ((c.af 1).n 1 / 2 : Nat), ((c.af 1).n 1 % 2 : Nat), ((c.af 1).af 1).n 1 - 1, (((c.af 1).af 1).af 1).n 1⟩, (((c.af 1).af 1).af 1).af 1)
theorem loopN_ok {α : Type} {step : Cur → α × Cur} (hs : ∀ c : Cur, c.ok → (step c).2.ok) {c : Cur} (h : c.ok) : ∀ i, (loopN step c i).2.ok
  | 0 => h
  | i + 1 => hs _ (loopN_ok hs h i)
theorem stepN_ok (c : Cur) (h : c.ok) : c.stepN.2.ok := Cur.afn_ok h
theorem stepS_ok (c : Cur) (h : c.ok) : c.stepS.2.ok := Cur.af_ok (Cur.af_ok (Cur.af_ok (Cur.af_ok (Cur.afn_ok h) _) _) _) _
theorem stepL_ok (c : Cur) (h : c.ok) : c.stepL.2.ok := Cur.af_ok (Cur.af_ok (Cur.af_ok (Cur.af_ok h _) _) _) _
def Cur.lay (c : Cur) : Lay × Cur :=
  let c4 := (((c.af 1).af 1).af 1).af 1
  let A := loopN Cur.stepN c4 (c.n 1)
  let B := loopN Cur.stepN A.2 ((c.af 1).n 1)
  let C := loopN Cur.stepS B.2 (((c.af 1).af 1).n 1)
  let D := loopN Cur.stepL C.2 ((((c.af 1).af 1).af 1).n 1)
  (⟨A.1, B.1, C.1, D.1⟩, D.2)
theorem cursor_layout (c : Cur) (hc : c.ok) :
    Ok Try.prog 32 [.c (.ptr 0 0)] [some c.box] (aLay c.lay.1) [some c.lay.2.box] := by
  have k1 := c.n1
  have k2 := (c.af 1).n1
  have k3 := ((c.af 1).af 1).n1
  have k4 := (((c.af 1).af 1).af 1).n1
  obtain ⟨c4, e4⟩ : ∃ c4, (((c.af 1).af 1).af 1).af 1 = c4 := ⟨_, rfl⟩
  have hc4 : c4.ok := by rw [← e4]; exact Cur.af_ok (Cur.af_ok (Cur.af_ok (Cur.af_ok hc _) _) _) _
  refine ok_fn mixed Try.func32 rfl (by kernel_rfl) (Nat.le_of_ble_eq_true (by kernel_rfl)) (by kernel_rfl) rfl rfl (Nat.le_of_ble_eq_true rfl) rfl ?_
  simp only [arg0, i64, aB, aS, List.length_cons, List.length_nil, Nat.zero_add, Nat.reduceAdd]
  repeat' (first
    |with_reducible refine WR_pp ?_
    |with_reducible refine WR_pd ?_
    |with_reducible refine W_seq ?_
    |with_reducible refine seqK_n ?_
    |with_reducible refine seqK_r ?_
    |with_reducible refine seqK_e ?_
    |with_reducible refine W_block ?_
    |with_reducible refine blockK_n ?_
    |with_reducible refine blockK_e rfl ?_
    |with_reducible refine blockK_r ?_
    |with_reducible refine blockK_o (by decide) ?_
    |with_reducible refine LoopK_e ?_
    |with_reducible refine LoopK_r ?_
    |with_reducible refine LoopX_e (by decide) ?_
    |with_reducible refine LoopX_r ?_
    |with_reducible refine W_skip ?_
    |with_reducible refine W_exit ?_
    |with_reducible refine W_ret ?_
    |with_reducible refine W_region (WOps_WR ?_)
    |with_reducible refine W_draw (WOpsD_WR ?_)
    |with_reducible refine WR_nil ?_
    |(apply R_callB Cur.box curD;(focus rfl);(focus (apply Eq.trans;(focus (repeat (first|exact args_n|(apply args_c;(focus (simp only [ee,Nat.reduceEqDiff];try rfl);done))));done);(focus (simp only [zz];try rfl);done)));(focus (simp only [hh,Nat.reduceAdd];try rfl);done);(focus exact (num_ok _ 1 (by repeat (first | assumption | apply Cur.af_ok | apply Cur.afn_ok)) (by decide)));(iterate 2 (focus rfl));(focus (simp only [hh,Nat.reduceAdd];try rfl);done))
    |(apply WR_nilD;(focus kernel_rfl))
    |(apply R_want;(focus exact wantA_t rfl rfl rfl (by (simp only [ee,Nat.reduceEqDiff];first|done|rfl)) (by first|rfl|assumption)))
    |(apply R_move;(focus (simp only [ee,Nat.reduceEqDiff];try rfl);done);(focus rfl))
    |(apply R_assign;(focus (simp only [ee,Nat.reduceEqDiff];try rfl);done);(focus rfl))
    |(apply R_assign_tip;(focus (simp only [ee,Nat.reduceEqDiff];try rfl);done))
    |(apply R_move_tip;(focus rfl);(focus (simp only [ee,Nat.reduceEqDiff];try rfl);done))
    |(apply R_move_row;(focus rfl);(focus (simp only [ee,Nat.reduceEqDiff];try rfl);done))
    |(apply R_nil_ptr;(focus (simp only [ee,Nat.reduceEqDiff];try rfl);done))
    |(apply R_nil_ip;(focus (simp only [ee,Nat.reduceEqDiff];try rfl);done))
    |(apply R_fa_ptr;(focus (simp only [fldOffAll];try rfl);done);(focus (simp only [ee,Nat.reduceEqDiff];try rfl);done);(focus (simp only [Nat.reduceAdd,Nat.zero_add,Nat.reduceMul];try rfl);done))
    |(apply R_fa_ip;(focus (simp only [fldOffAll];try rfl);done);(focus (simp only [ee,Nat.reduceEqDiff];try rfl);done);(focus (simp only [Nat.reduceAdd,Nat.zero_add,Nat.reduceMul];try rfl);done))
    |(apply R_load_tip;(focus rfl);(focus (simp only [tszAll];try rfl);done);(focus (simp only [ee,Nat.reduceEqDiff];try rfl);done);(focus (simp only [hh,Nat.reduceAdd];try rfl);done);(focus rfl);(focus (simp only [hh,Nat.reduceAdd];try rfl);done))
    |(apply R_load_ptr1;(focus (simp only [tszAll];try rfl);done);(focus (simp only [ee,Nat.reduceEqDiff];try rfl);done);(focus (simp only [hh,Nat.reduceAdd];try rfl);done);(iterate 2 (focus rfl)))
    |(apply R_load_dem;(focus rfl);(focus (simp only [tszAll];try rfl);done);(focus (simp only [ee,Nat.reduceEqDiff];try rfl);done);(focus (simp only [hh,Nat.reduceAdd];try rfl);done);(focus rfl))
    |(apply R_load_ptrn;(focus (simp only [tszAll];try rfl);done);(focus (simp only [ee,Nat.reduceEqDiff];try rfl);done);(focus (simp only [hh,Nat.reduceAdd];try rfl);done);(focus exact Nat.le_of_ble_eq_true rfl);(focus rfl))
    |(apply R_load_rw;(focus (simp only [tszAll];try rfl);done);(focus (simp only [ee,Nat.reduceEqDiff];try rfl);done);(focus rfl);(focus intro _;rfl;done);(focus assumption);(focus (simp only [fStr,fSec,fLnk,fInt,fS,fI,fB,List.map_cons,List.map_nil];try rfl);done))
    |(apply R_load_rk;(focus (simp only [tszAll];try rfl);done);(focus (simp only [ee,Nat.reduceEqDiff];try rfl);done);(focus rfl);(focus intro _;rfl;done);(focus assumption);(focus rfl);(focus (simp only [fStr,fSec,fLnk,fInt,fS,fI,fB,List.getElem?_cons_zero,List.getElem?_cons_succ];try rfl);done))
    |(apply R_load_r1;(focus (simp only [tszAll];try rfl);done);(focus (simp only [ee,Nat.reduceEqDiff];try rfl);done);(focus rfl);(focus intro _;rfl;done);(focus assumption);(focus (simp only [fStr,fSec,fLnk,fInt,fS,fI,fB,List.map_cons,List.map_nil];try rfl);done))
    |(apply R_load_ip1;(focus (simp only [tszAll];try rfl);done);(focus (simp only [ee,Nat.reduceEqDiff];try rfl);done);(focus rfl))
    |(apply R_load_ipn;(focus (simp only [tszAll];try rfl);done);(focus (simp only [ee,Nat.reduceEqDiff];try rfl);done);(focus exact Nat.le_of_ble_eq_true rfl);(focus rfl))
    |(apply R_store_tip;(focus (simp only [tszAll];try rfl);done);(focus (simp only [ee,Nat.reduceEqDiff];try rfl);done);(focus (simp only [hh,Nat.reduceAdd];try rfl);done);(focus (simp only [ee,Nat.reduceEqDiff];try rfl);done);(focus rfl);(focus (simp only [hh,Nat.reduceAdd];try rfl);done))
    |(apply R_store;(focus (simp only [tszAll];try rfl);done);(focus (simp only [ee,Nat.reduceEqDiff];try rfl);done);(focus (simp only [hh,Nat.reduceAdd];try rfl);done);(focus (simp only [ee,Nat.reduceEqDiff];try rfl);done);(iterate 2 (focus rfl));(focus exact ⟨rfl,Nat.le_of_ble_eq_true rfl⟩);(focus (simp only [hh,Nat.reduceAdd];try rfl);done))
    |(apply R_ia_row;(focus (simp only [elemSzAll];try rfl);done);(focus (simp only [ee,Nat.reduceEqDiff];try rfl);done);(focus rfl);(focus (simp only [ee,Nat.reduceEqDiff];try rfl);done);(iterate 2 (focus omega));(focus (simp only [Int.toNat_natCast];try rfl);done))
    |(apply R_ia_arr;(focus (simp only [elemSzAll];try rfl);done);(iterate 2 (focus (simp only [ee,Nat.reduceEqDiff];try rfl);done));(iterate 2 (focus omega));(focus (simp only [Int.toNat_natCast];try rfl);done))
    |(apply R_field;(focus (simp only [fldAtAll];try rfl);done);(focus (simp only [ee,Nat.reduceEqDiff];try rfl);done);(focus rfl))
    |(apply R_extract;(focus (simp only [ee,Nat.reduceEqDiff];try rfl);done);(focus rfl))
    |(apply R_add;(iterate 2 (focus (simp only [ee,Nat.reduceEqDiff];try rfl);done));(iterate 2 (focus omega)))
    |(apply R_sub;(iterate 2 (focus (simp only [ee,Nat.reduceEqDiff];try rfl);done));(iterate 2 (focus omega)))
    |(apply R_mul;(iterate 2 (focus (simp only [ee,Nat.reduceEqDiff];try rfl);done));(iterate 2 (focus omega)))
    |(apply R_quo;(iterate 2 (focus (simp only [ee,Nat.reduceEqDiff];try rfl);done));(iterate 3 (focus omega)))
    |(apply R_rem;(iterate 2 (focus (simp only [ee,Nat.reduceEqDiff];try rfl);done));(iterate 2 (focus omega)))
    |(apply R_sadd;(iterate 2 (focus (simp only [ee,Nat.reduceEqDiff];try rfl);done));(focus omega))
    |(apply R_ibin;(iterate 2 (focus (simp only [ee,Nat.reduceEqDiff];try rfl);done));(focus rfl))
    |(apply R_sbin;(iterate 2 (focus (simp only [ee,Nat.reduceEqDiff];try rfl);done));(focus rfl))
    |(apply R_un;(focus (simp only [ee,Nat.reduceEqDiff];try rfl);done);(focus rfl))
    |(apply R_index_strD;(focus (simp only [undAll];try rfl);done);(iterate 2 (focus (simp only [ee,Nat.reduceEqDiff];try rfl);done));(iterate 2 (focus omega)))
    |(apply R_len_str;(focus (simp only [undAll];try rfl);done);(focus (simp only [ee,Nat.reduceEqDiff];try rfl);done))
    |(apply R_len_row;(focus (simp only [elemSzAll];try rfl);done);(focus (simp only [ee,Nat.reduceEqDiff];try rfl);done);(focus rfl))
    |(apply R_len_arr;(focus (simp only [elemSzAll];try rfl);done);(focus (simp only [ee,Nat.reduceEqDiff];try rfl);done))
    |(apply R_len_nil;(focus (simp only [undAll];try rfl);done);(focus (simp only [ee,Nat.reduceEqDiff];try rfl);done))
    |(apply R_pickT;(focus (simp only [ee,Nat.reduceEqDiff];try rfl);done);(focus exact (by first|rfl|assumption));(focus (simp only [ee,Nat.reduceEqDiff];try rfl);done);(focus rfl))
    |(apply R_pickF;(focus (simp only [ee,Nat.reduceEqDiff];try rfl);done);(focus exact (by first|rfl|assumption));(focus (simp only [ee,Nat.reduceEqDiff];try rfl);done);(focus rfl))
    |(apply R_build;(focus (simp only [bInfoAll];try rfl);done);(focus (repeat (first|exact partsC_n|(apply partsC_c;(focus (simp only [ee,Nat.reduceEqDiff];try rfl);done);(focus rfl))));done);(focus rfl))
    |(apply R_buildSlice;(focus (simp only [mkInfoAll];try rfl);done);(focus (repeat (first|exact partsC_n|(apply partsC_c;(focus (simp only [ee,Nat.reduceEqDiff];try rfl);done);(focus rfl))));done);(focus decide);(iterate 2 (focus rfl)))
    |(apply R_slice_str;(focus (simp only [undAll];try rfl);done);(focus (simp only [ee,Nat.reduceEqDiff];try rfl);done);(iterate 2 (focus (first|exact bnd_none|exact bnd_some (by (simp only [ee,Nat.reduceEqDiff];first|done|rfl)));done));(iterate 3 (focus omega)))
    |(apply R_slice_row;(focus (simp only [elemSzAll];try rfl);done);(focus (simp only [ee,Nat.reduceEqDiff];try rfl);done);(focus rfl);(iterate 2 (focus (first|exact bnd_none|exact bnd_some (by (simp only [ee,Nat.reduceEqDiff];first|done|rfl)));done));(iterate 3 (focus omega));(iterate 2 (focus rfl)))
    |(apply R_conv64;(iterate 2 (focus (simp only [undAll];try rfl);done));(focus (simp only [ee,Nat.reduceEqDiff];try rfl);done);(iterate 2 (focus omega)))
    |(apply R_conv_int;(iterate 2 (focus (simp only [undAll];try rfl);done));(focus (simp only [ee,Nat.reduceEqDiff];try rfl);done))
    |(apply R_bbin;(iterate 2 (focus (simp only [ee,Nat.reduceEqDiff];try rfl);done));(focus rfl))
    |(apply R_shl;(iterate 2 (focus (simp only [ee,Nat.reduceEqDiff];try rfl);done));(focus omega))
    |(apply R_shr;(iterate 2 (focus (simp only [ee,Nat.reduceEqDiff];try rfl);done));(focus omega))
    |(apply R_append_tip;(focus (simp only [mkInfoAll];try rfl);done);(focus (simp only [ee,Nat.reduceEqDiff];try rfl);done);(focus (first|exact src_row (by (simp only [ee,Nat.reduceEqDiff];first|done|rfl)) rfl (by (simp only [elemSzAll];first|done|rfl)) (by first|rfl|simp)|exact src_nil (by (simp only [ee,Nat.reduceEqDiff];first|done|rfl)) (by (simp only [elemSzAll];first|done|rfl)));done);(focus (simp only [ee,zz,Nat.reduceEqDiff,arrB];try rfl);done);(iterate 2 (focus omega)))
    |(apply R_append_nil;(focus (simp only [mkInfoAll];try rfl);done);(focus (simp only [ee,Nat.reduceEqDiff];try rfl);done);(focus (first|exact src_row (by (simp only [ee,Nat.reduceEqDiff];first|done|rfl)) rfl (by (simp only [elemSzAll];first|done|rfl)) (by first|rfl|simp)|exact src_nil (by (simp only [ee,Nat.reduceEqDiff];first|done|rfl)) (by (simp only [elemSzAll];first|done|rfl)));done);(focus (simp only [ee,zz,Nat.reduceEqDiff,arrB];try rfl);done);(iterate 2 (focus omega)))
    |(apply R_make;(focus (simp only [mkInfoAll];try rfl);done);(iterate 2 (focus (simp only [ee,Nat.reduceEqDiff];try rfl);done));(iterate 3 (focus omega));(focus (simp only [hh,Nat.reduceAdd];try rfl);done);(focus rfl);(focus (simp only [hh,Nat.reduceAdd];try rfl);done))
    |(apply R_max;(iterate 2 (focus (simp only [ee,Nat.reduceEqDiff];try rfl);done)))
    |(apply R_min;(iterate 2 (focus (simp only [ee,Nat.reduceEqDiff];try rfl);done)))
    |(apply R_alloc;(focus (simp only [zeroCAll];try rfl);done);(iterate 2 (focus (simp only [hh,Nat.reduceAdd];try rfl);done)))
    |(apply R_box;(focus (simp only [ee,Nat.reduceEqDiff];try rfl);done);(focus rfl);(iterate 2 (focus (simp only [hh,Nat.reduceAdd];try rfl);done)))
    |(apply R_skip;(focus first|exact wantA_f1 rfl rfl rfl (by (simp only [ee,Nat.reduceEqDiff];first|done|rfl)) (by first|rfl|assumption)|exact wantA_f0 rfl rfl rfl (by (simp only [ee,Nat.reduceEqDiff];first|done|rfl)) (by first|rfl|assumption)|exact wantA_und rfl rfl rfl (by (simp only [ee,Nat.reduceEqDiff];first|done|rfl))))
    |((with_reducible apply W_condT);(focus (simp only [ee,Nat.reduceEqDiff];try rfl);done);(focus exact (by first|rfl|assumption)))
    |((with_reducible apply W_condF);(focus (simp only [ee,Nat.reduceEqDiff];try rfl);done);(focus exact (by first|rfl|assumption)))
    |((with_reducible apply W_cond);(focus (simp only [ee,Nat.reduceEqDiff];try rfl);done);(all_goals (intro hbq;(first|(cases hbq;done)|(cases hbq)|(have hpq := of_decide_eq_true hbq)|(have hpq := of_decide_eq_false hbq)|skip))))
    |(apply WR_gsplit;(iterate 3 (focus rfl));(focus (simp only [ee,Nat.reduceEqDiff];try rfl);done);(all_goals (intro hbq;(first|(cases hbq;done)|(cases hbq)|(have hpq := of_decide_eq_true hbq)|(have hpq := of_decide_eq_false hbq)|skip))))
    |((with_reducible apply Ret_i);(focus trivial);(focus rfl);(focus (repeat (first|exact res_nil|(apply res_tmp;(focus (simp only [ee,Nat.reduceEqDiff];try rfl);done);(focus rfl);(focus (simp only [zz];try rfl);done))|(apply res_celln;(focus (simp only [tszAll];try rfl);done);(focus (simp only [ee,Nat.reduceEqDiff];try rfl);done);(focus (simp only [hh,Nat.reduceAdd];try rfl);done);(focus exact Nat.le_of_ble_eq_true rfl);(focus rfl);(focus (simp only [zz];try rfl);done))|(apply res_cell1;(focus (simp only [tszAll];try rfl);done);(focus (simp only [ee,Nat.reduceEqDiff];try rfl);done);(focus (simp only [hh,Nat.reduceAdd];try rfl);done);(focus rfl);(focus (simp only [zz];try rfl);done))));done))
    |((with_reducible apply RetP_i);(focus trivial);(focus rfl);(focus (repeat (first|exact res_nil|(apply res_tmp;(focus (simp only [ee,Nat.reduceEqDiff];try rfl);done);(focus rfl);(focus (simp only [zz];try rfl);done))|(apply res_celln;(focus (simp only [tszAll];try rfl);done);(focus (simp only [ee,Nat.reduceEqDiff];try rfl);done);(focus (simp only [hh,Nat.reduceAdd];try rfl);done);(focus exact Nat.le_of_ble_eq_true rfl);(focus rfl);(focus (simp only [zz];try rfl);done))|(apply res_cell1;(focus (simp only [tszAll];try rfl);done);(focus (simp only [ee,Nat.reduceEqDiff];try rfl);done);(focus (simp only [hh,Nat.reduceAdd];try rfl);done);(focus rfl);(focus (simp only [zz];try rfl);done))));done);(focus (simp only [hh,Nat.reduceAdd];try rfl);done)))
  rw [e4]
  refine W_loopS (fun i : Nat => St.of [some (loopN Cur.stepN c4 i).2.box, some [.f .nils, .f .nils, .f .nils, .f .nils], some [.tip 1 ((loopN Cur.stepN c4 i).1.flatMap fStr) i, .f .nils, .f .nils, .f .nils]] [(0, .c (.ptr 0 0)), (2, .c (.ptr 1 0)), (3, .c (.ptr 2 0)), (5, i64 ((c.af 1).n 1)), (6, i64 (((c.af 1).af 1).n 1)), (7, i64 ((((c.af 1).af 1).af 1).n 1)), (18, i64 (c.n 1)), (19, i64 i)]) (fun i => i ≤ c.n 1) (fun i => c.n 1 - i) 0 ?_ (by omega) ?_
  ·
    refine weak_agG (by (simp only [hh,Nat.reduceAdd];first|done|rfl)) (Nat.le_of_ble_eq_true rfl) (Nat.le_of_ble_eq_true rfl) rfl rfl ?_ ?_;(focus (simp only [List.length_cons,List.length_nil,Nat.zero_add,Nat.reduceAdd,List.take_succ_cons,List.take_zero,List.take_nil]));(repeat' (first|exact LeH.nil|(with_reducible apply LeH.some)|(with_reducible apply LeH.none)|(with_reducible exact LeL.refl _)|exact LeL.nil|(with_reducible apply LeL.cons)|(with_reducible exact CVal.Le.refl _)|(with_reducible exact CVal.Le.nil_row)|(with_reducible exact CVal.Le.nil_tip _)|(with_reducible exact CVal.Le.tip_row _ _ _)|(exact CVal.Le.nil_row)|(exact CVal.Le.nil_tip _)|(with_reducible apply CVal.Le.of_eq)|(with_reducible apply LeL.of_eq)))
    (repeat' (first|exact trivial|(refine And.intro ?_ ?_)|(refine ⟨_, by (simp only [ee,Nat.reduceEqDiff];first|done|rfl), ?_⟩)|(first|(with_reducible exact LeS.refl _)|(with_reducible exact LeS.nil_row)|(with_reducible exact LeS.nil_tip _)|(with_reducible exact LeS.tip_row _ _ _)|(exact LeS.nil_row)|(exact LeS.nil_tip _)|(refine LeS.of_eq ?_))));(all_goals (try rfl))
  · intro i hi
    have hci := loopN_ok stepN_ok hc4 i
    simp only [i64, aS]
    repeat' (first
      |with_reducible refine WR_pp ?_
      |with_reducible refine WR_pd ?_
      |with_reducible refine W_seq ?_
      |with_reducible refine seqK_n ?_
      |with_reducible refine seqK_r ?_
      |with_reducible refine seqK_e ?_
      |with_reducible refine W_block ?_
      |with_reducible refine blockK_n ?_
      |with_reducible refine blockK_e rfl ?_
      |with_reducible refine blockK_r ?_
      |with_reducible refine blockK_o (by decide) ?_
      |with_reducible refine LoopK_e ?_
      |with_reducible refine LoopK_r ?_
      |with_reducible refine LoopX_e (by decide) ?_
      |with_reducible refine LoopX_r ?_
      |with_reducible refine W_skip ?_
      |with_reducible refine W_exit ?_
      |with_reducible refine W_ret ?_
      |with_reducible refine W_region (WOps_WR ?_)
      |with_reducible refine W_draw (WOpsD_WR ?_)
      |with_reducible refine WR_nil ?_
      |(apply R_callB Cur.box curD;(focus rfl);(focus (apply Eq.trans;(focus (repeat (first|exact args_n|(apply args_c;(focus (simp only [ee,Nat.reduceEqDiff];try rfl);done))));done);(focus (simp only [zz];try rfl);done)));(focus (simp only [hh,Nat.reduceAdd];try rfl);done);(focus exact (nm_ok _ (by repeat (first | assumption | apply Cur.af_ok | apply Cur.afn_ok))));(iterate 2 (focus rfl));(focus (simp only [hh,Nat.reduceAdd];try rfl);done))
      |(apply WR_nilD;(focus kernel_rfl))
      |(apply R_want;(focus exact wantA_t rfl rfl rfl (by (simp only [ee,Nat.reduceEqDiff];first|done|rfl)) (by first|rfl|assumption)))
      |(apply R_move;(focus (simp only [ee,Nat.reduceEqDiff];try rfl);done);(focus rfl))
      |(apply R_assign;(focus (simp only [ee,Nat.reduceEqDiff];try rfl);done);(focus rfl))
      |(apply R_assign_tip;(focus (simp only [ee,Nat.reduceEqDiff];try rfl);done))
      |(apply R_move_tip;(focus rfl);(focus (simp only [ee,Nat.reduceEqDiff];try rfl);done))
      |(apply R_move_row;(focus rfl);(focus (simp only [ee,Nat.reduceEqDiff];try rfl);done))
      |(apply R_nil_ptr;(focus (simp only [ee,Nat.reduceEqDiff];try rfl);done))
      |(apply R_nil_ip;(focus (simp only [ee,Nat.reduceEqDiff];try rfl);done))
      |(apply R_fa_ptr;(focus (simp only [fldOffAll];try rfl);done);(focus (simp only [ee,Nat.reduceEqDiff];try rfl);done);(focus (simp only [Nat.reduceAdd,Nat.zero_add,Nat.reduceMul];try rfl);done))
      |(apply R_fa_ip;(focus (simp only [fldOffAll];try rfl);done);(focus (simp only [ee,Nat.reduceEqDiff];try rfl);done);(focus (simp only [Nat.reduceAdd,Nat.zero_add,Nat.reduceMul];try rfl);done))
      |(apply R_load_tip;(focus rfl);(focus (simp only [tszAll];try rfl);done);(focus (simp only [ee,Nat.reduceEqDiff];try rfl);done);(focus (simp only [hh,Nat.reduceAdd];try rfl);done);(focus rfl);(focus (simp only [hh,Nat.reduceAdd];try rfl);done))
      |(apply R_load_ptr1;(focus (simp only [tszAll];try rfl);done);(focus (simp only [ee,Nat.reduceEqDiff];try rfl);done);(focus (simp only [hh,Nat.reduceAdd];try rfl);done);(iterate 2 (focus rfl)))
      |(apply R_load_dem;(focus rfl);(focus (simp only [tszAll];try rfl);done);(focus (simp only [ee,Nat.reduceEqDiff];try rfl);done);(focus (simp only [hh,Nat.reduceAdd];try rfl);done);(focus rfl))
      |(apply R_load_ptrn;(focus (simp only [tszAll];try rfl);done);(focus (simp only [ee,Nat.reduceEqDiff];try rfl);done);(focus (simp only [hh,Nat.reduceAdd];try rfl);done);(focus exact Nat.le_of_ble_eq_true rfl);(focus rfl))
      |(apply R_load_rw;(focus (simp only [tszAll];try rfl);done);(focus (simp only [ee,Nat.reduceEqDiff];try rfl);done);(focus rfl);(focus intro _;rfl;done);(focus assumption);(focus (simp only [fStr,fSec,fLnk,fInt,fS,fI,fB,List.map_cons,List.map_nil];try rfl);done))
      |(apply R_load_rk;(focus (simp only [tszAll];try rfl);done);(focus (simp only [ee,Nat.reduceEqDiff];try rfl);done);(focus rfl);(focus intro _;rfl;done);(focus assumption);(focus rfl);(focus (simp only [fStr,fSec,fLnk,fInt,fS,fI,fB,List.getElem?_cons_zero,List.getElem?_cons_succ];try rfl);done))
      |(apply R_load_r1;(focus (simp only [tszAll];try rfl);done);(focus (simp only [ee,Nat.reduceEqDiff];try rfl);done);(focus rfl);(focus intro _;rfl;done);(focus assumption);(focus (simp only [fStr,fSec,fLnk,fInt,fS,fI,fB,List.map_cons,List.map_nil];try rfl);done))
      |(apply R_load_ip1;(focus (simp only [tszAll];try rfl);done);(focus (simp only [ee,Nat.reduceEqDiff];try rfl);done);(focus rfl))
      |(apply R_load_ipn;(focus (simp only [tszAll];try rfl);done);(focus (simp only [ee,Nat.reduceEqDiff];try rfl);done);(focus exact Nat.le_of_ble_eq_true rfl);(focus rfl))
      |(apply R_store_tip;(focus (simp only [tszAll];try rfl);done);(focus (simp only [ee,Nat.reduceEqDiff];try rfl);done);(focus (simp only [hh,Nat.reduceAdd];try rfl);done);(focus (simp only [ee,Nat.reduceEqDiff];try rfl);done);(focus rfl);(focus (simp only [hh,Nat.reduceAdd];try rfl);done))
      |(apply R_store;(focus (simp only [tszAll];try rfl);done);(focus (simp only [ee,Nat.reduceEqDiff];try rfl);done);(focus (simp only [hh,Nat.reduceAdd];try rfl);done);(focus (simp only [ee,Nat.reduceEqDiff];try rfl);done);(iterate 2 (focus rfl));(focus exact ⟨rfl,Nat.le_of_ble_eq_true rfl⟩);(focus (simp only [hh,Nat.reduceAdd];try rfl);done))
      |(apply R_ia_row;(focus (simp only [elemSzAll];try rfl);done);(focus (simp only [ee,Nat.reduceEqDiff];try rfl);done);(focus rfl);(focus (simp only [ee,Nat.reduceEqDiff];try rfl);done);(iterate 2 (focus omega));(focus (simp only [Int.toNat_natCast];try rfl);done))
      |(apply R_ia_arr;(focus (simp only [elemSzAll];try rfl);done);(iterate 2 (focus (simp only [ee,Nat.reduceEqDiff];try rfl);done));(iterate 2 (focus omega));(focus (simp only [Int.toNat_natCast];try rfl);done))
      |(apply R_field;(focus (simp only [fldAtAll];try rfl);done);(focus (simp only [ee,Nat.reduceEqDiff];try rfl);done);(focus rfl))
      |(apply R_extract;(focus (simp only [ee,Nat.reduceEqDiff];try rfl);done);(focus rfl))
      |(apply R_add;(iterate 2 (focus (simp only [ee,Nat.reduceEqDiff];try rfl);done));(iterate 2 (focus omega)))
      |(apply R_sub;(iterate 2 (focus (simp only [ee,Nat.reduceEqDiff];try rfl);done));(iterate 2 (focus omega)))
      |(apply R_mul;(iterate 2 (focus (simp only [ee,Nat.reduceEqDiff];try rfl);done));(iterate 2 (focus omega)))
      |(apply R_quo;(iterate 2 (focus (simp only [ee,Nat.reduceEqDiff];try rfl);done));(iterate 3 (focus omega)))
      |(apply R_rem;(iterate 2 (focus (simp only [ee,Nat.reduceEqDiff];try rfl);done));(iterate 2 (focus omega)))
      |(apply R_sadd;(iterate 2 (focus (simp only [ee,Nat.reduceEqDiff];try rfl);done));(focus omega))
      |(apply R_ibin;(iterate 2 (focus (simp only [ee,Nat.reduceEqDiff];try rfl);done));(focus rfl))
      |(apply R_sbin;(iterate 2 (focus (simp only [ee,Nat.reduceEqDiff];try rfl);done));(focus rfl))
      |(apply R_un;(focus (simp only [ee,Nat.reduceEqDiff];try rfl);done);(focus rfl))
      |(apply R_index_strD;(focus (simp only [undAll];try rfl);done);(iterate 2 (focus (simp only [ee,Nat.reduceEqDiff];try rfl);done));(iterate 2 (focus omega)))
      |(apply R_len_str;(focus (simp only [undAll];try rfl);done);(focus (simp only [ee,Nat.reduceEqDiff];try rfl);done))
      |(apply R_len_row;(focus (simp only [elemSzAll];try rfl);done);(focus (simp only [ee,Nat.reduceEqDiff];try rfl);done);(focus rfl))
      |(apply R_len_arr;(focus (simp only [elemSzAll];try rfl);done);(focus (simp only [ee,Nat.reduceEqDiff];try rfl);done))
      |(apply R_len_nil;(focus (simp only [undAll];try rfl);done);(focus (simp only [ee,Nat.reduceEqDiff];try rfl);done))
      |(apply R_pickT;(focus (simp only [ee,Nat.reduceEqDiff];try rfl);done);(focus exact (by first|rfl|assumption));(focus (simp only [ee,Nat.reduceEqDiff];try rfl);done);(focus rfl))
      |(apply R_pickF;(focus (simp only [ee,Nat.reduceEqDiff];try rfl);done);(focus exact (by first|rfl|assumption));(focus (simp only [ee,Nat.reduceEqDiff];try rfl);done);(focus rfl))
      |(apply R_build;(focus (simp only [bInfoAll];try rfl);done);(focus (repeat (first|exact partsC_n|(apply partsC_c;(focus (simp only [ee,Nat.reduceEqDiff];try rfl);done);(focus rfl))));done);(focus rfl))
      |(apply R_buildSlice;(focus (simp only [mkInfoAll];try rfl);done);(focus (repeat (first|exact partsC_n|(apply partsC_c;(focus (simp only [ee,Nat.reduceEqDiff];try rfl);done);(focus rfl))));done);(focus decide);(iterate 2 (focus rfl)))
      |(apply R_slice_str;(focus (simp only [undAll];try rfl);done);(focus (simp only [ee,Nat.reduceEqDiff];try rfl);done);(iterate 2 (focus (first|exact bnd_none|exact bnd_some (by (simp only [ee,Nat.reduceEqDiff];first|done|rfl)));done));(iterate 3 (focus omega)))
      |(apply R_slice_row;(focus (simp only [elemSzAll];try rfl);done);(focus (simp only [ee,Nat.reduceEqDiff];try rfl);done);(focus rfl);(iterate 2 (focus (first|exact bnd_none|exact bnd_some (by (simp only [ee,Nat.reduceEqDiff];first|done|rfl)));done));(iterate 3 (focus omega));(iterate 2 (focus rfl)))
      |(apply R_conv64;(iterate 2 (focus (simp only [undAll];try rfl);done));(focus (simp only [ee,Nat.reduceEqDiff];try rfl);done);(iterate 2 (focus omega)))
      |(apply R_conv_int;(iterate 2 (focus (simp only [undAll];try rfl);done));(focus (simp only [ee,Nat.reduceEqDiff];try rfl);done))
      |(apply R_bbin;(iterate 2 (focus (simp only [ee,Nat.reduceEqDiff];try rfl);done));(focus rfl))
      |(apply R_shl;(iterate 2 (focus (simp only [ee,Nat.reduceEqDiff];try rfl);done));(focus omega))
      |(apply R_shr;(iterate 2 (focus (simp only [ee,Nat.reduceEqDiff];try rfl);done));(focus omega))
      |(apply R_append_tip;(focus (simp only [mkInfoAll];try rfl);done);(focus (simp only [ee,Nat.reduceEqDiff];try rfl);done);(focus (first|exact src_row (by (simp only [ee,Nat.reduceEqDiff];first|done|rfl)) rfl (by (simp only [elemSzAll];first|done|rfl)) (by first|rfl|simp)|exact src_nil (by (simp only [ee,Nat.reduceEqDiff];first|done|rfl)) (by (simp only [elemSzAll];first|done|rfl)));done);(focus (simp only [ee,zz,Nat.reduceEqDiff,arrB];try rfl);done);(iterate 2 (focus omega)))
      |(apply R_append_nil;(focus (simp only [mkInfoAll];try rfl);done);(focus (simp only [ee,Nat.reduceEqDiff];try rfl);done);(focus (first|exact src_row (by (simp only [ee,Nat.reduceEqDiff];first|done|rfl)) rfl (by (simp only [elemSzAll];first|done|rfl)) (by first|rfl|simp)|exact src_nil (by (simp only [ee,Nat.reduceEqDiff];first|done|rfl)) (by (simp only [elemSzAll];first|done|rfl)));done);(focus (simp only [ee,zz,Nat.reduceEqDiff,arrB];try rfl);done);(iterate 2 (focus omega)))
      |(apply R_make;(focus (simp only [mkInfoAll];try rfl);done);(iterate 2 (focus (simp only [ee,Nat.reduceEqDiff];try rfl);done));(iterate 3 (focus omega));(focus (simp only [hh,Nat.reduceAdd];try rfl);done);(focus rfl);(focus (simp only [hh,Nat.reduceAdd];try rfl);done))
      |(apply R_max;(iterate 2 (focus (simp only [ee,Nat.reduceEqDiff];try rfl);done)))
      |(apply R_min;(iterate 2 (focus (simp only [ee,Nat.reduceEqDiff];try rfl);done)))
      |(apply R_alloc;(focus (simp only [zeroCAll];try rfl);done);(iterate 2 (focus (simp only [hh,Nat.reduceAdd];try rfl);done)))
      |(apply R_box;(focus (simp only [ee,Nat.reduceEqDiff];try rfl);done);(focus rfl);(iterate 2 (focus (simp only [hh,Nat.reduceAdd];try rfl);done)))
      |(apply R_skip;(focus first|exact wantA_f1 rfl rfl rfl (by (simp only [ee,Nat.reduceEqDiff];first|done|rfl)) (by first|rfl|assumption)|exact wantA_f0 rfl rfl rfl (by (simp only [ee,Nat.reduceEqDiff];first|done|rfl)) (by first|rfl|assumption)|exact wantA_und rfl rfl rfl (by (simp only [ee,Nat.reduceEqDiff];first|done|rfl))))
      |((with_reducible apply W_condT);(focus (simp only [ee,Nat.reduceEqDiff];try rfl);done);(focus exact (by first|rfl|assumption)))
      |((with_reducible apply W_condF);(focus (simp only [ee,Nat.reduceEqDiff];try rfl);done);(focus exact (by first|rfl|assumption)))
      |((with_reducible apply W_cond);(focus (simp only [ee,Nat.reduceEqDiff];try rfl);done);(all_goals (intro hbq;(first|(cases hbq;done)|(cases hbq)|(have hpq := of_decide_eq_true hbq)|(have hpq := of_decide_eq_false hbq)|skip))))
      |(apply WR_gsplit;(iterate 3 (focus rfl));(focus (simp only [ee,Nat.reduceEqDiff];try rfl);done);(all_goals (intro hbq;(first|(cases hbq;done)|(cases hbq)|(have hpq := of_decide_eq_true hbq)|(have hpq := of_decide_eq_false hbq)|skip))))
      |((with_reducible apply Ret_i);(focus trivial);(focus rfl);(focus (repeat (first|exact res_nil|(apply res_tmp;(focus (simp only [ee,Nat.reduceEqDiff];try rfl);done);(focus rfl);(focus (simp only [zz];try rfl);done))|(apply res_celln;(focus (simp only [tszAll];try rfl);done);(focus (simp only [ee,Nat.reduceEqDiff];try rfl);done);(focus (simp only [hh,Nat.reduceAdd];try rfl);done);(focus exact Nat.le_of_ble_eq_true rfl);(focus rfl);(focus (simp only [zz];try rfl);done))|(apply res_cell1;(focus (simp only [tszAll];try rfl);done);(focus (simp only [ee,Nat.reduceEqDiff];try rfl);done);(focus (simp only [hh,Nat.reduceAdd];try rfl);done);(focus rfl);(focus (simp only [zz];try rfl);done))));done))
      |((with_reducible apply RetP_i);(focus trivial);(focus rfl);(focus (repeat (first|exact res_nil|(apply res_tmp;(focus (simp only [ee,Nat.reduceEqDiff];try rfl);done);(focus rfl);(focus (simp only [zz];try rfl);done))|(apply res_celln;(focus (simp only [tszAll];try rfl);done);(focus (simp only [ee,Nat.reduceEqDiff];try rfl);done);(focus (simp only [hh,Nat.reduceAdd];try rfl);done);(focus exact Nat.le_of_ble_eq_true rfl);(focus rfl);(focus (simp only [zz];try rfl);done))|(apply res_cell1;(focus (simp only [tszAll];try rfl);done);(focus (simp only [ee,Nat.reduceEqDiff];try rfl);done);(focus (simp only [hh,Nat.reduceAdd];try rfl);done);(focus rfl);(focus (simp only [zz];try rfl);done))));done);(focus (simp only [hh,Nat.reduceAdd];try rfl);done)))
    ·
      refine LoopK_n (i + 1) ?_ ?_ ?_
      rotate_left
      · (try dsimp only); omega
      · (try dsimp only); omega
      refine weak_agG (by (simp only [hh,Nat.reduceAdd];first|done|rfl)) (Nat.le_of_ble_eq_true rfl) (Nat.le_of_ble_eq_true rfl) rfl rfl ?_ ?_;(focus (simp only [List.length_cons,List.length_nil,Nat.zero_add,Nat.reduceAdd,List.take_succ_cons,List.take_zero,List.take_nil]));(repeat' (first|exact LeH.nil|(with_reducible apply LeH.some)|(with_reducible apply LeH.none)|(with_reducible exact LeL.refl _)|exact LeL.nil|(with_reducible apply LeL.cons)|(with_reducible exact CVal.Le.refl _)|(with_reducible exact CVal.Le.nil_row)|(with_reducible exact CVal.Le.nil_tip _)|(with_reducible exact CVal.Le.tip_row _ _ _)|(exact CVal.Le.nil_row)|(exact CVal.Le.nil_tip _)|(with_reducible apply CVal.Le.of_eq)|(with_reducible apply LeL.of_eq)))
      (repeat' (first|exact trivial|(refine And.intro ?_ ?_)|(refine ⟨_, by (simp only [ee,Nat.reduceEqDiff];first|done|rfl), ?_⟩)|(first|(with_reducible exact LeS.refl _)|(with_reducible exact LeS.nil_row)|(with_reducible exact LeS.nil_tip _)|(with_reducible exact LeS.tip_row _ _ _)|(exact LeS.nil_row)|(exact LeS.nil_tip _)|(refine LeS.of_eq ?_))));(all_goals (try rfl))
      all_goals (simp [loopN, Cur.stepN, fStr, fS]; done)
    have hie : i = c.n 1 := by omega
    subst hie
    obtain ⟨A, eA⟩ : ∃ A, loopN Cur.stepN c4 (c.n 1) = A := ⟨_, rfl⟩
    rw [eA] at hci ⊢
    refine W_loopS (fun i : Nat => St.of [some (loopN Cur.stepN A.2 i).2.box, some [.f .nils, .f .nils, .f .nils, .f .nils], some [.tip 1 (A.1.flatMap fStr) (c.n 1), .tip 1 ((loopN Cur.stepN A.2 i).1.flatMap fStr) i, .f .nils, .f .nils]] [(0, .c (.ptr 0 0)), (2, .c (.ptr 1 0)), (3, .c (.ptr 2 0)), (6, i64 (((c.af 1).af 1).n 1)), (7, i64 ((((c.af 1).af 1).af 1).n 1)), (29, i64 ((c.af 1).n 1)), (30, i64 i)]) (fun i => i ≤ (c.af 1).n 1) (fun i => (c.af 1).n 1 - i) 0 ?_ (by omega) ?_
    ·
      refine weak_agG (by (simp only [hh,Nat.reduceAdd];first|done|rfl)) (Nat.le_of_ble_eq_true rfl) (Nat.le_of_ble_eq_true rfl) rfl rfl ?_ ?_;(focus (simp only [List.length_cons,List.length_nil,Nat.zero_add,Nat.reduceAdd,List.take_succ_cons,List.take_zero,List.take_nil]));(repeat' (first|exact LeH.nil|(with_reducible apply LeH.some)|(with_reducible apply LeH.none)|(with_reducible exact LeL.refl _)|exact LeL.nil|(with_reducible apply LeL.cons)|(with_reducible exact CVal.Le.refl _)|(with_reducible exact CVal.Le.nil_row)|(with_reducible exact CVal.Le.nil_tip _)|(with_reducible exact CVal.Le.tip_row _ _ _)|(exact CVal.Le.nil_row)|(exact CVal.Le.nil_tip _)|(with_reducible apply CVal.Le.of_eq)|(with_reducible apply LeL.of_eq)))
      (repeat' (first|exact trivial|(refine And.intro ?_ ?_)|(refine ⟨_, by (simp only [ee,Nat.reduceEqDiff];first|done|rfl), ?_⟩)|(first|(with_reducible exact LeS.refl _)|(with_reducible exact LeS.nil_row)|(with_reducible exact LeS.nil_tip _)|(with_reducible exact LeS.tip_row _ _ _)|(exact LeS.nil_row)|(exact LeS.nil_tip _)|(refine LeS.of_eq ?_))));(all_goals (try rfl))
    intro i hi
    have hcj := loopN_ok stepN_ok hci i
    simp only [i64, aS]
    repeat' (first
      |with_reducible refine WR_pp ?_
      |with_reducible refine WR_pd ?_
      |with_reducible refine W_seq ?_
      |with_reducible refine seqK_n ?_
      |with_reducible refine seqK_r ?_
      |with_reducible refine seqK_e ?_
      |with_reducible refine W_block ?_
      |with_reducible refine blockK_n ?_
      |with_reducible refine blockK_e rfl ?_
      |with_reducible refine blockK_r ?_
      |with_reducible refine blockK_o (by decide) ?_
      |with_reducible refine LoopK_e ?_
      |with_reducible refine LoopK_r ?_
      |with_reducible refine LoopX_e (by decide) ?_
      |with_reducible refine LoopX_r ?_
      |with_reducible refine W_skip ?_
      |with_reducible refine W_exit ?_
      |with_reducible refine W_ret ?_
      |with_reducible refine W_region (WOps_WR ?_)
      |with_reducible refine W_draw (WOpsD_WR ?_)
      |with_reducible refine WR_nil ?_
      |(apply R_callB Cur.box curD;(focus rfl);(focus (apply Eq.trans;(focus (repeat (first|exact args_n|(apply args_c;(focus (simp only [ee,Nat.reduceEqDiff];try rfl);done))));done);(focus (simp only [zz];try rfl);done)));(focus (simp only [hh,Nat.reduceAdd];try rfl);done);(focus exact (nm_ok _ (by repeat (first | assumption | apply Cur.af_ok | apply Cur.afn_ok))));(iterate 2 (focus rfl));(focus (simp only [hh,Nat.reduceAdd];try rfl);done))
      |(apply WR_nilD;(focus kernel_rfl))
      |(apply R_want;(focus exact wantA_t rfl rfl rfl (by (simp only [ee,Nat.reduceEqDiff];first|done|rfl)) (by first|rfl|assumption)))
      |(apply R_move;(focus (simp only [ee,Nat.reduceEqDiff];try rfl);done);(focus rfl))
      |(apply R_assign;(focus (simp only [ee,Nat.reduceEqDiff];try rfl);done);(focus rfl))
      |(apply R_assign_tip;(focus (simp only [ee,Nat.reduceEqDiff];try rfl);done))
      |(apply R_move_tip;(focus rfl);(focus (simp only [ee,Nat.reduceEqDiff];try rfl);done))
      |(apply R_move_row;(focus rfl);(focus (simp only [ee,Nat.reduceEqDiff];try rfl);done))
      |(apply R_nil_ptr;(focus (simp only [ee,Nat.reduceEqDiff];try rfl);done))
      |(apply R_nil_ip;(focus (simp only [ee,Nat.reduceEqDiff];try rfl);done))
      |(apply R_fa_ptr;(focus (simp only [fldOffAll];try rfl);done);(focus (simp only [ee,Nat.reduceEqDiff];try rfl);done);(focus (simp only [Nat.reduceAdd,Nat.zero_add,Nat.reduceMul];try rfl);done))
      |(apply R_fa_ip;(focus (simp only [fldOffAll];try rfl);done);(focus (simp only [ee,Nat.reduceEqDiff];try rfl);done);(focus (simp only [Nat.reduceAdd,Nat.zero_add,Nat.reduceMul];try rfl);done))
      |(apply R_load_tip;(focus rfl);(focus (simp only [tszAll];try rfl);done);(focus (simp only [ee,Nat.reduceEqDiff];try rfl);done);(focus (simp only [hh,Nat.reduceAdd];try rfl);done);(focus rfl);(focus (simp only [hh,Nat.reduceAdd];try rfl);done))
      |(apply R_load_ptr1;(focus (simp only [tszAll];try rfl);done);(focus (simp only [ee,Nat.reduceEqDiff];try rfl);done);(focus (simp only [hh,Nat.reduceAdd];try rfl);done);(iterate 2 (focus rfl)))
      |(apply R_load_dem;(focus rfl);(focus (simp only [tszAll];try rfl);done);(focus (simp only [ee,Nat.reduceEqDiff];try rfl);done);(focus (simp only [hh,Nat.reduceAdd];try rfl);done);(focus rfl))
      |(apply R_load_ptrn;(focus (simp only [tszAll];try rfl);done);(focus (simp only [ee,Nat.reduceEqDiff];try rfl);done);(focus (simp only [hh,Nat.reduceAdd];try rfl);done);(focus exact Nat.le_of_ble_eq_true rfl);(focus rfl))
      |(apply R_load_rw;(focus (simp only [tszAll];try rfl);done);(focus (simp only [ee,Nat.reduceEqDiff];try rfl);done);(focus rfl);(focus intro _;rfl;done);(focus assumption);(focus (simp only [fStr,fSec,fLnk,fInt,fS,fI,fB,List.map_cons,List.map_nil];try rfl);done))
      |(apply R_load_rk;(focus (simp only [tszAll];try rfl);done);(focus (simp only [ee,Nat.reduceEqDiff];try rfl);done);(focus rfl);(focus intro _;rfl;done);(focus assumption);(focus rfl);(focus (simp only [fStr,fSec,fLnk,fInt,fS,fI,fB,List.getElem?_cons_zero,List.getElem?_cons_succ];try rfl);done))
      |(apply R_load_r1;(focus (simp only [tszAll];try rfl);done);(focus (simp only [ee,Nat.reduceEqDiff];try rfl);done);(focus rfl);(focus intro _;rfl;done);(focus assumption);(focus (simp only [fStr,fSec,fLnk,fInt,fS,fI,fB,List.map_cons,List.map_nil];try rfl);done))
      |(apply R_load_ip1;(focus (simp only [tszAll];try rfl);done);(focus (simp only [ee,Nat.reduceEqDiff];try rfl);done);(focus rfl))
      |(apply R_load_ipn;(focus (simp only [tszAll];try rfl);done);(focus (simp only [ee,Nat.reduceEqDiff];try rfl);done);(focus exact Nat.le_of_ble_eq_true rfl);(focus rfl))
      |(apply R_store_tip;(focus (simp only [tszAll];try rfl);done);(focus (simp only [ee,Nat.reduceEqDiff];try rfl);done);(focus (simp only [hh,Nat.reduceAdd];try rfl);done);(focus (simp only [ee,Nat.reduceEqDiff];try rfl);done);(focus rfl);(focus (simp only [hh,Nat.reduceAdd];try rfl);done))
      |(apply R_store;(focus (simp only [tszAll];try rfl);done);(focus (simp only [ee,Nat.reduceEqDiff];try rfl);done);(focus (simp only [hh,Nat.reduceAdd];try rfl);done);(focus (simp only [ee,Nat.reduceEqDiff];try rfl);done);(iterate 2 (focus rfl));(focus exact ⟨rfl,Nat.le_of_ble_eq_true rfl⟩);(focus (simp only [hh,Nat.reduceAdd];try rfl);done))
      |(apply R_ia_row;(focus (simp only [elemSzAll];try rfl);done);(focus (simp only [ee,Nat.reduceEqDiff];try rfl);done);(focus rfl);(focus (simp only [ee,Nat.reduceEqDiff];try rfl);done);(iterate 2 (focus omega));(focus (simp only [Int.toNat_natCast];try rfl);done))
      |(apply R_ia_arr;(focus (simp only [elemSzAll];try rfl);done);(iterate 2 (focus (simp only [ee,Nat.reduceEqDiff];try rfl);done));(iterate 2 (focus omega));(focus (simp only [Int.toNat_natCast];try rfl);done))
      |(apply R_field;(focus (simp only [fldAtAll];try rfl);done);(focus (simp only [ee,Nat.reduceEqDiff];try rfl);done);(focus rfl))
      |(apply R_extract;(focus (simp only [ee,Nat.reduceEqDiff];try rfl);done);(focus rfl))
      |(apply R_add;(iterate 2 (focus (simp only [ee,Nat.reduceEqDiff];try rfl);done));(iterate 2 (focus omega)))
      |(apply R_sub;(iterate 2 (focus (simp only [ee,Nat.reduceEqDiff];try rfl);done));(iterate 2 (focus omega)))
      |(apply R_mul;(iterate 2 (focus (simp only [ee,Nat.reduceEqDiff];try rfl);done));(iterate 2 (focus omega)))
      |(apply R_quo;(iterate 2 (focus (simp only [ee,Nat.reduceEqDiff];try rfl);done));(iterate 3 (focus omega)))
      |(apply R_rem;(iterate 2 (focus (simp only [ee,Nat.reduceEqDiff];try rfl);done));(iterate 2 (focus omega)))
      |(apply R_sadd;(iterate 2 (focus (simp only [ee,Nat.reduceEqDiff];try rfl);done));(focus omega))
      |(apply R_ibin;(iterate 2 (focus (simp only [ee,Nat.reduceEqDiff];try rfl);done));(focus rfl))
      |(apply R_sbin;(iterate 2 (focus (simp only [ee,Nat.reduceEqDiff];try rfl);done));(focus rfl))
      |(apply R_un;(focus (simp only [ee,Nat.reduceEqDiff];try rfl);done);(focus rfl))
      |(apply R_index_strD;(focus (simp only [undAll];try rfl);done);(iterate 2 (focus (simp only [ee,Nat.reduceEqDiff];try rfl);done));(iterate 2 (focus omega)))
      |(apply R_len_str;(focus (simp only [undAll];try rfl);done);(focus (simp only [ee,Nat.reduceEqDiff];try rfl);done))
      |(apply R_len_row;(focus (simp only [elemSzAll];try rfl);done);(focus (simp only [ee,Nat.reduceEqDiff];try rfl);done);(focus rfl))
      |(apply R_len_arr;(focus (simp only [elemSzAll];try rfl);done);(focus (simp only [ee,Nat.reduceEqDiff];try rfl);done))
      |(apply R_len_nil;(focus (simp only [undAll];try rfl);done);(focus (simp only [ee,Nat.reduceEqDiff];try rfl);done))
      |(apply R_pickT;(focus (simp only [ee,Nat.reduceEqDiff];try rfl);done);(focus exact (by first|rfl|assumption));(focus (simp only [ee,Nat.reduceEqDiff];try rfl);done);(focus rfl))
      |(apply R_pickF;(focus (simp only [ee,Nat.reduceEqDiff];try rfl);done);(focus exact (by first|rfl|assumption));(focus (simp only [ee,Nat.reduceEqDiff];try rfl);done);(focus rfl))
      |(apply R_build;(focus (simp only [bInfoAll];try rfl);done);(focus (repeat (first|exact partsC_n|(apply partsC_c;(focus (simp only [ee,Nat.reduceEqDiff];try rfl);done);(focus rfl))));done);(focus rfl))
      |(apply R_buildSlice;(focus (simp only [mkInfoAll];try rfl);done);(focus (repeat (first|exact partsC_n|(apply partsC_c;(focus (simp only [ee,Nat.reduceEqDiff];try rfl);done);(focus rfl))));done);(focus decide);(iterate 2 (focus rfl)))
      |(apply R_slice_str;(focus (simp only [undAll];try rfl);done);(focus (simp only [ee,Nat.reduceEqDiff];try rfl);done);(iterate 2 (focus (first|exact bnd_none|exact bnd_some (by (simp only [ee,Nat.reduceEqDiff];first|done|rfl)));done));(iterate 3 (focus omega)))
      |(apply R_slice_row;(focus (simp only [elemSzAll];try rfl);done);(focus (simp only [ee,Nat.reduceEqDiff];try rfl);done);(focus rfl);(iterate 2 (focus (first|exact bnd_none|exact bnd_some (by (simp only [ee,Nat.reduceEqDiff];first|done|rfl)));done));(iterate 3 (focus omega));(iterate 2 (focus rfl)))
      |(apply R_conv64;(iterate 2 (focus (simp only [undAll];try rfl);done));(focus (simp only [ee,Nat.reduceEqDiff];try rfl);done);(iterate 2 (focus omega)))
      |(apply R_conv_int;(iterate 2 (focus (simp only [undAll];try rfl);done));(focus (simp only [ee,Nat.reduceEqDiff];try rfl);done))
      |(apply R_bbin;(iterate 2 (focus (simp only [ee,Nat.reduceEqDiff];try rfl);done));(focus rfl))
      |(apply R_shl;(iterate 2 (focus (simp only [ee,Nat.reduceEqDiff];try rfl);done));(focus omega))
      |(apply R_shr;(iterate 2 (focus (simp only [ee,Nat.reduceEqDiff];try rfl);done));(focus omega))
      |(apply R_append_tip;(focus (simp only [mkInfoAll];try rfl);done);(focus (simp only [ee,Nat.reduceEqDiff];try rfl);done);(focus (first|exact src_row (by (simp only [ee,Nat.reduceEqDiff];first|done|rfl)) rfl (by (simp only [elemSzAll];first|done|rfl)) (by first|rfl|simp)|exact src_nil (by (simp only [ee,Nat.reduceEqDiff];first|done|rfl)) (by (simp only [elemSzAll];first|done|rfl)));done);(focus (simp only [ee,zz,Nat.reduceEqDiff,arrB];try rfl);done);(iterate 2 (focus omega)))
      |(apply R_append_nil;(focus (simp only [mkInfoAll];try rfl);done);(focus (simp only [ee,Nat.reduceEqDiff];try rfl);done);(focus (first|exact src_row (by (simp only [ee,Nat.reduceEqDiff];first|done|rfl)) rfl (by (simp only [elemSzAll];first|done|rfl)) (by first|rfl|simp)|exact src_nil (by (simp only [ee,Nat.reduceEqDiff];first|done|rfl)) (by (simp only [elemSzAll];first|done|rfl)));done);(focus (simp only [ee,zz,Nat.reduceEqDiff,arrB];try rfl);done);(iterate 2 (focus omega)))
      |(apply R_make;(focus (simp only [mkInfoAll];try rfl);done);(iterate 2 (focus (simp only [ee,Nat.reduceEqDiff];try rfl);done));(iterate 3 (focus omega));(focus (simp only [hh,Nat.reduceAdd];try rfl);done);(focus rfl);(focus (simp only [hh,Nat.reduceAdd];try rfl);done))
      |(apply R_max;(iterate 2 (focus (simp only [ee,Nat.reduceEqDiff];try rfl);done)))
      |(apply R_min;(iterate 2 (focus (simp only [ee,Nat.reduceEqDiff];try rfl);done)))
      |(apply R_alloc;(focus (simp only [zeroCAll];try rfl);done);(iterate 2 (focus (simp only [hh,Nat.reduceAdd];try rfl);done)))
      |(apply R_box;(focus (simp only [ee,Nat.reduceEqDiff];try rfl);done);(focus rfl);(iterate 2 (focus (simp only [hh,Nat.reduceAdd];try rfl);done)))
      |(apply R_skip;(focus first|exact wantA_f1 rfl rfl rfl (by (simp only [ee,Nat.reduceEqDiff];first|done|rfl)) (by first|rfl|assumption)|exact wantA_f0 rfl rfl rfl (by (simp only [ee,Nat.reduceEqDiff];first|done|rfl)) (by first|rfl|assumption)|exact wantA_und rfl rfl rfl (by (simp only [ee,Nat.reduceEqDiff];first|done|rfl))))
      |((with_reducible apply W_condT);(focus (simp only [ee,Nat.reduceEqDiff];try rfl);done);(focus exact (by first|rfl|assumption)))
      |((with_reducible apply W_condF);(focus (simp only [ee,Nat.reduceEqDiff];try rfl);done);(focus exact (by first|rfl|assumption)))
      |((with_reducible apply W_cond);(focus (simp only [ee,Nat.reduceEqDiff];try rfl);done);(all_goals (intro hbq;(first|(cases hbq;done)|(cases hbq)|(have hpq := of_decide_eq_true hbq)|(have hpq := of_decide_eq_false hbq)|skip))))
      |(apply WR_gsplit;(iterate 3 (focus rfl));(focus (simp only [ee,Nat.reduceEqDiff];try rfl);done);(all_goals (intro hbq;(first|(cases hbq;done)|(cases hbq)|(have hpq := of_decide_eq_true hbq)|(have hpq := of_decide_eq_false hbq)|skip))))
      |((with_reducible apply Ret_i);(focus trivial);(focus rfl);(focus (repeat (first|exact res_nil|(apply res_tmp;(focus (simp only [ee,Nat.reduceEqDiff];try rfl);done);(focus rfl);(focus (simp only [zz];try rfl);done))|(apply res_celln;(focus (simp only [tszAll];try rfl);done);(focus (simp only [ee,Nat.reduceEqDiff];try rfl);done);(focus (simp only [hh,Nat.reduceAdd];try rfl);done);(focus exact Nat.le_of_ble_eq_true rfl);(focus rfl);(focus (simp only [zz];try rfl);done))|(apply res_cell1;(focus (simp only [tszAll];try rfl);done);(focus (simp only [ee,Nat.reduceEqDiff];try rfl);done);(focus (simp only [hh,Nat.reduceAdd];try rfl);done);(focus rfl);(focus (simp only [zz];try rfl);done))));done))
      |((with_reducible apply RetP_i);(focus trivial);(focus rfl);(focus (repeat (first|exact res_nil|(apply res_tmp;(focus (simp only [ee,Nat.reduceEqDiff];try rfl);done);(focus rfl);(focus (simp only [zz];try rfl);done))|(apply res_celln;(focus (simp only [tszAll];try rfl);done);(focus (simp only [ee,Nat.reduceEqDiff];try rfl);done);(focus (simp only [hh,Nat.reduceAdd];try rfl);done);(focus exact Nat.le_of_ble_eq_true rfl);(focus rfl);(focus (simp only [zz];try rfl);done))|(apply res_cell1;(focus (simp only [tszAll];try rfl);done);(focus (simp only [ee,Nat.reduceEqDiff];try rfl);done);(focus (simp only [hh,Nat.reduceAdd];try rfl);done);(focus rfl);(focus (simp only [zz];try rfl);done))));done);(focus (simp only [hh,Nat.reduceAdd];try rfl);done)))
    ·
      refine LoopK_n (i + 1) ?_ ?_ ?_
      rotate_left
      · (try dsimp only); omega
      · (try dsimp only); omega
      refine weak_agG (by (simp only [hh,Nat.reduceAdd];first|done|rfl)) (Nat.le_of_ble_eq_true rfl) (Nat.le_of_ble_eq_true rfl) rfl rfl ?_ ?_;(focus (simp only [List.length_cons,List.length_nil,Nat.zero_add,Nat.reduceAdd,List.take_succ_cons,List.take_zero,List.take_nil]));(repeat' (first|exact LeH.nil|(with_reducible apply LeH.some)|(with_reducible apply LeH.none)|(with_reducible exact LeL.refl _)|exact LeL.nil|(with_reducible apply LeL.cons)|(with_reducible exact CVal.Le.refl _)|(with_reducible exact CVal.Le.nil_row)|(with_reducible exact CVal.Le.nil_tip _)|(with_reducible exact CVal.Le.tip_row _ _ _)|(exact CVal.Le.nil_row)|(exact CVal.Le.nil_tip _)|(with_reducible apply CVal.Le.of_eq)|(with_reducible apply LeL.of_eq)))
      (repeat' (first|exact trivial|(refine And.intro ?_ ?_)|(refine ⟨_, by (simp only [ee,Nat.reduceEqDiff];first|done|rfl), ?_⟩)|(first|(with_reducible exact LeS.refl _)|(with_reducible exact LeS.nil_row)|(with_reducible exact LeS.nil_tip _)|(with_reducible exact LeS.tip_row _ _ _)|(exact LeS.nil_row)|(exact LeS.nil_tip _)|(refine LeS.of_eq ?_))));(all_goals (try rfl))
      all_goals (simp [loopN, Cur.stepN, fStr, fS]; done)
    have hie : i = (c.af 1).n 1 := by omega
    subst hie
    obtain ⟨B, eB⟩ : ∃ B, loopN Cur.stepN A.2 ((c.af 1).n 1) = B := ⟨_, rfl⟩
    rw [eB] at hcj ⊢
    refine W_loopS (fun i : Nat => St.of [some (loopN Cur.stepS B.2 i).2.box, some [.f .nils, .f .nils, .f .nils, .f .nils], some [.tip 1 (A.1.flatMap fStr) (c.n 1), .tip 1 (B.1.flatMap fStr) ((c.af 1).n 1), .tip 5 ((loopN Cur.stepS B.2 i).1.flatMap fSec) i, .f .nils]] [(0, .c (.ptr 0 0)), (2, .c (.ptr 1 0)), (3, .c (.ptr 2 0)), (7, i64 ((((c.af 1).af 1).af 1).n 1)), (40, i64 (((c.af 1).af 1).n 1)), (41, i64 i)]) (fun i => i ≤ ((c.af 1).af 1).n 1) (fun i => ((c.af 1).af 1).n 1 - i) 0 ?_ (by omega) ?_
    ·
      refine weak_agG (by (simp only [hh,Nat.reduceAdd];first|done|rfl)) (Nat.le_of_ble_eq_true rfl) (Nat.le_of_ble_eq_true rfl) rfl rfl ?_ ?_;(focus (simp only [List.length_cons,List.length_nil,Nat.zero_add,Nat.reduceAdd,List.take_succ_cons,List.take_zero,List.take_nil]));(repeat' (first|exact LeH.nil|(with_reducible apply LeH.some)|(with_reducible apply LeH.none)|(with_reducible exact LeL.refl _)|exact LeL.nil|(with_reducible apply LeL.cons)|(with_reducible exact CVal.Le.refl _)|(with_reducible exact CVal.Le.nil_row)|(with_reducible exact CVal.Le.nil_tip _)|(with_reducible exact CVal.Le.tip_row _ _ _)|(exact CVal.Le.nil_row)|(exact CVal.Le.nil_tip _)|(with_reducible apply CVal.Le.of_eq)|(with_reducible apply LeL.of_eq)))
      (repeat' (first|exact trivial|(refine And.intro ?_ ?_)|(refine ⟨_, by (simp only [ee,Nat.reduceEqDiff];first|done|rfl), ?_⟩)|(first|(with_reducible exact LeS.refl _)|(with_reducible exact LeS.nil_row)|(with_reducible exact LeS.nil_tip _)|(with_reducible exact LeS.tip_row _ _ _)|(exact LeS.nil_row)|(exact LeS.nil_tip _)|(refine LeS.of_eq ?_))));(all_goals (try rfl))
    intro i hi
    have hck := loopN_ok stepS_ok hcj i
    obtain ⟨x, ex⟩ : ∃ x, (loopN Cur.stepS B.2 i).2 = x := ⟨_, rfl⟩
    rw [ex] at hck
    have m1 := ((x.afn.af 2).af 3).n1
    have m2 := (((x.afn.af 2).af 3).af 1).n1
    simp only [i64, aS, ex]
    repeat' (first
      |with_reducible refine WR_pp ?_
      |with_reducible refine WR_pd ?_
      |with_reducible refine W_seq ?_
      |with_reducible refine seqK_n ?_
      |with_reducible refine seqK_r ?_
      |with_reducible refine seqK_e ?_
      |with_reducible refine W_block ?_
      |with_reducible refine blockK_n ?_
      |with_reducible refine blockK_e rfl ?_
      |with_reducible refine blockK_r ?_
      |with_reducible refine blockK_o (by decide) ?_
      |with_reducible refine LoopK_e ?_
      |with_reducible refine LoopK_r ?_
      |with_reducible refine LoopX_e (by decide) ?_
      |with_reducible refine LoopX_r ?_
      |with_reducible refine W_skip ?_
      |with_reducible refine W_exit ?_
      |with_reducible refine W_ret ?_
      |with_reducible refine W_region (WOps_WR ?_)
      |with_reducible refine W_draw (WOpsD_WR ?_)
      |with_reducible refine WR_nil ?_
      |(apply R_callB Cur.box curD;(focus rfl);(focus (apply Eq.trans;(focus (repeat (first|exact args_n|(apply args_c;(focus (simp only [ee,Nat.reduceEqDiff];try rfl);done))));done);(focus (simp only [zz];try rfl);done)));(focus (simp only [hh,Nat.reduceAdd];try rfl);done);(focus exact (nm_ok _ (by repeat (first | assumption | apply Cur.af_ok | apply Cur.afn_ok))));(iterate 2 (focus rfl));(focus (simp only [hh,Nat.reduceAdd];try rfl);done))
      |(apply R_callB Cur.box curD;(focus rfl);(focus (apply Eq.trans;(focus (repeat (first|exact args_n|(apply args_c;(focus (simp only [ee,Nat.reduceEqDiff];try rfl);done))));done);(focus (simp only [zz];try rfl);done)));(focus (simp only [hh,Nat.reduceAdd];try rfl);done);(focus exact (num_ok _ 2 (by repeat (first | assumption | apply Cur.af_ok | apply Cur.afn_ok)) (by decide)));(iterate 2 (focus rfl));(focus (simp only [hh,Nat.reduceAdd];try rfl);done))
      |(apply R_callB Cur.box curD;(focus rfl);(focus (apply Eq.trans;(focus (repeat (first|exact args_n|(apply args_c;(focus (simp only [ee,Nat.reduceEqDiff];try rfl);done))));done);(focus (simp only [zz];try rfl);done)));(focus (simp only [hh,Nat.reduceAdd];try rfl);done);(focus exact (num_ok _ 3 (by repeat (first | assumption | apply Cur.af_ok | apply Cur.afn_ok)) (by decide)));(iterate 2 (focus rfl));(focus (simp only [hh,Nat.reduceAdd];try rfl);done))
      |(apply R_callB Cur.box curD;(focus rfl);(focus (apply Eq.trans;(focus (repeat (first|exact args_n|(apply args_c;(focus (simp only [ee,Nat.reduceEqDiff];try rfl);done))));done);(focus (simp only [zz];try rfl);done)));(focus (simp only [hh,Nat.reduceAdd];try rfl);done);(focus exact (num_ok _ 1 (by repeat (first | assumption | apply Cur.af_ok | apply Cur.afn_ok)) (by decide)));(iterate 2 (focus rfl));(focus (simp only [hh,Nat.reduceAdd];try rfl);done))
      |(apply WR_nilD;(focus kernel_rfl))
      |(apply R_want;(focus exact wantA_t rfl rfl rfl (by (simp only [ee,Nat.reduceEqDiff];first|done|rfl)) (by first|rfl|assumption)))
      |(apply R_move;(focus (simp only [ee,Nat.reduceEqDiff];try rfl);done);(focus rfl))
      |(apply R_assign;(focus (simp only [ee,Nat.reduceEqDiff];try rfl);done);(focus rfl))
      |(apply R_assign_tip;(focus (simp only [ee,Nat.reduceEqDiff];try rfl);done))
      |(apply R_move_tip;(focus rfl);(focus (simp only [ee,Nat.reduceEqDiff];try rfl);done))
      |(apply R_move_row;(focus rfl);(focus (simp only [ee,Nat.reduceEqDiff];try rfl);done))
      |(apply R_nil_ptr;(focus (simp only [ee,Nat.reduceEqDiff];try rfl);done))
      |(apply R_nil_ip;(focus (simp only [ee,Nat.reduceEqDiff];try rfl);done))
      |(apply R_fa_ptr;(focus (simp only [fldOffAll];try rfl);done);(focus (simp only [ee,Nat.reduceEqDiff];try rfl);done);(focus (simp only [Nat.reduceAdd,Nat.zero_add,Nat.reduceMul];try rfl);done))
      |(apply R_fa_ip;(focus (simp only [fldOffAll];try rfl);done);(focus (simp only [ee,Nat.reduceEqDiff];try rfl);done);(focus (simp only [Nat.reduceAdd,Nat.zero_add,Nat.reduceMul];try rfl);done))
      |(apply R_load_tip;(focus rfl);(focus (simp only [tszAll];try rfl);done);(focus (simp only [ee,Nat.reduceEqDiff];try rfl);done);(focus (simp only [hh,Nat.reduceAdd];try rfl);done);(focus rfl);(focus (simp only [hh,Nat.reduceAdd];try rfl);done))
      |(apply R_load_ptr1;(focus (simp only [tszAll];try rfl);done);(focus (simp only [ee,Nat.reduceEqDiff];try rfl);done);(focus (simp only [hh,Nat.reduceAdd];try rfl);done);(iterate 2 (focus rfl)))
      |(apply R_load_dem;(focus rfl);(focus (simp only [tszAll];try rfl);done);(focus (simp only [ee,Nat.reduceEqDiff];try rfl);done);(focus (simp only [hh,Nat.reduceAdd];try rfl);done);(focus rfl))
      |(apply R_load_ptrn;(focus (simp only [tszAll];try rfl);done);(focus (simp only [ee,Nat.reduceEqDiff];try rfl);done);(focus (simp only [hh,Nat.reduceAdd];try rfl);done);(focus exact Nat.le_of_ble_eq_true rfl);(focus rfl))
      |(apply R_load_rw;(focus (simp only [tszAll];try rfl);done);(focus (simp only [ee,Nat.reduceEqDiff];try rfl);done);(focus rfl);(focus intro _;rfl;done);(focus assumption);(focus (simp only [fStr,fSec,fLnk,fInt,fS,fI,fB,List.map_cons,List.map_nil];try rfl);done))
      |(apply R_load_rk;(focus (simp only [tszAll];try rfl);done);(focus (simp only [ee,Nat.reduceEqDiff];try rfl);done);(focus rfl);(focus intro _;rfl;done);(focus assumption);(focus rfl);(focus (simp only [fStr,fSec,fLnk,fInt,fS,fI,fB,List.getElem?_cons_zero,List.getElem?_cons_succ];try rfl);done))
      |(apply R_load_r1;(focus (simp only [tszAll];try rfl);done);(focus (simp only [ee,Nat.reduceEqDiff];try rfl);done);(focus rfl);(focus intro _;rfl;done);(focus assumption);(focus (simp only [fStr,fSec,fLnk,fInt,fS,fI,fB,List.map_cons,List.map_nil];try rfl);done))
      |(apply R_load_ip1;(focus (simp only [tszAll];try rfl);done);(focus (simp only [ee,Nat.reduceEqDiff];try rfl);done);(focus rfl))
      |(apply R_load_ipn;(focus (simp only [tszAll];try rfl);done);(focus (simp only [ee,Nat.reduceEqDiff];try rfl);done);(focus exact Nat.le_of_ble_eq_true rfl);(focus rfl))
      |(apply R_store_tip;(focus (simp only [tszAll];try rfl);done);(focus (simp only [ee,Nat.reduceEqDiff];try rfl);done);(focus (simp only [hh,Nat.reduceAdd];try rfl);done);(focus (simp only [ee,Nat.reduceEqDiff];try rfl);done);(focus rfl);(focus (simp only [hh,Nat.reduceAdd];try rfl);done))
      |(apply R_store;(focus (simp only [tszAll];try rfl);done);(focus (simp only [ee,Nat.reduceEqDiff];try rfl);done);(focus (simp only [hh,Nat.reduceAdd];try rfl);done);(focus (simp only [ee,Nat.reduceEqDiff];try rfl);done);(iterate 2 (focus rfl));(focus exact ⟨rfl,Nat.le_of_ble_eq_true rfl⟩);(focus (simp only [hh,Nat.reduceAdd];try rfl);done))
      |(apply R_ia_row;(focus (simp only [elemSzAll];try rfl);done);(focus (simp only [ee,Nat.reduceEqDiff];try rfl);done);(focus rfl);(focus (simp only [ee,Nat.reduceEqDiff];try rfl);done);(iterate 2 (focus omega));(focus (simp only [Int.toNat_natCast];try rfl);done))
      |(apply R_ia_arr;(focus (simp only [elemSzAll];try rfl);done);(iterate 2 (focus (simp only [ee,Nat.reduceEqDiff];try rfl);done));(iterate 2 (focus omega));(focus (simp only [Int.toNat_natCast];try rfl);done))
      |(apply R_field;(focus (simp only [fldAtAll];try rfl);done);(focus (simp only [ee,Nat.reduceEqDiff];try rfl);done);(focus rfl))
      |(apply R_extract;(focus (simp only [ee,Nat.reduceEqDiff];try rfl);done);(focus rfl))
      |(apply R_add;(iterate 2 (focus (simp only [ee,Nat.reduceEqDiff];try rfl);done));(iterate 2 (focus omega)))
      |(apply R_sub;(iterate 2 (focus (simp only [ee,Nat.reduceEqDiff];try rfl);done));(iterate 2 (focus omega)))
      |(apply R_mul;(iterate 2 (focus (simp only [ee,Nat.reduceEqDiff];try rfl);done));(iterate 2 (focus omega)))
      |(apply R_quo;(iterate 2 (focus (simp only [ee,Nat.reduceEqDiff];try rfl);done));(iterate 3 (focus omega)))
      |(apply R_rem;(iterate 2 (focus (simp only [ee,Nat.reduceEqDiff];try rfl);done));(iterate 2 (focus omega)))
      |(apply R_sadd;(iterate 2 (focus (simp only [ee,Nat.reduceEqDiff];try rfl);done));(focus omega))
      |(apply R_ibin;(iterate 2 (focus (simp only [ee,Nat.reduceEqDiff];try rfl);done));(focus rfl))
      |(apply R_sbin;(iterate 2 (focus (simp only [ee,Nat.reduceEqDiff];try rfl);done));(focus rfl))
      |(apply R_un;(focus (simp only [ee,Nat.reduceEqDiff];try rfl);done);(focus rfl))
      |(apply R_index_strD;(focus (simp only [undAll];try rfl);done);(iterate 2 (focus (simp only [ee,Nat.reduceEqDiff];try rfl);done));(iterate 2 (focus omega)))
      |(apply R_len_str;(focus (simp only [undAll];try rfl);done);(focus (simp only [ee,Nat.reduceEqDiff];try rfl);done))
      |(apply R_len_row;(focus (simp only [elemSzAll];try rfl);done);(focus (simp only [ee,Nat.reduceEqDiff];try rfl);done);(focus rfl))
      |(apply R_len_arr;(focus (simp only [elemSzAll];try rfl);done);(focus (simp only [ee,Nat.reduceEqDiff];try rfl);done))
      |(apply R_len_nil;(focus (simp only [undAll];try rfl);done);(focus (simp only [ee,Nat.reduceEqDiff];try rfl);done))
      |(apply R_pickT;(focus (simp only [ee,Nat.reduceEqDiff];try rfl);done);(focus exact (by first|rfl|assumption));(focus (simp only [ee,Nat.reduceEqDiff];try rfl);done);(focus rfl))
      |(apply R_pickF;(focus (simp only [ee,Nat.reduceEqDiff];try rfl);done);(focus exact (by first|rfl|assumption));(focus (simp only [ee,Nat.reduceEqDiff];try rfl);done);(focus rfl))
      |(apply R_build;(focus (simp only [bInfoAll];try rfl);done);(focus (repeat (first|exact partsC_n|(apply partsC_c;(focus (simp only [ee,Nat.reduceEqDiff];try rfl);done);(focus rfl))));done);(focus rfl))
      |(apply R_buildSlice;(focus (simp only [mkInfoAll];try rfl);done);(focus (repeat (first|exact partsC_n|(apply partsC_c;(focus (simp only [ee,Nat.reduceEqDiff];try rfl);done);(focus rfl))));done);(focus decide);(iterate 2 (focus rfl)))
      |(apply R_slice_str;(focus (simp only [undAll];try rfl);done);(focus (simp only [ee,Nat.reduceEqDiff];try rfl);done);(iterate 2 (focus (first|exact bnd_none|exact bnd_some (by (simp only [ee,Nat.reduceEqDiff];first|done|rfl)));done));(iterate 3 (focus omega)))
      |(apply R_slice_row;(focus (simp only [elemSzAll];try rfl);done);(focus (simp only [ee,Nat.reduceEqDiff];try rfl);done);(focus rfl);(iterate 2 (focus (first|exact bnd_none|exact bnd_some (by (simp only [ee,Nat.reduceEqDiff];first|done|rfl)));done));(iterate 3 (focus omega));(iterate 2 (focus rfl)))
      |(apply R_conv64;(iterate 2 (focus (simp only [undAll];try rfl);done));(focus (simp only [ee,Nat.reduceEqDiff];try rfl);done);(iterate 2 (focus omega)))
      |(apply R_conv_int;(iterate 2 (focus (simp only [undAll];try rfl);done));(focus (simp only [ee,Nat.reduceEqDiff];try rfl);done))
      |(apply R_bbin;(iterate 2 (focus (simp only [ee,Nat.reduceEqDiff];try rfl);done));(focus rfl))
      |(apply R_shl;(iterate 2 (focus (simp only [ee,Nat.reduceEqDiff];try rfl);done));(focus omega))
      |(apply R_shr;(iterate 2 (focus (simp only [ee,Nat.reduceEqDiff];try rfl);done));(focus omega))
      |(apply R_append_tip;(focus (simp only [mkInfoAll];try rfl);done);(focus (simp only [ee,Nat.reduceEqDiff];try rfl);done);(focus (first|exact src_row (by (simp only [ee,Nat.reduceEqDiff];first|done|rfl)) rfl (by (simp only [elemSzAll];first|done|rfl)) (by first|rfl|simp)|exact src_nil (by (simp only [ee,Nat.reduceEqDiff];first|done|rfl)) (by (simp only [elemSzAll];first|done|rfl)));done);(focus (simp only [ee,zz,Nat.reduceEqDiff,arrB];try rfl);done);(iterate 2 (focus omega)))
      |(apply R_append_nil;(focus (simp only [mkInfoAll];try rfl);done);(focus (simp only [ee,Nat.reduceEqDiff];try rfl);done);(focus (first|exact src_row (by (simp only [ee,Nat.reduceEqDiff];first|done|rfl)) rfl (by (simp only [elemSzAll];first|done|rfl)) (by first|rfl|simp)|exact src_nil (by (simp only [ee,Nat.reduceEqDiff];first|done|rfl)) (by (simp only [elemSzAll];first|done|rfl)));done);(focus (simp only [ee,zz,Nat.reduceEqDiff,arrB];try rfl);done);(iterate 2 (focus omega)))
      |(apply R_make;(focus (simp only [mkInfoAll];try rfl);done);(iterate 2 (focus (simp only [ee,Nat.reduceEqDiff];try rfl);done));(iterate 3 (focus omega));(focus (simp only [hh,Nat.reduceAdd];try rfl);done);(focus rfl);(focus (simp only [hh,Nat.reduceAdd];try rfl);done))
      |(apply R_max;(iterate 2 (focus (simp only [ee,Nat.reduceEqDiff];try rfl);done)))
      |(apply R_min;(iterate 2 (focus (simp only [ee,Nat.reduceEqDiff];try rfl);done)))
      |(apply R_alloc;(focus (simp only [zeroCAll];try rfl);done);(iterate 2 (focus (simp only [hh,Nat.reduceAdd];try rfl);done)))
      |(apply R_box;(focus (simp only [ee,Nat.reduceEqDiff];try rfl);done);(focus rfl);(iterate 2 (focus (simp only [hh,Nat.reduceAdd];try rfl);done)))
      |(apply R_skip;(focus first|exact wantA_f1 rfl rfl rfl (by (simp only [ee,Nat.reduceEqDiff];first|done|rfl)) (by first|rfl|assumption)|exact wantA_f0 rfl rfl rfl (by (simp only [ee,Nat.reduceEqDiff];first|done|rfl)) (by first|rfl|assumption)|exact wantA_und rfl rfl rfl (by (simp only [ee,Nat.reduceEqDiff];first|done|rfl))))
      |((with_reducible apply W_condT);(focus (simp only [ee,Nat.reduceEqDiff];try rfl);done);(focus exact (by first|rfl|assumption)))
      |((with_reducible apply W_condF);(focus (simp only [ee,Nat.reduceEqDiff];try rfl);done);(focus exact (by first|rfl|assumption)))
      |((with_reducible apply W_cond);(focus (simp only [ee,Nat.reduceEqDiff];try rfl);done);(all_goals (intro hbq;(first|(cases hbq;done)|(cases hbq)|(have hpq := of_decide_eq_true hbq)|(have hpq := of_decide_eq_false hbq)|skip))))
      |(apply WR_gsplit;(iterate 3 (focus rfl));(focus (simp only [ee,Nat.reduceEqDiff];try rfl);done);(all_goals (intro hbq;(first|(cases hbq;done)|(cases hbq)|(have hpq := of_decide_eq_true hbq)|(have hpq := of_decide_eq_false hbq)|skip))))
      |((with_reducible apply Ret_i);(focus trivial);(focus rfl);(focus (repeat (first|exact res_nil|(apply res_tmp;(focus (simp only [ee,Nat.reduceEqDiff];try rfl);done);(focus rfl);(focus (simp only [zz];try rfl);done))|(apply res_celln;(focus (simp only [tszAll];try rfl);done);(focus (simp only [ee,Nat.reduceEqDiff];try rfl);done);(focus (simp only [hh,Nat.reduceAdd];try rfl);done);(focus exact Nat.le_of_ble_eq_true rfl);(focus rfl);(focus (simp only [zz];try rfl);done))|(apply res_cell1;(focus (simp only [tszAll];try rfl);done);(focus (simp only [ee,Nat.reduceEqDiff];try rfl);done);(focus (simp only [hh,Nat.reduceAdd];try rfl);done);(focus rfl);(focus (simp only [zz];try rfl);done))));done))
      |((with_reducible apply RetP_i);(focus trivial);(focus rfl);(focus (repeat (first|exact res_nil|(apply res_tmp;(focus (simp only [ee,Nat.reduceEqDiff];try rfl);done);(focus rfl);(focus (simp only [zz];try rfl);done))|(apply res_celln;(focus (simp only [tszAll];try rfl);done);(focus (simp only [ee,Nat.reduceEqDiff];try rfl);done);(focus (simp only [hh,Nat.reduceAdd];try rfl);done);(focus exact Nat.le_of_ble_eq_true rfl);(focus rfl);(focus (simp only [zz];try rfl);done))|(apply res_cell1;(focus (simp only [tszAll];try rfl);done);(focus (simp only [ee,Nat.reduceEqDiff];try rfl);done);(focus (simp only [hh,Nat.reduceAdd];try rfl);done);(focus rfl);(focus (simp only [zz];try rfl);done))));done);(focus (simp only [hh,Nat.reduceAdd];try rfl);done)))
    ·
      refine LoopK_n (i + 1) ?_ ?_ ?_
      rotate_left
      · (try dsimp only); omega
      · (try dsimp only); omega
      refine weak_agG (by (simp only [hh,Nat.reduceAdd];first|done|rfl)) (Nat.le_of_ble_eq_true rfl) (Nat.le_of_ble_eq_true rfl) rfl rfl ?_ ?_;(focus (simp only [List.length_cons,List.length_nil,Nat.zero_add,Nat.reduceAdd,List.take_succ_cons,List.take_zero,List.take_nil]));(repeat' (first|exact LeH.nil|(with_reducible apply LeH.some)|(with_reducible apply LeH.none)|(with_reducible exact LeL.refl _)|exact LeL.nil|(with_reducible apply LeL.cons)|(with_reducible exact CVal.Le.refl _)|(with_reducible exact CVal.Le.nil_row)|(with_reducible exact CVal.Le.nil_tip _)|(with_reducible exact CVal.Le.tip_row _ _ _)|(exact CVal.Le.nil_row)|(exact CVal.Le.nil_tip _)|(with_reducible apply CVal.Le.of_eq)|(with_reducible apply LeL.of_eq)))
      (repeat' (first|exact trivial|(refine And.intro ?_ ?_)|(refine ⟨_, by (simp only [ee,Nat.reduceEqDiff];first|done|rfl), ?_⟩)|(first|(with_reducible exact LeS.refl _)|(with_reducible exact LeS.nil_row)|(with_reducible exact LeS.nil_tip _)|(with_reducible exact LeS.tip_row _ _ _)|(exact LeS.nil_row)|(exact LeS.nil_tip _)|(refine LeS.of_eq ?_))));(all_goals (try rfl))
      all_goals (simp [loopN, Cur.stepS, ex, fSec, fS, fI]; done)
    have hie : i = ((c.af 1).af 1).n 1 := by omega
    subst hie
    obtain ⟨C, eC⟩ : ∃ C, loopN Cur.stepS B.2 (((c.af 1).af 1).n 1) = C := ⟨_, rfl⟩
    rw [eC] at ex ⊢
    rw [← ex] at hck ⊢
    refine W_loopS (fun i : Nat => St.of [some (loopN Cur.stepL C.2 i).2.box, some [.f .nils, .f .nils, .f .nils, .f .nils], some [.tip 1 (A.1.flatMap fStr) (c.n 1), .tip 1 (B.1.flatMap fStr) ((c.af 1).n 1), .tip 5 (C.1.flatMap fSec) (((c.af 1).af 1).n 1), .tip 6 ((loopN Cur.stepL C.2 i).1.flatMap fLnk) i]] [(0, .c (.ptr 0 0)), (2, .c (.ptr 1 0)), (3, .c (.ptr 2 0)), (62, i64 ((((c.af 1).af 1).af 1).n 1)), (63, i64 i)]) (fun i => i ≤ (((c.af 1).af 1).af 1).n 1) (fun i => (((c.af 1).af 1).af 1).n 1 - i) 0 ?_ (by omega) ?_
    ·
      refine weak_agG (by (simp only [hh,Nat.reduceAdd];first|done|rfl)) (Nat.le_of_ble_eq_true rfl) (Nat.le_of_ble_eq_true rfl) rfl rfl ?_ ?_;(focus (simp only [List.length_cons,List.length_nil,Nat.zero_add,Nat.reduceAdd,List.take_succ_cons,List.take_zero,List.take_nil]));(repeat' (first|exact LeH.nil|(with_reducible apply LeH.some)|(with_reducible apply LeH.none)|(with_reducible exact LeL.refl _)|exact LeL.nil|(with_reducible apply LeL.cons)|(with_reducible exact CVal.Le.refl _)|(with_reducible exact CVal.Le.nil_row)|(with_reducible exact CVal.Le.nil_tip _)|(with_reducible exact CVal.Le.tip_row _ _ _)|(exact CVal.Le.nil_row)|(exact CVal.Le.nil_tip _)|(with_reducible apply CVal.Le.of_eq)|(with_reducible apply LeL.of_eq)))
      (repeat' (first|exact trivial|(refine And.intro ?_ ?_)|(refine ⟨_, by (simp only [ee,Nat.reduceEqDiff];first|done|rfl), ?_⟩)|(first|(with_reducible exact LeS.refl _)|(with_reducible exact LeS.nil_row)|(with_reducible exact LeS.nil_tip _)|(with_reducible exact LeS.tip_row _ _ _)|(exact LeS.nil_row)|(exact LeS.nil_tip _)|(refine LeS.of_eq ?_))));(all_goals (try rfl))
    intro i hi
    have hcl := loopN_ok stepL_ok hck i
    obtain ⟨y, ey⟩ : ∃ y, (loopN Cur.stepL C.2 i).2 = y := ⟨_, rfl⟩
    rw [ey] at hcl
    have m3 := y.n1
    have m4 := (y.af 1).n1
    have m5 := ((y.af 1).af 1).n1
    simp only [i64, aS, ey]
    repeat' (first
      |with_reducible refine WR_pp ?_
      |with_reducible refine WR_pd ?_
      |with_reducible refine W_seq ?_
      |with_reducible refine seqK_n ?_
      |with_reducible refine seqK_r ?_
      |with_reducible refine seqK_e ?_
      |with_reducible refine W_block ?_
      |with_reducible refine blockK_n ?_
      |with_reducible refine blockK_e rfl ?_
      |with_reducible refine blockK_r ?_
      |with_reducible refine blockK_o (by decide) ?_
      |with_reducible refine LoopK_e ?_
      |with_reducible refine LoopK_r ?_
      |with_reducible refine LoopX_e (by decide) ?_
      |with_reducible refine LoopX_r ?_
      |with_reducible refine W_skip ?_
      |with_reducible refine W_exit ?_
      |with_reducible refine W_ret ?_
      |with_reducible refine W_region (WOps_WR ?_)
      |with_reducible refine W_draw (WOpsD_WR ?_)
      |with_reducible refine WR_nil ?_
      |(apply R_callB Cur.box curD;(focus rfl);(focus (apply Eq.trans;(focus (repeat (first|exact args_n|(apply args_c;(focus (simp only [ee,Nat.reduceEqDiff];try rfl);done))));done);(focus (simp only [zz];try rfl);done)));(focus (simp only [hh,Nat.reduceAdd];try rfl);done);(focus exact (num_ok _ 1 (by repeat (first | assumption | apply Cur.af_ok | apply Cur.afn_ok)) (by decide)));(iterate 2 (focus rfl));(focus (simp only [hh,Nat.reduceAdd];try rfl);done))
      |(apply WR_nilD;(focus kernel_rfl))
      |(apply R_want;(focus exact wantA_t rfl rfl rfl (by (simp only [ee,Nat.reduceEqDiff];first|done|rfl)) (by first|rfl|assumption)))
      |(apply R_move;(focus (simp only [ee,Nat.reduceEqDiff];try rfl);done);(focus rfl))
      |(apply R_assign;(focus (simp only [ee,Nat.reduceEqDiff];try rfl);done);(focus rfl))
      |(apply R_assign_tip;(focus (simp only [ee,Nat.reduceEqDiff];try rfl);done))
      |(apply R_move_tip;(focus rfl);(focus (simp only [ee,Nat.reduceEqDiff];try rfl);done))
      |(apply R_move_row;(focus rfl);(focus (simp only [ee,Nat.reduceEqDiff];try rfl);done))
      |(apply R_nil_ptr;(focus (simp only [ee,Nat.reduceEqDiff];try rfl);done))
      |(apply R_nil_ip;(focus (simp only [ee,Nat.reduceEqDiff];try rfl);done))
      |(apply R_fa_ptr;(focus (simp only [fldOffAll];try rfl);done);(focus (simp only [ee,Nat.reduceEqDiff];try rfl);done);(focus (simp only [Nat.reduceAdd,Nat.zero_add,Nat.reduceMul];try rfl);done))
      |(apply R_fa_ip;(focus (simp only [fldOffAll];try rfl);done);(focus (simp only [ee,Nat.reduceEqDiff];try rfl);done);(focus (simp only [Nat.reduceAdd,Nat.zero_add,Nat.reduceMul];try rfl);done))
      |(apply R_load_tip;(focus rfl);(focus (simp only [tszAll];try rfl);done);(focus (simp only [ee,Nat.reduceEqDiff];try rfl);done);(focus (simp only [hh,Nat.reduceAdd];try rfl);done);(focus rfl);(focus (simp only [hh,Nat.reduceAdd];try rfl);done))
      |(apply R_load_ptr1;(focus (simp only [tszAll];try rfl);done);(focus (simp only [ee,Nat.reduceEqDiff];try rfl);done);(focus (simp only [hh,Nat.reduceAdd];try rfl);done);(iterate 2 (focus rfl)))
      |(apply R_load_dem;(focus rfl);(focus (simp only [tszAll];try rfl);done);(focus (simp only [ee,Nat.reduceEqDiff];try rfl);done);(focus (simp only [hh,Nat.reduceAdd];try rfl);done);(focus rfl))
      |(apply R_load_ptrn;(focus (simp only [tszAll];try rfl);done);(focus (simp only [ee,Nat.reduceEqDiff];try rfl);done);(focus (simp only [hh,Nat.reduceAdd];try rfl);done);(focus exact Nat.le_of_ble_eq_true rfl);(focus rfl))
      |(apply R_load_rw;(focus (simp only [tszAll];try rfl);done);(focus (simp only [ee,Nat.reduceEqDiff];try rfl);done);(focus rfl);(focus intro _;rfl;done);(focus assumption);(focus (simp only [fStr,fSec,fLnk,fInt,fS,fI,fB,List.map_cons,List.map_nil];try rfl);done))
      |(apply R_load_rk;(focus (simp only [tszAll];try rfl);done);(focus (simp only [ee,Nat.reduceEqDiff];try rfl);done);(focus rfl);(focus intro _;rfl;done);(focus assumption);(focus rfl);(focus (simp only [fStr,fSec,fLnk,fInt,fS,fI,fB,List.getElem?_cons_zero,List.getElem?_cons_succ];try rfl);done))
      |(apply R_load_r1;(focus (simp only [tszAll];try rfl);done);(focus (simp only [ee,Nat.reduceEqDiff];try rfl);done);(focus rfl);(focus intro _;rfl;done);(focus assumption);(focus (simp only [fStr,fSec,fLnk,fInt,fS,fI,fB,List.map_cons,List.map_nil];try rfl);done))
      |(apply R_load_ip1;(focus (simp only [tszAll];try rfl);done);(focus (simp only [ee,Nat.reduceEqDiff];try rfl);done);(focus rfl))
      |(apply R_load_ipn;(focus (simp only [tszAll];try rfl);done);(focus (simp only [ee,Nat.reduceEqDiff];try rfl);done);(focus exact Nat.le_of_ble_eq_true rfl);(focus rfl))
      |(apply R_store_tip;(focus (simp only [tszAll];try rfl);done);(focus (simp only [ee,Nat.reduceEqDiff];try rfl);done);(focus (simp only [hh,Nat.reduceAdd];try rfl);done);(focus (simp only [ee,Nat.reduceEqDiff];try rfl);done);(focus rfl);(focus (simp only [hh,Nat.reduceAdd];try rfl);done))
      |(apply R_store;(focus (simp only [tszAll];try rfl);done);(focus (simp only [ee,Nat.reduceEqDiff];try rfl);done);(focus (simp only [hh,Nat.reduceAdd];try rfl);done);(focus (simp only [ee,Nat.reduceEqDiff];try rfl);done);(iterate 2 (focus rfl));(focus exact ⟨rfl,Nat.le_of_ble_eq_true rfl⟩);(focus (simp only [hh,Nat.reduceAdd];try rfl);done))
      |(apply R_ia_row;(focus (simp only [elemSzAll];try rfl);done);(focus (simp only [ee,Nat.reduceEqDiff];try rfl);done);(focus rfl);(focus (simp only [ee,Nat.reduceEqDiff];try rfl);done);(iterate 2 (focus omega));(focus (simp only [Int.toNat_natCast];try rfl);done))
      |(apply R_ia_arr;(focus (simp only [elemSzAll];try rfl);done);(iterate 2 (focus (simp only [ee,Nat.reduceEqDiff];try rfl);done));(iterate 2 (focus omega));(focus (simp only [Int.toNat_natCast];try rfl);done))
      |(apply R_field;(focus (simp only [fldAtAll];try rfl);done);(focus (simp only [ee,Nat.reduceEqDiff];try rfl);done);(focus rfl))
      |(apply R_extract;(focus (simp only [ee,Nat.reduceEqDiff];try rfl);done);(focus rfl))
      |(apply R_add;(iterate 2 (focus (simp only [ee,Nat.reduceEqDiff];try rfl);done));(iterate 2 (focus omega)))
      |(apply R_sub;(iterate 2 (focus (simp only [ee,Nat.reduceEqDiff];try rfl);done));(iterate 2 (focus omega)))
      |(apply R_mul;(iterate 2 (focus (simp only [ee,Nat.reduceEqDiff];try rfl);done));(iterate 2 (focus omega)))
      |(apply R_quo;(iterate 2 (focus (simp only [ee,Nat.reduceEqDiff];try rfl);done));(iterate 3 (focus omega)))
      |(apply R_rem;(iterate 2 (focus (simp only [ee,Nat.reduceEqDiff];try rfl);done));(iterate 2 (focus omega)))
      |(apply R_sadd;(iterate 2 (focus (simp only [ee,Nat.reduceEqDiff];try rfl);done));(focus omega))
      |(apply R_ibin;(iterate 2 (focus (simp only [ee,Nat.reduceEqDiff];try rfl);done));(focus rfl))
      |(apply R_sbin;(iterate 2 (focus (simp only [ee,Nat.reduceEqDiff];try rfl);done));(focus rfl))
      |(apply R_un;(focus (simp only [ee,Nat.reduceEqDiff];try rfl);done);(focus rfl))
      |(apply R_index_strD;(focus (simp only [undAll];try rfl);done);(iterate 2 (focus (simp only [ee,Nat.reduceEqDiff];try rfl);done));(iterate 2 (focus omega)))
      |(apply R_len_str;(focus (simp only [undAll];try rfl);done);(focus (simp only [ee,Nat.reduceEqDiff];try rfl);done))
      |(apply R_len_row;(focus (simp only [elemSzAll];try rfl);done);(focus (simp only [ee,Nat.reduceEqDiff];try rfl);done);(focus rfl))
      |(apply R_len_arr;(focus (simp only [elemSzAll];try rfl);done);(focus (simp only [ee,Nat.reduceEqDiff];try rfl);done))
      |(apply R_len_nil;(focus (simp only [undAll];try rfl);done);(focus (simp only [ee,Nat.reduceEqDiff];try rfl);done))
      |(apply R_pickT;(focus (simp only [ee,Nat.reduceEqDiff];try rfl);done);(focus exact (by first|rfl|assumption));(focus (simp only [ee,Nat.reduceEqDiff];try rfl);done);(focus rfl))
      |(apply R_pickF;(focus (simp only [ee,Nat.reduceEqDiff];try rfl);done);(focus exact (by first|rfl|assumption));(focus (simp only [ee,Nat.reduceEqDiff];try rfl);done);(focus rfl))
      |(apply R_build;(focus (simp only [bInfoAll];try rfl);done);(focus (repeat (first|exact partsC_n|(apply partsC_c;(focus (simp only [ee,Nat.reduceEqDiff];try rfl);done);(focus rfl))));done);(focus rfl))
      |(apply R_buildSlice;(focus (simp only [mkInfoAll];try rfl);done);(focus (repeat (first|exact partsC_n|(apply partsC_c;(focus (simp only [ee,Nat.reduceEqDiff];try rfl);done);(focus rfl))));done);(focus decide);(iterate 2 (focus rfl)))
      |(apply R_slice_str;(focus (simp only [undAll];try rfl);done);(focus (simp only [ee,Nat.reduceEqDiff];try rfl);done);(iterate 2 (focus (first|exact bnd_none|exact bnd_some (by (simp only [ee,Nat.reduceEqDiff];first|done|rfl)));done));(iterate 3 (focus omega)))
      |(apply R_slice_row;(focus (simp only [elemSzAll];try rfl);done);(focus (simp only [ee,Nat.reduceEqDiff];try rfl);done);(focus rfl);(iterate 2 (focus (first|exact bnd_none|exact bnd_some (by (simp only [ee,Nat.reduceEqDiff];first|done|rfl)));done));(iterate 3 (focus omega));(iterate 2 (focus rfl)))
      |(apply R_conv64;(iterate 2 (focus (simp only [undAll];try rfl);done));(focus (simp only [ee,Nat.reduceEqDiff];try rfl);done);(iterate 2 (focus omega)))
      |(apply R_conv_int;(iterate 2 (focus (simp only [undAll];try rfl);done));(focus (simp only [ee,Nat.reduceEqDiff];try rfl);done))
      |(apply R_bbin;(iterate 2 (focus (simp only [ee,Nat.reduceEqDiff];try rfl);done));(focus rfl))
      |(apply R_shl;(iterate 2 (focus (simp only [ee,Nat.reduceEqDiff];try rfl);done));(focus omega))
      |(apply R_shr;(iterate 2 (focus (simp only [ee,Nat.reduceEqDiff];try rfl);done));(focus omega))
      |(apply R_append_tip;(focus (simp only [mkInfoAll];try rfl);done);(focus (simp only [ee,Nat.reduceEqDiff];try rfl);done);(focus (first|exact src_row (by (simp only [ee,Nat.reduceEqDiff];first|done|rfl)) rfl (by (simp only [elemSzAll];first|done|rfl)) (by first|rfl|simp)|exact src_nil (by (simp only [ee,Nat.reduceEqDiff];first|done|rfl)) (by (simp only [elemSzAll];first|done|rfl)));done);(focus (simp only [ee,zz,Nat.reduceEqDiff,arrB];try rfl);done);(iterate 2 (focus omega)))
      |(apply R_append_nil;(focus (simp only [mkInfoAll];try rfl);done);(focus (simp only [ee,Nat.reduceEqDiff];try rfl);done);(focus (first|exact src_row (by (simp only [ee,Nat.reduceEqDiff];first|done|rfl)) rfl (by (simp only [elemSzAll];first|done|rfl)) (by first|rfl|simp)|exact src_nil (by (simp only [ee,Nat.reduceEqDiff];first|done|rfl)) (by (simp only [elemSzAll];first|done|rfl)));done);(focus (simp only [ee,zz,Nat.reduceEqDiff,arrB];try rfl);done);(iterate 2 (focus omega)))
      |(apply R_make;(focus (simp only [mkInfoAll];try rfl);done);(iterate 2 (focus (simp only [ee,Nat.reduceEqDiff];try rfl);done));(iterate 3 (focus omega));(focus (simp only [hh,Nat.reduceAdd];try rfl);done);(focus rfl);(focus (simp only [hh,Nat.reduceAdd];try rfl);done))
      |(apply R_max;(iterate 2 (focus (simp only [ee,Nat.reduceEqDiff];try rfl);done)))
      |(apply R_min;(iterate 2 (focus (simp only [ee,Nat.reduceEqDiff];try rfl);done)))
      |(apply R_alloc;(focus (simp only [zeroCAll];try rfl);done);(iterate 2 (focus (simp only [hh,Nat.reduceAdd];try rfl);done)))
      |(apply R_box;(focus (simp only [ee,Nat.reduceEqDiff];try rfl);done);(focus rfl);(iterate 2 (focus (simp only [hh,Nat.reduceAdd];try rfl);done)))
      |(apply R_skip;(focus first|exact wantA_f1 rfl rfl rfl (by (simp only [ee,Nat.reduceEqDiff];first|done|rfl)) (by first|rfl|assumption)|exact wantA_f0 rfl rfl rfl (by (simp only [ee,Nat.reduceEqDiff];first|done|rfl)) (by first|rfl|assumption)|exact wantA_und rfl rfl rfl (by (simp only [ee,Nat.reduceEqDiff];first|done|rfl))))
      |((with_reducible apply W_condT);(focus (simp only [ee,Nat.reduceEqDiff];try rfl);done);(focus exact (by first|rfl|assumption)))
      |((with_reducible apply W_condF);(focus (simp only [ee,Nat.reduceEqDiff];try rfl);done);(focus exact (by first|rfl|assumption)))
      |((with_reducible apply W_cond);(focus (simp only [ee,Nat.reduceEqDiff];try rfl);done);(all_goals (intro hbq;(first|(cases hbq;done)|(cases hbq)|(have hpq := of_decide_eq_true hbq)|(have hpq := of_decide_eq_false hbq)|skip))))
      |(apply WR_gsplit;(iterate 3 (focus rfl));(focus (simp only [ee,Nat.reduceEqDiff];try rfl);done);(all_goals (intro hbq;(first|(cases hbq;done)|(cases hbq)|(have hpq := of_decide_eq_true hbq)|(have hpq := of_decide_eq_false hbq)|skip))))
      |((with_reducible apply Ret_i);(focus trivial);(focus rfl);(focus (repeat (first|exact res_nil|(apply res_tmp;(focus (simp only [ee,Nat.reduceEqDiff];try rfl);done);(focus rfl);(focus (simp only [zz];try rfl);done))|(apply res_celln;(focus (simp only [tszAll];try rfl);done);(focus (simp only [ee,Nat.reduceEqDiff];try rfl);done);(focus (simp only [hh,Nat.reduceAdd];try rfl);done);(focus exact Nat.le_of_ble_eq_true rfl);(focus rfl);(focus (simp only [zz];try rfl);done))|(apply res_cell1;(focus (simp only [tszAll];try rfl);done);(focus (simp only [ee,Nat.reduceEqDiff];try rfl);done);(focus (simp only [hh,Nat.reduceAdd];try rfl);done);(focus rfl);(focus (simp only [zz];try rfl);done))));done))
      |((with_reducible apply RetP_i);(focus trivial);(focus rfl);(focus (repeat (first|exact res_nil|(apply res_tmp;(focus (simp only [ee,Nat.reduceEqDiff];try rfl);done);(focus rfl);(focus (simp only [zz];try rfl);done))|(apply res_celln;(focus (simp only [tszAll];try rfl);done);(focus (simp only [ee,Nat.reduceEqDiff];try rfl);done);(focus (simp only [hh,Nat.reduceAdd];try rfl);done);(focus exact Nat.le_of_ble_eq_true rfl);(focus rfl);(focus (simp only [zz];try rfl);done))|(apply res_cell1;(focus (simp only [tszAll];try rfl);done);(focus (simp only [ee,Nat.reduceEqDiff];try rfl);done);(focus (simp only [hh,Nat.reduceAdd];try rfl);done);(focus rfl);(focus (simp only [zz];try rfl);done))));done);(focus (simp only [hh,Nat.reduceAdd];try rfl);done)))
    ·
      refine LoopK_n (i + 1) ?_ ?_ ?_
      rotate_left
      · (try dsimp only); omega
      · (try dsimp only); omega
      refine weak_agG (by (simp only [hh,Nat.reduceAdd];first|done|rfl)) (Nat.le_of_ble_eq_true rfl) (Nat.le_of_ble_eq_true rfl) rfl rfl ?_ ?_;(focus (simp only [List.length_cons,List.length_nil,Nat.zero_add,Nat.reduceAdd,List.take_succ_cons,List.take_zero,List.take_nil]));(repeat' (first|exact LeH.nil|(with_reducible apply LeH.some)|(with_reducible apply LeH.none)|(with_reducible exact LeL.refl _)|exact LeL.nil|(with_reducible apply LeL.cons)|(with_reducible exact CVal.Le.refl _)|(with_reducible exact CVal.Le.nil_row)|(with_reducible exact CVal.Le.nil_tip _)|(with_reducible exact CVal.Le.tip_row _ _ _)|(exact CVal.Le.nil_row)|(exact CVal.Le.nil_tip _)|(with_reducible apply CVal.Le.of_eq)|(with_reducible apply LeL.of_eq)))
      (repeat' (first|exact trivial|(refine And.intro ?_ ?_)|(refine ⟨_, by (simp only [ee,Nat.reduceEqDiff];first|done|rfl), ?_⟩)|(first|(with_reducible exact LeS.refl _)|(with_reducible exact LeS.nil_row)|(with_reducible exact LeS.nil_tip _)|(with_reducible exact LeS.tip_row _ _ _)|(exact LeS.nil_row)|(exact LeS.nil_tip _)|(refine LeS.of_eq ?_))));(all_goals (try rfl))
      all_goals (simp [loopN, Cur.stepL, ey, fLnk, fI]; done)
    all_goals (have hie : i = (((c.af 1).af 1).af 1).n 1 := by omega)
    all_goals subst hie
    all_goals (have hl : c.lay = (⟨A.1, B.1, C.1, (loopN Cur.stepL C.2 ((((c.af 1).af 1).af 1).n 1)).1⟩, (loopN Cur.stepL C.2 ((((c.af 1).af 1).af 1).n 1)).2) := by simp only [Cur.lay, e4, eA, eB, eC])
    all_goals (have lA : A.1.length = c.n 1 := by rw [← eA, loopN_len])
    all_goals (have lB : B.1.length = (c.af 1).n 1 := by rw [← eB, loopN_len])
    all_goals (have lC : C.1.length = ((c.af 1).af 1).n 1 := by rw [← eC, loopN_len])
    all_goals rw [hl]
    · simp only [packT, TVal.a, aLay, cLay, cRow, lA, lB, lC, loopN_len]
      rfl
    · rw [← ey]
      rfl
end Go.Proofs.Ythnfliopmjpdmaa.Av
