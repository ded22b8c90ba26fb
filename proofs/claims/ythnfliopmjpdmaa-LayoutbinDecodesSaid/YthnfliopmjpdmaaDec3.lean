/- The two Decodes agree. -/
import Derived.Test.YthnfliopmjpdmaaDec2
import Derived.Test.YthnfliopmjpdmaaAvSame
namespace Go.Proofs.Ythnfliopmjpdmaa.Av
open Go.RowKit
set_option linter.unusedVariables false
set_option linter.unusedSimpArgs false
set_option maxRecDepth 4000
set_option maxHeartbeats 4000000

structure LayLens (L : Lay) : Prop where
  m1 : L.sts.length ≤ 9223372036854775807
  m2 : L.pts.length ≤ 9223372036854775807
  m3 : L.secs.length ≤ 9223372036854775807
  m4 : L.lnks.length ≤ 9223372036854775807
theorem LayFits.lens {L : Lay} (h : LayFits L) : LayLens L := ⟨h.m1, h.m2, h.m3, h.m4⟩
theorem sameLayout_ok (L : Lay) (hL : LayLens L) : Ok Try.prog 21 [aLay L, aLay L] [] (aB true) [] := by
  have h1 := same_str_ok L.sts hL.m1
  have h2 := same_str_ok L.pts hL.m2
  have h3 := same_sec_ok L.secs hL.m3
  have h4 := same_lnk_ok L.lnks hL.m4
  simp only [aLay, cLay, cRow] at *
  refine okP_fn mixed Try.func21 rfl (by kernel_rfl) (Nat.le_of_ble_eq_true (by kernel_rfl)) (by kernel_rfl) rfl rfl ?_
  simp only [arg0, i64, aB, aS, List.length_cons, List.length_nil, Nat.zero_add, Nat.reduceAdd]
  repeat' (first
    |with_reducible refine WR_pp ?_
    |with_reducible refine WR_pd ?_
    |with_reducible refine W_seq ?_
    |with_reducible refine seqK_n ?_
    |with_reducible refine seqK_r ?_
    |with_reducible refine seqK_e ?_
    |with_reducible refine W_block ?_
    |with_reducible refine blockK_n ?_
    |with_reducible refine blockK_e rfl ?_
    |with_reducible refine blockK_r ?_
    |with_reducible refine blockK_o (by decide) ?_
    |with_reducible refine LoopK_e ?_
    |with_reducible refine LoopK_r ?_
    |with_reducible refine LoopX_e (by decide) ?_
    |with_reducible refine LoopX_r ?_
    |with_reducible refine W_skip ?_
    |with_reducible refine W_exit ?_
    |with_reducible refine W_ret ?_
    |with_reducible refine W_region (WOps_WR ?_)
    |with_reducible refine W_draw (WOpsD_WR ?_)
    |with_reducible refine WR_nil ?_
    |(apply R_pure;(focus rfl);(focus (repeat (first|exact args_n|(apply args_c;(focus (simp only [ee,Nat.reduceEqDiff];try rfl);done))));done);(focus rfl);(focus exact h1))
    |(apply R_pure;(focus rfl);(focus (repeat (first|exact args_n|(apply args_c;(focus (simp only [ee,Nat.reduceEqDiff];try rfl);done))));done);(focus rfl);(focus exact h2))
    |(apply R_pure;(focus rfl);(focus (repeat (first|exact args_n|(apply args_c;(focus (simp only [ee,Nat.reduceEqDiff];try rfl);done))));done);(focus rfl);(focus exact h3))
    |(apply R_pure;(focus rfl);(focus (repeat (first|exact args_n|(apply args_c;(focus (simp only [ee,Nat.reduceEqDiff];try rfl);done))));done);(focus rfl);(focus exact h4))
    |(apply WR_nilD;(focus kernel_rfl))
    |(apply R_want;(focus exact wantA_t rfl rfl rfl (by (simp only [ee,Nat.reduceEqDiff];first|done|rfl)) (by first|rfl|assumption)))
    |(apply R_move;(focus (simp only [ee,Nat.reduceEqDiff];try rfl);done);(focus rfl))
    |(apply R_assign;(focus (simp only [ee,Nat.reduceEqDiff];try rfl);done);(focus rfl))
    |(apply R_assign_tip;(focus (simp only [ee,Nat.reduceEqDiff];try rfl);done))
    |(apply R_move_tip;(focus rfl);(focus (simp only [ee,Nat.reduceEqDiff];try rfl);done))
    |(apply R_move_row;(focus rfl);(focus (simp only [ee,Nat.reduceEqDiff];try rfl);done))
    |(apply R_nil_ptr;(focus (simp only [ee,Nat.reduceEqDiff];try rfl);done))
    |(apply R_nil_ip;(focus (simp only [ee,Nat.reduceEqDiff];try rfl);done))
    |(apply R_fa_ptr;(focus (simp only [fldOffAll];try rfl);done);(focus (simp only [ee,Nat.reduceEqDiff];try rfl);done);(focus (simp only [Nat.reduceAdd,Nat.zero_add,Nat.reduceMul];try rfl);done))
    |(apply R_fa_ip;(focus (simp only [fldOffAll];try rfl);done);(focus (simp only [ee,Nat.reduceEqDiff];try rfl);done);(focus (simp only [Nat.reduceAdd,Nat.zero_add,Nat.reduceMul];try rfl);done))
    |(apply R_load_tip;(focus rfl);(focus (simp only [tszAll];try rfl);done);(focus (simp only [ee,Nat.reduceEqDiff];try rfl);done);(focus (simp only [hh,Nat.reduceAdd];try rfl);done);(focus rfl);(focus (simp only [hh,Nat.reduceAdd];try rfl);done))
    |(apply R_load_ptr1;(focus (simp only [tszAll];try rfl);done);(focus (simp only [ee,Nat.reduceEqDiff];try rfl);done);(focus (simp only [hh,Nat.reduceAdd];try rfl);done);(iterate 2 (focus rfl)))
    |(apply R_load_dem;(focus rfl);(focus (simp only [tszAll];try rfl);done);(focus (simp only [ee,Nat.reduceEqDiff];try rfl);done);(focus (simp only [hh,Nat.reduceAdd];try rfl);done);(focus rfl))
    |(apply R_load_ptrn;(focus (simp only [tszAll];try rfl);done);(focus (simp only [ee,Nat.reduceEqDiff];try rfl);done);(focus (simp only [hh,Nat.reduceAdd];try rfl);done);(focus exact Nat.le_of_ble_eq_true rfl);(focus rfl))
    |(apply R_load_rw;(focus (simp only [tszAll];try rfl);done);(focus (simp only [ee,Nat.reduceEqDiff];try rfl);done);(focus rfl);(focus intro _;rfl;done);(focus assumption);(focus (simp only [fStr,fSec,fLnk,fInt,fS,fI,fB,List.map_cons,List.map_nil];try rfl);done))
    |(apply R_load_rk;(focus (simp only [tszAll];try rfl);done);(focus (simp only [ee,Nat.reduceEqDiff];try rfl);done);(focus rfl);(focus intro _;rfl;done);(focus assumption);(focus rfl);(focus (simp only [fStr,fSec,fLnk,fInt,fS,fI,fB,List.getElem?_cons_zero,List.getElem?_cons_succ];try rfl);done))
    |(apply R_load_r1;(focus (simp only [tszAll];try rfl);done);(focus (simp only [ee,Nat.reduceEqDiff];try rfl);done);(focus rfl);(focus intro _;rfl;done);(focus assumption);(focus (simp only [fStr,fSec,fLnk,fInt,fS,fI,fB,List.map_cons,List.map_nil];try rfl);done))
    |(apply R_load_ip1;(focus (simp only [tszAll];try rfl);done);(focus (simp only [ee,Nat.reduceEqDiff];try rfl);done);(focus rfl))
    |(apply R_load_ipn;(focus (simp only [tszAll];try rfl);done);(focus (simp only [ee,Nat.reduceEqDiff];try rfl);done);(focus exact Nat.le_of_ble_eq_true rfl);(focus rfl))
    |(apply R_store_tip;(focus (simp only [tszAll];try rfl);done);(focus (simp only [ee,Nat.reduceEqDiff];try rfl);done);(focus (simp only [hh,Nat.reduceAdd];try rfl);done);(focus (simp only [ee,Nat.reduceEqDiff];try rfl);done);(focus rfl);(focus (simp only [hh,Nat.reduceAdd];try rfl);done))
    |(apply R_store;(focus (simp only [tszAll];try rfl);done);(focus (simp only [ee,Nat.reduceEqDiff];try rfl);done);(focus (simp only [hh,Nat.reduceAdd];try rfl);done);(focus (simp only [ee,Nat.reduceEqDiff];try rfl);done);(iterate 2 (focus rfl));(focus exact ⟨rfl,Nat.le_of_ble_eq_true rfl⟩);(focus (simp only [hh,Nat.reduceAdd];try rfl);done))
    |(apply R_ia_row;(focus (simp only [elemSzAll];try rfl);done);(focus (simp only [ee,Nat.reduceEqDiff];try rfl);done);(focus rfl);(focus (simp only [ee,Nat.reduceEqDiff];try rfl);done);(iterate 2 (focus omega));(focus (simp only [Int.toNat_natCast];try rfl);done))
    |(apply R_ia_arr;(focus (simp only [elemSzAll];try rfl);done);(iterate 2 (focus (simp only [ee,Nat.reduceEqDiff];try rfl);done));(iterate 2 (focus omega));(focus (simp only [Int.toNat_natCast];try rfl);done))
    |(apply R_field;(focus (simp only [fldAtAll];try rfl);done);(focus (simp only [ee,Nat.reduceEqDiff];try rfl);done);(focus rfl))
    |(apply R_extract;(focus (simp only [ee,Nat.reduceEqDiff];try rfl);done);(focus rfl))
    |(apply R_add;(iterate 2 (focus (simp only [ee,Nat.reduceEqDiff];try rfl);done));(iterate 2 (focus omega)))
    |(apply R_sub;(iterate 2 (focus (simp only [ee,Nat.reduceEqDiff];try rfl);done));(iterate 2 (focus omega)))
    |(apply R_mul;(iterate 2 (focus (simp only [ee,Nat.reduceEqDiff];try rfl);done));(iterate 2 (focus omega)))
    |(apply R_quo;(iterate 2 (focus (simp only [ee,Nat.reduceEqDiff];try rfl);done));(iterate 3 (focus omega)))
    |(apply R_rem;(iterate 2 (focus (simp only [ee,Nat.reduceEqDiff];try rfl);done));(iterate 2 (focus omega)))
    |(apply R_sadd;(iterate 2 (focus (simp only [ee,Nat.reduceEqDiff];try rfl);done));(focus omega))
    |(apply R_ibin;(iterate 2 (focus (simp only [ee,Nat.reduceEqDiff];try rfl);done));(focus rfl))
    |(apply R_sbin;(iterate 2 (focus (simp only [ee,Nat.reduceEqDiff];try rfl);done));(focus rfl))
    |(apply R_un;(focus (simp only [ee,Nat.reduceEqDiff];try rfl);done);(focus rfl))
    |(apply R_index_strD;(focus (simp only [undAll];try rfl);done);(iterate 2 (focus (simp only [ee,Nat.reduceEqDiff];try rfl);done));(iterate 2 (focus omega)))
    |(apply R_len_str;(focus (simp only [undAll];try rfl);done);(focus (simp only [ee,Nat.reduceEqDiff];try rfl);done))
    |(apply R_len_row;(focus (simp only [elemSzAll];try rfl);done);(focus (simp only [ee,Nat.reduceEqDiff];try rfl);done);(focus rfl))
    |(apply R_len_arr;(focus (simp only [elemSzAll];try rfl);done);(focus (simp only [ee,Nat.reduceEqDiff];try rfl);done))
    |(apply R_len_nil;(focus (simp only [undAll];try rfl);done);(focus (simp only [ee,Nat.reduceEqDiff];try rfl);done))
    |(apply R_pickT;(focus (simp only [ee,Nat.reduceEqDiff];try rfl);done);(focus exact (by first|rfl|assumption));(focus (simp only [ee,Nat.reduceEqDiff];try rfl);done);(focus rfl))
    |(apply R_pickF;(focus (simp only [ee,Nat.reduceEqDiff];try rfl);done);(focus exact (by first|rfl|assumption));(focus (simp only [ee,Nat.reduceEqDiff];try rfl);done);(focus rfl))
    |(apply R_build;(focus (simp only [bInfoAll];try rfl);done);(focus (repeat (first|exact partsC_n|(apply partsC_c;(focus (simp only [ee,Nat.reduceEqDiff];try rfl);done);(focus rfl))));done);(focus rfl))
    |(apply R_buildSlice;(focus (simp only [mkInfoAll];try rfl);done);(focus (repeat (first|exact partsC_n|(apply partsC_c;(focus (simp only [ee,Nat.reduceEqDiff];try rfl);done);(focus rfl))));done);(focus decide);(iterate 2 (focus rfl)))
    |(apply R_slice_str;(focus (simp only [undAll];try rfl);done);(focus (simp only [ee,Nat.reduceEqDiff];try rfl);done);(iterate 2 (focus (first|exact bnd_none|exact bnd_some (by (simp only [ee,Nat.reduceEqDiff];first|done|rfl)));done));(iterate 3 (focus omega)))
    |(apply R_slice_row;(focus (simp only [elemSzAll];try rfl);done);(focus (simp only [ee,Nat.reduceEqDiff];try rfl);done);(focus rfl);(iterate 2 (focus (first|exact bnd_none|exact bnd_some (by (simp only [ee,Nat.reduceEqDiff];first|done|rfl)));done));(iterate 3 (focus omega));(iterate 2 (focus rfl)))
    |(apply R_conv64;(iterate 2 (focus (simp only [undAll];try rfl);done));(focus (simp only [ee,Nat.reduceEqDiff];try rfl);done);(iterate 2 (focus omega)))
    |(apply R_conv_int;(iterate 2 (focus (simp only [undAll];try rfl);done));(focus (simp only [ee,Nat.reduceEqDiff];try rfl);done))
    |(apply R_bbin;(iterate 2 (focus (simp only [ee,Nat.reduceEqDiff];try rfl);done));(focus rfl))
    |(apply R_shl;(iterate 2 (focus (simp only [ee,Nat.reduceEqDiff];try rfl);done));(focus omega))
    |(apply R_shr;(iterate 2 (focus (simp only [ee,Nat.reduceEqDiff];try rfl);done));(focus omega))
    |(apply R_append_tip;(focus (simp only [mkInfoAll];try rfl);done);(focus (simp only [ee,Nat.reduceEqDiff];try rfl);done);(focus (first|exact src_row (by (simp only [ee,Nat.reduceEqDiff];first|done|rfl)) rfl (by (simp only [elemSzAll];first|done|rfl)) (by first|rfl|simp)|exact src_nil (by (simp only [ee,Nat.reduceEqDiff];first|done|rfl)) (by (simp only [elemSzAll];first|done|rfl)));done);(focus (simp only [ee,zz,Nat.reduceEqDiff,arrB];try rfl);done);(iterate 2 (focus omega)))
    |(apply R_append_nil;(focus (simp only [mkInfoAll];try rfl);done);(focus (simp only [ee,Nat.reduceEqDiff];try rfl);done);(focus (first|exact src_row (by (simp only [ee,Nat.reduceEqDiff];first|done|rfl)) rfl (by (simp only [elemSzAll];first|done|rfl)) (by first|rfl|simp)|exact src_nil (by (simp only [ee,Nat.reduceEqDiff];first|done|rfl)) (by (simp only [elemSzAll];first|done|rfl)));done);(focus (simp only [ee,zz,Nat.reduceEqDiff,arrB];try rfl);done);(iterate 2 (focus omega)))
    |(apply R_make;(focus (simp only [mkInfoAll];try rfl);done);(iterate 2 (focus (simp only [ee,Nat.reduceEqDiff];try rfl);done));(iterate 3 (focus omega));(focus (simp only [hh,Nat.reduceAdd];try rfl);done);(focus rfl);(focus (simp only [hh,Nat.reduceAdd];try rfl);done))
    |(apply R_max;(iterate 2 (focus (simp only [ee,Nat.reduceEqDiff];try rfl);done)))
    |(apply R_min;(iterate 2 (focus (simp only [ee,Nat.reduceEqDiff];try rfl);done)))
    |(apply R_alloc;(focus (simp only [zeroCAll];try rfl);done);(iterate 2 (focus (simp only [hh,Nat.reduceAdd];try rfl);done)))
    |(apply R_box;(focus (simp only [ee,Nat.reduceEqDiff];try rfl);done);(focus rfl);(iterate 2 (focus (simp only [hh,Nat.reduceAdd];try rfl);done)))
    |(apply R_skip;(focus first|exact wantA_f1 rfl rfl rfl (by (simp only [ee,Nat.reduceEqDiff];first|done|rfl)) (by first|rfl|assumption)|exact wantA_f0 rfl rfl rfl (by (simp only [ee,Nat.reduceEqDiff];first|done|rfl)) (by first|rfl|assumption)|exact wantA_und rfl rfl rfl (by (simp only [ee,Nat.reduceEqDiff];first|done|rfl))))
    |((with_reducible apply W_condT);(focus (simp only [ee,Nat.reduceEqDiff];try rfl);done);(focus exact (by first|rfl|assumption)))
    |((with_reducible apply W_condF);(focus (simp only [ee,Nat.reduceEqDiff];try rfl);done);(focus exact (by first|rfl|assumption)))
    |((with_reducible apply W_cond);(focus (simp only [ee,Nat.reduceEqDiff];try rfl);done);(all_goals (intro hbq;(first|(cases hbq;done)|(cases hbq)|(have hpq := of_decide_eq_true hbq)|(have hpq := of_decide_eq_false hbq)|skip))))
    |(apply WR_gsplit;(iterate 3 (focus rfl));(focus (simp only [ee,Nat.reduceEqDiff];try rfl);done);(all_goals (intro hbq;(first|(cases hbq;done)|(cases hbq)|(have hpq := of_decide_eq_true hbq)|(have hpq := of_decide_eq_false hbq)|skip))))
    |((with_reducible apply Ret_i);(focus trivial);(focus rfl);(focus (repeat (first|exact res_nil|(apply res_tmp;(focus (simp only [ee,Nat.reduceEqDiff];try rfl);done);(focus rfl);(focus (simp only [zz];try rfl);done))|(apply res_celln;(focus (simp only [tszAll];try rfl);done);(focus (simp only [ee,Nat.reduceEqDiff];try rfl);done);(focus (simp only [hh,Nat.reduceAdd];try rfl);done);(focus exact Nat.le_of_ble_eq_true rfl);(focus rfl);(focus (simp only [zz];try rfl);done))|(apply res_cell1;(focus (simp only [tszAll];try rfl);done);(focus (simp only [ee,Nat.reduceEqDiff];try rfl);done);(focus (simp only [hh,Nat.reduceAdd];try rfl);done);(focus rfl);(focus (simp only [zz];try rfl);done))));done))
    |((with_reducible apply RetP_i);(focus trivial);(focus rfl);(focus (repeat (first|exact res_nil|(apply res_tmp;(focus (simp only [ee,Nat.reduceEqDiff];try rfl);done);(focus rfl);(focus (simp only [zz];try rfl);done))|(apply res_celln;(focus (simp only [tszAll];try rfl);done);(focus (simp only [ee,Nat.reduceEqDiff];try rfl);done);(focus (simp only [hh,Nat.reduceAdd];try rfl);done);(focus exact Nat.le_of_ble_eq_true rfl);(focus rfl);(focus (simp only [zz];try rfl);done))|(apply res_cell1;(focus (simp only [tszAll];try rfl);done);(focus (simp only [ee,Nat.reduceEqDiff];try rfl);done);(focus (simp only [hh,Nat.reduceAdd];try rfl);done);(focus rfl);(focus (simp only [zz];try rfl);done))));done);(focus (simp only [hh,Nat.reduceAdd];try rfl);done)))
  rfl
theorem decode_fits (s : ByteArray) : LayFits (decode s).1 := by
  have hi1 : ((Cur.of s).af 4).In s := Cur.In.af ⟨rfl, Nat.zero_le _⟩ 4
  have hf := (lay_in hi1).2
  have he : LayFits emptyL := ⟨fun x hx => (by cases hx), fun x hx => (by cases hx), fun x hx => (by cases hx), Nat.zero_le _, Nat.zero_le _, Nat.zero_le _, Nat.zero_le _⟩
  unfold decode decOf
  repeat' split
  all_goals first | exact he | exact hf
theorem decodes_ok (s : ByteArray) (hs : s.size < 9223372036854775807) : Ok Try.prog 17 [aS s] [] (aB true) [] := by
  have h1 := decode_ok s hs
  have h2 := refDecode_ok s hs
  have h3 := sameLayout_ok (decode s).1 (decode_fits s).lens
  revert h1 h2 h3
  generalize decode s = D
  intro h1 h2 h3
  obtain ⟨L, p, e⟩ := D
  simp only [aDec, aLay, cLay, cRow, fI] at *
  refine okP_fn mixed Try.func17 rfl (by kernel_rfl) (Nat.le_of_ble_eq_true (by kernel_rfl)) (by kernel_rfl) rfl rfl ?_
  simp only [arg0, i64, aB, aS, List.length_cons, List.length_nil, Nat.zero_add, Nat.reduceAdd]
  repeat' (first
    |with_reducible refine WR_pp ?_
    |with_reducible refine WR_pd ?_
    |with_reducible refine W_seq ?_
    |with_reducible refine seqK_n ?_
    |with_reducible refine seqK_r ?_
    |with_reducible refine seqK_e ?_
    |with_reducible refine W_block ?_
    |with_reducible refine blockK_n ?_
    |with_reducible refine blockK_e rfl ?_
    |with_reducible refine blockK_r ?_
    |with_reducible refine blockK_o (by decide) ?_
    |with_reducible refine LoopK_e ?_
    |with_reducible refine LoopK_r ?_
    |with_reducible refine LoopX_e (by decide) ?_
    |with_reducible refine LoopX_r ?_
    |with_reducible refine W_skip ?_
    |with_reducible refine W_exit ?_
    |with_reducible refine W_ret ?_
    |with_reducible refine W_region (WOps_WR ?_)
    |with_reducible refine W_draw (WOpsD_WR ?_)
    |with_reducible refine WR_nil ?_
    |(apply R_pure;(focus rfl);(focus (repeat (first|exact args_n|(apply args_c;(focus (simp only [ee,Nat.reduceEqDiff];try rfl);done))));done);(focus rfl);(focus exact h1))
    |(apply R_pure;(focus rfl);(focus (repeat (first|exact args_n|(apply args_c;(focus (simp only [ee,Nat.reduceEqDiff];try rfl);done))));done);(focus rfl);(focus exact h2))
    |(apply R_pure;(focus rfl);(focus (repeat (first|exact args_n|(apply args_c;(focus (simp only [ee,Nat.reduceEqDiff];try rfl);done))));done);(focus rfl);(focus exact h3))
    |(apply WR_nilD;(focus kernel_rfl))
    |(apply R_want;(focus exact wantA_t rfl rfl rfl (by (simp only [ee,Nat.reduceEqDiff];first|done|rfl)) (by first|rfl|assumption)))
    |(apply R_move;(focus (simp only [ee,Nat.reduceEqDiff];try rfl);done);(focus rfl))
    |(apply R_assign;(focus (simp only [ee,Nat.reduceEqDiff];try rfl);done);(focus rfl))
    |(apply R_assign_tip;(focus (simp only [ee,Nat.reduceEqDiff];try rfl);done))
    |(apply R_move_tip;(focus rfl);(focus (simp only [ee,Nat.reduceEqDiff];try rfl);done))
    |(apply R_move_row;(focus rfl);(focus (simp only [ee,Nat.reduceEqDiff];try rfl);done))
    |(apply R_nil_ptr;(focus (simp only [ee,Nat.reduceEqDiff];try rfl);done))
    |(apply R_nil_ip;(focus (simp only [ee,Nat.reduceEqDiff];try rfl);done))
    |(apply R_fa_ptr;(focus (simp only [fldOffAll];try rfl);done);(focus (simp only [ee,Nat.reduceEqDiff];try rfl);done);(focus (simp only [Nat.reduceAdd,Nat.zero_add,Nat.reduceMul];try rfl);done))
    |(apply R_fa_ip;(focus (simp only [fldOffAll];try rfl);done);(focus (simp only [ee,Nat.reduceEqDiff];try rfl);done);(focus (simp only [Nat.reduceAdd,Nat.zero_add,Nat.reduceMul];try rfl);done))
    |(apply R_load_tip;(focus rfl);(focus (simp only [tszAll];try rfl);done);(focus (simp only [ee,Nat.reduceEqDiff];try rfl);done);(focus (simp only [hh,Nat.reduceAdd];try rfl);done);(focus rfl);(focus (simp only [hh,Nat.reduceAdd];try rfl);done))
    |(apply R_load_ptr1;(focus (simp only [tszAll];try rfl);done);(focus (simp only [ee,Nat.reduceEqDiff];try rfl);done);(focus (simp only [hh,Nat.reduceAdd];try rfl);done);(iterate 2 (focus rfl)))
    |(apply R_load_dem;(focus rfl);(focus (simp only [tszAll];try rfl);done);(focus (simp only [ee,Nat.reduceEqDiff];try rfl);done);(focus (simp only [hh,Nat.reduceAdd];try rfl);done);(focus rfl))
    |(apply R_load_ptrn;(focus (simp only [tszAll];try rfl);done);(focus (simp only [ee,Nat.reduceEqDiff];try rfl);done);(focus (simp only [hh,Nat.reduceAdd];try rfl);done);(focus exact Nat.le_of_ble_eq_true rfl);(focus rfl))
    |(apply R_load_rw;(focus (simp only [tszAll];try rfl);done);(focus (simp only [ee,Nat.reduceEqDiff];try rfl);done);(focus rfl);(focus intro _;rfl;done);(focus assumption);(focus (simp only [fStr,fSec,fLnk,fInt,fS,fI,fB,List.map_cons,List.map_nil];try rfl);done))
    |(apply R_load_rk;(focus (simp only [tszAll];try rfl);done);(focus (simp only [ee,Nat.reduceEqDiff];try rfl);done);(focus rfl);(focus intro _;rfl;done);(focus assumption);(focus rfl);(focus (simp only [fStr,fSec,fLnk,fInt,fS,fI,fB,List.getElem?_cons_zero,List.getElem?_cons_succ];try rfl);done))
    |(apply R_load_r1;(focus (simp only [tszAll];try rfl);done);(focus (simp only [ee,Nat.reduceEqDiff];try rfl);done);(focus rfl);(focus intro _;rfl;done);(focus assumption);(focus (simp only [fStr,fSec,fLnk,fInt,fS,fI,fB,List.map_cons,List.map_nil];try rfl);done))
    |(apply R_load_ip1;(focus (simp only [tszAll];try rfl);done);(focus (simp only [ee,Nat.reduceEqDiff];try rfl);done);(focus rfl))
    |(apply R_load_ipn;(focus (simp only [tszAll];try rfl);done);(focus (simp only [ee,Nat.reduceEqDiff];try rfl);done);(focus exact Nat.le_of_ble_eq_true rfl);(focus rfl))
    |(apply R_store_tip;(focus (simp only [tszAll];try rfl);done);(focus (simp only [ee,Nat.reduceEqDiff];try rfl);done);(focus (simp only [hh,Nat.reduceAdd];try rfl);done);(focus (simp only [ee,Nat.reduceEqDiff];try rfl);done);(focus rfl);(focus (simp only [hh,Nat.reduceAdd];try rfl);done))
    |(apply R_store;(focus (simp only [tszAll];try rfl);done);(focus (simp only [ee,Nat.reduceEqDiff];try rfl);done);(focus (simp only [hh,Nat.reduceAdd];try rfl);done);(focus (simp only [ee,Nat.reduceEqDiff];try rfl);done);(iterate 2 (focus rfl));(focus exact ⟨rfl,Nat.le_of_ble_eq_true rfl⟩);(focus (simp only [hh,Nat.reduceAdd];try rfl);done))
    |(apply R_ia_row;(focus (simp only [elemSzAll];try rfl);done);(focus (simp only [ee,Nat.reduceEqDiff];try rfl);done);(focus rfl);(focus (simp only [ee,Nat.reduceEqDiff];try rfl);done);(iterate 2 (focus omega));(focus (simp only [Int.toNat_natCast];try rfl);done))
    |(apply R_ia_arr;(focus (simp only [elemSzAll];try rfl);done);(iterate 2 (focus (simp only [ee,Nat.reduceEqDiff];try rfl);done));(iterate 2 (focus omega));(focus (simp only [Int.toNat_natCast];try rfl);done))
    |(apply R_field;(focus (simp only [fldAtAll];try rfl);done);(focus (simp only [ee,Nat.reduceEqDiff];try rfl);done);(focus rfl))
    |(apply R_extract;(focus (simp only [ee,Nat.reduceEqDiff];try rfl);done);(focus rfl))
    |(apply R_add;(iterate 2 (focus (simp only [ee,Nat.reduceEqDiff];try rfl);done));(iterate 2 (focus omega)))
    |(apply R_sub;(iterate 2 (focus (simp only [ee,Nat.reduceEqDiff];try rfl);done));(iterate 2 (focus omega)))
    |(apply R_mul;(iterate 2 (focus (simp only [ee,Nat.reduceEqDiff];try rfl);done));(iterate 2 (focus omega)))
    |(apply R_quo;(iterate 2 (focus (simp only [ee,Nat.reduceEqDiff];try rfl);done));(iterate 3 (focus omega)))
    |(apply R_rem;(iterate 2 (focus (simp only [ee,Nat.reduceEqDiff];try rfl);done));(iterate 2 (focus omega)))
    |(apply R_sadd;(iterate 2 (focus (simp only [ee,Nat.reduceEqDiff];try rfl);done));(focus omega))
    |(apply R_ibin;(iterate 2 (focus (simp only [ee,Nat.reduceEqDiff];try rfl);done));(focus rfl))
    |(apply R_sbin;(iterate 2 (focus (simp only [ee,Nat.reduceEqDiff];try rfl);done));(focus rfl))
    |(apply R_un;(focus (simp only [ee,Nat.reduceEqDiff];try rfl);done);(focus rfl))
    |(apply R_index_strD;(focus (simp only [undAll];try rfl);done);(iterate 2 (focus (simp only [ee,Nat.reduceEqDiff];try rfl);done));(iterate 2 (focus omega)))
    |(apply R_len_str;(focus (simp only [undAll];try rfl);done);(focus (simp only [ee,Nat.reduceEqDiff];try rfl);done))
    |(apply R_len_row;(focus (simp only [elemSzAll];try rfl);done);(focus (simp only [ee,Nat.reduceEqDiff];try rfl);done);(focus rfl))
    |(apply R_len_arr;(focus (simp only [elemSzAll];try rfl);done);(focus (simp only [ee,Nat.reduceEqDiff];try rfl);done))
    |(apply R_len_nil;(focus (simp only [undAll];try rfl);done);(focus (simp only [ee,Nat.reduceEqDiff];try rfl);done))
    |(apply R_pickT;(focus (simp only [ee,Nat.reduceEqDiff];try rfl);done);(focus exact (by first|rfl|assumption));(focus (simp only [ee,Nat.reduceEqDiff];try rfl);done);(focus rfl))
    |(apply R_pickF;(focus (simp only [ee,Nat.reduceEqDiff];try rfl);done);(focus exact (by first|rfl|assumption));(focus (simp only [ee,Nat.reduceEqDiff];try rfl);done);(focus rfl))
    |(apply R_build;(focus (simp only [bInfoAll];try rfl);done);(focus (repeat (first|exact partsC_n|(apply partsC_c;(focus (simp only [ee,Nat.reduceEqDiff];try rfl);done);(focus rfl))));done);(focus rfl))
    |(apply R_buildSlice;(focus (simp only [mkInfoAll];try rfl);done);(focus (repeat (first|exact partsC_n|(apply partsC_c;(focus (simp only [ee,Nat.reduceEqDiff];try rfl);done);(focus rfl))));done);(focus decide);(iterate 2 (focus rfl)))
    |(apply R_slice_str;(focus (simp only [undAll];try rfl);done);(focus (simp only [ee,Nat.reduceEqDiff];try rfl);done);(iterate 2 (focus (first|exact bnd_none|exact bnd_some (by (simp only [ee,Nat.reduceEqDiff];first|done|rfl)));done));(iterate 3 (focus omega)))
    |(apply R_slice_row;(focus (simp only [elemSzAll];try rfl);done);(focus (simp only [ee,Nat.reduceEqDiff];try rfl);done);(focus rfl);(iterate 2 (focus (first|exact bnd_none|exact bnd_some (by (simp only [ee,Nat.reduceEqDiff];first|done|rfl)));done));(iterate 3 (focus omega));(iterate 2 (focus rfl)))
    |(apply R_conv64;(iterate 2 (focus (simp only [undAll];try rfl);done));(focus (simp only [ee,Nat.reduceEqDiff];try rfl);done);(iterate 2 (focus omega)))
    |(apply R_conv_int;(iterate 2 (focus (simp only [undAll];try rfl);done));(focus (simp only [ee,Nat.reduceEqDiff];try rfl);done))
    |(apply R_bbin;(iterate 2 (focus (simp only [ee,Nat.reduceEqDiff];try rfl);done));(focus rfl))
    |(apply R_shl;(iterate 2 (focus (simp only [ee,Nat.reduceEqDiff];try rfl);done));(focus omega))
    |(apply R_shr;(iterate 2 (focus (simp only [ee,Nat.reduceEqDiff];try rfl);done));(focus omega))
    |(apply R_append_tip;(focus (simp only [mkInfoAll];try rfl);done);(focus (simp only [ee,Nat.reduceEqDiff];try rfl);done);(focus (first|exact src_row (by (simp only [ee,Nat.reduceEqDiff];first|done|rfl)) rfl (by (simp only [elemSzAll];first|done|rfl)) (by first|rfl|simp)|exact src_nil (by (simp only [ee,Nat.reduceEqDiff];first|done|rfl)) (by (simp only [elemSzAll];first|done|rfl)));done);(focus (simp only [ee,zz,Nat.reduceEqDiff,arrB];try rfl);done);(iterate 2 (focus omega)))
    |(apply R_append_nil;(focus (simp only [mkInfoAll];try rfl);done);(focus (simp only [ee,Nat.reduceEqDiff];try rfl);done);(focus (first|exact src_row (by (simp only [ee,Nat.reduceEqDiff];first|done|rfl)) rfl (by (simp only [elemSzAll];first|done|rfl)) (by first|rfl|simp)|exact src_nil (by (simp only [ee,Nat.reduceEqDiff];first|done|rfl)) (by (simp only [elemSzAll];first|done|rfl)));done);(focus (simp only [ee,zz,Nat.reduceEqDiff,arrB];try rfl);done);(iterate 2 (focus omega)))
    |(apply R_make;(focus (simp only [mkInfoAll];try rfl);done);(iterate 2 (focus (simp only [ee,Nat.reduceEqDiff];try rfl);done));(iterate 3 (focus omega));(focus (simp only [hh,Nat.reduceAdd];try rfl);done);(focus rfl);(focus (simp only [hh,Nat.reduceAdd];try rfl);done))
    |(apply R_max;(iterate 2 (focus (simp only [ee,Nat.reduceEqDiff];try rfl);done)))
    |(apply R_min;(iterate 2 (focus (simp only [ee,Nat.reduceEqDiff];try rfl);done)))
    |(apply R_alloc;(focus (simp only [zeroCAll];try rfl);done);(iterate 2 (focus (simp only [hh,Nat.reduceAdd];try rfl);done)))
    |(apply R_box;(focus (simp only [ee,Nat.reduceEqDiff];try rfl);done);(focus rfl);(iterate 2 (focus (simp only [hh,Nat.reduceAdd];try rfl);done)))
    |(apply R_skip;(focus first|exact wantA_f1 rfl rfl rfl (by (simp only [ee,Nat.reduceEqDiff];first|done|rfl)) (by first|rfl|assumption)|exact wantA_f0 rfl rfl rfl (by (simp only [ee,Nat.reduceEqDiff];first|done|rfl)) (by first|rfl|assumption)|exact wantA_und rfl rfl rfl (by (simp only [ee,Nat.reduceEqDiff];first|done|rfl))))
    |((with_reducible apply W_condT);(focus (simp only [ee,Nat.reduceEqDiff];try rfl);done);(focus exact (by first|rfl|assumption)))
    |((with_reducible apply W_condF);(focus (simp only [ee,Nat.reduceEqDiff];try rfl);done);(focus exact (by first|rfl|assumption)))
    |((with_reducible apply W_cond);(focus (simp only [ee,Nat.reduceEqDiff];try rfl);done);(all_goals (intro hbq;(first|(cases hbq;done)|(cases hbq)|(have hpq := of_decide_eq_true hbq)|(have hpq := of_decide_eq_false hbq)|skip))))
    |(apply WR_gsplit;(iterate 3 (focus rfl));(focus (simp only [ee,Nat.reduceEqDiff];try rfl);done);(all_goals (intro hbq;(first|(cases hbq;done)|(cases hbq)|(have hpq := of_decide_eq_true hbq)|(have hpq := of_decide_eq_false hbq)|skip))))
    |((with_reducible apply Ret_i);(focus trivial);(focus rfl);(focus (repeat (first|exact res_nil|(apply res_tmp;(focus (simp only [ee,Nat.reduceEqDiff];try rfl);done);(focus rfl);(focus (simp only [zz];try rfl);done))|(apply res_celln;(focus (simp only [tszAll];try rfl);done);(focus (simp only [ee,Nat.reduceEqDiff];try rfl);done);(focus (simp only [hh,Nat.reduceAdd];try rfl);done);(focus exact Nat.le_of_ble_eq_true rfl);(focus rfl);(focus (simp only [zz];try rfl);done))|(apply res_cell1;(focus (simp only [tszAll];try rfl);done);(focus (simp only [ee,Nat.reduceEqDiff];try rfl);done);(focus (simp only [hh,Nat.reduceAdd];try rfl);done);(focus rfl);(focus (simp only [zz];try rfl);done))));done))
    |((with_reducible apply RetP_i);(focus trivial);(focus rfl);(focus (repeat (first|exact res_nil|(apply res_tmp;(focus (simp only [ee,Nat.reduceEqDiff];try rfl);done);(focus rfl);(focus (simp only [zz];try rfl);done))|(apply res_celln;(focus (simp only [tszAll];try rfl);done);(focus (simp only [ee,Nat.reduceEqDiff];try rfl);done);(focus (simp only [hh,Nat.reduceAdd];try rfl);done);(focus exact Nat.le_of_ble_eq_true rfl);(focus rfl);(focus (simp only [zz];try rfl);done))|(apply res_cell1;(focus (simp only [tszAll];try rfl);done);(focus (simp only [ee,Nat.reduceEqDiff];try rfl);done);(focus (simp only [hh,Nat.reduceAdd];try rfl);done);(focus rfl);(focus (simp only [zz];try rfl);done))));done);(focus (simp only [hh,Nat.reduceAdd];try rfl);done)))
  all_goals first | rfl | (simp; done)
/-- A call of a law, over the memory. -/
theorem law_calls {f : FuncId} {args : List AVal} (hO : Ok Try.prog f args [] (aB true) []) (w : World) (vals : Array Value) (hs : vals.size = args.length) (hr : ∀ i (h : i < args.length) (h' : i < vals.size) l, RepA w (fun _ => .lock none) id l args[i] vals[i]) (hok : ∀ x ∈ args, x.ok 0 = true) :
    Calls Try.prog f vals w fun e w' => e = .returned (.bool true) ∧ Below w.heap.size w w' := by
  refine (hO.run w (fun _ => .lock none) id vals hs hr hok ⟨fun b cs h => by simp at h, fun b cs h => by simp at h⟩).mono ?_
  rintro e w' ⟨v, κ', ρ', rfl, hv, _, hfr, _⟩
  have hv : RepF w' κ' (.v (.bool true)) v := hv (.slot 0)
  rw [(repF_v.1 hv).1]
  exact ⟨rfl, hfr.os, hfr.tape, hfr.output, hfr.size, fun k hk => (hfr.lock k none hk rfl).2⟩
theorem one_rep {w : World} {x : AVal} {v : Value} (h : ∀ l, RepA w (fun _ => .lock none) id l x v) : ∀ i (h : i < [x].length) (h' : i < #[v].size) l, RepA w (fun _ => .lock none) id l [x][i] #[v][i] := fun i h1 h2 l => by
  match i, h1 with
  | 0, _ => exact h l
theorem lawDecodes_ok (s : ByteArray) (hs : s.size + 8 < 9223372036854775807) : Ok Try.prog 5 [aS s] [] (aB true) [] := by
  have h0 := awake_ok
  have h1 := decodes_ok s (by omega)
  have z4 : (⟨#[82, 80, 76, 49]⟩ : ByteArray).size = 4 := rfl
  have z8 : (⟨#[82, 80, 76, 49, 0, 0, 1, 0]⟩ : ByteArray).size = 8 := rfl
  have h2 := decodes_ok (⟨#[82, 80, 76, 49]⟩ ++ s) (by rw [ByteArray.size_append, z4]; omega)
  have h3 := decodes_ok (⟨#[82, 80, 76, 49, 0, 0, 1, 0]⟩ ++ s) (by rw [ByteArray.size_append, z8]; omega)
  refine okP_fn mixed Try.func5 rfl (by kernel_rfl) (Nat.le_of_ble_eq_true (by kernel_rfl)) (by kernel_rfl) rfl rfl ?_
  simp only [arg0, i64, aB, aS, List.length_cons, List.length_nil, Nat.zero_add, Nat.reduceAdd]
  repeat' (first
    |with_reducible refine WR_pp ?_
    |with_reducible refine WR_pd ?_
    |with_reducible refine W_seq ?_
    |with_reducible refine seqK_n ?_
    |with_reducible refine seqK_r ?_
    |with_reducible refine seqK_e ?_
    |with_reducible refine W_block ?_
    |with_reducible refine blockK_n ?_
    |with_reducible refine blockK_e rfl ?_
    |with_reducible refine blockK_r ?_
    |with_reducible refine blockK_o (by decide) ?_
    |with_reducible refine LoopK_e ?_
    |with_reducible refine LoopK_r ?_
    |with_reducible refine LoopX_e (by decide) ?_
    |with_reducible refine LoopX_r ?_
    |with_reducible refine W_skip ?_
    |with_reducible refine W_exit ?_
    |with_reducible refine W_ret ?_
    |with_reducible refine W_region (WOps_WR ?_)
    |with_reducible refine W_draw (WOpsD_WR ?_)
    |with_reducible refine WR_nil ?_
    |(apply R_pure;(focus rfl);(focus (repeat (first|exact args_n|(apply args_c;(focus (simp only [ee,Nat.reduceEqDiff];try rfl);done))));done);(focus rfl);(focus exact h0))
    |(apply R_pure;(focus rfl);(focus (repeat (first|exact args_n|(apply args_c;(focus (simp only [ee,Nat.reduceEqDiff];try rfl);done))));done);(focus rfl);(focus exact h1))
    |(apply R_pure;(focus rfl);(focus (repeat (first|exact args_n|(apply args_c;(focus (simp only [ee,Nat.reduceEqDiff];try rfl);done))));done);(focus rfl);(focus exact h2))
    |(apply R_pure;(focus rfl);(focus (repeat (first|exact args_n|(apply args_c;(focus (simp only [ee,Nat.reduceEqDiff];try rfl);done))));done);(focus rfl);(focus exact h3))
    |(apply WR_nilD;(focus kernel_rfl))
    |(apply R_want;(focus exact wantA_t rfl rfl rfl (by (simp only [ee,Nat.reduceEqDiff];first|done|rfl)) (by first|rfl|assumption)))
    |(apply R_move;(focus (simp only [ee,Nat.reduceEqDiff];try rfl);done);(focus rfl))
    |(apply R_assign;(focus (simp only [ee,Nat.reduceEqDiff];try rfl);done);(focus rfl))
    |(apply R_assign_tip;(focus (simp only [ee,Nat.reduceEqDiff];try rfl);done))
    |(apply R_move_tip;(focus rfl);(focus (simp only [ee,Nat.reduceEqDiff];try rfl);done))
    |(apply R_move_row;(focus rfl);(focus (simp only [ee,Nat.reduceEqDiff];try rfl);done))
    |(apply R_nil_ptr;(focus (simp only [ee,Nat.reduceEqDiff];try rfl);done))
    |(apply R_nil_ip;(focus (simp only [ee,Nat.reduceEqDiff];try rfl);done))
    |(apply R_fa_ptr;(focus (simp only [fldOffAll];try rfl);done);(focus (simp only [ee,Nat.reduceEqDiff];try rfl);done);(focus (simp only [Nat.reduceAdd,Nat.zero_add,Nat.reduceMul];try rfl);done))
    |(apply R_fa_ip;(focus (simp only [fldOffAll];try rfl);done);(focus (simp only [ee,Nat.reduceEqDiff];try rfl);done);(focus (simp only [Nat.reduceAdd,Nat.zero_add,Nat.reduceMul];try rfl);done))
    |(apply R_load_tip;(focus rfl);(focus (simp only [tszAll];try rfl);done);(focus (simp only [ee,Nat.reduceEqDiff];try rfl);done);(focus (simp only [hh,Nat.reduceAdd];try rfl);done);(focus rfl);(focus (simp only [hh,Nat.reduceAdd];try rfl);done))
    |(apply R_load_ptr1;(focus (simp only [tszAll];try rfl);done);(focus (simp only [ee,Nat.reduceEqDiff];try rfl);done);(focus (simp only [hh,Nat.reduceAdd];try rfl);done);(iterate 2 (focus rfl)))
    |(apply R_load_dem;(focus rfl);(focus (simp only [tszAll];try rfl);done);(focus (simp only [ee,Nat.reduceEqDiff];try rfl);done);(focus (simp only [hh,Nat.reduceAdd];try rfl);done);(focus rfl))
    |(apply R_load_ptrn;(focus (simp only [tszAll];try rfl);done);(focus (simp only [ee,Nat.reduceEqDiff];try rfl);done);(focus (simp only [hh,Nat.reduceAdd];try rfl);done);(focus exact Nat.le_of_ble_eq_true rfl);(focus rfl))
    |(apply R_load_rw;(focus (simp only [tszAll];try rfl);done);(focus (simp only [ee,Nat.reduceEqDiff];try rfl);done);(focus rfl);(focus intro _;rfl;done);(focus assumption);(focus (simp only [fStr,fSec,fLnk,fInt,fS,fI,fB,List.map_cons,List.map_nil];try rfl);done))
    |(apply R_load_rk;(focus (simp only [tszAll];try rfl);done);(focus (simp only [ee,Nat.reduceEqDiff];try rfl);done);(focus rfl);(focus intro _;rfl;done);(focus assumption);(focus rfl);(focus (simp only [fStr,fSec,fLnk,fInt,fS,fI,fB,List.getElem?_cons_zero,List.getElem?_cons_succ];try rfl);done))
    |(apply R_load_r1;(focus (simp only [tszAll];try rfl);done);(focus (simp only [ee,Nat.reduceEqDiff];try rfl);done);(focus rfl);(focus intro _;rfl;done);(focus assumption);(focus (simp only [fStr,fSec,fLnk,fInt,fS,fI,fB,List.map_cons,List.map_nil];try rfl);done))
    |(apply R_load_ip1;(focus (simp only [tszAll];try rfl);done);(focus (simp only [ee,Nat.reduceEqDiff];try rfl);done);(focus rfl))
    |(apply R_load_ipn;(focus (simp only [tszAll];try rfl);done);(focus (simp only [ee,Nat.reduceEqDiff];try rfl);done);(focus exact Nat.le_of_ble_eq_true rfl);(focus rfl))
    |(apply R_store_tip;(focus (simp only [tszAll];try rfl);done);(focus (simp only [ee,Nat.reduceEqDiff];try rfl);done);(focus (simp only [hh,Nat.reduceAdd];try rfl);done);(focus (simp only [ee,Nat.reduceEqDiff];try rfl);done);(focus rfl);(focus (simp only [hh,Nat.reduceAdd];try rfl);done))
    |(apply R_store;(focus (simp only [tszAll];try rfl);done);(focus (simp only [ee,Nat.reduceEqDiff];try rfl);done);(focus (simp only [hh,Nat.reduceAdd];try rfl);done);(focus (simp only [ee,Nat.reduceEqDiff];try rfl);done);(iterate 2 (focus rfl));(focus exact ⟨rfl,Nat.le_of_ble_eq_true rfl⟩);(focus (simp only [hh,Nat.reduceAdd];try rfl);done))
    |(apply R_ia_row;(focus (simp only [elemSzAll];try rfl);done);(focus (simp only [ee,Nat.reduceEqDiff];try rfl);done);(focus rfl);(focus (simp only [ee,Nat.reduceEqDiff];try rfl);done);(iterate 2 (focus omega));(focus (simp only [Int.toNat_natCast];try rfl);done))
    |(apply R_ia_arr;(focus (simp only [elemSzAll];try rfl);done);(iterate 2 (focus (simp only [ee,Nat.reduceEqDiff];try rfl);done));(iterate 2 (focus omega));(focus (simp only [Int.toNat_natCast];try rfl);done))
    |(apply R_field;(focus (simp only [fldAtAll];try rfl);done);(focus (simp only [ee,Nat.reduceEqDiff];try rfl);done);(focus rfl))
    |(apply R_extract;(focus (simp only [ee,Nat.reduceEqDiff];try rfl);done);(focus rfl))
    |(apply R_add;(iterate 2 (focus (simp only [ee,Nat.reduceEqDiff];try rfl);done));(iterate 2 (focus omega)))
    |(apply R_sub;(iterate 2 (focus (simp only [ee,Nat.reduceEqDiff];try rfl);done));(iterate 2 (focus omega)))
    |(apply R_mul;(iterate 2 (focus (simp only [ee,Nat.reduceEqDiff];try rfl);done));(iterate 2 (focus omega)))
    |(apply R_quo;(iterate 2 (focus (simp only [ee,Nat.reduceEqDiff];try rfl);done));(iterate 3 (focus omega)))
    |(apply R_rem;(iterate 2 (focus (simp only [ee,Nat.reduceEqDiff];try rfl);done));(iterate 2 (focus omega)))
    |(apply R_sadd;(iterate 2 (focus (simp only [ee,Nat.reduceEqDiff];try rfl);done));(focus omega))
    |(apply R_ibin;(iterate 2 (focus (simp only [ee,Nat.reduceEqDiff];try rfl);done));(focus rfl))
    |(apply R_sbin;(iterate 2 (focus (simp only [ee,Nat.reduceEqDiff];try rfl);done));(focus rfl))
    |(apply R_un;(focus (simp only [ee,Nat.reduceEqDiff];try rfl);done);(focus rfl))
    |(apply R_index_strD;(focus (simp only [undAll];try rfl);done);(iterate 2 (focus (simp only [ee,Nat.reduceEqDiff];try rfl);done));(iterate 2 (focus omega)))
    |(apply R_len_str;(focus (simp only [undAll];try rfl);done);(focus (simp only [ee,Nat.reduceEqDiff];try rfl);done))
    |(apply R_len_row;(focus (simp only [elemSzAll];try rfl);done);(focus (simp only [ee,Nat.reduceEqDiff];try rfl);done);(focus rfl))
    |(apply R_len_arr;(focus (simp only [elemSzAll];try rfl);done);(focus (simp only [ee,Nat.reduceEqDiff];try rfl);done))
    |(apply R_len_nil;(focus (simp only [undAll];try rfl);done);(focus (simp only [ee,Nat.reduceEqDiff];try rfl);done))
    |(apply R_pickT;(focus (simp only [ee,Nat.reduceEqDiff];try rfl);done);(focus exact (by first|rfl|assumption));(focus (simp only [ee,Nat.reduceEqDiff];try rfl);done);(focus rfl))
    |(apply R_pickF;(focus (simp only [ee,Nat.reduceEqDiff];try rfl);done);(focus exact (by first|rfl|assumption));(focus (simp only [ee,Nat.reduceEqDiff];try rfl);done);(focus rfl))
    |(apply R_build;(focus (simp only [bInfoAll];try rfl);done);(focus (repeat (first|exact partsC_n|(apply partsC_c;(focus (simp only [ee,Nat.reduceEqDiff];try rfl);done);(focus rfl))));done);(focus rfl))
    |(apply R_buildSlice;(focus (simp only [mkInfoAll];try rfl);done);(focus (repeat (first|exact partsC_n|(apply partsC_c;(focus (simp only [ee,Nat.reduceEqDiff];try rfl);done);(focus rfl))));done);(focus decide);(iterate 2 (focus rfl)))
    |(apply R_slice_str;(focus (simp only [undAll];try rfl);done);(focus (simp only [ee,Nat.reduceEqDiff];try rfl);done);(iterate 2 (focus (first|exact bnd_none|exact bnd_some (by (simp only [ee,Nat.reduceEqDiff];first|done|rfl)));done));(iterate 3 (focus omega)))
    |(apply R_slice_row;(focus (simp only [elemSzAll];try rfl);done);(focus (simp only [ee,Nat.reduceEqDiff];try rfl);done);(focus rfl);(iterate 2 (focus (first|exact bnd_none|exact bnd_some (by (simp only [ee,Nat.reduceEqDiff];first|done|rfl)));done));(iterate 3 (focus omega));(iterate 2 (focus rfl)))
    |(apply R_conv64;(iterate 2 (focus (simp only [undAll];try rfl);done));(focus (simp only [ee,Nat.reduceEqDiff];try rfl);done);(iterate 2 (focus omega)))
    |(apply R_conv_int;(iterate 2 (focus (simp only [undAll];try rfl);done));(focus (simp only [ee,Nat.reduceEqDiff];try rfl);done))
    |(apply R_bbin;(iterate 2 (focus (simp only [ee,Nat.reduceEqDiff];try rfl);done));(focus rfl))
    |(apply R_shl;(iterate 2 (focus (simp only [ee,Nat.reduceEqDiff];try rfl);done));(focus omega))
    |(apply R_shr;(iterate 2 (focus (simp only [ee,Nat.reduceEqDiff];try rfl);done));(focus omega))
    |(apply R_append_tip;(focus (simp only [mkInfoAll];try rfl);done);(focus (simp only [ee,Nat.reduceEqDiff];try rfl);done);(focus (first|exact src_row (by (simp only [ee,Nat.reduceEqDiff];first|done|rfl)) rfl (by (simp only [elemSzAll];first|done|rfl)) (by first|rfl|simp)|exact src_nil (by (simp only [ee,Nat.reduceEqDiff];first|done|rfl)) (by (simp only [elemSzAll];first|done|rfl)));done);(focus (simp only [ee,zz,Nat.reduceEqDiff,arrB];try rfl);done);(iterate 2 (focus omega)))
    |(apply R_append_nil;(focus (simp only [mkInfoAll];try rfl);done);(focus (simp only [ee,Nat.reduceEqDiff];try rfl);done);(focus (first|exact src_row (by (simp only [ee,Nat.reduceEqDiff];first|done|rfl)) rfl (by (simp only [elemSzAll];first|done|rfl)) (by first|rfl|simp)|exact src_nil (by (simp only [ee,Nat.reduceEqDiff];first|done|rfl)) (by (simp only [elemSzAll];first|done|rfl)));done);(focus (simp only [ee,zz,Nat.reduceEqDiff,arrB];try rfl);done);(iterate 2 (focus omega)))
    |(apply R_make;(focus (simp only [mkInfoAll];try rfl);done);(iterate 2 (focus (simp only [ee,Nat.reduceEqDiff];try rfl);done));(iterate 3 (focus omega));(focus (simp only [hh,Nat.reduceAdd];try rfl);done);(focus rfl);(focus (simp only [hh,Nat.reduceAdd];try rfl);done))
    |(apply R_max;(iterate 2 (focus (simp only [ee,Nat.reduceEqDiff];try rfl);done)))
    |(apply R_min;(iterate 2 (focus (simp only [ee,Nat.reduceEqDiff];try rfl);done)))
    |(apply R_alloc;(focus (simp only [zeroCAll];try rfl);done);(iterate 2 (focus (simp only [hh,Nat.reduceAdd];try rfl);done)))
    |(apply R_box;(focus (simp only [ee,Nat.reduceEqDiff];try rfl);done);(focus rfl);(iterate 2 (focus (simp only [hh,Nat.reduceAdd];try rfl);done)))
    |(apply R_skip;(focus first|exact wantA_f1 rfl rfl rfl (by (simp only [ee,Nat.reduceEqDiff];first|done|rfl)) (by first|rfl|assumption)|exact wantA_f0 rfl rfl rfl (by (simp only [ee,Nat.reduceEqDiff];first|done|rfl)) (by first|rfl|assumption)|exact wantA_und rfl rfl rfl (by (simp only [ee,Nat.reduceEqDiff];first|done|rfl))))
    |((with_reducible apply W_condT);(focus (simp only [ee,Nat.reduceEqDiff];try rfl);done);(focus exact (by first|rfl|assumption)))
    |((with_reducible apply W_condF);(focus (simp only [ee,Nat.reduceEqDiff];try rfl);done);(focus exact (by first|rfl|assumption)))
    |((with_reducible apply W_cond);(focus (simp only [ee,Nat.reduceEqDiff];try rfl);done);(all_goals (intro hbq;(first|(cases hbq;done)|(cases hbq)|(have hpq := of_decide_eq_true hbq)|(have hpq := of_decide_eq_false hbq)|skip))))
    |(apply WR_gsplit;(iterate 3 (focus rfl));(focus (simp only [ee,Nat.reduceEqDiff];try rfl);done);(all_goals (intro hbq;(first|(cases hbq;done)|(cases hbq)|(have hpq := of_decide_eq_true hbq)|(have hpq := of_decide_eq_false hbq)|skip))))
    |((with_reducible apply Ret_i);(focus trivial);(focus rfl);(focus (repeat (first|exact res_nil|(apply res_tmp;(focus (simp only [ee,Nat.reduceEqDiff];try rfl);done);(focus rfl);(focus (simp only [zz];try rfl);done))|(apply res_celln;(focus (simp only [tszAll];try rfl);done);(focus (simp only [ee,Nat.reduceEqDiff];try rfl);done);(focus (simp only [hh,Nat.reduceAdd];try rfl);done);(focus exact Nat.le_of_ble_eq_true rfl);(focus rfl);(focus (simp only [zz];try rfl);done))|(apply res_cell1;(focus (simp only [tszAll];try rfl);done);(focus (simp only [ee,Nat.reduceEqDiff];try rfl);done);(focus (simp only [hh,Nat.reduceAdd];try rfl);done);(focus rfl);(focus (simp only [zz];try rfl);done))));done))
    |((with_reducible apply RetP_i);(focus trivial);(focus rfl);(focus (repeat (first|exact res_nil|(apply res_tmp;(focus (simp only [ee,Nat.reduceEqDiff];try rfl);done);(focus rfl);(focus (simp only [zz];try rfl);done))|(apply res_celln;(focus (simp only [tszAll];try rfl);done);(focus (simp only [ee,Nat.reduceEqDiff];try rfl);done);(focus (simp only [hh,Nat.reduceAdd];try rfl);done);(focus exact Nat.le_of_ble_eq_true rfl);(focus rfl);(focus (simp only [zz];try rfl);done))|(apply res_cell1;(focus (simp only [tszAll];try rfl);done);(focus (simp only [ee,Nat.reduceEqDiff];try rfl);done);(focus (simp only [hh,Nat.reduceAdd];try rfl);done);(focus rfl);(focus (simp only [zz];try rfl);done))));done);(focus (simp only [hh,Nat.reduceAdd];try rfl);done)))
  all_goals rfl
end Go.Proofs.Ythnfliopmjpdmaa.Av
namespace Go.Proofs.Ythnfliopmjpdmaa
open Go.RowKit
theorem W.LayoutbinDecodes (a0 : ByteArray) (w0 : a0.size ≤ reachBytes) (w : World) :
    Calls Try.prog 5 #[.string a0] w fun e w' => e = .returned (.bool true) ∧ Below w.heap.size w w' := by
  have := reachBytes_lt
  exact Av.law_calls (Av.lawDecodes_ok a0 (by omega)) w _ rfl (Av.one_rep fun l => Av.RepF.v _ rfl) (fun x hx => by simp at hx; subst hx; rfl)
end Go.Proofs.Ythnfliopmjpdmaa
