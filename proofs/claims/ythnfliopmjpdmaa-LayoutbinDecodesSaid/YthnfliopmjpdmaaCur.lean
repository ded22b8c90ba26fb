/- The cursor of layoutbin: what its methods return. -/
import Derived.Test.YthnfliopmjpdmaaAvP
namespace Go.Proofs.Ythnfliopmjpdmaa.Av
set_option linter.unusedVariables false
set_option linter.unusedSimpArgs false
set_option maxRecDepth 4000
set_option maxHeartbeats 4000000

/-- A cursor: the code, the position, whether it was short. -/
structure Cur where
  code : ByteArray
  pos : Nat
  short : Bool
def Cur.ok (c : Cur) : Prop := c.pos ≤ c.code.size ∧ c.code.size < 9223372036854775807
def Cur.box (c : Cur) : List CVal := [.f (.v (.string c.code)), .f (.v (.int .i64 c.pos)), .f (.v (.bool c.short))]
def Cur.bytes (c : Cur) (n : Nat) : ByteArray × Cur :=
  if c.short = true ∨ c.code.size < c.pos + n then (⟨#[]⟩, { c with short := true }) else (c.code.extract c.pos (c.pos + n), { c with pos := c.pos + n })
theorem cursor_bytes (c : Cur) (n : Nat) (hc : c.ok) (hn : n < 1000000) :
    Ok Try.prog 31 [.c (.ptr 0 0), i64 n] [some c.box] (aS (c.bytes n).1) [some (c.bytes n).2.box] := by
  obtain ⟨code, pos, short⟩ := c
  obtain ⟨h1, h2⟩ := hc
  simp only at h1 h2
  simp only [Cur.bytes, Cur.box]
  refine ok_fn mixed Try.func31 rfl (by kernel_rfl) (Nat.le_of_ble_eq_true (by kernel_rfl)) (by kernel_rfl) rfl rfl (Nat.le_of_ble_eq_true rfl) rfl ?_
  simp only [arg0, i64, aB, aS, List.length_cons, List.length_nil, Nat.zero_add, Nat.reduceAdd]
  repeat' (first
    |with_reducible refine WR_pp ?_
    |with_reducible refine WR_pd ?_
    |with_reducible refine W_seq ?_
    |with_reducible refine seqK_n ?_
    |with_reducible refine seqK_r ?_
    |with_reducible refine seqK_e ?_
    |with_reducible refine W_block ?_
    |with_reducible refine blockK_n ?_
    |with_reducible refine blockK_e rfl ?_
    |with_reducible refine blockK_r ?_
    |with_reducible refine blockK_o (by decide) ?_
    |with_reducible refine LoopK_e ?_
    |with_reducible refine LoopK_r ?_
    |with_reducible refine LoopX_e (by decide) ?_
    |with_reducible refine LoopX_r ?_
    |with_reducible refine W_skip ?_
    |with_reducible refine W_exit ?_
    |with_reducible refine W_ret ?_
    |with_reducible refine W_region (WOps_WR ?_)
    |with_reducible refine W_draw (WOpsD_WR ?_)
    |with_reducible refine WR_nil ?_
    |(apply WR_nilD;(focus kernel_rfl))
    |(apply R_want;(focus exact wantA_t rfl rfl rfl (by (simp only [ee,Nat.reduceEqDiff];first|done|rfl)) (by first|rfl|assumption)))
    |(apply R_move;(focus (simp only [ee,Nat.reduceEqDiff];try rfl);done);(focus rfl))
    |(apply R_assign;(focus (simp only [ee,Nat.reduceEqDiff];try rfl);done);(focus rfl))
    |(apply R_assign_tip;(focus (simp only [ee,Nat.reduceEqDiff];try rfl);done))
    |(apply R_move_tip;(focus rfl);(focus (simp only [ee,Nat.reduceEqDiff];try rfl);done))
    |(apply R_move_row;(focus rfl);(focus (simp only [ee,Nat.reduceEqDiff];try rfl);done))
    |(apply R_nil_ptr;(focus (simp only [ee,Nat.reduceEqDiff];try rfl);done))
    |(apply R_nil_ip;(focus (simp only [ee,Nat.reduceEqDiff];try rfl);done))
    |(apply R_fa_ptr;(focus (simp only [fldOffAll];try rfl);done);(focus (simp only [ee,Nat.reduceEqDiff];try rfl);done);(focus (simp only [Nat.reduceAdd,Nat.zero_add,Nat.reduceMul];try rfl);done))
    |(apply R_fa_ip;(focus (simp only [fldOffAll];try rfl);done);(focus (simp only [ee,Nat.reduceEqDiff];try rfl);done);(focus (simp only [Nat.reduceAdd,Nat.zero_add,Nat.reduceMul];try rfl);done))
    |(apply R_load_tip;(focus rfl);(focus (simp only [tszAll];try rfl);done);(focus (simp only [ee,Nat.reduceEqDiff];try rfl);done);(focus (simp only [hh,Nat.reduceAdd];try rfl);done);(focus rfl);(focus (simp only [hh,Nat.reduceAdd];try rfl);done))
    |(apply R_load_ptr1;(focus (simp only [tszAll];try rfl);done);(focus (simp only [ee,Nat.reduceEqDiff];try rfl);done);(focus (simp only [hh,Nat.reduceAdd];try rfl);done);(iterate 2 (focus rfl)))
    |(apply R_load_dem;(focus rfl);(focus (simp only [tszAll];try rfl);done);(focus (simp only [ee,Nat.reduceEqDiff];try rfl);done);(focus (simp only [hh,Nat.reduceAdd];try rfl);done);(focus rfl))
    |(apply R_load_ptrn;(focus (simp only [tszAll];try rfl);done);(focus (simp only [ee,Nat.reduceEqDiff];try rfl);done);(focus (simp only [hh,Nat.reduceAdd];try rfl);done);(focus exact Nat.le_of_ble_eq_true rfl);(focus rfl))
    |(apply R_load_rw;(focus (simp only [tszAll];try rfl);done);(focus (simp only [ee,Nat.reduceEqDiff];try rfl);done);(focus rfl);(focus intro _;rfl;done);(focus assumption);(focus (simp only [fStr,fSec,fLnk,fInt,fS,fI,fB,List.map_cons,List.map_nil];try rfl);done))
    |(apply R_load_rk;(focus (simp only [tszAll];try rfl);done);(focus (simp only [ee,Nat.reduceEqDiff];try rfl);done);(focus rfl);(focus intro _;rfl;done);(focus assumption);(focus rfl);(focus (simp only [fStr,fSec,fLnk,fInt,fS,fI,fB,List.getElem?_cons_zero,List.getElem?_cons_succ];try rfl);done))
    |(apply R_load_r1;(focus (simp only [tszAll];try rfl);done);(focus (simp only [ee,Nat.reduceEqDiff];try rfl);done);(focus rfl);(focus intro _;rfl;done);(focus assumption);(focus (simp only [fStr,fSec,fLnk,fInt,fS,fI,fB,List.map_cons,List.map_nil];try rfl);done))
    |(apply R_load_ip1;(focus (simp only [tszAll];try rfl);done);(focus (simp only [ee,Nat.reduceEqDiff];try rfl);done);(focus rfl))
    |(apply R_load_ipn;(focus (simp only [tszAll];try rfl);done);(focus (simp only [ee,Nat.reduceEqDiff];try rfl);done);(focus exact Nat.le_of_ble_eq_true rfl);(focus rfl))
    |(apply R_store_tip;(focus (simp only [tszAll];try rfl);done);(focus (simp only [ee,Nat.reduceEqDiff];try rfl);done);(focus (simp only [hh,Nat.reduceAdd];try rfl);done);(focus (simp only [ee,Nat.reduceEqDiff];try rfl);done);(focus rfl);(focus (simp only [hh,Nat.reduceAdd];try rfl);done))
    |(apply R_store;(focus (simp only [tszAll];try rfl);done);(focus (simp only [ee,Nat.reduceEqDiff];try rfl);done);(focus (simp only [hh,Nat.reduceAdd];try rfl);done);(focus (simp only [ee,Nat.reduceEqDiff];try rfl);done);(iterate 2 (focus rfl));(focus exact ⟨rfl,Nat.le_of_ble_eq_true rfl⟩);(focus (simp only [hh,Nat.reduceAdd];try rfl);done))
    |(apply R_ia_row;(focus (simp only [elemSzAll];try rfl);done);(focus (simp only [ee,Nat.reduceEqDiff];try rfl);done);(focus rfl);(focus (simp only [ee,Nat.reduceEqDiff];try rfl);done);(iterate 2 (focus omega));(focus (simp only [Int.toNat_natCast];try rfl);done))
    |(apply R_ia_arr;(focus (simp only [elemSzAll];try rfl);done);(iterate 2 (focus (simp only [ee,Nat.reduceEqDiff];try rfl);done));(iterate 2 (focus omega));(focus (simp only [Int.toNat_natCast];try rfl);done))
    |(apply R_field;(focus (simp only [fldAtAll];try rfl);done);(focus (simp only [ee,Nat.reduceEqDiff];try rfl);done);(focus rfl))
    |(apply R_extract;(focus (simp only [ee,Nat.reduceEqDiff];try rfl);done);(focus rfl))
    |(apply R_add;(iterate 2 (focus (simp only [ee,Nat.reduceEqDiff];try rfl);done));(iterate 2 (focus omega)))
    |(apply R_sub;(iterate 2 (focus (simp only [ee,Nat.reduceEqDiff];try rfl);done));(iterate 2 (focus omega)))
    |(apply R_mul;(iterate 2 (focus (simp only [ee,Nat.reduceEqDiff];try rfl);done));(iterate 2 (focus omega)))
    |(apply R_quo;(iterate 2 (focus (simp only [ee,Nat.reduceEqDiff];try rfl);done));(iterate 3 (focus omega)))
    |(apply R_rem;(iterate 2 (focus (simp only [ee,Nat.reduceEqDiff];try rfl);done));(iterate 2 (focus omega)))
    |(apply R_sadd;(iterate 2 (focus (simp only [ee,Nat.reduceEqDiff];try rfl);done));(focus omega))
    |(apply R_ibin;(iterate 2 (focus (simp only [ee,Nat.reduceEqDiff];try rfl);done));(focus rfl))
    |(apply R_sbin;(iterate 2 (focus (simp only [ee,Nat.reduceEqDiff];try rfl);done));(focus rfl))
    |(apply R_un;(focus (simp only [ee,Nat.reduceEqDiff];try rfl);done);(focus rfl))
    |(apply R_index_strD;(focus (simp only [undAll];try rfl);done);(iterate 2 (focus (simp only [ee,Nat.reduceEqDiff];try rfl);done));(iterate 2 (focus omega)))
    |(apply R_len_str;(focus (simp only [undAll];try rfl);done);(focus (simp only [ee,Nat.reduceEqDiff];try rfl);done))
    |(apply R_len_row;(focus (simp only [elemSzAll];try rfl);done);(focus (simp only [ee,Nat.reduceEqDiff];try rfl);done);(focus rfl))
    |(apply R_len_arr;(focus (simp only [elemSzAll];try rfl);done);(focus (simp only [ee,Nat.reduceEqDiff];try rfl);done))
    |(apply R_len_nil;(focus (simp only [undAll];try rfl);done);(focus (simp only [ee,Nat.reduceEqDiff];try rfl);done))
    |(apply R_pickT;(focus (simp only [ee,Nat.reduceEqDiff];try rfl);done);(focus exact (by first|rfl|assumption));(focus (simp only [ee,Nat.reduceEqDiff];try rfl);done);(focus rfl))
    |(apply R_pickF;(focus (simp only [ee,Nat.reduceEqDiff];try rfl);done);(focus exact (by first|rfl|assumption));(focus (simp only [ee,Nat.reduceEqDiff];try rfl);done);(focus rfl))
    |(apply R_build;(focus (simp only [bInfoAll];try rfl);done);(focus (repeat (first|exact partsC_n|(apply partsC_c;(focus (simp only [ee,Nat.reduceEqDiff];try rfl);done);(focus rfl))));done);(focus rfl))
    |(apply R_buildSlice;(focus (simp only [mkInfoAll];try rfl);done);(focus (repeat (first|exact partsC_n|(apply partsC_c;(focus (simp only [ee,Nat.reduceEqDiff];try rfl);done);(focus rfl))));done);(focus decide);(iterate 2 (focus rfl)))
    |(apply R_slice_str;(focus (simp only [undAll];try rfl);done);(focus (simp only [ee,Nat.reduceEqDiff];try rfl);done);(iterate 2 (focus (first|exact bnd_none|exact bnd_some (by (simp only [ee,Nat.reduceEqDiff];first|done|rfl)));done));(iterate 3 (focus omega)))
    |(apply R_slice_row;(focus (simp only [elemSzAll];try rfl);done);(focus (simp only [ee,Nat.reduceEqDiff];try rfl);done);(focus rfl);(iterate 2 (focus (first|exact bnd_none|exact bnd_some (by (simp only [ee,Nat.reduceEqDiff];first|done|rfl)));done));(iterate 3 (focus omega));(iterate 2 (focus rfl)))
    |(apply R_conv64;(iterate 2 (focus (simp only [undAll];try rfl);done));(focus (simp only [ee,Nat.reduceEqDiff];try rfl);done);(iterate 2 (focus omega)))
    |(apply R_conv_int;(iterate 2 (focus (simp only [undAll];try rfl);done));(focus (simp only [ee,Nat.reduceEqDiff];try rfl);done))
    |(apply R_bbin;(iterate 2 (focus (simp only [ee,Nat.reduceEqDiff];try rfl);done));(focus rfl))
    |(apply R_shl;(iterate 2 (focus (simp only [ee,Nat.reduceEqDiff];try rfl);done));(focus omega))
    |(apply R_shr;(iterate 2 (focus (simp only [ee,Nat.reduceEqDiff];try rfl);done));(focus omega))
    |(apply R_append_tip;(focus (simp only [mkInfoAll];try rfl);done);(focus (simp only [ee,Nat.reduceEqDiff];try rfl);done);(focus (first|exact src_row (by (simp only [ee,Nat.reduceEqDiff];first|done|rfl)) rfl (by (simp only [elemSzAll];first|done|rfl)) (by first|rfl|simp)|exact src_nil (by (simp only [ee,Nat.reduceEqDiff];first|done|rfl)) (by (simp only [elemSzAll];first|done|rfl)));done);(focus (simp only [ee,zz,Nat.reduceEqDiff,arrB];try rfl);done);(iterate 2 (focus omega)))
    |(apply R_append_nil;(focus (simp only [mkInfoAll];try rfl);done);(focus (simp only [ee,Nat.reduceEqDiff];try rfl);done);(focus (first|exact src_row (by (simp only [ee,Nat.reduceEqDiff];first|done|rfl)) rfl (by (simp only [elemSzAll];first|done|rfl)) (by first|rfl|simp)|exact src_nil (by (simp only [ee,Nat.reduceEqDiff];first|done|rfl)) (by (simp only [elemSzAll];first|done|rfl)));done);(focus (simp only [ee,zz,Nat.reduceEqDiff,arrB];try rfl);done);(iterate 2 (focus omega)))
    |(apply R_make;(focus (simp only [mkInfoAll];try rfl);done);(iterate 2 (focus (simp only [ee,Nat.reduceEqDiff];try rfl);done));(iterate 3 (focus omega));(focus (simp only [hh,Nat.reduceAdd];try rfl);done);(focus rfl);(focus (simp only [hh,Nat.reduceAdd];try rfl);done))
    |(apply R_max;(iterate 2 (focus (simp only [ee,Nat.reduceEqDiff];try rfl);done)))
    |(apply R_min;(iterate 2 (focus (simp only [ee,Nat.reduceEqDiff];try rfl);done)))
    |(apply R_alloc;(focus (simp only [zeroCAll];try rfl);done);(iterate 2 (focus (simp only [hh,Nat.reduceAdd];try rfl);done)))
    |(apply R_box;(focus (simp only [ee,Nat.reduceEqDiff];try rfl);done);(focus rfl);(iterate 2 (focus (simp only [hh,Nat.reduceAdd];try rfl);done)))
    |(apply R_skip;(focus first|exact wantA_f1 rfl rfl rfl (by (simp only [ee,Nat.reduceEqDiff];first|done|rfl)) (by first|rfl|assumption)|exact wantA_f0 rfl rfl rfl (by (simp only [ee,Nat.reduceEqDiff];first|done|rfl)) (by first|rfl|assumption)|exact wantA_und rfl rfl rfl (by (simp only [ee,Nat.reduceEqDiff];first|done|rfl))))
    |((with_reducible apply W_condT);(focus (simp only [ee,Nat.reduceEqDiff];try rfl);done);(focus exact (by first|rfl|assumption)))
    |((with_reducible apply W_condF);(focus (simp only [ee,Nat.reduceEqDiff];try rfl);done);(focus exact (by first|rfl|assumption)))
    |((with_reducible apply W_cond);(focus (simp only [ee,Nat.reduceEqDiff];try rfl);done);(all_goals (intro hbq;(first|(cases hbq;done)|(cases hbq)|(have hpq := of_decide_eq_true hbq)|(have hpq := of_decide_eq_false hbq)|skip))))
    |(apply WR_gsplit;(iterate 3 (focus rfl));(focus (simp only [ee,Nat.reduceEqDiff];try rfl);done);(all_goals (intro hbq;(first|(cases hbq;done)|(cases hbq)|(have hpq := of_decide_eq_true hbq)|(have hpq := of_decide_eq_false hbq)|skip))))
    |((with_reducible apply Ret_i);(focus trivial);(focus rfl);(focus (repeat (first|exact res_nil|(apply res_tmp;(focus (simp only [ee,Nat.reduceEqDiff];try rfl);done);(focus rfl);(focus (simp only [zz];try rfl);done))|(apply res_celln;(focus (simp only [tszAll];try rfl);done);(focus (simp only [ee,Nat.reduceEqDiff];try rfl);done);(focus (simp only [hh,Nat.reduceAdd];try rfl);done);(focus exact Nat.le_of_ble_eq_true rfl);(focus rfl);(focus (simp only [zz];try rfl);done))|(apply res_cell1;(focus (simp only [tszAll];try rfl);done);(focus (simp only [ee,Nat.reduceEqDiff];try rfl);done);(focus (simp only [hh,Nat.reduceAdd];try rfl);done);(focus rfl);(focus (simp only [zz];try rfl);done))));done))
    |((with_reducible apply RetP_i);(focus trivial);(focus rfl);(focus (repeat (first|exact res_nil|(apply res_tmp;(focus (simp only [ee,Nat.reduceEqDiff];try rfl);done);(focus rfl);(focus (simp only [zz];try rfl);done))|(apply res_celln;(focus (simp only [tszAll];try rfl);done);(focus (simp only [ee,Nat.reduceEqDiff];try rfl);done);(focus (simp only [hh,Nat.reduceAdd];try rfl);done);(focus exact Nat.le_of_ble_eq_true rfl);(focus rfl);(focus (simp only [zz];try rfl);done))|(apply res_cell1;(focus (simp only [tszAll];try rfl);done);(focus (simp only [ee,Nat.reduceEqDiff];try rfl);done);(focus (simp only [hh,Nat.reduceAdd];try rfl);done);(focus rfl);(focus (simp only [zz];try rfl);done))));done);(focus (simp only [hh,Nat.reduceAdd];try rfl);done)))
  all_goals simp only [H_put, H_setH, H_of, packT, TVal.a, CVal.dem, List.length_cons, List.length_nil, Nat.zero_add, List.take_succ_cons, List.take_zero]
  · simp
  · simp
  · rw [if_pos (.inr (by omega))]
  · rw [if_pos (.inr (by omega))]
  · rw [if_neg (by simp; omega)]
    simp only [Int.toNat_natCast]
    rw [show ((pos : Int) + n).toNat = pos + n by omega]
  · rw [if_neg (by simp; omega)]
    simp only [Int.natCast_add]
/-- A number of little bytes. -/
def leNum (b : ByteArray) : Nat → Nat
  | 0 => 0
  | i + 1 => leNum b i ||| ((b.data.getD i 0).toNat <<< (8 * i))
theorem leNum_lt (b : ByteArray) : ∀ i, leNum b i < 2 ^ (8 * i)
  | 0 => by simp [leNum]
  | i + 1 => by
    have h1 := leNum_lt b i
    have h2 : (b.data.getD i 0).toNat < 256 := UInt8.toNat_lt _
    simp only [leNum]
    refine Nat.or_lt_two_pow (Nat.lt_of_lt_of_le h1 (Nat.pow_le_pow_right (by omega) (by omega))) ?_
    rw [Nat.shiftLeft_eq, show 8 * (i + 1) = 8 + 8 * i by omega, Nat.pow_add]
    exact Nat.mul_lt_mul_of_pos_right (by simpa using h2) (Nat.two_pow_pos _)
theorem or64 (a b : Nat) (ha : a < 2 ^ 62) (hb : b < 2 ^ 62) : IntKind.i64.wrap (((BitVec.ofInt 64 (a : Int) ||| BitVec.ofInt 64 (b : Int)).toNat : Nat) : Int) = ((a ||| b : Nat) : Int) := by
  have h1 : (BitVec.ofInt 64 (a : Int) ||| BitVec.ofInt 64 (b : Int)).toNat = a ||| b := by
    rw [BitVec.toNat_or, BitVec.ofInt_natCast, BitVec.ofInt_natCast, BitVec.toNat_ofNat, BitVec.toNat_ofNat, Nat.mod_eq_of_lt (by omega), Nat.mod_eq_of_lt (by omega)]
  have h2 : a ||| b < 2 ^ 62 := Nat.or_lt_two_pow ha hb
  rw [h1]
  exact wrap64 (by omega) (by omega)
theorem num_step (item : ByteArray) (i : Nat) (h : i < 4) : IntKind.i64.wrap (((BitVec.ofInt IntKind.i64.bits (leNum item i : Int) ||| BitVec.ofInt IntKind.i64.bits (IntKind.i64.wrap (IntKind.i64.wrap ((item.data.getD (i : Int).toNat 0).toNat : Int) * 2 ^ min (8 * (i : Int)).toNat IntKind.i64.bits))).toNat : Nat) : Int) = (leNum item (i + 1) : Int) := by
  have hx : (item.data.getD i 0).toNat < 256 := UInt8.toNat_lt _
  have h1 := leNum_lt item i
  have h2 : (2 : Nat) ^ (8 * i) ≤ 2 ^ 24 := Nat.pow_le_pow_right (by omega) (by omega)
  have h3 : (item.data.getD i 0).toNat * 2 ^ (8 * i) ≤ 255 * 2 ^ 24 := Nat.mul_le_mul (by omega) h2
  rw [Int.toNat_natCast, wrap64 (n := ((item.data.getD i 0).toNat : Int)) (by omega) (by omega)]
  have e1 : min (8 * (i : Int)).toNat IntKind.i64.bits = 8 * i := by
    show min _ 64 = _
    omega
  rw [e1]
  have e2 : ((item.data.getD i 0).toNat : Int) * 2 ^ (8 * i) = (((item.data.getD i 0).toNat * 2 ^ (8 * i) : Nat) : Int) := by simp
  rw [e2, wrap64 (n := (((item.data.getD i 0).toNat * 2 ^ (8 * i) : Nat) : Int)) (by omega) (by omega)]
  have := or64 (leNum item i) ((item.data.getD i 0).toNat * 2 ^ (8 * i)) (by omega) (by omega)
  refine this.trans ?_
  simp only [leNum, Nat.shiftLeft_eq]
theorem cursor_number (c : Cur) (n : Nat) (hc : c.ok) (hn : n ≤ 4) :
    Ok Try.prog 33 [.c (.ptr 0 0), i64 n] [some c.box] (i64 (leNum (c.bytes n).1 (c.bytes n).1.size)) [some (c.bytes n).2.box] := by
  have hb := cursor_bytes c n hc (by omega)
  have hsz : (c.bytes n).1.size ≤ 4 := by
    unfold Cur.bytes
    split
    · simp [ByteArray.size]
    · simp; omega
  revert hb hsz
  generalize (c.bytes n).1 = item
  generalize (c.bytes n).2 = c2
  intro hb hsz
  refine ok_fn mixed Try.func33 rfl (by kernel_rfl) (Nat.le_of_ble_eq_true (by kernel_rfl)) (by kernel_rfl) rfl rfl (Nat.le_of_ble_eq_true rfl) rfl ?_
  simp only [arg0, i64, aB, aS, List.length_cons, List.length_nil, Nat.zero_add, Nat.reduceAdd]
  repeat' (first
    |with_reducible refine WR_pp ?_
    |with_reducible refine WR_pd ?_
    |with_reducible refine W_seq ?_
    |with_reducible refine seqK_n ?_
    |with_reducible refine seqK_r ?_
    |with_reducible refine seqK_e ?_
    |with_reducible refine W_block ?_
    |with_reducible refine blockK_n ?_
    |with_reducible refine blockK_e rfl ?_
    |with_reducible refine blockK_r ?_
    |with_reducible refine blockK_o (by decide) ?_
    |with_reducible refine LoopK_e ?_
    |with_reducible refine LoopK_r ?_
    |with_reducible refine LoopX_e (by decide) ?_
    |with_reducible refine LoopX_r ?_
    |with_reducible refine W_skip ?_
    |with_reducible refine W_exit ?_
    |with_reducible refine W_ret ?_
    |with_reducible refine W_region (WOps_WR ?_)
    |with_reducible refine W_draw (WOpsD_WR ?_)
    |with_reducible refine WR_nil ?_
    |(apply R_same;(focus rfl);(focus (repeat (first|exact args_n|(apply args_c;(focus (simp only [ee,Nat.reduceEqDiff];try rfl);done))));done);(focus (simp only [hh,Nat.reduceAdd];try rfl);done);(focus exact hb);(iterate 4 (focus rfl)))
    |(apply WR_nilD;(focus kernel_rfl))
    |(apply R_want;(focus exact wantA_t rfl rfl rfl (by (simp only [ee,Nat.reduceEqDiff];first|done|rfl)) (by first|rfl|assumption)))
    |(apply R_move;(focus (simp only [ee,Nat.reduceEqDiff];try rfl);done);(focus rfl))
    |(apply R_assign;(focus (simp only [ee,Nat.reduceEqDiff];try rfl);done);(focus rfl))
    |(apply R_assign_tip;(focus (simp only [ee,Nat.reduceEqDiff];try rfl);done))
    |(apply R_move_tip;(focus rfl);(focus (simp only [ee,Nat.reduceEqDiff];try rfl);done))
    |(apply R_move_row;(focus rfl);(focus (simp only [ee,Nat.reduceEqDiff];try rfl);done))
    |(apply R_nil_ptr;(focus (simp only [ee,Nat.reduceEqDiff];try rfl);done))
    |(apply R_nil_ip;(focus (simp only [ee,Nat.reduceEqDiff];try rfl);done))
    |(apply R_fa_ptr;(focus (simp only [fldOffAll];try rfl);done);(focus (simp only [ee,Nat.reduceEqDiff];try rfl);done);(focus (simp only [Nat.reduceAdd,Nat.zero_add,Nat.reduceMul];try rfl);done))
    |(apply R_fa_ip;(focus (simp only [fldOffAll];try rfl);done);(focus (simp only [ee,Nat.reduceEqDiff];try rfl);done);(focus (simp only [Nat.reduceAdd,Nat.zero_add,Nat.reduceMul];try rfl);done))
    |(apply R_load_tip;(focus rfl);(focus (simp only [tszAll];try rfl);done);(focus (simp only [ee,Nat.reduceEqDiff];try rfl);done);(focus (simp only [hh,Nat.reduceAdd];try rfl);done);(focus rfl);(focus (simp only [hh,Nat.reduceAdd];try rfl);done))
    |(apply R_load_ptr1;(focus (simp only [tszAll];try rfl);done);(focus (simp only [ee,Nat.reduceEqDiff];try rfl);done);(focus (simp only [hh,Nat.reduceAdd];try rfl);done);(iterate 2 (focus rfl)))
    |(apply R_load_dem;(focus rfl);(focus (simp only [tszAll];try rfl);done);(focus (simp only [ee,Nat.reduceEqDiff];try rfl);done);(focus (simp only [hh,Nat.reduceAdd];try rfl);done);(focus rfl))
    |(apply R_load_ptrn;(focus (simp only [tszAll];try rfl);done);(focus (simp only [ee,Nat.reduceEqDiff];try rfl);done);(focus (simp only [hh,Nat.reduceAdd];try rfl);done);(focus exact Nat.le_of_ble_eq_true rfl);(focus rfl))
    |(apply R_load_rw;(focus (simp only [tszAll];try rfl);done);(focus (simp only [ee,Nat.reduceEqDiff];try rfl);done);(focus rfl);(focus intro _;rfl;done);(focus assumption);(focus (simp only [fStr,fSec,fLnk,fInt,fS,fI,fB,List.map_cons,List.map_nil];try rfl);done))
    |(apply R_load_rk;(focus (simp only [tszAll];try rfl);done);(focus (simp only [ee,Nat.reduceEqDiff];try rfl);done);(focus rfl);(focus intro _;rfl;done);(focus assumption);(focus rfl);(focus (simp only [fStr,fSec,fLnk,fInt,fS,fI,fB,List.getElem?_cons_zero,List.getElem?_cons_succ];try rfl);done))
    |(apply R_load_r1;(focus (simp only [tszAll];try rfl);done);(focus (simp only [ee,Nat.reduceEqDiff];try rfl);done);(focus rfl);(focus intro _;rfl;done);(focus assumption);(focus (simp only [fStr,fSec,fLnk,fInt,fS,fI,fB,List.map_cons,List.map_nil];try rfl);done))
    |(apply R_load_ip1;(focus (simp only [tszAll];try rfl);done);(focus (simp only [ee,Nat.reduceEqDiff];try rfl);done);(focus rfl))
    |(apply R_load_ipn;(focus (simp only [tszAll];try rfl);done);(focus (simp only [ee,Nat.reduceEqDiff];try rfl);done);(focus exact Nat.le_of_ble_eq_true rfl);(focus rfl))
    |(apply R_store_tip;(focus (simp only [tszAll];try rfl);done);(focus (simp only [ee,Nat.reduceEqDiff];try rfl);done);(focus (simp only [hh,Nat.reduceAdd];try rfl);done);(focus (simp only [ee,Nat.reduceEqDiff];try rfl);done);(focus rfl);(focus (simp only [hh,Nat.reduceAdd];try rfl);done))
    |(apply R_store;(focus (simp only [tszAll];try rfl);done);(focus (simp only [ee,Nat.reduceEqDiff];try rfl);done);(focus (simp only [hh,Nat.reduceAdd];try rfl);done);(focus (simp only [ee,Nat.reduceEqDiff];try rfl);done);(iterate 2 (focus rfl));(focus exact ⟨rfl,Nat.le_of_ble_eq_true rfl⟩);(focus (simp only [hh,Nat.reduceAdd];try rfl);done))
    |(apply R_ia_row;(focus (simp only [elemSzAll];try rfl);done);(focus (simp only [ee,Nat.reduceEqDiff];try rfl);done);(focus rfl);(focus (simp only [ee,Nat.reduceEqDiff];try rfl);done);(iterate 2 (focus omega));(focus (simp only [Int.toNat_natCast];try rfl);done))
    |(apply R_ia_arr;(focus (simp only [elemSzAll];try rfl);done);(iterate 2 (focus (simp only [ee,Nat.reduceEqDiff];try rfl);done));(iterate 2 (focus omega));(focus (simp only [Int.toNat_natCast];try rfl);done))
    |(apply R_field;(focus (simp only [fldAtAll];try rfl);done);(focus (simp only [ee,Nat.reduceEqDiff];try rfl);done);(focus rfl))
    |(apply R_extract;(focus (simp only [ee,Nat.reduceEqDiff];try rfl);done);(focus rfl))
    |(apply R_add;(iterate 2 (focus (simp only [ee,Nat.reduceEqDiff];try rfl);done));(iterate 2 (focus omega)))
    |(apply R_sub;(iterate 2 (focus (simp only [ee,Nat.reduceEqDiff];try rfl);done));(iterate 2 (focus omega)))
    |(apply R_mul;(iterate 2 (focus (simp only [ee,Nat.reduceEqDiff];try rfl);done));(iterate 2 (focus omega)))
    |(apply R_quo;(iterate 2 (focus (simp only [ee,Nat.reduceEqDiff];try rfl);done));(iterate 3 (focus omega)))
    |(apply R_rem;(iterate 2 (focus (simp only [ee,Nat.reduceEqDiff];try rfl);done));(iterate 2 (focus omega)))
    |(apply R_sadd;(iterate 2 (focus (simp only [ee,Nat.reduceEqDiff];try rfl);done));(focus omega))
    |(apply R_ibin;(iterate 2 (focus (simp only [ee,Nat.reduceEqDiff];try rfl);done));(focus rfl))
    |(apply R_sbin;(iterate 2 (focus (simp only [ee,Nat.reduceEqDiff];try rfl);done));(focus rfl))
    |(apply R_un;(focus (simp only [ee,Nat.reduceEqDiff];try rfl);done);(focus rfl))
    |(apply R_index_strD;(focus (simp only [undAll];try rfl);done);(iterate 2 (focus (simp only [ee,Nat.reduceEqDiff];try rfl);done));(iterate 2 (focus omega)))
    |(apply R_len_str;(focus (simp only [undAll];try rfl);done);(focus (simp only [ee,Nat.reduceEqDiff];try rfl);done))
    |(apply R_len_row;(focus (simp only [elemSzAll];try rfl);done);(focus (simp only [ee,Nat.reduceEqDiff];try rfl);done);(focus rfl))
    |(apply R_len_arr;(focus (simp only [elemSzAll];try rfl);done);(focus (simp only [ee,Nat.reduceEqDiff];try rfl);done))
    |(apply R_len_nil;(focus (simp only [undAll];try rfl);done);(focus (simp only [ee,Nat.reduceEqDiff];try rfl);done))
    |(apply R_pickT;(focus (simp only [ee,Nat.reduceEqDiff];try rfl);done);(focus exact (by first|rfl|assumption));(focus (simp only [ee,Nat.reduceEqDiff];try rfl);done);(focus rfl))
    |(apply R_pickF;(focus (simp only [ee,Nat.reduceEqDiff];try rfl);done);(focus exact (by first|rfl|assumption));(focus (simp only [ee,Nat.reduceEqDiff];try rfl);done);(focus rfl))
    |(apply R_build;(focus (simp only [bInfoAll];try rfl);done);(focus (repeat (first|exact partsC_n|(apply partsC_c;(focus (simp only [ee,Nat.reduceEqDiff];try rfl);done);(focus rfl))));done);(focus rfl))
    |(apply R_buildSlice;(focus (simp only [mkInfoAll];try rfl);done);(focus (repeat (first|exact partsC_n|(apply partsC_c;(focus (simp only [ee,Nat.reduceEqDiff];try rfl);done);(focus rfl))));done);(focus decide);(iterate 2 (focus rfl)))
    |(apply R_slice_str;(focus (simp only [undAll];try rfl);done);(focus (simp only [ee,Nat.reduceEqDiff];try rfl);done);(iterate 2 (focus (first|exact bnd_none|exact bnd_some (by (simp only [ee,Nat.reduceEqDiff];first|done|rfl)));done));(iterate 3 (focus omega)))
    |(apply R_slice_row;(focus (simp only [elemSzAll];try rfl);done);(focus (simp only [ee,Nat.reduceEqDiff];try rfl);done);(focus rfl);(iterate 2 (focus (first|exact bnd_none|exact bnd_some (by (simp only [ee,Nat.reduceEqDiff];first|done|rfl)));done));(iterate 3 (focus omega));(iterate 2 (focus rfl)))
    |(apply R_conv64;(iterate 2 (focus (simp only [undAll];try rfl);done));(focus (simp only [ee,Nat.reduceEqDiff];try rfl);done);(iterate 2 (focus omega)))
    |(apply R_conv_int;(iterate 2 (focus (simp only [undAll];try rfl);done));(focus (simp only [ee,Nat.reduceEqDiff];try rfl);done))
    |(apply R_bbin;(iterate 2 (focus (simp only [ee,Nat.reduceEqDiff];try rfl);done));(focus rfl))
    |(apply R_shl;(iterate 2 (focus (simp only [ee,Nat.reduceEqDiff];try rfl);done));(focus omega))
    |(apply R_shr;(iterate 2 (focus (simp only [ee,Nat.reduceEqDiff];try rfl);done));(focus omega))
    |(apply R_append_tip;(focus (simp only [mkInfoAll];try rfl);done);(focus (simp only [ee,Nat.reduceEqDiff];try rfl);done);(focus (first|exact src_row (by (simp only [ee,Nat.reduceEqDiff];first|done|rfl)) rfl (by (simp only [elemSzAll];first|done|rfl)) (by first|rfl|simp)|exact src_nil (by (simp only [ee,Nat.reduceEqDiff];first|done|rfl)) (by (simp only [elemSzAll];first|done|rfl)));done);(focus (simp only [ee,zz,Nat.reduceEqDiff,arrB];try rfl);done);(iterate 2 (focus omega)))
    |(apply R_append_nil;(focus (simp only [mkInfoAll];try rfl);done);(focus (simp only [ee,Nat.reduceEqDiff];try rfl);done);(focus (first|exact src_row (by (simp only [ee,Nat.reduceEqDiff];first|done|rfl)) rfl (by (simp only [elemSzAll];first|done|rfl)) (by first|rfl|simp)|exact src_nil (by (simp only [ee,Nat.reduceEqDiff];first|done|rfl)) (by (simp only [elemSzAll];first|done|rfl)));done);(focus (simp only [ee,zz,Nat.reduceEqDiff,arrB];try rfl);done);(iterate 2 (focus omega)))
    |(apply R_make;(focus (simp only [mkInfoAll];try rfl);done);(iterate 2 (focus (simp only [ee,Nat.reduceEqDiff];try rfl);done));(iterate 3 (focus omega));(focus (simp only [hh,Nat.reduceAdd];try rfl);done);(focus rfl);(focus (simp only [hh,Nat.reduceAdd];try rfl);done))
    |(apply R_max;(iterate 2 (focus (simp only [ee,Nat.reduceEqDiff];try rfl);done)))
    |(apply R_min;(iterate 2 (focus (simp only [ee,Nat.reduceEqDiff];try rfl);done)))
    |(apply R_alloc;(focus (simp only [zeroCAll];try rfl);done);(iterate 2 (focus (simp only [hh,Nat.reduceAdd];try rfl);done)))
    |(apply R_box;(focus (simp only [ee,Nat.reduceEqDiff];try rfl);done);(focus rfl);(iterate 2 (focus (simp only [hh,Nat.reduceAdd];try rfl);done)))
    |(apply R_skip;(focus first|exact wantA_f1 rfl rfl rfl (by (simp only [ee,Nat.reduceEqDiff];first|done|rfl)) (by first|rfl|assumption)|exact wantA_f0 rfl rfl rfl (by (simp only [ee,Nat.reduceEqDiff];first|done|rfl)) (by first|rfl|assumption)|exact wantA_und rfl rfl rfl (by (simp only [ee,Nat.reduceEqDiff];first|done|rfl))))
    |((with_reducible apply W_condT);(focus (simp only [ee,Nat.reduceEqDiff];try rfl);done);(focus exact (by first|rfl|assumption)))
    |((with_reducible apply W_condF);(focus (simp only [ee,Nat.reduceEqDiff];try rfl);done);(focus exact (by first|rfl|assumption)))
    |((with_reducible apply W_cond);(focus (simp only [ee,Nat.reduceEqDiff];try rfl);done);(all_goals (intro hbq;(first|(cases hbq;done)|(cases hbq)|(have hpq := of_decide_eq_true hbq)|(have hpq := of_decide_eq_false hbq)|skip))))
    |(apply WR_gsplit;(iterate 3 (focus rfl));(focus (simp only [ee,Nat.reduceEqDiff];try rfl);done);(all_goals (intro hbq;(first|(cases hbq;done)|(cases hbq)|(have hpq := of_decide_eq_true hbq)|(have hpq := of_decide_eq_false hbq)|skip))))
    |((with_reducible apply Ret_i);(focus trivial);(focus rfl);(focus (repeat (first|exact res_nil|(apply res_tmp;(focus (simp only [ee,Nat.reduceEqDiff];try rfl);done);(focus rfl);(focus (simp only [zz];try rfl);done))|(apply res_celln;(focus (simp only [tszAll];try rfl);done);(focus (simp only [ee,Nat.reduceEqDiff];try rfl);done);(focus (simp only [hh,Nat.reduceAdd];try rfl);done);(focus exact Nat.le_of_ble_eq_true rfl);(focus rfl);(focus (simp only [zz];try rfl);done))|(apply res_cell1;(focus (simp only [tszAll];try rfl);done);(focus (simp only [ee,Nat.reduceEqDiff];try rfl);done);(focus (simp only [hh,Nat.reduceAdd];try rfl);done);(focus rfl);(focus (simp only [zz];try rfl);done))));done))
    |((with_reducible apply RetP_i);(focus trivial);(focus rfl);(focus (repeat (first|exact res_nil|(apply res_tmp;(focus (simp only [ee,Nat.reduceEqDiff];try rfl);done);(focus rfl);(focus (simp only [zz];try rfl);done))|(apply res_celln;(focus (simp only [tszAll];try rfl);done);(focus (simp only [ee,Nat.reduceEqDiff];try rfl);done);(focus (simp only [hh,Nat.reduceAdd];try rfl);done);(focus exact Nat.le_of_ble_eq_true rfl);(focus rfl);(focus (simp only [zz];try rfl);done))|(apply res_cell1;(focus (simp only [tszAll];try rfl);done);(focus (simp only [ee,Nat.reduceEqDiff];try rfl);done);(focus (simp only [hh,Nat.reduceAdd];try rfl);done);(focus rfl);(focus (simp only [zz];try rfl);done))));done);(focus (simp only [hh,Nat.reduceAdd];try rfl);done)))
  refine W_loopS (fun i : Nat => St.of [some c2.box] [(5, aS item), (6, i64 (leNum item i)), (12, i64 item.size), (13, i64 i)]) (fun i => i ≤ item.size) (fun i => item.size - i) 0 ?_ (by omega) ?_
  ·
    refine weak_agG (by (simp only [hh,Nat.reduceAdd];first|done|rfl)) (Nat.le_of_ble_eq_true rfl) (Nat.le_of_ble_eq_true rfl) rfl rfl ?_ ?_;(focus (simp only [List.length_cons,List.length_nil,Nat.zero_add,Nat.reduceAdd,List.take_succ_cons,List.take_zero,List.take_nil]));(repeat' (first|exact LeH.nil|(with_reducible apply LeH.some)|(with_reducible apply LeH.none)|(with_reducible exact LeL.refl _)|exact LeL.nil|(with_reducible apply LeL.cons)|(with_reducible exact CVal.Le.refl _)|(with_reducible exact CVal.Le.nil_row)|(with_reducible exact CVal.Le.nil_tip _)|(with_reducible exact CVal.Le.tip_row _ _ _)|(exact CVal.Le.nil_row)|(exact CVal.Le.nil_tip _)|(with_reducible apply CVal.Le.of_eq)|(with_reducible apply LeL.of_eq)))
    (repeat' (first|exact trivial|(refine And.intro ?_ ?_)|(refine ⟨_, by (simp only [ee,Nat.reduceEqDiff];first|done|rfl), ?_⟩)|(first|(with_reducible exact LeS.refl _)|(with_reducible exact LeS.nil_row)|(with_reducible exact LeS.nil_tip _)|(with_reducible exact LeS.tip_row _ _ _)|(exact LeS.nil_row)|(exact LeS.nil_tip _)|(refine LeS.of_eq ?_))));(all_goals (try rfl))
  · intro i hi
    simp only [i64, aS]
    repeat' (first
      |with_reducible refine WR_pp ?_
      |with_reducible refine WR_pd ?_
      |with_reducible refine W_seq ?_
      |with_reducible refine seqK_n ?_
      |with_reducible refine seqK_r ?_
      |with_reducible refine seqK_e ?_
      |with_reducible refine W_block ?_
      |with_reducible refine blockK_n ?_
      |with_reducible refine blockK_e rfl ?_
      |with_reducible refine blockK_r ?_
      |with_reducible refine blockK_o (by decide) ?_
      |with_reducible refine LoopK_e ?_
      |with_reducible refine LoopK_r ?_
      |with_reducible refine LoopX_e (by decide) ?_
      |with_reducible refine LoopX_r ?_
      |with_reducible refine W_skip ?_
      |with_reducible refine W_exit ?_
      |with_reducible refine W_ret ?_
      |with_reducible refine W_region (WOps_WR ?_)
      |with_reducible refine W_draw (WOpsD_WR ?_)
      |with_reducible refine WR_nil ?_
      |(apply WR_nilD;(focus kernel_rfl))
      |(apply R_want;(focus exact wantA_t rfl rfl rfl (by (simp only [ee,Nat.reduceEqDiff];first|done|rfl)) (by first|rfl|assumption)))
      |(apply R_move;(focus (simp only [ee,Nat.reduceEqDiff];try rfl);done);(focus rfl))
      |(apply R_assign;(focus (simp only [ee,Nat.reduceEqDiff];try rfl);done);(focus rfl))
      |(apply R_assign_tip;(focus (simp only [ee,Nat.reduceEqDiff];try rfl);done))
      |(apply R_move_tip;(focus rfl);(focus (simp only [ee,Nat.reduceEqDiff];try rfl);done))
      |(apply R_move_row;(focus rfl);(focus (simp only [ee,Nat.reduceEqDiff];try rfl);done))
      |(apply R_nil_ptr;(focus (simp only [ee,Nat.reduceEqDiff];try rfl);done))
      |(apply R_nil_ip;(focus (simp only [ee,Nat.reduceEqDiff];try rfl);done))
      |(apply R_fa_ptr;(focus (simp only [fldOffAll];try rfl);done);(focus (simp only [ee,Nat.reduceEqDiff];try rfl);done);(focus (simp only [Nat.reduceAdd,Nat.zero_add,Nat.reduceMul];try rfl);done))
      |(apply R_fa_ip;(focus (simp only [fldOffAll];try rfl);done);(focus (simp only [ee,Nat.reduceEqDiff];try rfl);done);(focus (simp only [Nat.reduceAdd,Nat.zero_add,Nat.reduceMul];try rfl);done))
      |(apply R_load_tip;(focus rfl);(focus (simp only [tszAll];try rfl);done);(focus (simp only [ee,Nat.reduceEqDiff];try rfl);done);(focus (simp only [hh,Nat.reduceAdd];try rfl);done);(focus rfl);(focus (simp only [hh,Nat.reduceAdd];try rfl);done))
      |(apply R_load_ptr1;(focus (simp only [tszAll];try rfl);done);(focus (simp only [ee,Nat.reduceEqDiff];try rfl);done);(focus (simp only [hh,Nat.reduceAdd];try rfl);done);(iterate 2 (focus rfl)))
      |(apply R_load_dem;(focus rfl);(focus (simp only [tszAll];try rfl);done);(focus (simp only [ee,Nat.reduceEqDiff];try rfl);done);(focus (simp only [hh,Nat.reduceAdd];try rfl);done);(focus rfl))
      |(apply R_load_ptrn;(focus (simp only [tszAll];try rfl);done);(focus (simp only [ee,Nat.reduceEqDiff];try rfl);done);(focus (simp only [hh,Nat.reduceAdd];try rfl);done);(focus exact Nat.le_of_ble_eq_true rfl);(focus rfl))
      |(apply R_load_rw;(focus (simp only [tszAll];try rfl);done);(focus (simp only [ee,Nat.reduceEqDiff];try rfl);done);(focus rfl);(focus intro _;rfl;done);(focus assumption);(focus (simp only [fStr,fSec,fLnk,fInt,fS,fI,fB,List.map_cons,List.map_nil];try rfl);done))
      |(apply R_load_rk;(focus (simp only [tszAll];try rfl);done);(focus (simp only [ee,Nat.reduceEqDiff];try rfl);done);(focus rfl);(focus intro _;rfl;done);(focus assumption);(focus rfl);(focus (simp only [fStr,fSec,fLnk,fInt,fS,fI,fB,List.getElem?_cons_zero,List.getElem?_cons_succ];try rfl);done))
      |(apply R_load_r1;(focus (simp only [tszAll];try rfl);done);(focus (simp only [ee,Nat.reduceEqDiff];try rfl);done);(focus rfl);(focus intro _;rfl;done);(focus assumption);(focus (simp only [fStr,fSec,fLnk,fInt,fS,fI,fB,List.map_cons,List.map_nil];try rfl);done))
      |(apply R_load_ip1;(focus (simp only [tszAll];try rfl);done);(focus (simp only [ee,Nat.reduceEqDiff];try rfl);done);(focus rfl))
      |(apply R_load_ipn;(focus (simp only [tszAll];try rfl);done);(focus (simp only [ee,Nat.reduceEqDiff];try rfl);done);(focus exact Nat.le_of_ble_eq_true rfl);(focus rfl))
      |(apply R_store_tip;(focus (simp only [tszAll];try rfl);done);(focus (simp only [ee,Nat.reduceEqDiff];try rfl);done);(focus (simp only [hh,Nat.reduceAdd];try rfl);done);(focus (simp only [ee,Nat.reduceEqDiff];try rfl);done);(focus rfl);(focus (simp only [hh,Nat.reduceAdd];try rfl);done))
      |(apply R_store;(focus (simp only [tszAll];try rfl);done);(focus (simp only [ee,Nat.reduceEqDiff];try rfl);done);(focus (simp only [hh,Nat.reduceAdd];try rfl);done);(focus (simp only [ee,Nat.reduceEqDiff];try rfl);done);(iterate 2 (focus rfl));(focus exact ⟨rfl,Nat.le_of_ble_eq_true rfl⟩);(focus (simp only [hh,Nat.reduceAdd];try rfl);done))
      |(apply R_ia_row;(focus (simp only [elemSzAll];try rfl);done);(focus (simp only [ee,Nat.reduceEqDiff];try rfl);done);(focus rfl);(focus (simp only [ee,Nat.reduceEqDiff];try rfl);done);(iterate 2 (focus omega));(focus (simp only [Int.toNat_natCast];try rfl);done))
      |(apply R_ia_arr;(focus (simp only [elemSzAll];try rfl);done);(iterate 2 (focus (simp only [ee,Nat.reduceEqDiff];try rfl);done));(iterate 2 (focus omega));(focus (simp only [Int.toNat_natCast];try rfl);done))
      |(apply R_field;(focus (simp only [fldAtAll];try rfl);done);(focus (simp only [ee,Nat.reduceEqDiff];try rfl);done);(focus rfl))
      |(apply R_extract;(focus (simp only [ee,Nat.reduceEqDiff];try rfl);done);(focus rfl))
      |(apply R_add;(iterate 2 (focus (simp only [ee,Nat.reduceEqDiff];try rfl);done));(iterate 2 (focus omega)))
      |(apply R_sub;(iterate 2 (focus (simp only [ee,Nat.reduceEqDiff];try rfl);done));(iterate 2 (focus omega)))
      |(apply R_mul;(iterate 2 (focus (simp only [ee,Nat.reduceEqDiff];try rfl);done));(iterate 2 (focus omega)))
      |(apply R_quo;(iterate 2 (focus (simp only [ee,Nat.reduceEqDiff];try rfl);done));(iterate 3 (focus omega)))
      |(apply R_rem;(iterate 2 (focus (simp only [ee,Nat.reduceEqDiff];try rfl);done));(iterate 2 (focus omega)))
      |(apply R_sadd;(iterate 2 (focus (simp only [ee,Nat.reduceEqDiff];try rfl);done));(focus omega))
      |(apply R_ibin;(iterate 2 (focus (simp only [ee,Nat.reduceEqDiff];try rfl);done));(focus rfl))
      |(apply R_sbin;(iterate 2 (focus (simp only [ee,Nat.reduceEqDiff];try rfl);done));(focus rfl))
      |(apply R_un;(focus (simp only [ee,Nat.reduceEqDiff];try rfl);done);(focus rfl))
      |(apply R_index_strD;(focus (simp only [undAll];try rfl);done);(iterate 2 (focus (simp only [ee,Nat.reduceEqDiff];try rfl);done));(iterate 2 (focus omega)))
      |(apply R_len_str;(focus (simp only [undAll];try rfl);done);(focus (simp only [ee,Nat.reduceEqDiff];try rfl);done))
      |(apply R_len_row;(focus (simp only [elemSzAll];try rfl);done);(focus (simp only [ee,Nat.reduceEqDiff];try rfl);done);(focus rfl))
      |(apply R_len_arr;(focus (simp only [elemSzAll];try rfl);done);(focus (simp only [ee,Nat.reduceEqDiff];try rfl);done))
      |(apply R_len_nil;(focus (simp only [undAll];try rfl);done);(focus (simp only [ee,Nat.reduceEqDiff];try rfl);done))
      |(apply R_pickT;(focus (simp only [ee,Nat.reduceEqDiff];try rfl);done);(focus exact (by first|rfl|assumption));(focus (simp only [ee,Nat.reduceEqDiff];try rfl);done);(focus rfl))
      |(apply R_pickF;(focus (simp only [ee,Nat.reduceEqDiff];try rfl);done);(focus exact (by first|rfl|assumption));(focus (simp only [ee,Nat.reduceEqDiff];try rfl);done);(focus rfl))
      |(apply R_build;(focus (simp only [bInfoAll];try rfl);done);(focus (repeat (first|exact partsC_n|(apply partsC_c;(focus (simp only [ee,Nat.reduceEqDiff];try rfl);done);(focus rfl))));done);(focus rfl))
      |(apply R_buildSlice;(focus (simp only [mkInfoAll];try rfl);done);(focus (repeat (first|exact partsC_n|(apply partsC_c;(focus (simp only [ee,Nat.reduceEqDiff];try rfl);done);(focus rfl))));done);(focus decide);(iterate 2 (focus rfl)))
      |(apply R_slice_str;(focus (simp only [undAll];try rfl);done);(focus (simp only [ee,Nat.reduceEqDiff];try rfl);done);(iterate 2 (focus (first|exact bnd_none|exact bnd_some (by (simp only [ee,Nat.reduceEqDiff];first|done|rfl)));done));(iterate 3 (focus omega)))
      |(apply R_slice_row;(focus (simp only [elemSzAll];try rfl);done);(focus (simp only [ee,Nat.reduceEqDiff];try rfl);done);(focus rfl);(iterate 2 (focus (first|exact bnd_none|exact bnd_some (by (simp only [ee,Nat.reduceEqDiff];first|done|rfl)));done));(iterate 3 (focus omega));(iterate 2 (focus rfl)))
      |(apply R_conv64;(iterate 2 (focus (simp only [undAll];try rfl);done));(focus (simp only [ee,Nat.reduceEqDiff];try rfl);done);(iterate 2 (focus omega)))
      |(apply R_conv_int;(iterate 2 (focus (simp only [undAll];try rfl);done));(focus (simp only [ee,Nat.reduceEqDiff];try rfl);done))
      |(apply R_bbin;(iterate 2 (focus (simp only [ee,Nat.reduceEqDiff];try rfl);done));(focus rfl))
      |(apply R_shl;(iterate 2 (focus (simp only [ee,Nat.reduceEqDiff];try rfl);done));(focus omega))
      |(apply R_shr;(iterate 2 (focus (simp only [ee,Nat.reduceEqDiff];try rfl);done));(focus omega))
      |(apply R_append_tip;(focus (simp only [mkInfoAll];try rfl);done);(focus (simp only [ee,Nat.reduceEqDiff];try rfl);done);(focus (first|exact src_row (by (simp only [ee,Nat.reduceEqDiff];first|done|rfl)) rfl (by (simp only [elemSzAll];first|done|rfl)) (by first|rfl|simp)|exact src_nil (by (simp only [ee,Nat.reduceEqDiff];first|done|rfl)) (by (simp only [elemSzAll];first|done|rfl)));done);(focus (simp only [ee,zz,Nat.reduceEqDiff,arrB];try rfl);done);(iterate 2 (focus omega)))
      |(apply R_append_nil;(focus (simp only [mkInfoAll];try rfl);done);(focus (simp only [ee,Nat.reduceEqDiff];try rfl);done);(focus (first|exact src_row (by (simp only [ee,Nat.reduceEqDiff];first|done|rfl)) rfl (by (simp only [elemSzAll];first|done|rfl)) (by first|rfl|simp)|exact src_nil (by (simp only [ee,Nat.reduceEqDiff];first|done|rfl)) (by (simp only [elemSzAll];first|done|rfl)));done);(focus (simp only [ee,zz,Nat.reduceEqDiff,arrB];try rfl);done);(iterate 2 (focus omega)))
      |(apply R_make;(focus (simp only [mkInfoAll];try rfl);done);(iterate 2 (focus (simp only [ee,Nat.reduceEqDiff];try rfl);done));(iterate 3 (focus omega));(focus (simp only [hh,Nat.reduceAdd];try rfl);done);(focus rfl);(focus (simp only [hh,Nat.reduceAdd];try rfl);done))
      |(apply R_max;(iterate 2 (focus (simp only [ee,Nat.reduceEqDiff];try rfl);done)))
      |(apply R_min;(iterate 2 (focus (simp only [ee,Nat.reduceEqDiff];try rfl);done)))
      |(apply R_alloc;(focus (simp only [zeroCAll];try rfl);done);(iterate 2 (focus (simp only [hh,Nat.reduceAdd];try rfl);done)))
      |(apply R_box;(focus (simp only [ee,Nat.reduceEqDiff];try rfl);done);(focus rfl);(iterate 2 (focus (simp only [hh,Nat.reduceAdd];try rfl);done)))
      |(apply R_skip;(focus first|exact wantA_f1 rfl rfl rfl (by (simp only [ee,Nat.reduceEqDiff];first|done|rfl)) (by first|rfl|assumption)|exact wantA_f0 rfl rfl rfl (by (simp only [ee,Nat.reduceEqDiff];first|done|rfl)) (by first|rfl|assumption)|exact wantA_und rfl rfl rfl (by (simp only [ee,Nat.reduceEqDiff];first|done|rfl))))
      |((with_reducible apply W_condT);(focus (simp only [ee,Nat.reduceEqDiff];try rfl);done);(focus exact (by first|rfl|assumption)))
      |((with_reducible apply W_condF);(focus (simp only [ee,Nat.reduceEqDiff];try rfl);done);(focus exact (by first|rfl|assumption)))
      |((with_reducible apply W_cond);(focus (simp only [ee,Nat.reduceEqDiff];try rfl);done);(all_goals (intro hbq;(first|(cases hbq;done)|(cases hbq)|(have hpq := of_decide_eq_true hbq)|(have hpq := of_decide_eq_false hbq)|skip))))
      |(apply WR_gsplit;(iterate 3 (focus rfl));(focus (simp only [ee,Nat.reduceEqDiff];try rfl);done);(all_goals (intro hbq;(first|(cases hbq;done)|(cases hbq)|(have hpq := of_decide_eq_true hbq)|(have hpq := of_decide_eq_false hbq)|skip))))
      |((with_reducible apply Ret_i);(focus trivial);(focus rfl);(focus (repeat (first|exact res_nil|(apply res_tmp;(focus (simp only [ee,Nat.reduceEqDiff];try rfl);done);(focus rfl);(focus (simp only [zz];try rfl);done))|(apply res_celln;(focus (simp only [tszAll];try rfl);done);(focus (simp only [ee,Nat.reduceEqDiff];try rfl);done);(focus (simp only [hh,Nat.reduceAdd];try rfl);done);(focus exact Nat.le_of_ble_eq_true rfl);(focus rfl);(focus (simp only [zz];try rfl);done))|(apply res_cell1;(focus (simp only [tszAll];try rfl);done);(focus (simp only [ee,Nat.reduceEqDiff];try rfl);done);(focus (simp only [hh,Nat.reduceAdd];try rfl);done);(focus rfl);(focus (simp only [zz];try rfl);done))));done))
      |((with_reducible apply RetP_i);(focus trivial);(focus rfl);(focus (repeat (first|exact res_nil|(apply res_tmp;(focus (simp only [ee,Nat.reduceEqDiff];try rfl);done);(focus rfl);(focus (simp only [zz];try rfl);done))|(apply res_celln;(focus (simp only [tszAll];try rfl);done);(focus (simp only [ee,Nat.reduceEqDiff];try rfl);done);(focus (simp only [hh,Nat.reduceAdd];try rfl);done);(focus exact Nat.le_of_ble_eq_true rfl);(focus rfl);(focus (simp only [zz];try rfl);done))|(apply res_cell1;(focus (simp only [tszAll];try rfl);done);(focus (simp only [ee,Nat.reduceEqDiff];try rfl);done);(focus (simp only [hh,Nat.reduceAdd];try rfl);done);(focus rfl);(focus (simp only [zz];try rfl);done))));done);(focus (simp only [hh,Nat.reduceAdd];try rfl);done)))
    · refine LoopK_n (i + 1) ?_ (by omega) (by omega)
      refine weak_agG (by (simp only [hh,Nat.reduceAdd];first|done|rfl)) (Nat.le_of_ble_eq_true rfl) (Nat.le_of_ble_eq_true rfl) rfl rfl ?_ ?_;(focus (simp only [List.length_cons,List.length_nil,Nat.zero_add,Nat.reduceAdd,List.take_succ_cons,List.take_zero,List.take_nil]));(repeat' (first|exact LeH.nil|(with_reducible apply LeH.some)|(with_reducible apply LeH.none)|(with_reducible exact LeL.refl _)|exact LeL.nil|(with_reducible apply LeL.cons)|(with_reducible exact CVal.Le.refl _)|(with_reducible exact CVal.Le.nil_row)|(with_reducible exact CVal.Le.nil_tip _)|(with_reducible exact CVal.Le.tip_row _ _ _)|(exact CVal.Le.nil_row)|(exact CVal.Le.nil_tip _)|(with_reducible apply CVal.Le.of_eq)|(with_reducible apply LeL.of_eq)))
      (repeat' (first|exact trivial|(refine And.intro ?_ ?_)|(refine ⟨_, by (simp only [ee,Nat.reduceEqDiff];first|done|rfl), ?_⟩)|(first|(with_reducible exact LeS.refl _)|(with_reducible exact LeS.nil_row)|(with_reducible exact LeS.nil_tip _)|(with_reducible exact LeS.tip_row _ _ _)|(exact LeS.nil_row)|(exact LeS.nil_tip _)|(refine LeS.of_eq ?_))));(all_goals (try rfl))
      rw [num_step item i (by omega)]
    all_goals (have hie : i = item.size := by omega)
    all_goals subst hie
    · rfl
    · simp only [H_put, H_setH, H_of, List.length_cons, List.length_nil, Nat.zero_add, List.take_succ_cons, List.take_zero]
def Cur.name (c : Cur) : ByteArray × Cur :=
  if c.short = true ∨ c.pos = c.code.size then (⟨#[]⟩, { c with short := true }) else
  if (c.bytes (1 + (c.code.data.getD c.pos 0).toNat)).2.short = true then (⟨#[]⟩, (c.bytes (1 + (c.code.data.getD c.pos 0).toNat)).2) else
  ((c.bytes (1 + (c.code.data.getD c.pos 0).toNat)).1.extract 1 (c.bytes (1 + (c.code.data.getD c.pos 0).toNat)).1.size, (c.bytes (1 + (c.code.data.getD c.pos 0).toNat)).2)
theorem Cur.bytes_size (c : Cur) (n : Nat) (hc : c.ok) : (c.bytes n).2.short = false → (c.bytes n).1.size = n := by
  unfold Cur.bytes
  split
  · intro h; cases h
  · rename_i hh
    intro _
    simp at hh ⊢
    have := hc.1
    omega
theorem cursor_name (c : Cur) (hc : c.ok) :
    Ok Try.prog 52 [.c (.ptr 0 0)] [some c.box] (aS c.name.1) [some c.name.2.box] := by
  obtain ⟨code, pos, short⟩ := c
  have hx : (code.data.getD (pos : Int).toNat 0).toNat < 256 := UInt8.toNat_lt _
  have hb := cursor_bytes ⟨code, pos, short⟩ (1 + (code.data.getD pos 0).toNat) hc (by rw [Int.toNat_natCast] at hx; omega)
  have hs := Cur.bytes_size ⟨code, pos, short⟩ (1 + (code.data.getD pos 0).toNat) hc
  simp only [Cur.name]
  revert hb hs
  generalize (Cur.bytes ⟨code, pos, short⟩ (1 + (code.data.getD pos 0).toNat)).1 = item
  generalize (Cur.bytes ⟨code, pos, short⟩ (1 + (code.data.getD pos 0).toNat)).2 = c2
  intro hb hs
  obtain ⟨h1, h2⟩ := hc
  simp only at h1 h2
  simp only [Cur.box] at hb ⊢
  have hs2 : c2.short = true ∨ (c2.short = false ∧ 1 ≤ item.size) := by
    cases hc : c2.short with
    | true => exact .inl rfl
    | false => exact .inr ⟨rfl, by have := hs hc; omega⟩
  clear hs
  rcases hs2 with hsh | ⟨hsh, hs3⟩
  all_goals
    refine ok_fn mixed Try.func52 rfl (by kernel_rfl) (Nat.le_of_ble_eq_true (by kernel_rfl)) (by kernel_rfl) rfl rfl (Nat.le_of_ble_eq_true rfl) rfl ?_
    simp only [arg0, i64, aB, aS, List.length_cons, List.length_nil, Nat.zero_add, Nat.reduceAdd]
    repeat' (first
      |with_reducible refine WR_pp ?_
      |with_reducible refine WR_pd ?_
      |with_reducible refine W_seq ?_
      |with_reducible refine seqK_n ?_
      |with_reducible refine seqK_r ?_
      |with_reducible refine seqK_e ?_
      |with_reducible refine W_block ?_
      |with_reducible refine blockK_n ?_
      |with_reducible refine blockK_e rfl ?_
      |with_reducible refine blockK_r ?_
      |with_reducible refine blockK_o (by decide) ?_
      |with_reducible refine LoopK_e ?_
      |with_reducible refine LoopK_r ?_
      |with_reducible refine LoopX_e (by decide) ?_
      |with_reducible refine LoopX_r ?_
      |with_reducible refine W_skip ?_
      |with_reducible refine W_exit ?_
      |with_reducible refine W_ret ?_
      |with_reducible refine W_region (WOps_WR ?_)
      |with_reducible refine W_draw (WOpsD_WR ?_)
      |with_reducible refine WR_nil ?_
      |(apply R_same;(focus rfl);(focus (repeat (first|exact args_n|(apply args_c;(focus (simp only [ee,Nat.reduceEqDiff];try rfl);done))));done);(focus (simp only [hh,Nat.reduceAdd];try rfl);done);(focus exact hb);(iterate 4 (focus rfl)))
      |(apply WR_nilD;(focus kernel_rfl))
      |(apply R_want;(focus exact wantA_t rfl rfl rfl (by (simp only [ee,Nat.reduceEqDiff];first|done|rfl)) (by first|rfl|assumption)))
      |(apply R_move;(focus (simp only [ee,Nat.reduceEqDiff];try rfl);done);(focus rfl))
      |(apply R_assign;(focus (simp only [ee,Nat.reduceEqDiff];try rfl);done);(focus rfl))
      |(apply R_assign_tip;(focus (simp only [ee,Nat.reduceEqDiff];try rfl);done))
      |(apply R_move_tip;(focus rfl);(focus (simp only [ee,Nat.reduceEqDiff];try rfl);done))
      |(apply R_move_row;(focus rfl);(focus (simp only [ee,Nat.reduceEqDiff];try rfl);done))
      |(apply R_nil_ptr;(focus (simp only [ee,Nat.reduceEqDiff];try rfl);done))
      |(apply R_nil_ip;(focus (simp only [ee,Nat.reduceEqDiff];try rfl);done))
      |(apply R_fa_ptr;(focus (simp only [fldOffAll];try rfl);done);(focus (simp only [ee,Nat.reduceEqDiff];try rfl);done);(focus (simp only [Nat.reduceAdd,Nat.zero_add,Nat.reduceMul];try rfl);done))
      |(apply R_fa_ip;(focus (simp only [fldOffAll];try rfl);done);(focus (simp only [ee,Nat.reduceEqDiff];try rfl);done);(focus (simp only [Nat.reduceAdd,Nat.zero_add,Nat.reduceMul];try rfl);done))
      |(apply R_load_tip;(focus rfl);(focus (simp only [tszAll];try rfl);done);(focus (simp only [ee,Nat.reduceEqDiff];try rfl);done);(focus (simp only [hh,Nat.reduceAdd];try rfl);done);(focus rfl);(focus (simp only [hh,Nat.reduceAdd];try rfl);done))
      |(apply R_load_ptr1;(focus (simp only [tszAll];try rfl);done);(focus (simp only [ee,Nat.reduceEqDiff];try rfl);done);(focus (simp only [hh,Nat.reduceAdd];try rfl);done);(iterate 2 (focus rfl)))
      |(apply R_load_dem;(focus rfl);(focus (simp only [tszAll];try rfl);done);(focus (simp only [ee,Nat.reduceEqDiff];try rfl);done);(focus (simp only [hh,Nat.reduceAdd];try rfl);done);(focus rfl))
      |(apply R_load_ptrn;(focus (simp only [tszAll];try rfl);done);(focus (simp only [ee,Nat.reduceEqDiff];try rfl);done);(focus (simp only [hh,Nat.reduceAdd];try rfl);done);(focus exact Nat.le_of_ble_eq_true rfl);(focus rfl))
      |(apply R_load_rw;(focus (simp only [tszAll];try rfl);done);(focus (simp only [ee,Nat.reduceEqDiff];try rfl);done);(focus rfl);(focus intro _;rfl;done);(focus assumption);(focus (simp only [fStr,fSec,fLnk,fInt,fS,fI,fB,List.map_cons,List.map_nil];try rfl);done))
      |(apply R_load_rk;(focus (simp only [tszAll];try rfl);done);(focus (simp only [ee,Nat.reduceEqDiff];try rfl);done);(focus rfl);(focus intro _;rfl;done);(focus assumption);(focus rfl);(focus (simp only [fStr,fSec,fLnk,fInt,fS,fI,fB,List.getElem?_cons_zero,List.getElem?_cons_succ];try rfl);done))
      |(apply R_load_r1;(focus (simp only [tszAll];try rfl);done);(focus (simp only [ee,Nat.reduceEqDiff];try rfl);done);(focus rfl);(focus intro _;rfl;done);(focus assumption);(focus (simp only [fStr,fSec,fLnk,fInt,fS,fI,fB,List.map_cons,List.map_nil];try rfl);done))
      |(apply R_load_ip1;(focus (simp only [tszAll];try rfl);done);(focus (simp only [ee,Nat.reduceEqDiff];try rfl);done);(focus rfl))
      |(apply R_load_ipn;(focus (simp only [tszAll];try rfl);done);(focus (simp only [ee,Nat.reduceEqDiff];try rfl);done);(focus exact Nat.le_of_ble_eq_true rfl);(focus rfl))
      |(apply R_store_tip;(focus (simp only [tszAll];try rfl);done);(focus (simp only [ee,Nat.reduceEqDiff];try rfl);done);(focus (simp only [hh,Nat.reduceAdd];try rfl);done);(focus (simp only [ee,Nat.reduceEqDiff];try rfl);done);(focus rfl);(focus (simp only [hh,Nat.reduceAdd];try rfl);done))
      |(apply R_store;(focus (simp only [tszAll];try rfl);done);(focus (simp only [ee,Nat.reduceEqDiff];try rfl);done);(focus (simp only [hh,Nat.reduceAdd];try rfl);done);(focus (simp only [ee,Nat.reduceEqDiff];try rfl);done);(iterate 2 (focus rfl));(focus exact ⟨rfl,Nat.le_of_ble_eq_true rfl⟩);(focus (simp only [hh,Nat.reduceAdd];try rfl);done))
      |(apply R_ia_row;(focus (simp only [elemSzAll];try rfl);done);(focus (simp only [ee,Nat.reduceEqDiff];try rfl);done);(focus rfl);(focus (simp only [ee,Nat.reduceEqDiff];try rfl);done);(iterate 2 (focus omega));(focus (simp only [Int.toNat_natCast];try rfl);done))
      |(apply R_ia_arr;(focus (simp only [elemSzAll];try rfl);done);(iterate 2 (focus (simp only [ee,Nat.reduceEqDiff];try rfl);done));(iterate 2 (focus omega));(focus (simp only [Int.toNat_natCast];try rfl);done))
      |(apply R_field;(focus (simp only [fldAtAll];try rfl);done);(focus (simp only [ee,Nat.reduceEqDiff];try rfl);done);(focus rfl))
      |(apply R_extract;(focus (simp only [ee,Nat.reduceEqDiff];try rfl);done);(focus rfl))
      |(apply R_add;(iterate 2 (focus (simp only [ee,Nat.reduceEqDiff];try rfl);done));(iterate 2 (focus omega)))
      |(apply R_sub;(iterate 2 (focus (simp only [ee,Nat.reduceEqDiff];try rfl);done));(iterate 2 (focus omega)))
      |(apply R_mul;(iterate 2 (focus (simp only [ee,Nat.reduceEqDiff];try rfl);done));(iterate 2 (focus omega)))
      |(apply R_quo;(iterate 2 (focus (simp only [ee,Nat.reduceEqDiff];try rfl);done));(iterate 3 (focus omega)))
      |(apply R_rem;(iterate 2 (focus (simp only [ee,Nat.reduceEqDiff];try rfl);done));(iterate 2 (focus omega)))
      |(apply R_sadd;(iterate 2 (focus (simp only [ee,Nat.reduceEqDiff];try rfl);done));(focus omega))
      |(apply R_ibin;(iterate 2 (focus (simp only [ee,Nat.reduceEqDiff];try rfl);done));(focus rfl))
      |(apply R_sbin;(iterate 2 (focus (simp only [ee,Nat.reduceEqDiff];try rfl);done));(focus rfl))
      |(apply R_un;(focus (simp only [ee,Nat.reduceEqDiff];try rfl);done);(focus rfl))
      |(apply R_index_strD;(focus (simp only [undAll];try rfl);done);(iterate 2 (focus (simp only [ee,Nat.reduceEqDiff];try rfl);done));(iterate 2 (focus omega)))
      |(apply R_len_str;(focus (simp only [undAll];try rfl);done);(focus (simp only [ee,Nat.reduceEqDiff];try rfl);done))
      |(apply R_len_row;(focus (simp only [elemSzAll];try rfl);done);(focus (simp only [ee,Nat.reduceEqDiff];try rfl);done);(focus rfl))
      |(apply R_len_arr;(focus (simp only [elemSzAll];try rfl);done);(focus (simp only [ee,Nat.reduceEqDiff];try rfl);done))
      |(apply R_len_nil;(focus (simp only [undAll];try rfl);done);(focus (simp only [ee,Nat.reduceEqDiff];try rfl);done))
      |(apply R_pickT;(focus (simp only [ee,Nat.reduceEqDiff];try rfl);done);(focus exact (by first|rfl|assumption));(focus (simp only [ee,Nat.reduceEqDiff];try rfl);done);(focus rfl))
      |(apply R_pickF;(focus (simp only [ee,Nat.reduceEqDiff];try rfl);done);(focus exact (by first|rfl|assumption));(focus (simp only [ee,Nat.reduceEqDiff];try rfl);done);(focus rfl))
      |(apply R_build;(focus (simp only [bInfoAll];try rfl);done);(focus (repeat (first|exact partsC_n|(apply partsC_c;(focus (simp only [ee,Nat.reduceEqDiff];try rfl);done);(focus rfl))));done);(focus rfl))
      |(apply R_buildSlice;(focus (simp only [mkInfoAll];try rfl);done);(focus (repeat (first|exact partsC_n|(apply partsC_c;(focus (simp only [ee,Nat.reduceEqDiff];try rfl);done);(focus rfl))));done);(focus decide);(iterate 2 (focus rfl)))
      |(apply R_slice_str;(focus (simp only [undAll];try rfl);done);(focus (simp only [ee,Nat.reduceEqDiff];try rfl);done);(iterate 2 (focus (first|exact bnd_none|exact bnd_some (by (simp only [ee,Nat.reduceEqDiff];first|done|rfl)));done));(iterate 3 (focus omega)))
      |(apply R_slice_row;(focus (simp only [elemSzAll];try rfl);done);(focus (simp only [ee,Nat.reduceEqDiff];try rfl);done);(focus rfl);(iterate 2 (focus (first|exact bnd_none|exact bnd_some (by (simp only [ee,Nat.reduceEqDiff];first|done|rfl)));done));(iterate 3 (focus omega));(iterate 2 (focus rfl)))
      |(apply R_conv64;(iterate 2 (focus (simp only [undAll];try rfl);done));(focus (simp only [ee,Nat.reduceEqDiff];try rfl);done);(iterate 2 (focus omega)))
      |(apply R_conv_int;(iterate 2 (focus (simp only [undAll];try rfl);done));(focus (simp only [ee,Nat.reduceEqDiff];try rfl);done))
      |(apply R_bbin;(iterate 2 (focus (simp only [ee,Nat.reduceEqDiff];try rfl);done));(focus rfl))
      |(apply R_shl;(iterate 2 (focus (simp only [ee,Nat.reduceEqDiff];try rfl);done));(focus omega))
      |(apply R_shr;(iterate 2 (focus (simp only [ee,Nat.reduceEqDiff];try rfl);done));(focus omega))
      |(apply R_append_tip;(focus (simp only [mkInfoAll];try rfl);done);(focus (simp only [ee,Nat.reduceEqDiff];try rfl);done);(focus (first|exact src_row (by (simp only [ee,Nat.reduceEqDiff];first|done|rfl)) rfl (by (simp only [elemSzAll];first|done|rfl)) (by first|rfl|simp)|exact src_nil (by (simp only [ee,Nat.reduceEqDiff];first|done|rfl)) (by (simp only [elemSzAll];first|done|rfl)));done);(focus (simp only [ee,zz,Nat.reduceEqDiff,arrB];try rfl);done);(iterate 2 (focus omega)))
      |(apply R_append_nil;(focus (simp only [mkInfoAll];try rfl);done);(focus (simp only [ee,Nat.reduceEqDiff];try rfl);done);(focus (first|exact src_row (by (simp only [ee,Nat.reduceEqDiff];first|done|rfl)) rfl (by (simp only [elemSzAll];first|done|rfl)) (by first|rfl|simp)|exact src_nil (by (simp only [ee,Nat.reduceEqDiff];first|done|rfl)) (by (simp only [elemSzAll];first|done|rfl)));done);(focus (simp only [ee,zz,Nat.reduceEqDiff,arrB];try rfl);done);(iterate 2 (focus omega)))
      |(apply R_make;(focus (simp only [mkInfoAll];try rfl);done);(iterate 2 (focus (simp only [ee,Nat.reduceEqDiff];try rfl);done));(iterate 3 (focus omega));(focus (simp only [hh,Nat.reduceAdd];try rfl);done);(focus rfl);(focus (simp only [hh,Nat.reduceAdd];try rfl);done))
      |(apply R_max;(iterate 2 (focus (simp only [ee,Nat.reduceEqDiff];try rfl);done)))
      |(apply R_min;(iterate 2 (focus (simp only [ee,Nat.reduceEqDiff];try rfl);done)))
      |(apply R_alloc;(focus (simp only [zeroCAll];try rfl);done);(iterate 2 (focus (simp only [hh,Nat.reduceAdd];try rfl);done)))
      |(apply R_box;(focus (simp only [ee,Nat.reduceEqDiff];try rfl);done);(focus rfl);(iterate 2 (focus (simp only [hh,Nat.reduceAdd];try rfl);done)))
      |(apply R_skip;(focus first|exact wantA_f1 rfl rfl rfl (by (simp only [ee,Nat.reduceEqDiff];first|done|rfl)) (by first|rfl|assumption)|exact wantA_f0 rfl rfl rfl (by (simp only [ee,Nat.reduceEqDiff];first|done|rfl)) (by first|rfl|assumption)|exact wantA_und rfl rfl rfl (by (simp only [ee,Nat.reduceEqDiff];first|done|rfl))))
      |((with_reducible apply W_condT);(focus (simp only [ee,Nat.reduceEqDiff];try rfl);done);(focus exact (by first|rfl|assumption)))
      |((with_reducible apply W_condF);(focus (simp only [ee,Nat.reduceEqDiff];try rfl);done);(focus exact (by first|rfl|assumption)))
      |((with_reducible apply W_cond);(focus (simp only [ee,Nat.reduceEqDiff];try rfl);done);(all_goals (intro hbq;(first|(cases hbq;done)|(cases hbq)|(have hpq := of_decide_eq_true hbq)|(have hpq := of_decide_eq_false hbq)|skip))))
      |(apply WR_gsplit;(iterate 3 (focus rfl));(focus (simp only [ee,Nat.reduceEqDiff];try rfl);done);(all_goals (intro hbq;(first|(cases hbq;done)|(cases hbq)|(have hpq := of_decide_eq_true hbq)|(have hpq := of_decide_eq_false hbq)|skip))))
      |((with_reducible apply Ret_i);(focus trivial);(focus rfl);(focus (repeat (first|exact res_nil|(apply res_tmp;(focus (simp only [ee,Nat.reduceEqDiff];try rfl);done);(focus rfl);(focus (simp only [zz];try rfl);done))|(apply res_celln;(focus (simp only [tszAll];try rfl);done);(focus (simp only [ee,Nat.reduceEqDiff];try rfl);done);(focus (simp only [hh,Nat.reduceAdd];try rfl);done);(focus exact Nat.le_of_ble_eq_true rfl);(focus rfl);(focus (simp only [zz];try rfl);done))|(apply res_cell1;(focus (simp only [tszAll];try rfl);done);(focus (simp only [ee,Nat.reduceEqDiff];try rfl);done);(focus (simp only [hh,Nat.reduceAdd];try rfl);done);(focus rfl);(focus (simp only [zz];try rfl);done))));done))
      |((with_reducible apply RetP_i);(focus trivial);(focus rfl);(focus (repeat (first|exact res_nil|(apply res_tmp;(focus (simp only [ee,Nat.reduceEqDiff];try rfl);done);(focus rfl);(focus (simp only [zz];try rfl);done))|(apply res_celln;(focus (simp only [tszAll];try rfl);done);(focus (simp only [ee,Nat.reduceEqDiff];try rfl);done);(focus (simp only [hh,Nat.reduceAdd];try rfl);done);(focus exact Nat.le_of_ble_eq_true rfl);(focus rfl);(focus (simp only [zz];try rfl);done))|(apply res_cell1;(focus (simp only [tszAll];try rfl);done);(focus (simp only [ee,Nat.reduceEqDiff];try rfl);done);(focus (simp only [hh,Nat.reduceAdd];try rfl);done);(focus rfl);(focus (simp only [zz];try rfl);done))));done);(focus (simp only [hh,Nat.reduceAdd];try rfl);done)))
    all_goals try simp only [H_put, H_setH, H_of, packT, TVal.a, CVal.dem, List.length_cons, List.length_nil, Nat.zero_add, List.take_succ_cons, List.take_zero]
    all_goals first
      | (simp; done)
      | (rw [if_pos (.inr (by omega))]; done)
      | (rw [if_neg (by simp; omega)]; simp [hsh]; done)
end Go.Proofs.Ythnfliopmjpdmaa.Av
