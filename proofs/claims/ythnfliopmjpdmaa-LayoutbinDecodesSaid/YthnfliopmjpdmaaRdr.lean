/- The reader of the reference: it reads as the cursor does. -/
import Derived.Test.YthnfliopmjpdmaaCur2
namespace Go.Proofs.Ythnfliopmjpdmaa.Av
set_option linter.unusedVariables false
set_option linter.unusedSimpArgs false
set_option maxRecDepth 4000
set_option maxHeartbeats 4000000

theorem leNum_add (b : ByteArray) (i : Nat) : leNum b (i + 1) = leNum b i + (b.data.getD i 0).toNat * 2 ^ (8 * i) := by
  simp only [leNum]
  rw [Nat.or_comm, ← Nat.shiftLeft_add_eq_or_of_lt (leNum_lt b i), Nat.shiftLeft_eq, Nat.add_comm]
/-- The number of the highest j of n bytes, from k on. -/
def hiNum (b : ByteArray) (k n : Nat) : Nat → Nat
  | 0 => 0
  | j + 1 => hiNum b k n j * 256 + (b.data.getD (k + (n - 1 - j)) 0).toNat
theorem hiNum_lt (b : ByteArray) (k n : Nat) : ∀ j, hiNum b k n j < 2 ^ (8 * j)
  | 0 => by simp [hiNum]
  | j + 1 => by
    have h1 := hiNum_lt b k n j
    have h2 : (b.data.getD (k + (n - 1 - j)) 0).toNat < 256 := UInt8.toNat_lt _
    simp only [hiNum]
    rw [show 8 * (j + 1) = 8 * j + 8 by omega, Nat.pow_add]
    omega
theorem hi_le (b x : ByteArray) (k n : Nat) (hx : ∀ i, i < n → x.data.getD i 0 = b.data.getD (k + i) 0) : ∀ j, j ≤ n → leNum x n = hiNum b k n j * 2 ^ (8 * (n - j)) + leNum x (n - j)
  | 0, _ => by simp [hiNum]
  | j + 1, h => by
    rw [hi_le b x k n hx j (by omega)]
    have e : n - j = (n - (j + 1)) + 1 := by omega
    rw [e, leNum_add, hx _ (by omega), show n - (j + 1) = n - 1 - j by omega]
    simp only [hiNum]
    rw [show 8 * (n - 1 - j + 1) = 8 + 8 * (n - 1 - j) by omega, Nat.pow_add, Nat.add_mul, Nat.mul_assoc, show (2 : Nat) ^ 8 = 256 from rfl]
    omega
theorem hi_all (b x : ByteArray) (k n : Nat) (hx : ∀ i, i < n → x.data.getD i 0 = b.data.getD (k + i) 0) : hiNum b k n n = leNum x n := by
  have := hi_le b x k n hx n (Nat.le_refl _)
  simp [leNum] at this
  exact this.symm
theorem extract_at (b : ByteArray) (k m i : Nat) (h : m ≤ b.size) (hi : k + i < m) : (b.extract k m).data.getD i 0 = b.data.getD (k + i) 0 := by
  have h1 : (b.extract k m).data = b.data.extract k m := by simp [ByteArray.data_extract]
  rw [h1, Array.getD_eq_getD_getElem?, Array.getD_eq_getD_getElem?, Array.getElem?_extract]
  have h2 : b.data.size = b.size := rfl
  rw [if_pos (by rw [h2]; omega)]
theorem hi_step (b : ByteArray) (k n j : Nat) (hj : j < n) (hn : n ≤ 4) : IntKind.i64.wrap (((BitVec.ofInt IntKind.i64.bits (IntKind.i64.wrap ((hiNum b k n j : Int) * 2 ^ min (8 : Int).toNat IntKind.i64.bits)) ||| BitVec.ofInt IntKind.i64.bits (IntKind.i64.wrap ((b.data.getD (k + (n - 1 - j)) 0).toNat : Int))).toNat : Nat) : Int) = (hiNum b k n (j + 1) : Int) := by
  have hx : (b.data.getD (k + (n - 1 - j)) 0).toNat < 256 := UInt8.toNat_lt _
  have h1 := hiNum_lt b k n j
  have h2 : (2 : Nat) ^ (8 * j) ≤ 2 ^ 24 := Nat.pow_le_pow_right (by omega) (by omega)
  have e1 : (hiNum b k n j : Int) * 2 ^ min (8 : Int).toNat IntKind.i64.bits = ((hiNum b k n j * 256 : Nat) : Int) := by
    have : min (8 : Int).toNat IntKind.i64.bits = 8 := rfl
    rw [this]; simp
  rw [e1, wrap64 (n := ((hiNum b k n j * 256 : Nat) : Int)) (by omega) (by omega), wrap64 (n := ((b.data.getD (k + (n - 1 - j)) 0).toNat : Int)) (by omega) (by omega)]
  have := or64 (hiNum b k n j * 256) ((b.data.getD (k + (n - 1 - j)) 0).toNat) (by omega) (by omega)
  refine this.trans ?_
  simp only [hiNum]
  congr 1
  have e : hiNum b k n j * 256 = hiNum b k n j <<< 8 := by rw [Nat.shiftLeft_eq]
  rw [e, Nat.shiftLeft_add_eq_or_of_lt (by simpa using hx)]
theorem rd_number (c : Cur) (n : Nat) (hc : c.ok) (hn : n ≤ 4) :
    Ok Try.prog 50 [.c (.ptr 0 0), i64 n] [some c.box] (i64 (c.n n)) [some (c.af n).box] := by
  obtain ⟨code, pos, short⟩ := c
  obtain ⟨h1, h2⟩ := hc
  simp only at h1 h2
  simp only [Cur.n, Cur.af, Cur.bytes, Cur.box]
  refine ok_fn mixed Try.func50 rfl (by kernel_rfl) (Nat.le_of_ble_eq_true (by kernel_rfl)) (by kernel_rfl) rfl rfl (Nat.le_of_ble_eq_true rfl) rfl ?_
  simp only [arg0, i64, aB, aS, List.length_cons, List.length_nil, Nat.zero_add, Nat.reduceAdd]
  repeat' (first
    |with_reducible refine WR_pp ?_
    |with_reducible refine WR_pd ?_
    |with_reducible refine W_seq ?_
    |with_reducible refine seqK_n ?_
    |with_reducible refine seqK_r ?_
    |with_reducible refine seqK_e ?_
    |with_reducible refine W_block ?_
    |with_reducible refine blockK_n ?_
    |with_reducible refine blockK_e rfl ?_
    |with_reducible refine blockK_r ?_
    |with_reducible refine blockK_o (by decide) ?_
    |with_reducible refine LoopK_e ?_
    |with_reducible refine LoopK_r ?_
    |with_reducible refine LoopX_e (by decide) ?_
    |with_reducible refine LoopX_r ?_
    |with_reducible refine W_skip ?_
    |with_reducible refine W_exit ?_
    |with_reducible refine W_ret ?_
    |with_reducible refine W_region (WOps_WR ?_)
    |with_reducible refine W_draw (WOpsD_WR ?_)
    |with_reducible refine WR_nil ?_
    |(apply WR_nilD;(focus kernel_rfl))
    |(apply R_want;(focus exact wantA_t rfl rfl rfl (by (simp only [ee,Nat.reduceEqDiff];first|done|rfl)) (by first|rfl|assumption)))
    |(apply R_move;(focus (simp only [ee,Nat.reduceEqDiff];try rfl);done);(focus rfl))
    |(apply R_assign;(focus (simp only [ee,Nat.reduceEqDiff];try rfl);done);(focus rfl))
    |(apply R_assign_tip;(focus (simp only [ee,Nat.reduceEqDiff];try rfl);done))
    |(apply R_move_tip;(focus rfl);(focus (simp only [ee,Nat.reduceEqDiff];try rfl);done))
    |(apply R_move_row;(focus rfl);(focus (simp only [ee,Nat.reduceEqDiff];try rfl);done))
    |(apply R_nil_ptr;(focus (simp only [ee,Nat.reduceEqDiff];try rfl);done))
    |(apply R_nil_ip;(focus (simp only [ee,Nat.reduceEqDiff];try rfl);done))
    |(apply R_fa_ptr;(focus (simp only [fldOffAll];try rfl);done);(focus (simp only [ee,Nat.reduceEqDiff];try rfl);done);(focus (simp only [Nat.reduceAdd,Nat.zero_add,Nat.reduceMul];try rfl);done))
    |(apply R_fa_ip;(focus (simp only [fldOffAll];try rfl);done);(focus (simp only [ee,Nat.reduceEqDiff];try rfl);done);(focus (simp only [Nat.reduceAdd,Nat.zero_add,Nat.reduceMul];try rfl);done))
    |(apply R_load_tip;(focus rfl);(focus (simp only [tszAll];try rfl);done);(focus (simp only [ee,Nat.reduceEqDiff];try rfl);done);(focus (simp only [hh,Nat.reduceAdd];try rfl);done);(focus rfl);(focus (simp only [hh,Nat.reduceAdd];try rfl);done))
    |(apply R_load_ptr1;(focus (simp only [tszAll];try rfl);done);(focus (simp only [ee,Nat.reduceEqDiff];try rfl);done);(focus (simp only [hh,Nat.reduceAdd];try rfl);done);(iterate 2 (focus rfl)))
    |(apply R_load_dem;(focus rfl);(focus (simp only [tszAll];try rfl);done);(focus (simp only [ee,Nat.reduceEqDiff];try rfl);done);(focus (simp only [hh,Nat.reduceAdd];try rfl);done);(focus rfl))
    |(apply R_load_ptrn;(focus (simp only [tszAll];try rfl);done);(focus (simp only [ee,Nat.reduceEqDiff];try rfl);done);(focus (simp only [hh,Nat.reduceAdd];try rfl);done);(focus exact Nat.le_of_ble_eq_true rfl);(focus rfl))
    |(apply R_load_rw;(focus (simp only [tszAll];try rfl);done);(focus (simp only [ee,Nat.reduceEqDiff];try rfl);done);(focus rfl);(focus intro _;rfl;done);(focus assumption);(focus (simp only [fStr,fSec,fLnk,fInt,fS,fI,fB,List.map_cons,List.map_nil];try rfl);done))
    |(apply R_load_rk;(focus (simp only [tszAll];try rfl);done);(focus (simp only [ee,Nat.reduceEqDiff];try rfl);done);(focus rfl);(focus intro _;rfl;done);(focus assumption);(focus rfl);(focus (simp only [fStr,fSec,fLnk,fInt,fS,fI,fB,List.getElem?_cons_zero,List.getElem?_cons_succ];try rfl);done))
    |(apply R_load_r1;(focus (simp only [tszAll];try rfl);done);(focus (simp only [ee,Nat.reduceEqDiff];try rfl);done);(focus rfl);(focus intro _;rfl;done);(focus assumption);(focus (simp only [fStr,fSec,fLnk,fInt,fS,fI,fB,List.map_cons,List.map_nil];try rfl);done))
    |(apply R_load_ip1;(focus (simp only [tszAll];try rfl);done);(focus (simp only [ee,Nat.reduceEqDiff];try rfl);done);(focus rfl))
    |(apply R_load_ipn;(focus (simp only [tszAll];try rfl);done);(focus (simp only [ee,Nat.reduceEqDiff];try rfl);done);(focus exact Nat.le_of_ble_eq_true rfl);(focus rfl))
    |(apply R_store_tip;(focus (simp only [tszAll];try rfl);done);(focus (simp only [ee,Nat.reduceEqDiff];try rfl);done);(focus (simp only [hh,Nat.reduceAdd];try rfl);done);(focus (simp only [ee,Nat.reduceEqDiff];try rfl);done);(focus rfl);(focus (simp only [hh,Nat.reduceAdd];try rfl);done))
    |(apply R_store;(focus (simp only [tszAll];try rfl);done);(focus (simp only [ee,Nat.reduceEqDiff];try rfl);done);(focus (simp only [hh,Nat.reduceAdd];try rfl);done);(focus (simp only [ee,Nat.reduceEqDiff];try rfl);done);(iterate 2 (focus rfl));(focus exact ⟨rfl,Nat.le_of_ble_eq_true rfl⟩);(focus (simp only [hh,Nat.reduceAdd];try rfl);done))
    |(apply R_ia_row;(focus (simp only [elemSzAll];try rfl);done);(focus (simp only [ee,Nat.reduceEqDiff];try rfl);done);(focus rfl);(focus (simp only [ee,Nat.reduceEqDiff];try rfl);done);(iterate 2 (focus omega));(focus (simp only [Int.toNat_natCast];try rfl);done))
    |(apply R_ia_arr;(focus (simp only [elemSzAll];try rfl);done);(iterate 2 (focus (simp only [ee,Nat.reduceEqDiff];try rfl);done));(iterate 2 (focus omega));(focus (simp only [Int.toNat_natCast];try rfl);done))
    |(apply R_field;(focus (simp only [fldAtAll];try rfl);done);(focus (simp only [ee,Nat.reduceEqDiff];try rfl);done);(focus rfl))
    |(apply R_extract;(focus (simp only [ee,Nat.reduceEqDiff];try rfl);done);(focus rfl))
    |(apply R_add;(iterate 2 (focus (simp only [ee,Nat.reduceEqDiff];try rfl);done));(iterate 2 (focus omega)))
    |(apply R_sub;(iterate 2 (focus (simp only [ee,Nat.reduceEqDiff];try rfl);done));(iterate 2 (focus omega)))
    |(apply R_mul;(iterate 2 (focus (simp only [ee,Nat.reduceEqDiff];try rfl);done));(iterate 2 (focus omega)))
    |(apply R_quo;(iterate 2 (focus (simp only [ee,Nat.reduceEqDiff];try rfl);done));(iterate 3 (focus omega)))
    |(apply R_rem;(iterate 2 (focus (simp only [ee,Nat.reduceEqDiff];try rfl);done));(iterate 2 (focus omega)))
    |(apply R_sadd;(iterate 2 (focus (simp only [ee,Nat.reduceEqDiff];try rfl);done));(focus omega))
    |(apply R_ibin;(iterate 2 (focus (simp only [ee,Nat.reduceEqDiff];try rfl);done));(focus rfl))
    |(apply R_sbin;(iterate 2 (focus (simp only [ee,Nat.reduceEqDiff];try rfl);done));(focus rfl))
    |(apply R_un;(focus (simp only [ee,Nat.reduceEqDiff];try rfl);done);(focus rfl))
    |(apply R_index_strD;(focus (simp only [undAll];try rfl);done);(iterate 2 (focus (simp only [ee,Nat.reduceEqDiff];try rfl);done));(iterate 2 (focus omega)))
    |(apply R_len_str;(focus (simp only [undAll];try rfl);done);(focus (simp only [ee,Nat.reduceEqDiff];try rfl);done))
    |(apply R_len_row;(focus (simp only [elemSzAll];try rfl);done);(focus (simp only [ee,Nat.reduceEqDiff];try rfl);done);(focus rfl))
    |(apply R_len_arr;(focus (simp only [elemSzAll];try rfl);done);(focus (simp only [ee,Nat.reduceEqDiff];try rfl);done))
    |(apply R_len_nil;(focus (simp only [undAll];try rfl);done);(focus (simp only [ee,Nat.reduceEqDiff];try rfl);done))
    |(apply R_pickT;(focus (simp only [ee,Nat.reduceEqDiff];try rfl);done);(focus exact (by first|rfl|assumption));(focus (simp only [ee,Nat.reduceEqDiff];try rfl);done);(focus rfl))
    |(apply R_pickF;(focus (simp only [ee,Nat.reduceEqDiff];try rfl);done);(focus exact (by first|rfl|assumption));(focus (simp only [ee,Nat.reduceEqDiff];try rfl);done);(focus rfl))
    |(apply R_build;(focus (simp only [bInfoAll];try rfl);done);(focus (repeat (first|exact partsC_n|(apply partsC_c;(focus (simp only [ee,Nat.reduceEqDiff];try rfl);done);(focus rfl))));done);(focus rfl))
    |(apply R_buildSlice;(focus (simp only [mkInfoAll];try rfl);done);(focus (repeat (first|exact partsC_n|(apply partsC_c;(focus (simp only [ee,Nat.reduceEqDiff];try rfl);done);(focus rfl))));done);(focus decide);(iterate 2 (focus rfl)))
    |(apply R_slice_str;(focus (simp only [undAll];try rfl);done);(focus (simp only [ee,Nat.reduceEqDiff];try rfl);done);(iterate 2 (focus (first|exact bnd_none|exact bnd_some (by (simp only [ee,Nat.reduceEqDiff];first|done|rfl)));done));(iterate 3 (focus omega)))
    |(apply R_slice_row;(focus (simp only [elemSzAll];try rfl);done);(focus (simp only [ee,Nat.reduceEqDiff];try rfl);done);(focus rfl);(iterate 2 (focus (first|exact bnd_none|exact bnd_some (by (simp only [ee,Nat.reduceEqDiff];first|done|rfl)));done));(iterate 3 (focus omega));(iterate 2 (focus rfl)))
    |(apply R_conv64;(iterate 2 (focus (simp only [undAll];try rfl);done));(focus (simp only [ee,Nat.reduceEqDiff];try rfl);done);(iterate 2 (focus omega)))
    |(apply R_conv_int;(iterate 2 (focus (simp only [undAll];try rfl);done));(focus (simp only [ee,Nat.reduceEqDiff];try rfl);done))
    |(apply R_bbin;(iterate 2 (focus (simp only [ee,Nat.reduceEqDiff];try rfl);done));(focus rfl))
    |(apply R_shl;(iterate 2 (focus (simp only [ee,Nat.reduceEqDiff];try rfl);done));(focus omega))
    |(apply R_shr;(iterate 2 (focus (simp only [ee,Nat.reduceEqDiff];try rfl);done));(focus omega))
    |(apply R_append_tip;(focus (simp only [mkInfoAll];try rfl);done);(focus (simp only [ee,Nat.reduceEqDiff];try rfl);done);(focus (first|exact src_row (by (simp only [ee,Nat.reduceEqDiff];first|done|rfl)) rfl (by (simp only [elemSzAll];first|done|rfl)) (by first|rfl|simp)|exact src_nil (by (simp only [ee,Nat.reduceEqDiff];first|done|rfl)) (by (simp only [elemSzAll];first|done|rfl)));done);(focus (simp only [ee,zz,Nat.reduceEqDiff,arrB];try rfl);done);(iterate 2 (focus omega)))
    |(apply R_append_nil;(focus (simp only [mkInfoAll];try rfl);done);(focus (simp only [ee,Nat.reduceEqDiff];try rfl);done);(focus (first|exact src_row (by (simp only [ee,Nat.reduceEqDiff];first|done|rfl)) rfl (by (simp only [elemSzAll];first|done|rfl)) (by first|rfl|simp)|exact src_nil (by (simp only [ee,Nat.reduceEqDiff];first|done|rfl)) (by (simp only [elemSzAll];first|done|rfl)));done);(focus (simp only [ee,zz,Nat.reduceEqDiff,arrB];try rfl);done);(iterate 2 (focus omega)))
    |(apply R_make;(focus (simp only [mkInfoAll];try rfl);done);(iterate 2 (focus (simp only [ee,Nat.reduceEqDiff];try rfl);done));(iterate 3 (focus omega));(focus (simp only [hh,Nat.reduceAdd];try rfl);done);(focus rfl);(focus (simp only [hh,Nat.reduceAdd];try rfl);done))
    |(apply R_max;(iterate 2 (focus (simp only [ee,Nat.reduceEqDiff];try rfl);done)))
    |(apply R_min;(iterate 2 (focus (simp only [ee,Nat.reduceEqDiff];try rfl);done)))
    |(apply R_alloc;(focus (simp only [zeroCAll];try rfl);done);(iterate 2 (focus (simp only [hh,Nat.reduceAdd];try rfl);done)))
    |(apply R_box;(focus (simp only [ee,Nat.reduceEqDiff];try rfl);done);(focus rfl);(iterate 2 (focus (simp only [hh,Nat.reduceAdd];try rfl);done)))
    |(apply R_skip;(focus first|exact wantA_f1 rfl rfl rfl (by (simp only [ee,Nat.reduceEqDiff];first|done|rfl)) (by first|rfl|assumption)|exact wantA_f0 rfl rfl rfl (by (simp only [ee,Nat.reduceEqDiff];first|done|rfl)) (by first|rfl|assumption)|exact wantA_und rfl rfl rfl (by (simp only [ee,Nat.reduceEqDiff];first|done|rfl))))
    |((with_reducible apply W_condT);(focus (simp only [ee,Nat.reduceEqDiff];try rfl);done);(focus exact (by first|rfl|assumption)))
    |((with_reducible apply W_condF);(focus (simp only [ee,Nat.reduceEqDiff];try rfl);done);(focus exact (by first|rfl|assumption)))
    |((with_reducible apply W_cond);(focus (simp only [ee,Nat.reduceEqDiff];try rfl);done);(all_goals (intro hbq;(first|(cases hbq;done)|(cases hbq)|(have hpq := of_decide_eq_true hbq)|(have hpq := of_decide_eq_false hbq)|skip))))
    |(apply WR_gsplit;(iterate 3 (focus rfl));(focus (simp only [ee,Nat.reduceEqDiff];try rfl);done);(all_goals (intro hbq;(first|(cases hbq;done)|(cases hbq)|(have hpq := of_decide_eq_true hbq)|(have hpq := of_decide_eq_false hbq)|skip))))
    |((with_reducible apply Ret_i);(focus trivial);(focus rfl);(focus (repeat (first|exact res_nil|(apply res_tmp;(focus (simp only [ee,Nat.reduceEqDiff];try rfl);done);(focus rfl);(focus (simp only [zz];try rfl);done))|(apply res_celln;(focus (simp only [tszAll];try rfl);done);(focus (simp only [ee,Nat.reduceEqDiff];try rfl);done);(focus (simp only [hh,Nat.reduceAdd];try rfl);done);(focus exact Nat.le_of_ble_eq_true rfl);(focus rfl);(focus (simp only [zz];try rfl);done))|(apply res_cell1;(focus (simp only [tszAll];try rfl);done);(focus (simp only [ee,Nat.reduceEqDiff];try rfl);done);(focus (simp only [hh,Nat.reduceAdd];try rfl);done);(focus rfl);(focus (simp only [zz];try rfl);done))));done))
    |((with_reducible apply RetP_i);(focus trivial);(focus rfl);(focus (repeat (first|exact res_nil|(apply res_tmp;(focus (simp only [ee,Nat.reduceEqDiff];try rfl);done);(focus rfl);(focus (simp only [zz];try rfl);done))|(apply res_celln;(focus (simp only [tszAll];try rfl);done);(focus (simp only [ee,Nat.reduceEqDiff];try rfl);done);(focus (simp only [hh,Nat.reduceAdd];try rfl);done);(focus exact Nat.le_of_ble_eq_true rfl);(focus rfl);(focus (simp only [zz];try rfl);done))|(apply res_cell1;(focus (simp only [tszAll];try rfl);done);(focus (simp only [ee,Nat.reduceEqDiff];try rfl);done);(focus (simp only [hh,Nat.reduceAdd];try rfl);done);(focus rfl);(focus (simp only [zz];try rfl);done))));done);(focus (simp only [hh,Nat.reduceAdd];try rfl);done)))
  · rw [if_pos (.inl rfl)]; rfl
  · rw [if_pos (.inl rfl)]; rfl
  · rw [if_pos (.inr (by omega))]; rfl
  · rw [if_pos (.inr (by omega))]; rfl
  have hno : ¬ (false = true ∨ code.size < pos + n) := by simp; omega
  rw [if_neg hno]
  refine W_loopS (fun j : Nat => St.of [some [.f (.v (.string code)), .f (.v (.int .i64 pos)), .f (.v (.bool false))]] [(0, .c (.ptr 0 0)), (1, i64 n), (5, i64 (hiNum code pos n j)), (6, i64 ((n : Int) - 1 - j))]) (fun j => j ≤ n) (fun j => n - j) 0 ?_ (by omega) ?_
  ·
    refine weak_agG (by (simp only [hh,Nat.reduceAdd];first|done|rfl)) (Nat.le_of_ble_eq_true rfl) (Nat.le_of_ble_eq_true rfl) rfl rfl ?_ ?_;(focus (simp only [List.length_cons,List.length_nil,Nat.zero_add,Nat.reduceAdd,List.take_succ_cons,List.take_zero,List.take_nil]));(repeat' (first|exact LeH.nil|(with_reducible apply LeH.some)|(with_reducible apply LeH.none)|(with_reducible exact LeL.refl _)|exact LeL.nil|(with_reducible apply LeL.cons)|(with_reducible exact CVal.Le.refl _)|(with_reducible exact CVal.Le.nil_row)|(with_reducible exact CVal.Le.nil_tip _)|(with_reducible exact CVal.Le.tip_row _ _ _)|(exact CVal.Le.nil_row)|(exact CVal.Le.nil_tip _)|(with_reducible apply CVal.Le.of_eq)|(with_reducible apply LeL.of_eq)))
    (repeat' (first|exact trivial|(refine And.intro ?_ ?_)|(refine ⟨_, by (simp only [ee,Nat.reduceEqDiff];first|done|rfl), ?_⟩)|(first|(with_reducible exact LeS.refl _)|(with_reducible exact LeS.nil_row)|(with_reducible exact LeS.nil_tip _)|(with_reducible exact LeS.tip_row _ _ _)|(exact LeS.nil_row)|(exact LeS.nil_tip _)|(refine LeS.of_eq ?_))));(all_goals (try rfl))
    simp [i64]
  · intro j hj
    simp only [i64]
    repeat' (first
      |with_reducible refine WR_pp ?_
      |with_reducible refine WR_pd ?_
      |with_reducible refine W_seq ?_
      |with_reducible refine seqK_n ?_
      |with_reducible refine seqK_r ?_
      |with_reducible refine seqK_e ?_
      |with_reducible refine W_block ?_
      |with_reducible refine blockK_n ?_
      |with_reducible refine blockK_e rfl ?_
      |with_reducible refine blockK_r ?_
      |with_reducible refine blockK_o (by decide) ?_
      |with_reducible refine LoopK_e ?_
      |with_reducible refine LoopK_r ?_
      |with_reducible refine LoopX_e (by decide) ?_
      |with_reducible refine LoopX_r ?_
      |with_reducible refine W_skip ?_
      |with_reducible refine W_exit ?_
      |with_reducible refine W_ret ?_
      |with_reducible refine W_region (WOps_WR ?_)
      |with_reducible refine W_draw (WOpsD_WR ?_)
      |with_reducible refine WR_nil ?_
      |(apply WR_nilD;(focus kernel_rfl))
      |(apply R_want;(focus exact wantA_t rfl rfl rfl (by (simp only [ee,Nat.reduceEqDiff];first|done|rfl)) (by first|rfl|assumption)))
      |(apply R_move;(focus (simp only [ee,Nat.reduceEqDiff];try rfl);done);(focus rfl))
      |(apply R_assign;(focus (simp only [ee,Nat.reduceEqDiff];try rfl);done);(focus rfl))
      |(apply R_assign_tip;(focus (simp only [ee,Nat.reduceEqDiff];try rfl);done))
      |(apply R_move_tip;(focus rfl);(focus (simp only [ee,Nat.reduceEqDiff];try rfl);done))
      |(apply R_move_row;(focus rfl);(focus (simp only [ee,Nat.reduceEqDiff];try rfl);done))
      |(apply R_nil_ptr;(focus (simp only [ee,Nat.reduceEqDiff];try rfl);done))
      |(apply R_nil_ip;(focus (simp only [ee,Nat.reduceEqDiff];try rfl);done))
      |(apply R_fa_ptr;(focus (simp only [fldOffAll];try rfl);done);(focus (simp only [ee,Nat.reduceEqDiff];try rfl);done);(focus (simp only [Nat.reduceAdd,Nat.zero_add,Nat.reduceMul];try rfl);done))
      |(apply R_fa_ip;(focus (simp only [fldOffAll];try rfl);done);(focus (simp only [ee,Nat.reduceEqDiff];try rfl);done);(focus (simp only [Nat.reduceAdd,Nat.zero_add,Nat.reduceMul];try rfl);done))
      |(apply R_load_tip;(focus rfl);(focus (simp only [tszAll];try rfl);done);(focus (simp only [ee,Nat.reduceEqDiff];try rfl);done);(focus (simp only [hh,Nat.reduceAdd];try rfl);done);(focus rfl);(focus (simp only [hh,Nat.reduceAdd];try rfl);done))
      |(apply R_load_ptr1;(focus (simp only [tszAll];try rfl);done);(focus (simp only [ee,Nat.reduceEqDiff];try rfl);done);(focus (simp only [hh,Nat.reduceAdd];try rfl);done);(iterate 2 (focus rfl)))
      |(apply R_load_dem;(focus rfl);(focus (simp only [tszAll];try rfl);done);(focus (simp only [ee,Nat.reduceEqDiff];try rfl);done);(focus (simp only [hh,Nat.reduceAdd];try rfl);done);(focus rfl))
      |(apply R_load_ptrn;(focus (simp only [tszAll];try rfl);done);(focus (simp only [ee,Nat.reduceEqDiff];try rfl);done);(focus (simp only [hh,Nat.reduceAdd];try rfl);done);(focus exact Nat.le_of_ble_eq_true rfl);(focus rfl))
      |(apply R_load_rw;(focus (simp only [tszAll];try rfl);done);(focus (simp only [ee,Nat.reduceEqDiff];try rfl);done);(focus rfl);(focus intro _;rfl;done);(focus assumption);(focus (simp only [fStr,fSec,fLnk,fInt,fS,fI,fB,List.map_cons,List.map_nil];try rfl);done))
      |(apply R_load_rk;(focus (simp only [tszAll];try rfl);done);(focus (simp only [ee,Nat.reduceEqDiff];try rfl);done);(focus rfl);(focus intro _;rfl;done);(focus assumption);(focus rfl);(focus (simp only [fStr,fSec,fLnk,fInt,fS,fI,fB,List.getElem?_cons_zero,List.getElem?_cons_succ];try rfl);done))
      |(apply R_load_r1;(focus (simp only [tszAll];try rfl);done);(focus (simp only [ee,Nat.reduceEqDiff];try rfl);done);(focus rfl);(focus intro _;rfl;done);(focus assumption);(focus (simp only [fStr,fSec,fLnk,fInt,fS,fI,fB,List.map_cons,List.map_nil];try rfl);done))
      |(apply R_load_ip1;(focus (simp only [tszAll];try rfl);done);(focus (simp only [ee,Nat.reduceEqDiff];try rfl);done);(focus rfl))
      |(apply R_load_ipn;(focus (simp only [tszAll];try rfl);done);(focus (simp only [ee,Nat.reduceEqDiff];try rfl);done);(focus exact Nat.le_of_ble_eq_true rfl);(focus rfl))
      |(apply R_store_tip;(focus (simp only [tszAll];try rfl);done);(focus (simp only [ee,Nat.reduceEqDiff];try rfl);done);(focus (simp only [hh,Nat.reduceAdd];try rfl);done);(focus (simp only [ee,Nat.reduceEqDiff];try rfl);done);(focus rfl);(focus (simp only [hh,Nat.reduceAdd];try rfl);done))
      |(apply R_store;(focus (simp only [tszAll];try rfl);done);(focus (simp only [ee,Nat.reduceEqDiff];try rfl);done);(focus (simp only [hh,Nat.reduceAdd];try rfl);done);(focus (simp only [ee,Nat.reduceEqDiff];try rfl);done);(iterate 2 (focus rfl));(focus exact ⟨rfl,Nat.le_of_ble_eq_true rfl⟩);(focus (simp only [hh,Nat.reduceAdd];try rfl);done))
      |(apply R_ia_row;(focus (simp only [elemSzAll];try rfl);done);(focus (simp only [ee,Nat.reduceEqDiff];try rfl);done);(focus rfl);(focus (simp only [ee,Nat.reduceEqDiff];try rfl);done);(iterate 2 (focus omega));(focus (simp only [Int.toNat_natCast];try rfl);done))
      |(apply R_ia_arr;(focus (simp only [elemSzAll];try rfl);done);(iterate 2 (focus (simp only [ee,Nat.reduceEqDiff];try rfl);done));(iterate 2 (focus omega));(focus (simp only [Int.toNat_natCast];try rfl);done))
      |(apply R_field;(focus (simp only [fldAtAll];try rfl);done);(focus (simp only [ee,Nat.reduceEqDiff];try rfl);done);(focus rfl))
      |(apply R_extract;(focus (simp only [ee,Nat.reduceEqDiff];try rfl);done);(focus rfl))
      |(apply R_add;(iterate 2 (focus (simp only [ee,Nat.reduceEqDiff];try rfl);done));(iterate 2 (focus omega)))
      |(apply R_sub;(iterate 2 (focus (simp only [ee,Nat.reduceEqDiff];try rfl);done));(iterate 2 (focus omega)))
      |(apply R_mul;(iterate 2 (focus (simp only [ee,Nat.reduceEqDiff];try rfl);done));(iterate 2 (focus omega)))
      |(apply R_quo;(iterate 2 (focus (simp only [ee,Nat.reduceEqDiff];try rfl);done));(iterate 3 (focus omega)))
      |(apply R_rem;(iterate 2 (focus (simp only [ee,Nat.reduceEqDiff];try rfl);done));(iterate 2 (focus omega)))
      |(apply R_sadd;(iterate 2 (focus (simp only [ee,Nat.reduceEqDiff];try rfl);done));(focus omega))
      |(apply R_ibin;(iterate 2 (focus (simp only [ee,Nat.reduceEqDiff];try rfl);done));(focus rfl))
      |(apply R_sbin;(iterate 2 (focus (simp only [ee,Nat.reduceEqDiff];try rfl);done));(focus rfl))
      |(apply R_un;(focus (simp only [ee,Nat.reduceEqDiff];try rfl);done);(focus rfl))
      |(apply R_index_strD;(focus (simp only [undAll];try rfl);done);(iterate 2 (focus (simp only [ee,Nat.reduceEqDiff];try rfl);done));(iterate 2 (focus omega)))
      |(apply R_len_str;(focus (simp only [undAll];try rfl);done);(focus (simp only [ee,Nat.reduceEqDiff];try rfl);done))
      |(apply R_len_row;(focus (simp only [elemSzAll];try rfl);done);(focus (simp only [ee,Nat.reduceEqDiff];try rfl);done);(focus rfl))
      |(apply R_len_arr;(focus (simp only [elemSzAll];try rfl);done);(focus (simp only [ee,Nat.reduceEqDiff];try rfl);done))
      |(apply R_len_nil;(focus (simp only [undAll];try rfl);done);(focus (simp only [ee,Nat.reduceEqDiff];try rfl);done))
      |(apply R_pickT;(focus (simp only [ee,Nat.reduceEqDiff];try rfl);done);(focus exact (by first|rfl|assumption));(focus (simp only [ee,Nat.reduceEqDiff];try rfl);done);(focus rfl))
      |(apply R_pickF;(focus (simp only [ee,Nat.reduceEqDiff];try rfl);done);(focus exact (by first|rfl|assumption));(focus (simp only [ee,Nat.reduceEqDiff];try rfl);done);(focus rfl))
      |(apply R_build;(focus (simp only [bInfoAll];try rfl);done);(focus (repeat (first|exact partsC_n|(apply partsC_c;(focus (simp only [ee,Nat.reduceEqDiff];try rfl);done);(focus rfl))));done);(focus rfl))
      |(apply R_buildSlice;(focus (simp only [mkInfoAll];try rfl);done);(focus (repeat (first|exact partsC_n|(apply partsC_c;(focus (simp only [ee,Nat.reduceEqDiff];try rfl);done);(focus rfl))));done);(focus decide);(iterate 2 (focus rfl)))
      |(apply R_slice_str;(focus (simp only [undAll];try rfl);done);(focus (simp only [ee,Nat.reduceEqDiff];try rfl);done);(iterate 2 (focus (first|exact bnd_none|exact bnd_some (by (simp only [ee,Nat.reduceEqDiff];first|done|rfl)));done));(iterate 3 (focus omega)))
      |(apply R_slice_row;(focus (simp only [elemSzAll];try rfl);done);(focus (simp only [ee,Nat.reduceEqDiff];try rfl);done);(focus rfl);(iterate 2 (focus (first|exact bnd_none|exact bnd_some (by (simp only [ee,Nat.reduceEqDiff];first|done|rfl)));done));(iterate 3 (focus omega));(iterate 2 (focus rfl)))
      |(apply R_conv64;(iterate 2 (focus (simp only [undAll];try rfl);done));(focus (simp only [ee,Nat.reduceEqDiff];try rfl);done);(iterate 2 (focus omega)))
      |(apply R_conv_int;(iterate 2 (focus (simp only [undAll];try rfl);done));(focus (simp only [ee,Nat.reduceEqDiff];try rfl);done))
      |(apply R_bbin;(iterate 2 (focus (simp only [ee,Nat.reduceEqDiff];try rfl);done));(focus rfl))
      |(apply R_shl;(iterate 2 (focus (simp only [ee,Nat.reduceEqDiff];try rfl);done));(focus omega))
      |(apply R_shr;(iterate 2 (focus (simp only [ee,Nat.reduceEqDiff];try rfl);done));(focus omega))
      |(apply R_append_tip;(focus (simp only [mkInfoAll];try rfl);done);(focus (simp only [ee,Nat.reduceEqDiff];try rfl);done);(focus (first|exact src_row (by (simp only [ee,Nat.reduceEqDiff];first|done|rfl)) rfl (by (simp only [elemSzAll];first|done|rfl)) (by first|rfl|simp)|exact src_nil (by (simp only [ee,Nat.reduceEqDiff];first|done|rfl)) (by (simp only [elemSzAll];first|done|rfl)));done);(focus (simp only [ee,zz,Nat.reduceEqDiff,arrB];try rfl);done);(iterate 2 (focus omega)))
      |(apply R_append_nil;(focus (simp only [mkInfoAll];try rfl);done);(focus (simp only [ee,Nat.reduceEqDiff];try rfl);done);(focus (first|exact src_row (by (simp only [ee,Nat.reduceEqDiff];first|done|rfl)) rfl (by (simp only [elemSzAll];first|done|rfl)) (by first|rfl|simp)|exact src_nil (by (simp only [ee,Nat.reduceEqDiff];first|done|rfl)) (by (simp only [elemSzAll];first|done|rfl)));done);(focus (simp only [ee,zz,Nat.reduceEqDiff,arrB];try rfl);done);(iterate 2 (focus omega)))
      |(apply R_make;(focus (simp only [mkInfoAll];try rfl);done);(iterate 2 (focus (simp only [ee,Nat.reduceEqDiff];try rfl);done));(iterate 3 (focus omega));(focus (simp only [hh,Nat.reduceAdd];try rfl);done);(focus rfl);(focus (simp only [hh,Nat.reduceAdd];try rfl);done))
      |(apply R_max;(iterate 2 (focus (simp only [ee,Nat.reduceEqDiff];try rfl);done)))
      |(apply R_min;(iterate 2 (focus (simp only [ee,Nat.reduceEqDiff];try rfl);done)))
      |(apply R_alloc;(focus (simp only [zeroCAll];try rfl);done);(iterate 2 (focus (simp only [hh,Nat.reduceAdd];try rfl);done)))
      |(apply R_box;(focus (simp only [ee,Nat.reduceEqDiff];try rfl);done);(focus rfl);(iterate 2 (focus (simp only [hh,Nat.reduceAdd];try rfl);done)))
      |(apply R_skip;(focus first|exact wantA_f1 rfl rfl rfl (by (simp only [ee,Nat.reduceEqDiff];first|done|rfl)) (by first|rfl|assumption)|exact wantA_f0 rfl rfl rfl (by (simp only [ee,Nat.reduceEqDiff];first|done|rfl)) (by first|rfl|assumption)|exact wantA_und rfl rfl rfl (by (simp only [ee,Nat.reduceEqDiff];first|done|rfl))))
      |((with_reducible apply W_condT);(focus (simp only [ee,Nat.reduceEqDiff];try rfl);done);(focus exact (by first|rfl|assumption)))
      |((with_reducible apply W_condF);(focus (simp only [ee,Nat.reduceEqDiff];try rfl);done);(focus exact (by first|rfl|assumption)))
      |((with_reducible apply W_cond);(focus (simp only [ee,Nat.reduceEqDiff];try rfl);done);(all_goals (intro hbq;(first|(cases hbq;done)|(cases hbq)|(have hpq := of_decide_eq_true hbq)|(have hpq := of_decide_eq_false hbq)|skip))))
      |(apply WR_gsplit;(iterate 3 (focus rfl));(focus (simp only [ee,Nat.reduceEqDiff];try rfl);done);(all_goals (intro hbq;(first|(cases hbq;done)|(cases hbq)|(have hpq := of_decide_eq_true hbq)|(have hpq := of_decide_eq_false hbq)|skip))))
      |((with_reducible apply Ret_i);(focus trivial);(focus rfl);(focus (repeat (first|exact res_nil|(apply res_tmp;(focus (simp only [ee,Nat.reduceEqDiff];try rfl);done);(focus rfl);(focus (simp only [zz];try rfl);done))|(apply res_celln;(focus (simp only [tszAll];try rfl);done);(focus (simp only [ee,Nat.reduceEqDiff];try rfl);done);(focus (simp only [hh,Nat.reduceAdd];try rfl);done);(focus exact Nat.le_of_ble_eq_true rfl);(focus rfl);(focus (simp only [zz];try rfl);done))|(apply res_cell1;(focus (simp only [tszAll];try rfl);done);(focus (simp only [ee,Nat.reduceEqDiff];try rfl);done);(focus (simp only [hh,Nat.reduceAdd];try rfl);done);(focus rfl);(focus (simp only [zz];try rfl);done))));done))
      |((with_reducible apply RetP_i);(focus trivial);(focus rfl);(focus (repeat (first|exact res_nil|(apply res_tmp;(focus (simp only [ee,Nat.reduceEqDiff];try rfl);done);(focus rfl);(focus (simp only [zz];try rfl);done))|(apply res_celln;(focus (simp only [tszAll];try rfl);done);(focus (simp only [ee,Nat.reduceEqDiff];try rfl);done);(focus (simp only [hh,Nat.reduceAdd];try rfl);done);(focus exact Nat.le_of_ble_eq_true rfl);(focus rfl);(focus (simp only [zz];try rfl);done))|(apply res_cell1;(focus (simp only [tszAll];try rfl);done);(focus (simp only [ee,Nat.reduceEqDiff];try rfl);done);(focus (simp only [hh,Nat.reduceAdd];try rfl);done);(focus rfl);(focus (simp only [zz];try rfl);done))));done);(focus (simp only [hh,Nat.reduceAdd];try rfl);done)))
    ·
      refine LoopK_n (j + 1) ?_ ?_ ?_
      rotate_left
      · (try dsimp only); omega
      · (try dsimp only); omega
      refine weak_agG (by (simp only [hh,Nat.reduceAdd];first|done|rfl)) (Nat.le_of_ble_eq_true rfl) (Nat.le_of_ble_eq_true rfl) rfl rfl ?_ ?_;(focus (simp only [List.length_cons,List.length_nil,Nat.zero_add,Nat.reduceAdd,List.take_succ_cons,List.take_zero,List.take_nil]));(repeat' (first|exact LeH.nil|(with_reducible apply LeH.some)|(with_reducible apply LeH.none)|(with_reducible exact LeL.refl _)|exact LeL.nil|(with_reducible apply LeL.cons)|(with_reducible exact CVal.Le.refl _)|(with_reducible exact CVal.Le.nil_row)|(with_reducible exact CVal.Le.nil_tip _)|(with_reducible exact CVal.Le.tip_row _ _ _)|(exact CVal.Le.nil_row)|(exact CVal.Le.nil_tip _)|(with_reducible apply CVal.Le.of_eq)|(with_reducible apply LeL.of_eq)))
      (repeat' (first|exact trivial|(refine And.intro ?_ ?_)|(refine ⟨_, by (simp only [ee,Nat.reduceEqDiff];first|done|rfl), ?_⟩)|(first|(with_reducible exact LeS.refl _)|(with_reducible exact LeS.nil_row)|(with_reducible exact LeS.nil_tip _)|(with_reducible exact LeS.tip_row _ _ _)|(exact LeS.nil_row)|(exact LeS.nil_tip _)|(refine LeS.of_eq ?_))));(all_goals (try rfl))
      · rw [show ((pos : Int) + ((n : Int) - 1 - j)).toNat = pos + (n - 1 - j) by omega, hi_step code pos n j (by omega) hn]
      · congr 4; omega
    all_goals (have hje : j = n := by omega)
    all_goals subst hje
    · simp only [packT, TVal.a, i64]
      rw [hi_all code (code.extract pos (pos + j)) pos j (fun i hi => extract_at _ _ _ _ (by omega) (by omega))]
      have : (code.extract pos (pos + j)).size = j := by simp; omega
      rw [this]
    · simp [H_put, H_setH, H_of]
theorem name_bad (code : ByteArray) (pos : Nat) (short : Bool) (h1 : pos ≤ code.size) (h : short = true ∨ code.size ≤ pos ∨ code.size < pos + 1 + (code.data.getD pos 0).toNat) : (Cur.mk code pos short).nm = ⟨#[]⟩ ∧ (Cur.mk code pos short).afn = ⟨code, pos, true⟩ := by
  unfold Cur.nm Cur.afn Cur.name
  simp only
  by_cases hh : short = true ∨ pos = code.size
  · rw [if_pos hh]; exact ⟨rfl, rfl⟩
  · rw [if_neg hh]
    have hb : (Cur.mk code pos short).bytes (1 + (code.data.getD pos 0).toNat) = (⟨#[]⟩, ⟨code, pos, true⟩) := by
      unfold Cur.bytes
      rw [if_pos]
      simp only
      rcases h with h | h | h
      · exact .inl h
      · exact absurd (.inr (by omega)) hh
      · exact .inr (by omega)
    rw [hb]
    exact ⟨rfl, rfl⟩
theorem name_good (code : ByteArray) (pos : Nat) (short : Bool) (hs : short = false) (h2 : pos + 1 + (code.data.getD pos 0).toNat ≤ code.size) : (Cur.mk code pos short).nm = code.extract (pos + 1) (pos + 1 + (code.data.getD pos 0).toNat) ∧ (Cur.mk code pos short).afn = ⟨code, pos + 1 + (code.data.getD pos 0).toNat, false⟩ := by
  subst hs
  unfold Cur.nm Cur.afn Cur.name
  simp only
  revert h2
  generalize (code.data.getD pos 0).toNat = q
  intro h2
  rw [if_neg (by simp; omega)]
  have hb : (Cur.mk code pos false).bytes (1 + q) = (code.extract pos (pos + 1 + q), ⟨code, pos + 1 + q, false⟩) := by
    unfold Cur.bytes
    rw [if_neg (by simp; omega)]
    simp only [Nat.add_assoc]
  rw [hb]
  refine ⟨?_, rfl⟩
  simp only [Bool.false_eq_true, if_false]
  rw [ByteArray.extract_extract]
  congr 1
  simp
  omega
theorem rd_name (c : Cur) (hc : c.ok) :
    Ok Try.prog 51 [.c (.ptr 0 0)] [some c.box] (aS c.nm) [some c.afn.box] := by
  obtain ⟨code, pos, short⟩ := c
  obtain ⟨h1, h2⟩ := hc
  simp only at h1 h2
  have hx : (code.data.getD (pos : Int).toNat 0).toNat < 256 := UInt8.toNat_lt _
  have hbad := name_bad code pos short h1
  have hgood := name_good code pos short
  have hx0 : (pos : Int).toNat = pos := Int.toNat_natCast pos
  have hx' := hx
  rw [hx0] at hx'
  revert hbad hgood
  generalize (Cur.mk code pos short).nm = N
  generalize (Cur.mk code pos short).afn = C
  intro hbad hgood
  simp only [Cur.box]
  refine ok_fn mixed Try.func51 rfl (by kernel_rfl) (Nat.le_of_ble_eq_true (by kernel_rfl)) (by kernel_rfl) rfl rfl (Nat.le_of_ble_eq_true rfl) rfl ?_
  simp only [arg0, i64, aB, aS, List.length_cons, List.length_nil, Nat.zero_add, Nat.reduceAdd]
  repeat' (first
    |with_reducible refine WR_pp ?_
    |with_reducible refine WR_pd ?_
    |with_reducible refine W_seq ?_
    |with_reducible refine seqK_n ?_
    |with_reducible refine seqK_r ?_
    |with_reducible refine seqK_e ?_
    |with_reducible refine W_block ?_
    |with_reducible refine blockK_n ?_
    |with_reducible refine blockK_e rfl ?_
    |with_reducible refine blockK_r ?_
    |with_reducible refine blockK_o (by decide) ?_
    |with_reducible refine LoopK_e ?_
    |with_reducible refine LoopK_r ?_
    |with_reducible refine LoopX_e (by decide) ?_
    |with_reducible refine LoopX_r ?_
    |with_reducible refine W_skip ?_
    |with_reducible refine W_exit ?_
    |with_reducible refine W_ret ?_
    |with_reducible refine W_region (WOps_WR ?_)
    |with_reducible refine W_draw (WOpsD_WR ?_)
    |with_reducible refine WR_nil ?_
    |(apply WR_nilD;(focus kernel_rfl))
    |(apply R_want;(focus exact wantA_t rfl rfl rfl (by (simp only [ee,Nat.reduceEqDiff];first|done|rfl)) (by first|rfl|assumption)))
    |(apply R_move;(focus (simp only [ee,Nat.reduceEqDiff];try rfl);done);(focus rfl))
    |(apply R_assign;(focus (simp only [ee,Nat.reduceEqDiff];try rfl);done);(focus rfl))
    |(apply R_assign_tip;(focus (simp only [ee,Nat.reduceEqDiff];try rfl);done))
    |(apply R_move_tip;(focus rfl);(focus (simp only [ee,Nat.reduceEqDiff];try rfl);done))
    |(apply R_move_row;(focus rfl);(focus (simp only [ee,Nat.reduceEqDiff];try rfl);done))
    |(apply R_nil_ptr;(focus (simp only [ee,Nat.reduceEqDiff];try rfl);done))
    |(apply R_nil_ip;(focus (simp only [ee,Nat.reduceEqDiff];try rfl);done))
    |(apply R_fa_ptr;(focus (simp only [fldOffAll];try rfl);done);(focus (simp only [ee,Nat.reduceEqDiff];try rfl);done);(focus (simp only [Nat.reduceAdd,Nat.zero_add,Nat.reduceMul];try rfl);done))
    |(apply R_fa_ip;(focus (simp only [fldOffAll];try rfl);done);(focus (simp only [ee,Nat.reduceEqDiff];try rfl);done);(focus (simp only [Nat.reduceAdd,Nat.zero_add,Nat.reduceMul];try rfl);done))
    |(apply R_load_tip;(focus rfl);(focus (simp only [tszAll];try rfl);done);(focus (simp only [ee,Nat.reduceEqDiff];try rfl);done);(focus (simp only [hh,Nat.reduceAdd];try rfl);done);(focus rfl);(focus (simp only [hh,Nat.reduceAdd];try rfl);done))
    |(apply R_load_ptr1;(focus (simp only [tszAll];try rfl);done);(focus (simp only [ee,Nat.reduceEqDiff];try rfl);done);(focus (simp only [hh,Nat.reduceAdd];try rfl);done);(iterate 2 (focus rfl)))
    |(apply R_load_dem;(focus rfl);(focus (simp only [tszAll];try rfl);done);(focus (simp only [ee,Nat.reduceEqDiff];try rfl);done);(focus (simp only [hh,Nat.reduceAdd];try rfl);done);(focus rfl))
    |(apply R_load_ptrn;(focus (simp only [tszAll];try rfl);done);(focus (simp only [ee,Nat.reduceEqDiff];try rfl);done);(focus (simp only [hh,Nat.reduceAdd];try rfl);done);(focus exact Nat.le_of_ble_eq_true rfl);(focus rfl))
    |(apply R_load_rw;(focus (simp only [tszAll];try rfl);done);(focus (simp only [ee,Nat.reduceEqDiff];try rfl);done);(focus rfl);(focus intro _;rfl;done);(focus assumption);(focus (simp only [fStr,fSec,fLnk,fInt,fS,fI,fB,List.map_cons,List.map_nil];try rfl);done))
    |(apply R_load_rk;(focus (simp only [tszAll];try rfl);done);(focus (simp only [ee,Nat.reduceEqDiff];try rfl);done);(focus rfl);(focus intro _;rfl;done);(focus assumption);(focus rfl);(focus (simp only [fStr,fSec,fLnk,fInt,fS,fI,fB,List.getElem?_cons_zero,List.getElem?_cons_succ];try rfl);done))
    |(apply R_load_r1;(focus (simp only [tszAll];try rfl);done);(focus (simp only [ee,Nat.reduceEqDiff];try rfl);done);(focus rfl);(focus intro _;rfl;done);(focus assumption);(focus (simp only [fStr,fSec,fLnk,fInt,fS,fI,fB,List.map_cons,List.map_nil];try rfl);done))
    |(apply R_load_ip1;(focus (simp only [tszAll];try rfl);done);(focus (simp only [ee,Nat.reduceEqDiff];try rfl);done);(focus rfl))
    |(apply R_load_ipn;(focus (simp only [tszAll];try rfl);done);(focus (simp only [ee,Nat.reduceEqDiff];try rfl);done);(focus exact Nat.le_of_ble_eq_true rfl);(focus rfl))
    |(apply R_store_tip;(focus (simp only [tszAll];try rfl);done);(focus (simp only [ee,Nat.reduceEqDiff];try rfl);done);(focus (simp only [hh,Nat.reduceAdd];try rfl);done);(focus (simp only [ee,Nat.reduceEqDiff];try rfl);done);(focus rfl);(focus (simp only [hh,Nat.reduceAdd];try rfl);done))
    |(apply R_store;(focus (simp only [tszAll];try rfl);done);(focus (simp only [ee,Nat.reduceEqDiff];try rfl);done);(focus (simp only [hh,Nat.reduceAdd];try rfl);done);(focus (simp only [ee,Nat.reduceEqDiff];try rfl);done);(iterate 2 (focus rfl));(focus exact ⟨rfl,Nat.le_of_ble_eq_true rfl⟩);(focus (simp only [hh,Nat.reduceAdd];try rfl);done))
    |(apply R_ia_row;(focus (simp only [elemSzAll];try rfl);done);(focus (simp only [ee,Nat.reduceEqDiff];try rfl);done);(focus rfl);(focus (simp only [ee,Nat.reduceEqDiff];try rfl);done);(iterate 2 (focus omega));(focus (simp only [Int.toNat_natCast];try rfl);done))
    |(apply R_ia_arr;(focus (simp only [elemSzAll];try rfl);done);(iterate 2 (focus (simp only [ee,Nat.reduceEqDiff];try rfl);done));(iterate 2 (focus omega));(focus (simp only [Int.toNat_natCast];try rfl);done))
    |(apply R_field;(focus (simp only [fldAtAll];try rfl);done);(focus (simp only [ee,Nat.reduceEqDiff];try rfl);done);(focus rfl))
    |(apply R_extract;(focus (simp only [ee,Nat.reduceEqDiff];try rfl);done);(focus rfl))
    |(apply R_add;(iterate 2 (focus (simp only [ee,Nat.reduceEqDiff];try rfl);done));(iterate 2 (focus omega)))
    |(apply R_sub;(iterate 2 (focus (simp only [ee,Nat.reduceEqDiff];try rfl);done));(iterate 2 (focus omega)))
    |(apply R_mul;(iterate 2 (focus (simp only [ee,Nat.reduceEqDiff];try rfl);done));(iterate 2 (focus omega)))
    |(apply R_quo;(iterate 2 (focus (simp only [ee,Nat.reduceEqDiff];try rfl);done));(iterate 3 (focus omega)))
    |(apply R_rem;(iterate 2 (focus (simp only [ee,Nat.reduceEqDiff];try rfl);done));(iterate 2 (focus omega)))
    |(apply R_sadd;(iterate 2 (focus (simp only [ee,Nat.reduceEqDiff];try rfl);done));(focus omega))
    |(apply R_ibin;(iterate 2 (focus (simp only [ee,Nat.reduceEqDiff];try rfl);done));(focus rfl))
    |(apply R_sbin;(iterate 2 (focus (simp only [ee,Nat.reduceEqDiff];try rfl);done));(focus rfl))
    |(apply R_un;(focus (simp only [ee,Nat.reduceEqDiff];try rfl);done);(focus rfl))
    |(apply R_index_strD;(focus (simp only [undAll];try rfl);done);(iterate 2 (focus (simp only [ee,Nat.reduceEqDiff];try rfl);done));(iterate 2 (focus omega)))
    |(apply R_len_str;(focus (simp only [undAll];try rfl);done);(focus (simp only [ee,Nat.reduceEqDiff];try rfl);done))
    |(apply R_len_row;(focus (simp only [elemSzAll];try rfl);done);(focus (simp only [ee,Nat.reduceEqDiff];try rfl);done);(focus rfl))
    |(apply R_len_arr;(focus (simp only [elemSzAll];try rfl);done);(focus (simp only [ee,Nat.reduceEqDiff];try rfl);done))
    |(apply R_len_nil;(focus (simp only [undAll];try rfl);done);(focus (simp only [ee,Nat.reduceEqDiff];try rfl);done))
    |(apply R_pickT;(focus (simp only [ee,Nat.reduceEqDiff];try rfl);done);(focus exact (by first|rfl|assumption));(focus (simp only [ee,Nat.reduceEqDiff];try rfl);done);(focus rfl))
    |(apply R_pickF;(focus (simp only [ee,Nat.reduceEqDiff];try rfl);done);(focus exact (by first|rfl|assumption));(focus (simp only [ee,Nat.reduceEqDiff];try rfl);done);(focus rfl))
    |(apply R_build;(focus (simp only [bInfoAll];try rfl);done);(focus (repeat (first|exact partsC_n|(apply partsC_c;(focus (simp only [ee,Nat.reduceEqDiff];try rfl);done);(focus rfl))));done);(focus rfl))
    |(apply R_buildSlice;(focus (simp only [mkInfoAll];try rfl);done);(focus (repeat (first|exact partsC_n|(apply partsC_c;(focus (simp only [ee,Nat.reduceEqDiff];try rfl);done);(focus rfl))));done);(focus decide);(iterate 2 (focus rfl)))
    |(apply R_slice_str;(focus (simp only [undAll];try rfl);done);(focus (simp only [ee,Nat.reduceEqDiff];try rfl);done);(iterate 2 (focus (first|exact bnd_none|exact bnd_some (by (simp only [ee,Nat.reduceEqDiff];first|done|rfl)));done));(iterate 3 (focus omega)))
    |(apply R_slice_row;(focus (simp only [elemSzAll];try rfl);done);(focus (simp only [ee,Nat.reduceEqDiff];try rfl);done);(focus rfl);(iterate 2 (focus (first|exact bnd_none|exact bnd_some (by (simp only [ee,Nat.reduceEqDiff];first|done|rfl)));done));(iterate 3 (focus omega));(iterate 2 (focus rfl)))
    |(apply R_conv64;(iterate 2 (focus (simp only [undAll];try rfl);done));(focus (simp only [ee,Nat.reduceEqDiff];try rfl);done);(iterate 2 (focus omega)))
    |(apply R_conv_int;(iterate 2 (focus (simp only [undAll];try rfl);done));(focus (simp only [ee,Nat.reduceEqDiff];try rfl);done))
    |(apply R_bbin;(iterate 2 (focus (simp only [ee,Nat.reduceEqDiff];try rfl);done));(focus rfl))
    |(apply R_shl;(iterate 2 (focus (simp only [ee,Nat.reduceEqDiff];try rfl);done));(focus omega))
    |(apply R_shr;(iterate 2 (focus (simp only [ee,Nat.reduceEqDiff];try rfl);done));(focus omega))
    |(apply R_append_tip;(focus (simp only [mkInfoAll];try rfl);done);(focus (simp only [ee,Nat.reduceEqDiff];try rfl);done);(focus (first|exact src_row (by (simp only [ee,Nat.reduceEqDiff];first|done|rfl)) rfl (by (simp only [elemSzAll];first|done|rfl)) (by first|rfl|simp)|exact src_nil (by (simp only [ee,Nat.reduceEqDiff];first|done|rfl)) (by (simp only [elemSzAll];first|done|rfl)));done);(focus (simp only [ee,zz,Nat.reduceEqDiff,arrB];try rfl);done);(iterate 2 (focus omega)))
    |(apply R_append_nil;(focus (simp only [mkInfoAll];try rfl);done);(focus (simp only [ee,Nat.reduceEqDiff];try rfl);done);(focus (first|exact src_row (by (simp only [ee,Nat.reduceEqDiff];first|done|rfl)) rfl (by (simp only [elemSzAll];first|done|rfl)) (by first|rfl|simp)|exact src_nil (by (simp only [ee,Nat.reduceEqDiff];first|done|rfl)) (by (simp only [elemSzAll];first|done|rfl)));done);(focus (simp only [ee,zz,Nat.reduceEqDiff,arrB];try rfl);done);(iterate 2 (focus omega)))
    |(apply R_make;(focus (simp only [mkInfoAll];try rfl);done);(iterate 2 (focus (simp only [ee,Nat.reduceEqDiff];try rfl);done));(iterate 3 (focus omega));(focus (simp only [hh,Nat.reduceAdd];try rfl);done);(focus rfl);(focus (simp only [hh,Nat.reduceAdd];try rfl);done))
    |(apply R_max;(iterate 2 (focus (simp only [ee,Nat.reduceEqDiff];try rfl);done)))
    |(apply R_min;(iterate 2 (focus (simp only [ee,Nat.reduceEqDiff];try rfl);done)))
    |(apply R_alloc;(focus (simp only [zeroCAll];try rfl);done);(iterate 2 (focus (simp only [hh,Nat.reduceAdd];try rfl);done)))
    |(apply R_box;(focus (simp only [ee,Nat.reduceEqDiff];try rfl);done);(focus rfl);(iterate 2 (focus (simp only [hh,Nat.reduceAdd];try rfl);done)))
    |(apply R_skip;(focus first|exact wantA_f1 rfl rfl rfl (by (simp only [ee,Nat.reduceEqDiff];first|done|rfl)) (by first|rfl|assumption)|exact wantA_f0 rfl rfl rfl (by (simp only [ee,Nat.reduceEqDiff];first|done|rfl)) (by first|rfl|assumption)|exact wantA_und rfl rfl rfl (by (simp only [ee,Nat.reduceEqDiff];first|done|rfl))))
    |((with_reducible apply W_condT);(focus (simp only [ee,Nat.reduceEqDiff];try rfl);done);(focus exact (by first|rfl|assumption)))
    |((with_reducible apply W_condF);(focus (simp only [ee,Nat.reduceEqDiff];try rfl);done);(focus exact (by first|rfl|assumption)))
    |((with_reducible apply W_cond);(focus (simp only [ee,Nat.reduceEqDiff];try rfl);done);(all_goals (intro hbq;(first|(cases hbq;done)|(cases hbq)|(have hpq := of_decide_eq_true hbq)|(have hpq := of_decide_eq_false hbq)|skip))))
    |(apply WR_gsplit;(iterate 3 (focus rfl));(focus (simp only [ee,Nat.reduceEqDiff];try rfl);done);(all_goals (intro hbq;(first|(cases hbq;done)|(cases hbq)|(have hpq := of_decide_eq_true hbq)|(have hpq := of_decide_eq_false hbq)|skip))))
    |((with_reducible apply Ret_i);(focus trivial);(focus rfl);(focus (repeat (first|exact res_nil|(apply res_tmp;(focus (simp only [ee,Nat.reduceEqDiff];try rfl);done);(focus rfl);(focus (simp only [zz];try rfl);done))|(apply res_celln;(focus (simp only [tszAll];try rfl);done);(focus (simp only [ee,Nat.reduceEqDiff];try rfl);done);(focus (simp only [hh,Nat.reduceAdd];try rfl);done);(focus exact Nat.le_of_ble_eq_true rfl);(focus rfl);(focus (simp only [zz];try rfl);done))|(apply res_cell1;(focus (simp only [tszAll];try rfl);done);(focus (simp only [ee,Nat.reduceEqDiff];try rfl);done);(focus (simp only [hh,Nat.reduceAdd];try rfl);done);(focus rfl);(focus (simp only [zz];try rfl);done))));done))
    |((with_reducible apply RetP_i);(focus trivial);(focus rfl);(focus (repeat (first|exact res_nil|(apply res_tmp;(focus (simp only [ee,Nat.reduceEqDiff];try rfl);done);(focus rfl);(focus (simp only [zz];try rfl);done))|(apply res_celln;(focus (simp only [tszAll];try rfl);done);(focus (simp only [ee,Nat.reduceEqDiff];try rfl);done);(focus (simp only [hh,Nat.reduceAdd];try rfl);done);(focus exact Nat.le_of_ble_eq_true rfl);(focus rfl);(focus (simp only [zz];try rfl);done))|(apply res_cell1;(focus (simp only [tszAll];try rfl);done);(focus (simp only [ee,Nat.reduceEqDiff];try rfl);done);(focus (simp only [hh,Nat.reduceAdd];try rfl);done);(focus rfl);(focus (simp only [zz];try rfl);done))));done);(focus (simp only [hh,Nat.reduceAdd];try rfl);done)))
  all_goals (try simp only [H_put, H_setH, H_of, packT, TVal.a, List.length_cons, List.length_nil, Nat.zero_add, List.take_succ_cons, List.take_zero])
  all_goals clear hx0
  all_goals (try simp only [Int.toNat_natCast] at *)
  all_goals (try simp only [eq_self, true_or, forall_const] at hbad)
  all_goals first
    | (obtain ⟨rfl, rfl⟩ := (by first | exact hbad | exact hbad (.inl trivial)); rfl)
    | ((have hq : code.size ≤ pos := by omega); (obtain ⟨rfl, rfl⟩ := hbad (.inr (.inl hq))); rfl)
    | ((have hq : code.size < pos + 1 + (code.data.getD pos 0).toNat := by omega); (obtain ⟨rfl, rfl⟩ := hbad (.inr (.inr hq))); rfl)
    | (obtain ⟨rfl, rfl⟩ := hgood trivial (by omega)
       first
         | (rw [show ((pos : Int) + 1).toNat = pos + 1 by omega, show ((pos : Int) + 1 + ((code.data.getD pos 0).toNat : Int)).toNat = pos + 1 + (code.data.getD pos 0).toNat by omega])
         | (rw [show ((pos : Int) + (1 + ((code.data.getD pos 0).toNat : Int))) = ((pos + 1 + (code.data.getD pos 0).toNat : Nat) : Int) by omega]))
end Go.Proofs.Ythnfliopmjpdmaa.Av
