/- Decode, of the program and of the reference. -/
import Derived.Test.YthnfliopmjpdmaaRdr
import Derived.Test.YthnfliopmjpdmaaBr
namespace Go.Proofs.Ythnfliopmjpdmaa.Av
set_option linter.unusedVariables false
set_option linter.unusedSimpArgs false
set_option maxRecDepth 4000
set_option maxHeartbeats 4000000

theorem bytes_ok (c : Cur) (k : Nat) (hc : c.ok) (hk : k ≤ 4) : Ok Try.prog 31 [.c (.ptr 0 0), i64 k] [some c.box] (aS (c.bytes k).1) [some (c.af k).box] := cursor_bytes c k hc (by omega)
theorem lay_ok (c : Cur) (hc : c.ok) : Ok Try.prog 32 [.c (.ptr 0 0)] [some c.box] (aLay c.lay.1) [some c.lay.2.box] := cursor_layout c hc
def emptyL : Lay := ⟨[], [], [], []⟩
def rpl : ByteArray := ⟨#[82, 80, 76, 49]⟩
def Cur.of (s : ByteArray) : Cur := ⟨s, 0, false⟩
def decOf (s m : ByteArray) (c1 c2 c3 : Cur) (q z : Nat) (L : Lay) : Lay × Int × Int :=
  if c1.short = false ∧ (m.toList == rpl.toList) = false then (emptyL, 0, 2) else
  if c3.short = true then (emptyL, c3.pos, 10) else
  if q ≠ z then (emptyL, c2.pos, 9) else
  if c3.pos < s.size then (emptyL, c3.pos, 2) else
  if layErr L ≠ 0 then (emptyL, 0, layErr L) else (L, 0, 0)
def decode (s : ByteArray) : Lay × Int × Int :=
  decOf s ((Cur.of s).bytes 4).1 ((Cur.of s).af 4) ((Cur.of s).af 4).lay.2 (((Cur.of s).af 4).lay.2.af 4) (((Cur.of s).af 4).lay.2.n 4) (Pl.crc (s.extract 0 ((Cur.of s).af 4).lay.2.pos).data.toList) ((Cur.of s).af 4).lay.1
def aDec (x : Lay × Int × Int) : AVal := .tup [.agg (cLay x.1), .c (.f (fI x.2.1)), .c (.f (fI x.2.2))]

theorem loopN_all {σ α : Type} {step : σ → α × σ} (p : σ → Prop) (q : α → Prop) (hs : ∀ c, p c → p (step c).2 ∧ q (step c).1) {c : σ} (hc : p c) : ∀ i, p (loopN step c i).2 ∧ ∀ x ∈ (loopN step c i).1, q x
  | 0 => ⟨hc, fun x hx => by cases hx⟩
  | i + 1 => by
    obtain ⟨h1, h2⟩ := loopN_all p q hs hc i
    obtain ⟨h3, h4⟩ := hs _ h1
    refine ⟨h3, fun x hx => ?_⟩
    simp only [loopN, List.mem_append, List.mem_singleton] at hx
    rcases hx with hx | rfl
    · exact h2 x hx
    · exact h4
/-- A cursor of this code. -/
def Cur.In (s : ByteArray) (c : Cur) : Prop := c.code = s ∧ c.pos ≤ s.size
theorem Cur.In.af {s : ByteArray} {c : Cur} (h : c.In s) (k : Nat) : (c.af k).In s := by
  obtain ⟨rfl, h2⟩ := h
  unfold Cur.af Cur.bytes
  split
  · exact ⟨rfl, h2⟩
  · rename_i hh
    refine ⟨rfl, ?_⟩
    simp at hh ⊢
    omega
theorem Cur.In.afn {s : ByteArray} {c : Cur} (h : c.In s) : c.afn.In s := by
  unfold Cur.afn Cur.name
  split
  · exact ⟨h.1, h.2⟩
  · split
    · exact h.af _
    · exact h.af _
theorem Cur.nm_size (c : Cur) : c.nm.size ≤ 256 := by
  unfold Cur.nm Cur.name
  split
  · simp [ByteArray.size]
  · split
    · simp [ByteArray.size]
    · have h1 := c.bytes_le (1 + (c.code.data.getD c.pos 0).toNat)
      have h2 : (c.code.data.getD c.pos 0).toNat < 256 := UInt8.toNat_lt _
      simp only [ByteArray.size_extract]
      omega
theorem lay_in {s : ByteArray} {c : Cur} (h : c.In s) : c.lay.2.In s ∧ LayFits c.lay.1 := by
  have h4 : ((((c.af 1).af 1).af 1).af 1).In s := (((h.af 1).af 1).af 1).af 1
  have hN : ∀ x : Cur, x.In s → x.stepN.2.In s ∧ x.stepN.1.size ≤ 256 := fun x hx => ⟨hx.afn, x.nm_size⟩
  have hS : ∀ x : Cur, x.In s → x.stepS.2.In s ∧ x.stepS.1.nm.size ≤ 256 := fun x hx => ⟨(((hx.afn.af 2).af 3).af 1).af 1, x.nm_size⟩
  have hL : ∀ x : Cur, x.In s → x.stepL.2.In s ∧ True := fun x hx => ⟨(((hx.af 1).af 1).af 1).af 1, trivial⟩
  obtain ⟨a1, a2⟩ := loopN_all (Cur.In s) (fun x : ByteArray => x.size ≤ 256) hN h4 (c.n 1)
  obtain ⟨b1, b2⟩ := loopN_all (Cur.In s) (fun x : ByteArray => x.size ≤ 256) hN a1 ((c.af 1).n 1)
  obtain ⟨d1, d2⟩ := loopN_all (Cur.In s) (fun x : Sec => x.nm.size ≤ 256) hS b1 (((c.af 1).af 1).n 1)
  obtain ⟨e1, e2⟩ := loopN_all (Cur.In s) (fun x : Lnk => True) hL d1 ((((c.af 1).af 1).af 1).n 1)
  have k1 := c.n1
  have k2 := (c.af 1).n1
  have k3 := ((c.af 1).af 1).n1
  have k4 := (((c.af 1).af 1).af 1).n1
  refine ⟨e1, fun x hx => ?_, fun x hx => ?_, fun x hx => ?_, ?_, ?_, ?_, ?_⟩
  · have := a2 x hx; omega
  · have := b2 x hx; omega
  · obtain ⟨y, hy, rfl⟩ := List.mem_map.1 hx
    have := d2 y hy; omega
  all_goals (show List.length (loopN _ _ _).1 ≤ _; rw [loopN_len]; omega)
theorem decode_ok (s : ByteArray) (hs : s.size < 9223372036854775807) : Ok Try.prog 20 [aS s] [] (aDec (decode s)) [] := by
  have hc0 : (Cur.of s).ok := ⟨Nat.zero_le _, hs⟩
  have hi1 : ((Cur.of s).af 4).In s := Cur.In.af ⟨rfl, Nat.zero_le _⟩ 4
  have hB := bytes_ok (Cur.of s) 4 hc0 (by decide)
  unfold decode
  revert hi1 hB
  generalize (Cur.of s).af 4 = c1
  generalize ((Cur.of s).bytes 4).1 = m
  intro hi1 hB
  obtain ⟨hi2, hf⟩ := lay_in hi1
  have hc1 : c1.ok := ⟨by rw [hi1.1]; exact hi1.2, by rw [hi1.1]; exact hs⟩
  have hL := lay_ok c1 hc1
  have hC := check_ok c1.lay.1 hf
  revert hi2 hL hC
  generalize c1.lay.1 = L
  generalize c1.lay.2 = c2
  intro hi2 hL hC
  have hc2 : c2.ok := ⟨by rw [hi2.1]; exact hi2.2, by rw [hi2.1]; exact hs⟩
  have hN := num_ok c2 4 hc2 (by decide)
  have hn4 := c2.n_lt 4
  have hi3 := hi2.af 4
  revert hN hn4 hi3
  generalize c2.af 4 = c3
  generalize c2.n 4 = q
  intro hN hn4 hi3
  have hp2 := hi2.2
  have hS := sum_ok (s.extract 0 c2.pos) (by simp; omega)
  have hcl := Pl.crc_lt (s.extract 0 c2.pos).data.toList
  revert hS hcl
  generalize Pl.crc (s.extract 0 c2.pos).data.toList = z
  intro hS hcl
  refine okP_fn mixed Try.func20 rfl (by kernel_rfl) (Nat.le_of_ble_eq_true (by kernel_rfl)) (by kernel_rfl) rfl rfl ?_
  simp only [arg0, i64, aB, aS, List.length_cons, List.length_nil, Nat.zero_add, Nat.reduceAdd]
  repeat' (first
    |with_reducible refine WR_pp ?_
    |with_reducible refine WR_pd ?_
    |with_reducible refine W_seq ?_
    |with_reducible refine seqK_n ?_
    |with_reducible refine seqK_r ?_
    |with_reducible refine seqK_e ?_
    |with_reducible refine W_block ?_
    |with_reducible refine blockK_n ?_
    |with_reducible refine blockK_e rfl ?_
    |with_reducible refine blockK_r ?_
    |with_reducible refine blockK_o (by decide) ?_
    |with_reducible refine LoopK_e ?_
    |with_reducible refine LoopK_r ?_
    |with_reducible refine LoopX_e (by decide) ?_
    |with_reducible refine LoopX_r ?_
    |with_reducible refine W_skip ?_
    |with_reducible refine W_exit ?_
    |with_reducible refine W_ret ?_
    |with_reducible refine W_region (WOps_WR ?_)
    |with_reducible refine W_draw (WOpsD_WR ?_)
    |with_reducible refine WR_nil ?_
    |(apply R_callB (x := (Cur.of s)) Cur.box curD;(focus rfl);(focus (apply Eq.trans;(focus (repeat (first|exact args_n|(apply args_c;(focus (simp only [ee,Nat.reduceEqDiff];try rfl);done))));done);(focus (simp only [zz];try rfl);done)));(focus (simp only [hh,Nat.reduceAdd];try rfl);done);(focus exact hB);(iterate 2 (focus rfl));(focus (simp only [hh,Nat.reduceAdd];try rfl);done))
    |(apply R_callB (x := c1) Cur.box curD;(focus rfl);(focus (apply Eq.trans;(focus (repeat (first|exact args_n|(apply args_c;(focus (simp only [ee,Nat.reduceEqDiff];try rfl);done))));done);(focus (simp only [zz];try rfl);done)));(focus (simp only [hh,Nat.reduceAdd];try rfl);done);(focus exact hL);(iterate 2 (focus rfl));(focus (simp only [hh,Nat.reduceAdd];try rfl);done))
    |(apply R_callB (x := c2) Cur.box curD;(focus rfl);(focus (apply Eq.trans;(focus (repeat (first|exact args_n|(apply args_c;(focus (simp only [ee,Nat.reduceEqDiff];try rfl);done))));done);(focus (simp only [zz];try rfl);done)));(focus (simp only [hh,Nat.reduceAdd];try rfl);done);(focus exact hN);(iterate 2 (focus rfl));(focus (simp only [hh,Nat.reduceAdd];try rfl);done))
    |(apply R_pure;(focus rfl);(focus (repeat (first|exact args_n|(apply args_c;(focus (simp only [ee,Nat.reduceEqDiff];try rfl);done))));done);(focus rfl);(focus exact hS))
    |(apply R_pure;(focus rfl);(focus (repeat (first|exact args_n|(apply args_c;(focus (simp only [ee,Nat.reduceEqDiff];try rfl);done))));done);(focus rfl);(focus exact hC))
    |(apply WR_nilD;(focus kernel_rfl))
    |(apply R_want;(focus exact wantA_t rfl rfl rfl (by (simp only [ee,Nat.reduceEqDiff];first|done|rfl)) (by first|rfl|assumption)))
    |(apply R_move;(focus (simp only [ee,Nat.reduceEqDiff];try rfl);done);(focus rfl))
    |(apply R_assign;(focus (simp only [ee,Nat.reduceEqDiff];try rfl);done);(focus rfl))
    |(apply R_assign_tip;(focus (simp only [ee,Nat.reduceEqDiff];try rfl);done))
    |(apply R_move_tip;(focus rfl);(focus (simp only [ee,Nat.reduceEqDiff];try rfl);done))
    |(apply R_move_row;(focus rfl);(focus (simp only [ee,Nat.reduceEqDiff];try rfl);done))
    |(apply R_nil_ptr;(focus (simp only [ee,Nat.reduceEqDiff];try rfl);done))
    |(apply R_nil_ip;(focus (simp only [ee,Nat.reduceEqDiff];try rfl);done))
    |(apply R_fa_ptr;(focus (simp only [fldOffAll];try rfl);done);(focus (simp only [ee,Nat.reduceEqDiff];try rfl);done);(focus (simp only [Nat.reduceAdd,Nat.zero_add,Nat.reduceMul];try rfl);done))
    |(apply R_fa_ip;(focus (simp only [fldOffAll];try rfl);done);(focus (simp only [ee,Nat.reduceEqDiff];try rfl);done);(focus (simp only [Nat.reduceAdd,Nat.zero_add,Nat.reduceMul];try rfl);done))
    |(apply R_load_tip;(focus rfl);(focus (simp only [tszAll];try rfl);done);(focus (simp only [ee,Nat.reduceEqDiff];try rfl);done);(focus (simp only [hh,Nat.reduceAdd];try rfl);done);(focus rfl);(focus (simp only [hh,Nat.reduceAdd];try rfl);done))
    |(apply R_load_ptr1;(focus (simp only [tszAll];try rfl);done);(focus (simp only [ee,Nat.reduceEqDiff];try rfl);done);(focus (simp only [hh,Nat.reduceAdd];try rfl);done);(iterate 2 (focus rfl)))
    |(apply R_load_dem;(focus rfl);(focus (simp only [tszAll];try rfl);done);(focus (simp only [ee,Nat.reduceEqDiff];try rfl);done);(focus (simp only [hh,Nat.reduceAdd];try rfl);done);(focus rfl))
    |(apply R_load_ptrn;(focus (simp only [tszAll];try rfl);done);(focus (simp only [ee,Nat.reduceEqDiff];try rfl);done);(focus (simp only [hh,Nat.reduceAdd];try rfl);done);(focus exact Nat.le_of_ble_eq_true rfl);(focus rfl))
    |(apply R_load_rw;(focus (simp only [tszAll];try rfl);done);(focus (simp only [ee,Nat.reduceEqDiff];try rfl);done);(focus rfl);(focus intro _;rfl;done);(focus assumption);(focus (simp only [fStr,fSec,fLnk,fInt,fS,fI,fB,List.map_cons,List.map_nil];try rfl);done))
    |(apply R_load_rk;(focus (simp only [tszAll];try rfl);done);(focus (simp only [ee,Nat.reduceEqDiff];try rfl);done);(focus rfl);(focus intro _;rfl;done);(focus assumption);(focus rfl);(focus (simp only [fStr,fSec,fLnk,fInt,fS,fI,fB,List.getElem?_cons_zero,List.getElem?_cons_succ];try rfl);done))
    |(apply R_load_r1;(focus (simp only [tszAll];try rfl);done);(focus (simp only [ee,Nat.reduceEqDiff];try rfl);done);(focus rfl);(focus intro _;rfl;done);(focus assumption);(focus (simp only [fStr,fSec,fLnk,fInt,fS,fI,fB,List.map_cons,List.map_nil];try rfl);done))
    |(apply R_load_ip1;(focus (simp only [tszAll];try rfl);done);(focus (simp only [ee,Nat.reduceEqDiff];try rfl);done);(focus rfl))
    |(apply R_load_ipn;(focus (simp only [tszAll];try rfl);done);(focus (simp only [ee,Nat.reduceEqDiff];try rfl);done);(focus exact Nat.le_of_ble_eq_true rfl);(focus rfl))
    |(apply R_store_tip;(focus (simp only [tszAll];try rfl);done);(focus (simp only [ee,Nat.reduceEqDiff];try rfl);done);(focus (simp only [hh,Nat.reduceAdd];try rfl);done);(focus (simp only [ee,Nat.reduceEqDiff];try rfl);done);(focus rfl);(focus (simp only [hh,Nat.reduceAdd];try rfl);done))
    |(apply R_store;(focus (simp only [tszAll];try rfl);done);(focus (simp only [ee,Nat.reduceEqDiff];try rfl);done);(focus (simp only [hh,Nat.reduceAdd];try rfl);done);(focus (simp only [ee,Nat.reduceEqDiff];try rfl);done);(iterate 2 (focus rfl));(focus exact ⟨rfl,Nat.le_of_ble_eq_true rfl⟩);(focus (simp only [hh,Nat.reduceAdd];try rfl);done))
    |(apply R_ia_row;(focus (simp only [elemSzAll];try rfl);done);(focus (simp only [ee,Nat.reduceEqDiff];try rfl);done);(focus rfl);(focus (simp only [ee,Nat.reduceEqDiff];try rfl);done);(iterate 2 (focus omega));(focus (simp only [Int.toNat_natCast];try rfl);done))
    |(apply R_ia_arr;(focus (simp only [elemSzAll];try rfl);done);(iterate 2 (focus (simp only [ee,Nat.reduceEqDiff];try rfl);done));(iterate 2 (focus omega));(focus (simp only [Int.toNat_natCast];try rfl);done))
    |(apply R_field;(focus (simp only [fldAtAll];try rfl);done);(focus (simp only [ee,Nat.reduceEqDiff];try rfl);done);(focus rfl))
    |(apply R_extract;(focus (simp only [ee,Nat.reduceEqDiff];try rfl);done);(focus rfl))
    |(apply R_add;(iterate 2 (focus (simp only [ee,Nat.reduceEqDiff];try rfl);done));(iterate 2 (focus omega)))
    |(apply R_sub;(iterate 2 (focus (simp only [ee,Nat.reduceEqDiff];try rfl);done));(iterate 2 (focus omega)))
    |(apply R_mul;(iterate 2 (focus (simp only [ee,Nat.reduceEqDiff];try rfl);done));(iterate 2 (focus omega)))
    |(apply R_quo;(iterate 2 (focus (simp only [ee,Nat.reduceEqDiff];try rfl);done));(iterate 3 (focus omega)))
    |(apply R_rem;(iterate 2 (focus (simp only [ee,Nat.reduceEqDiff];try rfl);done));(iterate 2 (focus omega)))
    |(apply R_sadd;(iterate 2 (focus (simp only [ee,Nat.reduceEqDiff];try rfl);done));(focus omega))
    |(apply R_ibin;(iterate 2 (focus (simp only [ee,Nat.reduceEqDiff];try rfl);done));(focus rfl))
    |(apply R_sbin;(iterate 2 (focus (simp only [ee,Nat.reduceEqDiff];try rfl);done));(focus rfl))
    |(apply R_un;(focus (simp only [ee,Nat.reduceEqDiff];try rfl);done);(focus rfl))
    |(apply R_index_strD;(focus (simp only [undAll];try rfl);done);(iterate 2 (focus (simp only [ee,Nat.reduceEqDiff];try rfl);done));(iterate 2 (focus omega)))
    |(apply R_len_str;(focus (simp only [undAll];try rfl);done);(focus (simp only [ee,Nat.reduceEqDiff];try rfl);done))
    |(apply R_len_row;(focus (simp only [elemSzAll];try rfl);done);(focus (simp only [ee,Nat.reduceEqDiff];try rfl);done);(focus rfl))
    |(apply R_len_arr;(focus (simp only [elemSzAll];try rfl);done);(focus (simp only [ee,Nat.reduceEqDiff];try rfl);done))
    |(apply R_len_nil;(focus (simp only [undAll];try rfl);done);(focus (simp only [ee,Nat.reduceEqDiff];try rfl);done))
    |(apply R_pickT;(focus (simp only [ee,Nat.reduceEqDiff];try rfl);done);(focus exact (by first|rfl|assumption));(focus (simp only [ee,Nat.reduceEqDiff];try rfl);done);(focus rfl))
    |(apply R_pickF;(focus (simp only [ee,Nat.reduceEqDiff];try rfl);done);(focus exact (by first|rfl|assumption));(focus (simp only [ee,Nat.reduceEqDiff];try rfl);done);(focus rfl))
    |(apply R_build;(focus (simp only [bInfoAll];try rfl);done);(focus (repeat (first|exact partsC_n|(apply partsC_c;(focus (simp only [ee,Nat.reduceEqDiff];try rfl);done);(focus rfl))));done);(focus rfl))
    |(apply R_buildSlice;(focus (simp only [mkInfoAll];try rfl);done);(focus (repeat (first|exact partsC_n|(apply partsC_c;(focus (simp only [ee,Nat.reduceEqDiff];try rfl);done);(focus rfl))));done);(focus decide);(iterate 2 (focus rfl)))
    |(apply R_slice_str;(focus (simp only [undAll];try rfl);done);(focus (simp only [ee,Nat.reduceEqDiff];try rfl);done);(iterate 2 (focus (first|exact bnd_none|exact bnd_some (by (simp only [ee,Nat.reduceEqDiff];first|done|rfl)));done));(iterate 3 (focus omega)))
    |(apply R_slice_row;(focus (simp only [elemSzAll];try rfl);done);(focus (simp only [ee,Nat.reduceEqDiff];try rfl);done);(focus rfl);(iterate 2 (focus (first|exact bnd_none|exact bnd_some (by (simp only [ee,Nat.reduceEqDiff];first|done|rfl)));done));(iterate 3 (focus omega));(iterate 2 (focus rfl)))
    |(apply R_conv64;(iterate 2 (focus (simp only [undAll];try rfl);done));(focus (simp only [ee,Nat.reduceEqDiff];try rfl);done);(iterate 2 (focus omega)))
    |(apply R_conv_int;(iterate 2 (focus (simp only [undAll];try rfl);done));(focus (simp only [ee,Nat.reduceEqDiff];try rfl);done))
    |(apply R_bbin;(iterate 2 (focus (simp only [ee,Nat.reduceEqDiff];try rfl);done));(focus rfl))
    |(apply R_shl;(iterate 2 (focus (simp only [ee,Nat.reduceEqDiff];try rfl);done));(focus omega))
    |(apply R_shr;(iterate 2 (focus (simp only [ee,Nat.reduceEqDiff];try rfl);done));(focus omega))
    |(apply R_append_tip;(focus (simp only [mkInfoAll];try rfl);done);(focus (simp only [ee,Nat.reduceEqDiff];try rfl);done);(focus (first|exact src_row (by (simp only [ee,Nat.reduceEqDiff];first|done|rfl)) rfl (by (simp only [elemSzAll];first|done|rfl)) (by first|rfl|simp)|exact src_nil (by (simp only [ee,Nat.reduceEqDiff];first|done|rfl)) (by (simp only [elemSzAll];first|done|rfl)));done);(focus (simp only [ee,zz,Nat.reduceEqDiff,arrB];try rfl);done);(iterate 2 (focus omega)))
    |(apply R_append_nil;(focus (simp only [mkInfoAll];try rfl);done);(focus (simp only [ee,Nat.reduceEqDiff];try rfl);done);(focus (first|exact src_row (by (simp only [ee,Nat.reduceEqDiff];first|done|rfl)) rfl (by (simp only [elemSzAll];first|done|rfl)) (by first|rfl|simp)|exact src_nil (by (simp only [ee,Nat.reduceEqDiff];first|done|rfl)) (by (simp only [elemSzAll];first|done|rfl)));done);(focus (simp only [ee,zz,Nat.reduceEqDiff,arrB];try rfl);done);(iterate 2 (focus omega)))
    |(apply R_make;(focus (simp only [mkInfoAll];try rfl);done);(iterate 2 (focus (simp only [ee,Nat.reduceEqDiff];try rfl);done));(iterate 3 (focus omega));(focus (simp only [hh,Nat.reduceAdd];try rfl);done);(focus rfl);(focus (simp only [hh,Nat.reduceAdd];try rfl);done))
    |(apply R_max;(iterate 2 (focus (simp only [ee,Nat.reduceEqDiff];try rfl);done)))
    |(apply R_min;(iterate 2 (focus (simp only [ee,Nat.reduceEqDiff];try rfl);done)))
    |(apply R_alloc;(focus (simp only [zeroCAll];try rfl);done);(iterate 2 (focus (simp only [hh,Nat.reduceAdd];try rfl);done)))
    |(apply R_box;(focus (simp only [ee,Nat.reduceEqDiff];try rfl);done);(focus rfl);(iterate 2 (focus (simp only [hh,Nat.reduceAdd];try rfl);done)))
    |(apply R_skip;(focus first|exact wantA_f1 rfl rfl rfl (by (simp only [ee,Nat.reduceEqDiff];first|done|rfl)) (by first|rfl|assumption)|exact wantA_f0 rfl rfl rfl (by (simp only [ee,Nat.reduceEqDiff];first|done|rfl)) (by first|rfl|assumption)|exact wantA_und rfl rfl rfl (by (simp only [ee,Nat.reduceEqDiff];first|done|rfl))))
    |((with_reducible apply W_condT);(focus (simp only [ee,Nat.reduceEqDiff];try rfl);done);(focus exact (by first|rfl|assumption)))
    |((with_reducible apply W_condF);(focus (simp only [ee,Nat.reduceEqDiff];try rfl);done);(focus exact (by first|rfl|assumption)))
    |((with_reducible apply W_cond);(focus (simp only [ee,Nat.reduceEqDiff];try rfl);done);(all_goals (intro hbq;(first|(cases hbq;done)|(cases hbq)|(have hpq := of_decide_eq_true hbq)|(have hpq := of_decide_eq_false hbq)|skip))))
    |(apply WR_gsplit;(iterate 3 (focus rfl));(focus (simp only [ee,Nat.reduceEqDiff];try rfl);done);(all_goals (intro hbq;(first|(cases hbq;done)|(cases hbq)|(have hpq := of_decide_eq_true hbq)|(have hpq := of_decide_eq_false hbq)|skip))))
    |((with_reducible apply Ret_i);(focus trivial);(focus rfl);(focus (repeat (first|exact res_nil|(apply res_tmp;(focus (simp only [ee,Nat.reduceEqDiff];try rfl);done);(focus rfl);(focus (simp only [zz];try rfl);done))|(apply res_celln;(focus (simp only [tszAll];try rfl);done);(focus (simp only [ee,Nat.reduceEqDiff];try rfl);done);(focus (simp only [hh,Nat.reduceAdd];try rfl);done);(focus exact Nat.le_of_ble_eq_true rfl);(focus rfl);(focus (simp only [zz];try rfl);done))|(apply res_cell1;(focus (simp only [tszAll];try rfl);done);(focus (simp only [ee,Nat.reduceEqDiff];try rfl);done);(focus (simp only [hh,Nat.reduceAdd];try rfl);done);(focus rfl);(focus (simp only [zz];try rfl);done))));done))
    |((with_reducible apply RetP_i);(focus trivial);(focus rfl);(focus (repeat (first|exact res_nil|(apply res_tmp;(focus (simp only [ee,Nat.reduceEqDiff];try rfl);done);(focus rfl);(focus (simp only [zz];try rfl);done))|(apply res_celln;(focus (simp only [tszAll];try rfl);done);(focus (simp only [ee,Nat.reduceEqDiff];try rfl);done);(focus (simp only [hh,Nat.reduceAdd];try rfl);done);(focus exact Nat.le_of_ble_eq_true rfl);(focus rfl);(focus (simp only [zz];try rfl);done))|(apply res_cell1;(focus (simp only [tszAll];try rfl);done);(focus (simp only [ee,Nat.reduceEqDiff];try rfl);done);(focus (simp only [hh,Nat.reduceAdd];try rfl);done);(focus rfl);(focus (simp only [zz];try rfl);done))));done);(focus (simp only [hh,Nat.reduceAdd];try rfl);done)))
  all_goals (try simp only [H_put, H_setH, H_of, packT, TVal.a, List.length_cons, List.length_nil, Nat.zero_add, List.take_succ_cons, List.take_zero, List.map_cons, List.map_nil, fzT, fzC_f])
  all_goals simp only [decOf]
  all_goals (clear hB hL hC hN hS)
  all_goals (repeat' split)
  all_goals first
    | rfl
    | (exfalso; simp_all [rpl]; done)
    | (exfalso; simp_all [rpl]; omega)
end Go.Proofs.Ythnfliopmjpdmaa.Av
