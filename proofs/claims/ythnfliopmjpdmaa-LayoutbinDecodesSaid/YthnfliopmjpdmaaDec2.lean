/- Decode of the reference. -/
import Derived.Test.YthnfliopmjpdmaaDec
namespace Go.Proofs.Ythnfliopmjpdmaa.Av
set_option linter.unusedVariables false
set_option linter.unusedSimpArgs false
set_option maxRecDepth 4000
set_option maxHeartbeats 4000000

theorem Cur.af_short {c : Cur} (h : c.short = true) (k : Nat) : c.af k = c := by
  obtain ⟨a, b, s⟩ := c
  simp only at h
  subst h
  unfold Cur.af Cur.bytes
  rw [if_pos (.inl rfl)]
theorem Cur.afn_short {c : Cur} (h : c.short = true) : c.afn = c := by
  obtain ⟨a, b, s⟩ := c
  simp only at h
  subst h
  unfold Cur.afn Cur.name
  rw [if_pos (.inl rfl)]
theorem loopN_stop {α : Type} {step : Cur → α × Cur} (hst : ∀ c : Cur, c.short = true → (step c).2 = c) {c : Cur} {i : Nat} (h : (loopN step c i).2.short = true) : ∀ k, (loopN step c (i + k)).2 = (loopN step c i).2
  | 0 => rfl
  | k + 1 => by
    have := loopN_stop hst h k
    show (step (loopN step c (i + k)).2).2 = _
    rw [this, hst _ h]
/-- Where a loop that stops at a short cursor ends. -/
theorem loopN_end {α : Type} {step : Cur → α × Cur} (hst : ∀ c : Cur, c.short = true → (step c).2 = c) {c : Cur} {i n : Nat} (hi : i ≤ n) (h : i = n ∨ (loopN step c i).2.short = true) : (loopN step c i).2 = (loopN step c n).2 ∧ ((loopN step c n).2.short = false → (loopN step c i).1 = (loopN step c n).1) := by
  rcases h with rfl | h
  · exact ⟨rfl, fun _ => rfl⟩
  · have e := loopN_stop hst h (n - i)
    rw [show i + (n - i) = n by omega] at e
    exact ⟨e.symm, fun hs => by rw [e, h] at hs; cases hs⟩
theorem stN (c : Cur) (h : c.short = true) : c.stepN.2 = c := Cur.afn_short h
theorem stS (c : Cur) (h : c.short = true) : c.stepS.2 = c := by
  show (((c.afn.af 2).af 3).af 1).af 1 = c
  rw [Cur.afn_short h, Cur.af_short h, Cur.af_short h, Cur.af_short h, Cur.af_short h]
theorem stL (c : Cur) (h : c.short = true) : c.stepL.2 = c := by
  show (((c.af 1).af 1).af 1).af 1 = c
  rw [Cur.af_short h, Cur.af_short h, Cur.af_short h, Cur.af_short h]
theorem loopN_shorts {α : Type} {step : Cur → α × Cur} (hst : ∀ c : Cur, c.short = true → (step c).2 = c) {c : Cur} (h : c.short = true) (n : Nat) : (loopN step c n).2 = c := by
  have := loopN_stop (i := 0) hst (c := c) h n
  rw [Nat.zero_add] at this
  exact this
theorem wrapU32 (q : Nat) (h : q < 2 ^ (8 * 4)) : IntKind.u32.wrap (q : Int) = q := by
  have h1 : (q : Int) < 4294967296 := by omega
  simp only [IntKind.wrap]
  simp [IntKind.bits, IntKind.signed]
  omega
theorem head4 (s : ByteArray) : (4 ≤ s.size → ((Cur.of s).af 4).short = false ∧ ((Cur.of s).bytes 4).1 = s.extract 0 4) ∧ (s.size < 4 → ((Cur.of s).af 4).short = true) := by
  unfold Cur.af Cur.bytes Cur.of
  constructor
  · intro h
    rw [if_neg (by simp; omega)]
    exact ⟨rfl, rfl⟩
  · intro h
    rw [if_pos (.inr (by simpa using h))]
theorem dec_end (c1 : Cur) {i1 i2 i3 i4 : Nat} {A B : List ByteArray × Cur} {C : List Sec × Cur} {D : List Lnk × Cur}
    (eA : loopN Cur.stepN ((((c1.af 1).af 1).af 1).af 1) i1 = A) (eB : loopN Cur.stepN A.2 i2 = B) (eC : loopN Cur.stepS B.2 i3 = C) (eD : loopN Cur.stepL C.2 i4 = D)
    (l1 : i1 ≤ c1.n 1) (l2 : i2 ≤ (c1.af 1).n 1) (l3 : i3 ≤ ((c1.af 1).af 1).n 1) (l4 : i4 ≤ (((c1.af 1).af 1).af 1).n 1)
    (h1 : i1 = c1.n 1 ∨ A.2.short = true) (h2 : i2 = (c1.af 1).n 1 ∨ B.2.short = true) (h3 : i3 = ((c1.af 1).af 1).n 1 ∨ C.2.short = true) (h4 : i4 = (((c1.af 1).af 1).af 1).n 1 ∨ D.2.short = true) :
    D.2 = c1.lay.2 ∧ (D.2.short = false → (⟨A.1, B.1, C.1, D.1⟩ : Lay) = c1.lay.1) := by
  obtain ⟨a1, a2⟩ := loopN_end stN l1 (by rw [eA]; exact h1)
  rw [eA] at a1 a2
  rw [a1] at eB
  obtain ⟨b1, b2⟩ := loopN_end stN l2 (by rw [eB]; exact h2)
  rw [eB] at b1 b2
  rw [b1] at eC
  obtain ⟨d1, d2⟩ := loopN_end stS l3 (by rw [eC]; exact h3)
  rw [eC] at d1 d2
  rw [d1] at eD
  obtain ⟨e1, e2⟩ := loopN_end stL l4 (by rw [eD]; exact h4)
  rw [eD] at e1 e2
  refine ⟨e1, fun hs => ?_⟩
  have nf : ∀ {α : Type} {step : Cur → α × Cur} (hst : ∀ c : Cur, c.short = true → (step c).2 = c) (c : Cur) (n : Nat), (loopN step c n).2.short = false → c.short = false := fun hst c n h => by
    cases hc : c.short with
    | false => rfl
    | true => rw [loopN_shorts hst hc, hc] at h; cases h
  rw [e1] at hs
  have s3 := nf stL _ _ hs
  have s2 := nf stS _ _ s3
  have s1 := nf stN _ _ s2
  show _ = (⟨_, _, _, _⟩ : Lay)
  rw [a2 s1, b2 s2, d2 s3, e2 hs]
theorem refDecode_ok (s : ByteArray) (hs : s.size < 9223372036854775807) : Ok Try.prog 30 [aS s] [] (aDec (decode s)) [] := by
  have hc0 : (Cur.of s).ok := ⟨Nat.zero_le _, hs⟩
  have hi1 : ((Cur.of s).af 4).In s := Cur.In.af ⟨rfl, Nat.zero_le _⟩ 4
  have hB := rd_number (Cur.of s) 4 hc0 (by decide)
  obtain ⟨hh1, hh2⟩ := head4 s
  unfold decode
  revert hi1 hB hh1 hh2
  generalize (Cur.of s).af 4 = c1
  generalize ((Cur.of s).bytes 4).1 = m
  generalize (Cur.of s).n 4 = m4
  intro hi1 hB hh1 hh2
  obtain ⟨hi2, hf⟩ := lay_in hi1
  have hc1 : c1.ok := ⟨by rw [hi1.1]; exact hi1.2, by rw [hi1.1]; exact hs⟩
  have hC := refCheck_ok c1.lay.1 hf
  have k1 := c1.n1
  have k2 := (c1.af 1).n1
  have k3 := ((c1.af 1).af 1).n1
  have k4 := (((c1.af 1).af 1).af 1).n1
  have hend := fun i1 i2 i3 i4 A B C D eA eB eC eD l1 l2 l3 l4 h1 h2 h3 h4 => dec_end c1 (i1 := i1) (i2 := i2) (i3 := i3) (i4 := i4) (A := A) (B := B) (C := C) (D := D) eA eB eC eD l1 l2 l3 l4 h1 h2 h3 h4
  obtain ⟨c4, e4⟩ : ∃ c4, (((c1.af 1).af 1).af 1).af 1 = c4 := ⟨_, rfl⟩
  have hc4 : c4.ok := by rw [← e4]; exact Cur.af_ok (Cur.af_ok (Cur.af_ok (Cur.af_ok hc1 _) _) _) _
  rw [e4] at hend
  refine okP_fn mixed Try.func30 rfl (by kernel_rfl) (Nat.le_of_ble_eq_true (by kernel_rfl)) (by kernel_rfl) rfl rfl ?_
  simp only [arg0, i64, aB, aS, List.length_cons, List.length_nil, Nat.zero_add, Nat.reduceAdd]
  repeat' (first
    |with_reducible refine WR_pp ?_
    |with_reducible refine WR_pd ?_
    |with_reducible refine W_seq ?_
    |with_reducible refine seqK_n ?_
    |with_reducible refine seqK_r ?_
    |with_reducible refine seqK_e ?_
    |with_reducible refine W_block ?_
    |with_reducible refine blockK_n ?_
    |with_reducible refine blockK_e rfl ?_
    |with_reducible refine blockK_r ?_
    |with_reducible refine blockK_o (by decide) ?_
    |with_reducible refine LoopK_e ?_
    |with_reducible refine LoopK_r ?_
    |with_reducible refine LoopX_e (by decide) ?_
    |with_reducible refine LoopX_r ?_
    |with_reducible refine W_skip ?_
    |with_reducible refine W_exit ?_
    |with_reducible refine W_ret ?_
    |with_reducible refine W_region (WOps_WR ?_)
    |with_reducible refine W_draw (WOpsD_WR ?_)
    |with_reducible refine WR_nil ?_
    |(apply R_callB (x := (Cur.of s)) Cur.box curD;(focus rfl);(focus (apply Eq.trans;(focus (repeat (first|exact args_n|(apply args_c;(focus (simp only [ee,Nat.reduceEqDiff];try rfl);done))));done);(focus (simp only [zz];try rfl);done)));(focus (simp only [hh,Nat.reduceAdd];try rfl);done);(focus exact hB);(iterate 2 (focus rfl));(focus (simp only [hh,Nat.reduceAdd];try rfl);done))
    |(apply R_callB Cur.box curD;(focus rfl);(focus (apply Eq.trans;(focus (repeat (first|exact args_n|(apply args_c;(focus (simp only [ee,Nat.reduceEqDiff];try rfl);done))));done);(focus (simp only [zz];try rfl);done)));(focus (simp only [hh,Nat.reduceAdd];try rfl);done);(focus exact (rd_number _ 1 (by repeat (first | assumption | apply Cur.af_ok | apply Cur.afn_ok)) (by decide)));(iterate 2 (focus rfl));(focus (simp only [hh,Nat.reduceAdd];try rfl);done))
    |(apply WR_nilD;(focus kernel_rfl))
    |(apply R_want;(focus exact wantA_t rfl rfl rfl (by (simp only [ee,Nat.reduceEqDiff];first|done|rfl)) (by first|rfl|assumption)))
    |(apply R_move;(focus (simp only [ee,Nat.reduceEqDiff];try rfl);done);(focus rfl))
    |(apply R_assign;(focus (simp only [ee,Nat.reduceEqDiff];try rfl);done);(focus rfl))
    |(apply R_assign_tip;(focus (simp only [ee,Nat.reduceEqDiff];try rfl);done))
    |(apply R_move_tip;(focus rfl);(focus (simp only [ee,Nat.reduceEqDiff];try rfl);done))
    |(apply R_move_row;(focus rfl);(focus (simp only [ee,Nat.reduceEqDiff];try rfl);done))
    |(apply R_nil_ptr;(focus (simp only [ee,Nat.reduceEqDiff];try rfl);done))
    |(apply R_nil_ip;(focus (simp only [ee,Nat.reduceEqDiff];try rfl);done))
    |(apply R_fa_ptr;(focus (simp only [fldOffAll];try rfl);done);(focus (simp only [ee,Nat.reduceEqDiff];try rfl);done);(focus (simp only [Nat.reduceAdd,Nat.zero_add,Nat.reduceMul];try rfl);done))
    |(apply R_fa_ip;(focus (simp only [fldOffAll];try rfl);done);(focus (simp only [ee,Nat.reduceEqDiff];try rfl);done);(focus (simp only [Nat.reduceAdd,Nat.zero_add,Nat.reduceMul];try rfl);done))
    |(apply R_load_tip;(focus rfl);(focus (simp only [tszAll];try rfl);done);(focus (simp only [ee,Nat.reduceEqDiff];try rfl);done);(focus (simp only [hh,Nat.reduceAdd];try rfl);done);(focus rfl);(focus (simp only [hh,Nat.reduceAdd];try rfl);done))
    |(apply R_load_ptr1;(focus (simp only [tszAll];try rfl);done);(focus (simp only [ee,Nat.reduceEqDiff];try rfl);done);(focus (simp only [hh,Nat.reduceAdd];try rfl);done);(iterate 2 (focus rfl)))
    |(apply R_load_dem;(focus rfl);(focus (simp only [tszAll];try rfl);done);(focus (simp only [ee,Nat.reduceEqDiff];try rfl);done);(focus (simp only [hh,Nat.reduceAdd];try rfl);done);(focus rfl))
    |(apply R_load_ptrn;(focus (simp only [tszAll];try rfl);done);(focus (simp only [ee,Nat.reduceEqDiff];try rfl);done);(focus (simp only [hh,Nat.reduceAdd];try rfl);done);(focus exact Nat.le_of_ble_eq_true rfl);(focus rfl))
    |(apply R_load_rw;(focus (simp only [tszAll];try rfl);done);(focus (simp only [ee,Nat.reduceEqDiff];try rfl);done);(focus rfl);(focus intro _;rfl;done);(focus assumption);(focus (simp only [fStr,fSec,fLnk,fInt,fS,fI,fB,List.map_cons,List.map_nil];try rfl);done))
    |(apply R_load_rk;(focus (simp only [tszAll];try rfl);done);(focus (simp only [ee,Nat.reduceEqDiff];try rfl);done);(focus rfl);(focus intro _;rfl;done);(focus assumption);(focus rfl);(focus (simp only [fStr,fSec,fLnk,fInt,fS,fI,fB,List.getElem?_cons_zero,List.getElem?_cons_succ];try rfl);done))
    |(apply R_load_r1;(focus (simp only [tszAll];try rfl);done);(focus (simp only [ee,Nat.reduceEqDiff];try rfl);done);(focus rfl);(focus intro _;rfl;done);(focus assumption);(focus (simp only [fStr,fSec,fLnk,fInt,fS,fI,fB,List.map_cons,List.map_nil];try rfl);done))
    |(apply R_load_ip1;(focus (simp only [tszAll];try rfl);done);(focus (simp only [ee,Nat.reduceEqDiff];try rfl);done);(focus rfl))
    |(apply R_load_ipn;(focus (simp only [tszAll];try rfl);done);(focus (simp only [ee,Nat.reduceEqDiff];try rfl);done);(focus exact Nat.le_of_ble_eq_true rfl);(focus rfl))
    |(apply R_store_tip;(focus (simp only [tszAll];try rfl);done);(focus (simp only [ee,Nat.reduceEqDiff];try rfl);done);(focus (simp only [hh,Nat.reduceAdd];try rfl);done);(focus (simp only [ee,Nat.reduceEqDiff];try rfl);done);(focus rfl);(focus (simp only [hh,Nat.reduceAdd];try rfl);done))
    |(apply R_store;(focus (simp only [tszAll];try rfl);done);(focus (simp only [ee,Nat.reduceEqDiff];try rfl);done);(focus (simp only [hh,Nat.reduceAdd];try rfl);done);(focus (simp only [ee,Nat.reduceEqDiff];try rfl);done);(iterate 2 (focus rfl));(focus exact ⟨rfl,Nat.le_of_ble_eq_true rfl⟩);(focus (simp only [hh,Nat.reduceAdd];try rfl);done))
    |(apply R_ia_row;(focus (simp only [elemSzAll];try rfl);done);(focus (simp only [ee,Nat.reduceEqDiff];try rfl);done);(focus rfl);(focus (simp only [ee,Nat.reduceEqDiff];try rfl);done);(iterate 2 (focus omega));(focus (simp only [Int.toNat_natCast];try rfl);done))
    |(apply R_ia_arr;(focus (simp only [elemSzAll];try rfl);done);(iterate 2 (focus (simp only [ee,Nat.reduceEqDiff];try rfl);done));(iterate 2 (focus omega));(focus (simp only [Int.toNat_natCast];try rfl);done))
    |(apply R_field;(focus (simp only [fldAtAll];try rfl);done);(focus (simp only [ee,Nat.reduceEqDiff];try rfl);done);(focus rfl))
    |(apply R_extract;(focus (simp only [ee,Nat.reduceEqDiff];try rfl);done);(focus rfl))
    |(apply R_add;(iterate 2 (focus (simp only [ee,Nat.reduceEqDiff];try rfl);done));(iterate 2 (focus omega)))
    |(apply R_sub;(iterate 2 (focus (simp only [ee,Nat.reduceEqDiff];try rfl);done));(iterate 2 (focus omega)))
    |(apply R_mul;(iterate 2 (focus (simp only [ee,Nat.reduceEqDiff];try rfl);done));(iterate 2 (focus omega)))
    |(apply R_quo;(iterate 2 (focus (simp only [ee,Nat.reduceEqDiff];try rfl);done));(iterate 3 (focus omega)))
    |(apply R_rem;(iterate 2 (focus (simp only [ee,Nat.reduceEqDiff];try rfl);done));(iterate 2 (focus omega)))
    |(apply R_sadd;(iterate 2 (focus (simp only [ee,Nat.reduceEqDiff];try rfl);done));(focus omega))
    |(apply R_ibin;(iterate 2 (focus (simp only [ee,Nat.reduceEqDiff];try rfl);done));(focus rfl))
    |(apply R_sbin;(iterate 2 (focus (simp only [ee,Nat.reduceEqDiff];try rfl);done));(focus rfl))
    |(apply R_un;(focus (simp only [ee,Nat.reduceEqDiff];try rfl);done);(focus rfl))
    |(apply R_index_strD;(focus (simp only [undAll];try rfl);done);(iterate 2 (focus (simp only [ee,Nat.reduceEqDiff];try rfl);done));(iterate 2 (focus omega)))
    |(apply R_len_str;(focus (simp only [undAll];try rfl);done);(focus (simp only [ee,Nat.reduceEqDiff];try rfl);done))
    |(apply R_len_row;(focus (simp only [elemSzAll];try rfl);done);(focus (simp only [ee,Nat.reduceEqDiff];try rfl);done);(focus rfl))
    |(apply R_len_arr;(focus (simp only [elemSzAll];try rfl);done);(focus (simp only [ee,Nat.reduceEqDiff];try rfl);done))
    |(apply R_len_nil;(focus (simp only [undAll];try rfl);done);(focus (simp only [ee,Nat.reduceEqDiff];try rfl);done))
    |(apply R_pickT;(focus (simp only [ee,Nat.reduceEqDiff];try rfl);done);(focus exact (by first|rfl|assumption));(focus (simp only [ee,Nat.reduceEqDiff];try rfl);done);(focus rfl))
    |(apply R_pickF;(focus (simp only [ee,Nat.reduceEqDiff];try rfl);done);(focus exact (by first|rfl|assumption));(focus (simp only [ee,Nat.reduceEqDiff];try rfl);done);(focus rfl))
    |(apply R_build;(focus (simp only [bInfoAll];try rfl);done);(focus (repeat (first|exact partsC_n|(apply partsC_c;(focus (simp only [ee,Nat.reduceEqDiff];try rfl);done);(focus rfl))));done);(focus rfl))
    |(apply R_buildSlice;(focus (simp only [mkInfoAll];try rfl);done);(focus (repeat (first|exact partsC_n|(apply partsC_c;(focus (simp only [ee,Nat.reduceEqDiff];try rfl);done);(focus rfl))));done);(focus decide);(iterate 2 (focus rfl)))
    |(apply R_slice_str;(focus (simp only [undAll];try rfl);done);(focus (simp only [ee,Nat.reduceEqDiff];try rfl);done);(iterate 2 (focus (first|exact bnd_none|exact bnd_some (by (simp only [ee,Nat.reduceEqDiff];first|done|rfl)));done));(iterate 3 (focus omega)))
    |(apply R_slice_row;(focus (simp only [elemSzAll];try rfl);done);(focus (simp only [ee,Nat.reduceEqDiff];try rfl);done);(focus rfl);(iterate 2 (focus (first|exact bnd_none|exact bnd_some (by (simp only [ee,Nat.reduceEqDiff];first|done|rfl)));done));(iterate 3 (focus omega));(iterate 2 (focus rfl)))
    |(apply R_conv64;(iterate 2 (focus (simp only [undAll];try rfl);done));(focus (simp only [ee,Nat.reduceEqDiff];try rfl);done);(iterate 2 (focus omega)))
    |(apply R_conv_int;(iterate 2 (focus (simp only [undAll];try rfl);done));(focus (simp only [ee,Nat.reduceEqDiff];try rfl);done))
    |(apply R_bbin;(iterate 2 (focus (simp only [ee,Nat.reduceEqDiff];try rfl);done));(focus rfl))
    |(apply R_shl;(iterate 2 (focus (simp only [ee,Nat.reduceEqDiff];try rfl);done));(focus omega))
    |(apply R_shr;(iterate 2 (focus (simp only [ee,Nat.reduceEqDiff];try rfl);done));(focus omega))
    |(apply R_append_tip;(focus (simp only [mkInfoAll];try rfl);done);(focus (simp only [ee,Nat.reduceEqDiff];try rfl);done);(focus (first|exact src_row (by (simp only [ee,Nat.reduceEqDiff];first|done|rfl)) rfl (by (simp only [elemSzAll];first|done|rfl)) (by first|rfl|simp)|exact src_nil (by (simp only [ee,Nat.reduceEqDiff];first|done|rfl)) (by (simp only [elemSzAll];first|done|rfl)));done);(focus (simp only [ee,zz,Nat.reduceEqDiff,arrB];try rfl);done);(iterate 2 (focus omega)))
    |(apply R_append_nil;(focus (simp only [mkInfoAll];try rfl);done);(focus (simp only [ee,Nat.reduceEqDiff];try rfl);done);(focus (first|exact src_row (by (simp only [ee,Nat.reduceEqDiff];first|done|rfl)) rfl (by (simp only [elemSzAll];first|done|rfl)) (by first|rfl|simp)|exact src_nil (by (simp only [ee,Nat.reduceEqDiff];first|done|rfl)) (by (simp only [elemSzAll];first|done|rfl)));done);(focus (simp only [ee,zz,Nat.reduceEqDiff,arrB];try rfl);done);(iterate 2 (focus omega)))
    |(apply R_make;(focus (simp only [mkInfoAll];try rfl);done);(iterate 2 (focus (simp only [ee,Nat.reduceEqDiff];try rfl);done));(iterate 3 (focus omega));(focus (simp only [hh,Nat.reduceAdd];try rfl);done);(focus rfl);(focus (simp only [hh,Nat.reduceAdd];try rfl);done))
    |(apply R_max;(iterate 2 (focus (simp only [ee,Nat.reduceEqDiff];try rfl);done)))
    |(apply R_min;(iterate 2 (focus (simp only [ee,Nat.reduceEqDiff];try rfl);done)))
    |(apply R_alloc;(focus (simp only [zeroCAll];try rfl);done);(iterate 2 (focus (simp only [hh,Nat.reduceAdd];try rfl);done)))
    |(apply R_box;(focus (simp only [ee,Nat.reduceEqDiff];try rfl);done);(focus rfl);(iterate 2 (focus (simp only [hh,Nat.reduceAdd];try rfl);done)))
    |(apply R_skip;(focus first|exact wantA_f1 rfl rfl rfl (by (simp only [ee,Nat.reduceEqDiff];first|done|rfl)) (by first|rfl|assumption)|exact wantA_f0 rfl rfl rfl (by (simp only [ee,Nat.reduceEqDiff];first|done|rfl)) (by first|rfl|assumption)|exact wantA_und rfl rfl rfl (by (simp only [ee,Nat.reduceEqDiff];first|done|rfl))))
    |((with_reducible apply W_condT);(focus (simp only [ee,Nat.reduceEqDiff];try rfl);done);(focus exact (by first|rfl|assumption)))
    |((with_reducible apply W_condF);(focus (simp only [ee,Nat.reduceEqDiff];try rfl);done);(focus exact (by first|rfl|assumption)))
    |((with_reducible apply W_cond);(focus (simp only [ee,Nat.reduceEqDiff];try rfl);done);(all_goals (intro hbq;(first|(cases hbq;done)|(cases hbq)|(have hpq := of_decide_eq_true hbq)|(have hpq := of_decide_eq_false hbq)|skip))))
    |(apply WR_gsplit;(iterate 3 (focus rfl));(focus (simp only [ee,Nat.reduceEqDiff];try rfl);done);(all_goals (intro hbq;(first|(cases hbq;done)|(cases hbq)|(have hpq := of_decide_eq_true hbq)|(have hpq := of_decide_eq_false hbq)|skip))))
    |((with_reducible apply Ret_i);(focus trivial);(focus rfl);(focus (repeat (first|exact res_nil|(apply res_tmp;(focus (simp only [ee,Nat.reduceEqDiff];try rfl);done);(focus rfl);(focus (simp only [zz];try rfl);done))|(apply res_celln;(focus (simp only [tszAll];try rfl);done);(focus (simp only [ee,Nat.reduceEqDiff];try rfl);done);(focus (simp only [hh,Nat.reduceAdd];try rfl);done);(focus exact Nat.le_of_ble_eq_true rfl);(focus rfl);(focus (simp only [zz];try rfl);done))|(apply res_cell1;(focus (simp only [tszAll];try rfl);done);(focus (simp only [ee,Nat.reduceEqDiff];try rfl);done);(focus (simp only [hh,Nat.reduceAdd];try rfl);done);(focus rfl);(focus (simp only [zz];try rfl);done))));done))
    |((with_reducible apply RetP_i);(focus trivial);(focus rfl);(focus (repeat (first|exact res_nil|(apply res_tmp;(focus (simp only [ee,Nat.reduceEqDiff];try rfl);done);(focus rfl);(focus (simp only [zz];try rfl);done))|(apply res_celln;(focus (simp only [tszAll];try rfl);done);(focus (simp only [ee,Nat.reduceEqDiff];try rfl);done);(focus (simp only [hh,Nat.reduceAdd];try rfl);done);(focus exact Nat.le_of_ble_eq_true rfl);(focus rfl);(focus (simp only [zz];try rfl);done))|(apply res_cell1;(focus (simp only [tszAll];try rfl);done);(focus (simp only [ee,Nat.reduceEqDiff];try rfl);done);(focus (simp only [hh,Nat.reduceAdd];try rfl);done);(focus rfl);(focus (simp only [zz];try rfl);done))));done);(focus (simp only [hh,Nat.reduceAdd];try rfl);done)))
  ·
    all_goals (try simp only [H_put, H_setH, H_of, packT, TVal.a, List.length_cons, List.length_nil, Nat.zero_add, List.take_succ_cons, List.take_zero, List.map_cons, List.map_nil, fzT, fzC_f])
    have h4 : 4 ≤ s.size := by omega
    obtain ⟨q1, q2⟩ := hh1 h4
    rw [q2]
    unfold decOf
    rw [if_pos ⟨q1, by simpa [rpl] using hbq⟩]
    rfl
  · have hdr : ¬ (c1.short = false ∧ (m.toList == rpl.toList) = false) := by
      rintro ⟨q1, q2⟩
      by_cases h4 : 4 ≤ s.size
      · obtain ⟨_, q3⟩ := hh1 h4
        rw [q3] at q2
        first
          | (rw [show (s.extract (Int.toNat 0) (Int.toNat 4)).toList = (s.extract 0 4).toList from rfl] at hbq
             simp only [rpl] at q2
             rw [q2] at hbq
             cases hbq)
          | (exfalso; omega)
      · rw [hh2 (by omega)] at q1; cases q1
    clear hh1 hh2 hB
    rw [e4]
    refine W_loopX (fun i : Nat => St.of [some [.f .nils, .f .nils, .f .nils, .f .nils], some (loopN Cur.stepN c4 i).2.box, some [.tip 1 ((loopN Cur.stepN c4 i).1.flatMap fStr) i, .f .nils, .f .nils, .f .nils]] [(0, aS s), (2, .c (.ptr 0 0)), (5, .c (.ptr 1 0)), (10, .c (.ptr 2 0)), (6, i64 (c1.n 1)), (7, i64 ((c1.af 1).n 1)), (8, i64 (((c1.af 1).af 1).n 1)), (9, i64 ((((c1.af 1).af 1).af 1).n 1)), (11, i64 i)]) (fun i => i ≤ c1.n 1) (fun i => c1.n 1 - i) 0 0 (fun i : Nat => St.of [some [.f .nils, .f .nils, .f .nils, .f .nils], some (loopN Cur.stepN c4 i).2.box, some [.tip 1 ((loopN Cur.stepN c4 i).1.flatMap fStr) i, .f .nils, .f .nils, .f .nils]] [(0, aS s), (2, .c (.ptr 0 0)), (5, .c (.ptr 1 0)), (10, .c (.ptr 2 0)), (7, i64 ((c1.af 1).n 1)), (8, i64 (((c1.af 1).af 1).n 1)), (9, i64 ((((c1.af 1).af 1).af 1).n 1))]) (fun i => i ≤ c1.n 1 ∧ (i = c1.n 1 ∨ (loopN Cur.stepN c4 i).2.short = true)) ?_ (by omega) (KCl_block KCl_seq) ?_ ?_
    ·
      refine weak_agG (by (simp only [hh,Nat.reduceAdd];first|done|rfl)) (Nat.le_of_ble_eq_true rfl) (Nat.le_of_ble_eq_true rfl) rfl rfl ?_ ?_;(focus (simp only [List.length_cons,List.length_nil,Nat.zero_add,Nat.reduceAdd,List.take_succ_cons,List.take_zero,List.take_nil]));(repeat' (first|exact LeH.nil|(with_reducible apply LeH.some)|(with_reducible apply LeH.none)|(with_reducible exact LeL.refl _)|exact LeL.nil|(with_reducible apply LeL.cons)|(with_reducible exact CVal.Le.refl _)|(with_reducible exact CVal.Le.nil_row)|(with_reducible exact CVal.Le.nil_tip _)|(with_reducible exact CVal.Le.tip_row _ _ _)|(exact CVal.Le.nil_row)|(exact CVal.Le.nil_tip _)|(with_reducible apply CVal.Le.of_eq)|(with_reducible apply LeL.of_eq)))
      (repeat' (first|exact trivial|(refine And.intro ?_ ?_)|(refine ⟨_, by (simp only [ee,Nat.reduceEqDiff];first|done|rfl), ?_⟩)|(first|(with_reducible exact LeS.refl _)|(with_reducible exact LeS.nil_row)|(with_reducible exact LeS.nil_tip _)|(with_reducible exact LeS.tip_row _ _ _)|(exact LeS.nil_row)|(exact LeS.nil_tip _)|(refine LeS.of_eq ?_))));(all_goals (try rfl))
    · intro i1 l1
      have hcA := loopN_ok stepN_ok hc4 i1
      obtain ⟨A, eA⟩ : ∃ A, loopN Cur.stepN c4 i1 = A := ⟨_, rfl⟩
      rw [eA] at hcA
      simp only [i64, aS, eA]
      repeat' (first
        |with_reducible refine WR_pp ?_
        |with_reducible refine WR_pd ?_
        |with_reducible refine W_seq ?_
        |with_reducible refine seqK_n ?_
        |with_reducible refine seqK_r ?_
        |with_reducible refine seqK_e ?_
        |with_reducible refine W_block ?_
        |with_reducible refine blockK_n ?_
        |with_reducible refine blockK_e rfl ?_
        |with_reducible refine blockK_r ?_
        |with_reducible refine blockK_o (by decide) ?_
        |with_reducible refine LoopK_e ?_
        |with_reducible refine LoopK_r ?_
        |with_reducible refine LoopX_e (by decide) ?_
        |with_reducible refine LoopX_r ?_
        |with_reducible refine W_skip ?_
        |with_reducible refine W_exit ?_
        |with_reducible refine W_ret ?_
        |with_reducible refine W_region (WOps_WR ?_)
        |with_reducible refine W_draw (WOpsD_WR ?_)
        |with_reducible refine WR_nil ?_
        |(apply R_callB Cur.box curD;(focus rfl);(focus (apply Eq.trans;(focus (repeat (first|exact args_n|(apply args_c;(focus (simp only [ee,Nat.reduceEqDiff];try rfl);done))));done);(focus (simp only [zz];try rfl);done)));(focus (simp only [hh,Nat.reduceAdd];try rfl);done);(focus exact (rd_name _ (by repeat (first | assumption | apply Cur.af_ok | apply Cur.afn_ok))));(iterate 2 (focus rfl));(focus (simp only [hh,Nat.reduceAdd];try rfl);done))
        |(apply WR_nilD;(focus kernel_rfl))
        |(apply R_want;(focus exact wantA_t rfl rfl rfl (by (simp only [ee,Nat.reduceEqDiff];first|done|rfl)) (by first|rfl|assumption)))
        |(apply R_move;(focus (simp only [ee,Nat.reduceEqDiff];try rfl);done);(focus rfl))
        |(apply R_assign;(focus (simp only [ee,Nat.reduceEqDiff];try rfl);done);(focus rfl))
        |(apply R_assign_tip;(focus (simp only [ee,Nat.reduceEqDiff];try rfl);done))
        |(apply R_move_tip;(focus rfl);(focus (simp only [ee,Nat.reduceEqDiff];try rfl);done))
        |(apply R_move_row;(focus rfl);(focus (simp only [ee,Nat.reduceEqDiff];try rfl);done))
        |(apply R_nil_ptr;(focus (simp only [ee,Nat.reduceEqDiff];try rfl);done))
        |(apply R_fa_ptr;(focus (simp only [fldOffAll];try rfl);done);(focus (simp only [ee,Nat.reduceEqDiff];try rfl);done);(focus (simp only [Nat.reduceAdd,Nat.zero_add,Nat.reduceMul];try rfl);done))
        |(apply R_load_tip;(focus rfl);(focus (simp only [tszAll];try rfl);done);(focus (simp only [ee,Nat.reduceEqDiff];try rfl);done);(focus (simp only [hh,Nat.reduceAdd];try rfl);done);(focus rfl);(focus (simp only [hh,Nat.reduceAdd];try rfl);done))
        |(apply R_load_ptr1;(focus (simp only [tszAll];try rfl);done);(focus (simp only [ee,Nat.reduceEqDiff];try rfl);done);(focus (simp only [hh,Nat.reduceAdd];try rfl);done);(iterate 2 (focus rfl)))
        |(apply R_load_dem;(focus rfl);(focus (simp only [tszAll];try rfl);done);(focus (simp only [ee,Nat.reduceEqDiff];try rfl);done);(focus (simp only [hh,Nat.reduceAdd];try rfl);done);(focus rfl))
        |(apply R_load_ptrn;(focus (simp only [tszAll];try rfl);done);(focus (simp only [ee,Nat.reduceEqDiff];try rfl);done);(focus (simp only [hh,Nat.reduceAdd];try rfl);done);(focus exact Nat.le_of_ble_eq_true rfl);(focus rfl))
        |(apply R_store_tip;(focus (simp only [tszAll];try rfl);done);(focus (simp only [ee,Nat.reduceEqDiff];try rfl);done);(focus (simp only [hh,Nat.reduceAdd];try rfl);done);(focus (simp only [ee,Nat.reduceEqDiff];try rfl);done);(focus rfl);(focus (simp only [hh,Nat.reduceAdd];try rfl);done))
        |(apply R_store;(focus (simp only [tszAll];try rfl);done);(focus (simp only [ee,Nat.reduceEqDiff];try rfl);done);(focus (simp only [hh,Nat.reduceAdd];try rfl);done);(focus (simp only [ee,Nat.reduceEqDiff];try rfl);done);(iterate 2 (focus rfl));(focus exact ⟨rfl,Nat.le_of_ble_eq_true rfl⟩);(focus (simp only [hh,Nat.reduceAdd];try rfl);done))
        |(apply R_add;(iterate 2 (focus (simp only [ee,Nat.reduceEqDiff];try rfl);done));(iterate 2 (focus omega)))
        |(apply R_sub;(iterate 2 (focus (simp only [ee,Nat.reduceEqDiff];try rfl);done));(iterate 2 (focus omega)))
        |(apply R_quo;(iterate 2 (focus (simp only [ee,Nat.reduceEqDiff];try rfl);done));(iterate 3 (focus omega)))
        |(apply R_rem;(iterate 2 (focus (simp only [ee,Nat.reduceEqDiff];try rfl);done));(iterate 2 (focus omega)))
        |(apply R_ibin;(iterate 2 (focus (simp only [ee,Nat.reduceEqDiff];try rfl);done));(focus rfl))
        |(apply R_un;(focus (simp only [ee,Nat.reduceEqDiff];try rfl);done);(focus rfl))
        |(apply R_pickT;(focus (simp only [ee,Nat.reduceEqDiff];try rfl);done);(focus exact (by first|rfl|assumption));(focus (simp only [ee,Nat.reduceEqDiff];try rfl);done);(focus rfl))
        |(apply R_pickF;(focus (simp only [ee,Nat.reduceEqDiff];try rfl);done);(focus exact (by first|rfl|assumption));(focus (simp only [ee,Nat.reduceEqDiff];try rfl);done);(focus rfl))
        |(apply R_build;(focus (simp only [bInfoAll];try rfl);done);(focus (repeat (first|exact partsC_n|(apply partsC_c;(focus (simp only [ee,Nat.reduceEqDiff];try rfl);done);(focus rfl))));done);(focus rfl))
        |(apply R_buildSlice;(focus (simp only [mkInfoAll];try rfl);done);(focus (repeat (first|exact partsC_n|(apply partsC_c;(focus (simp only [ee,Nat.reduceEqDiff];try rfl);done);(focus rfl))));done);(focus decide);(iterate 2 (focus rfl)))
        |(apply R_append_tip;(focus (simp only [mkInfoAll];try rfl);done);(focus (simp only [ee,Nat.reduceEqDiff];try rfl);done);(focus (first|exact src_row (by (simp only [ee,Nat.reduceEqDiff];first|done|rfl)) rfl (by (simp only [elemSzAll];first|done|rfl)) (by first|rfl|simp)|exact src_nil (by (simp only [ee,Nat.reduceEqDiff];first|done|rfl)) (by (simp only [elemSzAll];first|done|rfl)));done);(focus (simp only [ee,zz,Nat.reduceEqDiff,arrB];try rfl);done);(iterate 2 (focus omega)))
        |(apply R_append_nil;(focus (simp only [mkInfoAll];try rfl);done);(focus (simp only [ee,Nat.reduceEqDiff];try rfl);done);(focus (first|exact src_row (by (simp only [ee,Nat.reduceEqDiff];first|done|rfl)) rfl (by (simp only [elemSzAll];first|done|rfl)) (by first|rfl|simp)|exact src_nil (by (simp only [ee,Nat.reduceEqDiff];first|done|rfl)) (by (simp only [elemSzAll];first|done|rfl)));done);(focus (simp only [ee,zz,Nat.reduceEqDiff,arrB];try rfl);done);(iterate 2 (focus omega)))
        |(apply R_alloc;(focus (simp only [zeroCAll];try rfl);done);(iterate 2 (focus (simp only [hh,Nat.reduceAdd];try rfl);done)))
        |(apply R_box;(focus (simp only [ee,Nat.reduceEqDiff];try rfl);done);(focus rfl);(iterate 2 (focus (simp only [hh,Nat.reduceAdd];try rfl);done)))
        |(apply R_skip;(focus first|exact wantA_f1 rfl rfl rfl (by (simp only [ee,Nat.reduceEqDiff];first|done|rfl)) (by first|rfl|assumption)|exact wantA_f0 rfl rfl rfl (by (simp only [ee,Nat.reduceEqDiff];first|done|rfl)) (by first|rfl|assumption)|exact wantA_und rfl rfl rfl (by (simp only [ee,Nat.reduceEqDiff];first|done|rfl))))
        |((with_reducible apply W_condT);(focus (simp only [ee,Nat.reduceEqDiff];try rfl);done);(focus exact (by first|rfl|assumption)))
        |((with_reducible apply W_condF);(focus (simp only [ee,Nat.reduceEqDiff];try rfl);done);(focus exact (by first|rfl|assumption)))
        |((with_reducible apply W_cond);(focus (simp only [ee,Nat.reduceEqDiff];try rfl);done);(all_goals (intro hbq;(first|(cases hbq;done)|(cases hbq)|(have hpq := of_decide_eq_true hbq)|(have hpq := of_decide_eq_false hbq)|skip))))
        |(apply WR_gsplit;(iterate 3 (focus rfl));(focus (simp only [ee,Nat.reduceEqDiff];try rfl);done);(all_goals (intro hbq;(first|(cases hbq;done)|(cases hbq)|(have hpq := of_decide_eq_true hbq)|(have hpq := of_decide_eq_false hbq)|skip))))
        |((with_reducible apply Ret_i);(focus trivial);(focus rfl);(focus (repeat (first|exact res_nil|(apply res_tmp;(focus (simp only [ee,Nat.reduceEqDiff];try rfl);done);(focus rfl);(focus (simp only [zz];try rfl);done))|(apply res_celln;(focus (simp only [tszAll];try rfl);done);(focus (simp only [ee,Nat.reduceEqDiff];try rfl);done);(focus (simp only [hh,Nat.reduceAdd];try rfl);done);(focus exact Nat.le_of_ble_eq_true rfl);(focus rfl);(focus (simp only [zz];try rfl);done))|(apply res_cell1;(focus (simp only [tszAll];try rfl);done);(focus (simp only [ee,Nat.reduceEqDiff];try rfl);done);(focus (simp only [hh,Nat.reduceAdd];try rfl);done);(focus rfl);(focus (simp only [zz];try rfl);done))));done))
        |((with_reducible apply RetP_i);(focus trivial);(focus rfl);(focus (repeat (first|exact res_nil|(apply res_tmp;(focus (simp only [ee,Nat.reduceEqDiff];try rfl);done);(focus rfl);(focus (simp only [zz];try rfl);done))|(apply res_celln;(focus (simp only [tszAll];try rfl);done);(focus (simp only [ee,Nat.reduceEqDiff];try rfl);done);(focus (simp only [hh,Nat.reduceAdd];try rfl);done);(focus exact Nat.le_of_ble_eq_true rfl);(focus rfl);(focus (simp only [zz];try rfl);done))|(apply res_cell1;(focus (simp only [tszAll];try rfl);done);(focus (simp only [ee,Nat.reduceEqDiff];try rfl);done);(focus (simp only [hh,Nat.reduceAdd];try rfl);done);(focus rfl);(focus (simp only [zz];try rfl);done))));done);(focus (simp only [hh,Nat.reduceAdd];try rfl);done)))
      ·
        refine LoopX_n (i1 + 1) ?_ ?_ ?_
        rotate_left
        · (try dsimp only); omega
        · (try dsimp only); omega
        refine weak_agG (by (simp only [hh,Nat.reduceAdd];first|done|rfl)) (Nat.le_of_ble_eq_true rfl) (Nat.le_of_ble_eq_true rfl) rfl rfl ?_ ?_;(focus (simp only [List.length_cons,List.length_nil,Nat.zero_add,Nat.reduceAdd,List.take_succ_cons,List.take_zero,List.take_nil]));(repeat' (first|exact LeH.nil|(with_reducible apply LeH.some)|(with_reducible apply LeH.none)|(with_reducible exact LeL.refl _)|exact LeL.nil|(with_reducible apply LeL.cons)|(with_reducible exact CVal.Le.refl _)|(with_reducible exact CVal.Le.nil_row)|(with_reducible exact CVal.Le.nil_tip _)|(with_reducible exact CVal.Le.tip_row _ _ _)|(exact CVal.Le.nil_row)|(exact CVal.Le.nil_tip _)|(with_reducible apply CVal.Le.of_eq)|(with_reducible apply LeL.of_eq)))
        (repeat' (first|exact trivial|(refine And.intro ?_ ?_)|(refine ⟨_, by (simp only [ee,Nat.reduceEqDiff];first|done|rfl), ?_⟩)|(first|(with_reducible exact LeS.refl _)|(with_reducible exact LeS.nil_row)|(with_reducible exact LeS.nil_tip _)|(with_reducible exact LeS.tip_row _ _ _)|(exact LeS.nil_row)|(exact LeS.nil_tip _)|(refine LeS.of_eq ?_))));(all_goals (try rfl))
        all_goals (simp [loopN, eA, Cur.stepN, fStr, fS]; done)
      ·
        refine LoopX_x (i1) rfl ?_ ?_
        rotate_left
        · exact ⟨l1, .inr (by rw [eA]; simpa using hbq)⟩
        refine weak_agG (by (simp only [hh,Nat.reduceAdd];first|done|rfl)) (Nat.le_of_ble_eq_true rfl) (Nat.le_of_ble_eq_true rfl) rfl rfl ?_ ?_;(focus (simp only [List.length_cons,List.length_nil,Nat.zero_add,Nat.reduceAdd,List.take_succ_cons,List.take_zero,List.take_nil]));(repeat' (first|exact LeH.nil|(with_reducible apply LeH.some)|(with_reducible apply LeH.none)|(with_reducible exact LeL.refl _)|exact LeL.nil|(with_reducible apply LeL.cons)|(with_reducible exact CVal.Le.refl _)|(with_reducible exact CVal.Le.nil_row)|(with_reducible exact CVal.Le.nil_tip _)|(with_reducible exact CVal.Le.tip_row _ _ _)|(exact CVal.Le.nil_row)|(exact CVal.Le.nil_tip _)|(with_reducible apply CVal.Le.of_eq)|(with_reducible apply LeL.of_eq)))
        (repeat' (first|exact trivial|(refine And.intro ?_ ?_)|(refine ⟨_, by (simp only [ee,Nat.reduceEqDiff];first|done|rfl), ?_⟩)|(first|(with_reducible exact LeS.refl _)|(with_reducible exact LeS.nil_row)|(with_reducible exact LeS.nil_tip _)|(with_reducible exact LeS.tip_row _ _ _)|(exact LeS.nil_row)|(exact LeS.nil_tip _)|(refine LeS.of_eq ?_))));(all_goals (try rfl))
        all_goals (simp [eA]; done)
      ·
        refine LoopX_x (i1) rfl ?_ ?_
        rotate_left
        · exact ⟨l1, .inl (by omega)⟩
        refine weak_agG (by (simp only [hh,Nat.reduceAdd];first|done|rfl)) (Nat.le_of_ble_eq_true rfl) (Nat.le_of_ble_eq_true rfl) rfl rfl ?_ ?_;(focus (simp only [List.length_cons,List.length_nil,Nat.zero_add,Nat.reduceAdd,List.take_succ_cons,List.take_zero,List.take_nil]));(repeat' (first|exact LeH.nil|(with_reducible apply LeH.some)|(with_reducible apply LeH.none)|(with_reducible exact LeL.refl _)|exact LeL.nil|(with_reducible apply LeL.cons)|(with_reducible exact CVal.Le.refl _)|(with_reducible exact CVal.Le.nil_row)|(with_reducible exact CVal.Le.nil_tip _)|(with_reducible exact CVal.Le.tip_row _ _ _)|(exact CVal.Le.nil_row)|(exact CVal.Le.nil_tip _)|(with_reducible apply CVal.Le.of_eq)|(with_reducible apply LeL.of_eq)))
        (repeat' (first|exact trivial|(refine And.intro ?_ ?_)|(refine ⟨_, by (simp only [ee,Nat.reduceEqDiff];first|done|rfl), ?_⟩)|(first|(with_reducible exact LeS.refl _)|(with_reducible exact LeS.nil_row)|(with_reducible exact LeS.nil_tip _)|(with_reducible exact LeS.tip_row _ _ _)|(exact LeS.nil_row)|(exact LeS.nil_tip _)|(refine LeS.of_eq ?_))));(all_goals (try rfl))
        all_goals (simp [eA]; done)
    intro i1 hX1
    obtain ⟨l1, x1⟩ := hX1
    have hcA := loopN_ok stepN_ok hc4 i1
    revert x1 hcA
    obtain ⟨A, eA⟩ : ∃ A, loopN Cur.stepN c4 i1 = A := ⟨_, rfl⟩
    rw [eA]
    intro x1 hcA
    simp only [i64, aS]
    repeat' (first
      |with_reducible refine WR_pp ?_
      |with_reducible refine WR_pd ?_
      |with_reducible refine W_seq ?_
      |with_reducible refine seqK_n ?_
      |with_reducible refine seqK_r ?_
      |with_reducible refine seqK_e ?_
      |with_reducible refine W_block ?_
      |with_reducible refine blockK_n ?_
      |with_reducible refine blockK_e rfl ?_
      |with_reducible refine blockK_r ?_
      |with_reducible refine blockK_o (by decide) ?_
      |with_reducible refine LoopK_e ?_
      |with_reducible refine LoopK_r ?_
      |with_reducible refine LoopX_e (by decide) ?_
      |with_reducible refine LoopX_r ?_
      |with_reducible refine W_skip ?_
      |with_reducible refine W_exit ?_
      |with_reducible refine W_ret ?_
      |with_reducible refine W_region (WOps_WR ?_)
      |with_reducible refine W_draw (WOpsD_WR ?_)
      |with_reducible refine WR_nil ?_
      |(apply WR_nilD;(focus kernel_rfl))
      |(apply R_want;(focus exact wantA_t rfl rfl rfl (by (simp only [ee,Nat.reduceEqDiff];first|done|rfl)) (by first|rfl|assumption)))
      |(apply R_move;(focus (simp only [ee,Nat.reduceEqDiff];try rfl);done);(focus rfl))
      |(apply R_assign;(focus (simp only [ee,Nat.reduceEqDiff];try rfl);done);(focus rfl))
      |(apply R_assign_tip;(focus (simp only [ee,Nat.reduceEqDiff];try rfl);done))
      |(apply R_move_tip;(focus rfl);(focus (simp only [ee,Nat.reduceEqDiff];try rfl);done))
      |(apply R_move_row;(focus rfl);(focus (simp only [ee,Nat.reduceEqDiff];try rfl);done))
      |(apply R_nil_ptr;(focus (simp only [ee,Nat.reduceEqDiff];try rfl);done))
      |(apply R_fa_ptr;(focus (simp only [fldOffAll];try rfl);done);(focus (simp only [ee,Nat.reduceEqDiff];try rfl);done);(focus (simp only [Nat.reduceAdd,Nat.zero_add,Nat.reduceMul];try rfl);done))
      |(apply R_load_tip;(focus rfl);(focus (simp only [tszAll];try rfl);done);(focus (simp only [ee,Nat.reduceEqDiff];try rfl);done);(focus (simp only [hh,Nat.reduceAdd];try rfl);done);(focus rfl);(focus (simp only [hh,Nat.reduceAdd];try rfl);done))
      |(apply R_load_ptr1;(focus (simp only [tszAll];try rfl);done);(focus (simp only [ee,Nat.reduceEqDiff];try rfl);done);(focus (simp only [hh,Nat.reduceAdd];try rfl);done);(iterate 2 (focus rfl)))
      |(apply R_load_dem;(focus rfl);(focus (simp only [tszAll];try rfl);done);(focus (simp only [ee,Nat.reduceEqDiff];try rfl);done);(focus (simp only [hh,Nat.reduceAdd];try rfl);done);(focus rfl))
      |(apply R_load_ptrn;(focus (simp only [tszAll];try rfl);done);(focus (simp only [ee,Nat.reduceEqDiff];try rfl);done);(focus (simp only [hh,Nat.reduceAdd];try rfl);done);(focus exact Nat.le_of_ble_eq_true rfl);(focus rfl))
      |(apply R_store_tip;(focus (simp only [tszAll];try rfl);done);(focus (simp only [ee,Nat.reduceEqDiff];try rfl);done);(focus (simp only [hh,Nat.reduceAdd];try rfl);done);(focus (simp only [ee,Nat.reduceEqDiff];try rfl);done);(focus rfl);(focus (simp only [hh,Nat.reduceAdd];try rfl);done))
      |(apply R_store;(focus (simp only [tszAll];try rfl);done);(focus (simp only [ee,Nat.reduceEqDiff];try rfl);done);(focus (simp only [hh,Nat.reduceAdd];try rfl);done);(focus (simp only [ee,Nat.reduceEqDiff];try rfl);done);(iterate 2 (focus rfl));(focus exact ⟨rfl,Nat.le_of_ble_eq_true rfl⟩);(focus (simp only [hh,Nat.reduceAdd];try rfl);done))
      |(apply R_add;(iterate 2 (focus (simp only [ee,Nat.reduceEqDiff];try rfl);done));(iterate 2 (focus omega)))
      |(apply R_sub;(iterate 2 (focus (simp only [ee,Nat.reduceEqDiff];try rfl);done));(iterate 2 (focus omega)))
      |(apply R_quo;(iterate 2 (focus (simp only [ee,Nat.reduceEqDiff];try rfl);done));(iterate 3 (focus omega)))
      |(apply R_rem;(iterate 2 (focus (simp only [ee,Nat.reduceEqDiff];try rfl);done));(iterate 2 (focus omega)))
      |(apply R_ibin;(iterate 2 (focus (simp only [ee,Nat.reduceEqDiff];try rfl);done));(focus rfl))
      |(apply R_un;(focus (simp only [ee,Nat.reduceEqDiff];try rfl);done);(focus rfl))
      |(apply R_pickT;(focus (simp only [ee,Nat.reduceEqDiff];try rfl);done);(focus exact (by first|rfl|assumption));(focus (simp only [ee,Nat.reduceEqDiff];try rfl);done);(focus rfl))
      |(apply R_pickF;(focus (simp only [ee,Nat.reduceEqDiff];try rfl);done);(focus exact (by first|rfl|assumption));(focus (simp only [ee,Nat.reduceEqDiff];try rfl);done);(focus rfl))
      |(apply R_build;(focus (simp only [bInfoAll];try rfl);done);(focus (repeat (first|exact partsC_n|(apply partsC_c;(focus (simp only [ee,Nat.reduceEqDiff];try rfl);done);(focus rfl))));done);(focus rfl))
      |(apply R_buildSlice;(focus (simp only [mkInfoAll];try rfl);done);(focus (repeat (first|exact partsC_n|(apply partsC_c;(focus (simp only [ee,Nat.reduceEqDiff];try rfl);done);(focus rfl))));done);(focus decide);(iterate 2 (focus rfl)))
      |(apply R_append_tip;(focus (simp only [mkInfoAll];try rfl);done);(focus (simp only [ee,Nat.reduceEqDiff];try rfl);done);(focus (first|exact src_row (by (simp only [ee,Nat.reduceEqDiff];first|done|rfl)) rfl (by (simp only [elemSzAll];first|done|rfl)) (by first|rfl|simp)|exact src_nil (by (simp only [ee,Nat.reduceEqDiff];first|done|rfl)) (by (simp only [elemSzAll];first|done|rfl)));done);(focus (simp only [ee,zz,Nat.reduceEqDiff,arrB];try rfl);done);(iterate 2 (focus omega)))
      |(apply R_append_nil;(focus (simp only [mkInfoAll];try rfl);done);(focus (simp only [ee,Nat.reduceEqDiff];try rfl);done);(focus (first|exact src_row (by (simp only [ee,Nat.reduceEqDiff];first|done|rfl)) rfl (by (simp only [elemSzAll];first|done|rfl)) (by first|rfl|simp)|exact src_nil (by (simp only [ee,Nat.reduceEqDiff];first|done|rfl)) (by (simp only [elemSzAll];first|done|rfl)));done);(focus (simp only [ee,zz,Nat.reduceEqDiff,arrB];try rfl);done);(iterate 2 (focus omega)))
      |(apply R_alloc;(focus (simp only [zeroCAll];try rfl);done);(iterate 2 (focus (simp only [hh,Nat.reduceAdd];try rfl);done)))
      |(apply R_box;(focus (simp only [ee,Nat.reduceEqDiff];try rfl);done);(focus rfl);(iterate 2 (focus (simp only [hh,Nat.reduceAdd];try rfl);done)))
      |(apply R_skip;(focus first|exact wantA_f1 rfl rfl rfl (by (simp only [ee,Nat.reduceEqDiff];first|done|rfl)) (by first|rfl|assumption)|exact wantA_f0 rfl rfl rfl (by (simp only [ee,Nat.reduceEqDiff];first|done|rfl)) (by first|rfl|assumption)|exact wantA_und rfl rfl rfl (by (simp only [ee,Nat.reduceEqDiff];first|done|rfl))))
      |((with_reducible apply W_condT);(focus (simp only [ee,Nat.reduceEqDiff];try rfl);done);(focus exact (by first|rfl|assumption)))
      |((with_reducible apply W_condF);(focus (simp only [ee,Nat.reduceEqDiff];try rfl);done);(focus exact (by first|rfl|assumption)))
      |((with_reducible apply W_cond);(focus (simp only [ee,Nat.reduceEqDiff];try rfl);done);(all_goals (intro hbq;(first|(cases hbq;done)|(cases hbq)|(have hpq := of_decide_eq_true hbq)|(have hpq := of_decide_eq_false hbq)|skip))))
      |(apply WR_gsplit;(iterate 3 (focus rfl));(focus (simp only [ee,Nat.reduceEqDiff];try rfl);done);(all_goals (intro hbq;(first|(cases hbq;done)|(cases hbq)|(have hpq := of_decide_eq_true hbq)|(have hpq := of_decide_eq_false hbq)|skip))))
      |((with_reducible apply Ret_i);(focus trivial);(focus rfl);(focus (repeat (first|exact res_nil|(apply res_tmp;(focus (simp only [ee,Nat.reduceEqDiff];try rfl);done);(focus rfl);(focus (simp only [zz];try rfl);done))|(apply res_celln;(focus (simp only [tszAll];try rfl);done);(focus (simp only [ee,Nat.reduceEqDiff];try rfl);done);(focus (simp only [hh,Nat.reduceAdd];try rfl);done);(focus exact Nat.le_of_ble_eq_true rfl);(focus rfl);(focus (simp only [zz];try rfl);done))|(apply res_cell1;(focus (simp only [tszAll];try rfl);done);(focus (simp only [ee,Nat.reduceEqDiff];try rfl);done);(focus (simp only [hh,Nat.reduceAdd];try rfl);done);(focus rfl);(focus (simp only [zz];try rfl);done))));done))
      |((with_reducible apply RetP_i);(focus trivial);(focus rfl);(focus (repeat (first|exact res_nil|(apply res_tmp;(focus (simp only [ee,Nat.reduceEqDiff];try rfl);done);(focus rfl);(focus (simp only [zz];try rfl);done))|(apply res_celln;(focus (simp only [tszAll];try rfl);done);(focus (simp only [ee,Nat.reduceEqDiff];try rfl);done);(focus (simp only [hh,Nat.reduceAdd];try rfl);done);(focus exact Nat.le_of_ble_eq_true rfl);(focus rfl);(focus (simp only [zz];try rfl);done))|(apply res_cell1;(focus (simp only [tszAll];try rfl);done);(focus (simp only [ee,Nat.reduceEqDiff];try rfl);done);(focus (simp only [hh,Nat.reduceAdd];try rfl);done);(focus rfl);(focus (simp only [zz];try rfl);done))));done);(focus (simp only [hh,Nat.reduceAdd];try rfl);done)))
    refine W_loopX (fun i : Nat => St.of [some [.f .nils, .f .nils, .f .nils, .f .nils], some (loopN Cur.stepN A.2 i).2.box, some [.tip 1 (A.1.flatMap fStr) i1, .tip 1 ((loopN Cur.stepN A.2 i).1.flatMap fStr) i, .f .nils, .f .nils]] [(0, aS s), (2, .c (.ptr 0 0)), (5, .c (.ptr 1 0)), (10, .c (.ptr 2 0)), (7, i64 ((c1.af 1).n 1)), (8, i64 (((c1.af 1).af 1).n 1)), (9, i64 ((((c1.af 1).af 1).af 1).n 1)), (12, i64 i)]) (fun i => i ≤ (c1.af 1).n 1) (fun i => (c1.af 1).n 1 - i) 0 2 (fun i : Nat => St.of [some [.f .nils, .f .nils, .f .nils, .f .nils], some (loopN Cur.stepN A.2 i).2.box, some [.tip 1 (A.1.flatMap fStr) i1, .tip 1 ((loopN Cur.stepN A.2 i).1.flatMap fStr) i, .f .nils, .f .nils]] [(0, aS s), (2, .c (.ptr 0 0)), (5, .c (.ptr 1 0)), (10, .c (.ptr 2 0)), (8, i64 (((c1.af 1).af 1).n 1)), (9, i64 ((((c1.af 1).af 1).af 1).n 1))]) (fun i => i ≤ (c1.af 1).n 1 ∧ (i = (c1.af 1).n 1 ∨ (loopN Cur.stepN A.2 i).2.short = true)) ?_ (by omega) (KCl_block KCl_seq) ?_ ?_
    ·
      refine weak_agG (by (simp only [hh,Nat.reduceAdd];first|done|rfl)) (Nat.le_of_ble_eq_true rfl) (Nat.le_of_ble_eq_true rfl) rfl rfl ?_ ?_;(focus (simp only [List.length_cons,List.length_nil,Nat.zero_add,Nat.reduceAdd,List.take_succ_cons,List.take_zero,List.take_nil]));(repeat' (first|exact LeH.nil|(with_reducible apply LeH.some)|(with_reducible apply LeH.none)|(with_reducible exact LeL.refl _)|exact LeL.nil|(with_reducible apply LeL.cons)|(with_reducible exact CVal.Le.refl _)|(with_reducible exact CVal.Le.nil_row)|(with_reducible exact CVal.Le.nil_tip _)|(with_reducible exact CVal.Le.tip_row _ _ _)|(exact CVal.Le.nil_row)|(exact CVal.Le.nil_tip _)|(with_reducible apply CVal.Le.of_eq)|(with_reducible apply LeL.of_eq)))
      (repeat' (first|exact trivial|(refine And.intro ?_ ?_)|(refine ⟨_, by (simp only [ee,Nat.reduceEqDiff];first|done|rfl), ?_⟩)|(first|(with_reducible exact LeS.refl _)|(with_reducible exact LeS.nil_row)|(with_reducible exact LeS.nil_tip _)|(with_reducible exact LeS.tip_row _ _ _)|(exact LeS.nil_row)|(exact LeS.nil_tip _)|(refine LeS.of_eq ?_))));(all_goals (try rfl))
    · intro i2 l2
      have hcB := loopN_ok stepN_ok hcA i2
      obtain ⟨B, eB⟩ : ∃ B, loopN Cur.stepN A.2 i2 = B := ⟨_, rfl⟩
      rw [eB] at hcB
      simp only [i64, aS, eB]
      repeat' (first
        |with_reducible refine WR_pp ?_
        |with_reducible refine WR_pd ?_
        |with_reducible refine W_seq ?_
        |with_reducible refine seqK_n ?_
        |with_reducible refine seqK_r ?_
        |with_reducible refine seqK_e ?_
        |with_reducible refine W_block ?_
        |with_reducible refine blockK_n ?_
        |with_reducible refine blockK_e rfl ?_
        |with_reducible refine blockK_r ?_
        |with_reducible refine blockK_o (by decide) ?_
        |with_reducible refine LoopK_e ?_
        |with_reducible refine LoopK_r ?_
        |with_reducible refine LoopX_e (by decide) ?_
        |with_reducible refine LoopX_r ?_
        |with_reducible refine W_skip ?_
        |with_reducible refine W_exit ?_
        |with_reducible refine W_ret ?_
        |with_reducible refine W_region (WOps_WR ?_)
        |with_reducible refine W_draw (WOpsD_WR ?_)
        |with_reducible refine WR_nil ?_
        |(apply R_callB Cur.box curD;(focus rfl);(focus (apply Eq.trans;(focus (repeat (first|exact args_n|(apply args_c;(focus (simp only [ee,Nat.reduceEqDiff];try rfl);done))));done);(focus (simp only [zz];try rfl);done)));(focus (simp only [hh,Nat.reduceAdd];try rfl);done);(focus exact (rd_name _ (by repeat (first | assumption | apply Cur.af_ok | apply Cur.afn_ok))));(iterate 2 (focus rfl));(focus (simp only [hh,Nat.reduceAdd];try rfl);done))
        |(apply WR_nilD;(focus kernel_rfl))
        |(apply R_want;(focus exact wantA_t rfl rfl rfl (by (simp only [ee,Nat.reduceEqDiff];first|done|rfl)) (by first|rfl|assumption)))
        |(apply R_move;(focus (simp only [ee,Nat.reduceEqDiff];try rfl);done);(focus rfl))
        |(apply R_assign;(focus (simp only [ee,Nat.reduceEqDiff];try rfl);done);(focus rfl))
        |(apply R_assign_tip;(focus (simp only [ee,Nat.reduceEqDiff];try rfl);done))
        |(apply R_move_tip;(focus rfl);(focus (simp only [ee,Nat.reduceEqDiff];try rfl);done))
        |(apply R_move_row;(focus rfl);(focus (simp only [ee,Nat.reduceEqDiff];try rfl);done))
        |(apply R_nil_ptr;(focus (simp only [ee,Nat.reduceEqDiff];try rfl);done))
        |(apply R_fa_ptr;(focus (simp only [fldOffAll];try rfl);done);(focus (simp only [ee,Nat.reduceEqDiff];try rfl);done);(focus (simp only [Nat.reduceAdd,Nat.zero_add,Nat.reduceMul];try rfl);done))
        |(apply R_load_tip;(focus rfl);(focus (simp only [tszAll];try rfl);done);(focus (simp only [ee,Nat.reduceEqDiff];try rfl);done);(focus (simp only [hh,Nat.reduceAdd];try rfl);done);(focus rfl);(focus (simp only [hh,Nat.reduceAdd];try rfl);done))
        |(apply R_load_ptr1;(focus (simp only [tszAll];try rfl);done);(focus (simp only [ee,Nat.reduceEqDiff];try rfl);done);(focus (simp only [hh,Nat.reduceAdd];try rfl);done);(iterate 2 (focus rfl)))
        |(apply R_load_dem;(focus rfl);(focus (simp only [tszAll];try rfl);done);(focus (simp only [ee,Nat.reduceEqDiff];try rfl);done);(focus (simp only [hh,Nat.reduceAdd];try rfl);done);(focus rfl))
        |(apply R_load_ptrn;(focus (simp only [tszAll];try rfl);done);(focus (simp only [ee,Nat.reduceEqDiff];try rfl);done);(focus (simp only [hh,Nat.reduceAdd];try rfl);done);(focus exact Nat.le_of_ble_eq_true rfl);(focus rfl))
        |(apply R_store_tip;(focus (simp only [tszAll];try rfl);done);(focus (simp only [ee,Nat.reduceEqDiff];try rfl);done);(focus (simp only [hh,Nat.reduceAdd];try rfl);done);(focus (simp only [ee,Nat.reduceEqDiff];try rfl);done);(focus rfl);(focus (simp only [hh,Nat.reduceAdd];try rfl);done))
        |(apply R_store;(focus (simp only [tszAll];try rfl);done);(focus (simp only [ee,Nat.reduceEqDiff];try rfl);done);(focus (simp only [hh,Nat.reduceAdd];try rfl);done);(focus (simp only [ee,Nat.reduceEqDiff];try rfl);done);(iterate 2 (focus rfl));(focus exact ⟨rfl,Nat.le_of_ble_eq_true rfl⟩);(focus (simp only [hh,Nat.reduceAdd];try rfl);done))
        |(apply R_add;(iterate 2 (focus (simp only [ee,Nat.reduceEqDiff];try rfl);done));(iterate 2 (focus omega)))
        |(apply R_sub;(iterate 2 (focus (simp only [ee,Nat.reduceEqDiff];try rfl);done));(iterate 2 (focus omega)))
        |(apply R_quo;(iterate 2 (focus (simp only [ee,Nat.reduceEqDiff];try rfl);done));(iterate 3 (focus omega)))
        |(apply R_rem;(iterate 2 (focus (simp only [ee,Nat.reduceEqDiff];try rfl);done));(iterate 2 (focus omega)))
        |(apply R_ibin;(iterate 2 (focus (simp only [ee,Nat.reduceEqDiff];try rfl);done));(focus rfl))
        |(apply R_un;(focus (simp only [ee,Nat.reduceEqDiff];try rfl);done);(focus rfl))
        |(apply R_pickT;(focus (simp only [ee,Nat.reduceEqDiff];try rfl);done);(focus exact (by first|rfl|assumption));(focus (simp only [ee,Nat.reduceEqDiff];try rfl);done);(focus rfl))
        |(apply R_pickF;(focus (simp only [ee,Nat.reduceEqDiff];try rfl);done);(focus exact (by first|rfl|assumption));(focus (simp only [ee,Nat.reduceEqDiff];try rfl);done);(focus rfl))
        |(apply R_build;(focus (simp only [bInfoAll];try rfl);done);(focus (repeat (first|exact partsC_n|(apply partsC_c;(focus (simp only [ee,Nat.reduceEqDiff];try rfl);done);(focus rfl))));done);(focus rfl))
        |(apply R_buildSlice;(focus (simp only [mkInfoAll];try rfl);done);(focus (repeat (first|exact partsC_n|(apply partsC_c;(focus (simp only [ee,Nat.reduceEqDiff];try rfl);done);(focus rfl))));done);(focus decide);(iterate 2 (focus rfl)))
        |(apply R_append_tip;(focus (simp only [mkInfoAll];try rfl);done);(focus (simp only [ee,Nat.reduceEqDiff];try rfl);done);(focus (first|exact src_row (by (simp only [ee,Nat.reduceEqDiff];first|done|rfl)) rfl (by (simp only [elemSzAll];first|done|rfl)) (by first|rfl|simp)|exact src_nil (by (simp only [ee,Nat.reduceEqDiff];first|done|rfl)) (by (simp only [elemSzAll];first|done|rfl)));done);(focus (simp only [ee,zz,Nat.reduceEqDiff,arrB];try rfl);done);(iterate 2 (focus omega)))
        |(apply R_append_nil;(focus (simp only [mkInfoAll];try rfl);done);(focus (simp only [ee,Nat.reduceEqDiff];try rfl);done);(focus (first|exact src_row (by (simp only [ee,Nat.reduceEqDiff];first|done|rfl)) rfl (by (simp only [elemSzAll];first|done|rfl)) (by first|rfl|simp)|exact src_nil (by (simp only [ee,Nat.reduceEqDiff];first|done|rfl)) (by (simp only [elemSzAll];first|done|rfl)));done);(focus (simp only [ee,zz,Nat.reduceEqDiff,arrB];try rfl);done);(iterate 2 (focus omega)))
        |(apply R_alloc;(focus (simp only [zeroCAll];try rfl);done);(iterate 2 (focus (simp only [hh,Nat.reduceAdd];try rfl);done)))
        |(apply R_box;(focus (simp only [ee,Nat.reduceEqDiff];try rfl);done);(focus rfl);(iterate 2 (focus (simp only [hh,Nat.reduceAdd];try rfl);done)))
        |(apply R_skip;(focus first|exact wantA_f1 rfl rfl rfl (by (simp only [ee,Nat.reduceEqDiff];first|done|rfl)) (by first|rfl|assumption)|exact wantA_f0 rfl rfl rfl (by (simp only [ee,Nat.reduceEqDiff];first|done|rfl)) (by first|rfl|assumption)|exact wantA_und rfl rfl rfl (by (simp only [ee,Nat.reduceEqDiff];first|done|rfl))))
        |((with_reducible apply W_condT);(focus (simp only [ee,Nat.reduceEqDiff];try rfl);done);(focus exact (by first|rfl|assumption)))
        |((with_reducible apply W_condF);(focus (simp only [ee,Nat.reduceEqDiff];try rfl);done);(focus exact (by first|rfl|assumption)))
        |((with_reducible apply W_cond);(focus (simp only [ee,Nat.reduceEqDiff];try rfl);done);(all_goals (intro hbq;(first|(cases hbq;done)|(cases hbq)|(have hpq := of_decide_eq_true hbq)|(have hpq := of_decide_eq_false hbq)|skip))))
        |(apply WR_gsplit;(iterate 3 (focus rfl));(focus (simp only [ee,Nat.reduceEqDiff];try rfl);done);(all_goals (intro hbq;(first|(cases hbq;done)|(cases hbq)|(have hpq := of_decide_eq_true hbq)|(have hpq := of_decide_eq_false hbq)|skip))))
        |((with_reducible apply Ret_i);(focus trivial);(focus rfl);(focus (repeat (first|exact res_nil|(apply res_tmp;(focus (simp only [ee,Nat.reduceEqDiff];try rfl);done);(focus rfl);(focus (simp only [zz];try rfl);done))|(apply res_celln;(focus (simp only [tszAll];try rfl);done);(focus (simp only [ee,Nat.reduceEqDiff];try rfl);done);(focus (simp only [hh,Nat.reduceAdd];try rfl);done);(focus exact Nat.le_of_ble_eq_true rfl);(focus rfl);(focus (simp only [zz];try rfl);done))|(apply res_cell1;(focus (simp only [tszAll];try rfl);done);(focus (simp only [ee,Nat.reduceEqDiff];try rfl);done);(focus (simp only [hh,Nat.reduceAdd];try rfl);done);(focus rfl);(focus (simp only [zz];try rfl);done))));done))
        |((with_reducible apply RetP_i);(focus trivial);(focus rfl);(focus (repeat (first|exact res_nil|(apply res_tmp;(focus (simp only [ee,Nat.reduceEqDiff];try rfl);done);(focus rfl);(focus (simp only [zz];try rfl);done))|(apply res_celln;(focus (simp only [tszAll];try rfl);done);(focus (simp only [ee,Nat.reduceEqDiff];try rfl);done);(focus (simp only [hh,Nat.reduceAdd];try rfl);done);(focus exact Nat.le_of_ble_eq_true rfl);(focus rfl);(focus (simp only [zz];try rfl);done))|(apply res_cell1;(focus (simp only [tszAll];try rfl);done);(focus (simp only [ee,Nat.reduceEqDiff];try rfl);done);(focus (simp only [hh,Nat.reduceAdd];try rfl);done);(focus rfl);(focus (simp only [zz];try rfl);done))));done);(focus (simp only [hh,Nat.reduceAdd];try rfl);done)))
      ·
        refine LoopX_n (i2 + 1) ?_ ?_ ?_
        rotate_left
        · (try dsimp only); omega
        · (try dsimp only); omega
        refine weak_agG (by (simp only [hh,Nat.reduceAdd];first|done|rfl)) (Nat.le_of_ble_eq_true rfl) (Nat.le_of_ble_eq_true rfl) rfl rfl ?_ ?_;(focus (simp only [List.length_cons,List.length_nil,Nat.zero_add,Nat.reduceAdd,List.take_succ_cons,List.take_zero,List.take_nil]));(repeat' (first|exact LeH.nil|(with_reducible apply LeH.some)|(with_reducible apply LeH.none)|(with_reducible exact LeL.refl _)|exact LeL.nil|(with_reducible apply LeL.cons)|(with_reducible exact CVal.Le.refl _)|(with_reducible exact CVal.Le.nil_row)|(with_reducible exact CVal.Le.nil_tip _)|(with_reducible exact CVal.Le.tip_row _ _ _)|(exact CVal.Le.nil_row)|(exact CVal.Le.nil_tip _)|(with_reducible apply CVal.Le.of_eq)|(with_reducible apply LeL.of_eq)))
        (repeat' (first|exact trivial|(refine And.intro ?_ ?_)|(refine ⟨_, by (simp only [ee,Nat.reduceEqDiff];first|done|rfl), ?_⟩)|(first|(with_reducible exact LeS.refl _)|(with_reducible exact LeS.nil_row)|(with_reducible exact LeS.nil_tip _)|(with_reducible exact LeS.tip_row _ _ _)|(exact LeS.nil_row)|(exact LeS.nil_tip _)|(refine LeS.of_eq ?_))));(all_goals (try rfl))
        all_goals (simp [loopN, eB, Cur.stepN, fStr, fS]; done)
      ·
        refine LoopX_x (i2) rfl ?_ ?_
        rotate_left
        · exact ⟨l2, .inr (by rw [eB]; simpa using hbq)⟩
        refine weak_agG (by (simp only [hh,Nat.reduceAdd];first|done|rfl)) (Nat.le_of_ble_eq_true rfl) (Nat.le_of_ble_eq_true rfl) rfl rfl ?_ ?_;(focus (simp only [List.length_cons,List.length_nil,Nat.zero_add,Nat.reduceAdd,List.take_succ_cons,List.take_zero,List.take_nil]));(repeat' (first|exact LeH.nil|(with_reducible apply LeH.some)|(with_reducible apply LeH.none)|(with_reducible exact LeL.refl _)|exact LeL.nil|(with_reducible apply LeL.cons)|(with_reducible exact CVal.Le.refl _)|(with_reducible exact CVal.Le.nil_row)|(with_reducible exact CVal.Le.nil_tip _)|(with_reducible exact CVal.Le.tip_row _ _ _)|(exact CVal.Le.nil_row)|(exact CVal.Le.nil_tip _)|(with_reducible apply CVal.Le.of_eq)|(with_reducible apply LeL.of_eq)))
        (repeat' (first|exact trivial|(refine And.intro ?_ ?_)|(refine ⟨_, by (simp only [ee,Nat.reduceEqDiff];first|done|rfl), ?_⟩)|(first|(with_reducible exact LeS.refl _)|(with_reducible exact LeS.nil_row)|(with_reducible exact LeS.nil_tip _)|(with_reducible exact LeS.tip_row _ _ _)|(exact LeS.nil_row)|(exact LeS.nil_tip _)|(refine LeS.of_eq ?_))));(all_goals (try rfl))
        all_goals (simp [eB]; done)
      ·
        refine LoopX_x (i2) rfl ?_ ?_
        rotate_left
        · exact ⟨l2, .inl (by omega)⟩
        refine weak_agG (by (simp only [hh,Nat.reduceAdd];first|done|rfl)) (Nat.le_of_ble_eq_true rfl) (Nat.le_of_ble_eq_true rfl) rfl rfl ?_ ?_;(focus (simp only [List.length_cons,List.length_nil,Nat.zero_add,Nat.reduceAdd,List.take_succ_cons,List.take_zero,List.take_nil]));(repeat' (first|exact LeH.nil|(with_reducible apply LeH.some)|(with_reducible apply LeH.none)|(with_reducible exact LeL.refl _)|exact LeL.nil|(with_reducible apply LeL.cons)|(with_reducible exact CVal.Le.refl _)|(with_reducible exact CVal.Le.nil_row)|(with_reducible exact CVal.Le.nil_tip _)|(with_reducible exact CVal.Le.tip_row _ _ _)|(exact CVal.Le.nil_row)|(exact CVal.Le.nil_tip _)|(with_reducible apply CVal.Le.of_eq)|(with_reducible apply LeL.of_eq)))
        (repeat' (first|exact trivial|(refine And.intro ?_ ?_)|(refine ⟨_, by (simp only [ee,Nat.reduceEqDiff];first|done|rfl), ?_⟩)|(first|(with_reducible exact LeS.refl _)|(with_reducible exact LeS.nil_row)|(with_reducible exact LeS.nil_tip _)|(with_reducible exact LeS.tip_row _ _ _)|(exact LeS.nil_row)|(exact LeS.nil_tip _)|(refine LeS.of_eq ?_))));(all_goals (try rfl))
        all_goals (simp [eB]; done)
    intro i2 hX2
    obtain ⟨l2, x2⟩ := hX2
    have hcB := loopN_ok stepN_ok hcA i2
    revert x2 hcB
    obtain ⟨B, eB⟩ : ∃ B, loopN Cur.stepN A.2 i2 = B := ⟨_, rfl⟩
    rw [eB]
    intro x2 hcB
    simp only [i64, aS]
    repeat' (first
      |with_reducible refine WR_pp ?_
      |with_reducible refine WR_pd ?_
      |with_reducible refine W_seq ?_
      |with_reducible refine seqK_n ?_
      |with_reducible refine seqK_r ?_
      |with_reducible refine seqK_e ?_
      |with_reducible refine W_block ?_
      |with_reducible refine blockK_n ?_
      |with_reducible refine blockK_e rfl ?_
      |with_reducible refine blockK_r ?_
      |with_reducible refine blockK_o (by decide) ?_
      |with_reducible refine LoopK_e ?_
      |with_reducible refine LoopK_r ?_
      |with_reducible refine LoopX_e (by decide) ?_
      |with_reducible refine LoopX_r ?_
      |with_reducible refine W_skip ?_
      |with_reducible refine W_exit ?_
      |with_reducible refine W_ret ?_
      |with_reducible refine W_region (WOps_WR ?_)
      |with_reducible refine W_draw (WOpsD_WR ?_)
      |with_reducible refine WR_nil ?_
      |(apply WR_nilD;(focus kernel_rfl))
      |(apply R_want;(focus exact wantA_t rfl rfl rfl (by (simp only [ee,Nat.reduceEqDiff];first|done|rfl)) (by first|rfl|assumption)))
      |(apply R_move;(focus (simp only [ee,Nat.reduceEqDiff];try rfl);done);(focus rfl))
      |(apply R_assign;(focus (simp only [ee,Nat.reduceEqDiff];try rfl);done);(focus rfl))
      |(apply R_assign_tip;(focus (simp only [ee,Nat.reduceEqDiff];try rfl);done))
      |(apply R_move_tip;(focus rfl);(focus (simp only [ee,Nat.reduceEqDiff];try rfl);done))
      |(apply R_move_row;(focus rfl);(focus (simp only [ee,Nat.reduceEqDiff];try rfl);done))
      |(apply R_nil_ptr;(focus (simp only [ee,Nat.reduceEqDiff];try rfl);done))
      |(apply R_fa_ptr;(focus (simp only [fldOffAll];try rfl);done);(focus (simp only [ee,Nat.reduceEqDiff];try rfl);done);(focus (simp only [Nat.reduceAdd,Nat.zero_add,Nat.reduceMul];try rfl);done))
      |(apply R_load_tip;(focus rfl);(focus (simp only [tszAll];try rfl);done);(focus (simp only [ee,Nat.reduceEqDiff];try rfl);done);(focus (simp only [hh,Nat.reduceAdd];try rfl);done);(focus rfl);(focus (simp only [hh,Nat.reduceAdd];try rfl);done))
      |(apply R_load_ptr1;(focus (simp only [tszAll];try rfl);done);(focus (simp only [ee,Nat.reduceEqDiff];try rfl);done);(focus (simp only [hh,Nat.reduceAdd];try rfl);done);(iterate 2 (focus rfl)))
      |(apply R_load_dem;(focus rfl);(focus (simp only [tszAll];try rfl);done);(focus (simp only [ee,Nat.reduceEqDiff];try rfl);done);(focus (simp only [hh,Nat.reduceAdd];try rfl);done);(focus rfl))
      |(apply R_load_ptrn;(focus (simp only [tszAll];try rfl);done);(focus (simp only [ee,Nat.reduceEqDiff];try rfl);done);(focus (simp only [hh,Nat.reduceAdd];try rfl);done);(focus exact Nat.le_of_ble_eq_true rfl);(focus rfl))
      |(apply R_store_tip;(focus (simp only [tszAll];try rfl);done);(focus (simp only [ee,Nat.reduceEqDiff];try rfl);done);(focus (simp only [hh,Nat.reduceAdd];try rfl);done);(focus (simp only [ee,Nat.reduceEqDiff];try rfl);done);(focus rfl);(focus (simp only [hh,Nat.reduceAdd];try rfl);done))
      |(apply R_store;(focus (simp only [tszAll];try rfl);done);(focus (simp only [ee,Nat.reduceEqDiff];try rfl);done);(focus (simp only [hh,Nat.reduceAdd];try rfl);done);(focus (simp only [ee,Nat.reduceEqDiff];try rfl);done);(iterate 2 (focus rfl));(focus exact ⟨rfl,Nat.le_of_ble_eq_true rfl⟩);(focus (simp only [hh,Nat.reduceAdd];try rfl);done))
      |(apply R_add;(iterate 2 (focus (simp only [ee,Nat.reduceEqDiff];try rfl);done));(iterate 2 (focus omega)))
      |(apply R_sub;(iterate 2 (focus (simp only [ee,Nat.reduceEqDiff];try rfl);done));(iterate 2 (focus omega)))
      |(apply R_quo;(iterate 2 (focus (simp only [ee,Nat.reduceEqDiff];try rfl);done));(iterate 3 (focus omega)))
      |(apply R_rem;(iterate 2 (focus (simp only [ee,Nat.reduceEqDiff];try rfl);done));(iterate 2 (focus omega)))
      |(apply R_ibin;(iterate 2 (focus (simp only [ee,Nat.reduceEqDiff];try rfl);done));(focus rfl))
      |(apply R_un;(focus (simp only [ee,Nat.reduceEqDiff];try rfl);done);(focus rfl))
      |(apply R_pickT;(focus (simp only [ee,Nat.reduceEqDiff];try rfl);done);(focus exact (by first|rfl|assumption));(focus (simp only [ee,Nat.reduceEqDiff];try rfl);done);(focus rfl))
      |(apply R_pickF;(focus (simp only [ee,Nat.reduceEqDiff];try rfl);done);(focus exact (by first|rfl|assumption));(focus (simp only [ee,Nat.reduceEqDiff];try rfl);done);(focus rfl))
      |(apply R_build;(focus (simp only [bInfoAll];try rfl);done);(focus (repeat (first|exact partsC_n|(apply partsC_c;(focus (simp only [ee,Nat.reduceEqDiff];try rfl);done);(focus rfl))));done);(focus rfl))
      |(apply R_buildSlice;(focus (simp only [mkInfoAll];try rfl);done);(focus (repeat (first|exact partsC_n|(apply partsC_c;(focus (simp only [ee,Nat.reduceEqDiff];try rfl);done);(focus rfl))));done);(focus decide);(iterate 2 (focus rfl)))
      |(apply R_append_tip;(focus (simp only [mkInfoAll];try rfl);done);(focus (simp only [ee,Nat.reduceEqDiff];try rfl);done);(focus (first|exact src_row (by (simp only [ee,Nat.reduceEqDiff];first|done|rfl)) rfl (by (simp only [elemSzAll];first|done|rfl)) (by first|rfl|simp)|exact src_nil (by (simp only [ee,Nat.reduceEqDiff];first|done|rfl)) (by (simp only [elemSzAll];first|done|rfl)));done);(focus (simp only [ee,zz,Nat.reduceEqDiff,arrB];try rfl);done);(iterate 2 (focus omega)))
      |(apply R_append_nil;(focus (simp only [mkInfoAll];try rfl);done);(focus (simp only [ee,Nat.reduceEqDiff];try rfl);done);(focus (first|exact src_row (by (simp only [ee,Nat.reduceEqDiff];first|done|rfl)) rfl (by (simp only [elemSzAll];first|done|rfl)) (by first|rfl|simp)|exact src_nil (by (simp only [ee,Nat.reduceEqDiff];first|done|rfl)) (by (simp only [elemSzAll];first|done|rfl)));done);(focus (simp only [ee,zz,Nat.reduceEqDiff,arrB];try rfl);done);(iterate 2 (focus omega)))
      |(apply R_alloc;(focus (simp only [zeroCAll];try rfl);done);(iterate 2 (focus (simp only [hh,Nat.reduceAdd];try rfl);done)))
      |(apply R_box;(focus (simp only [ee,Nat.reduceEqDiff];try rfl);done);(focus rfl);(iterate 2 (focus (simp only [hh,Nat.reduceAdd];try rfl);done)))
      |(apply R_skip;(focus first|exact wantA_f1 rfl rfl rfl (by (simp only [ee,Nat.reduceEqDiff];first|done|rfl)) (by first|rfl|assumption)|exact wantA_f0 rfl rfl rfl (by (simp only [ee,Nat.reduceEqDiff];first|done|rfl)) (by first|rfl|assumption)|exact wantA_und rfl rfl rfl (by (simp only [ee,Nat.reduceEqDiff];first|done|rfl))))
      |((with_reducible apply W_condT);(focus (simp only [ee,Nat.reduceEqDiff];try rfl);done);(focus exact (by first|rfl|assumption)))
      |((with_reducible apply W_condF);(focus (simp only [ee,Nat.reduceEqDiff];try rfl);done);(focus exact (by first|rfl|assumption)))
      |((with_reducible apply W_cond);(focus (simp only [ee,Nat.reduceEqDiff];try rfl);done);(all_goals (intro hbq;(first|(cases hbq;done)|(cases hbq)|(have hpq := of_decide_eq_true hbq)|(have hpq := of_decide_eq_false hbq)|skip))))
      |(apply WR_gsplit;(iterate 3 (focus rfl));(focus (simp only [ee,Nat.reduceEqDiff];try rfl);done);(all_goals (intro hbq;(first|(cases hbq;done)|(cases hbq)|(have hpq := of_decide_eq_true hbq)|(have hpq := of_decide_eq_false hbq)|skip))))
      |((with_reducible apply Ret_i);(focus trivial);(focus rfl);(focus (repeat (first|exact res_nil|(apply res_tmp;(focus (simp only [ee,Nat.reduceEqDiff];try rfl);done);(focus rfl);(focus (simp only [zz];try rfl);done))|(apply res_celln;(focus (simp only [tszAll];try rfl);done);(focus (simp only [ee,Nat.reduceEqDiff];try rfl);done);(focus (simp only [hh,Nat.reduceAdd];try rfl);done);(focus exact Nat.le_of_ble_eq_true rfl);(focus rfl);(focus (simp only [zz];try rfl);done))|(apply res_cell1;(focus (simp only [tszAll];try rfl);done);(focus (simp only [ee,Nat.reduceEqDiff];try rfl);done);(focus (simp only [hh,Nat.reduceAdd];try rfl);done);(focus rfl);(focus (simp only [zz];try rfl);done))));done))
      |((with_reducible apply RetP_i);(focus trivial);(focus rfl);(focus (repeat (first|exact res_nil|(apply res_tmp;(focus (simp only [ee,Nat.reduceEqDiff];try rfl);done);(focus rfl);(focus (simp only [zz];try rfl);done))|(apply res_celln;(focus (simp only [tszAll];try rfl);done);(focus (simp only [ee,Nat.reduceEqDiff];try rfl);done);(focus (simp only [hh,Nat.reduceAdd];try rfl);done);(focus exact Nat.le_of_ble_eq_true rfl);(focus rfl);(focus (simp only [zz];try rfl);done))|(apply res_cell1;(focus (simp only [tszAll];try rfl);done);(focus (simp only [ee,Nat.reduceEqDiff];try rfl);done);(focus (simp only [hh,Nat.reduceAdd];try rfl);done);(focus rfl);(focus (simp only [zz];try rfl);done))));done);(focus (simp only [hh,Nat.reduceAdd];try rfl);done)))
    refine W_loopX (fun i : Nat => St.of [some [.f .nils, .f .nils, .f .nils, .f .nils], some (loopN Cur.stepS B.2 i).2.box, some [.tip 1 (A.1.flatMap fStr) i1, .tip 1 (B.1.flatMap fStr) i2, .tip 5 ((loopN Cur.stepS B.2 i).1.flatMap fSec) i, .f .nils]] [(0, aS s), (2, .c (.ptr 0 0)), (5, .c (.ptr 1 0)), (10, .c (.ptr 2 0)), (8, i64 (((c1.af 1).af 1).n 1)), (9, i64 ((((c1.af 1).af 1).af 1).n 1)), (13, i64 i)]) (fun i => i ≤ ((c1.af 1).af 1).n 1) (fun i => ((c1.af 1).af 1).n 1 - i) 0 4 (fun i : Nat => St.of [some [.f .nils, .f .nils, .f .nils, .f .nils], some (loopN Cur.stepS B.2 i).2.box, some [.tip 1 (A.1.flatMap fStr) i1, .tip 1 (B.1.flatMap fStr) i2, .tip 5 ((loopN Cur.stepS B.2 i).1.flatMap fSec) i, .f .nils]] [(0, aS s), (2, .c (.ptr 0 0)), (5, .c (.ptr 1 0)), (10, .c (.ptr 2 0)), (9, i64 ((((c1.af 1).af 1).af 1).n 1))]) (fun i => i ≤ ((c1.af 1).af 1).n 1 ∧ (i = ((c1.af 1).af 1).n 1 ∨ (loopN Cur.stepS B.2 i).2.short = true)) ?_ (by omega) (KCl_block KCl_seq) ?_ ?_
    ·
      refine weak_agG (by (simp only [hh,Nat.reduceAdd];first|done|rfl)) (Nat.le_of_ble_eq_true rfl) (Nat.le_of_ble_eq_true rfl) rfl rfl ?_ ?_;(focus (simp only [List.length_cons,List.length_nil,Nat.zero_add,Nat.reduceAdd,List.take_succ_cons,List.take_zero,List.take_nil]));(repeat' (first|exact LeH.nil|(with_reducible apply LeH.some)|(with_reducible apply LeH.none)|(with_reducible exact LeL.refl _)|exact LeL.nil|(with_reducible apply LeL.cons)|(with_reducible exact CVal.Le.refl _)|(with_reducible exact CVal.Le.nil_row)|(with_reducible exact CVal.Le.nil_tip _)|(with_reducible exact CVal.Le.tip_row _ _ _)|(exact CVal.Le.nil_row)|(exact CVal.Le.nil_tip _)|(with_reducible apply CVal.Le.of_eq)|(with_reducible apply LeL.of_eq)))
      (repeat' (first|exact trivial|(refine And.intro ?_ ?_)|(refine ⟨_, by (simp only [ee,Nat.reduceEqDiff];first|done|rfl), ?_⟩)|(first|(with_reducible exact LeS.refl _)|(with_reducible exact LeS.nil_row)|(with_reducible exact LeS.nil_tip _)|(with_reducible exact LeS.tip_row _ _ _)|(exact LeS.nil_row)|(exact LeS.nil_tip _)|(refine LeS.of_eq ?_))));(all_goals (try rfl))
    · intro i3 l3
      have hcC := loopN_ok stepS_ok hcB i3
      obtain ⟨C, eC⟩ : ∃ C, loopN Cur.stepS B.2 i3 = C := ⟨_, rfl⟩
      rw [eC] at hcC
      have m1 := ((C.2.afn.af 2).af 3).n1
      have m2 := (((C.2.afn.af 2).af 3).af 1).n1
      simp only [i64, aS, eC]
      repeat' (first
        |with_reducible refine WR_pp ?_
        |with_reducible refine WR_pd ?_
        |with_reducible refine W_seq ?_
        |with_reducible refine seqK_n ?_
        |with_reducible refine seqK_r ?_
        |with_reducible refine seqK_e ?_
        |with_reducible refine W_block ?_
        |with_reducible refine blockK_n ?_
        |with_reducible refine blockK_e rfl ?_
        |with_reducible refine blockK_r ?_
        |with_reducible refine blockK_o (by decide) ?_
        |with_reducible refine LoopK_e ?_
        |with_reducible refine LoopK_r ?_
        |with_reducible refine LoopX_e (by decide) ?_
        |with_reducible refine LoopX_r ?_
        |with_reducible refine W_skip ?_
        |with_reducible refine W_exit ?_
        |with_reducible refine W_ret ?_
        |with_reducible refine W_region (WOps_WR ?_)
        |with_reducible refine W_draw (WOpsD_WR ?_)
        |with_reducible refine WR_nil ?_
        |(apply R_callB Cur.box curD;(focus rfl);(focus (apply Eq.trans;(focus (repeat (first|exact args_n|(apply args_c;(focus (simp only [ee,Nat.reduceEqDiff];try rfl);done))));done);(focus (simp only [zz];try rfl);done)));(focus (simp only [hh,Nat.reduceAdd];try rfl);done);(focus exact (rd_name _ (by repeat (first | assumption | apply Cur.af_ok | apply Cur.afn_ok))));(iterate 2 (focus rfl));(focus (simp only [hh,Nat.reduceAdd];try rfl);done))
        |(apply R_callB Cur.box curD;(focus rfl);(focus (apply Eq.trans;(focus (repeat (first|exact args_n|(apply args_c;(focus (simp only [ee,Nat.reduceEqDiff];try rfl);done))));done);(focus (simp only [zz];try rfl);done)));(focus (simp only [hh,Nat.reduceAdd];try rfl);done);(focus exact (rd_number _ 2 (by repeat (first | assumption | apply Cur.af_ok | apply Cur.afn_ok)) (by decide)));(iterate 2 (focus rfl));(focus (simp only [hh,Nat.reduceAdd];try rfl);done))
        |(apply R_callB Cur.box curD;(focus rfl);(focus (apply Eq.trans;(focus (repeat (first|exact args_n|(apply args_c;(focus (simp only [ee,Nat.reduceEqDiff];try rfl);done))));done);(focus (simp only [zz];try rfl);done)));(focus (simp only [hh,Nat.reduceAdd];try rfl);done);(focus exact (rd_number _ 3 (by repeat (first | assumption | apply Cur.af_ok | apply Cur.afn_ok)) (by decide)));(iterate 2 (focus rfl));(focus (simp only [hh,Nat.reduceAdd];try rfl);done))
        |(apply R_callB Cur.box curD;(focus rfl);(focus (apply Eq.trans;(focus (repeat (first|exact args_n|(apply args_c;(focus (simp only [ee,Nat.reduceEqDiff];try rfl);done))));done);(focus (simp only [zz];try rfl);done)));(focus (simp only [hh,Nat.reduceAdd];try rfl);done);(focus exact (rd_number _ 1 (by repeat (first | assumption | apply Cur.af_ok | apply Cur.afn_ok)) (by decide)));(iterate 2 (focus rfl));(focus (simp only [hh,Nat.reduceAdd];try rfl);done))
        |(apply WR_nilD;(focus kernel_rfl))
        |(apply R_want;(focus exact wantA_t rfl rfl rfl (by (simp only [ee,Nat.reduceEqDiff];first|done|rfl)) (by first|rfl|assumption)))
        |(apply R_move;(focus (simp only [ee,Nat.reduceEqDiff];try rfl);done);(focus rfl))
        |(apply R_assign;(focus (simp only [ee,Nat.reduceEqDiff];try rfl);done);(focus rfl))
        |(apply R_assign_tip;(focus (simp only [ee,Nat.reduceEqDiff];try rfl);done))
        |(apply R_move_tip;(focus rfl);(focus (simp only [ee,Nat.reduceEqDiff];try rfl);done))
        |(apply R_move_row;(focus rfl);(focus (simp only [ee,Nat.reduceEqDiff];try rfl);done))
        |(apply R_nil_ptr;(focus (simp only [ee,Nat.reduceEqDiff];try rfl);done))
        |(apply R_fa_ptr;(focus (simp only [fldOffAll];try rfl);done);(focus (simp only [ee,Nat.reduceEqDiff];try rfl);done);(focus (simp only [Nat.reduceAdd,Nat.zero_add,Nat.reduceMul];try rfl);done))
        |(apply R_load_tip;(focus rfl);(focus (simp only [tszAll];try rfl);done);(focus (simp only [ee,Nat.reduceEqDiff];try rfl);done);(focus (simp only [hh,Nat.reduceAdd];try rfl);done);(focus rfl);(focus (simp only [hh,Nat.reduceAdd];try rfl);done))
        |(apply R_load_ptr1;(focus (simp only [tszAll];try rfl);done);(focus (simp only [ee,Nat.reduceEqDiff];try rfl);done);(focus (simp only [hh,Nat.reduceAdd];try rfl);done);(iterate 2 (focus rfl)))
        |(apply R_load_dem;(focus rfl);(focus (simp only [tszAll];try rfl);done);(focus (simp only [ee,Nat.reduceEqDiff];try rfl);done);(focus (simp only [hh,Nat.reduceAdd];try rfl);done);(focus rfl))
        |(apply R_load_ptrn;(focus (simp only [tszAll];try rfl);done);(focus (simp only [ee,Nat.reduceEqDiff];try rfl);done);(focus (simp only [hh,Nat.reduceAdd];try rfl);done);(focus exact Nat.le_of_ble_eq_true rfl);(focus rfl))
        |(apply R_store_tip;(focus (simp only [tszAll];try rfl);done);(focus (simp only [ee,Nat.reduceEqDiff];try rfl);done);(focus (simp only [hh,Nat.reduceAdd];try rfl);done);(focus (simp only [ee,Nat.reduceEqDiff];try rfl);done);(focus rfl);(focus (simp only [hh,Nat.reduceAdd];try rfl);done))
        |(apply R_store;(focus (simp only [tszAll];try rfl);done);(focus (simp only [ee,Nat.reduceEqDiff];try rfl);done);(focus (simp only [hh,Nat.reduceAdd];try rfl);done);(focus (simp only [ee,Nat.reduceEqDiff];try rfl);done);(iterate 2 (focus rfl));(focus exact ⟨rfl,Nat.le_of_ble_eq_true rfl⟩);(focus (simp only [hh,Nat.reduceAdd];try rfl);done))
        |(apply R_add;(iterate 2 (focus (simp only [ee,Nat.reduceEqDiff];try rfl);done));(iterate 2 (focus omega)))
        |(apply R_sub;(iterate 2 (focus (simp only [ee,Nat.reduceEqDiff];try rfl);done));(iterate 2 (focus omega)))
        |(apply R_quo;(iterate 2 (focus (simp only [ee,Nat.reduceEqDiff];try rfl);done));(iterate 3 (focus omega)))
        |(apply R_rem;(iterate 2 (focus (simp only [ee,Nat.reduceEqDiff];try rfl);done));(iterate 2 (focus omega)))
        |(apply R_ibin;(iterate 2 (focus (simp only [ee,Nat.reduceEqDiff];try rfl);done));(focus rfl))
        |(apply R_un;(focus (simp only [ee,Nat.reduceEqDiff];try rfl);done);(focus rfl))
        |(apply R_pickT;(focus (simp only [ee,Nat.reduceEqDiff];try rfl);done);(focus exact (by first|rfl|assumption));(focus (simp only [ee,Nat.reduceEqDiff];try rfl);done);(focus rfl))
        |(apply R_pickF;(focus (simp only [ee,Nat.reduceEqDiff];try rfl);done);(focus exact (by first|rfl|assumption));(focus (simp only [ee,Nat.reduceEqDiff];try rfl);done);(focus rfl))
        |(apply R_build;(focus (simp only [bInfoAll];try rfl);done);(focus (repeat (first|exact partsC_n|(apply partsC_c;(focus (simp only [ee,Nat.reduceEqDiff];try rfl);done);(focus rfl))));done);(focus rfl))
        |(apply R_buildSlice;(focus (simp only [mkInfoAll];try rfl);done);(focus (repeat (first|exact partsC_n|(apply partsC_c;(focus (simp only [ee,Nat.reduceEqDiff];try rfl);done);(focus rfl))));done);(focus decide);(iterate 2 (focus rfl)))
        |(apply R_append_tip;(focus (simp only [mkInfoAll];try rfl);done);(focus (simp only [ee,Nat.reduceEqDiff];try rfl);done);(focus (first|exact src_row (by (simp only [ee,Nat.reduceEqDiff];first|done|rfl)) rfl (by (simp only [elemSzAll];first|done|rfl)) (by first|rfl|simp)|exact src_nil (by (simp only [ee,Nat.reduceEqDiff];first|done|rfl)) (by (simp only [elemSzAll];first|done|rfl)));done);(focus (simp only [ee,zz,Nat.reduceEqDiff,arrB];try rfl);done);(iterate 2 (focus omega)))
        |(apply R_append_nil;(focus (simp only [mkInfoAll];try rfl);done);(focus (simp only [ee,Nat.reduceEqDiff];try rfl);done);(focus (first|exact src_row (by (simp only [ee,Nat.reduceEqDiff];first|done|rfl)) rfl (by (simp only [elemSzAll];first|done|rfl)) (by first|rfl|simp)|exact src_nil (by (simp only [ee,Nat.reduceEqDiff];first|done|rfl)) (by (simp only [elemSzAll];first|done|rfl)));done);(focus (simp only [ee,zz,Nat.reduceEqDiff,arrB];try rfl);done);(iterate 2 (focus omega)))
        |(apply R_alloc;(focus (simp only [zeroCAll];try rfl);done);(iterate 2 (focus (simp only [hh,Nat.reduceAdd];try rfl);done)))
        |(apply R_box;(focus (simp only [ee,Nat.reduceEqDiff];try rfl);done);(focus rfl);(iterate 2 (focus (simp only [hh,Nat.reduceAdd];try rfl);done)))
        |(apply R_skip;(focus first|exact wantA_f1 rfl rfl rfl (by (simp only [ee,Nat.reduceEqDiff];first|done|rfl)) (by first|rfl|assumption)|exact wantA_f0 rfl rfl rfl (by (simp only [ee,Nat.reduceEqDiff];first|done|rfl)) (by first|rfl|assumption)|exact wantA_und rfl rfl rfl (by (simp only [ee,Nat.reduceEqDiff];first|done|rfl))))
        |((with_reducible apply W_condT);(focus (simp only [ee,Nat.reduceEqDiff];try rfl);done);(focus exact (by first|rfl|assumption)))
        |((with_reducible apply W_condF);(focus (simp only [ee,Nat.reduceEqDiff];try rfl);done);(focus exact (by first|rfl|assumption)))
        |((with_reducible apply W_cond);(focus (simp only [ee,Nat.reduceEqDiff];try rfl);done);(all_goals (intro hbq;(first|(cases hbq;done)|(cases hbq)|(have hpq := of_decide_eq_true hbq)|(have hpq := of_decide_eq_false hbq)|skip))))
        |(apply WR_gsplit;(iterate 3 (focus rfl));(focus (simp only [ee,Nat.reduceEqDiff];try rfl);done);(all_goals (intro hbq;(first|(cases hbq;done)|(cases hbq)|(have hpq := of_decide_eq_true hbq)|(have hpq := of_decide_eq_false hbq)|skip))))
        |((with_reducible apply Ret_i);(focus trivial);(focus rfl);(focus (repeat (first|exact res_nil|(apply res_tmp;(focus (simp only [ee,Nat.reduceEqDiff];try rfl);done);(focus rfl);(focus (simp only [zz];try rfl);done))|(apply res_celln;(focus (simp only [tszAll];try rfl);done);(focus (simp only [ee,Nat.reduceEqDiff];try rfl);done);(focus (simp only [hh,Nat.reduceAdd];try rfl);done);(focus exact Nat.le_of_ble_eq_true rfl);(focus rfl);(focus (simp only [zz];try rfl);done))|(apply res_cell1;(focus (simp only [tszAll];try rfl);done);(focus (simp only [ee,Nat.reduceEqDiff];try rfl);done);(focus (simp only [hh,Nat.reduceAdd];try rfl);done);(focus rfl);(focus (simp only [zz];try rfl);done))));done))
        |((with_reducible apply RetP_i);(focus trivial);(focus rfl);(focus (repeat (first|exact res_nil|(apply res_tmp;(focus (simp only [ee,Nat.reduceEqDiff];try rfl);done);(focus rfl);(focus (simp only [zz];try rfl);done))|(apply res_celln;(focus (simp only [tszAll];try rfl);done);(focus (simp only [ee,Nat.reduceEqDiff];try rfl);done);(focus (simp only [hh,Nat.reduceAdd];try rfl);done);(focus exact Nat.le_of_ble_eq_true rfl);(focus rfl);(focus (simp only [zz];try rfl);done))|(apply res_cell1;(focus (simp only [tszAll];try rfl);done);(focus (simp only [ee,Nat.reduceEqDiff];try rfl);done);(focus (simp only [hh,Nat.reduceAdd];try rfl);done);(focus rfl);(focus (simp only [zz];try rfl);done))));done);(focus (simp only [hh,Nat.reduceAdd];try rfl);done)))
      ·
        refine LoopX_n (i3 + 1) ?_ ?_ ?_
        rotate_left
        · (try dsimp only); omega
        · (try dsimp only); omega
        refine weak_agG (by (simp only [hh,Nat.reduceAdd];first|done|rfl)) (Nat.le_of_ble_eq_true rfl) (Nat.le_of_ble_eq_true rfl) rfl rfl ?_ ?_;(focus (simp only [List.length_cons,List.length_nil,Nat.zero_add,Nat.reduceAdd,List.take_succ_cons,List.take_zero,List.take_nil]));(repeat' (first|exact LeH.nil|(with_reducible apply LeH.some)|(with_reducible apply LeH.none)|(with_reducible exact LeL.refl _)|exact LeL.nil|(with_reducible apply LeL.cons)|(with_reducible exact CVal.Le.refl _)|(with_reducible exact CVal.Le.nil_row)|(with_reducible exact CVal.Le.nil_tip _)|(with_reducible exact CVal.Le.tip_row _ _ _)|(exact CVal.Le.nil_row)|(exact CVal.Le.nil_tip _)|(with_reducible apply CVal.Le.of_eq)|(with_reducible apply LeL.of_eq)))
        (repeat' (first|exact trivial|(refine And.intro ?_ ?_)|(refine ⟨_, by (simp only [ee,Nat.reduceEqDiff];first|done|rfl), ?_⟩)|(first|(with_reducible exact LeS.refl _)|(with_reducible exact LeS.nil_row)|(with_reducible exact LeS.nil_tip _)|(with_reducible exact LeS.tip_row _ _ _)|(exact LeS.nil_row)|(exact LeS.nil_tip _)|(refine LeS.of_eq ?_))));(all_goals (try rfl))
        all_goals (simp [loopN, eC, Cur.stepS, fSec, fS, fI]; done)
      ·
        refine LoopX_x (i3) rfl ?_ ?_
        rotate_left
        · exact ⟨l3, .inr (by rw [eC]; simpa using hbq)⟩
        refine weak_agG (by (simp only [hh,Nat.reduceAdd];first|done|rfl)) (Nat.le_of_ble_eq_true rfl) (Nat.le_of_ble_eq_true rfl) rfl rfl ?_ ?_;(focus (simp only [List.length_cons,List.length_nil,Nat.zero_add,Nat.reduceAdd,List.take_succ_cons,List.take_zero,List.take_nil]));(repeat' (first|exact LeH.nil|(with_reducible apply LeH.some)|(with_reducible apply LeH.none)|(with_reducible exact LeL.refl _)|exact LeL.nil|(with_reducible apply LeL.cons)|(with_reducible exact CVal.Le.refl _)|(with_reducible exact CVal.Le.nil_row)|(with_reducible exact CVal.Le.nil_tip _)|(with_reducible exact CVal.Le.tip_row _ _ _)|(exact CVal.Le.nil_row)|(exact CVal.Le.nil_tip _)|(with_reducible apply CVal.Le.of_eq)|(with_reducible apply LeL.of_eq)))
        (repeat' (first|exact trivial|(refine And.intro ?_ ?_)|(refine ⟨_, by (simp only [ee,Nat.reduceEqDiff];first|done|rfl), ?_⟩)|(first|(with_reducible exact LeS.refl _)|(with_reducible exact LeS.nil_row)|(with_reducible exact LeS.nil_tip _)|(with_reducible exact LeS.tip_row _ _ _)|(exact LeS.nil_row)|(exact LeS.nil_tip _)|(refine LeS.of_eq ?_))));(all_goals (try rfl))
        all_goals (simp [eC]; done)
      ·
        refine LoopX_x (i3) rfl ?_ ?_
        rotate_left
        · exact ⟨l3, .inl (by omega)⟩
        refine weak_agG (by (simp only [hh,Nat.reduceAdd];first|done|rfl)) (Nat.le_of_ble_eq_true rfl) (Nat.le_of_ble_eq_true rfl) rfl rfl ?_ ?_;(focus (simp only [List.length_cons,List.length_nil,Nat.zero_add,Nat.reduceAdd,List.take_succ_cons,List.take_zero,List.take_nil]));(repeat' (first|exact LeH.nil|(with_reducible apply LeH.some)|(with_reducible apply LeH.none)|(with_reducible exact LeL.refl _)|exact LeL.nil|(with_reducible apply LeL.cons)|(with_reducible exact CVal.Le.refl _)|(with_reducible exact CVal.Le.nil_row)|(with_reducible exact CVal.Le.nil_tip _)|(with_reducible exact CVal.Le.tip_row _ _ _)|(exact CVal.Le.nil_row)|(exact CVal.Le.nil_tip _)|(with_reducible apply CVal.Le.of_eq)|(with_reducible apply LeL.of_eq)))
        (repeat' (first|exact trivial|(refine And.intro ?_ ?_)|(refine ⟨_, by (simp only [ee,Nat.reduceEqDiff];first|done|rfl), ?_⟩)|(first|(with_reducible exact LeS.refl _)|(with_reducible exact LeS.nil_row)|(with_reducible exact LeS.nil_tip _)|(with_reducible exact LeS.tip_row _ _ _)|(exact LeS.nil_row)|(exact LeS.nil_tip _)|(refine LeS.of_eq ?_))));(all_goals (try rfl))
        all_goals (simp [eC]; done)
    intro i3 hX3
    obtain ⟨l3, x3⟩ := hX3
    have hcC := loopN_ok stepS_ok hcB i3
    revert x3 hcC
    obtain ⟨C, eC⟩ : ∃ C, loopN Cur.stepS B.2 i3 = C := ⟨_, rfl⟩
    rw [eC]
    intro x3 hcC
    simp only [i64, aS]
    repeat' (first
      |with_reducible refine WR_pp ?_
      |with_reducible refine WR_pd ?_
      |with_reducible refine W_seq ?_
      |with_reducible refine seqK_n ?_
      |with_reducible refine seqK_r ?_
      |with_reducible refine seqK_e ?_
      |with_reducible refine W_block ?_
      |with_reducible refine blockK_n ?_
      |with_reducible refine blockK_e rfl ?_
      |with_reducible refine blockK_r ?_
      |with_reducible refine blockK_o (by decide) ?_
      |with_reducible refine LoopK_e ?_
      |with_reducible refine LoopK_r ?_
      |with_reducible refine LoopX_e (by decide) ?_
      |with_reducible refine LoopX_r ?_
      |with_reducible refine W_skip ?_
      |with_reducible refine W_exit ?_
      |with_reducible refine W_ret ?_
      |with_reducible refine W_region (WOps_WR ?_)
      |with_reducible refine W_draw (WOpsD_WR ?_)
      |with_reducible refine WR_nil ?_
      |(apply WR_nilD;(focus kernel_rfl))
      |(apply R_want;(focus exact wantA_t rfl rfl rfl (by (simp only [ee,Nat.reduceEqDiff];first|done|rfl)) (by first|rfl|assumption)))
      |(apply R_move;(focus (simp only [ee,Nat.reduceEqDiff];try rfl);done);(focus rfl))
      |(apply R_assign;(focus (simp only [ee,Nat.reduceEqDiff];try rfl);done);(focus rfl))
      |(apply R_assign_tip;(focus (simp only [ee,Nat.reduceEqDiff];try rfl);done))
      |(apply R_move_tip;(focus rfl);(focus (simp only [ee,Nat.reduceEqDiff];try rfl);done))
      |(apply R_move_row;(focus rfl);(focus (simp only [ee,Nat.reduceEqDiff];try rfl);done))
      |(apply R_nil_ptr;(focus (simp only [ee,Nat.reduceEqDiff];try rfl);done))
      |(apply R_fa_ptr;(focus (simp only [fldOffAll];try rfl);done);(focus (simp only [ee,Nat.reduceEqDiff];try rfl);done);(focus (simp only [Nat.reduceAdd,Nat.zero_add,Nat.reduceMul];try rfl);done))
      |(apply R_load_tip;(focus rfl);(focus (simp only [tszAll];try rfl);done);(focus (simp only [ee,Nat.reduceEqDiff];try rfl);done);(focus (simp only [hh,Nat.reduceAdd];try rfl);done);(focus rfl);(focus (simp only [hh,Nat.reduceAdd];try rfl);done))
      |(apply R_load_ptr1;(focus (simp only [tszAll];try rfl);done);(focus (simp only [ee,Nat.reduceEqDiff];try rfl);done);(focus (simp only [hh,Nat.reduceAdd];try rfl);done);(iterate 2 (focus rfl)))
      |(apply R_load_dem;(focus rfl);(focus (simp only [tszAll];try rfl);done);(focus (simp only [ee,Nat.reduceEqDiff];try rfl);done);(focus (simp only [hh,Nat.reduceAdd];try rfl);done);(focus rfl))
      |(apply R_load_ptrn;(focus (simp only [tszAll];try rfl);done);(focus (simp only [ee,Nat.reduceEqDiff];try rfl);done);(focus (simp only [hh,Nat.reduceAdd];try rfl);done);(focus exact Nat.le_of_ble_eq_true rfl);(focus rfl))
      |(apply R_store_tip;(focus (simp only [tszAll];try rfl);done);(focus (simp only [ee,Nat.reduceEqDiff];try rfl);done);(focus (simp only [hh,Nat.reduceAdd];try rfl);done);(focus (simp only [ee,Nat.reduceEqDiff];try rfl);done);(focus rfl);(focus (simp only [hh,Nat.reduceAdd];try rfl);done))
      |(apply R_store;(focus (simp only [tszAll];try rfl);done);(focus (simp only [ee,Nat.reduceEqDiff];try rfl);done);(focus (simp only [hh,Nat.reduceAdd];try rfl);done);(focus (simp only [ee,Nat.reduceEqDiff];try rfl);done);(iterate 2 (focus rfl));(focus exact ⟨rfl,Nat.le_of_ble_eq_true rfl⟩);(focus (simp only [hh,Nat.reduceAdd];try rfl);done))
      |(apply R_add;(iterate 2 (focus (simp only [ee,Nat.reduceEqDiff];try rfl);done));(iterate 2 (focus omega)))
      |(apply R_sub;(iterate 2 (focus (simp only [ee,Nat.reduceEqDiff];try rfl);done));(iterate 2 (focus omega)))
      |(apply R_quo;(iterate 2 (focus (simp only [ee,Nat.reduceEqDiff];try rfl);done));(iterate 3 (focus omega)))
      |(apply R_rem;(iterate 2 (focus (simp only [ee,Nat.reduceEqDiff];try rfl);done));(iterate 2 (focus omega)))
      |(apply R_ibin;(iterate 2 (focus (simp only [ee,Nat.reduceEqDiff];try rfl);done));(focus rfl))
      |(apply R_un;(focus (simp only [ee,Nat.reduceEqDiff];try rfl);done);(focus rfl))
      |(apply R_pickT;(focus (simp only [ee,Nat.reduceEqDiff];try rfl);done);(focus exact (by first|rfl|assumption));(focus (simp only [ee,Nat.reduceEqDiff];try rfl);done);(focus rfl))
      |(apply R_pickF;(focus (simp only [ee,Nat.reduceEqDiff];try rfl);done);(focus exact (by first|rfl|assumption));(focus (simp only [ee,Nat.reduceEqDiff];try rfl);done);(focus rfl))
      |(apply R_build;(focus (simp only [bInfoAll];try rfl);done);(focus (repeat (first|exact partsC_n|(apply partsC_c;(focus (simp only [ee,Nat.reduceEqDiff];try rfl);done);(focus rfl))));done);(focus rfl))
      |(apply R_buildSlice;(focus (simp only [mkInfoAll];try rfl);done);(focus (repeat (first|exact partsC_n|(apply partsC_c;(focus (simp only [ee,Nat.reduceEqDiff];try rfl);done);(focus rfl))));done);(focus decide);(iterate 2 (focus rfl)))
      |(apply R_append_tip;(focus (simp only [mkInfoAll];try rfl);done);(focus (simp only [ee,Nat.reduceEqDiff];try rfl);done);(focus (first|exact src_row (by (simp only [ee,Nat.reduceEqDiff];first|done|rfl)) rfl (by (simp only [elemSzAll];first|done|rfl)) (by first|rfl|simp)|exact src_nil (by (simp only [ee,Nat.reduceEqDiff];first|done|rfl)) (by (simp only [elemSzAll];first|done|rfl)));done);(focus (simp only [ee,zz,Nat.reduceEqDiff,arrB];try rfl);done);(iterate 2 (focus omega)))
      |(apply R_append_nil;(focus (simp only [mkInfoAll];try rfl);done);(focus (simp only [ee,Nat.reduceEqDiff];try rfl);done);(focus (first|exact src_row (by (simp only [ee,Nat.reduceEqDiff];first|done|rfl)) rfl (by (simp only [elemSzAll];first|done|rfl)) (by first|rfl|simp)|exact src_nil (by (simp only [ee,Nat.reduceEqDiff];first|done|rfl)) (by (simp only [elemSzAll];first|done|rfl)));done);(focus (simp only [ee,zz,Nat.reduceEqDiff,arrB];try rfl);done);(iterate 2 (focus omega)))
      |(apply R_alloc;(focus (simp only [zeroCAll];try rfl);done);(iterate 2 (focus (simp only [hh,Nat.reduceAdd];try rfl);done)))
      |(apply R_box;(focus (simp only [ee,Nat.reduceEqDiff];try rfl);done);(focus rfl);(iterate 2 (focus (simp only [hh,Nat.reduceAdd];try rfl);done)))
      |(apply R_skip;(focus first|exact wantA_f1 rfl rfl rfl (by (simp only [ee,Nat.reduceEqDiff];first|done|rfl)) (by first|rfl|assumption)|exact wantA_f0 rfl rfl rfl (by (simp only [ee,Nat.reduceEqDiff];first|done|rfl)) (by first|rfl|assumption)|exact wantA_und rfl rfl rfl (by (simp only [ee,Nat.reduceEqDiff];first|done|rfl))))
      |((with_reducible apply W_condT);(focus (simp only [ee,Nat.reduceEqDiff];try rfl);done);(focus exact (by first|rfl|assumption)))
      |((with_reducible apply W_condF);(focus (simp only [ee,Nat.reduceEqDiff];try rfl);done);(focus exact (by first|rfl|assumption)))
      |((with_reducible apply W_cond);(focus (simp only [ee,Nat.reduceEqDiff];try rfl);done);(all_goals (intro hbq;(first|(cases hbq;done)|(cases hbq)|(have hpq := of_decide_eq_true hbq)|(have hpq := of_decide_eq_false hbq)|skip))))
      |(apply WR_gsplit;(iterate 3 (focus rfl));(focus (simp only [ee,Nat.reduceEqDiff];try rfl);done);(all_goals (intro hbq;(first|(cases hbq;done)|(cases hbq)|(have hpq := of_decide_eq_true hbq)|(have hpq := of_decide_eq_false hbq)|skip))))
      |((with_reducible apply Ret_i);(focus trivial);(focus rfl);(focus (repeat (first|exact res_nil|(apply res_tmp;(focus (simp only [ee,Nat.reduceEqDiff];try rfl);done);(focus rfl);(focus (simp only [zz];try rfl);done))|(apply res_celln;(focus (simp only [tszAll];try rfl);done);(focus (simp only [ee,Nat.reduceEqDiff];try rfl);done);(focus (simp only [hh,Nat.reduceAdd];try rfl);done);(focus exact Nat.le_of_ble_eq_true rfl);(focus rfl);(focus (simp only [zz];try rfl);done))|(apply res_cell1;(focus (simp only [tszAll];try rfl);done);(focus (simp only [ee,Nat.reduceEqDiff];try rfl);done);(focus (simp only [hh,Nat.reduceAdd];try rfl);done);(focus rfl);(focus (simp only [zz];try rfl);done))));done))
      |((with_reducible apply RetP_i);(focus trivial);(focus rfl);(focus (repeat (first|exact res_nil|(apply res_tmp;(focus (simp only [ee,Nat.reduceEqDiff];try rfl);done);(focus rfl);(focus (simp only [zz];try rfl);done))|(apply res_celln;(focus (simp only [tszAll];try rfl);done);(focus (simp only [ee,Nat.reduceEqDiff];try rfl);done);(focus (simp only [hh,Nat.reduceAdd];try rfl);done);(focus exact Nat.le_of_ble_eq_true rfl);(focus rfl);(focus (simp only [zz];try rfl);done))|(apply res_cell1;(focus (simp only [tszAll];try rfl);done);(focus (simp only [ee,Nat.reduceEqDiff];try rfl);done);(focus (simp only [hh,Nat.reduceAdd];try rfl);done);(focus rfl);(focus (simp only [zz];try rfl);done))));done);(focus (simp only [hh,Nat.reduceAdd];try rfl);done)))
    refine W_loopX (fun i : Nat => St.of [some [.f .nils, .f .nils, .f .nils, .f .nils], some (loopN Cur.stepL C.2 i).2.box, some [.tip 1 (A.1.flatMap fStr) i1, .tip 1 (B.1.flatMap fStr) i2, .tip 5 (C.1.flatMap fSec) i3, .tip 6 ((loopN Cur.stepL C.2 i).1.flatMap fLnk) i]] [(0, aS s), (2, .c (.ptr 0 0)), (5, .c (.ptr 1 0)), (10, .c (.ptr 2 0)), (9, i64 ((((c1.af 1).af 1).af 1).n 1)), (15, i64 i)]) (fun i => i ≤ (((c1.af 1).af 1).af 1).n 1) (fun i => (((c1.af 1).af 1).af 1).n 1 - i) 0 6 (fun i : Nat => St.of [some [.f .nils, .f .nils, .f .nils, .f .nils], some (loopN Cur.stepL C.2 i).2.box, some [.tip 1 (A.1.flatMap fStr) i1, .tip 1 (B.1.flatMap fStr) i2, .tip 5 (C.1.flatMap fSec) i3, .tip 6 ((loopN Cur.stepL C.2 i).1.flatMap fLnk) i]] [(0, aS s), (2, .c (.ptr 0 0)), (5, .c (.ptr 1 0)), (10, .c (.ptr 2 0))]) (fun i => i ≤ (((c1.af 1).af 1).af 1).n 1 ∧ (i = (((c1.af 1).af 1).af 1).n 1 ∨ (loopN Cur.stepL C.2 i).2.short = true)) ?_ (by omega) (KCl_block KCl_seq) ?_ ?_
    ·
      refine weak_agG (by (simp only [hh,Nat.reduceAdd];first|done|rfl)) (Nat.le_of_ble_eq_true rfl) (Nat.le_of_ble_eq_true rfl) rfl rfl ?_ ?_;(focus (simp only [List.length_cons,List.length_nil,Nat.zero_add,Nat.reduceAdd,List.take_succ_cons,List.take_zero,List.take_nil]));(repeat' (first|exact LeH.nil|(with_reducible apply LeH.some)|(with_reducible apply LeH.none)|(with_reducible exact LeL.refl _)|exact LeL.nil|(with_reducible apply LeL.cons)|(with_reducible exact CVal.Le.refl _)|(with_reducible exact CVal.Le.nil_row)|(with_reducible exact CVal.Le.nil_tip _)|(with_reducible exact CVal.Le.tip_row _ _ _)|(exact CVal.Le.nil_row)|(exact CVal.Le.nil_tip _)|(with_reducible apply CVal.Le.of_eq)|(with_reducible apply LeL.of_eq)))
      (repeat' (first|exact trivial|(refine And.intro ?_ ?_)|(refine ⟨_, by (simp only [ee,Nat.reduceEqDiff];first|done|rfl), ?_⟩)|(first|(with_reducible exact LeS.refl _)|(with_reducible exact LeS.nil_row)|(with_reducible exact LeS.nil_tip _)|(with_reducible exact LeS.tip_row _ _ _)|(exact LeS.nil_row)|(exact LeS.nil_tip _)|(refine LeS.of_eq ?_))));(all_goals (try rfl))
    · intro i4 l4
      have hcD := loopN_ok stepL_ok hcC i4
      obtain ⟨D, eD⟩ : ∃ D, loopN Cur.stepL C.2 i4 = D := ⟨_, rfl⟩
      rw [eD] at hcD
      have m3 := D.2.n1
      have m4 := (D.2.af 1).n1
      have m5 := ((D.2.af 1).af 1).n1
      simp only [i64, aS, eD]
      repeat' (first
        |with_reducible refine WR_pp ?_
        |with_reducible refine WR_pd ?_
        |with_reducible refine W_seq ?_
        |with_reducible refine seqK_n ?_
        |with_reducible refine seqK_r ?_
        |with_reducible refine seqK_e ?_
        |with_reducible refine W_block ?_
        |with_reducible refine blockK_n ?_
        |with_reducible refine blockK_e rfl ?_
        |with_reducible refine blockK_r ?_
        |with_reducible refine blockK_o (by decide) ?_
        |with_reducible refine LoopK_e ?_
        |with_reducible refine LoopK_r ?_
        |with_reducible refine LoopX_e (by decide) ?_
        |with_reducible refine LoopX_r ?_
        |with_reducible refine W_skip ?_
        |with_reducible refine W_exit ?_
        |with_reducible refine W_ret ?_
        |with_reducible refine W_region (WOps_WR ?_)
        |with_reducible refine W_draw (WOpsD_WR ?_)
        |with_reducible refine WR_nil ?_
        |(apply R_callB Cur.box curD;(focus rfl);(focus (apply Eq.trans;(focus (repeat (first|exact args_n|(apply args_c;(focus (simp only [ee,Nat.reduceEqDiff];try rfl);done))));done);(focus (simp only [zz];try rfl);done)));(focus (simp only [hh,Nat.reduceAdd];try rfl);done);(focus exact (rd_number _ 1 (by repeat (first | assumption | apply Cur.af_ok | apply Cur.afn_ok)) (by decide)));(iterate 2 (focus rfl));(focus (simp only [hh,Nat.reduceAdd];try rfl);done))
        |(apply WR_nilD;(focus kernel_rfl))
        |(apply R_want;(focus exact wantA_t rfl rfl rfl (by (simp only [ee,Nat.reduceEqDiff];first|done|rfl)) (by first|rfl|assumption)))
        |(apply R_move;(focus (simp only [ee,Nat.reduceEqDiff];try rfl);done);(focus rfl))
        |(apply R_assign;(focus (simp only [ee,Nat.reduceEqDiff];try rfl);done);(focus rfl))
        |(apply R_assign_tip;(focus (simp only [ee,Nat.reduceEqDiff];try rfl);done))
        |(apply R_move_tip;(focus rfl);(focus (simp only [ee,Nat.reduceEqDiff];try rfl);done))
        |(apply R_move_row;(focus rfl);(focus (simp only [ee,Nat.reduceEqDiff];try rfl);done))
        |(apply R_nil_ptr;(focus (simp only [ee,Nat.reduceEqDiff];try rfl);done))
        |(apply R_fa_ptr;(focus (simp only [fldOffAll];try rfl);done);(focus (simp only [ee,Nat.reduceEqDiff];try rfl);done);(focus (simp only [Nat.reduceAdd,Nat.zero_add,Nat.reduceMul];try rfl);done))
        |(apply R_load_tip;(focus rfl);(focus (simp only [tszAll];try rfl);done);(focus (simp only [ee,Nat.reduceEqDiff];try rfl);done);(focus (simp only [hh,Nat.reduceAdd];try rfl);done);(focus rfl);(focus (simp only [hh,Nat.reduceAdd];try rfl);done))
        |(apply R_load_ptr1;(focus (simp only [tszAll];try rfl);done);(focus (simp only [ee,Nat.reduceEqDiff];try rfl);done);(focus (simp only [hh,Nat.reduceAdd];try rfl);done);(iterate 2 (focus rfl)))
        |(apply R_load_dem;(focus rfl);(focus (simp only [tszAll];try rfl);done);(focus (simp only [ee,Nat.reduceEqDiff];try rfl);done);(focus (simp only [hh,Nat.reduceAdd];try rfl);done);(focus rfl))
        |(apply R_load_ptrn;(focus (simp only [tszAll];try rfl);done);(focus (simp only [ee,Nat.reduceEqDiff];try rfl);done);(focus (simp only [hh,Nat.reduceAdd];try rfl);done);(focus exact Nat.le_of_ble_eq_true rfl);(focus rfl))
        |(apply R_store_tip;(focus (simp only [tszAll];try rfl);done);(focus (simp only [ee,Nat.reduceEqDiff];try rfl);done);(focus (simp only [hh,Nat.reduceAdd];try rfl);done);(focus (simp only [ee,Nat.reduceEqDiff];try rfl);done);(focus rfl);(focus (simp only [hh,Nat.reduceAdd];try rfl);done))
        |(apply R_store;(focus (simp only [tszAll];try rfl);done);(focus (simp only [ee,Nat.reduceEqDiff];try rfl);done);(focus (simp only [hh,Nat.reduceAdd];try rfl);done);(focus (simp only [ee,Nat.reduceEqDiff];try rfl);done);(iterate 2 (focus rfl));(focus exact ⟨rfl,Nat.le_of_ble_eq_true rfl⟩);(focus (simp only [hh,Nat.reduceAdd];try rfl);done))
        |(apply R_add;(iterate 2 (focus (simp only [ee,Nat.reduceEqDiff];try rfl);done));(iterate 2 (focus omega)))
        |(apply R_sub;(iterate 2 (focus (simp only [ee,Nat.reduceEqDiff];try rfl);done));(iterate 2 (focus omega)))
        |(apply R_quo;(iterate 2 (focus (simp only [ee,Nat.reduceEqDiff];try rfl);done));(iterate 3 (focus omega)))
        |(apply R_rem;(iterate 2 (focus (simp only [ee,Nat.reduceEqDiff];try rfl);done));(iterate 2 (focus omega)))
        |(apply R_ibin;(iterate 2 (focus (simp only [ee,Nat.reduceEqDiff];try rfl);done));(focus rfl))
        |(apply R_un;(focus (simp only [ee,Nat.reduceEqDiff];try rfl);done);(focus rfl))
        |(apply R_pickT;(focus (simp only [ee,Nat.reduceEqDiff];try rfl);done);(focus exact (by first|rfl|assumption));(focus (simp only [ee,Nat.reduceEqDiff];try rfl);done);(focus rfl))
        |(apply R_pickF;(focus (simp only [ee,Nat.reduceEqDiff];try rfl);done);(focus exact (by first|rfl|assumption));(focus (simp only [ee,Nat.reduceEqDiff];try rfl);done);(focus rfl))
        |(apply R_build;(focus (simp only [bInfoAll];try rfl);done);(focus (repeat (first|exact partsC_n|(apply partsC_c;(focus (simp only [ee,Nat.reduceEqDiff];try rfl);done);(focus rfl))));done);(focus rfl))
        |(apply R_buildSlice;(focus (simp only [mkInfoAll];try rfl);done);(focus (repeat (first|exact partsC_n|(apply partsC_c;(focus (simp only [ee,Nat.reduceEqDiff];try rfl);done);(focus rfl))));done);(focus decide);(iterate 2 (focus rfl)))
        |(apply R_append_tip;(focus (simp only [mkInfoAll];try rfl);done);(focus (simp only [ee,Nat.reduceEqDiff];try rfl);done);(focus (first|exact src_row (by (simp only [ee,Nat.reduceEqDiff];first|done|rfl)) rfl (by (simp only [elemSzAll];first|done|rfl)) (by first|rfl|simp)|exact src_nil (by (simp only [ee,Nat.reduceEqDiff];first|done|rfl)) (by (simp only [elemSzAll];first|done|rfl)));done);(focus (simp only [ee,zz,Nat.reduceEqDiff,arrB];try rfl);done);(iterate 2 (focus omega)))
        |(apply R_append_nil;(focus (simp only [mkInfoAll];try rfl);done);(focus (simp only [ee,Nat.reduceEqDiff];try rfl);done);(focus (first|exact src_row (by (simp only [ee,Nat.reduceEqDiff];first|done|rfl)) rfl (by (simp only [elemSzAll];first|done|rfl)) (by first|rfl|simp)|exact src_nil (by (simp only [ee,Nat.reduceEqDiff];first|done|rfl)) (by (simp only [elemSzAll];first|done|rfl)));done);(focus (simp only [ee,zz,Nat.reduceEqDiff,arrB];try rfl);done);(iterate 2 (focus omega)))
        |(apply R_alloc;(focus (simp only [zeroCAll];try rfl);done);(iterate 2 (focus (simp only [hh,Nat.reduceAdd];try rfl);done)))
        |(apply R_box;(focus (simp only [ee,Nat.reduceEqDiff];try rfl);done);(focus rfl);(iterate 2 (focus (simp only [hh,Nat.reduceAdd];try rfl);done)))
        |(apply R_skip;(focus first|exact wantA_f1 rfl rfl rfl (by (simp only [ee,Nat.reduceEqDiff];first|done|rfl)) (by first|rfl|assumption)|exact wantA_f0 rfl rfl rfl (by (simp only [ee,Nat.reduceEqDiff];first|done|rfl)) (by first|rfl|assumption)|exact wantA_und rfl rfl rfl (by (simp only [ee,Nat.reduceEqDiff];first|done|rfl))))
        |((with_reducible apply W_condT);(focus (simp only [ee,Nat.reduceEqDiff];try rfl);done);(focus exact (by first|rfl|assumption)))
        |((with_reducible apply W_condF);(focus (simp only [ee,Nat.reduceEqDiff];try rfl);done);(focus exact (by first|rfl|assumption)))
        |((with_reducible apply W_cond);(focus (simp only [ee,Nat.reduceEqDiff];try rfl);done);(all_goals (intro hbq;(first|(cases hbq;done)|(cases hbq)|(have hpq := of_decide_eq_true hbq)|(have hpq := of_decide_eq_false hbq)|skip))))
        |(apply WR_gsplit;(iterate 3 (focus rfl));(focus (simp only [ee,Nat.reduceEqDiff];try rfl);done);(all_goals (intro hbq;(first|(cases hbq;done)|(cases hbq)|(have hpq := of_decide_eq_true hbq)|(have hpq := of_decide_eq_false hbq)|skip))))
        |((with_reducible apply Ret_i);(focus trivial);(focus rfl);(focus (repeat (first|exact res_nil|(apply res_tmp;(focus (simp only [ee,Nat.reduceEqDiff];try rfl);done);(focus rfl);(focus (simp only [zz];try rfl);done))|(apply res_celln;(focus (simp only [tszAll];try rfl);done);(focus (simp only [ee,Nat.reduceEqDiff];try rfl);done);(focus (simp only [hh,Nat.reduceAdd];try rfl);done);(focus exact Nat.le_of_ble_eq_true rfl);(focus rfl);(focus (simp only [zz];try rfl);done))|(apply res_cell1;(focus (simp only [tszAll];try rfl);done);(focus (simp only [ee,Nat.reduceEqDiff];try rfl);done);(focus (simp only [hh,Nat.reduceAdd];try rfl);done);(focus rfl);(focus (simp only [zz];try rfl);done))));done))
        |((with_reducible apply RetP_i);(focus trivial);(focus rfl);(focus (repeat (first|exact res_nil|(apply res_tmp;(focus (simp only [ee,Nat.reduceEqDiff];try rfl);done);(focus rfl);(focus (simp only [zz];try rfl);done))|(apply res_celln;(focus (simp only [tszAll];try rfl);done);(focus (simp only [ee,Nat.reduceEqDiff];try rfl);done);(focus (simp only [hh,Nat.reduceAdd];try rfl);done);(focus exact Nat.le_of_ble_eq_true rfl);(focus rfl);(focus (simp only [zz];try rfl);done))|(apply res_cell1;(focus (simp only [tszAll];try rfl);done);(focus (simp only [ee,Nat.reduceEqDiff];try rfl);done);(focus (simp only [hh,Nat.reduceAdd];try rfl);done);(focus rfl);(focus (simp only [zz];try rfl);done))));done);(focus (simp only [hh,Nat.reduceAdd];try rfl);done)))
      ·
        refine LoopX_n (i4 + 1) ?_ ?_ ?_
        rotate_left
        · (try dsimp only); omega
        · (try dsimp only); omega
        refine weak_agG (by (simp only [hh,Nat.reduceAdd];first|done|rfl)) (Nat.le_of_ble_eq_true rfl) (Nat.le_of_ble_eq_true rfl) rfl rfl ?_ ?_;(focus (simp only [List.length_cons,List.length_nil,Nat.zero_add,Nat.reduceAdd,List.take_succ_cons,List.take_zero,List.take_nil]));(repeat' (first|exact LeH.nil|(with_reducible apply LeH.some)|(with_reducible apply LeH.none)|(with_reducible exact LeL.refl _)|exact LeL.nil|(with_reducible apply LeL.cons)|(with_reducible exact CVal.Le.refl _)|(with_reducible exact CVal.Le.nil_row)|(with_reducible exact CVal.Le.nil_tip _)|(with_reducible exact CVal.Le.tip_row _ _ _)|(exact CVal.Le.nil_row)|(exact CVal.Le.nil_tip _)|(with_reducible apply CVal.Le.of_eq)|(with_reducible apply LeL.of_eq)))
        (repeat' (first|exact trivial|(refine And.intro ?_ ?_)|(refine ⟨_, by (simp only [ee,Nat.reduceEqDiff];first|done|rfl), ?_⟩)|(first|(with_reducible exact LeS.refl _)|(with_reducible exact LeS.nil_row)|(with_reducible exact LeS.nil_tip _)|(with_reducible exact LeS.tip_row _ _ _)|(exact LeS.nil_row)|(exact LeS.nil_tip _)|(refine LeS.of_eq ?_))));(all_goals (try rfl))
        all_goals (simp [loopN, eD, Cur.stepL, fLnk, fI]; done)
      ·
        refine LoopX_x (i4) rfl ?_ ?_
        rotate_left
        · exact ⟨l4, .inr (by rw [eD]; simpa using hbq)⟩
        refine weak_agG (by (simp only [hh,Nat.reduceAdd];first|done|rfl)) (Nat.le_of_ble_eq_true rfl) (Nat.le_of_ble_eq_true rfl) rfl rfl ?_ ?_;(focus (simp only [List.length_cons,List.length_nil,Nat.zero_add,Nat.reduceAdd,List.take_succ_cons,List.take_zero,List.take_nil]));(repeat' (first|exact LeH.nil|(with_reducible apply LeH.some)|(with_reducible apply LeH.none)|(with_reducible exact LeL.refl _)|exact LeL.nil|(with_reducible apply LeL.cons)|(with_reducible exact CVal.Le.refl _)|(with_reducible exact CVal.Le.nil_row)|(with_reducible exact CVal.Le.nil_tip _)|(with_reducible exact CVal.Le.tip_row _ _ _)|(exact CVal.Le.nil_row)|(exact CVal.Le.nil_tip _)|(with_reducible apply CVal.Le.of_eq)|(with_reducible apply LeL.of_eq)))
        (repeat' (first|exact trivial|(refine And.intro ?_ ?_)|(refine ⟨_, by (simp only [ee,Nat.reduceEqDiff];first|done|rfl), ?_⟩)|(first|(with_reducible exact LeS.refl _)|(with_reducible exact LeS.nil_row)|(with_reducible exact LeS.nil_tip _)|(with_reducible exact LeS.tip_row _ _ _)|(exact LeS.nil_row)|(exact LeS.nil_tip _)|(refine LeS.of_eq ?_))));(all_goals (try rfl))
        all_goals (simp [eD]; done)
      ·
        refine LoopX_x (i4) rfl ?_ ?_
        rotate_left
        · exact ⟨l4, .inl (by omega)⟩
        refine weak_agG (by (simp only [hh,Nat.reduceAdd];first|done|rfl)) (Nat.le_of_ble_eq_true rfl) (Nat.le_of_ble_eq_true rfl) rfl rfl ?_ ?_;(focus (simp only [List.length_cons,List.length_nil,Nat.zero_add,Nat.reduceAdd,List.take_succ_cons,List.take_zero,List.take_nil]));(repeat' (first|exact LeH.nil|(with_reducible apply LeH.some)|(with_reducible apply LeH.none)|(with_reducible exact LeL.refl _)|exact LeL.nil|(with_reducible apply LeL.cons)|(with_reducible exact CVal.Le.refl _)|(with_reducible exact CVal.Le.nil_row)|(with_reducible exact CVal.Le.nil_tip _)|(with_reducible exact CVal.Le.tip_row _ _ _)|(exact CVal.Le.nil_row)|(exact CVal.Le.nil_tip _)|(with_reducible apply CVal.Le.of_eq)|(with_reducible apply LeL.of_eq)))
        (repeat' (first|exact trivial|(refine And.intro ?_ ?_)|(refine ⟨_, by (simp only [ee,Nat.reduceEqDiff];first|done|rfl), ?_⟩)|(first|(with_reducible exact LeS.refl _)|(with_reducible exact LeS.nil_row)|(with_reducible exact LeS.nil_tip _)|(with_reducible exact LeS.tip_row _ _ _)|(exact LeS.nil_row)|(exact LeS.nil_tip _)|(refine LeS.of_eq ?_))));(all_goals (try rfl))
        all_goals (simp [eD]; done)
    intro i4 hX4
    obtain ⟨l4, x4⟩ := hX4
    have hcD := loopN_ok stepL_ok hcC i4
    revert x4 hcD
    obtain ⟨D, eD⟩ : ∃ D, loopN Cur.stepL C.2 i4 = D := ⟨_, rfl⟩
    rw [eD]
    intro x4 hcD
    simp only [i64, aS]
    obtain ⟨f1, f2⟩ := hend i1 i2 i3 i4 A B C D eA eB eC eD l1 l2 l3 l4 x1 x2 x3 x4
    have lA : A.1.length = i1 := by rw [← eA, loopN_len]
    have lB : B.1.length = i2 := by rw [← eB, loopN_len]
    have lC : C.1.length = i3 := by rw [← eC, loopN_len]
    have lD : D.1.length = i4 := by rw [← eD, loopN_len]
    rw [← f1] at hi2 ⊢
    clear hf
    revert hC f2
    generalize c1.lay.1 = L
    intro hC f2
    clear hend eA eB eC eD x1 x2 x3 x4 f1
    have hN := rd_number D.2 4 hcD (by decide)
    have hn4 := D.2.n_lt 4
    have hp2 := hi2.2
    have hi3 := hi2.af 4
    have hp3 := hi3.2
    have hS := refCrc_ok (s.extract 0 D.2.pos) (by simp; omega)
    have hcl := Pl.crc_lt (s.extract 0 D.2.pos).data.toList
    revert hN hn4 hS hcl hi3 hp3
    have hsh : D.2.short = true → D.2.af 4 = D.2 := fun h => Cur.af_short h 4
    revert hsh
    generalize D.2.af 4 = c3
    generalize D.2.n 4 = q
    generalize Pl.crc (s.extract 0 D.2.pos).data.toList = z
    intro hsh hN hn4 hi3 hp3 hS hcl
    have hw : IntKind.u32.wrap (q : Int) = q := wrapU32 q hn4
    obtain ⟨DL, c2⟩ := D
    obtain ⟨cc, pp, ss⟩ := c2
    simp only at hN hS hp2 f2 lD hsh hcD hi2 ⊢
    cases ss with
    | true =>
      have hsh := hsh rfl
      subst hsh
      repeat' (first
        |with_reducible refine WR_pp ?_
        |with_reducible refine WR_pd ?_
        |with_reducible refine W_seq ?_
        |with_reducible refine seqK_n ?_
        |with_reducible refine seqK_r ?_
        |with_reducible refine seqK_e ?_
        |with_reducible refine W_block ?_
        |with_reducible refine blockK_n ?_
        |with_reducible refine blockK_e rfl ?_
        |with_reducible refine blockK_r ?_
        |with_reducible refine blockK_o (by decide) ?_
        |with_reducible refine LoopK_e ?_
        |with_reducible refine LoopK_r ?_
        |with_reducible refine LoopX_e (by decide) ?_
        |with_reducible refine LoopX_r ?_
        |with_reducible refine W_skip ?_
        |with_reducible refine W_exit ?_
        |with_reducible refine W_ret ?_
        |with_reducible refine W_region (WOps_WR ?_)
        |with_reducible refine W_draw (WOpsD_WR ?_)
        |with_reducible refine WR_nil ?_
        |(apply R_callB (x := (Cur.mk cc pp true)) Cur.box curD;(focus rfl);(focus (apply Eq.trans;(focus (repeat (first|exact args_n|(apply args_c;(focus (simp only [ee,Nat.reduceEqDiff];try rfl);done))));done);(focus (simp only [zz];try rfl);done)));(focus (simp only [hh,Nat.reduceAdd];try rfl);done);(focus exact hN);(iterate 2 (focus rfl));(focus (simp only [hh,Nat.reduceAdd];try rfl);done))
        |(apply WR_nilD;(focus kernel_rfl))
        |(apply R_want;(focus exact wantA_t rfl rfl rfl (by (simp only [ee,Nat.reduceEqDiff];first|done|rfl)) (by first|rfl|assumption)))
        |(apply R_move;(focus (simp only [ee,Nat.reduceEqDiff];try rfl);done);(focus rfl))
        |(apply R_assign;(focus (simp only [ee,Nat.reduceEqDiff];try rfl);done);(focus rfl))
        |(apply R_assign_tip;(focus (simp only [ee,Nat.reduceEqDiff];try rfl);done))
        |(apply R_move_tip;(focus rfl);(focus (simp only [ee,Nat.reduceEqDiff];try rfl);done))
        |(apply R_move_row;(focus rfl);(focus (simp only [ee,Nat.reduceEqDiff];try rfl);done))
        |(apply R_nil_ptr;(focus (simp only [ee,Nat.reduceEqDiff];try rfl);done))
        |(apply R_nil_ip;(focus (simp only [ee,Nat.reduceEqDiff];try rfl);done))
        |(apply R_fa_ptr;(focus (simp only [fldOffAll];try rfl);done);(focus (simp only [ee,Nat.reduceEqDiff];try rfl);done);(focus (simp only [Nat.reduceAdd,Nat.zero_add,Nat.reduceMul];try rfl);done))
        |(apply R_fa_ip;(focus (simp only [fldOffAll];try rfl);done);(focus (simp only [ee,Nat.reduceEqDiff];try rfl);done);(focus (simp only [Nat.reduceAdd,Nat.zero_add,Nat.reduceMul];try rfl);done))
        |(apply R_load_tip;(focus rfl);(focus (simp only [tszAll];try rfl);done);(focus (simp only [ee,Nat.reduceEqDiff];try rfl);done);(focus (simp only [hh,Nat.reduceAdd];try rfl);done);(focus rfl);(focus (simp only [hh,Nat.reduceAdd];try rfl);done))
        |(apply R_load_ptr1;(focus (simp only [tszAll];try rfl);done);(focus (simp only [ee,Nat.reduceEqDiff];try rfl);done);(focus (simp only [hh,Nat.reduceAdd];try rfl);done);(iterate 2 (focus rfl)))
        |(apply R_load_dem;(focus rfl);(focus (simp only [tszAll];try rfl);done);(focus (simp only [ee,Nat.reduceEqDiff];try rfl);done);(focus (simp only [hh,Nat.reduceAdd];try rfl);done);(focus rfl))
        |(apply R_load_ptrn;(focus (simp only [tszAll];try rfl);done);(focus (simp only [ee,Nat.reduceEqDiff];try rfl);done);(focus (simp only [hh,Nat.reduceAdd];try rfl);done);(focus exact Nat.le_of_ble_eq_true rfl);(focus rfl))
        |(apply R_load_rw;(focus (simp only [tszAll];try rfl);done);(focus (simp only [ee,Nat.reduceEqDiff];try rfl);done);(focus rfl);(focus intro _;rfl;done);(focus assumption);(focus (simp only [fStr,fSec,fLnk,fInt,fS,fI,fB,List.map_cons,List.map_nil];try rfl);done))
        |(apply R_load_rk;(focus (simp only [tszAll];try rfl);done);(focus (simp only [ee,Nat.reduceEqDiff];try rfl);done);(focus rfl);(focus intro _;rfl;done);(focus assumption);(focus rfl);(focus (simp only [fStr,fSec,fLnk,fInt,fS,fI,fB,List.getElem?_cons_zero,List.getElem?_cons_succ];try rfl);done))
        |(apply R_load_r1;(focus (simp only [tszAll];try rfl);done);(focus (simp only [ee,Nat.reduceEqDiff];try rfl);done);(focus rfl);(focus intro _;rfl;done);(focus assumption);(focus (simp only [fStr,fSec,fLnk,fInt,fS,fI,fB,List.map_cons,List.map_nil];try rfl);done))
        |(apply R_load_ip1;(focus (simp only [tszAll];try rfl);done);(focus (simp only [ee,Nat.reduceEqDiff];try rfl);done);(focus rfl))
        |(apply R_load_ipn;(focus (simp only [tszAll];try rfl);done);(focus (simp only [ee,Nat.reduceEqDiff];try rfl);done);(focus exact Nat.le_of_ble_eq_true rfl);(focus rfl))
        |(apply R_store_tip;(focus (simp only [tszAll];try rfl);done);(focus (simp only [ee,Nat.reduceEqDiff];try rfl);done);(focus (simp only [hh,Nat.reduceAdd];try rfl);done);(focus (simp only [ee,Nat.reduceEqDiff];try rfl);done);(focus rfl);(focus (simp only [hh,Nat.reduceAdd];try rfl);done))
        |(apply R_store;(focus (simp only [tszAll];try rfl);done);(focus (simp only [ee,Nat.reduceEqDiff];try rfl);done);(focus (simp only [hh,Nat.reduceAdd];try rfl);done);(focus (simp only [ee,Nat.reduceEqDiff];try rfl);done);(iterate 2 (focus rfl));(focus exact ⟨rfl,Nat.le_of_ble_eq_true rfl⟩);(focus (simp only [hh,Nat.reduceAdd];try rfl);done))
        |(apply R_ia_row;(focus (simp only [elemSzAll];try rfl);done);(focus (simp only [ee,Nat.reduceEqDiff];try rfl);done);(focus rfl);(focus (simp only [ee,Nat.reduceEqDiff];try rfl);done);(iterate 2 (focus omega));(focus (simp only [Int.toNat_natCast];try rfl);done))
        |(apply R_ia_arr;(focus (simp only [elemSzAll];try rfl);done);(iterate 2 (focus (simp only [ee,Nat.reduceEqDiff];try rfl);done));(iterate 2 (focus omega));(focus (simp only [Int.toNat_natCast];try rfl);done))
        |(apply R_field;(focus (simp only [fldAtAll];try rfl);done);(focus (simp only [ee,Nat.reduceEqDiff];try rfl);done);(focus rfl))
        |(apply R_extract;(focus (simp only [ee,Nat.reduceEqDiff];try rfl);done);(focus rfl))
        |(apply R_add;(iterate 2 (focus (simp only [ee,Nat.reduceEqDiff];try rfl);done));(iterate 2 (focus omega)))
        |(apply R_sub;(iterate 2 (focus (simp only [ee,Nat.reduceEqDiff];try rfl);done));(iterate 2 (focus omega)))
        |(apply R_mul;(iterate 2 (focus (simp only [ee,Nat.reduceEqDiff];try rfl);done));(iterate 2 (focus omega)))
        |(apply R_quo;(iterate 2 (focus (simp only [ee,Nat.reduceEqDiff];try rfl);done));(iterate 3 (focus omega)))
        |(apply R_rem;(iterate 2 (focus (simp only [ee,Nat.reduceEqDiff];try rfl);done));(iterate 2 (focus omega)))
        |(apply R_sadd;(iterate 2 (focus (simp only [ee,Nat.reduceEqDiff];try rfl);done));(focus omega))
        |(apply R_ibin;(iterate 2 (focus (simp only [ee,Nat.reduceEqDiff];try rfl);done));(focus rfl))
        |(apply R_sbin;(iterate 2 (focus (simp only [ee,Nat.reduceEqDiff];try rfl);done));(focus rfl))
        |(apply R_un;(focus (simp only [ee,Nat.reduceEqDiff];try rfl);done);(focus rfl))
        |(apply R_index_strD;(focus (simp only [undAll];try rfl);done);(iterate 2 (focus (simp only [ee,Nat.reduceEqDiff];try rfl);done));(iterate 2 (focus omega)))
        |(apply R_len_str;(focus (simp only [undAll];try rfl);done);(focus (simp only [ee,Nat.reduceEqDiff];try rfl);done))
        |(apply R_len_row;(focus (simp only [elemSzAll];try rfl);done);(focus (simp only [ee,Nat.reduceEqDiff];try rfl);done);(focus rfl))
        |(apply R_len_arr;(focus (simp only [elemSzAll];try rfl);done);(focus (simp only [ee,Nat.reduceEqDiff];try rfl);done))
        |(apply R_len_nil;(focus (simp only [undAll];try rfl);done);(focus (simp only [ee,Nat.reduceEqDiff];try rfl);done))
        |(apply R_pickT;(focus (simp only [ee,Nat.reduceEqDiff];try rfl);done);(focus exact (by first|rfl|assumption));(focus (simp only [ee,Nat.reduceEqDiff];try rfl);done);(focus rfl))
        |(apply R_pickF;(focus (simp only [ee,Nat.reduceEqDiff];try rfl);done);(focus exact (by first|rfl|assumption));(focus (simp only [ee,Nat.reduceEqDiff];try rfl);done);(focus rfl))
        |(apply R_build;(focus (simp only [bInfoAll];try rfl);done);(focus (repeat (first|exact partsC_n|(apply partsC_c;(focus (simp only [ee,Nat.reduceEqDiff];try rfl);done);(focus rfl))));done);(focus rfl))
        |(apply R_buildSlice;(focus (simp only [mkInfoAll];try rfl);done);(focus (repeat (first|exact partsC_n|(apply partsC_c;(focus (simp only [ee,Nat.reduceEqDiff];try rfl);done);(focus rfl))));done);(focus decide);(iterate 2 (focus rfl)))
        |(apply R_slice_str;(focus (simp only [undAll];try rfl);done);(focus (simp only [ee,Nat.reduceEqDiff];try rfl);done);(iterate 2 (focus (first|exact bnd_none|exact bnd_some (by (simp only [ee,Nat.reduceEqDiff];first|done|rfl)));done));(iterate 3 (focus omega)))
        |(apply R_slice_row;(focus (simp only [elemSzAll];try rfl);done);(focus (simp only [ee,Nat.reduceEqDiff];try rfl);done);(focus rfl);(iterate 2 (focus (first|exact bnd_none|exact bnd_some (by (simp only [ee,Nat.reduceEqDiff];first|done|rfl)));done));(iterate 3 (focus omega));(iterate 2 (focus rfl)))
        |(apply R_conv64;(iterate 2 (focus (simp only [undAll];try rfl);done));(focus (simp only [ee,Nat.reduceEqDiff];try rfl);done);(iterate 2 (focus omega)))
        |(apply R_conv_int;(iterate 2 (focus (simp only [undAll];try rfl);done));(focus (simp only [ee,Nat.reduceEqDiff];try rfl);done))
        |(apply R_bbin;(iterate 2 (focus (simp only [ee,Nat.reduceEqDiff];try rfl);done));(focus rfl))
        |(apply R_shl;(iterate 2 (focus (simp only [ee,Nat.reduceEqDiff];try rfl);done));(focus omega))
        |(apply R_shr;(iterate 2 (focus (simp only [ee,Nat.reduceEqDiff];try rfl);done));(focus omega))
        |(apply R_append_tip;(focus (simp only [mkInfoAll];try rfl);done);(focus (simp only [ee,Nat.reduceEqDiff];try rfl);done);(focus (first|exact src_row (by (simp only [ee,Nat.reduceEqDiff];first|done|rfl)) rfl (by (simp only [elemSzAll];first|done|rfl)) (by first|rfl|simp)|exact src_nil (by (simp only [ee,Nat.reduceEqDiff];first|done|rfl)) (by (simp only [elemSzAll];first|done|rfl)));done);(focus (simp only [ee,zz,Nat.reduceEqDiff,arrB];try rfl);done);(iterate 2 (focus omega)))
        |(apply R_append_nil;(focus (simp only [mkInfoAll];try rfl);done);(focus (simp only [ee,Nat.reduceEqDiff];try rfl);done);(focus (first|exact src_row (by (simp only [ee,Nat.reduceEqDiff];first|done|rfl)) rfl (by (simp only [elemSzAll];first|done|rfl)) (by first|rfl|simp)|exact src_nil (by (simp only [ee,Nat.reduceEqDiff];first|done|rfl)) (by (simp only [elemSzAll];first|done|rfl)));done);(focus (simp only [ee,zz,Nat.reduceEqDiff,arrB];try rfl);done);(iterate 2 (focus omega)))
        |(apply R_make;(focus (simp only [mkInfoAll];try rfl);done);(iterate 2 (focus (simp only [ee,Nat.reduceEqDiff];try rfl);done));(iterate 3 (focus omega));(focus (simp only [hh,Nat.reduceAdd];try rfl);done);(focus rfl);(focus (simp only [hh,Nat.reduceAdd];try rfl);done))
        |(apply R_max;(iterate 2 (focus (simp only [ee,Nat.reduceEqDiff];try rfl);done)))
        |(apply R_min;(iterate 2 (focus (simp only [ee,Nat.reduceEqDiff];try rfl);done)))
        |(apply R_alloc;(focus (simp only [zeroCAll];try rfl);done);(iterate 2 (focus (simp only [hh,Nat.reduceAdd];try rfl);done)))
        |(apply R_box;(focus (simp only [ee,Nat.reduceEqDiff];try rfl);done);(focus rfl);(iterate 2 (focus (simp only [hh,Nat.reduceAdd];try rfl);done)))
        |(apply R_skip;(focus first|exact wantA_f1 rfl rfl rfl (by (simp only [ee,Nat.reduceEqDiff];first|done|rfl)) (by first|rfl|assumption)|exact wantA_f0 rfl rfl rfl (by (simp only [ee,Nat.reduceEqDiff];first|done|rfl)) (by first|rfl|assumption)|exact wantA_und rfl rfl rfl (by (simp only [ee,Nat.reduceEqDiff];first|done|rfl))))
        |((with_reducible apply W_condT);(focus (simp only [ee,Nat.reduceEqDiff];try rfl);done);(focus exact (by first|rfl|assumption)))
        |((with_reducible apply W_condF);(focus (simp only [ee,Nat.reduceEqDiff];try rfl);done);(focus exact (by first|rfl|assumption)))
        |((with_reducible apply W_cond);(focus (simp only [ee,Nat.reduceEqDiff];try rfl);done);(all_goals (intro hbq;(first|(cases hbq;done)|(cases hbq)|(have hpq := of_decide_eq_true hbq)|(have hpq := of_decide_eq_false hbq)|skip))))
        |(apply WR_gsplit;(iterate 3 (focus rfl));(focus (simp only [ee,Nat.reduceEqDiff];try rfl);done);(all_goals (intro hbq;(first|(cases hbq;done)|(cases hbq)|(have hpq := of_decide_eq_true hbq)|(have hpq := of_decide_eq_false hbq)|skip))))
        |((with_reducible apply Ret_i);(focus trivial);(focus rfl);(focus (repeat (first|exact res_nil|(apply res_tmp;(focus (simp only [ee,Nat.reduceEqDiff];try rfl);done);(focus rfl);(focus (simp only [zz];try rfl);done))|(apply res_celln;(focus (simp only [tszAll];try rfl);done);(focus (simp only [ee,Nat.reduceEqDiff];try rfl);done);(focus (simp only [hh,Nat.reduceAdd];try rfl);done);(focus exact Nat.le_of_ble_eq_true rfl);(focus rfl);(focus (simp only [zz];try rfl);done))|(apply res_cell1;(focus (simp only [tszAll];try rfl);done);(focus (simp only [ee,Nat.reduceEqDiff];try rfl);done);(focus (simp only [hh,Nat.reduceAdd];try rfl);done);(focus rfl);(focus (simp only [zz];try rfl);done))));done))
        |((with_reducible apply RetP_i);(focus trivial);(focus rfl);(focus (repeat (first|exact res_nil|(apply res_tmp;(focus (simp only [ee,Nat.reduceEqDiff];try rfl);done);(focus rfl);(focus (simp only [zz];try rfl);done))|(apply res_celln;(focus (simp only [tszAll];try rfl);done);(focus (simp only [ee,Nat.reduceEqDiff];try rfl);done);(focus (simp only [hh,Nat.reduceAdd];try rfl);done);(focus exact Nat.le_of_ble_eq_true rfl);(focus rfl);(focus (simp only [zz];try rfl);done))|(apply res_cell1;(focus (simp only [tszAll];try rfl);done);(focus (simp only [ee,Nat.reduceEqDiff];try rfl);done);(focus (simp only [hh,Nat.reduceAdd];try rfl);done);(focus rfl);(focus (simp only [zz];try rfl);done))));done);(focus (simp only [hh,Nat.reduceAdd];try rfl);done)))
      all_goals (try simp only [H_put, H_setH, H_of, packT, TVal.a, List.length_cons, List.length_nil, Nat.zero_add, List.take_succ_cons, List.take_zero, List.map_cons, List.map_nil, fzT, fzC_f])
      unfold decOf
      rw [if_neg hdr, if_pos rfl]
      rfl
    | false =>
      clear hsh
      have f2 := f2 rfl
      subst f2
      simp only [aLay, cLay, cRow, lA, lB, lC, lD] at hC
      repeat' (first
        |with_reducible refine WR_pp ?_
        |with_reducible refine WR_pd ?_
        |with_reducible refine W_seq ?_
        |with_reducible refine seqK_n ?_
        |with_reducible refine seqK_r ?_
        |with_reducible refine seqK_e ?_
        |with_reducible refine W_block ?_
        |with_reducible refine blockK_n ?_
        |with_reducible refine blockK_e rfl ?_
        |with_reducible refine blockK_r ?_
        |with_reducible refine blockK_o (by decide) ?_
        |with_reducible refine LoopK_e ?_
        |with_reducible refine LoopK_r ?_
        |with_reducible refine LoopX_e (by decide) ?_
        |with_reducible refine LoopX_r ?_
        |with_reducible refine W_skip ?_
        |with_reducible refine W_exit ?_
        |with_reducible refine W_ret ?_
        |with_reducible refine W_region (WOps_WR ?_)
        |with_reducible refine W_draw (WOpsD_WR ?_)
        |with_reducible refine WR_nil ?_
        |(apply R_callB (x := (Cur.mk cc pp false)) Cur.box curD;(focus rfl);(focus (apply Eq.trans;(focus (repeat (first|exact args_n|(apply args_c;(focus (simp only [ee,Nat.reduceEqDiff];try rfl);done))));done);(focus (simp only [zz];try rfl);done)));(focus (simp only [hh,Nat.reduceAdd];try rfl);done);(focus exact hN);(iterate 2 (focus rfl));(focus (simp only [hh,Nat.reduceAdd];try rfl);done))
        |(apply R_pure;(focus rfl);(focus (repeat (first|exact args_n|(apply args_c;(focus (simp only [ee,Nat.reduceEqDiff];try rfl);done))));done);(focus rfl);(focus exact hS))
        |(apply R_pure;(focus rfl);(focus (repeat (first|exact args_n|(apply args_c;(focus (simp only [ee,Nat.reduceEqDiff];try rfl);done))));done);(focus rfl);(focus exact hC))
        |(apply WR_nilD;(focus kernel_rfl))
        |(apply R_want;(focus exact wantA_t rfl rfl rfl (by (simp only [ee,Nat.reduceEqDiff];first|done|rfl)) (by first|rfl|assumption)))
        |(apply R_move;(focus (simp only [ee,Nat.reduceEqDiff];try rfl);done);(focus rfl))
        |(apply R_assign;(focus (simp only [ee,Nat.reduceEqDiff];try rfl);done);(focus rfl))
        |(apply R_assign_tip;(focus (simp only [ee,Nat.reduceEqDiff];try rfl);done))
        |(apply R_move_tip;(focus rfl);(focus (simp only [ee,Nat.reduceEqDiff];try rfl);done))
        |(apply R_move_row;(focus rfl);(focus (simp only [ee,Nat.reduceEqDiff];try rfl);done))
        |(apply R_nil_ptr;(focus (simp only [ee,Nat.reduceEqDiff];try rfl);done))
        |(apply R_nil_ip;(focus (simp only [ee,Nat.reduceEqDiff];try rfl);done))
        |(apply R_fa_ptr;(focus (simp only [fldOffAll];try rfl);done);(focus (simp only [ee,Nat.reduceEqDiff];try rfl);done);(focus (simp only [Nat.reduceAdd,Nat.zero_add,Nat.reduceMul];try rfl);done))
        |(apply R_fa_ip;(focus (simp only [fldOffAll];try rfl);done);(focus (simp only [ee,Nat.reduceEqDiff];try rfl);done);(focus (simp only [Nat.reduceAdd,Nat.zero_add,Nat.reduceMul];try rfl);done))
        |(apply R_load_tip;(focus rfl);(focus (simp only [tszAll];try rfl);done);(focus (simp only [ee,Nat.reduceEqDiff];try rfl);done);(focus (simp only [hh,Nat.reduceAdd];try rfl);done);(focus rfl);(focus (simp only [hh,Nat.reduceAdd];try rfl);done))
        |(apply R_load_ptr1;(focus (simp only [tszAll];try rfl);done);(focus (simp only [ee,Nat.reduceEqDiff];try rfl);done);(focus (simp only [hh,Nat.reduceAdd];try rfl);done);(iterate 2 (focus rfl)))
        |(apply R_load_dem;(focus rfl);(focus (simp only [tszAll];try rfl);done);(focus (simp only [ee,Nat.reduceEqDiff];try rfl);done);(focus (simp only [hh,Nat.reduceAdd];try rfl);done);(focus rfl))
        |(apply R_load_ptrn;(focus (simp only [tszAll];try rfl);done);(focus (simp only [ee,Nat.reduceEqDiff];try rfl);done);(focus (simp only [hh,Nat.reduceAdd];try rfl);done);(focus exact Nat.le_of_ble_eq_true rfl);(focus rfl))
        |(apply R_load_rw;(focus (simp only [tszAll];try rfl);done);(focus (simp only [ee,Nat.reduceEqDiff];try rfl);done);(focus rfl);(focus intro _;rfl;done);(focus assumption);(focus (simp only [fStr,fSec,fLnk,fInt,fS,fI,fB,List.map_cons,List.map_nil];try rfl);done))
        |(apply R_load_rk;(focus (simp only [tszAll];try rfl);done);(focus (simp only [ee,Nat.reduceEqDiff];try rfl);done);(focus rfl);(focus intro _;rfl;done);(focus assumption);(focus rfl);(focus (simp only [fStr,fSec,fLnk,fInt,fS,fI,fB,List.getElem?_cons_zero,List.getElem?_cons_succ];try rfl);done))
        |(apply R_load_r1;(focus (simp only [tszAll];try rfl);done);(focus (simp only [ee,Nat.reduceEqDiff];try rfl);done);(focus rfl);(focus intro _;rfl;done);(focus assumption);(focus (simp only [fStr,fSec,fLnk,fInt,fS,fI,fB,List.map_cons,List.map_nil];try rfl);done))
        |(apply R_load_ip1;(focus (simp only [tszAll];try rfl);done);(focus (simp only [ee,Nat.reduceEqDiff];try rfl);done);(focus rfl))
        |(apply R_load_ipn;(focus (simp only [tszAll];try rfl);done);(focus (simp only [ee,Nat.reduceEqDiff];try rfl);done);(focus exact Nat.le_of_ble_eq_true rfl);(focus rfl))
        |(apply R_store_tip;(focus (simp only [tszAll];try rfl);done);(focus (simp only [ee,Nat.reduceEqDiff];try rfl);done);(focus (simp only [hh,Nat.reduceAdd];try rfl);done);(focus (simp only [ee,Nat.reduceEqDiff];try rfl);done);(focus rfl);(focus (simp only [hh,Nat.reduceAdd];try rfl);done))
        |(apply R_store;(focus (simp only [tszAll];try rfl);done);(focus (simp only [ee,Nat.reduceEqDiff];try rfl);done);(focus (simp only [hh,Nat.reduceAdd];try rfl);done);(focus (simp only [ee,Nat.reduceEqDiff];try rfl);done);(iterate 2 (focus rfl));(focus exact ⟨rfl,Nat.le_of_ble_eq_true rfl⟩);(focus (simp only [hh,Nat.reduceAdd];try rfl);done))
        |(apply R_ia_row;(focus (simp only [elemSzAll];try rfl);done);(focus (simp only [ee,Nat.reduceEqDiff];try rfl);done);(focus rfl);(focus (simp only [ee,Nat.reduceEqDiff];try rfl);done);(iterate 2 (focus omega));(focus (simp only [Int.toNat_natCast];try rfl);done))
        |(apply R_ia_arr;(focus (simp only [elemSzAll];try rfl);done);(iterate 2 (focus (simp only [ee,Nat.reduceEqDiff];try rfl);done));(iterate 2 (focus omega));(focus (simp only [Int.toNat_natCast];try rfl);done))
        |(apply R_field;(focus (simp only [fldAtAll];try rfl);done);(focus (simp only [ee,Nat.reduceEqDiff];try rfl);done);(focus rfl))
        |(apply R_extract;(focus (simp only [ee,Nat.reduceEqDiff];try rfl);done);(focus rfl))
        |(apply R_add;(iterate 2 (focus (simp only [ee,Nat.reduceEqDiff];try rfl);done));(iterate 2 (focus omega)))
        |(apply R_sub;(iterate 2 (focus (simp only [ee,Nat.reduceEqDiff];try rfl);done));(iterate 2 (focus omega)))
        |(apply R_mul;(iterate 2 (focus (simp only [ee,Nat.reduceEqDiff];try rfl);done));(iterate 2 (focus omega)))
        |(apply R_quo;(iterate 2 (focus (simp only [ee,Nat.reduceEqDiff];try rfl);done));(iterate 3 (focus omega)))
        |(apply R_rem;(iterate 2 (focus (simp only [ee,Nat.reduceEqDiff];try rfl);done));(iterate 2 (focus omega)))
        |(apply R_sadd;(iterate 2 (focus (simp only [ee,Nat.reduceEqDiff];try rfl);done));(focus omega))
        |(apply R_ibin;(iterate 2 (focus (simp only [ee,Nat.reduceEqDiff];try rfl);done));(focus rfl))
        |(apply R_sbin;(iterate 2 (focus (simp only [ee,Nat.reduceEqDiff];try rfl);done));(focus rfl))
        |(apply R_un;(focus (simp only [ee,Nat.reduceEqDiff];try rfl);done);(focus rfl))
        |(apply R_index_strD;(focus (simp only [undAll];try rfl);done);(iterate 2 (focus (simp only [ee,Nat.reduceEqDiff];try rfl);done));(iterate 2 (focus omega)))
        |(apply R_len_str;(focus (simp only [undAll];try rfl);done);(focus (simp only [ee,Nat.reduceEqDiff];try rfl);done))
        |(apply R_len_row;(focus (simp only [elemSzAll];try rfl);done);(focus (simp only [ee,Nat.reduceEqDiff];try rfl);done);(focus rfl))
        |(apply R_len_arr;(focus (simp only [elemSzAll];try rfl);done);(focus (simp only [ee,Nat.reduceEqDiff];try rfl);done))
        |(apply R_len_nil;(focus (simp only [undAll];try rfl);done);(focus (simp only [ee,Nat.reduceEqDiff];try rfl);done))
        |(apply R_pickT;(focus (simp only [ee,Nat.reduceEqDiff];try rfl);done);(focus exact (by first|rfl|assumption));(focus (simp only [ee,Nat.reduceEqDiff];try rfl);done);(focus rfl))
        |(apply R_pickF;(focus (simp only [ee,Nat.reduceEqDiff];try rfl);done);(focus exact (by first|rfl|assumption));(focus (simp only [ee,Nat.reduceEqDiff];try rfl);done);(focus rfl))
        |(apply R_build;(focus (simp only [bInfoAll];try rfl);done);(focus (repeat (first|exact partsC_n|(apply partsC_c;(focus (simp only [ee,Nat.reduceEqDiff];try rfl);done);(focus rfl))));done);(focus rfl))
        |(apply R_buildSlice;(focus (simp only [mkInfoAll];try rfl);done);(focus (repeat (first|exact partsC_n|(apply partsC_c;(focus (simp only [ee,Nat.reduceEqDiff];try rfl);done);(focus rfl))));done);(focus decide);(iterate 2 (focus rfl)))
        |(apply R_slice_str;(focus (simp only [undAll];try rfl);done);(focus (simp only [ee,Nat.reduceEqDiff];try rfl);done);(iterate 2 (focus (first|exact bnd_none|exact bnd_some (by (simp only [ee,Nat.reduceEqDiff];first|done|rfl)));done));(iterate 3 (focus omega)))
        |(apply R_slice_row;(focus (simp only [elemSzAll];try rfl);done);(focus (simp only [ee,Nat.reduceEqDiff];try rfl);done);(focus rfl);(iterate 2 (focus (first|exact bnd_none|exact bnd_some (by (simp only [ee,Nat.reduceEqDiff];first|done|rfl)));done));(iterate 3 (focus omega));(iterate 2 (focus rfl)))
        |(apply R_conv64;(iterate 2 (focus (simp only [undAll];try rfl);done));(focus (simp only [ee,Nat.reduceEqDiff];try rfl);done);(iterate 2 (focus omega)))
        |(apply R_conv_int;(iterate 2 (focus (simp only [undAll];try rfl);done));(focus (simp only [ee,Nat.reduceEqDiff];try rfl);done))
        |(apply R_bbin;(iterate 2 (focus (simp only [ee,Nat.reduceEqDiff];try rfl);done));(focus rfl))
        |(apply R_shl;(iterate 2 (focus (simp only [ee,Nat.reduceEqDiff];try rfl);done));(focus omega))
        |(apply R_shr;(iterate 2 (focus (simp only [ee,Nat.reduceEqDiff];try rfl);done));(focus omega))
        |(apply R_append_tip;(focus (simp only [mkInfoAll];try rfl);done);(focus (simp only [ee,Nat.reduceEqDiff];try rfl);done);(focus (first|exact src_row (by (simp only [ee,Nat.reduceEqDiff];first|done|rfl)) rfl (by (simp only [elemSzAll];first|done|rfl)) (by first|rfl|simp)|exact src_nil (by (simp only [ee,Nat.reduceEqDiff];first|done|rfl)) (by (simp only [elemSzAll];first|done|rfl)));done);(focus (simp only [ee,zz,Nat.reduceEqDiff,arrB];try rfl);done);(iterate 2 (focus omega)))
        |(apply R_append_nil;(focus (simp only [mkInfoAll];try rfl);done);(focus (simp only [ee,Nat.reduceEqDiff];try rfl);done);(focus (first|exact src_row (by (simp only [ee,Nat.reduceEqDiff];first|done|rfl)) rfl (by (simp only [elemSzAll];first|done|rfl)) (by first|rfl|simp)|exact src_nil (by (simp only [ee,Nat.reduceEqDiff];first|done|rfl)) (by (simp only [elemSzAll];first|done|rfl)));done);(focus (simp only [ee,zz,Nat.reduceEqDiff,arrB];try rfl);done);(iterate 2 (focus omega)))
        |(apply R_make;(focus (simp only [mkInfoAll];try rfl);done);(iterate 2 (focus (simp only [ee,Nat.reduceEqDiff];try rfl);done));(iterate 3 (focus omega));(focus (simp only [hh,Nat.reduceAdd];try rfl);done);(focus rfl);(focus (simp only [hh,Nat.reduceAdd];try rfl);done))
        |(apply R_max;(iterate 2 (focus (simp only [ee,Nat.reduceEqDiff];try rfl);done)))
        |(apply R_min;(iterate 2 (focus (simp only [ee,Nat.reduceEqDiff];try rfl);done)))
        |(apply R_alloc;(focus (simp only [zeroCAll];try rfl);done);(iterate 2 (focus (simp only [hh,Nat.reduceAdd];try rfl);done)))
        |(apply R_box;(focus (simp only [ee,Nat.reduceEqDiff];try rfl);done);(focus rfl);(iterate 2 (focus (simp only [hh,Nat.reduceAdd];try rfl);done)))
        |(apply R_skip;(focus first|exact wantA_f1 rfl rfl rfl (by (simp only [ee,Nat.reduceEqDiff];first|done|rfl)) (by first|rfl|assumption)|exact wantA_f0 rfl rfl rfl (by (simp only [ee,Nat.reduceEqDiff];first|done|rfl)) (by first|rfl|assumption)|exact wantA_und rfl rfl rfl (by (simp only [ee,Nat.reduceEqDiff];first|done|rfl))))
        |((with_reducible apply W_condT);(focus (simp only [ee,Nat.reduceEqDiff];try rfl);done);(focus exact (by first|rfl|assumption)))
        |((with_reducible apply W_condF);(focus (simp only [ee,Nat.reduceEqDiff];try rfl);done);(focus exact (by first|rfl|assumption)))
        |((with_reducible apply W_cond);(focus (simp only [ee,Nat.reduceEqDiff];try rfl);done);(all_goals (intro hbq;(first|(cases hbq;done)|(cases hbq)|(have hpq := of_decide_eq_true hbq)|(have hpq := of_decide_eq_false hbq)|skip))))
        |(apply WR_gsplit;(iterate 3 (focus rfl));(focus (simp only [ee,Nat.reduceEqDiff];try rfl);done);(all_goals (intro hbq;(first|(cases hbq;done)|(cases hbq)|(have hpq := of_decide_eq_true hbq)|(have hpq := of_decide_eq_false hbq)|skip))))
        |((with_reducible apply Ret_i);(focus trivial);(focus rfl);(focus (repeat (first|exact res_nil|(apply res_tmp;(focus (simp only [ee,Nat.reduceEqDiff];try rfl);done);(focus rfl);(focus (simp only [zz];try rfl);done))|(apply res_celln;(focus (simp only [tszAll];try rfl);done);(focus (simp only [ee,Nat.reduceEqDiff];try rfl);done);(focus (simp only [hh,Nat.reduceAdd];try rfl);done);(focus exact Nat.le_of_ble_eq_true rfl);(focus rfl);(focus (simp only [zz];try rfl);done))|(apply res_cell1;(focus (simp only [tszAll];try rfl);done);(focus (simp only [ee,Nat.reduceEqDiff];try rfl);done);(focus (simp only [hh,Nat.reduceAdd];try rfl);done);(focus rfl);(focus (simp only [zz];try rfl);done))));done))
        |((with_reducible apply RetP_i);(focus trivial);(focus rfl);(focus (repeat (first|exact res_nil|(apply res_tmp;(focus (simp only [ee,Nat.reduceEqDiff];try rfl);done);(focus rfl);(focus (simp only [zz];try rfl);done))|(apply res_celln;(focus (simp only [tszAll];try rfl);done);(focus (simp only [ee,Nat.reduceEqDiff];try rfl);done);(focus (simp only [hh,Nat.reduceAdd];try rfl);done);(focus exact Nat.le_of_ble_eq_true rfl);(focus rfl);(focus (simp only [zz];try rfl);done))|(apply res_cell1;(focus (simp only [tszAll];try rfl);done);(focus (simp only [ee,Nat.reduceEqDiff];try rfl);done);(focus (simp only [hh,Nat.reduceAdd];try rfl);done);(focus rfl);(focus (simp only [zz];try rfl);done))));done);(focus (simp only [hh,Nat.reduceAdd];try rfl);done)))
      all_goals (try simp only [H_put, H_setH, H_of, packT, TVal.a, List.length_cons, List.length_nil, Nat.zero_add, List.take_succ_cons, List.take_zero, List.map_cons, List.map_nil, fzT, fzC_f])
      all_goals simp only [decOf, if_neg hdr]
      all_goals clear hN hS hC
      all_goals (try rw [hw] at *)
      all_goals (repeat' split)
      all_goals first
        | rfl
        | (simp only [aDec, cLay, cRow, lA, lB, lC, lD]; rfl)
        | (exfalso; simp_all; done)
        | (exfalso; simp_all; omega)
  · have hdr : ¬ (c1.short = false ∧ (m.toList == rpl.toList) = false) := by
      rintro ⟨q1, q2⟩
      by_cases h4 : 4 ≤ s.size
      · obtain ⟨_, q3⟩ := hh1 h4
        rw [q3] at q2
        first
          | (rw [show (s.extract (Int.toNat 0) (Int.toNat 4)).toList = (s.extract 0 4).toList from rfl] at hbq
             simp only [rpl] at q2
             rw [q2] at hbq
             cases hbq)
          | (exfalso; omega)
      · rw [hh2 (by omega)] at q1; cases q1
    clear hh1 hh2 hB
    rw [e4]
    refine W_loopX (fun i : Nat => St.of [some [.f .nils, .f .nils, .f .nils, .f .nils], some (loopN Cur.stepN c4 i).2.box, some [.tip 1 ((loopN Cur.stepN c4 i).1.flatMap fStr) i, .f .nils, .f .nils, .f .nils]] [(0, aS s), (2, .c (.ptr 0 0)), (5, .c (.ptr 1 0)), (10, .c (.ptr 2 0)), (6, i64 (c1.n 1)), (7, i64 ((c1.af 1).n 1)), (8, i64 (((c1.af 1).af 1).n 1)), (9, i64 ((((c1.af 1).af 1).af 1).n 1)), (11, i64 i)]) (fun i => i ≤ c1.n 1) (fun i => c1.n 1 - i) 0 0 (fun i : Nat => St.of [some [.f .nils, .f .nils, .f .nils, .f .nils], some (loopN Cur.stepN c4 i).2.box, some [.tip 1 ((loopN Cur.stepN c4 i).1.flatMap fStr) i, .f .nils, .f .nils, .f .nils]] [(0, aS s), (2, .c (.ptr 0 0)), (5, .c (.ptr 1 0)), (10, .c (.ptr 2 0)), (7, i64 ((c1.af 1).n 1)), (8, i64 (((c1.af 1).af 1).n 1)), (9, i64 ((((c1.af 1).af 1).af 1).n 1))]) (fun i => i ≤ c1.n 1 ∧ (i = c1.n 1 ∨ (loopN Cur.stepN c4 i).2.short = true)) ?_ (by omega) (KCl_block KCl_seq) ?_ ?_
    ·
      refine weak_agG (by (simp only [hh,Nat.reduceAdd];first|done|rfl)) (Nat.le_of_ble_eq_true rfl) (Nat.le_of_ble_eq_true rfl) rfl rfl ?_ ?_;(focus (simp only [List.length_cons,List.length_nil,Nat.zero_add,Nat.reduceAdd,List.take_succ_cons,List.take_zero,List.take_nil]));(repeat' (first|exact LeH.nil|(with_reducible apply LeH.some)|(with_reducible apply LeH.none)|(with_reducible exact LeL.refl _)|exact LeL.nil|(with_reducible apply LeL.cons)|(with_reducible exact CVal.Le.refl _)|(with_reducible exact CVal.Le.nil_row)|(with_reducible exact CVal.Le.nil_tip _)|(with_reducible exact CVal.Le.tip_row _ _ _)|(exact CVal.Le.nil_row)|(exact CVal.Le.nil_tip _)|(with_reducible apply CVal.Le.of_eq)|(with_reducible apply LeL.of_eq)))
      (repeat' (first|exact trivial|(refine And.intro ?_ ?_)|(refine ⟨_, by (simp only [ee,Nat.reduceEqDiff];first|done|rfl), ?_⟩)|(first|(with_reducible exact LeS.refl _)|(with_reducible exact LeS.nil_row)|(with_reducible exact LeS.nil_tip _)|(with_reducible exact LeS.tip_row _ _ _)|(exact LeS.nil_row)|(exact LeS.nil_tip _)|(refine LeS.of_eq ?_))));(all_goals (try rfl))
    · intro i1 l1
      have hcA := loopN_ok stepN_ok hc4 i1
      obtain ⟨A, eA⟩ : ∃ A, loopN Cur.stepN c4 i1 = A := ⟨_, rfl⟩
      rw [eA] at hcA
      simp only [i64, aS, eA]
      repeat' (first
        |with_reducible refine WR_pp ?_
        |with_reducible refine WR_pd ?_
        |with_reducible refine W_seq ?_
        |with_reducible refine seqK_n ?_
        |with_reducible refine seqK_r ?_
        |with_reducible refine seqK_e ?_
        |with_reducible refine W_block ?_
        |with_reducible refine blockK_n ?_
        |with_reducible refine blockK_e rfl ?_
        |with_reducible refine blockK_r ?_
        |with_reducible refine blockK_o (by decide) ?_
        |with_reducible refine LoopK_e ?_
        |with_reducible refine LoopK_r ?_
        |with_reducible refine LoopX_e (by decide) ?_
        |with_reducible refine LoopX_r ?_
        |with_reducible refine W_skip ?_
        |with_reducible refine W_exit ?_
        |with_reducible refine W_ret ?_
        |with_reducible refine W_region (WOps_WR ?_)
        |with_reducible refine W_draw (WOpsD_WR ?_)
        |with_reducible refine WR_nil ?_
        |(apply R_callB Cur.box curD;(focus rfl);(focus (apply Eq.trans;(focus (repeat (first|exact args_n|(apply args_c;(focus (simp only [ee,Nat.reduceEqDiff];try rfl);done))));done);(focus (simp only [zz];try rfl);done)));(focus (simp only [hh,Nat.reduceAdd];try rfl);done);(focus exact (rd_name _ (by repeat (first | assumption | apply Cur.af_ok | apply Cur.afn_ok))));(iterate 2 (focus rfl));(focus (simp only [hh,Nat.reduceAdd];try rfl);done))
        |(apply WR_nilD;(focus kernel_rfl))
        |(apply R_want;(focus exact wantA_t rfl rfl rfl (by (simp only [ee,Nat.reduceEqDiff];first|done|rfl)) (by first|rfl|assumption)))
        |(apply R_move;(focus (simp only [ee,Nat.reduceEqDiff];try rfl);done);(focus rfl))
        |(apply R_assign;(focus (simp only [ee,Nat.reduceEqDiff];try rfl);done);(focus rfl))
        |(apply R_assign_tip;(focus (simp only [ee,Nat.reduceEqDiff];try rfl);done))
        |(apply R_move_tip;(focus rfl);(focus (simp only [ee,Nat.reduceEqDiff];try rfl);done))
        |(apply R_move_row;(focus rfl);(focus (simp only [ee,Nat.reduceEqDiff];try rfl);done))
        |(apply R_nil_ptr;(focus (simp only [ee,Nat.reduceEqDiff];try rfl);done))
        |(apply R_fa_ptr;(focus (simp only [fldOffAll];try rfl);done);(focus (simp only [ee,Nat.reduceEqDiff];try rfl);done);(focus (simp only [Nat.reduceAdd,Nat.zero_add,Nat.reduceMul];try rfl);done))
        |(apply R_load_tip;(focus rfl);(focus (simp only [tszAll];try rfl);done);(focus (simp only [ee,Nat.reduceEqDiff];try rfl);done);(focus (simp only [hh,Nat.reduceAdd];try rfl);done);(focus rfl);(focus (simp only [hh,Nat.reduceAdd];try rfl);done))
        |(apply R_load_ptr1;(focus (simp only [tszAll];try rfl);done);(focus (simp only [ee,Nat.reduceEqDiff];try rfl);done);(focus (simp only [hh,Nat.reduceAdd];try rfl);done);(iterate 2 (focus rfl)))
        |(apply R_load_dem;(focus rfl);(focus (simp only [tszAll];try rfl);done);(focus (simp only [ee,Nat.reduceEqDiff];try rfl);done);(focus (simp only [hh,Nat.reduceAdd];try rfl);done);(focus rfl))
        |(apply R_load_ptrn;(focus (simp only [tszAll];try rfl);done);(focus (simp only [ee,Nat.reduceEqDiff];try rfl);done);(focus (simp only [hh,Nat.reduceAdd];try rfl);done);(focus exact Nat.le_of_ble_eq_true rfl);(focus rfl))
        |(apply R_store_tip;(focus (simp only [tszAll];try rfl);done);(focus (simp only [ee,Nat.reduceEqDiff];try rfl);done);(focus (simp only [hh,Nat.reduceAdd];try rfl);done);(focus (simp only [ee,Nat.reduceEqDiff];try rfl);done);(focus rfl);(focus (simp only [hh,Nat.reduceAdd];try rfl);done))
        |(apply R_store;(focus (simp only [tszAll];try rfl);done);(focus (simp only [ee,Nat.reduceEqDiff];try rfl);done);(focus (simp only [hh,Nat.reduceAdd];try rfl);done);(focus (simp only [ee,Nat.reduceEqDiff];try rfl);done);(iterate 2 (focus rfl));(focus exact ⟨rfl,Nat.le_of_ble_eq_true rfl⟩);(focus (simp only [hh,Nat.reduceAdd];try rfl);done))
        |(apply R_add;(iterate 2 (focus (simp only [ee,Nat.reduceEqDiff];try rfl);done));(iterate 2 (focus omega)))
        |(apply R_sub;(iterate 2 (focus (simp only [ee,Nat.reduceEqDiff];try rfl);done));(iterate 2 (focus omega)))
        |(apply R_quo;(iterate 2 (focus (simp only [ee,Nat.reduceEqDiff];try rfl);done));(iterate 3 (focus omega)))
        |(apply R_rem;(iterate 2 (focus (simp only [ee,Nat.reduceEqDiff];try rfl);done));(iterate 2 (focus omega)))
        |(apply R_ibin;(iterate 2 (focus (simp only [ee,Nat.reduceEqDiff];try rfl);done));(focus rfl))
        |(apply R_un;(focus (simp only [ee,Nat.reduceEqDiff];try rfl);done);(focus rfl))
        |(apply R_pickT;(focus (simp only [ee,Nat.reduceEqDiff];try rfl);done);(focus exact (by first|rfl|assumption));(focus (simp only [ee,Nat.reduceEqDiff];try rfl);done);(focus rfl))
        |(apply R_pickF;(focus (simp only [ee,Nat.reduceEqDiff];try rfl);done);(focus exact (by first|rfl|assumption));(focus (simp only [ee,Nat.reduceEqDiff];try rfl);done);(focus rfl))
        |(apply R_build;(focus (simp only [bInfoAll];try rfl);done);(focus (repeat (first|exact partsC_n|(apply partsC_c;(focus (simp only [ee,Nat.reduceEqDiff];try rfl);done);(focus rfl))));done);(focus rfl))
        |(apply R_buildSlice;(focus (simp only [mkInfoAll];try rfl);done);(focus (repeat (first|exact partsC_n|(apply partsC_c;(focus (simp only [ee,Nat.reduceEqDiff];try rfl);done);(focus rfl))));done);(focus decide);(iterate 2 (focus rfl)))
        |(apply R_append_tip;(focus (simp only [mkInfoAll];try rfl);done);(focus (simp only [ee,Nat.reduceEqDiff];try rfl);done);(focus (first|exact src_row (by (simp only [ee,Nat.reduceEqDiff];first|done|rfl)) rfl (by (simp only [elemSzAll];first|done|rfl)) (by first|rfl|simp)|exact src_nil (by (simp only [ee,Nat.reduceEqDiff];first|done|rfl)) (by (simp only [elemSzAll];first|done|rfl)));done);(focus (simp only [ee,zz,Nat.reduceEqDiff,arrB];try rfl);done);(iterate 2 (focus omega)))
        |(apply R_append_nil;(focus (simp only [mkInfoAll];try rfl);done);(focus (simp only [ee,Nat.reduceEqDiff];try rfl);done);(focus (first|exact src_row (by (simp only [ee,Nat.reduceEqDiff];first|done|rfl)) rfl (by (simp only [elemSzAll];first|done|rfl)) (by first|rfl|simp)|exact src_nil (by (simp only [ee,Nat.reduceEqDiff];first|done|rfl)) (by (simp only [elemSzAll];first|done|rfl)));done);(focus (simp only [ee,zz,Nat.reduceEqDiff,arrB];try rfl);done);(iterate 2 (focus omega)))
        |(apply R_alloc;(focus (simp only [zeroCAll];try rfl);done);(iterate 2 (focus (simp only [hh,Nat.reduceAdd];try rfl);done)))
        |(apply R_box;(focus (simp only [ee,Nat.reduceEqDiff];try rfl);done);(focus rfl);(iterate 2 (focus (simp only [hh,Nat.reduceAdd];try rfl);done)))
        |(apply R_skip;(focus first|exact wantA_f1 rfl rfl rfl (by (simp only [ee,Nat.reduceEqDiff];first|done|rfl)) (by first|rfl|assumption)|exact wantA_f0 rfl rfl rfl (by (simp only [ee,Nat.reduceEqDiff];first|done|rfl)) (by first|rfl|assumption)|exact wantA_und rfl rfl rfl (by (simp only [ee,Nat.reduceEqDiff];first|done|rfl))))
        |((with_reducible apply W_condT);(focus (simp only [ee,Nat.reduceEqDiff];try rfl);done);(focus exact (by first|rfl|assumption)))
        |((with_reducible apply W_condF);(focus (simp only [ee,Nat.reduceEqDiff];try rfl);done);(focus exact (by first|rfl|assumption)))
        |((with_reducible apply W_cond);(focus (simp only [ee,Nat.reduceEqDiff];try rfl);done);(all_goals (intro hbq;(first|(cases hbq;done)|(cases hbq)|(have hpq := of_decide_eq_true hbq)|(have hpq := of_decide_eq_false hbq)|skip))))
        |(apply WR_gsplit;(iterate 3 (focus rfl));(focus (simp only [ee,Nat.reduceEqDiff];try rfl);done);(all_goals (intro hbq;(first|(cases hbq;done)|(cases hbq)|(have hpq := of_decide_eq_true hbq)|(have hpq := of_decide_eq_false hbq)|skip))))
        |((with_reducible apply Ret_i);(focus trivial);(focus rfl);(focus (repeat (first|exact res_nil|(apply res_tmp;(focus (simp only [ee,Nat.reduceEqDiff];try rfl);done);(focus rfl);(focus (simp only [zz];try rfl);done))|(apply res_celln;(focus (simp only [tszAll];try rfl);done);(focus (simp only [ee,Nat.reduceEqDiff];try rfl);done);(focus (simp only [hh,Nat.reduceAdd];try rfl);done);(focus exact Nat.le_of_ble_eq_true rfl);(focus rfl);(focus (simp only [zz];try rfl);done))|(apply res_cell1;(focus (simp only [tszAll];try rfl);done);(focus (simp only [ee,Nat.reduceEqDiff];try rfl);done);(focus (simp only [hh,Nat.reduceAdd];try rfl);done);(focus rfl);(focus (simp only [zz];try rfl);done))));done))
        |((with_reducible apply RetP_i);(focus trivial);(focus rfl);(focus (repeat (first|exact res_nil|(apply res_tmp;(focus (simp only [ee,Nat.reduceEqDiff];try rfl);done);(focus rfl);(focus (simp only [zz];try rfl);done))|(apply res_celln;(focus (simp only [tszAll];try rfl);done);(focus (simp only [ee,Nat.reduceEqDiff];try rfl);done);(focus (simp only [hh,Nat.reduceAdd];try rfl);done);(focus exact Nat.le_of_ble_eq_true rfl);(focus rfl);(focus (simp only [zz];try rfl);done))|(apply res_cell1;(focus (simp only [tszAll];try rfl);done);(focus (simp only [ee,Nat.reduceEqDiff];try rfl);done);(focus (simp only [hh,Nat.reduceAdd];try rfl);done);(focus rfl);(focus (simp only [zz];try rfl);done))));done);(focus (simp only [hh,Nat.reduceAdd];try rfl);done)))
      ·
        refine LoopX_n (i1 + 1) ?_ ?_ ?_
        rotate_left
        · (try dsimp only); omega
        · (try dsimp only); omega
        refine weak_agG (by (simp only [hh,Nat.reduceAdd];first|done|rfl)) (Nat.le_of_ble_eq_true rfl) (Nat.le_of_ble_eq_true rfl) rfl rfl ?_ ?_;(focus (simp only [List.length_cons,List.length_nil,Nat.zero_add,Nat.reduceAdd,List.take_succ_cons,List.take_zero,List.take_nil]));(repeat' (first|exact LeH.nil|(with_reducible apply LeH.some)|(with_reducible apply LeH.none)|(with_reducible exact LeL.refl _)|exact LeL.nil|(with_reducible apply LeL.cons)|(with_reducible exact CVal.Le.refl _)|(with_reducible exact CVal.Le.nil_row)|(with_reducible exact CVal.Le.nil_tip _)|(with_reducible exact CVal.Le.tip_row _ _ _)|(exact CVal.Le.nil_row)|(exact CVal.Le.nil_tip _)|(with_reducible apply CVal.Le.of_eq)|(with_reducible apply LeL.of_eq)))
        (repeat' (first|exact trivial|(refine And.intro ?_ ?_)|(refine ⟨_, by (simp only [ee,Nat.reduceEqDiff];first|done|rfl), ?_⟩)|(first|(with_reducible exact LeS.refl _)|(with_reducible exact LeS.nil_row)|(with_reducible exact LeS.nil_tip _)|(with_reducible exact LeS.tip_row _ _ _)|(exact LeS.nil_row)|(exact LeS.nil_tip _)|(refine LeS.of_eq ?_))));(all_goals (try rfl))
        all_goals (simp [loopN, eA, Cur.stepN, fStr, fS]; done)
      ·
        refine LoopX_x (i1) rfl ?_ ?_
        rotate_left
        · exact ⟨l1, .inr (by rw [eA]; simpa using hbq)⟩
        refine weak_agG (by (simp only [hh,Nat.reduceAdd];first|done|rfl)) (Nat.le_of_ble_eq_true rfl) (Nat.le_of_ble_eq_true rfl) rfl rfl ?_ ?_;(focus (simp only [List.length_cons,List.length_nil,Nat.zero_add,Nat.reduceAdd,List.take_succ_cons,List.take_zero,List.take_nil]));(repeat' (first|exact LeH.nil|(with_reducible apply LeH.some)|(with_reducible apply LeH.none)|(with_reducible exact LeL.refl _)|exact LeL.nil|(with_reducible apply LeL.cons)|(with_reducible exact CVal.Le.refl _)|(with_reducible exact CVal.Le.nil_row)|(with_reducible exact CVal.Le.nil_tip _)|(with_reducible exact CVal.Le.tip_row _ _ _)|(exact CVal.Le.nil_row)|(exact CVal.Le.nil_tip _)|(with_reducible apply CVal.Le.of_eq)|(with_reducible apply LeL.of_eq)))
        (repeat' (first|exact trivial|(refine And.intro ?_ ?_)|(refine ⟨_, by (simp only [ee,Nat.reduceEqDiff];first|done|rfl), ?_⟩)|(first|(with_reducible exact LeS.refl _)|(with_reducible exact LeS.nil_row)|(with_reducible exact LeS.nil_tip _)|(with_reducible exact LeS.tip_row _ _ _)|(exact LeS.nil_row)|(exact LeS.nil_tip _)|(refine LeS.of_eq ?_))));(all_goals (try rfl))
        all_goals (simp [eA]; done)
      ·
        refine LoopX_x (i1) rfl ?_ ?_
        rotate_left
        · exact ⟨l1, .inl (by omega)⟩
        refine weak_agG (by (simp only [hh,Nat.reduceAdd];first|done|rfl)) (Nat.le_of_ble_eq_true rfl) (Nat.le_of_ble_eq_true rfl) rfl rfl ?_ ?_;(focus (simp only [List.length_cons,List.length_nil,Nat.zero_add,Nat.reduceAdd,List.take_succ_cons,List.take_zero,List.take_nil]));(repeat' (first|exact LeH.nil|(with_reducible apply LeH.some)|(with_reducible apply LeH.none)|(with_reducible exact LeL.refl _)|exact LeL.nil|(with_reducible apply LeL.cons)|(with_reducible exact CVal.Le.refl _)|(with_reducible exact CVal.Le.nil_row)|(with_reducible exact CVal.Le.nil_tip _)|(with_reducible exact CVal.Le.tip_row _ _ _)|(exact CVal.Le.nil_row)|(exact CVal.Le.nil_tip _)|(with_reducible apply CVal.Le.of_eq)|(with_reducible apply LeL.of_eq)))
        (repeat' (first|exact trivial|(refine And.intro ?_ ?_)|(refine ⟨_, by (simp only [ee,Nat.reduceEqDiff];first|done|rfl), ?_⟩)|(first|(with_reducible exact LeS.refl _)|(with_reducible exact LeS.nil_row)|(with_reducible exact LeS.nil_tip _)|(with_reducible exact LeS.tip_row _ _ _)|(exact LeS.nil_row)|(exact LeS.nil_tip _)|(refine LeS.of_eq ?_))));(all_goals (try rfl))
        all_goals (simp [eA]; done)
    intro i1 hX1
    obtain ⟨l1, x1⟩ := hX1
    have hcA := loopN_ok stepN_ok hc4 i1
    revert x1 hcA
    obtain ⟨A, eA⟩ : ∃ A, loopN Cur.stepN c4 i1 = A := ⟨_, rfl⟩
    rw [eA]
    intro x1 hcA
    simp only [i64, aS]
    repeat' (first
      |with_reducible refine WR_pp ?_
      |with_reducible refine WR_pd ?_
      |with_reducible refine W_seq ?_
      |with_reducible refine seqK_n ?_
      |with_reducible refine seqK_r ?_
      |with_reducible refine seqK_e ?_
      |with_reducible refine W_block ?_
      |with_reducible refine blockK_n ?_
      |with_reducible refine blockK_e rfl ?_
      |with_reducible refine blockK_r ?_
      |with_reducible refine blockK_o (by decide) ?_
      |with_reducible refine LoopK_e ?_
      |with_reducible refine LoopK_r ?_
      |with_reducible refine LoopX_e (by decide) ?_
      |with_reducible refine LoopX_r ?_
      |with_reducible refine W_skip ?_
      |with_reducible refine W_exit ?_
      |with_reducible refine W_ret ?_
      |with_reducible refine W_region (WOps_WR ?_)
      |with_reducible refine W_draw (WOpsD_WR ?_)
      |with_reducible refine WR_nil ?_
      |(apply WR_nilD;(focus kernel_rfl))
      |(apply R_want;(focus exact wantA_t rfl rfl rfl (by (simp only [ee,Nat.reduceEqDiff];first|done|rfl)) (by first|rfl|assumption)))
      |(apply R_move;(focus (simp only [ee,Nat.reduceEqDiff];try rfl);done);(focus rfl))
      |(apply R_assign;(focus (simp only [ee,Nat.reduceEqDiff];try rfl);done);(focus rfl))
      |(apply R_assign_tip;(focus (simp only [ee,Nat.reduceEqDiff];try rfl);done))
      |(apply R_move_tip;(focus rfl);(focus (simp only [ee,Nat.reduceEqDiff];try rfl);done))
      |(apply R_move_row;(focus rfl);(focus (simp only [ee,Nat.reduceEqDiff];try rfl);done))
      |(apply R_nil_ptr;(focus (simp only [ee,Nat.reduceEqDiff];try rfl);done))
      |(apply R_fa_ptr;(focus (simp only [fldOffAll];try rfl);done);(focus (simp only [ee,Nat.reduceEqDiff];try rfl);done);(focus (simp only [Nat.reduceAdd,Nat.zero_add,Nat.reduceMul];try rfl);done))
      |(apply R_load_tip;(focus rfl);(focus (simp only [tszAll];try rfl);done);(focus (simp only [ee,Nat.reduceEqDiff];try rfl);done);(focus (simp only [hh,Nat.reduceAdd];try rfl);done);(focus rfl);(focus (simp only [hh,Nat.reduceAdd];try rfl);done))
      |(apply R_load_ptr1;(focus (simp only [tszAll];try rfl);done);(focus (simp only [ee,Nat.reduceEqDiff];try rfl);done);(focus (simp only [hh,Nat.reduceAdd];try rfl);done);(iterate 2 (focus rfl)))
      |(apply R_load_dem;(focus rfl);(focus (simp only [tszAll];try rfl);done);(focus (simp only [ee,Nat.reduceEqDiff];try rfl);done);(focus (simp only [hh,Nat.reduceAdd];try rfl);done);(focus rfl))
      |(apply R_load_ptrn;(focus (simp only [tszAll];try rfl);done);(focus (simp only [ee,Nat.reduceEqDiff];try rfl);done);(focus (simp only [hh,Nat.reduceAdd];try rfl);done);(focus exact Nat.le_of_ble_eq_true rfl);(focus rfl))
      |(apply R_store_tip;(focus (simp only [tszAll];try rfl);done);(focus (simp only [ee,Nat.reduceEqDiff];try rfl);done);(focus (simp only [hh,Nat.reduceAdd];try rfl);done);(focus (simp only [ee,Nat.reduceEqDiff];try rfl);done);(focus rfl);(focus (simp only [hh,Nat.reduceAdd];try rfl);done))
      |(apply R_store;(focus (simp only [tszAll];try rfl);done);(focus (simp only [ee,Nat.reduceEqDiff];try rfl);done);(focus (simp only [hh,Nat.reduceAdd];try rfl);done);(focus (simp only [ee,Nat.reduceEqDiff];try rfl);done);(iterate 2 (focus rfl));(focus exact ⟨rfl,Nat.le_of_ble_eq_true rfl⟩);(focus (simp only [hh,Nat.reduceAdd];try rfl);done))
      |(apply R_add;(iterate 2 (focus (simp only [ee,Nat.reduceEqDiff];try rfl);done));(iterate 2 (focus omega)))
      |(apply R_sub;(iterate 2 (focus (simp only [ee,Nat.reduceEqDiff];try rfl);done));(iterate 2 (focus omega)))
      |(apply R_quo;(iterate 2 (focus (simp only [ee,Nat.reduceEqDiff];try rfl);done));(iterate 3 (focus omega)))
      |(apply R_rem;(iterate 2 (focus (simp only [ee,Nat.reduceEqDiff];try rfl);done));(iterate 2 (focus omega)))
      |(apply R_ibin;(iterate 2 (focus (simp only [ee,Nat.reduceEqDiff];try rfl);done));(focus rfl))
      |(apply R_un;(focus (simp only [ee,Nat.reduceEqDiff];try rfl);done);(focus rfl))
      |(apply R_pickT;(focus (simp only [ee,Nat.reduceEqDiff];try rfl);done);(focus exact (by first|rfl|assumption));(focus (simp only [ee,Nat.reduceEqDiff];try rfl);done);(focus rfl))
      |(apply R_pickF;(focus (simp only [ee,Nat.reduceEqDiff];try rfl);done);(focus exact (by first|rfl|assumption));(focus (simp only [ee,Nat.reduceEqDiff];try rfl);done);(focus rfl))
      |(apply R_build;(focus (simp only [bInfoAll];try rfl);done);(focus (repeat (first|exact partsC_n|(apply partsC_c;(focus (simp only [ee,Nat.reduceEqDiff];try rfl);done);(focus rfl))));done);(focus rfl))
      |(apply R_buildSlice;(focus (simp only [mkInfoAll];try rfl);done);(focus (repeat (first|exact partsC_n|(apply partsC_c;(focus (simp only [ee,Nat.reduceEqDiff];try rfl);done);(focus rfl))));done);(focus decide);(iterate 2 (focus rfl)))
      |(apply R_append_tip;(focus (simp only [mkInfoAll];try rfl);done);(focus (simp only [ee,Nat.reduceEqDiff];try rfl);done);(focus (first|exact src_row (by (simp only [ee,Nat.reduceEqDiff];first|done|rfl)) rfl (by (simp only [elemSzAll];first|done|rfl)) (by first|rfl|simp)|exact src_nil (by (simp only [ee,Nat.reduceEqDiff];first|done|rfl)) (by (simp only [elemSzAll];first|done|rfl)));done);(focus (simp only [ee,zz,Nat.reduceEqDiff,arrB];try rfl);done);(iterate 2 (focus omega)))
      |(apply R_append_nil;(focus (simp only [mkInfoAll];try rfl);done);(focus (simp only [ee,Nat.reduceEqDiff];try rfl);done);(focus (first|exact src_row (by (simp only [ee,Nat.reduceEqDiff];first|done|rfl)) rfl (by (simp only [elemSzAll];first|done|rfl)) (by first|rfl|simp)|exact src_nil (by (simp only [ee,Nat.reduceEqDiff];first|done|rfl)) (by (simp only [elemSzAll];first|done|rfl)));done);(focus (simp only [ee,zz,Nat.reduceEqDiff,arrB];try rfl);done);(iterate 2 (focus omega)))
      |(apply R_alloc;(focus (simp only [zeroCAll];try rfl);done);(iterate 2 (focus (simp only [hh,Nat.reduceAdd];try rfl);done)))
      |(apply R_box;(focus (simp only [ee,Nat.reduceEqDiff];try rfl);done);(focus rfl);(iterate 2 (focus (simp only [hh,Nat.reduceAdd];try rfl);done)))
      |(apply R_skip;(focus first|exact wantA_f1 rfl rfl rfl (by (simp only [ee,Nat.reduceEqDiff];first|done|rfl)) (by first|rfl|assumption)|exact wantA_f0 rfl rfl rfl (by (simp only [ee,Nat.reduceEqDiff];first|done|rfl)) (by first|rfl|assumption)|exact wantA_und rfl rfl rfl (by (simp only [ee,Nat.reduceEqDiff];first|done|rfl))))
      |((with_reducible apply W_condT);(focus (simp only [ee,Nat.reduceEqDiff];try rfl);done);(focus exact (by first|rfl|assumption)))
      |((with_reducible apply W_condF);(focus (simp only [ee,Nat.reduceEqDiff];try rfl);done);(focus exact (by first|rfl|assumption)))
      |((with_reducible apply W_cond);(focus (simp only [ee,Nat.reduceEqDiff];try rfl);done);(all_goals (intro hbq;(first|(cases hbq;done)|(cases hbq)|(have hpq := of_decide_eq_true hbq)|(have hpq := of_decide_eq_false hbq)|skip))))
      |(apply WR_gsplit;(iterate 3 (focus rfl));(focus (simp only [ee,Nat.reduceEqDiff];try rfl);done);(all_goals (intro hbq;(first|(cases hbq;done)|(cases hbq)|(have hpq := of_decide_eq_true hbq)|(have hpq := of_decide_eq_false hbq)|skip))))
      |((with_reducible apply Ret_i);(focus trivial);(focus rfl);(focus (repeat (first|exact res_nil|(apply res_tmp;(focus (simp only [ee,Nat.reduceEqDiff];try rfl);done);(focus rfl);(focus (simp only [zz];try rfl);done))|(apply res_celln;(focus (simp only [tszAll];try rfl);done);(focus (simp only [ee,Nat.reduceEqDiff];try rfl);done);(focus (simp only [hh,Nat.reduceAdd];try rfl);done);(focus exact Nat.le_of_ble_eq_true rfl);(focus rfl);(focus (simp only [zz];try rfl);done))|(apply res_cell1;(focus (simp only [tszAll];try rfl);done);(focus (simp only [ee,Nat.reduceEqDiff];try rfl);done);(focus (simp only [hh,Nat.reduceAdd];try rfl);done);(focus rfl);(focus (simp only [zz];try rfl);done))));done))
      |((with_reducible apply RetP_i);(focus trivial);(focus rfl);(focus (repeat (first|exact res_nil|(apply res_tmp;(focus (simp only [ee,Nat.reduceEqDiff];try rfl);done);(focus rfl);(focus (simp only [zz];try rfl);done))|(apply res_celln;(focus (simp only [tszAll];try rfl);done);(focus (simp only [ee,Nat.reduceEqDiff];try rfl);done);(focus (simp only [hh,Nat.reduceAdd];try rfl);done);(focus exact Nat.le_of_ble_eq_true rfl);(focus rfl);(focus (simp only [zz];try rfl);done))|(apply res_cell1;(focus (simp only [tszAll];try rfl);done);(focus (simp only [ee,Nat.reduceEqDiff];try rfl);done);(focus (simp only [hh,Nat.reduceAdd];try rfl);done);(focus rfl);(focus (simp only [zz];try rfl);done))));done);(focus (simp only [hh,Nat.reduceAdd];try rfl);done)))
    refine W_loopX (fun i : Nat => St.of [some [.f .nils, .f .nils, .f .nils, .f .nils], some (loopN Cur.stepN A.2 i).2.box, some [.tip 1 (A.1.flatMap fStr) i1, .tip 1 ((loopN Cur.stepN A.2 i).1.flatMap fStr) i, .f .nils, .f .nils]] [(0, aS s), (2, .c (.ptr 0 0)), (5, .c (.ptr 1 0)), (10, .c (.ptr 2 0)), (7, i64 ((c1.af 1).n 1)), (8, i64 (((c1.af 1).af 1).n 1)), (9, i64 ((((c1.af 1).af 1).af 1).n 1)), (12, i64 i)]) (fun i => i ≤ (c1.af 1).n 1) (fun i => (c1.af 1).n 1 - i) 0 2 (fun i : Nat => St.of [some [.f .nils, .f .nils, .f .nils, .f .nils], some (loopN Cur.stepN A.2 i).2.box, some [.tip 1 (A.1.flatMap fStr) i1, .tip 1 ((loopN Cur.stepN A.2 i).1.flatMap fStr) i, .f .nils, .f .nils]] [(0, aS s), (2, .c (.ptr 0 0)), (5, .c (.ptr 1 0)), (10, .c (.ptr 2 0)), (8, i64 (((c1.af 1).af 1).n 1)), (9, i64 ((((c1.af 1).af 1).af 1).n 1))]) (fun i => i ≤ (c1.af 1).n 1 ∧ (i = (c1.af 1).n 1 ∨ (loopN Cur.stepN A.2 i).2.short = true)) ?_ (by omega) (KCl_block KCl_seq) ?_ ?_
    ·
      refine weak_agG (by (simp only [hh,Nat.reduceAdd];first|done|rfl)) (Nat.le_of_ble_eq_true rfl) (Nat.le_of_ble_eq_true rfl) rfl rfl ?_ ?_;(focus (simp only [List.length_cons,List.length_nil,Nat.zero_add,Nat.reduceAdd,List.take_succ_cons,List.take_zero,List.take_nil]));(repeat' (first|exact LeH.nil|(with_reducible apply LeH.some)|(with_reducible apply LeH.none)|(with_reducible exact LeL.refl _)|exact LeL.nil|(with_reducible apply LeL.cons)|(with_reducible exact CVal.Le.refl _)|(with_reducible exact CVal.Le.nil_row)|(with_reducible exact CVal.Le.nil_tip _)|(with_reducible exact CVal.Le.tip_row _ _ _)|(exact CVal.Le.nil_row)|(exact CVal.Le.nil_tip _)|(with_reducible apply CVal.Le.of_eq)|(with_reducible apply LeL.of_eq)))
      (repeat' (first|exact trivial|(refine And.intro ?_ ?_)|(refine ⟨_, by (simp only [ee,Nat.reduceEqDiff];first|done|rfl), ?_⟩)|(first|(with_reducible exact LeS.refl _)|(with_reducible exact LeS.nil_row)|(with_reducible exact LeS.nil_tip _)|(with_reducible exact LeS.tip_row _ _ _)|(exact LeS.nil_row)|(exact LeS.nil_tip _)|(refine LeS.of_eq ?_))));(all_goals (try rfl))
    · intro i2 l2
      have hcB := loopN_ok stepN_ok hcA i2
      obtain ⟨B, eB⟩ : ∃ B, loopN Cur.stepN A.2 i2 = B := ⟨_, rfl⟩
      rw [eB] at hcB
      simp only [i64, aS, eB]
      repeat' (first
        |with_reducible refine WR_pp ?_
        |with_reducible refine WR_pd ?_
        |with_reducible refine W_seq ?_
        |with_reducible refine seqK_n ?_
        |with_reducible refine seqK_r ?_
        |with_reducible refine seqK_e ?_
        |with_reducible refine W_block ?_
        |with_reducible refine blockK_n ?_
        |with_reducible refine blockK_e rfl ?_
        |with_reducible refine blockK_r ?_
        |with_reducible refine blockK_o (by decide) ?_
        |with_reducible refine LoopK_e ?_
        |with_reducible refine LoopK_r ?_
        |with_reducible refine LoopX_e (by decide) ?_
        |with_reducible refine LoopX_r ?_
        |with_reducible refine W_skip ?_
        |with_reducible refine W_exit ?_
        |with_reducible refine W_ret ?_
        |with_reducible refine W_region (WOps_WR ?_)
        |with_reducible refine W_draw (WOpsD_WR ?_)
        |with_reducible refine WR_nil ?_
        |(apply R_callB Cur.box curD;(focus rfl);(focus (apply Eq.trans;(focus (repeat (first|exact args_n|(apply args_c;(focus (simp only [ee,Nat.reduceEqDiff];try rfl);done))));done);(focus (simp only [zz];try rfl);done)));(focus (simp only [hh,Nat.reduceAdd];try rfl);done);(focus exact (rd_name _ (by repeat (first | assumption | apply Cur.af_ok | apply Cur.afn_ok))));(iterate 2 (focus rfl));(focus (simp only [hh,Nat.reduceAdd];try rfl);done))
        |(apply WR_nilD;(focus kernel_rfl))
        |(apply R_want;(focus exact wantA_t rfl rfl rfl (by (simp only [ee,Nat.reduceEqDiff];first|done|rfl)) (by first|rfl|assumption)))
        |(apply R_move;(focus (simp only [ee,Nat.reduceEqDiff];try rfl);done);(focus rfl))
        |(apply R_assign;(focus (simp only [ee,Nat.reduceEqDiff];try rfl);done);(focus rfl))
        |(apply R_assign_tip;(focus (simp only [ee,Nat.reduceEqDiff];try rfl);done))
        |(apply R_move_tip;(focus rfl);(focus (simp only [ee,Nat.reduceEqDiff];try rfl);done))
        |(apply R_move_row;(focus rfl);(focus (simp only [ee,Nat.reduceEqDiff];try rfl);done))
        |(apply R_nil_ptr;(focus (simp only [ee,Nat.reduceEqDiff];try rfl);done))
        |(apply R_fa_ptr;(focus (simp only [fldOffAll];try rfl);done);(focus (simp only [ee,Nat.reduceEqDiff];try rfl);done);(focus (simp only [Nat.reduceAdd,Nat.zero_add,Nat.reduceMul];try rfl);done))
        |(apply R_load_tip;(focus rfl);(focus (simp only [tszAll];try rfl);done);(focus (simp only [ee,Nat.reduceEqDiff];try rfl);done);(focus (simp only [hh,Nat.reduceAdd];try rfl);done);(focus rfl);(focus (simp only [hh,Nat.reduceAdd];try rfl);done))
        |(apply R_load_ptr1;(focus (simp only [tszAll];try rfl);done);(focus (simp only [ee,Nat.reduceEqDiff];try rfl);done);(focus (simp only [hh,Nat.reduceAdd];try rfl);done);(iterate 2 (focus rfl)))
        |(apply R_load_dem;(focus rfl);(focus (simp only [tszAll];try rfl);done);(focus (simp only [ee,Nat.reduceEqDiff];try rfl);done);(focus (simp only [hh,Nat.reduceAdd];try rfl);done);(focus rfl))
        |(apply R_load_ptrn;(focus (simp only [tszAll];try rfl);done);(focus (simp only [ee,Nat.reduceEqDiff];try rfl);done);(focus (simp only [hh,Nat.reduceAdd];try rfl);done);(focus exact Nat.le_of_ble_eq_true rfl);(focus rfl))
        |(apply R_store_tip;(focus (simp only [tszAll];try rfl);done);(focus (simp only [ee,Nat.reduceEqDiff];try rfl);done);(focus (simp only [hh,Nat.reduceAdd];try rfl);done);(focus (simp only [ee,Nat.reduceEqDiff];try rfl);done);(focus rfl);(focus (simp only [hh,Nat.reduceAdd];try rfl);done))
        |(apply R_store;(focus (simp only [tszAll];try rfl);done);(focus (simp only [ee,Nat.reduceEqDiff];try rfl);done);(focus (simp only [hh,Nat.reduceAdd];try rfl);done);(focus (simp only [ee,Nat.reduceEqDiff];try rfl);done);(iterate 2 (focus rfl));(focus exact ⟨rfl,Nat.le_of_ble_eq_true rfl⟩);(focus (simp only [hh,Nat.reduceAdd];try rfl);done))
        |(apply R_add;(iterate 2 (focus (simp only [ee,Nat.reduceEqDiff];try rfl);done));(iterate 2 (focus omega)))
        |(apply R_sub;(iterate 2 (focus (simp only [ee,Nat.reduceEqDiff];try rfl);done));(iterate 2 (focus omega)))
        |(apply R_quo;(iterate 2 (focus (simp only [ee,Nat.reduceEqDiff];try rfl);done));(iterate 3 (focus omega)))
        |(apply R_rem;(iterate 2 (focus (simp only [ee,Nat.reduceEqDiff];try rfl);done));(iterate 2 (focus omega)))
        |(apply R_ibin;(iterate 2 (focus (simp only [ee,Nat.reduceEqDiff];try rfl);done));(focus rfl))
        |(apply R_un;(focus (simp only [ee,Nat.reduceEqDiff];try rfl);done);(focus rfl))
        |(apply R_pickT;(focus (simp only [ee,Nat.reduceEqDiff];try rfl);done);(focus exact (by first|rfl|assumption));(focus (simp only [ee,Nat.reduceEqDiff];try rfl);done);(focus rfl))
        |(apply R_pickF;(focus (simp only [ee,Nat.reduceEqDiff];try rfl);done);(focus exact (by first|rfl|assumption));(focus (simp only [ee,Nat.reduceEqDiff];try rfl);done);(focus rfl))
        |(apply R_build;(focus (simp only [bInfoAll];try rfl);done);(focus (repeat (first|exact partsC_n|(apply partsC_c;(focus (simp only [ee,Nat.reduceEqDiff];try rfl);done);(focus rfl))));done);(focus rfl))
        |(apply R_buildSlice;(focus (simp only [mkInfoAll];try rfl);done);(focus (repeat (first|exact partsC_n|(apply partsC_c;(focus (simp only [ee,Nat.reduceEqDiff];try rfl);done);(focus rfl))));done);(focus decide);(iterate 2 (focus rfl)))
        |(apply R_append_tip;(focus (simp only [mkInfoAll];try rfl);done);(focus (simp only [ee,Nat.reduceEqDiff];try rfl);done);(focus (first|exact src_row (by (simp only [ee,Nat.reduceEqDiff];first|done|rfl)) rfl (by (simp only [elemSzAll];first|done|rfl)) (by first|rfl|simp)|exact src_nil (by (simp only [ee,Nat.reduceEqDiff];first|done|rfl)) (by (simp only [elemSzAll];first|done|rfl)));done);(focus (simp only [ee,zz,Nat.reduceEqDiff,arrB];try rfl);done);(iterate 2 (focus omega)))
        |(apply R_append_nil;(focus (simp only [mkInfoAll];try rfl);done);(focus (simp only [ee,Nat.reduceEqDiff];try rfl);done);(focus (first|exact src_row (by (simp only [ee,Nat.reduceEqDiff];first|done|rfl)) rfl (by (simp only [elemSzAll];first|done|rfl)) (by first|rfl|simp)|exact src_nil (by (simp only [ee,Nat.reduceEqDiff];first|done|rfl)) (by (simp only [elemSzAll];first|done|rfl)));done);(focus (simp only [ee,zz,Nat.reduceEqDiff,arrB];try rfl);done);(iterate 2 (focus omega)))
        |(apply R_alloc;(focus (simp only [zeroCAll];try rfl);done);(iterate 2 (focus (simp only [hh,Nat.reduceAdd];try rfl);done)))
        |(apply R_box;(focus (simp only [ee,Nat.reduceEqDiff];try rfl);done);(focus rfl);(iterate 2 (focus (simp only [hh,Nat.reduceAdd];try rfl);done)))
        |(apply R_skip;(focus first|exact wantA_f1 rfl rfl rfl (by (simp only [ee,Nat.reduceEqDiff];first|done|rfl)) (by first|rfl|assumption)|exact wantA_f0 rfl rfl rfl (by (simp only [ee,Nat.reduceEqDiff];first|done|rfl)) (by first|rfl|assumption)|exact wantA_und rfl rfl rfl (by (simp only [ee,Nat.reduceEqDiff];first|done|rfl))))
        |((with_reducible apply W_condT);(focus (simp only [ee,Nat.reduceEqDiff];try rfl);done);(focus exact (by first|rfl|assumption)))
        |((with_reducible apply W_condF);(focus (simp only [ee,Nat.reduceEqDiff];try rfl);done);(focus exact (by first|rfl|assumption)))
        |((with_reducible apply W_cond);(focus (simp only [ee,Nat.reduceEqDiff];try rfl);done);(all_goals (intro hbq;(first|(cases hbq;done)|(cases hbq)|(have hpq := of_decide_eq_true hbq)|(have hpq := of_decide_eq_false hbq)|skip))))
        |(apply WR_gsplit;(iterate 3 (focus rfl));(focus (simp only [ee,Nat.reduceEqDiff];try rfl);done);(all_goals (intro hbq;(first|(cases hbq;done)|(cases hbq)|(have hpq := of_decide_eq_true hbq)|(have hpq := of_decide_eq_false hbq)|skip))))
        |((with_reducible apply Ret_i);(focus trivial);(focus rfl);(focus (repeat (first|exact res_nil|(apply res_tmp;(focus (simp only [ee,Nat.reduceEqDiff];try rfl);done);(focus rfl);(focus (simp only [zz];try rfl);done))|(apply res_celln;(focus (simp only [tszAll];try rfl);done);(focus (simp only [ee,Nat.reduceEqDiff];try rfl);done);(focus (simp only [hh,Nat.reduceAdd];try rfl);done);(focus exact Nat.le_of_ble_eq_true rfl);(focus rfl);(focus (simp only [zz];try rfl);done))|(apply res_cell1;(focus (simp only [tszAll];try rfl);done);(focus (simp only [ee,Nat.reduceEqDiff];try rfl);done);(focus (simp only [hh,Nat.reduceAdd];try rfl);done);(focus rfl);(focus (simp only [zz];try rfl);done))));done))
        |((with_reducible apply RetP_i);(focus trivial);(focus rfl);(focus (repeat (first|exact res_nil|(apply res_tmp;(focus (simp only [ee,Nat.reduceEqDiff];try rfl);done);(focus rfl);(focus (simp only [zz];try rfl);done))|(apply res_celln;(focus (simp only [tszAll];try rfl);done);(focus (simp only [ee,Nat.reduceEqDiff];try rfl);done);(focus (simp only [hh,Nat.reduceAdd];try rfl);done);(focus exact Nat.le_of_ble_eq_true rfl);(focus rfl);(focus (simp only [zz];try rfl);done))|(apply res_cell1;(focus (simp only [tszAll];try rfl);done);(focus (simp only [ee,Nat.reduceEqDiff];try rfl);done);(focus (simp only [hh,Nat.reduceAdd];try rfl);done);(focus rfl);(focus (simp only [zz];try rfl);done))));done);(focus (simp only [hh,Nat.reduceAdd];try rfl);done)))
      ·
        refine LoopX_n (i2 + 1) ?_ ?_ ?_
        rotate_left
        · (try dsimp only); omega
        · (try dsimp only); omega
        refine weak_agG (by (simp only [hh,Nat.reduceAdd];first|done|rfl)) (Nat.le_of_ble_eq_true rfl) (Nat.le_of_ble_eq_true rfl) rfl rfl ?_ ?_;(focus (simp only [List.length_cons,List.length_nil,Nat.zero_add,Nat.reduceAdd,List.take_succ_cons,List.take_zero,List.take_nil]));(repeat' (first|exact LeH.nil|(with_reducible apply LeH.some)|(with_reducible apply LeH.none)|(with_reducible exact LeL.refl _)|exact LeL.nil|(with_reducible apply LeL.cons)|(with_reducible exact CVal.Le.refl _)|(with_reducible exact CVal.Le.nil_row)|(with_reducible exact CVal.Le.nil_tip _)|(with_reducible exact CVal.Le.tip_row _ _ _)|(exact CVal.Le.nil_row)|(exact CVal.Le.nil_tip _)|(with_reducible apply CVal.Le.of_eq)|(with_reducible apply LeL.of_eq)))
        (repeat' (first|exact trivial|(refine And.intro ?_ ?_)|(refine ⟨_, by (simp only [ee,Nat.reduceEqDiff];first|done|rfl), ?_⟩)|(first|(with_reducible exact LeS.refl _)|(with_reducible exact LeS.nil_row)|(with_reducible exact LeS.nil_tip _)|(with_reducible exact LeS.tip_row _ _ _)|(exact LeS.nil_row)|(exact LeS.nil_tip _)|(refine LeS.of_eq ?_))));(all_goals (try rfl))
        all_goals (simp [loopN, eB, Cur.stepN, fStr, fS]; done)
      ·
        refine LoopX_x (i2) rfl ?_ ?_
        rotate_left
        · exact ⟨l2, .inr (by rw [eB]; simpa using hbq)⟩
        refine weak_agG (by (simp only [hh,Nat.reduceAdd];first|done|rfl)) (Nat.le_of_ble_eq_true rfl) (Nat.le_of_ble_eq_true rfl) rfl rfl ?_ ?_;(focus (simp only [List.length_cons,List.length_nil,Nat.zero_add,Nat.reduceAdd,List.take_succ_cons,List.take_zero,List.take_nil]));(repeat' (first|exact LeH.nil|(with_reducible apply LeH.some)|(with_reducible apply LeH.none)|(with_reducible exact LeL.refl _)|exact LeL.nil|(with_reducible apply LeL.cons)|(with_reducible exact CVal.Le.refl _)|(with_reducible exact CVal.Le.nil_row)|(with_reducible exact CVal.Le.nil_tip _)|(with_reducible exact CVal.Le.tip_row _ _ _)|(exact CVal.Le.nil_row)|(exact CVal.Le.nil_tip _)|(with_reducible apply CVal.Le.of_eq)|(with_reducible apply LeL.of_eq)))
        (repeat' (first|exact trivial|(refine And.intro ?_ ?_)|(refine ⟨_, by (simp only [ee,Nat.reduceEqDiff];first|done|rfl), ?_⟩)|(first|(with_reducible exact LeS.refl _)|(with_reducible exact LeS.nil_row)|(with_reducible exact LeS.nil_tip _)|(with_reducible exact LeS.tip_row _ _ _)|(exact LeS.nil_row)|(exact LeS.nil_tip _)|(refine LeS.of_eq ?_))));(all_goals (try rfl))
        all_goals (simp [eB]; done)
      ·
        refine LoopX_x (i2) rfl ?_ ?_
        rotate_left
        · exact ⟨l2, .inl (by omega)⟩
        refine weak_agG (by (simp only [hh,Nat.reduceAdd];first|done|rfl)) (Nat.le_of_ble_eq_true rfl) (Nat.le_of_ble_eq_true rfl) rfl rfl ?_ ?_;(focus (simp only [List.length_cons,List.length_nil,Nat.zero_add,Nat.reduceAdd,List.take_succ_cons,List.take_zero,List.take_nil]));(repeat' (first|exact LeH.nil|(with_reducible apply LeH.some)|(with_reducible apply LeH.none)|(with_reducible exact LeL.refl _)|exact LeL.nil|(with_reducible apply LeL.cons)|(with_reducible exact CVal.Le.refl _)|(with_reducible exact CVal.Le.nil_row)|(with_reducible exact CVal.Le.nil_tip _)|(with_reducible exact CVal.Le.tip_row _ _ _)|(exact CVal.Le.nil_row)|(exact CVal.Le.nil_tip _)|(with_reducible apply CVal.Le.of_eq)|(with_reducible apply LeL.of_eq)))
        (repeat' (first|exact trivial|(refine And.intro ?_ ?_)|(refine ⟨_, by (simp only [ee,Nat.reduceEqDiff];first|done|rfl), ?_⟩)|(first|(with_reducible exact LeS.refl _)|(with_reducible exact LeS.nil_row)|(with_reducible exact LeS.nil_tip _)|(with_reducible exact LeS.tip_row _ _ _)|(exact LeS.nil_row)|(exact LeS.nil_tip _)|(refine LeS.of_eq ?_))));(all_goals (try rfl))
        all_goals (simp [eB]; done)
    intro i2 hX2
    obtain ⟨l2, x2⟩ := hX2
    have hcB := loopN_ok stepN_ok hcA i2
    revert x2 hcB
    obtain ⟨B, eB⟩ : ∃ B, loopN Cur.stepN A.2 i2 = B := ⟨_, rfl⟩
    rw [eB]
    intro x2 hcB
    simp only [i64, aS]
    repeat' (first
      |with_reducible refine WR_pp ?_
      |with_reducible refine WR_pd ?_
      |with_reducible refine W_seq ?_
      |with_reducible refine seqK_n ?_
      |with_reducible refine seqK_r ?_
      |with_reducible refine seqK_e ?_
      |with_reducible refine W_block ?_
      |with_reducible refine blockK_n ?_
      |with_reducible refine blockK_e rfl ?_
      |with_reducible refine blockK_r ?_
      |with_reducible refine blockK_o (by decide) ?_
      |with_reducible refine LoopK_e ?_
      |with_reducible refine LoopK_r ?_
      |with_reducible refine LoopX_e (by decide) ?_
      |with_reducible refine LoopX_r ?_
      |with_reducible refine W_skip ?_
      |with_reducible refine W_exit ?_
      |with_reducible refine W_ret ?_
      |with_reducible refine W_region (WOps_WR ?_)
      |with_reducible refine W_draw (WOpsD_WR ?_)
      |with_reducible refine WR_nil ?_
      |(apply WR_nilD;(focus kernel_rfl))
      |(apply R_want;(focus exact wantA_t rfl rfl rfl (by (simp only [ee,Nat.reduceEqDiff];first|done|rfl)) (by first|rfl|assumption)))
      |(apply R_move;(focus (simp only [ee,Nat.reduceEqDiff];try rfl);done);(focus rfl))
      |(apply R_assign;(focus (simp only [ee,Nat.reduceEqDiff];try rfl);done);(focus rfl))
      |(apply R_assign_tip;(focus (simp only [ee,Nat.reduceEqDiff];try rfl);done))
      |(apply R_move_tip;(focus rfl);(focus (simp only [ee,Nat.reduceEqDiff];try rfl);done))
      |(apply R_move_row;(focus rfl);(focus (simp only [ee,Nat.reduceEqDiff];try rfl);done))
      |(apply R_nil_ptr;(focus (simp only [ee,Nat.reduceEqDiff];try rfl);done))
      |(apply R_fa_ptr;(focus (simp only [fldOffAll];try rfl);done);(focus (simp only [ee,Nat.reduceEqDiff];try rfl);done);(focus (simp only [Nat.reduceAdd,Nat.zero_add,Nat.reduceMul];try rfl);done))
      |(apply R_load_tip;(focus rfl);(focus (simp only [tszAll];try rfl);done);(focus (simp only [ee,Nat.reduceEqDiff];try rfl);done);(focus (simp only [hh,Nat.reduceAdd];try rfl);done);(focus rfl);(focus (simp only [hh,Nat.reduceAdd];try rfl);done))
      |(apply R_load_ptr1;(focus (simp only [tszAll];try rfl);done);(focus (simp only [ee,Nat.reduceEqDiff];try rfl);done);(focus (simp only [hh,Nat.reduceAdd];try rfl);done);(iterate 2 (focus rfl)))
      |(apply R_load_dem;(focus rfl);(focus (simp only [tszAll];try rfl);done);(focus (simp only [ee,Nat.reduceEqDiff];try rfl);done);(focus (simp only [hh,Nat.reduceAdd];try rfl);done);(focus rfl))
      |(apply R_load_ptrn;(focus (simp only [tszAll];try rfl);done);(focus (simp only [ee,Nat.reduceEqDiff];try rfl);done);(focus (simp only [hh,Nat.reduceAdd];try rfl);done);(focus exact Nat.le_of_ble_eq_true rfl);(focus rfl))
      |(apply R_store_tip;(focus (simp only [tszAll];try rfl);done);(focus (simp only [ee,Nat.reduceEqDiff];try rfl);done);(focus (simp only [hh,Nat.reduceAdd];try rfl);done);(focus (simp only [ee,Nat.reduceEqDiff];try rfl);done);(focus rfl);(focus (simp only [hh,Nat.reduceAdd];try rfl);done))
      |(apply R_store;(focus (simp only [tszAll];try rfl);done);(focus (simp only [ee,Nat.reduceEqDiff];try rfl);done);(focus (simp only [hh,Nat.reduceAdd];try rfl);done);(focus (simp only [ee,Nat.reduceEqDiff];try rfl);done);(iterate 2 (focus rfl));(focus exact ⟨rfl,Nat.le_of_ble_eq_true rfl⟩);(focus (simp only [hh,Nat.reduceAdd];try rfl);done))
      |(apply R_add;(iterate 2 (focus (simp only [ee,Nat.reduceEqDiff];try rfl);done));(iterate 2 (focus omega)))
      |(apply R_sub;(iterate 2 (focus (simp only [ee,Nat.reduceEqDiff];try rfl);done));(iterate 2 (focus omega)))
      |(apply R_quo;(iterate 2 (focus (simp only [ee,Nat.reduceEqDiff];try rfl);done));(iterate 3 (focus omega)))
      |(apply R_rem;(iterate 2 (focus (simp only [ee,Nat.reduceEqDiff];try rfl);done));(iterate 2 (focus omega)))
      |(apply R_ibin;(iterate 2 (focus (simp only [ee,Nat.reduceEqDiff];try rfl);done));(focus rfl))
      |(apply R_un;(focus (simp only [ee,Nat.reduceEqDiff];try rfl);done);(focus rfl))
      |(apply R_pickT;(focus (simp only [ee,Nat.reduceEqDiff];try rfl);done);(focus exact (by first|rfl|assumption));(focus (simp only [ee,Nat.reduceEqDiff];try rfl);done);(focus rfl))
      |(apply R_pickF;(focus (simp only [ee,Nat.reduceEqDiff];try rfl);done);(focus exact (by first|rfl|assumption));(focus (simp only [ee,Nat.reduceEqDiff];try rfl);done);(focus rfl))
      |(apply R_build;(focus (simp only [bInfoAll];try rfl);done);(focus (repeat (first|exact partsC_n|(apply partsC_c;(focus (simp only [ee,Nat.reduceEqDiff];try rfl);done);(focus rfl))));done);(focus rfl))
      |(apply R_buildSlice;(focus (simp only [mkInfoAll];try rfl);done);(focus (repeat (first|exact partsC_n|(apply partsC_c;(focus (simp only [ee,Nat.reduceEqDiff];try rfl);done);(focus rfl))));done);(focus decide);(iterate 2 (focus rfl)))
      |(apply R_append_tip;(focus (simp only [mkInfoAll];try rfl);done);(focus (simp only [ee,Nat.reduceEqDiff];try rfl);done);(focus (first|exact src_row (by (simp only [ee,Nat.reduceEqDiff];first|done|rfl)) rfl (by (simp only [elemSzAll];first|done|rfl)) (by first|rfl|simp)|exact src_nil (by (simp only [ee,Nat.reduceEqDiff];first|done|rfl)) (by (simp only [elemSzAll];first|done|rfl)));done);(focus (simp only [ee,zz,Nat.reduceEqDiff,arrB];try rfl);done);(iterate 2 (focus omega)))
      |(apply R_append_nil;(focus (simp only [mkInfoAll];try rfl);done);(focus (simp only [ee,Nat.reduceEqDiff];try rfl);done);(focus (first|exact src_row (by (simp only [ee,Nat.reduceEqDiff];first|done|rfl)) rfl (by (simp only [elemSzAll];first|done|rfl)) (by first|rfl|simp)|exact src_nil (by (simp only [ee,Nat.reduceEqDiff];first|done|rfl)) (by (simp only [elemSzAll];first|done|rfl)));done);(focus (simp only [ee,zz,Nat.reduceEqDiff,arrB];try rfl);done);(iterate 2 (focus omega)))
      |(apply R_alloc;(focus (simp only [zeroCAll];try rfl);done);(iterate 2 (focus (simp only [hh,Nat.reduceAdd];try rfl);done)))
      |(apply R_box;(focus (simp only [ee,Nat.reduceEqDiff];try rfl);done);(focus rfl);(iterate 2 (focus (simp only [hh,Nat.reduceAdd];try rfl);done)))
      |(apply R_skip;(focus first|exact wantA_f1 rfl rfl rfl (by (simp only [ee,Nat.reduceEqDiff];first|done|rfl)) (by first|rfl|assumption)|exact wantA_f0 rfl rfl rfl (by (simp only [ee,Nat.reduceEqDiff];first|done|rfl)) (by first|rfl|assumption)|exact wantA_und rfl rfl rfl (by (simp only [ee,Nat.reduceEqDiff];first|done|rfl))))
      |((with_reducible apply W_condT);(focus (simp only [ee,Nat.reduceEqDiff];try rfl);done);(focus exact (by first|rfl|assumption)))
      |((with_reducible apply W_condF);(focus (simp only [ee,Nat.reduceEqDiff];try rfl);done);(focus exact (by first|rfl|assumption)))
      |((with_reducible apply W_cond);(focus (simp only [ee,Nat.reduceEqDiff];try rfl);done);(all_goals (intro hbq;(first|(cases hbq;done)|(cases hbq)|(have hpq := of_decide_eq_true hbq)|(have hpq := of_decide_eq_false hbq)|skip))))
      |(apply WR_gsplit;(iterate 3 (focus rfl));(focus (simp only [ee,Nat.reduceEqDiff];try rfl);done);(all_goals (intro hbq;(first|(cases hbq;done)|(cases hbq)|(have hpq := of_decide_eq_true hbq)|(have hpq := of_decide_eq_false hbq)|skip))))
      |((with_reducible apply Ret_i);(focus trivial);(focus rfl);(focus (repeat (first|exact res_nil|(apply res_tmp;(focus (simp only [ee,Nat.reduceEqDiff];try rfl);done);(focus rfl);(focus (simp only [zz];try rfl);done))|(apply res_celln;(focus (simp only [tszAll];try rfl);done);(focus (simp only [ee,Nat.reduceEqDiff];try rfl);done);(focus (simp only [hh,Nat.reduceAdd];try rfl);done);(focus exact Nat.le_of_ble_eq_true rfl);(focus rfl);(focus (simp only [zz];try rfl);done))|(apply res_cell1;(focus (simp only [tszAll];try rfl);done);(focus (simp only [ee,Nat.reduceEqDiff];try rfl);done);(focus (simp only [hh,Nat.reduceAdd];try rfl);done);(focus rfl);(focus (simp only [zz];try rfl);done))));done))
      |((with_reducible apply RetP_i);(focus trivial);(focus rfl);(focus (repeat (first|exact res_nil|(apply res_tmp;(focus (simp only [ee,Nat.reduceEqDiff];try rfl);done);(focus rfl);(focus (simp only [zz];try rfl);done))|(apply res_celln;(focus (simp only [tszAll];try rfl);done);(focus (simp only [ee,Nat.reduceEqDiff];try rfl);done);(focus (simp only [hh,Nat.reduceAdd];try rfl);done);(focus exact Nat.le_of_ble_eq_true rfl);(focus rfl);(focus (simp only [zz];try rfl);done))|(apply res_cell1;(focus (simp only [tszAll];try rfl);done);(focus (simp only [ee,Nat.reduceEqDiff];try rfl);done);(focus (simp only [hh,Nat.reduceAdd];try rfl);done);(focus rfl);(focus (simp only [zz];try rfl);done))));done);(focus (simp only [hh,Nat.reduceAdd];try rfl);done)))
    refine W_loopX (fun i : Nat => St.of [some [.f .nils, .f .nils, .f .nils, .f .nils], some (loopN Cur.stepS B.2 i).2.box, some [.tip 1 (A.1.flatMap fStr) i1, .tip 1 (B.1.flatMap fStr) i2, .tip 5 ((loopN Cur.stepS B.2 i).1.flatMap fSec) i, .f .nils]] [(0, aS s), (2, .c (.ptr 0 0)), (5, .c (.ptr 1 0)), (10, .c (.ptr 2 0)), (8, i64 (((c1.af 1).af 1).n 1)), (9, i64 ((((c1.af 1).af 1).af 1).n 1)), (13, i64 i)]) (fun i => i ≤ ((c1.af 1).af 1).n 1) (fun i => ((c1.af 1).af 1).n 1 - i) 0 4 (fun i : Nat => St.of [some [.f .nils, .f .nils, .f .nils, .f .nils], some (loopN Cur.stepS B.2 i).2.box, some [.tip 1 (A.1.flatMap fStr) i1, .tip 1 (B.1.flatMap fStr) i2, .tip 5 ((loopN Cur.stepS B.2 i).1.flatMap fSec) i, .f .nils]] [(0, aS s), (2, .c (.ptr 0 0)), (5, .c (.ptr 1 0)), (10, .c (.ptr 2 0)), (9, i64 ((((c1.af 1).af 1).af 1).n 1))]) (fun i => i ≤ ((c1.af 1).af 1).n 1 ∧ (i = ((c1.af 1).af 1).n 1 ∨ (loopN Cur.stepS B.2 i).2.short = true)) ?_ (by omega) (KCl_block KCl_seq) ?_ ?_
    ·
      refine weak_agG (by (simp only [hh,Nat.reduceAdd];first|done|rfl)) (Nat.le_of_ble_eq_true rfl) (Nat.le_of_ble_eq_true rfl) rfl rfl ?_ ?_;(focus (simp only [List.length_cons,List.length_nil,Nat.zero_add,Nat.reduceAdd,List.take_succ_cons,List.take_zero,List.take_nil]));(repeat' (first|exact LeH.nil|(with_reducible apply LeH.some)|(with_reducible apply LeH.none)|(with_reducible exact LeL.refl _)|exact LeL.nil|(with_reducible apply LeL.cons)|(with_reducible exact CVal.Le.refl _)|(with_reducible exact CVal.Le.nil_row)|(with_reducible exact CVal.Le.nil_tip _)|(with_reducible exact CVal.Le.tip_row _ _ _)|(exact CVal.Le.nil_row)|(exact CVal.Le.nil_tip _)|(with_reducible apply CVal.Le.of_eq)|(with_reducible apply LeL.of_eq)))
      (repeat' (first|exact trivial|(refine And.intro ?_ ?_)|(refine ⟨_, by (simp only [ee,Nat.reduceEqDiff];first|done|rfl), ?_⟩)|(first|(with_reducible exact LeS.refl _)|(with_reducible exact LeS.nil_row)|(with_reducible exact LeS.nil_tip _)|(with_reducible exact LeS.tip_row _ _ _)|(exact LeS.nil_row)|(exact LeS.nil_tip _)|(refine LeS.of_eq ?_))));(all_goals (try rfl))
    · intro i3 l3
      have hcC := loopN_ok stepS_ok hcB i3
      obtain ⟨C, eC⟩ : ∃ C, loopN Cur.stepS B.2 i3 = C := ⟨_, rfl⟩
      rw [eC] at hcC
      have m1 := ((C.2.afn.af 2).af 3).n1
      have m2 := (((C.2.afn.af 2).af 3).af 1).n1
      simp only [i64, aS, eC]
      repeat' (first
        |with_reducible refine WR_pp ?_
        |with_reducible refine WR_pd ?_
        |with_reducible refine W_seq ?_
        |with_reducible refine seqK_n ?_
        |with_reducible refine seqK_r ?_
        |with_reducible refine seqK_e ?_
        |with_reducible refine W_block ?_
        |with_reducible refine blockK_n ?_
        |with_reducible refine blockK_e rfl ?_
        |with_reducible refine blockK_r ?_
        |with_reducible refine blockK_o (by decide) ?_
        |with_reducible refine LoopK_e ?_
        |with_reducible refine LoopK_r ?_
        |with_reducible refine LoopX_e (by decide) ?_
        |with_reducible refine LoopX_r ?_
        |with_reducible refine W_skip ?_
        |with_reducible refine W_exit ?_
        |with_reducible refine W_ret ?_
        |with_reducible refine W_region (WOps_WR ?_)
        |with_reducible refine W_draw (WOpsD_WR ?_)
        |with_reducible refine WR_nil ?_
        |(apply R_callB Cur.box curD;(focus rfl);(focus (apply Eq.trans;(focus (repeat (first|exact args_n|(apply args_c;(focus (simp only [ee,Nat.reduceEqDiff];try rfl);done))));done);(focus (simp only [zz];try rfl);done)));(focus (simp only [hh,Nat.reduceAdd];try rfl);done);(focus exact (rd_name _ (by repeat (first | assumption | apply Cur.af_ok | apply Cur.afn_ok))));(iterate 2 (focus rfl));(focus (simp only [hh,Nat.reduceAdd];try rfl);done))
        |(apply R_callB Cur.box curD;(focus rfl);(focus (apply Eq.trans;(focus (repeat (first|exact args_n|(apply args_c;(focus (simp only [ee,Nat.reduceEqDiff];try rfl);done))));done);(focus (simp only [zz];try rfl);done)));(focus (simp only [hh,Nat.reduceAdd];try rfl);done);(focus exact (rd_number _ 2 (by repeat (first | assumption | apply Cur.af_ok | apply Cur.afn_ok)) (by decide)));(iterate 2 (focus rfl));(focus (simp only [hh,Nat.reduceAdd];try rfl);done))
        |(apply R_callB Cur.box curD;(focus rfl);(focus (apply Eq.trans;(focus (repeat (first|exact args_n|(apply args_c;(focus (simp only [ee,Nat.reduceEqDiff];try rfl);done))));done);(focus (simp only [zz];try rfl);done)));(focus (simp only [hh,Nat.reduceAdd];try rfl);done);(focus exact (rd_number _ 3 (by repeat (first | assumption | apply Cur.af_ok | apply Cur.afn_ok)) (by decide)));(iterate 2 (focus rfl));(focus (simp only [hh,Nat.reduceAdd];try rfl);done))
        |(apply R_callB Cur.box curD;(focus rfl);(focus (apply Eq.trans;(focus (repeat (first|exact args_n|(apply args_c;(focus (simp only [ee,Nat.reduceEqDiff];try rfl);done))));done);(focus (simp only [zz];try rfl);done)));(focus (simp only [hh,Nat.reduceAdd];try rfl);done);(focus exact (rd_number _ 1 (by repeat (first | assumption | apply Cur.af_ok | apply Cur.afn_ok)) (by decide)));(iterate 2 (focus rfl));(focus (simp only [hh,Nat.reduceAdd];try rfl);done))
        |(apply WR_nilD;(focus kernel_rfl))
        |(apply R_want;(focus exact wantA_t rfl rfl rfl (by (simp only [ee,Nat.reduceEqDiff];first|done|rfl)) (by first|rfl|assumption)))
        |(apply R_move;(focus (simp only [ee,Nat.reduceEqDiff];try rfl);done);(focus rfl))
        |(apply R_assign;(focus (simp only [ee,Nat.reduceEqDiff];try rfl);done);(focus rfl))
        |(apply R_assign_tip;(focus (simp only [ee,Nat.reduceEqDiff];try rfl);done))
        |(apply R_move_tip;(focus rfl);(focus (simp only [ee,Nat.reduceEqDiff];try rfl);done))
        |(apply R_move_row;(focus rfl);(focus (simp only [ee,Nat.reduceEqDiff];try rfl);done))
        |(apply R_nil_ptr;(focus (simp only [ee,Nat.reduceEqDiff];try rfl);done))
        |(apply R_fa_ptr;(focus (simp only [fldOffAll];try rfl);done);(focus (simp only [ee,Nat.reduceEqDiff];try rfl);done);(focus (simp only [Nat.reduceAdd,Nat.zero_add,Nat.reduceMul];try rfl);done))
        |(apply R_load_tip;(focus rfl);(focus (simp only [tszAll];try rfl);done);(focus (simp only [ee,Nat.reduceEqDiff];try rfl);done);(focus (simp only [hh,Nat.reduceAdd];try rfl);done);(focus rfl);(focus (simp only [hh,Nat.reduceAdd];try rfl);done))
        |(apply R_load_ptr1;(focus (simp only [tszAll];try rfl);done);(focus (simp only [ee,Nat.reduceEqDiff];try rfl);done);(focus (simp only [hh,Nat.reduceAdd];try rfl);done);(iterate 2 (focus rfl)))
        |(apply R_load_dem;(focus rfl);(focus (simp only [tszAll];try rfl);done);(focus (simp only [ee,Nat.reduceEqDiff];try rfl);done);(focus (simp only [hh,Nat.reduceAdd];try rfl);done);(focus rfl))
        |(apply R_load_ptrn;(focus (simp only [tszAll];try rfl);done);(focus (simp only [ee,Nat.reduceEqDiff];try rfl);done);(focus (simp only [hh,Nat.reduceAdd];try rfl);done);(focus exact Nat.le_of_ble_eq_true rfl);(focus rfl))
        |(apply R_store_tip;(focus (simp only [tszAll];try rfl);done);(focus (simp only [ee,Nat.reduceEqDiff];try rfl);done);(focus (simp only [hh,Nat.reduceAdd];try rfl);done);(focus (simp only [ee,Nat.reduceEqDiff];try rfl);done);(focus rfl);(focus (simp only [hh,Nat.reduceAdd];try rfl);done))
        |(apply R_store;(focus (simp only [tszAll];try rfl);done);(focus (simp only [ee,Nat.reduceEqDiff];try rfl);done);(focus (simp only [hh,Nat.reduceAdd];try rfl);done);(focus (simp only [ee,Nat.reduceEqDiff];try rfl);done);(iterate 2 (focus rfl));(focus exact ⟨rfl,Nat.le_of_ble_eq_true rfl⟩);(focus (simp only [hh,Nat.reduceAdd];try rfl);done))
        |(apply R_add;(iterate 2 (focus (simp only [ee,Nat.reduceEqDiff];try rfl);done));(iterate 2 (focus omega)))
        |(apply R_sub;(iterate 2 (focus (simp only [ee,Nat.reduceEqDiff];try rfl);done));(iterate 2 (focus omega)))
        |(apply R_quo;(iterate 2 (focus (simp only [ee,Nat.reduceEqDiff];try rfl);done));(iterate 3 (focus omega)))
        |(apply R_rem;(iterate 2 (focus (simp only [ee,Nat.reduceEqDiff];try rfl);done));(iterate 2 (focus omega)))
        |(apply R_ibin;(iterate 2 (focus (simp only [ee,Nat.reduceEqDiff];try rfl);done));(focus rfl))
        |(apply R_un;(focus (simp only [ee,Nat.reduceEqDiff];try rfl);done);(focus rfl))
        |(apply R_pickT;(focus (simp only [ee,Nat.reduceEqDiff];try rfl);done);(focus exact (by first|rfl|assumption));(focus (simp only [ee,Nat.reduceEqDiff];try rfl);done);(focus rfl))
        |(apply R_pickF;(focus (simp only [ee,Nat.reduceEqDiff];try rfl);done);(focus exact (by first|rfl|assumption));(focus (simp only [ee,Nat.reduceEqDiff];try rfl);done);(focus rfl))
        |(apply R_build;(focus (simp only [bInfoAll];try rfl);done);(focus (repeat (first|exact partsC_n|(apply partsC_c;(focus (simp only [ee,Nat.reduceEqDiff];try rfl);done);(focus rfl))));done);(focus rfl))
        |(apply R_buildSlice;(focus (simp only [mkInfoAll];try rfl);done);(focus (repeat (first|exact partsC_n|(apply partsC_c;(focus (simp only [ee,Nat.reduceEqDiff];try rfl);done);(focus rfl))));done);(focus decide);(iterate 2 (focus rfl)))
        |(apply R_append_tip;(focus (simp only [mkInfoAll];try rfl);done);(focus (simp only [ee,Nat.reduceEqDiff];try rfl);done);(focus (first|exact src_row (by (simp only [ee,Nat.reduceEqDiff];first|done|rfl)) rfl (by (simp only [elemSzAll];first|done|rfl)) (by first|rfl|simp)|exact src_nil (by (simp only [ee,Nat.reduceEqDiff];first|done|rfl)) (by (simp only [elemSzAll];first|done|rfl)));done);(focus (simp only [ee,zz,Nat.reduceEqDiff,arrB];try rfl);done);(iterate 2 (focus omega)))
        |(apply R_append_nil;(focus (simp only [mkInfoAll];try rfl);done);(focus (simp only [ee,Nat.reduceEqDiff];try rfl);done);(focus (first|exact src_row (by (simp only [ee,Nat.reduceEqDiff];first|done|rfl)) rfl (by (simp only [elemSzAll];first|done|rfl)) (by first|rfl|simp)|exact src_nil (by (simp only [ee,Nat.reduceEqDiff];first|done|rfl)) (by (simp only [elemSzAll];first|done|rfl)));done);(focus (simp only [ee,zz,Nat.reduceEqDiff,arrB];try rfl);done);(iterate 2 (focus omega)))
        |(apply R_alloc;(focus (simp only [zeroCAll];try rfl);done);(iterate 2 (focus (simp only [hh,Nat.reduceAdd];try rfl);done)))
        |(apply R_box;(focus (simp only [ee,Nat.reduceEqDiff];try rfl);done);(focus rfl);(iterate 2 (focus (simp only [hh,Nat.reduceAdd];try rfl);done)))
        |(apply R_skip;(focus first|exact wantA_f1 rfl rfl rfl (by (simp only [ee,Nat.reduceEqDiff];first|done|rfl)) (by first|rfl|assumption)|exact wantA_f0 rfl rfl rfl (by (simp only [ee,Nat.reduceEqDiff];first|done|rfl)) (by first|rfl|assumption)|exact wantA_und rfl rfl rfl (by (simp only [ee,Nat.reduceEqDiff];first|done|rfl))))
        |((with_reducible apply W_condT);(focus (simp only [ee,Nat.reduceEqDiff];try rfl);done);(focus exact (by first|rfl|assumption)))
        |((with_reducible apply W_condF);(focus (simp only [ee,Nat.reduceEqDiff];try rfl);done);(focus exact (by first|rfl|assumption)))
        |((with_reducible apply W_cond);(focus (simp only [ee,Nat.reduceEqDiff];try rfl);done);(all_goals (intro hbq;(first|(cases hbq;done)|(cases hbq)|(have hpq := of_decide_eq_true hbq)|(have hpq := of_decide_eq_false hbq)|skip))))
        |(apply WR_gsplit;(iterate 3 (focus rfl));(focus (simp only [ee,Nat.reduceEqDiff];try rfl);done);(all_goals (intro hbq;(first|(cases hbq;done)|(cases hbq)|(have hpq := of_decide_eq_true hbq)|(have hpq := of_decide_eq_false hbq)|skip))))
        |((with_reducible apply Ret_i);(focus trivial);(focus rfl);(focus (repeat (first|exact res_nil|(apply res_tmp;(focus (simp only [ee,Nat.reduceEqDiff];try rfl);done);(focus rfl);(focus (simp only [zz];try rfl);done))|(apply res_celln;(focus (simp only [tszAll];try rfl);done);(focus (simp only [ee,Nat.reduceEqDiff];try rfl);done);(focus (simp only [hh,Nat.reduceAdd];try rfl);done);(focus exact Nat.le_of_ble_eq_true rfl);(focus rfl);(focus (simp only [zz];try rfl);done))|(apply res_cell1;(focus (simp only [tszAll];try rfl);done);(focus (simp only [ee,Nat.reduceEqDiff];try rfl);done);(focus (simp only [hh,Nat.reduceAdd];try rfl);done);(focus rfl);(focus (simp only [zz];try rfl);done))));done))
        |((with_reducible apply RetP_i);(focus trivial);(focus rfl);(focus (repeat (first|exact res_nil|(apply res_tmp;(focus (simp only [ee,Nat.reduceEqDiff];try rfl);done);(focus rfl);(focus (simp only [zz];try rfl);done))|(apply res_celln;(focus (simp only [tszAll];try rfl);done);(focus (simp only [ee,Nat.reduceEqDiff];try rfl);done);(focus (simp only [hh,Nat.reduceAdd];try rfl);done);(focus exact Nat.le_of_ble_eq_true rfl);(focus rfl);(focus (simp only [zz];try rfl);done))|(apply res_cell1;(focus (simp only [tszAll];try rfl);done);(focus (simp only [ee,Nat.reduceEqDiff];try rfl);done);(focus (simp only [hh,Nat.reduceAdd];try rfl);done);(focus rfl);(focus (simp only [zz];try rfl);done))));done);(focus (simp only [hh,Nat.reduceAdd];try rfl);done)))
      ·
        refine LoopX_n (i3 + 1) ?_ ?_ ?_
        rotate_left
        · (try dsimp only); omega
        · (try dsimp only); omega
        refine weak_agG (by (simp only [hh,Nat.reduceAdd];first|done|rfl)) (Nat.le_of_ble_eq_true rfl) (Nat.le_of_ble_eq_true rfl) rfl rfl ?_ ?_;(focus (simp only [List.length_cons,List.length_nil,Nat.zero_add,Nat.reduceAdd,List.take_succ_cons,List.take_zero,List.take_nil]));(repeat' (first|exact LeH.nil|(with_reducible apply LeH.some)|(with_reducible apply LeH.none)|(with_reducible exact LeL.refl _)|exact LeL.nil|(with_reducible apply LeL.cons)|(with_reducible exact CVal.Le.refl _)|(with_reducible exact CVal.Le.nil_row)|(with_reducible exact CVal.Le.nil_tip _)|(with_reducible exact CVal.Le.tip_row _ _ _)|(exact CVal.Le.nil_row)|(exact CVal.Le.nil_tip _)|(with_reducible apply CVal.Le.of_eq)|(with_reducible apply LeL.of_eq)))
        (repeat' (first|exact trivial|(refine And.intro ?_ ?_)|(refine ⟨_, by (simp only [ee,Nat.reduceEqDiff];first|done|rfl), ?_⟩)|(first|(with_reducible exact LeS.refl _)|(with_reducible exact LeS.nil_row)|(with_reducible exact LeS.nil_tip _)|(with_reducible exact LeS.tip_row _ _ _)|(exact LeS.nil_row)|(exact LeS.nil_tip _)|(refine LeS.of_eq ?_))));(all_goals (try rfl))
        all_goals (simp [loopN, eC, Cur.stepS, fSec, fS, fI]; done)
      ·
        refine LoopX_x (i3) rfl ?_ ?_
        rotate_left
        · exact ⟨l3, .inr (by rw [eC]; simpa using hbq)⟩
        refine weak_agG (by (simp only [hh,Nat.reduceAdd];first|done|rfl)) (Nat.le_of_ble_eq_true rfl) (Nat.le_of_ble_eq_true rfl) rfl rfl ?_ ?_;(focus (simp only [List.length_cons,List.length_nil,Nat.zero_add,Nat.reduceAdd,List.take_succ_cons,List.take_zero,List.take_nil]));(repeat' (first|exact LeH.nil|(with_reducible apply LeH.some)|(with_reducible apply LeH.none)|(with_reducible exact LeL.refl _)|exact LeL.nil|(with_reducible apply LeL.cons)|(with_reducible exact CVal.Le.refl _)|(with_reducible exact CVal.Le.nil_row)|(with_reducible exact CVal.Le.nil_tip _)|(with_reducible exact CVal.Le.tip_row _ _ _)|(exact CVal.Le.nil_row)|(exact CVal.Le.nil_tip _)|(with_reducible apply CVal.Le.of_eq)|(with_reducible apply LeL.of_eq)))
        (repeat' (first|exact trivial|(refine And.intro ?_ ?_)|(refine ⟨_, by (simp only [ee,Nat.reduceEqDiff];first|done|rfl), ?_⟩)|(first|(with_reducible exact LeS.refl _)|(with_reducible exact LeS.nil_row)|(with_reducible exact LeS.nil_tip _)|(with_reducible exact LeS.tip_row _ _ _)|(exact LeS.nil_row)|(exact LeS.nil_tip _)|(refine LeS.of_eq ?_))));(all_goals (try rfl))
        all_goals (simp [eC]; done)
      ·
        refine LoopX_x (i3) rfl ?_ ?_
        rotate_left
        · exact ⟨l3, .inl (by omega)⟩
        refine weak_agG (by (simp only [hh,Nat.reduceAdd];first|done|rfl)) (Nat.le_of_ble_eq_true rfl) (Nat.le_of_ble_eq_true rfl) rfl rfl ?_ ?_;(focus (simp only [List.length_cons,List.length_nil,Nat.zero_add,Nat.reduceAdd,List.take_succ_cons,List.take_zero,List.take_nil]));(repeat' (first|exact LeH.nil|(with_reducible apply LeH.some)|(with_reducible apply LeH.none)|(with_reducible exact LeL.refl _)|exact LeL.nil|(with_reducible apply LeL.cons)|(with_reducible exact CVal.Le.refl _)|(with_reducible exact CVal.Le.nil_row)|(with_reducible exact CVal.Le.nil_tip _)|(with_reducible exact CVal.Le.tip_row _ _ _)|(exact CVal.Le.nil_row)|(exact CVal.Le.nil_tip _)|(with_reducible apply CVal.Le.of_eq)|(with_reducible apply LeL.of_eq)))
        (repeat' (first|exact trivial|(refine And.intro ?_ ?_)|(refine ⟨_, by (simp only [ee,Nat.reduceEqDiff];first|done|rfl), ?_⟩)|(first|(with_reducible exact LeS.refl _)|(with_reducible exact LeS.nil_row)|(with_reducible exact LeS.nil_tip _)|(with_reducible exact LeS.tip_row _ _ _)|(exact LeS.nil_row)|(exact LeS.nil_tip _)|(refine LeS.of_eq ?_))));(all_goals (try rfl))
        all_goals (simp [eC]; done)
    intro i3 hX3
    obtain ⟨l3, x3⟩ := hX3
    have hcC := loopN_ok stepS_ok hcB i3
    revert x3 hcC
    obtain ⟨C, eC⟩ : ∃ C, loopN Cur.stepS B.2 i3 = C := ⟨_, rfl⟩
    rw [eC]
    intro x3 hcC
    simp only [i64, aS]
    repeat' (first
      |with_reducible refine WR_pp ?_
      |with_reducible refine WR_pd ?_
      |with_reducible refine W_seq ?_
      |with_reducible refine seqK_n ?_
      |with_reducible refine seqK_r ?_
      |with_reducible refine seqK_e ?_
      |with_reducible refine W_block ?_
      |with_reducible refine blockK_n ?_
      |with_reducible refine blockK_e rfl ?_
      |with_reducible refine blockK_r ?_
      |with_reducible refine blockK_o (by decide) ?_
      |with_reducible refine LoopK_e ?_
      |with_reducible refine LoopK_r ?_
      |with_reducible refine LoopX_e (by decide) ?_
      |with_reducible refine LoopX_r ?_
      |with_reducible refine W_skip ?_
      |with_reducible refine W_exit ?_
      |with_reducible refine W_ret ?_
      |with_reducible refine W_region (WOps_WR ?_)
      |with_reducible refine W_draw (WOpsD_WR ?_)
      |with_reducible refine WR_nil ?_
      |(apply WR_nilD;(focus kernel_rfl))
      |(apply R_want;(focus exact wantA_t rfl rfl rfl (by (simp only [ee,Nat.reduceEqDiff];first|done|rfl)) (by first|rfl|assumption)))
      |(apply R_move;(focus (simp only [ee,Nat.reduceEqDiff];try rfl);done);(focus rfl))
      |(apply R_assign;(focus (simp only [ee,Nat.reduceEqDiff];try rfl);done);(focus rfl))
      |(apply R_assign_tip;(focus (simp only [ee,Nat.reduceEqDiff];try rfl);done))
      |(apply R_move_tip;(focus rfl);(focus (simp only [ee,Nat.reduceEqDiff];try rfl);done))
      |(apply R_move_row;(focus rfl);(focus (simp only [ee,Nat.reduceEqDiff];try rfl);done))
      |(apply R_nil_ptr;(focus (simp only [ee,Nat.reduceEqDiff];try rfl);done))
      |(apply R_fa_ptr;(focus (simp only [fldOffAll];try rfl);done);(focus (simp only [ee,Nat.reduceEqDiff];try rfl);done);(focus (simp only [Nat.reduceAdd,Nat.zero_add,Nat.reduceMul];try rfl);done))
      |(apply R_load_tip;(focus rfl);(focus (simp only [tszAll];try rfl);done);(focus (simp only [ee,Nat.reduceEqDiff];try rfl);done);(focus (simp only [hh,Nat.reduceAdd];try rfl);done);(focus rfl);(focus (simp only [hh,Nat.reduceAdd];try rfl);done))
      |(apply R_load_ptr1;(focus (simp only [tszAll];try rfl);done);(focus (simp only [ee,Nat.reduceEqDiff];try rfl);done);(focus (simp only [hh,Nat.reduceAdd];try rfl);done);(iterate 2 (focus rfl)))
      |(apply R_load_dem;(focus rfl);(focus (simp only [tszAll];try rfl);done);(focus (simp only [ee,Nat.reduceEqDiff];try rfl);done);(focus (simp only [hh,Nat.reduceAdd];try rfl);done);(focus rfl))
      |(apply R_load_ptrn;(focus (simp only [tszAll];try rfl);done);(focus (simp only [ee,Nat.reduceEqDiff];try rfl);done);(focus (simp only [hh,Nat.reduceAdd];try rfl);done);(focus exact Nat.le_of_ble_eq_true rfl);(focus rfl))
      |(apply R_store_tip;(focus (simp only [tszAll];try rfl);done);(focus (simp only [ee,Nat.reduceEqDiff];try rfl);done);(focus (simp only [hh,Nat.reduceAdd];try rfl);done);(focus (simp only [ee,Nat.reduceEqDiff];try rfl);done);(focus rfl);(focus (simp only [hh,Nat.reduceAdd];try rfl);done))
      |(apply R_store;(focus (simp only [tszAll];try rfl);done);(focus (simp only [ee,Nat.reduceEqDiff];try rfl);done);(focus (simp only [hh,Nat.reduceAdd];try rfl);done);(focus (simp only [ee,Nat.reduceEqDiff];try rfl);done);(iterate 2 (focus rfl));(focus exact ⟨rfl,Nat.le_of_ble_eq_true rfl⟩);(focus (simp only [hh,Nat.reduceAdd];try rfl);done))
      |(apply R_add;(iterate 2 (focus (simp only [ee,Nat.reduceEqDiff];try rfl);done));(iterate 2 (focus omega)))
      |(apply R_sub;(iterate 2 (focus (simp only [ee,Nat.reduceEqDiff];try rfl);done));(iterate 2 (focus omega)))
      |(apply R_quo;(iterate 2 (focus (simp only [ee,Nat.reduceEqDiff];try rfl);done));(iterate 3 (focus omega)))
      |(apply R_rem;(iterate 2 (focus (simp only [ee,Nat.reduceEqDiff];try rfl);done));(iterate 2 (focus omega)))
      |(apply R_ibin;(iterate 2 (focus (simp only [ee,Nat.reduceEqDiff];try rfl);done));(focus rfl))
      |(apply R_un;(focus (simp only [ee,Nat.reduceEqDiff];try rfl);done);(focus rfl))
      |(apply R_pickT;(focus (simp only [ee,Nat.reduceEqDiff];try rfl);done);(focus exact (by first|rfl|assumption));(focus (simp only [ee,Nat.reduceEqDiff];try rfl);done);(focus rfl))
      |(apply R_pickF;(focus (simp only [ee,Nat.reduceEqDiff];try rfl);done);(focus exact (by first|rfl|assumption));(focus (simp only [ee,Nat.reduceEqDiff];try rfl);done);(focus rfl))
      |(apply R_build;(focus (simp only [bInfoAll];try rfl);done);(focus (repeat (first|exact partsC_n|(apply partsC_c;(focus (simp only [ee,Nat.reduceEqDiff];try rfl);done);(focus rfl))));done);(focus rfl))
      |(apply R_buildSlice;(focus (simp only [mkInfoAll];try rfl);done);(focus (repeat (first|exact partsC_n|(apply partsC_c;(focus (simp only [ee,Nat.reduceEqDiff];try rfl);done);(focus rfl))));done);(focus decide);(iterate 2 (focus rfl)))
      |(apply R_append_tip;(focus (simp only [mkInfoAll];try rfl);done);(focus (simp only [ee,Nat.reduceEqDiff];try rfl);done);(focus (first|exact src_row (by (simp only [ee,Nat.reduceEqDiff];first|done|rfl)) rfl (by (simp only [elemSzAll];first|done|rfl)) (by first|rfl|simp)|exact src_nil (by (simp only [ee,Nat.reduceEqDiff];first|done|rfl)) (by (simp only [elemSzAll];first|done|rfl)));done);(focus (simp only [ee,zz,Nat.reduceEqDiff,arrB];try rfl);done);(iterate 2 (focus omega)))
      |(apply R_append_nil;(focus (simp only [mkInfoAll];try rfl);done);(focus (simp only [ee,Nat.reduceEqDiff];try rfl);done);(focus (first|exact src_row (by (simp only [ee,Nat.reduceEqDiff];first|done|rfl)) rfl (by (simp only [elemSzAll];first|done|rfl)) (by first|rfl|simp)|exact src_nil (by (simp only [ee,Nat.reduceEqDiff];first|done|rfl)) (by (simp only [elemSzAll];first|done|rfl)));done);(focus (simp only [ee,zz,Nat.reduceEqDiff,arrB];try rfl);done);(iterate 2 (focus omega)))
      |(apply R_alloc;(focus (simp only [zeroCAll];try rfl);done);(iterate 2 (focus (simp only [hh,Nat.reduceAdd];try rfl);done)))
      |(apply R_box;(focus (simp only [ee,Nat.reduceEqDiff];try rfl);done);(focus rfl);(iterate 2 (focus (simp only [hh,Nat.reduceAdd];try rfl);done)))
      |(apply R_skip;(focus first|exact wantA_f1 rfl rfl rfl (by (simp only [ee,Nat.reduceEqDiff];first|done|rfl)) (by first|rfl|assumption)|exact wantA_f0 rfl rfl rfl (by (simp only [ee,Nat.reduceEqDiff];first|done|rfl)) (by first|rfl|assumption)|exact wantA_und rfl rfl rfl (by (simp only [ee,Nat.reduceEqDiff];first|done|rfl))))
      |((with_reducible apply W_condT);(focus (simp only [ee,Nat.reduceEqDiff];try rfl);done);(focus exact (by first|rfl|assumption)))
      |((with_reducible apply W_condF);(focus (simp only [ee,Nat.reduceEqDiff];try rfl);done);(focus exact (by first|rfl|assumption)))
      |((with_reducible apply W_cond);(focus (simp only [ee,Nat.reduceEqDiff];try rfl);done);(all_goals (intro hbq;(first|(cases hbq;done)|(cases hbq)|(have hpq := of_decide_eq_true hbq)|(have hpq := of_decide_eq_false hbq)|skip))))
      |(apply WR_gsplit;(iterate 3 (focus rfl));(focus (simp only [ee,Nat.reduceEqDiff];try rfl);done);(all_goals (intro hbq;(first|(cases hbq;done)|(cases hbq)|(have hpq := of_decide_eq_true hbq)|(have hpq := of_decide_eq_false hbq)|skip))))
      |((with_reducible apply Ret_i);(focus trivial);(focus rfl);(focus (repeat (first|exact res_nil|(apply res_tmp;(focus (simp only [ee,Nat.reduceEqDiff];try rfl);done);(focus rfl);(focus (simp only [zz];try rfl);done))|(apply res_celln;(focus (simp only [tszAll];try rfl);done);(focus (simp only [ee,Nat.reduceEqDiff];try rfl);done);(focus (simp only [hh,Nat.reduceAdd];try rfl);done);(focus exact Nat.le_of_ble_eq_true rfl);(focus rfl);(focus (simp only [zz];try rfl);done))|(apply res_cell1;(focus (simp only [tszAll];try rfl);done);(focus (simp only [ee,Nat.reduceEqDiff];try rfl);done);(focus (simp only [hh,Nat.reduceAdd];try rfl);done);(focus rfl);(focus (simp only [zz];try rfl);done))));done))
      |((with_reducible apply RetP_i);(focus trivial);(focus rfl);(focus (repeat (first|exact res_nil|(apply res_tmp;(focus (simp only [ee,Nat.reduceEqDiff];try rfl);done);(focus rfl);(focus (simp only [zz];try rfl);done))|(apply res_celln;(focus (simp only [tszAll];try rfl);done);(focus (simp only [ee,Nat.reduceEqDiff];try rfl);done);(focus (simp only [hh,Nat.reduceAdd];try rfl);done);(focus exact Nat.le_of_ble_eq_true rfl);(focus rfl);(focus (simp only [zz];try rfl);done))|(apply res_cell1;(focus (simp only [tszAll];try rfl);done);(focus (simp only [ee,Nat.reduceEqDiff];try rfl);done);(focus (simp only [hh,Nat.reduceAdd];try rfl);done);(focus rfl);(focus (simp only [zz];try rfl);done))));done);(focus (simp only [hh,Nat.reduceAdd];try rfl);done)))
    refine W_loopX (fun i : Nat => St.of [some [.f .nils, .f .nils, .f .nils, .f .nils], some (loopN Cur.stepL C.2 i).2.box, some [.tip 1 (A.1.flatMap fStr) i1, .tip 1 (B.1.flatMap fStr) i2, .tip 5 (C.1.flatMap fSec) i3, .tip 6 ((loopN Cur.stepL C.2 i).1.flatMap fLnk) i]] [(0, aS s), (2, .c (.ptr 0 0)), (5, .c (.ptr 1 0)), (10, .c (.ptr 2 0)), (9, i64 ((((c1.af 1).af 1).af 1).n 1)), (15, i64 i)]) (fun i => i ≤ (((c1.af 1).af 1).af 1).n 1) (fun i => (((c1.af 1).af 1).af 1).n 1 - i) 0 6 (fun i : Nat => St.of [some [.f .nils, .f .nils, .f .nils, .f .nils], some (loopN Cur.stepL C.2 i).2.box, some [.tip 1 (A.1.flatMap fStr) i1, .tip 1 (B.1.flatMap fStr) i2, .tip 5 (C.1.flatMap fSec) i3, .tip 6 ((loopN Cur.stepL C.2 i).1.flatMap fLnk) i]] [(0, aS s), (2, .c (.ptr 0 0)), (5, .c (.ptr 1 0)), (10, .c (.ptr 2 0))]) (fun i => i ≤ (((c1.af 1).af 1).af 1).n 1 ∧ (i = (((c1.af 1).af 1).af 1).n 1 ∨ (loopN Cur.stepL C.2 i).2.short = true)) ?_ (by omega) (KCl_block KCl_seq) ?_ ?_
    ·
      refine weak_agG (by (simp only [hh,Nat.reduceAdd];first|done|rfl)) (Nat.le_of_ble_eq_true rfl) (Nat.le_of_ble_eq_true rfl) rfl rfl ?_ ?_;(focus (simp only [List.length_cons,List.length_nil,Nat.zero_add,Nat.reduceAdd,List.take_succ_cons,List.take_zero,List.take_nil]));(repeat' (first|exact LeH.nil|(with_reducible apply LeH.some)|(with_reducible apply LeH.none)|(with_reducible exact LeL.refl _)|exact LeL.nil|(with_reducible apply LeL.cons)|(with_reducible exact CVal.Le.refl _)|(with_reducible exact CVal.Le.nil_row)|(with_reducible exact CVal.Le.nil_tip _)|(with_reducible exact CVal.Le.tip_row _ _ _)|(exact CVal.Le.nil_row)|(exact CVal.Le.nil_tip _)|(with_reducible apply CVal.Le.of_eq)|(with_reducible apply LeL.of_eq)))
      (repeat' (first|exact trivial|(refine And.intro ?_ ?_)|(refine ⟨_, by (simp only [ee,Nat.reduceEqDiff];first|done|rfl), ?_⟩)|(first|(with_reducible exact LeS.refl _)|(with_reducible exact LeS.nil_row)|(with_reducible exact LeS.nil_tip _)|(with_reducible exact LeS.tip_row _ _ _)|(exact LeS.nil_row)|(exact LeS.nil_tip _)|(refine LeS.of_eq ?_))));(all_goals (try rfl))
    · intro i4 l4
      have hcD := loopN_ok stepL_ok hcC i4
      obtain ⟨D, eD⟩ : ∃ D, loopN Cur.stepL C.2 i4 = D := ⟨_, rfl⟩
      rw [eD] at hcD
      have m3 := D.2.n1
      have m4 := (D.2.af 1).n1
      have m5 := ((D.2.af 1).af 1).n1
      simp only [i64, aS, eD]
      repeat' (first
        |with_reducible refine WR_pp ?_
        |with_reducible refine WR_pd ?_
        |with_reducible refine W_seq ?_
        |with_reducible refine seqK_n ?_
        |with_reducible refine seqK_r ?_
        |with_reducible refine seqK_e ?_
        |with_reducible refine W_block ?_
        |with_reducible refine blockK_n ?_
        |with_reducible refine blockK_e rfl ?_
        |with_reducible refine blockK_r ?_
        |with_reducible refine blockK_o (by decide) ?_
        |with_reducible refine LoopK_e ?_
        |with_reducible refine LoopK_r ?_
        |with_reducible refine LoopX_e (by decide) ?_
        |with_reducible refine LoopX_r ?_
        |with_reducible refine W_skip ?_
        |with_reducible refine W_exit ?_
        |with_reducible refine W_ret ?_
        |with_reducible refine W_region (WOps_WR ?_)
        |with_reducible refine W_draw (WOpsD_WR ?_)
        |with_reducible refine WR_nil ?_
        |(apply R_callB Cur.box curD;(focus rfl);(focus (apply Eq.trans;(focus (repeat (first|exact args_n|(apply args_c;(focus (simp only [ee,Nat.reduceEqDiff];try rfl);done))));done);(focus (simp only [zz];try rfl);done)));(focus (simp only [hh,Nat.reduceAdd];try rfl);done);(focus exact (rd_number _ 1 (by repeat (first | assumption | apply Cur.af_ok | apply Cur.afn_ok)) (by decide)));(iterate 2 (focus rfl));(focus (simp only [hh,Nat.reduceAdd];try rfl);done))
        |(apply WR_nilD;(focus kernel_rfl))
        |(apply R_want;(focus exact wantA_t rfl rfl rfl (by (simp only [ee,Nat.reduceEqDiff];first|done|rfl)) (by first|rfl|assumption)))
        |(apply R_move;(focus (simp only [ee,Nat.reduceEqDiff];try rfl);done);(focus rfl))
        |(apply R_assign;(focus (simp only [ee,Nat.reduceEqDiff];try rfl);done);(focus rfl))
        |(apply R_assign_tip;(focus (simp only [ee,Nat.reduceEqDiff];try rfl);done))
        |(apply R_move_tip;(focus rfl);(focus (simp only [ee,Nat.reduceEqDiff];try rfl);done))
        |(apply R_move_row;(focus rfl);(focus (simp only [ee,Nat.reduceEqDiff];try rfl);done))
        |(apply R_nil_ptr;(focus (simp only [ee,Nat.reduceEqDiff];try rfl);done))
        |(apply R_fa_ptr;(focus (simp only [fldOffAll];try rfl);done);(focus (simp only [ee,Nat.reduceEqDiff];try rfl);done);(focus (simp only [Nat.reduceAdd,Nat.zero_add,Nat.reduceMul];try rfl);done))
        |(apply R_load_tip;(focus rfl);(focus (simp only [tszAll];try rfl);done);(focus (simp only [ee,Nat.reduceEqDiff];try rfl);done);(focus (simp only [hh,Nat.reduceAdd];try rfl);done);(focus rfl);(focus (simp only [hh,Nat.reduceAdd];try rfl);done))
        |(apply R_load_ptr1;(focus (simp only [tszAll];try rfl);done);(focus (simp only [ee,Nat.reduceEqDiff];try rfl);done);(focus (simp only [hh,Nat.reduceAdd];try rfl);done);(iterate 2 (focus rfl)))
        |(apply R_load_dem;(focus rfl);(focus (simp only [tszAll];try rfl);done);(focus (simp only [ee,Nat.reduceEqDiff];try rfl);done);(focus (simp only [hh,Nat.reduceAdd];try rfl);done);(focus rfl))
        |(apply R_load_ptrn;(focus (simp only [tszAll];try rfl);done);(focus (simp only [ee,Nat.reduceEqDiff];try rfl);done);(focus (simp only [hh,Nat.reduceAdd];try rfl);done);(focus exact Nat.le_of_ble_eq_true rfl);(focus rfl))
        |(apply R_store_tip;(focus (simp only [tszAll];try rfl);done);(focus (simp only [ee,Nat.reduceEqDiff];try rfl);done);(focus (simp only [hh,Nat.reduceAdd];try rfl);done);(focus (simp only [ee,Nat.reduceEqDiff];try rfl);done);(focus rfl);(focus (simp only [hh,Nat.reduceAdd];try rfl);done))
        |(apply R_store;(focus (simp only [tszAll];try rfl);done);(focus (simp only [ee,Nat.reduceEqDiff];try rfl);done);(focus (simp only [hh,Nat.reduceAdd];try rfl);done);(focus (simp only [ee,Nat.reduceEqDiff];try rfl);done);(iterate 2 (focus rfl));(focus exact ⟨rfl,Nat.le_of_ble_eq_true rfl⟩);(focus (simp only [hh,Nat.reduceAdd];try rfl);done))
        |(apply R_add;(iterate 2 (focus (simp only [ee,Nat.reduceEqDiff];try rfl);done));(iterate 2 (focus omega)))
        |(apply R_sub;(iterate 2 (focus (simp only [ee,Nat.reduceEqDiff];try rfl);done));(iterate 2 (focus omega)))
        |(apply R_quo;(iterate 2 (focus (simp only [ee,Nat.reduceEqDiff];try rfl);done));(iterate 3 (focus omega)))
        |(apply R_rem;(iterate 2 (focus (simp only [ee,Nat.reduceEqDiff];try rfl);done));(iterate 2 (focus omega)))
        |(apply R_ibin;(iterate 2 (focus (simp only [ee,Nat.reduceEqDiff];try rfl);done));(focus rfl))
        |(apply R_un;(focus (simp only [ee,Nat.reduceEqDiff];try rfl);done);(focus rfl))
        |(apply R_pickT;(focus (simp only [ee,Nat.reduceEqDiff];try rfl);done);(focus exact (by first|rfl|assumption));(focus (simp only [ee,Nat.reduceEqDiff];try rfl);done);(focus rfl))
        |(apply R_pickF;(focus (simp only [ee,Nat.reduceEqDiff];try rfl);done);(focus exact (by first|rfl|assumption));(focus (simp only [ee,Nat.reduceEqDiff];try rfl);done);(focus rfl))
        |(apply R_build;(focus (simp only [bInfoAll];try rfl);done);(focus (repeat (first|exact partsC_n|(apply partsC_c;(focus (simp only [ee,Nat.reduceEqDiff];try rfl);done);(focus rfl))));done);(focus rfl))
        |(apply R_buildSlice;(focus (simp only [mkInfoAll];try rfl);done);(focus (repeat (first|exact partsC_n|(apply partsC_c;(focus (simp only [ee,Nat.reduceEqDiff];try rfl);done);(focus rfl))));done);(focus decide);(iterate 2 (focus rfl)))
        |(apply R_append_tip;(focus (simp only [mkInfoAll];try rfl);done);(focus (simp only [ee,Nat.reduceEqDiff];try rfl);done);(focus (first|exact src_row (by (simp only [ee,Nat.reduceEqDiff];first|done|rfl)) rfl (by (simp only [elemSzAll];first|done|rfl)) (by first|rfl|simp)|exact src_nil (by (simp only [ee,Nat.reduceEqDiff];first|done|rfl)) (by (simp only [elemSzAll];first|done|rfl)));done);(focus (simp only [ee,zz,Nat.reduceEqDiff,arrB];try rfl);done);(iterate 2 (focus omega)))
        |(apply R_append_nil;(focus (simp only [mkInfoAll];try rfl);done);(focus (simp only [ee,Nat.reduceEqDiff];try rfl);done);(focus (first|exact src_row (by (simp only [ee,Nat.reduceEqDiff];first|done|rfl)) rfl (by (simp only [elemSzAll];first|done|rfl)) (by first|rfl|simp)|exact src_nil (by (simp only [ee,Nat.reduceEqDiff];first|done|rfl)) (by (simp only [elemSzAll];first|done|rfl)));done);(focus (simp only [ee,zz,Nat.reduceEqDiff,arrB];try rfl);done);(iterate 2 (focus omega)))
        |(apply R_alloc;(focus (simp only [zeroCAll];try rfl);done);(iterate 2 (focus (simp only [hh,Nat.reduceAdd];try rfl);done)))
        |(apply R_box;(focus (simp only [ee,Nat.reduceEqDiff];try rfl);done);(focus rfl);(iterate 2 (focus (simp only [hh,Nat.reduceAdd];try rfl);done)))
        |(apply R_skip;(focus first|exact wantA_f1 rfl rfl rfl (by (simp only [ee,Nat.reduceEqDiff];first|done|rfl)) (by first|rfl|assumption)|exact wantA_f0 rfl rfl rfl (by (simp only [ee,Nat.reduceEqDiff];first|done|rfl)) (by first|rfl|assumption)|exact wantA_und rfl rfl rfl (by (simp only [ee,Nat.reduceEqDiff];first|done|rfl))))
        |((with_reducible apply W_condT);(focus (simp only [ee,Nat.reduceEqDiff];try rfl);done);(focus exact (by first|rfl|assumption)))
        |((with_reducible apply W_condF);(focus (simp only [ee,Nat.reduceEqDiff];try rfl);done);(focus exact (by first|rfl|assumption)))
        |((with_reducible apply W_cond);(focus (simp only [ee,Nat.reduceEqDiff];try rfl);done);(all_goals (intro hbq;(first|(cases hbq;done)|(cases hbq)|(have hpq := of_decide_eq_true hbq)|(have hpq := of_decide_eq_false hbq)|skip))))
        |(apply WR_gsplit;(iterate 3 (focus rfl));(focus (simp only [ee,Nat.reduceEqDiff];try rfl);done);(all_goals (intro hbq;(first|(cases hbq;done)|(cases hbq)|(have hpq := of_decide_eq_true hbq)|(have hpq := of_decide_eq_false hbq)|skip))))
        |((with_reducible apply Ret_i);(focus trivial);(focus rfl);(focus (repeat (first|exact res_nil|(apply res_tmp;(focus (simp only [ee,Nat.reduceEqDiff];try rfl);done);(focus rfl);(focus (simp only [zz];try rfl);done))|(apply res_celln;(focus (simp only [tszAll];try rfl);done);(focus (simp only [ee,Nat.reduceEqDiff];try rfl);done);(focus (simp only [hh,Nat.reduceAdd];try rfl);done);(focus exact Nat.le_of_ble_eq_true rfl);(focus rfl);(focus (simp only [zz];try rfl);done))|(apply res_cell1;(focus (simp only [tszAll];try rfl);done);(focus (simp only [ee,Nat.reduceEqDiff];try rfl);done);(focus (simp only [hh,Nat.reduceAdd];try rfl);done);(focus rfl);(focus (simp only [zz];try rfl);done))));done))
        |((with_reducible apply RetP_i);(focus trivial);(focus rfl);(focus (repeat (first|exact res_nil|(apply res_tmp;(focus (simp only [ee,Nat.reduceEqDiff];try rfl);done);(focus rfl);(focus (simp only [zz];try rfl);done))|(apply res_celln;(focus (simp only [tszAll];try rfl);done);(focus (simp only [ee,Nat.reduceEqDiff];try rfl);done);(focus (simp only [hh,Nat.reduceAdd];try rfl);done);(focus exact Nat.le_of_ble_eq_true rfl);(focus rfl);(focus (simp only [zz];try rfl);done))|(apply res_cell1;(focus (simp only [tszAll];try rfl);done);(focus (simp only [ee,Nat.reduceEqDiff];try rfl);done);(focus (simp only [hh,Nat.reduceAdd];try rfl);done);(focus rfl);(focus (simp only [zz];try rfl);done))));done);(focus (simp only [hh,Nat.reduceAdd];try rfl);done)))
      ·
        refine LoopX_n (i4 + 1) ?_ ?_ ?_
        rotate_left
        · (try dsimp only); omega
        · (try dsimp only); omega
        refine weak_agG (by (simp only [hh,Nat.reduceAdd];first|done|rfl)) (Nat.le_of_ble_eq_true rfl) (Nat.le_of_ble_eq_true rfl) rfl rfl ?_ ?_;(focus (simp only [List.length_cons,List.length_nil,Nat.zero_add,Nat.reduceAdd,List.take_succ_cons,List.take_zero,List.take_nil]));(repeat' (first|exact LeH.nil|(with_reducible apply LeH.some)|(with_reducible apply LeH.none)|(with_reducible exact LeL.refl _)|exact LeL.nil|(with_reducible apply LeL.cons)|(with_reducible exact CVal.Le.refl _)|(with_reducible exact CVal.Le.nil_row)|(with_reducible exact CVal.Le.nil_tip _)|(with_reducible exact CVal.Le.tip_row _ _ _)|(exact CVal.Le.nil_row)|(exact CVal.Le.nil_tip _)|(with_reducible apply CVal.Le.of_eq)|(with_reducible apply LeL.of_eq)))
        (repeat' (first|exact trivial|(refine And.intro ?_ ?_)|(refine ⟨_, by (simp only [ee,Nat.reduceEqDiff];first|done|rfl), ?_⟩)|(first|(with_reducible exact LeS.refl _)|(with_reducible exact LeS.nil_row)|(with_reducible exact LeS.nil_tip _)|(with_reducible exact LeS.tip_row _ _ _)|(exact LeS.nil_row)|(exact LeS.nil_tip _)|(refine LeS.of_eq ?_))));(all_goals (try rfl))
        all_goals (simp [loopN, eD, Cur.stepL, fLnk, fI]; done)
      ·
        refine LoopX_x (i4) rfl ?_ ?_
        rotate_left
        · exact ⟨l4, .inr (by rw [eD]; simpa using hbq)⟩
        refine weak_agG (by (simp only [hh,Nat.reduceAdd];first|done|rfl)) (Nat.le_of_ble_eq_true rfl) (Nat.le_of_ble_eq_true rfl) rfl rfl ?_ ?_;(focus (simp only [List.length_cons,List.length_nil,Nat.zero_add,Nat.reduceAdd,List.take_succ_cons,List.take_zero,List.take_nil]));(repeat' (first|exact LeH.nil|(with_reducible apply LeH.some)|(with_reducible apply LeH.none)|(with_reducible exact LeL.refl _)|exact LeL.nil|(with_reducible apply LeL.cons)|(with_reducible exact CVal.Le.refl _)|(with_reducible exact CVal.Le.nil_row)|(with_reducible exact CVal.Le.nil_tip _)|(with_reducible exact CVal.Le.tip_row _ _ _)|(exact CVal.Le.nil_row)|(exact CVal.Le.nil_tip _)|(with_reducible apply CVal.Le.of_eq)|(with_reducible apply LeL.of_eq)))
        (repeat' (first|exact trivial|(refine And.intro ?_ ?_)|(refine ⟨_, by (simp only [ee,Nat.reduceEqDiff];first|done|rfl), ?_⟩)|(first|(with_reducible exact LeS.refl _)|(with_reducible exact LeS.nil_row)|(with_reducible exact LeS.nil_tip _)|(with_reducible exact LeS.tip_row _ _ _)|(exact LeS.nil_row)|(exact LeS.nil_tip _)|(refine LeS.of_eq ?_))));(all_goals (try rfl))
        all_goals (simp [eD]; done)
      ·
        refine LoopX_x (i4) rfl ?_ ?_
        rotate_left
        · exact ⟨l4, .inl (by omega)⟩
        refine weak_agG (by (simp only [hh,Nat.reduceAdd];first|done|rfl)) (Nat.le_of_ble_eq_true rfl) (Nat.le_of_ble_eq_true rfl) rfl rfl ?_ ?_;(focus (simp only [List.length_cons,List.length_nil,Nat.zero_add,Nat.reduceAdd,List.take_succ_cons,List.take_zero,List.take_nil]));(repeat' (first|exact LeH.nil|(with_reducible apply LeH.some)|(with_reducible apply LeH.none)|(with_reducible exact LeL.refl _)|exact LeL.nil|(with_reducible apply LeL.cons)|(with_reducible exact CVal.Le.refl _)|(with_reducible exact CVal.Le.nil_row)|(with_reducible exact CVal.Le.nil_tip _)|(with_reducible exact CVal.Le.tip_row _ _ _)|(exact CVal.Le.nil_row)|(exact CVal.Le.nil_tip _)|(with_reducible apply CVal.Le.of_eq)|(with_reducible apply LeL.of_eq)))
        (repeat' (first|exact trivial|(refine And.intro ?_ ?_)|(refine ⟨_, by (simp only [ee,Nat.reduceEqDiff];first|done|rfl), ?_⟩)|(first|(with_reducible exact LeS.refl _)|(with_reducible exact LeS.nil_row)|(with_reducible exact LeS.nil_tip _)|(with_reducible exact LeS.tip_row _ _ _)|(exact LeS.nil_row)|(exact LeS.nil_tip _)|(refine LeS.of_eq ?_))));(all_goals (try rfl))
        all_goals (simp [eD]; done)
    intro i4 hX4
    obtain ⟨l4, x4⟩ := hX4
    have hcD := loopN_ok stepL_ok hcC i4
    revert x4 hcD
    obtain ⟨D, eD⟩ : ∃ D, loopN Cur.stepL C.2 i4 = D := ⟨_, rfl⟩
    rw [eD]
    intro x4 hcD
    simp only [i64, aS]
    obtain ⟨f1, f2⟩ := hend i1 i2 i3 i4 A B C D eA eB eC eD l1 l2 l3 l4 x1 x2 x3 x4
    have lA : A.1.length = i1 := by rw [← eA, loopN_len]
    have lB : B.1.length = i2 := by rw [← eB, loopN_len]
    have lC : C.1.length = i3 := by rw [← eC, loopN_len]
    have lD : D.1.length = i4 := by rw [← eD, loopN_len]
    rw [← f1] at hi2 ⊢
    clear hf
    revert hC f2
    generalize c1.lay.1 = L
    intro hC f2
    clear hend eA eB eC eD x1 x2 x3 x4 f1
    have hN := rd_number D.2 4 hcD (by decide)
    have hn4 := D.2.n_lt 4
    have hp2 := hi2.2
    have hi3 := hi2.af 4
    have hp3 := hi3.2
    have hS := refCrc_ok (s.extract 0 D.2.pos) (by simp; omega)
    have hcl := Pl.crc_lt (s.extract 0 D.2.pos).data.toList
    revert hN hn4 hS hcl hi3 hp3
    have hsh : D.2.short = true → D.2.af 4 = D.2 := fun h => Cur.af_short h 4
    revert hsh
    generalize D.2.af 4 = c3
    generalize D.2.n 4 = q
    generalize Pl.crc (s.extract 0 D.2.pos).data.toList = z
    intro hsh hN hn4 hi3 hp3 hS hcl
    have hw : IntKind.u32.wrap (q : Int) = q := wrapU32 q hn4
    obtain ⟨DL, c2⟩ := D
    obtain ⟨cc, pp, ss⟩ := c2
    simp only at hN hS hp2 f2 lD hsh hcD hi2 ⊢
    cases ss with
    | true =>
      have hsh := hsh rfl
      subst hsh
      repeat' (first
        |with_reducible refine WR_pp ?_
        |with_reducible refine WR_pd ?_
        |with_reducible refine W_seq ?_
        |with_reducible refine seqK_n ?_
        |with_reducible refine seqK_r ?_
        |with_reducible refine seqK_e ?_
        |with_reducible refine W_block ?_
        |with_reducible refine blockK_n ?_
        |with_reducible refine blockK_e rfl ?_
        |with_reducible refine blockK_r ?_
        |with_reducible refine blockK_o (by decide) ?_
        |with_reducible refine LoopK_e ?_
        |with_reducible refine LoopK_r ?_
        |with_reducible refine LoopX_e (by decide) ?_
        |with_reducible refine LoopX_r ?_
        |with_reducible refine W_skip ?_
        |with_reducible refine W_exit ?_
        |with_reducible refine W_ret ?_
        |with_reducible refine W_region (WOps_WR ?_)
        |with_reducible refine W_draw (WOpsD_WR ?_)
        |with_reducible refine WR_nil ?_
        |(apply R_callB (x := (Cur.mk cc pp true)) Cur.box curD;(focus rfl);(focus (apply Eq.trans;(focus (repeat (first|exact args_n|(apply args_c;(focus (simp only [ee,Nat.reduceEqDiff];try rfl);done))));done);(focus (simp only [zz];try rfl);done)));(focus (simp only [hh,Nat.reduceAdd];try rfl);done);(focus exact hN);(iterate 2 (focus rfl));(focus (simp only [hh,Nat.reduceAdd];try rfl);done))
        |(apply WR_nilD;(focus kernel_rfl))
        |(apply R_want;(focus exact wantA_t rfl rfl rfl (by (simp only [ee,Nat.reduceEqDiff];first|done|rfl)) (by first|rfl|assumption)))
        |(apply R_move;(focus (simp only [ee,Nat.reduceEqDiff];try rfl);done);(focus rfl))
        |(apply R_assign;(focus (simp only [ee,Nat.reduceEqDiff];try rfl);done);(focus rfl))
        |(apply R_assign_tip;(focus (simp only [ee,Nat.reduceEqDiff];try rfl);done))
        |(apply R_move_tip;(focus rfl);(focus (simp only [ee,Nat.reduceEqDiff];try rfl);done))
        |(apply R_move_row;(focus rfl);(focus (simp only [ee,Nat.reduceEqDiff];try rfl);done))
        |(apply R_nil_ptr;(focus (simp only [ee,Nat.reduceEqDiff];try rfl);done))
        |(apply R_nil_ip;(focus (simp only [ee,Nat.reduceEqDiff];try rfl);done))
        |(apply R_fa_ptr;(focus (simp only [fldOffAll];try rfl);done);(focus (simp only [ee,Nat.reduceEqDiff];try rfl);done);(focus (simp only [Nat.reduceAdd,Nat.zero_add,Nat.reduceMul];try rfl);done))
        |(apply R_fa_ip;(focus (simp only [fldOffAll];try rfl);done);(focus (simp only [ee,Nat.reduceEqDiff];try rfl);done);(focus (simp only [Nat.reduceAdd,Nat.zero_add,Nat.reduceMul];try rfl);done))
        |(apply R_load_tip;(focus rfl);(focus (simp only [tszAll];try rfl);done);(focus (simp only [ee,Nat.reduceEqDiff];try rfl);done);(focus (simp only [hh,Nat.reduceAdd];try rfl);done);(focus rfl);(focus (simp only [hh,Nat.reduceAdd];try rfl);done))
        |(apply R_load_ptr1;(focus (simp only [tszAll];try rfl);done);(focus (simp only [ee,Nat.reduceEqDiff];try rfl);done);(focus (simp only [hh,Nat.reduceAdd];try rfl);done);(iterate 2 (focus rfl)))
        |(apply R_load_dem;(focus rfl);(focus (simp only [tszAll];try rfl);done);(focus (simp only [ee,Nat.reduceEqDiff];try rfl);done);(focus (simp only [hh,Nat.reduceAdd];try rfl);done);(focus rfl))
        |(apply R_load_ptrn;(focus (simp only [tszAll];try rfl);done);(focus (simp only [ee,Nat.reduceEqDiff];try rfl);done);(focus (simp only [hh,Nat.reduceAdd];try rfl);done);(focus exact Nat.le_of_ble_eq_true rfl);(focus rfl))
        |(apply R_load_rw;(focus (simp only [tszAll];try rfl);done);(focus (simp only [ee,Nat.reduceEqDiff];try rfl);done);(focus rfl);(focus intro _;rfl;done);(focus assumption);(focus (simp only [fStr,fSec,fLnk,fInt,fS,fI,fB,List.map_cons,List.map_nil];try rfl);done))
        |(apply R_load_rk;(focus (simp only [tszAll];try rfl);done);(focus (simp only [ee,Nat.reduceEqDiff];try rfl);done);(focus rfl);(focus intro _;rfl;done);(focus assumption);(focus rfl);(focus (simp only [fStr,fSec,fLnk,fInt,fS,fI,fB,List.getElem?_cons_zero,List.getElem?_cons_succ];try rfl);done))
        |(apply R_load_r1;(focus (simp only [tszAll];try rfl);done);(focus (simp only [ee,Nat.reduceEqDiff];try rfl);done);(focus rfl);(focus intro _;rfl;done);(focus assumption);(focus (simp only [fStr,fSec,fLnk,fInt,fS,fI,fB,List.map_cons,List.map_nil];try rfl);done))
        |(apply R_load_ip1;(focus (simp only [tszAll];try rfl);done);(focus (simp only [ee,Nat.reduceEqDiff];try rfl);done);(focus rfl))
        |(apply R_load_ipn;(focus (simp only [tszAll];try rfl);done);(focus (simp only [ee,Nat.reduceEqDiff];try rfl);done);(focus exact Nat.le_of_ble_eq_true rfl);(focus rfl))
        |(apply R_store_tip;(focus (simp only [tszAll];try rfl);done);(focus (simp only [ee,Nat.reduceEqDiff];try rfl);done);(focus (simp only [hh,Nat.reduceAdd];try rfl);done);(focus (simp only [ee,Nat.reduceEqDiff];try rfl);done);(focus rfl);(focus (simp only [hh,Nat.reduceAdd];try rfl);done))
        |(apply R_store;(focus (simp only [tszAll];try rfl);done);(focus (simp only [ee,Nat.reduceEqDiff];try rfl);done);(focus (simp only [hh,Nat.reduceAdd];try rfl);done);(focus (simp only [ee,Nat.reduceEqDiff];try rfl);done);(iterate 2 (focus rfl));(focus exact ⟨rfl,Nat.le_of_ble_eq_true rfl⟩);(focus (simp only [hh,Nat.reduceAdd];try rfl);done))
        |(apply R_ia_row;(focus (simp only [elemSzAll];try rfl);done);(focus (simp only [ee,Nat.reduceEqDiff];try rfl);done);(focus rfl);(focus (simp only [ee,Nat.reduceEqDiff];try rfl);done);(iterate 2 (focus omega));(focus (simp only [Int.toNat_natCast];try rfl);done))
        |(apply R_ia_arr;(focus (simp only [elemSzAll];try rfl);done);(iterate 2 (focus (simp only [ee,Nat.reduceEqDiff];try rfl);done));(iterate 2 (focus omega));(focus (simp only [Int.toNat_natCast];try rfl);done))
        |(apply R_field;(focus (simp only [fldAtAll];try rfl);done);(focus (simp only [ee,Nat.reduceEqDiff];try rfl);done);(focus rfl))
        |(apply R_extract;(focus (simp only [ee,Nat.reduceEqDiff];try rfl);done);(focus rfl))
        |(apply R_add;(iterate 2 (focus (simp only [ee,Nat.reduceEqDiff];try rfl);done));(iterate 2 (focus omega)))
        |(apply R_sub;(iterate 2 (focus (simp only [ee,Nat.reduceEqDiff];try rfl);done));(iterate 2 (focus omega)))
        |(apply R_mul;(iterate 2 (focus (simp only [ee,Nat.reduceEqDiff];try rfl);done));(iterate 2 (focus omega)))
        |(apply R_quo;(iterate 2 (focus (simp only [ee,Nat.reduceEqDiff];try rfl);done));(iterate 3 (focus omega)))
        |(apply R_rem;(iterate 2 (focus (simp only [ee,Nat.reduceEqDiff];try rfl);done));(iterate 2 (focus omega)))
        |(apply R_sadd;(iterate 2 (focus (simp only [ee,Nat.reduceEqDiff];try rfl);done));(focus omega))
        |(apply R_ibin;(iterate 2 (focus (simp only [ee,Nat.reduceEqDiff];try rfl);done));(focus rfl))
        |(apply R_sbin;(iterate 2 (focus (simp only [ee,Nat.reduceEqDiff];try rfl);done));(focus rfl))
        |(apply R_un;(focus (simp only [ee,Nat.reduceEqDiff];try rfl);done);(focus rfl))
        |(apply R_index_strD;(focus (simp only [undAll];try rfl);done);(iterate 2 (focus (simp only [ee,Nat.reduceEqDiff];try rfl);done));(iterate 2 (focus omega)))
        |(apply R_len_str;(focus (simp only [undAll];try rfl);done);(focus (simp only [ee,Nat.reduceEqDiff];try rfl);done))
        |(apply R_len_row;(focus (simp only [elemSzAll];try rfl);done);(focus (simp only [ee,Nat.reduceEqDiff];try rfl);done);(focus rfl))
        |(apply R_len_arr;(focus (simp only [elemSzAll];try rfl);done);(focus (simp only [ee,Nat.reduceEqDiff];try rfl);done))
        |(apply R_len_nil;(focus (simp only [undAll];try rfl);done);(focus (simp only [ee,Nat.reduceEqDiff];try rfl);done))
        |(apply R_pickT;(focus (simp only [ee,Nat.reduceEqDiff];try rfl);done);(focus exact (by first|rfl|assumption));(focus (simp only [ee,Nat.reduceEqDiff];try rfl);done);(focus rfl))
        |(apply R_pickF;(focus (simp only [ee,Nat.reduceEqDiff];try rfl);done);(focus exact (by first|rfl|assumption));(focus (simp only [ee,Nat.reduceEqDiff];try rfl);done);(focus rfl))
        |(apply R_build;(focus (simp only [bInfoAll];try rfl);done);(focus (repeat (first|exact partsC_n|(apply partsC_c;(focus (simp only [ee,Nat.reduceEqDiff];try rfl);done);(focus rfl))));done);(focus rfl))
        |(apply R_buildSlice;(focus (simp only [mkInfoAll];try rfl);done);(focus (repeat (first|exact partsC_n|(apply partsC_c;(focus (simp only [ee,Nat.reduceEqDiff];try rfl);done);(focus rfl))));done);(focus decide);(iterate 2 (focus rfl)))
        |(apply R_slice_str;(focus (simp only [undAll];try rfl);done);(focus (simp only [ee,Nat.reduceEqDiff];try rfl);done);(iterate 2 (focus (first|exact bnd_none|exact bnd_some (by (simp only [ee,Nat.reduceEqDiff];first|done|rfl)));done));(iterate 3 (focus omega)))
        |(apply R_slice_row;(focus (simp only [elemSzAll];try rfl);done);(focus (simp only [ee,Nat.reduceEqDiff];try rfl);done);(focus rfl);(iterate 2 (focus (first|exact bnd_none|exact bnd_some (by (simp only [ee,Nat.reduceEqDiff];first|done|rfl)));done));(iterate 3 (focus omega));(iterate 2 (focus rfl)))
        |(apply R_conv64;(iterate 2 (focus (simp only [undAll];try rfl);done));(focus (simp only [ee,Nat.reduceEqDiff];try rfl);done);(iterate 2 (focus omega)))
        |(apply R_conv_int;(iterate 2 (focus (simp only [undAll];try rfl);done));(focus (simp only [ee,Nat.reduceEqDiff];try rfl);done))
        |(apply R_bbin;(iterate 2 (focus (simp only [ee,Nat.reduceEqDiff];try rfl);done));(focus rfl))
        |(apply R_shl;(iterate 2 (focus (simp only [ee,Nat.reduceEqDiff];try rfl);done));(focus omega))
        |(apply R_shr;(iterate 2 (focus (simp only [ee,Nat.reduceEqDiff];try rfl);done));(focus omega))
        |(apply R_append_tip;(focus (simp only [mkInfoAll];try rfl);done);(focus (simp only [ee,Nat.reduceEqDiff];try rfl);done);(focus (first|exact src_row (by (simp only [ee,Nat.reduceEqDiff];first|done|rfl)) rfl (by (simp only [elemSzAll];first|done|rfl)) (by first|rfl|simp)|exact src_nil (by (simp only [ee,Nat.reduceEqDiff];first|done|rfl)) (by (simp only [elemSzAll];first|done|rfl)));done);(focus (simp only [ee,zz,Nat.reduceEqDiff,arrB];try rfl);done);(iterate 2 (focus omega)))
        |(apply R_append_nil;(focus (simp only [mkInfoAll];try rfl);done);(focus (simp only [ee,Nat.reduceEqDiff];try rfl);done);(focus (first|exact src_row (by (simp only [ee,Nat.reduceEqDiff];first|done|rfl)) rfl (by (simp only [elemSzAll];first|done|rfl)) (by first|rfl|simp)|exact src_nil (by (simp only [ee,Nat.reduceEqDiff];first|done|rfl)) (by (simp only [elemSzAll];first|done|rfl)));done);(focus (simp only [ee,zz,Nat.reduceEqDiff,arrB];try rfl);done);(iterate 2 (focus omega)))
        |(apply R_make;(focus (simp only [mkInfoAll];try rfl);done);(iterate 2 (focus (simp only [ee,Nat.reduceEqDiff];try rfl);done));(iterate 3 (focus omega));(focus (simp only [hh,Nat.reduceAdd];try rfl);done);(focus rfl);(focus (simp only [hh,Nat.reduceAdd];try rfl);done))
        |(apply R_max;(iterate 2 (focus (simp only [ee,Nat.reduceEqDiff];try rfl);done)))
        |(apply R_min;(iterate 2 (focus (simp only [ee,Nat.reduceEqDiff];try rfl);done)))
        |(apply R_alloc;(focus (simp only [zeroCAll];try rfl);done);(iterate 2 (focus (simp only [hh,Nat.reduceAdd];try rfl);done)))
        |(apply R_box;(focus (simp only [ee,Nat.reduceEqDiff];try rfl);done);(focus rfl);(iterate 2 (focus (simp only [hh,Nat.reduceAdd];try rfl);done)))
        |(apply R_skip;(focus first|exact wantA_f1 rfl rfl rfl (by (simp only [ee,Nat.reduceEqDiff];first|done|rfl)) (by first|rfl|assumption)|exact wantA_f0 rfl rfl rfl (by (simp only [ee,Nat.reduceEqDiff];first|done|rfl)) (by first|rfl|assumption)|exact wantA_und rfl rfl rfl (by (simp only [ee,Nat.reduceEqDiff];first|done|rfl))))
        |((with_reducible apply W_condT);(focus (simp only [ee,Nat.reduceEqDiff];try rfl);done);(focus exact (by first|rfl|assumption)))
        |((with_reducible apply W_condF);(focus (simp only [ee,Nat.reduceEqDiff];try rfl);done);(focus exact (by first|rfl|assumption)))
        |((with_reducible apply W_cond);(focus (simp only [ee,Nat.reduceEqDiff];try rfl);done);(all_goals (intro hbq;(first|(cases hbq;done)|(cases hbq)|(have hpq := of_decide_eq_true hbq)|(have hpq := of_decide_eq_false hbq)|skip))))
        |(apply WR_gsplit;(iterate 3 (focus rfl));(focus (simp only [ee,Nat.reduceEqDiff];try rfl);done);(all_goals (intro hbq;(first|(cases hbq;done)|(cases hbq)|(have hpq := of_decide_eq_true hbq)|(have hpq := of_decide_eq_false hbq)|skip))))
        |((with_reducible apply Ret_i);(focus trivial);(focus rfl);(focus (repeat (first|exact res_nil|(apply res_tmp;(focus (simp only [ee,Nat.reduceEqDiff];try rfl);done);(focus rfl);(focus (simp only [zz];try rfl);done))|(apply res_celln;(focus (simp only [tszAll];try rfl);done);(focus (simp only [ee,Nat.reduceEqDiff];try rfl);done);(focus (simp only [hh,Nat.reduceAdd];try rfl);done);(focus exact Nat.le_of_ble_eq_true rfl);(focus rfl);(focus (simp only [zz];try rfl);done))|(apply res_cell1;(focus (simp only [tszAll];try rfl);done);(focus (simp only [ee,Nat.reduceEqDiff];try rfl);done);(focus (simp only [hh,Nat.reduceAdd];try rfl);done);(focus rfl);(focus (simp only [zz];try rfl);done))));done))
        |((with_reducible apply RetP_i);(focus trivial);(focus rfl);(focus (repeat (first|exact res_nil|(apply res_tmp;(focus (simp only [ee,Nat.reduceEqDiff];try rfl);done);(focus rfl);(focus (simp only [zz];try rfl);done))|(apply res_celln;(focus (simp only [tszAll];try rfl);done);(focus (simp only [ee,Nat.reduceEqDiff];try rfl);done);(focus (simp only [hh,Nat.reduceAdd];try rfl);done);(focus exact Nat.le_of_ble_eq_true rfl);(focus rfl);(focus (simp only [zz];try rfl);done))|(apply res_cell1;(focus (simp only [tszAll];try rfl);done);(focus (simp only [ee,Nat.reduceEqDiff];try rfl);done);(focus (simp only [hh,Nat.reduceAdd];try rfl);done);(focus rfl);(focus (simp only [zz];try rfl);done))));done);(focus (simp only [hh,Nat.reduceAdd];try rfl);done)))
      all_goals (try simp only [H_put, H_setH, H_of, packT, TVal.a, List.length_cons, List.length_nil, Nat.zero_add, List.take_succ_cons, List.take_zero, List.map_cons, List.map_nil, fzT, fzC_f])
      unfold decOf
      rw [if_neg hdr, if_pos rfl]
      rfl
    | false =>
      clear hsh
      have f2 := f2 rfl
      subst f2
      simp only [aLay, cLay, cRow, lA, lB, lC, lD] at hC
      repeat' (first
        |with_reducible refine WR_pp ?_
        |with_reducible refine WR_pd ?_
        |with_reducible refine W_seq ?_
        |with_reducible refine seqK_n ?_
        |with_reducible refine seqK_r ?_
        |with_reducible refine seqK_e ?_
        |with_reducible refine W_block ?_
        |with_reducible refine blockK_n ?_
        |with_reducible refine blockK_e rfl ?_
        |with_reducible refine blockK_r ?_
        |with_reducible refine blockK_o (by decide) ?_
        |with_reducible refine LoopK_e ?_
        |with_reducible refine LoopK_r ?_
        |with_reducible refine LoopX_e (by decide) ?_
        |with_reducible refine LoopX_r ?_
        |with_reducible refine W_skip ?_
        |with_reducible refine W_exit ?_
        |with_reducible refine W_ret ?_
        |with_reducible refine W_region (WOps_WR ?_)
        |with_reducible refine W_draw (WOpsD_WR ?_)
        |with_reducible refine WR_nil ?_
        |(apply R_callB (x := (Cur.mk cc pp false)) Cur.box curD;(focus rfl);(focus (apply Eq.trans;(focus (repeat (first|exact args_n|(apply args_c;(focus (simp only [ee,Nat.reduceEqDiff];try rfl);done))));done);(focus (simp only [zz];try rfl);done)));(focus (simp only [hh,Nat.reduceAdd];try rfl);done);(focus exact hN);(iterate 2 (focus rfl));(focus (simp only [hh,Nat.reduceAdd];try rfl);done))
        |(apply R_pure;(focus rfl);(focus (repeat (first|exact args_n|(apply args_c;(focus (simp only [ee,Nat.reduceEqDiff];try rfl);done))));done);(focus rfl);(focus exact hS))
        |(apply R_pure;(focus rfl);(focus (repeat (first|exact args_n|(apply args_c;(focus (simp only [ee,Nat.reduceEqDiff];try rfl);done))));done);(focus rfl);(focus exact hC))
        |(apply WR_nilD;(focus kernel_rfl))
        |(apply R_want;(focus exact wantA_t rfl rfl rfl (by (simp only [ee,Nat.reduceEqDiff];first|done|rfl)) (by first|rfl|assumption)))
        |(apply R_move;(focus (simp only [ee,Nat.reduceEqDiff];try rfl);done);(focus rfl))
        |(apply R_assign;(focus (simp only [ee,Nat.reduceEqDiff];try rfl);done);(focus rfl))
        |(apply R_assign_tip;(focus (simp only [ee,Nat.reduceEqDiff];try rfl);done))
        |(apply R_move_tip;(focus rfl);(focus (simp only [ee,Nat.reduceEqDiff];try rfl);done))
        |(apply R_move_row;(focus rfl);(focus (simp only [ee,Nat.reduceEqDiff];try rfl);done))
        |(apply R_nil_ptr;(focus (simp only [ee,Nat.reduceEqDiff];try rfl);done))
        |(apply R_nil_ip;(focus (simp only [ee,Nat.reduceEqDiff];try rfl);done))
        |(apply R_fa_ptr;(focus (simp only [fldOffAll];try rfl);done);(focus (simp only [ee,Nat.reduceEqDiff];try rfl);done);(focus (simp only [Nat.reduceAdd,Nat.zero_add,Nat.reduceMul];try rfl);done))
        |(apply R_fa_ip;(focus (simp only [fldOffAll];try rfl);done);(focus (simp only [ee,Nat.reduceEqDiff];try rfl);done);(focus (simp only [Nat.reduceAdd,Nat.zero_add,Nat.reduceMul];try rfl);done))
        |(apply R_load_tip;(focus rfl);(focus (simp only [tszAll];try rfl);done);(focus (simp only [ee,Nat.reduceEqDiff];try rfl);done);(focus (simp only [hh,Nat.reduceAdd];try rfl);done);(focus rfl);(focus (simp only [hh,Nat.reduceAdd];try rfl);done))
        |(apply R_load_ptr1;(focus (simp only [tszAll];try rfl);done);(focus (simp only [ee,Nat.reduceEqDiff];try rfl);done);(focus (simp only [hh,Nat.reduceAdd];try rfl);done);(iterate 2 (focus rfl)))
        |(apply R_load_dem;(focus rfl);(focus (simp only [tszAll];try rfl);done);(focus (simp only [ee,Nat.reduceEqDiff];try rfl);done);(focus (simp only [hh,Nat.reduceAdd];try rfl);done);(focus rfl))
        |(apply R_load_ptrn;(focus (simp only [tszAll];try rfl);done);(focus (simp only [ee,Nat.reduceEqDiff];try rfl);done);(focus (simp only [hh,Nat.reduceAdd];try rfl);done);(focus exact Nat.le_of_ble_eq_true rfl);(focus rfl))
        |(apply R_load_rw;(focus (simp only [tszAll];try rfl);done);(focus (simp only [ee,Nat.reduceEqDiff];try rfl);done);(focus rfl);(focus intro _;rfl;done);(focus assumption);(focus (simp only [fStr,fSec,fLnk,fInt,fS,fI,fB,List.map_cons,List.map_nil];try rfl);done))
        |(apply R_load_rk;(focus (simp only [tszAll];try rfl);done);(focus (simp only [ee,Nat.reduceEqDiff];try rfl);done);(focus rfl);(focus intro _;rfl;done);(focus assumption);(focus rfl);(focus (simp only [fStr,fSec,fLnk,fInt,fS,fI,fB,List.getElem?_cons_zero,List.getElem?_cons_succ];try rfl);done))
        |(apply R_load_r1;(focus (simp only [tszAll];try rfl);done);(focus (simp only [ee,Nat.reduceEqDiff];try rfl);done);(focus rfl);(focus intro _;rfl;done);(focus assumption);(focus (simp only [fStr,fSec,fLnk,fInt,fS,fI,fB,List.map_cons,List.map_nil];try rfl);done))
        |(apply R_load_ip1;(focus (simp only [tszAll];try rfl);done);(focus (simp only [ee,Nat.reduceEqDiff];try rfl);done);(focus rfl))
        |(apply R_load_ipn;(focus (simp only [tszAll];try rfl);done);(focus (simp only [ee,Nat.reduceEqDiff];try rfl);done);(focus exact Nat.le_of_ble_eq_true rfl);(focus rfl))
        |(apply R_store_tip;(focus (simp only [tszAll];try rfl);done);(focus (simp only [ee,Nat.reduceEqDiff];try rfl);done);(focus (simp only [hh,Nat.reduceAdd];try rfl);done);(focus (simp only [ee,Nat.reduceEqDiff];try rfl);done);(focus rfl);(focus (simp only [hh,Nat.reduceAdd];try rfl);done))
        |(apply R_store;(focus (simp only [tszAll];try rfl);done);(focus (simp only [ee,Nat.reduceEqDiff];try rfl);done);(focus (simp only [hh,Nat.reduceAdd];try rfl);done);(focus (simp only [ee,Nat.reduceEqDiff];try rfl);done);(iterate 2 (focus rfl));(focus exact ⟨rfl,Nat.le_of_ble_eq_true rfl⟩);(focus (simp only [hh,Nat.reduceAdd];try rfl);done))
        |(apply R_ia_row;(focus (simp only [elemSzAll];try rfl);done);(focus (simp only [ee,Nat.reduceEqDiff];try rfl);done);(focus rfl);(focus (simp only [ee,Nat.reduceEqDiff];try rfl);done);(iterate 2 (focus omega));(focus (simp only [Int.toNat_natCast];try rfl);done))
        |(apply R_ia_arr;(focus (simp only [elemSzAll];try rfl);done);(iterate 2 (focus (simp only [ee,Nat.reduceEqDiff];try rfl);done));(iterate 2 (focus omega));(focus (simp only [Int.toNat_natCast];try rfl);done))
        |(apply R_field;(focus (simp only [fldAtAll];try rfl);done);(focus (simp only [ee,Nat.reduceEqDiff];try rfl);done);(focus rfl))
        |(apply R_extract;(focus (simp only [ee,Nat.reduceEqDiff];try rfl);done);(focus rfl))
        |(apply R_add;(iterate 2 (focus (simp only [ee,Nat.reduceEqDiff];try rfl);done));(iterate 2 (focus omega)))
        |(apply R_sub;(iterate 2 (focus (simp only [ee,Nat.reduceEqDiff];try rfl);done));(iterate 2 (focus omega)))
        |(apply R_mul;(iterate 2 (focus (simp only [ee,Nat.reduceEqDiff];try rfl);done));(iterate 2 (focus omega)))
        |(apply R_quo;(iterate 2 (focus (simp only [ee,Nat.reduceEqDiff];try rfl);done));(iterate 3 (focus omega)))
        |(apply R_rem;(iterate 2 (focus (simp only [ee,Nat.reduceEqDiff];try rfl);done));(iterate 2 (focus omega)))
        |(apply R_sadd;(iterate 2 (focus (simp only [ee,Nat.reduceEqDiff];try rfl);done));(focus omega))
        |(apply R_ibin;(iterate 2 (focus (simp only [ee,Nat.reduceEqDiff];try rfl);done));(focus rfl))
        |(apply R_sbin;(iterate 2 (focus (simp only [ee,Nat.reduceEqDiff];try rfl);done));(focus rfl))
        |(apply R_un;(focus (simp only [ee,Nat.reduceEqDiff];try rfl);done);(focus rfl))
        |(apply R_index_strD;(focus (simp only [undAll];try rfl);done);(iterate 2 (focus (simp only [ee,Nat.reduceEqDiff];try rfl);done));(iterate 2 (focus omega)))
        |(apply R_len_str;(focus (simp only [undAll];try rfl);done);(focus (simp only [ee,Nat.reduceEqDiff];try rfl);done))
        |(apply R_len_row;(focus (simp only [elemSzAll];try rfl);done);(focus (simp only [ee,Nat.reduceEqDiff];try rfl);done);(focus rfl))
        |(apply R_len_arr;(focus (simp only [elemSzAll];try rfl);done);(focus (simp only [ee,Nat.reduceEqDiff];try rfl);done))
        |(apply R_len_nil;(focus (simp only [undAll];try rfl);done);(focus (simp only [ee,Nat.reduceEqDiff];try rfl);done))
        |(apply R_pickT;(focus (simp only [ee,Nat.reduceEqDiff];try rfl);done);(focus exact (by first|rfl|assumption));(focus (simp only [ee,Nat.reduceEqDiff];try rfl);done);(focus rfl))
        |(apply R_pickF;(focus (simp only [ee,Nat.reduceEqDiff];try rfl);done);(focus exact (by first|rfl|assumption));(focus (simp only [ee,Nat.reduceEqDiff];try rfl);done);(focus rfl))
        |(apply R_build;(focus (simp only [bInfoAll];try rfl);done);(focus (repeat (first|exact partsC_n|(apply partsC_c;(focus (simp only [ee,Nat.reduceEqDiff];try rfl);done);(focus rfl))));done);(focus rfl))
        |(apply R_buildSlice;(focus (simp only [mkInfoAll];try rfl);done);(focus (repeat (first|exact partsC_n|(apply partsC_c;(focus (simp only [ee,Nat.reduceEqDiff];try rfl);done);(focus rfl))));done);(focus decide);(iterate 2 (focus rfl)))
        |(apply R_slice_str;(focus (simp only [undAll];try rfl);done);(focus (simp only [ee,Nat.reduceEqDiff];try rfl);done);(iterate 2 (focus (first|exact bnd_none|exact bnd_some (by (simp only [ee,Nat.reduceEqDiff];first|done|rfl)));done));(iterate 3 (focus omega)))
        |(apply R_slice_row;(focus (simp only [elemSzAll];try rfl);done);(focus (simp only [ee,Nat.reduceEqDiff];try rfl);done);(focus rfl);(iterate 2 (focus (first|exact bnd_none|exact bnd_some (by (simp only [ee,Nat.reduceEqDiff];first|done|rfl)));done));(iterate 3 (focus omega));(iterate 2 (focus rfl)))
        |(apply R_conv64;(iterate 2 (focus (simp only [undAll];try rfl);done));(focus (simp only [ee,Nat.reduceEqDiff];try rfl);done);(iterate 2 (focus omega)))
        |(apply R_conv_int;(iterate 2 (focus (simp only [undAll];try rfl);done));(focus (simp only [ee,Nat.reduceEqDiff];try rfl);done))
        |(apply R_bbin;(iterate 2 (focus (simp only [ee,Nat.reduceEqDiff];try rfl);done));(focus rfl))
        |(apply R_shl;(iterate 2 (focus (simp only [ee,Nat.reduceEqDiff];try rfl);done));(focus omega))
        |(apply R_shr;(iterate 2 (focus (simp only [ee,Nat.reduceEqDiff];try rfl);done));(focus omega))
        |(apply R_append_tip;(focus (simp only [mkInfoAll];try rfl);done);(focus (simp only [ee,Nat.reduceEqDiff];try rfl);done);(focus (first|exact src_row (by (simp only [ee,Nat.reduceEqDiff];first|done|rfl)) rfl (by (simp only [elemSzAll];first|done|rfl)) (by first|rfl|simp)|exact src_nil (by (simp only [ee,Nat.reduceEqDiff];first|done|rfl)) (by (simp only [elemSzAll];first|done|rfl)));done);(focus (simp only [ee,zz,Nat.reduceEqDiff,arrB];try rfl);done);(iterate 2 (focus omega)))
        |(apply R_append_nil;(focus (simp only [mkInfoAll];try rfl);done);(focus (simp only [ee,Nat.reduceEqDiff];try rfl);done);(focus (first|exact src_row (by (simp only [ee,Nat.reduceEqDiff];first|done|rfl)) rfl (by (simp only [elemSzAll];first|done|rfl)) (by first|rfl|simp)|exact src_nil (by (simp only [ee,Nat.reduceEqDiff];first|done|rfl)) (by (simp only [elemSzAll];first|done|rfl)));done);(focus (simp only [ee,zz,Nat.reduceEqDiff,arrB];try rfl);done);(iterate 2 (focus omega)))
        |(apply R_make;(focus (simp only [mkInfoAll];try rfl);done);(iterate 2 (focus (simp only [ee,Nat.reduceEqDiff];try rfl);done));(iterate 3 (focus omega));(focus (simp only [hh,Nat.reduceAdd];try rfl);done);(focus rfl);(focus (simp only [hh,Nat.reduceAdd];try rfl);done))
        |(apply R_max;(iterate 2 (focus (simp only [ee,Nat.reduceEqDiff];try rfl);done)))
        |(apply R_min;(iterate 2 (focus (simp only [ee,Nat.reduceEqDiff];try rfl);done)))
        |(apply R_alloc;(focus (simp only [zeroCAll];try rfl);done);(iterate 2 (focus (simp only [hh,Nat.reduceAdd];try rfl);done)))
        |(apply R_box;(focus (simp only [ee,Nat.reduceEqDiff];try rfl);done);(focus rfl);(iterate 2 (focus (simp only [hh,Nat.reduceAdd];try rfl);done)))
        |(apply R_skip;(focus first|exact wantA_f1 rfl rfl rfl (by (simp only [ee,Nat.reduceEqDiff];first|done|rfl)) (by first|rfl|assumption)|exact wantA_f0 rfl rfl rfl (by (simp only [ee,Nat.reduceEqDiff];first|done|rfl)) (by first|rfl|assumption)|exact wantA_und rfl rfl rfl (by (simp only [ee,Nat.reduceEqDiff];first|done|rfl))))
        |((with_reducible apply W_condT);(focus (simp only [ee,Nat.reduceEqDiff];try rfl);done);(focus exact (by first|rfl|assumption)))
        |((with_reducible apply W_condF);(focus (simp only [ee,Nat.reduceEqDiff];try rfl);done);(focus exact (by first|rfl|assumption)))
        |((with_reducible apply W_cond);(focus (simp only [ee,Nat.reduceEqDiff];try rfl);done);(all_goals (intro hbq;(first|(cases hbq;done)|(cases hbq)|(have hpq := of_decide_eq_true hbq)|(have hpq := of_decide_eq_false hbq)|skip))))
        |(apply WR_gsplit;(iterate 3 (focus rfl));(focus (simp only [ee,Nat.reduceEqDiff];try rfl);done);(all_goals (intro hbq;(first|(cases hbq;done)|(cases hbq)|(have hpq := of_decide_eq_true hbq)|(have hpq := of_decide_eq_false hbq)|skip))))
        |((with_reducible apply Ret_i);(focus trivial);(focus rfl);(focus (repeat (first|exact res_nil|(apply res_tmp;(focus (simp only [ee,Nat.reduceEqDiff];try rfl);done);(focus rfl);(focus (simp only [zz];try rfl);done))|(apply res_celln;(focus (simp only [tszAll];try rfl);done);(focus (simp only [ee,Nat.reduceEqDiff];try rfl);done);(focus (simp only [hh,Nat.reduceAdd];try rfl);done);(focus exact Nat.le_of_ble_eq_true rfl);(focus rfl);(focus (simp only [zz];try rfl);done))|(apply res_cell1;(focus (simp only [tszAll];try rfl);done);(focus (simp only [ee,Nat.reduceEqDiff];try rfl);done);(focus (simp only [hh,Nat.reduceAdd];try rfl);done);(focus rfl);(focus (simp only [zz];try rfl);done))));done))
        |((with_reducible apply RetP_i);(focus trivial);(focus rfl);(focus (repeat (first|exact res_nil|(apply res_tmp;(focus (simp only [ee,Nat.reduceEqDiff];try rfl);done);(focus rfl);(focus (simp only [zz];try rfl);done))|(apply res_celln;(focus (simp only [tszAll];try rfl);done);(focus (simp only [ee,Nat.reduceEqDiff];try rfl);done);(focus (simp only [hh,Nat.reduceAdd];try rfl);done);(focus exact Nat.le_of_ble_eq_true rfl);(focus rfl);(focus (simp only [zz];try rfl);done))|(apply res_cell1;(focus (simp only [tszAll];try rfl);done);(focus (simp only [ee,Nat.reduceEqDiff];try rfl);done);(focus (simp only [hh,Nat.reduceAdd];try rfl);done);(focus rfl);(focus (simp only [zz];try rfl);done))));done);(focus (simp only [hh,Nat.reduceAdd];try rfl);done)))
      all_goals (try simp only [H_put, H_setH, H_of, packT, TVal.a, List.length_cons, List.length_nil, Nat.zero_add, List.take_succ_cons, List.take_zero, List.map_cons, List.map_nil, fzT, fzC_f])
      all_goals simp only [decOf, if_neg hdr]
      all_goals clear hN hS hC
      all_goals (try rw [hw] at *)
      all_goals (repeat' split)
      all_goals first
        | rfl
        | (simp only [aDec, cLay, cRow, lA, lB, lC, lD]; rfl)
        | (exfalso; simp_all; done)
        | (exfalso; simp_all; omega)
end Go.Proofs.Ythnfliopmjpdmaa.Av
