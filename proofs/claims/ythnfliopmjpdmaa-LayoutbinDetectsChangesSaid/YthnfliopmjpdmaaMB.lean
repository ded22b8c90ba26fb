/- Q7, Q8, Enc1, BrE, R1, R2, R3 in one text. -/
import Derived.Test.YthnfliopmjpdmaaMA
import Derived.Test.YthnfliopmjpdmaaEncPlain
import Derived.Test.YthnfliopmjpdmaaCrc
import Derived.Test.YthnfliopmjpdmaaCheck
import Derived.Lib.SlBytesConst
import Derived.WideShapes
import Derived.OpenShut
/- Encode of the reference. -/
namespace Go.Proofs.Ythnfliopmjpdmaa.Av
set_option linter.unusedVariables false
set_option linter.unusedSimpArgs false
set_option maxRecDepth 4000
set_option maxHeartbeats 4000000

abbrev bA (l : List UInt8) : ByteArray := ⟨l.toArray⟩
theorem bA_app (a b : List UInt8) : bA a ++ bA b = bA (a ++ b) := by
  apply ByteArray.ext
  simp [ByteArray.data_append]
theorem bA_size (a : List UInt8) : (bA a).size = a.length := by simp [ByteArray.size]
theorem wrap_u8 (x : Int) : IntKind.u8.wrap x = x % 256 := by
  simp only [IntKind.wrap]
  simp [IntKind.bits, IntKind.signed]
theorem u8_low (x : Int) (n : Nat) (h : x = n) : UInt8.ofNat (IntKind.u8.wrap x).toNat = low n 0 := by
  apply UInt8.toNat_inj.1
  unfold low
  rw [UInt8.toNat_ofNat', UInt8.toNat_ofNat', wrap_u8, h]
  simp
  omega
theorem low_shift (n i : Nat) : low (n / 2 ^ (8 * i)) 0 = low n i := by simp [low]
theorem lows_one (n : Nat) : lows n 1 = [low n 0] := rfl
theorem little_ok (v n : Nat) (hv : v < 18446744073709551616) (hn : n ≤ 8) : OkV Try.prog 29 [.c (.c (.f (.v (.int .u64 v)))), vI n] [] (vS (bA (lows v n))) [] := by
  refine X_fnP mixedX Try.func29 rfl (by kernel_rfl) (Nat.le_of_ble_eq_true (by kernel_rfl)) (by kernel_rfl) rfl rfl ?_
  simp only [sl0, Nat.zero_add, Nat.reduceAdd]
  repeat' (first
    |with_reducible (first|refine WR_pp ?_|refine WR_pd ?_|refine W_seq ?_|refine seqK_n ?_|refine seqK_r ?_|refine seqK_e ?_|refine W_block ?_|refine blockK_n ?_|refine blockK_r ?_|refine LoopK_e ?_|refine LoopK_r ?_|refine LoopX_r ?_|refine W_skip ?_|refine W_exit ?_|refine W_ret ?_|refine W_region (WOps_WR ?_)|refine W_draw (WOpsD_WR ?_)|refine WR_nil ?_|refine q_and ?_ ?_|exact True.intro|assumption|refine blockK_e rfl ?_|refine blockK_o (by decide) ?_|refine LoopX_e (by decide) ?_)
    |((with_reducible apply q_WR);first|refine X_run rfl ?_ ?_|refine WR_nilD (by kernel_rfl) ?_)
    |((with_reducible apply q_cond);refine X_cond rfl ?_ ?_;all_goals (intro hbq;(try simp only [bq] at hbq);(try (exfalso;omega))))
    |((with_reducible apply q_ret);refine X_ret tabOk trivial rfl rfl ?_ ?_)
    |((with_reducible apply q_retP);refine X_retP tabOk trivial rfl rfl ?_ ?_)
    |(intro (hgq : (_ : Bool) = true);(try simp only [bq] at hgq))
    |(intro (hgq : (_ : Bool) = false);(try simp only [bq] at hgq))
    |((with_reducible apply q_VOk);exact fun _ => ⟨rfl,rfl⟩)
    |(intro _;exact rfl)
    |((with_reducible apply q_bt);simp only [bq])
    |((with_reducible apply q_eqN);rfl)
    |with_reducible exact isByte_wrap _
    |with_reducible exact isByte_nat _
    |(simp only [hgq,bq];done)
    |omega)
  refine W_loopS (fun i : Nat => SS [(0, .v (.c (.c (.f (.v (.int .u64 (v / 2 ^ (8 * i) : Nat))))))), sI 1 n, sS 5 (bA (lows v i)), sI 6 i] []) (fun i => i ≤ n) (fun i => n - i) 0 ?_ (by omega) ?_
  ·
    refine X_weak rfl rfl rfl ?_ ?_ <;> repeat' (first|with_reducible (first|exact q_AgS0|exact HLe.nil _|refine HLe.none ?_|refine HLe.cells ?_ ?_|refine HLe.els ?_ ?_|exact SLe.nil|refine SLe.cons ?_ ?_|exact ELe.refl _|refine ELe.c rfl ?_|exact CLe.refl _|exact CLe.nil_row|exact CLe.nil_rowS|exact CLe.nil_tip|exact CLe.nil_tipS|exact CLe.int (by omega)|refine CLe.tip ?_ ?_|refine CLe.tip_row ?_ ?_|refine CLe.row ?_ ?_|refine CLe.tipr_row ?_|refine CLe.rows ?_|refine CLe.tips ?_|refine CLe.int ?_|refine CLe.bool ?_|refine CLe.str ?_|refine CLe.arr ?_ ?_)|refine q_AgS rfl ?_ ?_|exact CLe.nil_tipS|exact CLe.nil_rowS|refine HLe.cells ?_ ?_|refine HLe.els ?_ ?_|refine SLe.cons ?_ ?_|with_reducible rfl|omega)
    all_goals (simp [lows]; done)
  · intro i hi
    have hl := lows_len v i
    have hs := bA_size (lows v i)
    repeat' (first
      |with_reducible (first|refine WR_pp ?_|refine WR_pd ?_|refine W_seq ?_|refine seqK_n ?_|refine seqK_r ?_|refine seqK_e ?_|refine W_block ?_|refine blockK_n ?_|refine blockK_r ?_|refine LoopK_e ?_|refine LoopK_r ?_|refine LoopX_r ?_|refine W_skip ?_|refine W_exit ?_|refine W_ret ?_|refine W_region (WOps_WR ?_)|refine W_draw (WOpsD_WR ?_)|refine WR_nil ?_|refine q_and ?_ ?_|exact True.intro|assumption|refine blockK_e rfl ?_|refine blockK_o (by decide) ?_|refine LoopX_e (by decide) ?_)
      |((with_reducible apply q_WR);first|refine X_run rfl ?_ ?_|refine WR_nilD (by kernel_rfl) ?_)
      |((with_reducible apply q_cond);refine X_cond rfl ?_ ?_;all_goals (intro hbq;(try simp only [bq] at hbq);(try (exfalso;omega))))
      |((with_reducible apply q_ret);refine X_ret tabOk trivial rfl rfl ?_ ?_)
      |((with_reducible apply q_retP);refine X_retP tabOk trivial rfl rfl ?_ ?_)
      |(intro (hgq : (_ : Bool) = true);(try simp only [bq] at hgq))
      |(intro (hgq : (_ : Bool) = false);(try simp only [bq] at hgq))
      |((with_reducible apply q_VOk);exact fun _ => ⟨rfl,rfl⟩)
      |(intro _;exact rfl)
      |((with_reducible apply q_bt);simp only [bq])
      |((with_reducible apply q_eqN);rfl)
      |with_reducible exact isByte_wrap _
      |with_reducible exact isByte_nat _
      |(simp only [hgq,bq];done)
      |omega)
    · have e : (⟨#[UInt8.ofNat (IntKind.u8.wrap ((v / 2 ^ (8 * i) : Nat) : Int)).toNat]⟩ : ByteArray).size = 1 := rfl
      omega
    · have e : (⟨#[UInt8.ofNat (IntKind.u8.wrap ((v / 2 ^ (8 * i) : Nat) : Int)).toNat]⟩ : ByteArray) = bA [low v i] := by rw [u8_low _ _ rfl, low_shift]
      rw [e, bA_app, ← lows_succ]
      refine LoopK_n (i + 1) ?_ ?_ ?_
      rotate_left
      · (try dsimp only); omega
      · (try dsimp only); omega
      refine X_weak rfl rfl rfl ?_ ?_ <;> repeat' (first|with_reducible (first|exact q_AgS0|exact HLe.nil _|refine HLe.none ?_|refine HLe.cells ?_ ?_|refine HLe.els ?_ ?_|exact SLe.nil|refine SLe.cons ?_ ?_|exact ELe.refl _|refine ELe.c rfl ?_|exact CLe.refl _|exact CLe.nil_row|exact CLe.nil_rowS|exact CLe.nil_tip|exact CLe.nil_tipS|exact CLe.int (by omega)|refine CLe.tip ?_ ?_|refine CLe.tip_row ?_ ?_|refine CLe.row ?_ ?_|refine CLe.tipr_row ?_|refine CLe.rows ?_|refine CLe.tips ?_|refine CLe.int ?_|refine CLe.bool ?_|refine CLe.str ?_|refine CLe.arr ?_ ?_)|refine q_AgS rfl ?_ ?_|exact CLe.nil_tipS|exact CLe.nil_rowS|refine HLe.cells ?_ ?_|refine HLe.els ?_ ?_|refine SLe.cons ?_ ?_|with_reducible rfl|omega)
      show ((v / 2 ^ (8 * i) : Nat) : Int).fdiv 256 = _
      rw [Int.fdiv_eq_ediv_of_nonneg _ (by omega), show 8 * (i + 1) = 8 * i + 8 by omega, Nat.pow_add, ← Nat.div_div_eq_div_mul]
      omega
    · have hie : i = n := by omega
      subst hie
      repeat' (first|with_reducible (first|exact TkEq.nil _|refine TkEq.none ?_|refine TkEq.cells ?_ ?_|refine TkEq.els ?_ ?_|exact SEqL.nil|refine SEqL.cons ?_ ?_|exact TEqL.nil|refine TEqL.c ?_ ?_|refine TEqL.agg ?_ ?_|exact CEq.refl _|refine CEq.int ?_|refine CEq.bool ?_|refine CEq.str ?_|refine CEq.rows ?_|refine CEq.row ?_ ?_|refine CEq.tips ?_|refine CEq.tip ?_ ?_|refine CEq.raw ?_ ?_|refine CEq.arr ?_ ?_)|refine VEq.c ?_|refine VEq.agg ?_|refine VEq.tup ?_|refine TkEq.cells ?_ ?_|refine TkEq.els ?_ ?_|refine SEqL.cons ?_ ?_|refine TEqL.agg ?_ ?_|refine CEq.rows ?_|refine CEq.int ?_|rfl|omega)
theorem short_ok (s : ByteArray) (hs : s.size ≤ 1000000) : OkV Try.prog 28 [vS s] [] (vS (bA (nameBytes s))) [] := by
  have h1 := little_ok s.size 1 (by omega) (by omega)
  have e0 : IntKind.u64.wrap (s.size : Int) = s.size := by
    simp only [IntKind.wrap]
    simp [IntKind.bits, IntKind.signed]
    omega
  rw [← e0] at h1
  have hz := bA_size (lows s.size 1)
  have hl := lows_len s.size 1
  refine X_fnP mixedX Try.func28 rfl (by kernel_rfl) (Nat.le_of_ble_eq_true (by kernel_rfl)) (by kernel_rfl) rfl rfl ?_
  simp only [sl0, Nat.zero_add, Nat.reduceAdd]
  repeat' (first
    |with_reducible (first|refine WR_pp ?_|refine WR_pd ?_|refine W_seq ?_|refine seqK_n ?_|refine seqK_r ?_|refine seqK_e ?_|refine W_block ?_|refine blockK_n ?_|refine blockK_r ?_|refine LoopK_e ?_|refine LoopK_r ?_|refine LoopX_r ?_|refine W_skip ?_|refine W_exit ?_|refine W_ret ?_|refine W_region (WOps_WR ?_)|refine W_draw (WOpsD_WR ?_)|refine WR_nil ?_|refine q_and ?_ ?_|exact True.intro|assumption|refine blockK_e rfl ?_|refine blockK_o (by decide) ?_|refine LoopX_e (by decide) ?_)
    |((with_reducible apply q_call);refine X_pure (h1) rfl ?_)
    |((with_reducible apply q_WR);first|refine X_run rfl ?_ ?_|refine WR_nilD (by kernel_rfl) ?_)
    |((with_reducible apply q_cond);refine X_cond rfl ?_ ?_;all_goals (intro hbq;(try simp only [bq] at hbq);(try (exfalso;omega))))
    |((with_reducible apply q_ret);refine X_ret tabOk trivial rfl rfl ?_ ?_)
    |((with_reducible apply q_retP);refine X_retP tabOk trivial rfl rfl ?_ ?_)
    |(intro (hgq : (_ : Bool) = true);(try simp only [bq] at hgq))
    |(intro (hgq : (_ : Bool) = false);(try simp only [bq] at hgq))
    |((with_reducible apply q_VOk);exact fun _ => ⟨rfl,rfl⟩)
    |(intro _;exact rfl)
    |((with_reducible apply q_bt);simp only [bq])
    |((with_reducible apply q_eqN);rfl)
    |with_reducible exact isByte_wrap _
    |with_reducible exact isByte_nat _
    |(simp only [hgq,bq];done)
    |omega)
  refine VEq.c (CEq.str ?_)
  unfold nameBytes
  rw [← bA_app]
end Go.Proofs.Ythnfliopmjpdmaa.Av
/- Encode of the reference: what it returns. -/
namespace Go.Proofs.Ythnfliopmjpdmaa.Av
set_option linter.unusedVariables false
set_option linter.unusedSimpArgs false
set_option maxRecDepth 4000
set_option maxHeartbeats 4000000

theorem flat_next {α : Type} (f : α → List UInt8) (l : List α) (i : Nat) (d : α) (h : i < l.length) : (l.take (i + 1)).flatMap f = (l.take i).flatMap f ++ f (l.getD (i : Int).toNat d) := by
  rw [Int.toNat_natCast, List.take_succ_eq_append_getElem h, List.flatMap_append, List.getD_eq_getElem?_getD, List.getElem?_eq_getElem h]
  simp
theorem getD_mem {α : Type} (l : List α) (i : Nat) (d : α) (h : i < l.length) : l.getD (i : Int).toNat d ∈ l := by
  rw [Int.toNat_natCast, List.getD_eq_getElem?_getD, List.getElem?_eq_getElem h]
  exact List.getElem_mem h
theorem flat_take_le {α : Type} (f : α → List UInt8) (n m : Nat) (l : List α) (i : Nat) (h : ∀ x ∈ l, (f x).length ≤ n) (hm : l.length ≤ m) : ((l.take i).flatMap f).length ≤ m * n := by
  refine Nat.le_trans (flat_le f n _ fun x hx => h x (List.mem_of_mem_take hx)) (Nat.mul_le_mul_right _ ?_)
  rw [List.length_take]; omega
theorem u64_nat (x : Int) (h0 : 0 ≤ x) (h1 : x < 18446744073709551616) : IntKind.u64.wrap x = (x.toNat : Int) := by
  simp only [IntKind.wrap]
  simp [IntKind.bits, IntKind.signed]
  omega
theorem u64_nat' (n : Nat) (h : n < 4294967296) : IntKind.u64.wrap (n : Int) = (n : Int) := u64_nat _ (by omega) (by omega)
theorem sz2 (a b : UInt8) : (⟨#[a, b]⟩ : ByteArray).size = 2 := rfl
theorem sz4 (a b c d : UInt8) : (⟨#[a, b, c, d]⟩ : ByteArray).size = 4 := rfl
abbrev bxL (L : Lay) : SB := .cells [rStr L.sts, rStr L.pts, rSec L.secs, rLnk L.lnks]
theorem refEncode_bad (L : Lay) (hf : LayFits L) (h : layErr L ≠ 0) : OkV Try.prog 15 [vLay L] [] (.tup [.c (xS ⟨#[]⟩), .c (xI 1)]) [] := by
  have hC := refCheck_okV L hf
  refine X_fnP mixedX Try.func15 rfl (by kernel_rfl) (Nat.le_of_ble_eq_true (by kernel_rfl)) (by kernel_rfl) rfl rfl ?_
  simp only [sl0, Nat.zero_add, Nat.reduceAdd]
  repeat' (first
    |with_reducible (first|refine WR_pp ?_|refine WR_pd ?_|refine W_seq ?_|refine seqK_n ?_|refine seqK_r ?_|refine seqK_e ?_|refine W_block ?_|refine blockK_n ?_|refine blockK_r ?_|refine LoopK_e ?_|refine LoopK_r ?_|refine LoopX_r ?_|refine W_skip ?_|refine W_exit ?_|refine W_ret ?_|refine W_region (WOps_WR ?_)|refine W_draw (WOpsD_WR ?_)|refine WR_nil ?_|refine q_and ?_ ?_|exact True.intro|assumption|refine blockK_e rfl ?_|refine blockK_o (by decide) ?_|refine LoopX_e (by decide) ?_)
    |((with_reducible apply q_call);refine X_pure (hC) rfl ?_)
    |((with_reducible apply q_WR);first|refine X_run rfl ?_ ?_|refine WR_nilD (by kernel_rfl) ?_)
    |((with_reducible apply q_cond);refine X_cond rfl ?_ ?_;all_goals (intro hbq;(try simp only [bq] at hbq);(try (exfalso;omega))))
    |((with_reducible apply q_ret);refine X_ret tabOk trivial rfl rfl ?_ ?_)
    |((with_reducible apply q_retP);refine X_retP tabOk trivial rfl rfl ?_ ?_)
    |(intro (hgq : (_ : Bool) = true);(try simp only [bq] at hgq))
    |(intro (hgq : (_ : Bool) = false);(try simp only [bq] at hgq))
    |((with_reducible apply q_VOk);exact fun _ => ⟨rfl,rfl⟩)
    |(intro _;exact rfl)
    |((with_reducible apply q_bt);simp only [bq])
    |((with_reducible apply q_eqN);rfl)
    |with_reducible exact isByte_wrap _
    |with_reducible exact isByte_nat _
    |(simp only [hgq,bq];done)
    |omega)
  all_goals repeat' (first|with_reducible (first|exact TkEq.nil _|refine TkEq.none ?_|refine TkEq.cells ?_ ?_|refine TkEq.els ?_ ?_|exact SEqL.nil|refine SEqL.cons ?_ ?_|exact TEqL.nil|refine TEqL.c ?_ ?_|refine TEqL.agg ?_ ?_|exact CEq.refl _|refine CEq.int ?_|refine CEq.bool ?_|refine CEq.str ?_|refine CEq.rows ?_|refine CEq.row ?_ ?_|refine CEq.tips ?_|refine CEq.tip ?_ ?_|refine CEq.raw ?_ ?_|refine CEq.arr ?_ ?_)|refine VEq.c ?_|refine VEq.agg ?_|refine VEq.tup ?_|refine TkEq.cells ?_ ?_|refine TkEq.els ?_ ?_|refine SEqL.cons ?_ ?_|refine TEqL.agg ?_ ?_|refine CEq.rows ?_|refine CEq.int ?_|rfl|omega)
theorem refEncode_ok (L : Lay) (hf : LayFits L) (h : layErr L = 0) : OkV Try.prog 15 [vLay L] [] (.tup [.c (xS (bA (encL L))), .c (xI 0)]) [] := by
  have hC := refCheck_okV L hf
  rw [h] at hC
  obtain ⟨n1, n2, n3, n4, n5, v1, v2, v3, v4⟩ := valid_of h
  refine X_fnP mixedX Try.func15 rfl (by kernel_rfl) (Nat.le_of_ble_eq_true (by kernel_rfl)) (by kernel_rfl) rfl rfl ?_
  simp only [sl0, Nat.zero_add, Nat.reduceAdd]
  repeat' (first
    |with_reducible (first|refine WR_pp ?_|refine WR_pd ?_|refine W_seq ?_|refine seqK_n ?_|refine seqK_r ?_|refine seqK_e ?_|refine W_block ?_|refine blockK_n ?_|refine blockK_r ?_|refine LoopK_e ?_|refine LoopK_r ?_|refine LoopX_r ?_|refine W_skip ?_|refine W_exit ?_|refine W_ret ?_|refine W_region (WOps_WR ?_)|refine W_draw (WOpsD_WR ?_)|refine WR_nil ?_|refine q_and ?_ ?_|exact True.intro|assumption|refine blockK_e rfl ?_|refine blockK_o (by decide) ?_|refine LoopX_e (by decide) ?_)
    |((with_reducible apply q_call);refine X_pure (hC) rfl ?_)
    |((with_reducible apply q_WR);first|refine X_run rfl ?_ ?_|refine WR_nilD (by kernel_rfl) ?_)
    |((with_reducible apply q_cond);refine X_cond rfl ?_ ?_;all_goals (intro hbq;(try simp only [bq] at hbq);(try (exfalso;omega))))
    |((with_reducible apply q_ret);refine X_ret tabOk trivial rfl rfl ?_ ?_)
    |((with_reducible apply q_retP);refine X_retP tabOk trivial rfl rfl ?_ ?_)
    |(intro (hgq : (_ : Bool) = true);(try simp only [bq] at hgq))
    |(intro (hgq : (_ : Bool) = false);(try simp only [bq] at hgq))
    |((with_reducible apply q_VOk);exact fun _ => ⟨rfl,rfl⟩)
    |(intro _;exact rfl)
    |((with_reducible apply q_bt);simp only [bq])
    |((with_reducible apply q_eqN);rfl)
    |with_reducible exact isByte_wrap _
    |with_reducible exact isByte_nat _
    |(simp only [hgq,bq];done)
    |omega)
  · show 4 + 4 ≤ _
    decide
  have e1 : (⟨#[82, 80, 76, 49]⟩ : ByteArray) ++ ⟨#[UInt8.ofNat (IntKind.u8.wrap L.sts.length).toNat, UInt8.ofNat (IntKind.u8.wrap L.pts.length).toNat, UInt8.ofNat (IntKind.u8.wrap L.secs.length).toNat, UInt8.ofNat (IntKind.u8.wrap L.lnks.length).toNat]⟩ = bA (headBytes L) := by
    rw [u8_low _ _ rfl, u8_low _ _ rfl, u8_low _ _ rfl, u8_low _ _ rfl]
    exact bA_app [82, 80, 76, 49] _
  rw [e1]
  have z0 : (headBytes L).length = 8 := rfl
  have z1 := fun i => flat_take_le nameBytes 13 24 L.sts i (fun x hx => nameBytes_len (v1 x hx)) n1
  have z2 := fun i => flat_take_le nameBytes 13 48 L.pts i (fun x hx => nameBytes_len (v2 x hx)) n2
  have z3 := fun i => flat_take_le secBytes 20 96 L.secs i (fun x hx => secBytes_len (v3 x hx).1) n3
  have z4 := fun i => flat_take_le lnkBytes 4 192 L.lnks i (fun x _ => Nat.le_of_eq (lnkBytes_len x)) n4
  clear hC e1
  refine W_loopS (fun i : Nat => SS [sC 1 (pB 0), sS 4 (bA (headBytes L ++ (L.sts.take i).flatMap nameBytes)), sI 5 i] [some (bxL L)]) (fun i => i ≤ L.sts.length) (fun i => L.sts.length - i) 0 ?_ (by omega) ?_
  ·
    refine X_weak rfl rfl rfl ?_ ?_ <;> repeat' (first|with_reducible (first|exact q_AgS0|exact HLe.nil _|refine HLe.none ?_|refine HLe.cells ?_ ?_|refine HLe.els ?_ ?_|exact SLe.nil|refine SLe.cons ?_ ?_|exact ELe.refl _|refine ELe.c rfl ?_|exact CLe.refl _|exact CLe.nil_row|exact CLe.nil_rowS|exact CLe.nil_tip|exact CLe.nil_tipS|exact CLe.int (by omega)|refine CLe.tip ?_ ?_|refine CLe.tip_row ?_ ?_|refine CLe.row ?_ ?_|refine CLe.tipr_row ?_|refine CLe.rows ?_|refine CLe.tips ?_|refine CLe.int ?_|refine CLe.bool ?_|refine CLe.str ?_|refine CLe.arr ?_ ?_)|refine q_AgS rfl ?_ ?_|exact CLe.nil_tipS|exact CLe.nil_rowS|refine HLe.cells ?_ ?_|refine HLe.els ?_ ?_|refine SLe.cons ?_ ?_|with_reducible rfl|omega)
    all_goals simp
  intro i hi
  have hz := bA_size (headBytes L ++ (L.sts.take i).flatMap nameBytes)
  have hz1 := z1 i
  rw [List.length_append, z0] at hz
  have hS : i < L.sts.length → OkV Try.prog 28 [vS (L.sts.getD (i : Int).toNat ⟨#[]⟩)] [] (vS (bA (nameBytes (L.sts.getD (i : Int).toNat ⟨#[]⟩)))) [] ∧ (bA (nameBytes (L.sts.getD (i : Int).toNat ⟨#[]⟩))).size ≤ 13 := fun h => by
    have hm := v1 _ (getD_mem L.sts i ⟨#[]⟩ h)
    have := nameB_size hm
    exact ⟨short_ok _ (by omega), by rw [bA_size]; exact nameBytes_len hm⟩
  by_cases hlt : i < L.sts.length
  · obtain ⟨hS1, hS2⟩ := hS hlt
    repeat' (first
      |with_reducible (first|refine WR_pp ?_|refine WR_pd ?_|refine W_seq ?_|refine seqK_n ?_|refine seqK_r ?_|refine seqK_e ?_|refine W_block ?_|refine blockK_n ?_|refine blockK_r ?_|refine LoopK_e ?_|refine LoopK_r ?_|refine LoopX_r ?_|refine W_skip ?_|refine W_exit ?_|refine W_ret ?_|refine W_region (WOps_WR ?_)|refine W_draw (WOpsD_WR ?_)|refine WR_nil ?_|refine q_and ?_ ?_|exact True.intro|assumption|refine blockK_e rfl ?_|refine blockK_o (by decide) ?_|refine LoopX_e (by decide) ?_)
      |((with_reducible apply q_call);refine X_pure (hS1) rfl ?_)
      |((with_reducible apply q_WR);first|refine X_run rfl ?_ ?_|refine WR_nilD (by kernel_rfl) ?_)
      |((with_reducible apply q_cond);refine X_cond rfl ?_ ?_;all_goals (intro hbq;(try simp only [bq] at hbq);(try (exfalso;omega))))
      |((with_reducible apply q_ret);refine X_ret tabOk trivial rfl rfl ?_ ?_)
      |((with_reducible apply q_retP);refine X_retP tabOk trivial rfl rfl ?_ ?_)
      |(intro (hgq : (_ : Bool) = true);(try simp only [bq] at hgq))
      |(intro (hgq : (_ : Bool) = false);(try simp only [bq] at hgq))
      |((with_reducible apply q_VOk);exact fun _ => ⟨rfl,rfl⟩)
      |(intro _;exact rfl)
      |((with_reducible apply q_bt);simp only [bq])
      |((with_reducible apply q_eqN);rfl)
      |with_reducible exact isByte_wrap _
      |with_reducible exact isByte_nat _
      |(simp only [hgq,bq];done)
      |omega)
    rw [bA_app, List.append_assoc, ← flat_next nameBytes L.sts i _ hlt]
    refine LoopK_n (i + 1) ?_ ?_ ?_
    rotate_left
    · (try dsimp only); omega
    · (try dsimp only); omega
    refine X_weak rfl rfl rfl ?_ ?_ <;> repeat' (first|with_reducible (first|exact q_AgS0|exact HLe.nil _|refine HLe.none ?_|refine HLe.cells ?_ ?_|refine HLe.els ?_ ?_|exact SLe.nil|refine SLe.cons ?_ ?_|exact ELe.refl _|refine ELe.c rfl ?_|exact CLe.refl _|exact CLe.nil_row|exact CLe.nil_rowS|exact CLe.nil_tip|exact CLe.nil_tipS|exact CLe.int (by omega)|refine CLe.tip ?_ ?_|refine CLe.tip_row ?_ ?_|refine CLe.row ?_ ?_|refine CLe.tipr_row ?_|refine CLe.rows ?_|refine CLe.tips ?_|refine CLe.int ?_|refine CLe.bool ?_|refine CLe.str ?_|refine CLe.arr ?_ ?_)|refine q_AgS rfl ?_ ?_|exact CLe.nil_tipS|exact CLe.nil_rowS|refine HLe.cells ?_ ?_|refine HLe.els ?_ ?_|refine SLe.cons ?_ ?_|with_reducible rfl|omega)
  have hie : i = L.sts.length := by omega
  subst hie
  rw [List.take_length] at hz hz1 ⊢
  repeat' (first
    |with_reducible (first|refine WR_pp ?_|refine WR_pd ?_|refine W_seq ?_|refine seqK_n ?_|refine seqK_r ?_|refine seqK_e ?_|refine W_block ?_|refine blockK_n ?_|refine blockK_r ?_|refine LoopK_e ?_|refine LoopK_r ?_|refine LoopX_r ?_|refine W_skip ?_|refine W_exit ?_|refine W_ret ?_|refine W_region (WOps_WR ?_)|refine W_draw (WOpsD_WR ?_)|refine WR_nil ?_|refine q_and ?_ ?_|exact True.intro|assumption|refine blockK_e rfl ?_|refine blockK_o (by decide) ?_|refine LoopX_e (by decide) ?_)
    |((with_reducible apply q_WR);first|refine X_run rfl ?_ ?_|refine WR_nilD (by kernel_rfl) ?_)
    |((with_reducible apply q_cond);refine X_cond rfl ?_ ?_;all_goals (intro hbq;(try simp only [bq] at hbq);(try (exfalso;omega))))
    |((with_reducible apply q_ret);refine X_ret tabOk trivial rfl rfl ?_ ?_)
    |((with_reducible apply q_retP);refine X_retP tabOk trivial rfl rfl ?_ ?_)
    |(intro (hgq : (_ : Bool) = true);(try simp only [bq] at hgq))
    |(intro (hgq : (_ : Bool) = false);(try simp only [bq] at hgq))
    |((with_reducible apply q_VOk);exact fun _ => ⟨rfl,rfl⟩)
    |(intro _;exact rfl)
    |((with_reducible apply q_bt);simp only [bq])
    |((with_reducible apply q_eqN);rfl)
    |with_reducible exact isByte_wrap _
    |with_reducible exact isByte_nat _
    |(simp only [hgq,bq];done)
    |omega)
  clear hS hbq hlt hi
  have w1 : (headBytes L ++ L.sts.flatMap nameBytes).length ≤ 320 := by rw [List.length_append, z0]; omega
  generalize hB1 : headBytes L ++ L.sts.flatMap nameBytes = B1 at w1 ⊢
  clear hz hz1
  refine W_loopS (fun i : Nat => SS [sC 1 (pB 0), sS 4 (bA (B1 ++ (L.pts.take i).flatMap nameBytes)), sI 6 i] [some (bxL L)]) (fun i => i ≤ L.pts.length) (fun i => L.pts.length - i) 0 ?_ (by omega) ?_
  ·
    refine X_weak rfl rfl rfl ?_ ?_ <;> repeat' (first|with_reducible (first|exact q_AgS0|exact HLe.nil _|refine HLe.none ?_|refine HLe.cells ?_ ?_|refine HLe.els ?_ ?_|exact SLe.nil|refine SLe.cons ?_ ?_|exact ELe.refl _|refine ELe.c rfl ?_|exact CLe.refl _|exact CLe.nil_row|exact CLe.nil_rowS|exact CLe.nil_tip|exact CLe.nil_tipS|exact CLe.int (by omega)|refine CLe.tip ?_ ?_|refine CLe.tip_row ?_ ?_|refine CLe.row ?_ ?_|refine CLe.tipr_row ?_|refine CLe.rows ?_|refine CLe.tips ?_|refine CLe.int ?_|refine CLe.bool ?_|refine CLe.str ?_|refine CLe.arr ?_ ?_)|refine q_AgS rfl ?_ ?_|exact CLe.nil_tipS|exact CLe.nil_rowS|refine HLe.cells ?_ ?_|refine HLe.els ?_ ?_|refine SLe.cons ?_ ?_|with_reducible rfl|omega)
    all_goals simp
  intro i hi
  have hz := bA_size (B1 ++ (L.pts.take i).flatMap nameBytes)
  have hz1 := z2 i
  rw [List.length_append] at hz
  by_cases hlt : i < L.pts.length
  · have hm := v2 _ (getD_mem L.pts i ⟨#[]⟩ hlt)
    have hm2 := nameB_size hm
    have hS1 := short_ok (L.pts.getD (i : Int).toNat ⟨#[]⟩) (by omega)
    have hS2 : (bA (nameBytes (L.pts.getD (i : Int).toNat ⟨#[]⟩))).size ≤ 13 := by rw [bA_size]; exact nameBytes_len hm
    repeat' (first
      |with_reducible (first|refine WR_pp ?_|refine WR_pd ?_|refine W_seq ?_|refine seqK_n ?_|refine seqK_r ?_|refine seqK_e ?_|refine W_block ?_|refine blockK_n ?_|refine blockK_r ?_|refine LoopK_e ?_|refine LoopK_r ?_|refine LoopX_r ?_|refine W_skip ?_|refine W_exit ?_|refine W_ret ?_|refine W_region (WOps_WR ?_)|refine W_draw (WOpsD_WR ?_)|refine WR_nil ?_|refine q_and ?_ ?_|exact True.intro|assumption|refine blockK_e rfl ?_|refine blockK_o (by decide) ?_|refine LoopX_e (by decide) ?_)
      |((with_reducible apply q_call);refine X_pure (hS1) rfl ?_)
      |((with_reducible apply q_WR);first|refine X_run rfl ?_ ?_|refine WR_nilD (by kernel_rfl) ?_)
      |((with_reducible apply q_cond);refine X_cond rfl ?_ ?_;all_goals (intro hbq;(try simp only [bq] at hbq);(try (exfalso;omega))))
      |((with_reducible apply q_ret);refine X_ret tabOk trivial rfl rfl ?_ ?_)
      |((with_reducible apply q_retP);refine X_retP tabOk trivial rfl rfl ?_ ?_)
      |(intro (hgq : (_ : Bool) = true);(try simp only [bq] at hgq))
      |(intro (hgq : (_ : Bool) = false);(try simp only [bq] at hgq))
      |((with_reducible apply q_VOk);exact fun _ => ⟨rfl,rfl⟩)
      |(intro _;exact rfl)
      |((with_reducible apply q_bt);simp only [bq])
      |((with_reducible apply q_eqN);rfl)
      |with_reducible exact isByte_wrap _
      |with_reducible exact isByte_nat _
      |(simp only [hgq,bq];done)
      |omega)
    rw [bA_app, List.append_assoc, ← flat_next nameBytes L.pts i _ hlt]
    refine LoopK_n (i + 1) ?_ ?_ ?_
    rotate_left
    · (try dsimp only); omega
    · (try dsimp only); omega
    refine X_weak rfl rfl rfl ?_ ?_ <;> repeat' (first|with_reducible (first|exact q_AgS0|exact HLe.nil _|refine HLe.none ?_|refine HLe.cells ?_ ?_|refine HLe.els ?_ ?_|exact SLe.nil|refine SLe.cons ?_ ?_|exact ELe.refl _|refine ELe.c rfl ?_|exact CLe.refl _|exact CLe.nil_row|exact CLe.nil_rowS|exact CLe.nil_tip|exact CLe.nil_tipS|exact CLe.int (by omega)|refine CLe.tip ?_ ?_|refine CLe.tip_row ?_ ?_|refine CLe.row ?_ ?_|refine CLe.tipr_row ?_|refine CLe.rows ?_|refine CLe.tips ?_|refine CLe.int ?_|refine CLe.bool ?_|refine CLe.str ?_|refine CLe.arr ?_ ?_)|refine q_AgS rfl ?_ ?_|exact CLe.nil_tipS|exact CLe.nil_rowS|refine HLe.cells ?_ ?_|refine HLe.els ?_ ?_|refine SLe.cons ?_ ?_|with_reducible rfl|omega)
  have hie : i = L.pts.length := by omega
  subst hie
  rw [List.take_length] at hz hz1 ⊢
  repeat' (first
    |with_reducible (first|refine WR_pp ?_|refine WR_pd ?_|refine W_seq ?_|refine seqK_n ?_|refine seqK_r ?_|refine seqK_e ?_|refine W_block ?_|refine blockK_n ?_|refine blockK_r ?_|refine LoopK_e ?_|refine LoopK_r ?_|refine LoopX_r ?_|refine W_skip ?_|refine W_exit ?_|refine W_ret ?_|refine W_region (WOps_WR ?_)|refine W_draw (WOpsD_WR ?_)|refine WR_nil ?_|refine q_and ?_ ?_|exact True.intro|assumption|refine blockK_e rfl ?_|refine blockK_o (by decide) ?_|refine LoopX_e (by decide) ?_)
    |((with_reducible apply q_WR);first|refine X_run rfl ?_ ?_|refine WR_nilD (by kernel_rfl) ?_)
    |((with_reducible apply q_cond);refine X_cond rfl ?_ ?_;all_goals (intro hbq;(try simp only [bq] at hbq);(try (exfalso;omega))))
    |((with_reducible apply q_ret);refine X_ret tabOk trivial rfl rfl ?_ ?_)
    |((with_reducible apply q_retP);refine X_retP tabOk trivial rfl rfl ?_ ?_)
    |(intro (hgq : (_ : Bool) = true);(try simp only [bq] at hgq))
    |(intro (hgq : (_ : Bool) = false);(try simp only [bq] at hgq))
    |((with_reducible apply q_VOk);exact fun _ => ⟨rfl,rfl⟩)
    |(intro _;exact rfl)
    |((with_reducible apply q_bt);simp only [bq])
    |((with_reducible apply q_eqN);rfl)
    |with_reducible exact isByte_wrap _
    |with_reducible exact isByte_nat _
    |(simp only [hgq,bq];done)
    |omega)
  clear hbq hlt hi
  have w2 : (B1 ++ L.pts.flatMap nameBytes).length ≤ 1000 := by rw [List.length_append]; omega
  generalize hB2 : B1 ++ L.pts.flatMap nameBytes = B2 at w2 ⊢
  clear hz hz1
  refine W_loopS (fun i : Nat => SS [sC 1 (pB 0), sS 4 (bA (B2 ++ (L.secs.take i).flatMap secBytes)), sI 7 i] [some (bxL L)]) (fun i => i ≤ L.secs.length) (fun i => L.secs.length - i) 0 ?_ (by omega) ?_
  ·
    refine X_weak rfl rfl rfl ?_ ?_ <;> repeat' (first|with_reducible (first|exact q_AgS0|exact HLe.nil _|refine HLe.none ?_|refine HLe.cells ?_ ?_|refine HLe.els ?_ ?_|exact SLe.nil|refine SLe.cons ?_ ?_|exact ELe.refl _|refine ELe.c rfl ?_|exact CLe.refl _|exact CLe.nil_row|exact CLe.nil_rowS|exact CLe.nil_tip|exact CLe.nil_tipS|exact CLe.int (by omega)|refine CLe.tip ?_ ?_|refine CLe.tip_row ?_ ?_|refine CLe.row ?_ ?_|refine CLe.tipr_row ?_|refine CLe.rows ?_|refine CLe.tips ?_|refine CLe.int ?_|refine CLe.bool ?_|refine CLe.str ?_|refine CLe.arr ?_ ?_)|refine q_AgS rfl ?_ ?_|exact CLe.nil_tipS|exact CLe.nil_rowS|refine HLe.cells ?_ ?_|refine HLe.els ?_ ?_|refine SLe.cons ?_ ?_|with_reducible rfl|omega)
    all_goals simp
  intro i hi
  have hz := bA_size (B2 ++ (L.secs.take i).flatMap secBytes)
  have hz1 := z3 i
  rw [List.length_append] at hz
  by_cases hlt : i < L.secs.length
  · obtain ⟨hm, hm1⟩ := v3 _ (getD_mem L.secs i sec0 hlt)
    have hnx := flat_next secBytes L.secs i sec0 hlt
    have hm2 := nameB_size hm
    obtain ⟨q1, q2, q3, q4, q5, q6, q7, q8⟩ := secB_of hm1
    have hS1 := short_ok (L.secs.getD (i : Int).toNat sec0).nm (by omega)
    have hS2 : (bA (nameBytes (L.secs.getD (i : Int).toNat sec0).nm)).size ≤ 13 := by rw [bA_size]; exact nameBytes_len hm
    have hL1 := little_ok (L.secs.getD (i : Int).toNat sec0).len.toNat 2 (by omega) (by omega)
    have hL2 := little_ok (L.secs.getD (i : Int).toNat sec0).lim.toNat 3 (by omega) (by omega)
    rw [← u64_nat (L.secs.getD (i : Int).toNat sec0).len (by omega) (by omega)] at hL1
    rw [← u64_nat (L.secs.getD (i : Int).toNat sec0).lim (by omega) (by omega)] at hL2
    have t1 := bA_size (lows (L.secs.getD (i : Int).toNat sec0).len.toNat 2)
    have t2 := bA_size (lows (L.secs.getD (i : Int).toNat sec0).lim.toNat 3)
    rw [lows_len] at t1 t2
    repeat' (first
      |with_reducible (first|refine WR_pp ?_|refine WR_pd ?_|refine W_seq ?_|refine seqK_n ?_|refine seqK_r ?_|refine seqK_e ?_|refine W_block ?_|refine blockK_n ?_|refine blockK_r ?_|refine LoopK_e ?_|refine LoopK_r ?_|refine LoopX_r ?_|refine W_skip ?_|refine W_exit ?_|refine W_ret ?_|refine W_region (WOps_WR ?_)|refine W_draw (WOpsD_WR ?_)|refine WR_nil ?_|refine q_and ?_ ?_|exact True.intro|assumption|refine blockK_e rfl ?_|refine blockK_o (by decide) ?_|refine LoopX_e (by decide) ?_)
      |((with_reducible apply q_call);first|refine X_pure (hS1) rfl ?_|refine X_pure (hL1) rfl ?_|refine X_pure (hL2) rfl ?_)
      |((with_reducible apply q_WR);first|refine X_run rfl ?_ ?_|refine WR_nilD (by kernel_rfl) ?_)
      |((with_reducible apply q_cond);refine X_cond rfl ?_ ?_;all_goals (intro hbq;(try simp only [bq] at hbq);(try (exfalso;omega))))
      |((with_reducible apply q_ret);refine X_ret tabOk trivial rfl rfl ?_ ?_)
      |((with_reducible apply q_retP);refine X_retP tabOk trivial rfl rfl ?_ ?_)
      |(intro (hgq : (_ : Bool) = true);(try simp only [bq] at hgq))
      |(intro (hgq : (_ : Bool) = false);(try simp only [bq] at hgq))
      |((with_reducible apply q_VOk);exact fun _ => ⟨rfl,rfl⟩)
      |(intro _;exact rfl)
      |((with_reducible apply q_bt);simp only [bq])
      |((with_reducible apply q_eqN);rfl)
      |with_reducible exact isByte_wrap _
      |with_reducible exact isByte_nat _
      |(simp only [hgq,bq];done)
      |omega)
    any_goals (simp only [ByteArray.size_append, sz2]; omega)
    have e2 : (⟨#[UInt8.ofNat (IntKind.u8.wrap ((L.secs.getD (i : Int).toNat sec0).grd + 40)).toNat, UInt8.ofNat (IntKind.u8.wrap ((L.secs.getD (i : Int).toNat sec0).stn + 1)).toNat]⟩ : ByteArray) = bA (lows ((L.secs.getD (i : Int).toNat sec0).grd + 40).toNat 1 ++ lows ((L.secs.getD (i : Int).toNat sec0).stn + 1).toNat 1) := by
      rw [u8_low _ ((L.secs.getD (i : Int).toNat sec0).grd + 40).toNat (by omega), u8_low _ ((L.secs.getD (i : Int).toNat sec0).stn + 1).toNat (by omega)]
      rfl
    have e3 : bA (nameBytes (L.secs.getD (i : Int).toNat sec0).nm) ++ bA (lows (L.secs.getD (i : Int).toNat sec0).len.toNat 2) ++ bA (lows (L.secs.getD (i : Int).toNat sec0).lim.toNat 3) ++ (⟨#[UInt8.ofNat (IntKind.u8.wrap ((L.secs.getD (i : Int).toNat sec0).grd + 40)).toNat, UInt8.ofNat (IntKind.u8.wrap ((L.secs.getD (i : Int).toNat sec0).stn + 1)).toNat]⟩ : ByteArray) = bA (secBytes (L.secs.getD (i : Int).toNat sec0)) := by
      rw [e2, bA_app, bA_app, bA_app, ← List.append_assoc]
      rfl
    rw [e3, bA_app, List.append_assoc, ← hnx]
    clear e2 e3
    refine LoopK_n (i + 1) ?_ ?_ ?_
    rotate_left
    · (try dsimp only); omega
    · (try dsimp only); omega
    refine X_weak rfl rfl rfl ?_ ?_ <;> repeat' (first|with_reducible (first|exact q_AgS0|exact HLe.nil _|refine HLe.none ?_|refine HLe.cells ?_ ?_|refine HLe.els ?_ ?_|exact SLe.nil|refine SLe.cons ?_ ?_|exact ELe.refl _|refine ELe.c rfl ?_|exact CLe.refl _|exact CLe.nil_row|exact CLe.nil_rowS|exact CLe.nil_tip|exact CLe.nil_tipS|exact CLe.int (by omega)|refine CLe.tip ?_ ?_|refine CLe.tip_row ?_ ?_|refine CLe.row ?_ ?_|refine CLe.tipr_row ?_|refine CLe.rows ?_|refine CLe.tips ?_|refine CLe.int ?_|refine CLe.bool ?_|refine CLe.str ?_|refine CLe.arr ?_ ?_)|refine q_AgS rfl ?_ ?_|exact CLe.nil_tipS|exact CLe.nil_rowS|refine HLe.cells ?_ ?_|refine HLe.els ?_ ?_|refine SLe.cons ?_ ?_|with_reducible rfl|omega)
  have hie : i = L.secs.length := by omega
  subst hie
  rw [List.take_length] at hz hz1 ⊢
  repeat' (first
    |with_reducible (first|refine WR_pp ?_|refine WR_pd ?_|refine W_seq ?_|refine seqK_n ?_|refine seqK_r ?_|refine seqK_e ?_|refine W_block ?_|refine blockK_n ?_|refine blockK_r ?_|refine LoopK_e ?_|refine LoopK_r ?_|refine LoopX_r ?_|refine W_skip ?_|refine W_exit ?_|refine W_ret ?_|refine W_region (WOps_WR ?_)|refine W_draw (WOpsD_WR ?_)|refine WR_nil ?_|refine q_and ?_ ?_|exact True.intro|assumption|refine blockK_e rfl ?_|refine blockK_o (by decide) ?_|refine LoopX_e (by decide) ?_)
    |((with_reducible apply q_WR);first|refine X_run rfl ?_ ?_|refine WR_nilD (by kernel_rfl) ?_)
    |((with_reducible apply q_cond);refine X_cond rfl ?_ ?_;all_goals (intro hbq;(try simp only [bq] at hbq);(try (exfalso;omega))))
    |((with_reducible apply q_ret);refine X_ret tabOk trivial rfl rfl ?_ ?_)
    |((with_reducible apply q_retP);refine X_retP tabOk trivial rfl rfl ?_ ?_)
    |(intro (hgq : (_ : Bool) = true);(try simp only [bq] at hgq))
    |(intro (hgq : (_ : Bool) = false);(try simp only [bq] at hgq))
    |((with_reducible apply q_VOk);exact fun _ => ⟨rfl,rfl⟩)
    |(intro _;exact rfl)
    |((with_reducible apply q_bt);simp only [bq])
    |((with_reducible apply q_eqN);rfl)
    |with_reducible exact isByte_wrap _
    |with_reducible exact isByte_nat _
    |(simp only [hgq,bq];done)
    |omega)
  clear hbq hlt hi
  have w3 : (B2 ++ L.secs.flatMap secBytes).length ≤ 3000 := by rw [List.length_append]; omega
  generalize hB3 : B2 ++ L.secs.flatMap secBytes = B3 at w3 ⊢
  clear hz hz1
  refine W_loopS (fun i : Nat => SS [sC 1 (pB 0), sS 4 (bA (B3 ++ (L.lnks.take i).flatMap lnkBytes)), sI 9 i] [some (bxL L)]) (fun i => i ≤ L.lnks.length) (fun i => L.lnks.length - i) 0 ?_ (by omega) ?_
  ·
    refine X_weak rfl rfl rfl ?_ ?_ <;> repeat' (first|with_reducible (first|exact q_AgS0|exact HLe.nil _|refine HLe.none ?_|refine HLe.cells ?_ ?_|refine HLe.els ?_ ?_|exact SLe.nil|refine SLe.cons ?_ ?_|exact ELe.refl _|refine ELe.c rfl ?_|exact CLe.refl _|exact CLe.nil_row|exact CLe.nil_rowS|exact CLe.nil_tip|exact CLe.nil_tipS|exact CLe.int (by omega)|refine CLe.tip ?_ ?_|refine CLe.tip_row ?_ ?_|refine CLe.row ?_ ?_|refine CLe.tipr_row ?_|refine CLe.rows ?_|refine CLe.tips ?_|refine CLe.int ?_|refine CLe.bool ?_|refine CLe.str ?_|refine CLe.arr ?_ ?_)|refine q_AgS rfl ?_ ?_|exact CLe.nil_tipS|exact CLe.nil_rowS|refine HLe.cells ?_ ?_|refine HLe.els ?_ ?_|refine SLe.cons ?_ ?_|with_reducible rfl|omega)
    all_goals simp
  intro i hi
  have hz := bA_size (B3 ++ (L.lnks.take i).flatMap lnkBytes)
  have hz1 := z4 i
  rw [List.length_append] at hz
  by_cases hlt : i < L.lnks.length
  · obtain ⟨l1, l2, l3, l4, l5, l6, l7, l8, l9, l10, l11, l12, l13⟩ := linkB_of (v4 _ (getD_mem L.lnks i lnk0 hlt))
    have hnx := flat_next lnkBytes L.lnks i lnk0 hlt
    repeat' (first
      |with_reducible (first|refine WR_pp ?_|refine WR_pd ?_|refine W_seq ?_|refine seqK_n ?_|refine seqK_r ?_|refine seqK_e ?_|refine W_block ?_|refine blockK_n ?_|refine blockK_r ?_|refine LoopK_e ?_|refine LoopK_r ?_|refine LoopX_r ?_|refine W_skip ?_|refine W_exit ?_|refine W_ret ?_|refine W_region (WOps_WR ?_)|refine W_draw (WOpsD_WR ?_)|refine WR_nil ?_|refine q_and ?_ ?_|exact True.intro|assumption|refine blockK_e rfl ?_|refine blockK_o (by decide) ?_|refine LoopX_e (by decide) ?_)
      |((with_reducible apply q_WR);first|refine X_run rfl ?_ ?_|refine WR_nilD (by kernel_rfl) ?_)
      |((with_reducible apply q_cond);refine X_cond rfl ?_ ?_;all_goals (intro hbq;(try simp only [bq] at hbq);(try (exfalso;omega))))
      |((with_reducible apply q_ret);refine X_ret tabOk trivial rfl rfl ?_ ?_)
      |((with_reducible apply q_retP);refine X_retP tabOk trivial rfl rfl ?_ ?_)
      |(intro (hgq : (_ : Bool) = true);(try simp only [bq] at hgq))
      |(intro (hgq : (_ : Bool) = false);(try simp only [bq] at hgq))
      |((with_reducible apply q_VOk);exact fun _ => ⟨rfl,rfl⟩)
      |(intro _;exact rfl)
      |((with_reducible apply q_bt);simp only [bq])
      |((with_reducible apply q_eqN);rfl)
      |with_reducible exact isByte_wrap _
      |with_reducible exact isByte_nat _
      |(simp only [hgq,bq];done)
      |omega)
    any_goals (simp only [ByteArray.size_append, sz4]; omega)
    have e3 : (⟨#[UInt8.ofNat (IntKind.u8.wrap (2 * (L.lnks.getD (i : Int).toNat lnk0).a + (L.lnks.getD (i : Int).toNat lnk0).ae)).toNat, UInt8.ofNat (IntKind.u8.wrap (2 * (L.lnks.getD (i : Int).toNat lnk0).b + (L.lnks.getD (i : Int).toNat lnk0).be)).toNat, UInt8.ofNat (IntKind.u8.wrap ((L.lnks.getD (i : Int).toNat lnk0).pt + 1)).toNat, UInt8.ofNat (IntKind.u8.wrap (L.lnks.getD (i : Int).toNat lnk0).ps).toNat]⟩ : ByteArray) = bA (lnkBytes (L.lnks.getD (i : Int).toNat lnk0)) := by
      rw [u8_low _ ((L.lnks.getD (i : Int).toNat lnk0).a * 2 + (L.lnks.getD (i : Int).toNat lnk0).ae).toNat (by omega), u8_low _ ((L.lnks.getD (i : Int).toNat lnk0).b * 2 + (L.lnks.getD (i : Int).toNat lnk0).be).toNat (by omega), u8_low _ ((L.lnks.getD (i : Int).toNat lnk0).pt + 1).toNat (by omega), u8_low _ (L.lnks.getD (i : Int).toNat lnk0).ps.toNat (by omega)]
      rfl
    rw [e3, bA_app, List.append_assoc, ← hnx]
    clear e3
    refine LoopK_n (i + 1) ?_ ?_ ?_
    rotate_left
    · (try dsimp only); omega
    · (try dsimp only); omega
    refine X_weak rfl rfl rfl ?_ ?_ <;> repeat' (first|with_reducible (first|exact q_AgS0|exact HLe.nil _|refine HLe.none ?_|refine HLe.cells ?_ ?_|refine HLe.els ?_ ?_|exact SLe.nil|refine SLe.cons ?_ ?_|exact ELe.refl _|refine ELe.c rfl ?_|exact CLe.refl _|exact CLe.nil_row|exact CLe.nil_rowS|exact CLe.nil_tip|exact CLe.nil_tipS|exact CLe.int (by omega)|refine CLe.tip ?_ ?_|refine CLe.tip_row ?_ ?_|refine CLe.row ?_ ?_|refine CLe.tipr_row ?_|refine CLe.rows ?_|refine CLe.tips ?_|refine CLe.int ?_|refine CLe.bool ?_|refine CLe.str ?_|refine CLe.arr ?_ ?_)|refine q_AgS rfl ?_ ?_|exact CLe.nil_tipS|exact CLe.nil_rowS|refine HLe.cells ?_ ?_|refine HLe.els ?_ ?_|refine SLe.cons ?_ ?_|with_reducible rfl|omega)
  have hie : i = L.lnks.length := by omega
  subst hie
  rw [List.take_length] at hz hz1 ⊢
  have w4 : (B3 ++ L.lnks.flatMap lnkBytes).length ≤ 4000 := by rw [List.length_append]; omega
  have hb4 : B3 ++ L.lnks.flatMap lnkBytes = bodyL L := by rw [← hB3, ← hB2, ← hB1]; rfl
  rw [hb4] at w4 hz ⊢
  have hz4 := bA_size (bodyL L)
  have hcr := refCrc_okV (bA (bodyL L)) (by omega)
  have hlt4 := Pl.crc_lt (bA (bodyL L)).data.toList
  have hli := little_ok (Pl.crc (bA (bodyL L)).data.toList) 4 (by omega) (by omega)
  rw [← u64_nat' (Pl.crc (bA (bodyL L)).data.toList) (by omega)] at hli
  have hsz := bA_size (lows (Pl.crc (bA (bodyL L)).data.toList) 4)
  rw [lows_len] at hsz
  repeat' (first
    |with_reducible (first|refine WR_pp ?_|refine WR_pd ?_|refine W_seq ?_|refine seqK_n ?_|refine seqK_r ?_|refine seqK_e ?_|refine W_block ?_|refine blockK_n ?_|refine blockK_r ?_|refine LoopK_e ?_|refine LoopK_r ?_|refine LoopX_r ?_|refine W_skip ?_|refine W_exit ?_|refine W_ret ?_|refine W_region (WOps_WR ?_)|refine W_draw (WOpsD_WR ?_)|refine WR_nil ?_|refine q_and ?_ ?_|exact True.intro|assumption|refine blockK_e rfl ?_|refine blockK_o (by decide) ?_|refine LoopX_e (by decide) ?_)
    |((with_reducible apply q_call);first|refine X_pure (hcr) rfl ?_|refine X_pure (hli) rfl ?_)
    |((with_reducible apply q_WR);first|refine X_run rfl ?_ ?_|refine WR_nilD (by kernel_rfl) ?_)
    |((with_reducible apply q_cond);refine X_cond rfl ?_ ?_;all_goals (intro hbq;(try simp only [bq] at hbq);(try (exfalso;omega))))
    |((with_reducible apply q_ret);refine X_ret tabOk trivial rfl rfl ?_ ?_)
    |((with_reducible apply q_retP);refine X_retP tabOk trivial rfl rfl ?_ ?_)
    |(intro (hgq : (_ : Bool) = true);(try simp only [bq] at hgq))
    |(intro (hgq : (_ : Bool) = false);(try simp only [bq] at hgq))
    |((with_reducible apply q_VOk);exact fun _ => ⟨rfl,rfl⟩)
    |(intro _;exact rfl)
    |((with_reducible apply q_bt);simp only [bq])
    |((with_reducible apply q_eqN);rfl)
    |with_reducible exact isByte_wrap _
    |with_reducible exact isByte_nat _
    |(simp only [hgq,bq];done)
    |omega)
  rw [bA_app]
  rfl
end Go.Proofs.Ythnfliopmjpdmaa.Av
/- Contract of layoutbin.Encode. -/
namespace Go.Proofs.Ythnfliopmjpdmaa
open Go.RowKit
set_option linter.unusedVariables false

theorem index4 (n0 n1 n2 n3 : Int) (k : Nat) (hk : k < 4) (w : World) : (Instr.index 51 (.agg #[.int .i64 n0, .int .i64 n1, .int .i64 n2, .int .i64 n3]) (.int .i64 (k : Int))).run Try.prog w = .ok (.int .i64 ([n0, n1, n2, n3].getD k 0)) w := by
  rcases (show k = 0 ∨ k = 1 ∨ k = 2 ∨ k = 3 by omega) with rfl | rfl | rfl | rfl <;> kernel_rfl

theorem index4_0 (n0 n1 n2 n3 : Int) (w : World) : (Instr.index 51 (.agg #[.int .i64 n0, .int .i64 n1, .int .i64 n2, .int .i64 n3]) (.int .i64 0)).run Try.prog w = .ok (.int .i64 n0) w := by kernel_rfl

/-- A slice of bytes of the call's own, and old memory. -/
structure EnI (w x : World) (v : Value) (bs : List UInt8) : Prop where
  own : OwnF x w.heap.size 5 1 byteF v bs
  bel : Below w.heap.size w x
theorem EnI.call {w x y : World} {v : Value} {bs : List UInt8} (h : EnI w x v bs) (hb : Below x.heap.size x y) : EnI w y v bs := ⟨h.own.below hb, h.bel.trans (hb.mono h.bel.size)⟩
theorem EnI.app {w x y : World} {v v' : Value} {bs bs' : List UInt8} (h : EnI w x v bs) (ho : OwnF y w.heap.size 5 1 byteF v' bs') (hg : x.grownBy y v.ownBlock) : EnI w y v' bs' :=
  ⟨ho, h.bel.grown hg h.bel.size (fun q hq => (World.ownsRow.lt h.own q hq).1)⟩
theorem own_lit (w : World) (base : Nat) (hb : base ≤ w.heap.size) (bs : List UInt8) (hl : bs.length ≤ 9223372036854775807) : OwnF (w.alloc (.cells (bs.map (fun b => Value.int .u8 (b.toNat : Int))).toArray 5)) base 5 1 byteF (.slice (some ⟨w.heap.size, 0, none⟩) bs.length bs.length) bs := by
  have e : bs.map (fun b => Value.int .u8 (b.toNat : Int)) = bs.flatMap byteF := by
    unfold byteF; induction bs with
    | nil => rfl
    | cons a r ih => simp [List.flatMap_cons] at *; exact ih (by omega)
  refine ⟨by rw [← e]; simp, .inr ⟨w.heap.size, bs.length, _, rfl, hb, heap_alloc_new w _, Nat.le_refl _, by unfold maxLen; exact hl, by simp, ?_⟩⟩
  rw [← e]; simp only [Nat.mul_one]; exact List.take_of_length_le (by simp)

theorem own_base {w : World} {b b' : Nat} {T : TypeId} {n : Nat} {v : Value} {m : Nat} {xs : List Value} (h : w.ownsRow b T n v m xs) (hb : b' ≤ b) : w.ownsRow b' T n v m xs :=
  ⟨h.1, h.2.imp id (fun ⟨g, cap, cur, e1, e2, e3⟩ => ⟨g, cap, cur, e1, Nat.le_trans hb e2, e3⟩)⟩

/-- The first append: the slice is full, and not the call's own. -/
theorem appendNumber_first (base b : Nat) (bs : List UInt8) (n : Nat) (w : World) (hc : ∀ j u, (bs.flatMap byteF)[j]? = some u → w.cell? ⟨b, j, none⟩ = some u) (hbb : b < w.heap.size) (hb : base ≤ w.heap.size) (hl : bs.length ≤ 1000) (hn : n ≤ 9223372036854775807) :
    Calls Try.prog 23 #[.slice (some ⟨b, 0, none⟩) bs.length bs.length, .int .i64 n, .int .i64 1] w fun e w' => ∃ v', e = .returned v' ∧ OwnF w' base 5 1 byteF v' (bs ++ lows n 1) ∧ Below w.heap.size w w' := by
  obtain ⟨i0, hi, hz0, hz1, hz2⟩ := info_parts info_u8
  have Hc := Lib.hid hc
  clear hc
  go_enter Try.func23, Try.ntmps23
  go_wp2
  go_loopw [0, 9] (fun u iv wr => (iv = .int .i64 0 ∧ u = .slice (some ⟨b, 0, none⟩) bs.length bs.length ∧ wr = w) ∨ (iv = .int .i64 1 ∧ Hid (OwnF wr base 5 1 byteF u (bs ++ lows n 1)) ∧ Hid (Below w.heap.size w wr))) (fun _ iv _ => 1 - (intOf iv).toNat)
  case atStart => exact .inl ⟨rfl, rfl, rfl⟩
  case round =>
    rcases hrel with ⟨rfl, rfl, rfl⟩ | ⟨rfl, Ho, Hb⟩
    · have Hlow : Hid (((low n 0).toNat : Int) = (n : Int) % 256) := Lib.hid (by rw [low_val]; simp)
      go_wp2_with (at_builtin; refine wpList_append_grows _ (by rfl) _ _ _ (by rfl) 5 i0 (.int .u8 0) 1 1 Try.underlying41 hi hz0 hz1 hz2 rfl (by omega) (some ⟨b, 0, none⟩) bs.length bs.length (bs.flatMap byteF) (by rfl) (fun h => by cases h) ?c0 ?c1 ⟨wr.heap.size, 0, none⟩ 1 1 [.int .u8 ((n : Int) % 256)] (by rfl) (by rfl) ?c2 ?c3 (by omega) ?c4 ?c5 ?_)
      case c0 => rw [flat_len byteF 1 byteF_len]
      case c1 =>
        intro b1 e1 j u hu
        cases e1
        rw [add_row, World.cell?_of_block (w := wr) (a := ⟨b, j, none⟩) (Below.heap_alloc _ _ _ hbb)]
        exact Hc.out j u hu
      case c2 => exact World.news_of_block (heap_alloc_new wr _)
      case c3 => intro u hu; simp at hu; rw [hu]; rfl
      case c4 => unfold maxLen; omega
      case c5 => omega
      intro v' w1 hown hg
      have Ho : Hid (OwnF w1 base 5 1 byteF v' (bs ++ lows n 1)) := Lib.hid (by
        unfold OwnF
        rw [lows_succ, show lows n 0 = [] from rfl, List.nil_append, List.flatMap_append, List.length_append]
        have e : [low n 0].flatMap byteF = [.int .u8 ((n : Int) % 256)] := by simp [byteF, Hlow.out]
        rw [e]
        exact own_base hown (by first | omega | (simp; omega)))
      have Hb1 : Hid (Below wr.heap.size wr w1) := Lib.hid (((Below.refl _ _).alloc (Nat.le_refl _) _).grown hg (by simp) (fun q hq => by cases hq))
      clear hown hg
      go_wp2
      exact ⟨.inr ⟨rfl, Ho, Hb1⟩, by decide⟩
    · go_wp2
      go_ret
      exact ⟨_, rfl, Ho.out, Hb.out⟩

def headK (L : Lay) (k : Nat) : List UInt8 := [82, 80, 76, 49] ++ (([L.sts.length, L.pts.length, L.secs.length, L.lnks.length].take k).flatMap (fun n => lows n 1))
theorem headK_four (L : Lay) : headK L 4 = headBytes L := by unfold headK headBytes; simp
theorem headK_len (L : Lay) (k : Nat) : (headK L k).length ≤ 8 := by
  unfold headK
  have := flat_le (fun n => lows n 1) 1 ([L.sts.length, L.pts.length, L.secs.length, L.lnks.length].take k) (fun x _ => by rw [lows_len]; exact Nat.le_refl _)
  rw [List.length_append]
  simp only [List.length_take, List.length_cons, List.length_nil] at *
  omega
theorem headK_succ (L : Lay) (k : Nat) (hk : k < 4) : headK L (k + 1) = headK L k ++ lows ([L.sts.length, L.pts.length, L.secs.length, L.lnks.length].getD k 0) 1 := by
  rcases (show k = 0 ∨ k = 1 ∨ k = 2 ∨ k = 3 by omega) with rfl | rfl | rfl | rfl <;> simp [headK]

/-- A block is known whole. -/
def BoxB (w : World) (p : Nat) (vs : List Value) (T : TypeId) : Prop := w.heap[p]? = some (.cells vs.toArray T (0, 0))
theorem BoxB.new (w : World) (vs : List Value) (T : TypeId) : BoxB (w.alloc (.cells vs.toArray T)) w.heap.size vs T := heap_alloc_new w _
theorem BoxB.lt {w : World} {p : Nat} {vs : List Value} {T : TypeId} (h : BoxB w p vs T) : p < w.heap.size := (Array.getElem?_eq_some_iff.1 h).1
theorem BoxB.cell {w : World} {p : Nat} {vs : List Value} {T : TypeId} (h : BoxB w p vs T) (j : Nat) (v : Value) (hv : vs[j]? = some v) : w.cell? ⟨p, j, none⟩ = some v := by
  show (match w.heap[p]? with | some (.cells c _ _) => if Option.isSome (none : Option Nat) then none else c[j]? | _ => none) = some v
  rw [h]; simpa using hv
theorem BoxB.app {w w' : World} {p base : Nat} {vs : List Value} {T : TypeId} {v : Value} {bs : List UInt8} (h : BoxB w p vs T) (hT : T ≠ 5) (ho : OwnF w base 5 1 byteF v bs) (hg : w.grownBy w' v.ownBlock) : BoxB w' p vs T := by
  refine (hg.block p h.lt (fun e => ?_)).trans h
  rcases ho.2 with ⟨h1, _⟩ | ⟨g, cap, cur, h1, _, h2, _⟩
  · rw [h1] at e; cases e
  · rw [h1] at e
    have e' : p = g := by injection e
    subst e'
    have h3 : some (Obj.cells vs.toArray T (0, 0)) = some (.cells cur 5 (0, 0)) := h.symm.trans h2
    injection h3 with h3
    injection h3 with _ h4 _
    exact hT h4

theorem own_string {w : World} {base : Nat} {v : Value} {bs : List UInt8} (ho : OwnF w base 5 1 byteF v bs) (h0 : 0 < bs.length) : (convert 41 9 v).run Try.prog w = .ok (.string ⟨bs.toArray⟩) w := by
  rcases ho.2 with ⟨h1, h2⟩ | ⟨g, cap, cur, h1, _, h2, _⟩
  · omega
  · rw [h1]
    refine run_convert_bytes_back (P := Try.prog) w 41 9 5 ⟨g, 0, none⟩ cap bs Try.underlying41 Try.underlying5 Try.underlying9 (fun j hj => ?_)
    have e := flat_at byteF 1 byteF_len bs j hj 0 (by omega)
    rw [Nat.mul_one, Nat.add_zero] at e
    exact World.ownsRow.cells ho (g := g) (by rw [h1]; rfl) j _ (by rw [e]; rfl)
theorem crc_lt (l : List UInt8) : Pl.crc l < 4294967296 := Pl.crc_lt l
def lnkK (f0 f1 f2 f3 k : Nat) : List UInt8 := ([f0, f1, f2, f3].take k).flatMap (fun n => lows n 1)
theorem lnkK_succ (f0 f1 f2 f3 k : Nat) (hk : k < 4) : lnkK f0 f1 f2 f3 (k + 1) = lnkK f0 f1 f2 f3 k ++ lows ([f0, f1, f2, f3].getD k 0) 1 := by
  rcases (show k = 0 ∨ k = 1 ∨ k = 2 ∨ k = 3 by omega) with rfl | rfl | rfl | rfl <;> simp [lnkK]
theorem lnkK_len (f0 f1 f2 f3 k : Nat) : (lnkK f0 f1 f2 f3 k).length ≤ 4 := by
  unfold lnkK
  have := flat_le (fun n => lows n 1) 1 ([f0, f1, f2, f3].take k) (fun x _ => by rw [lows_len]; exact Nat.le_refl _)
  rw [List.length_take] at this
  simp only [List.length_cons, List.length_nil] at this
  omega

def namesK (L : Lay) (k : Nat) : List UInt8 := if k = 0 then headBytes L else if k = 1 then headBytes L ++ L.sts.flatMap nameBytes else headBytes L ++ L.sts.flatMap nameBytes ++ L.pts.flatMap nameBytes
theorem names_len (S : List ByteArray) (m : Nat) (h : ∀ s ∈ S, nameB s = true) : ((S.take m).flatMap nameBytes).length ≤ S.length * 13 := by
  have := flat_le nameBytes 13 (S.take m) (fun x hx => nameBytes_len (h x (List.mem_of_mem_take hx)))
  rw [List.length_take] at this
  have h2 : min m S.length * 13 ≤ S.length * 13 := Nat.mul_le_mul_right _ (Nat.min_le_right _ _)
  omega
theorem names_len' (S : List ByteArray) (h : ∀ s ∈ S, nameB s = true) : (S.flatMap nameBytes).length ≤ S.length * 13 :=
  flat_le nameBytes 13 S (fun x hx => nameBytes_len (h x hx))
theorem head_len (L : Lay) : (headBytes L).length = 8 := by unfold headBytes; simp [lows_len]
theorem namesK_len {L : Lay} (h : Valid L) (k : Nat) : (namesK L k).length ≤ 1000 := by
  have h1 := names_len' L.sts h.v1
  have h2 := names_len' L.pts h.v2
  have h3 := h.n1
  have h4 := h.n2
  have h5 := head_len L
  unfold namesK
  split
  · omega
  · split
    · rw [List.length_append]; omega
    · rw [List.length_append, List.length_append]; omega
theorem flat_snoc {α : Type} (f : α → List UInt8) (S : List α) (m : Nat) (h : m < S.length) : (S.take (m + 1)).flatMap f = (S.take m).flatMap f ++ f S[m] := by
  rw [List.take_succ_eq_append_getElem h, List.flatMap_append]; simp

theorem encode_bad (V : LayV) (L : Lay) (w : World) (hR : RdLay w V L) (hbad : layErr L ≠ 0) :
    Calls Try.prog 10 #[.agg #[.slice V.A1 L.sts.length V.c1, .slice V.A2 L.pts.length V.c2, .slice V.A3 L.secs.length V.c3, .slice V.A4 L.lnks.length V.c4]] w fun e w' => e = .returned (.tuple #[.string ⟨#[]⟩, .int .i64 1]) ∧ Below w.heap.size w w' := by
  obtain ⟨z, Hz⟩ : ∃ z, Hid (layErr L = z) := ⟨_, Lib.hid rfl⟩
  have hz : (z != 0) = true := by rw [bne_iff_ne, ← Hz.out]; exact hbad
  have hb0 : Below w.heap.size w (w.alloc (.cells #[.slice V.A1 L.sts.length V.c1, .slice V.A2 L.pts.length V.c2, .slice V.A3 L.secs.length V.c3, .slice V.A4 L.lnks.length V.c4] 29)) := (Below.refl _ _).alloc (Nat.le_refl _) _
  have HR := Lib.hid (hR.below hb0)
  have Hb0 := Lib.hid hb0
  clear hR hbad hb0
  go_enter Try.func10, Try.ntmps10
  go_wp2_with fail
  refine (layCheck_any V L _ HR.out).mono ?_
  rintro e w1 ⟨rfl, hb⟩
  rw [Hz.out]
  have Hb := Lib.hid (Hb0.out.trans (hb.mono Hb0.out.size))
  clear hb Hb0 HR
  go_wp2
  go_ret2
  exact ⟨rfl, Hb.out⟩

set_option maxHeartbeats 600000 in
set_option maxRecDepth 100000 in
theorem encode_ok (V : LayV) (L : Lay) (w : World) (hR : RdLay w V L) (hok : layErr L = 0) :
    Calls Try.prog 10 #[.agg #[.slice V.A1 L.sts.length V.c1, .slice V.A2 L.pts.length V.c2, .slice V.A3 L.secs.length V.c3, .slice V.A4 L.lnks.length V.c4]] w fun e w' => e = .returned (.tuple #[.string ⟨(encL L).toArray⟩, .int .i64 0]) ∧ Below w.heap.size w w' := by
  obtain ⟨A1, c1, A2, c2, A3, c3, A4, c4⟩ := V
  dsimp only
  have HV := Lib.hid (valid_of hok)
  have n1 := HV.out.n1
  have n2 := HV.out.n2
  have n3 := HV.out.n3
  have n4 := HV.out.n4
  have Hok := Lib.hid hok
  obtain ⟨ES, HES⟩ : ∃ ES, Hid (encL L = ES) := ⟨_, Lib.hid rfl⟩
  rw [HES.out]
  have Hb0 : Hid (Below w.heap.size w (w.alloc (.cells #[.slice A1 L.sts.length c1, .slice A2 L.pts.length c2, .slice A3 L.secs.length c3, .slice A4 L.lnks.length c4] 29))) := Lib.hid ((Below.refl _ _).alloc (Nat.le_refl _) _)
  have HB0 := Lib.hid (BoxV.new w [.slice A1 L.sts.length c1, .slice A2 L.pts.length c2, .slice A3 L.secs.length c3, .slice A4 L.lnks.length c4] 29)
  have HR0 := Lib.hid (hR.below Hb0.out)
  clear hR hok
  have hix := fun k hk => index4 (L.sts.length : Int) (L.pts.length : Int) (L.secs.length : Int) (L.lnks.length : Int) k hk
  have HIX := Lib.hid hix
  clear hix
  have kc := fun (w : World) (C : Array Value) (n c : Nat) => Lib.run_convert_bytes_const (P := Try.prog) w 41 5 C n c Try.underlying41 Try.underlying5
  go_enter Try.func10, Try.ntmps10
  go_wp2_with fail
  generalize w.alloc (.cells #[.slice A1 L.sts.length c1, .slice A2 L.pts.length c2, .slice A3 L.secs.length c3, .slice A4 L.lnks.length c4] 29) = w0 at *
  refine (layCheck_any ⟨A1, c1, A2, c2, A3, c3, A4, c4⟩ L _ HR0.out).mono ?_
  rintro e w1 ⟨rfl, hb1⟩
  rw [Hok.out]
  have Hw1 : Hid (Below w0.heap.size w0 (w1.alloc (.cells #[.int .u8 82, .int .u8 80, .int .u8 76, .int .u8 49] 5 (4, 5)))) := Lib.hid (hb1.alloc hb1.size _)
  have Hcl : Hid (∀ j u, (([82, 80, 76, 49] : List UInt8).flatMap byteF)[j]? = some u → (w1.alloc (.cells #[.int .u8 82, .int .u8 80, .int .u8 76, .int .u8 49] 5 (4, 5))).cell? ⟨w1.heap.size, j, none⟩ = some u) := Lib.hid (fun j u hu => by
    have e := (MapKept.heap_alloc w1 (.cells #[.int .u8 82, .int .u8 80, .int .u8 76, .int .u8 49] 5 (4, 5))).1
    show (match (w1.alloc (.cells #[.int .u8 82, .int .u8 80, .int .u8 76, .int .u8 49] 5 (4, 5))).heap[w1.heap.size]? with | some (.cells c _ _) => if Option.isSome (none : Option Nat) then none else c[j]? | _ => none) = some u
    rw [e]
    simpa [byteF] using hu)
  have HB1 := Lib.hid (HB0.out.below hb1)
  have s0 := HB1.out.2 0 _ rfl
  have s1 := HB1.out.2 1 _ rfl
  have s2 := HB1.out.2 2 _ rfl
  have s3 := HB1.out.2 3 _ rfl
  have s5 := HB1.out.1
  clear hb1
  go_wp2
  clear s0 s1 s2 s3 s5 HB1 kc
  obtain ⟨q, Hq⟩ : ∃ q, Hid (w1.heap.size = q) := ⟨_, Lib.hid rfl⟩
  have hqs : q < (w1.alloc (.cells #[.int .u8 82, .int .u8 80, .int .u8 76, .int .u8 49] 5 (4, 5))).heap.size := by rw [← Hq.out]; simp
  have Hqs := Lib.hid hqs
  clear hqs
  rw [Hq.out] at Hcl ⊢
  generalize w1.alloc (.cells #[.int .u8 82, .int .u8 80, .int .u8 76, .int .u8 49] 5 (4, 5)) = w2 at *
  obtain ⟨p, Hp⟩ : ∃ p, Hid (w.heap.size = p) := ⟨_, Lib.hid rfl⟩
  rw [Hp.out] at HB0 ⊢
  go_loopw [4, 35] (fun u iv wr => (iv = .int .i64 0 ∧ u = .slice (some ⟨q, 0, none⟩) 4 4 ∧ wr = w2) ∨ ∃ (k : Nat) (v : Value), 1 ≤ k ∧ k ≤ 4 ∧ iv = .int .i64 k ∧ v = u ∧ Hid (EnI w0 wr v (headK L k))) (fun _ iv _ => 4 - (intOf iv).toNat)
  case atStart => exact .inl ⟨rfl, rfl, rfl⟩
  case round =>
    rcases hrel with ⟨rfl, rfl, rfl⟩ | ⟨k, v, hk1, hk2, rfl, rfl, HE⟩
    · have hx0 := index4_0 (L.sts.length : Int) (L.pts.length : Int) (L.secs.length : Int) (L.lnks.length : Int)
      go_wp2_with fail
      refine (appendNumber_first w0.heap.size q [82, 80, 76, 49] L.sts.length _ Hcl.out Hqs.out Hw1.out.size (by simp) (by omega)).mono ?_
      rintro e w3 ⟨v', rfl, ho, hb3⟩
      have HE1 : Hid (EnI w0 w3 v' (headK L 1)) := Lib.hid ⟨by simpa [headK] using ho, Hw1.out.trans (hb3.mono Hw1.out.size)⟩
      clear ho hb3
      go_wp2
      exact ⟨.inr ⟨1, _, by omega, by omega, rfl, rfl, HE1⟩, by decide⟩
    · by_cases hlt : k < 4
      · have hx := HIX.out k hlt
        have hl := headK_len L k
        obtain ⟨z, Hz⟩ : ∃ z : Nat, Hid ([L.sts.length, L.pts.length, L.secs.length, L.lnks.length].getD k 0 = z) := ⟨_, Lib.hid rfl⟩
        have hzi : ([(L.sts.length : Int), (L.pts.length : Int), (L.secs.length : Int), (L.lnks.length : Int)].getD k 0) = (z : Int) := by
          rw [← Hz.out]
          rcases (show k = 1 ∨ k = 2 ∨ k = 3 by omega) with rfl | rfl | rfl <;> rfl
        have hz : z ≤ 192 := by
          rw [← Hz.out]
          rcases (show k = 1 ∨ k = 2 ∨ k = 3 by omega) with rfl | rfl | rfl
          · show L.pts.length ≤ 192; omega
          · show L.secs.length ≤ 192; omega
          · show L.lnks.length ≤ 192; omega
        rw [hzi] at hx
        have Hsu : Hid (headK L (k + 1) = headK L k ++ lows z 1) := Lib.hid (by rw [headK_succ L k hlt, Hz.out])
        have Hl := Lib.hid hl
        clear hzi hl
        go_wp2_with fail
        refine (appendNumber_any w0.heap.size v (headK L k) z 1 _ HE.out.own HE.out.bel.size (by have := Hl.out; omega) (by omega) (by omega)).mono ?_
        rintro e w3 ⟨v', rfl, ho, hg, _⟩
        have HE1 : Hid (EnI w0 w3 v' (headK L (k + 1))) := Lib.hid (by rw [Hsu.out]; exact HE.out.app ho hg)
        clear ho hg
        go_wp2
        go_roundw
        case rel => exact .inr ⟨k + 1, _, by omega, by omega, by go_num, rfl, HE1⟩
        case measure => simp [intOf]; omega
      · obtain rfl : k = 4 := by omega
        have HE4 : Hid (EnI w0 wr v (namesK L 0)) := Lib.hid (by have := HE.out; rw [headK_four] at this; exact this)
        rw [show ((4 : Nat) : Int) = 4 from rfl]
        have HB := Lib.hid (HB0.out.below HE.out.bel)
        have s0 := HB.out.2 0 _ rfl
        have s1 := HB.out.2 1 _ rfl
        have s5 := HB.out.1
        have hix0 := index_pair0
        have hix1 := index_pair1
        clear HE
        go_wp2
        clear s0 s1 s5 HB
        go_loopw [4, 47] (fun u iv wr => ∃ (k : Nat) (v : Value), k ≤ 2 ∧ iv = .int .i64 k ∧ v = u ∧ Hid (EnI w0 wr v (namesK L k))) (fun _ iv _ => 2 - (intOf iv).toNat)
        case atStart => exact ⟨0, _, by omega, rfl, rfl, HE4⟩
        case round =>
          obtain ⟨k, v, hk, rfl, rfl, HE⟩ := hrel
          clear HE4
          obtain ⟨wo, rfl⟩ : ∃ wo : World, wo = wr := ⟨_, rfl⟩
          rcases (show k = 0 ∨ k = 1 ∨ k = 2 by omega) with rfl | rfl | rfl
          · rw [show ((0 : Nat) : Int) = 0 from rfl]
            obtain ⟨P, HP⟩ : ∃ P, Hid (namesK L 0 = P) := ⟨_, Lib.hid rfl⟩
            have hP : P.length ≤ 1000 := by rw [← HP.out]; exact namesK_len HV.out _
            have HPn : Hid (namesK L 1 = P ++ L.sts.flatMap nameBytes) := Lib.hid (by rw [← HP.out]; rfl)
            rw [HP.out] at HE
            go_wp2
            go_loopw [4, 52] (fun u iv wr => ∃ (m : Nat) (v : Value), m ≤ L.sts.length ∧ iv = .int .i64 m ∧ v = u ∧ Hid (EnI w0 wr v (P ++ (L.sts.take m).flatMap nameBytes))) (fun _ iv _ => L.sts.length - (intOf iv).toNat)
            case atStart => exact ⟨0, _, by omega, rfl, rfl, by simpa using HE⟩
            case round =>
              obtain ⟨m, v, hm, rfl, rfl, HEm⟩ := hrel
              clear HE
              by_cases hlt : m < L.sts.length
              · obtain ⟨bs, os, hA, hbl, hc⟩ := (HR0.out.below HEm.out.bel).r1 m hlt
                obtain rfl : A1 = some ⟨bs, os, none⟩ := hA
                obtain ⟨s, Hs⟩ : ∃ s, Hid (L.sts[m] = s) := ⟨_, Lib.hid rfl⟩
                have hsz : s.size ≤ 1000 := by have := nameB_size (HV.out.v1 _ (List.getElem_mem hlt)); rw [Hs.out] at this; omega
                have hln := names_len L.sts m HV.out.v1
                rw [Hs.out] at hc
                have q0 := hc 0 _ rfl
                rw [Nat.add_zero, Nat.mul_one] at q0
                have Hsn : Hid (P ++ (L.sts.take (m + 1)).flatMap nameBytes = P ++ (L.sts.take m).flatMap nameBytes ++ nameBytes s) := Lib.hid (by rw [flat_snoc nameBytes L.sts m hlt, Hs.out, List.append_assoc])
                have hbl2 : (P ++ (L.sts.take m).flatMap nameBytes).length ≤ 900000 := by rw [List.length_append]; omega
                have Hbl2 := Lib.hid hbl2
                clear hc hln hbl2
                go_wp2_with fail
                refine (appendName_any w0.heap.size v (P ++ (L.sts.take m).flatMap nameBytes) s _ HEm.out.own HEm.out.bel.size Hbl2.out hsz).mono ?_
                rintro e w3 ⟨v', rfl, ho, hg⟩
                have HE1 : Hid (EnI w0 w3 v' (P ++ (L.sts.take (m + 1)).flatMap nameBytes)) := Lib.hid (by rw [Hsn.out]; exact HEm.out.app ho hg)
                clear ho hg q0 hbl
                go_wp2
                go_roundw
                case rel => exact ⟨m + 1, _, by omega, by go_num, rfl, HE1⟩
                case measure => simp [intOf]; omega
              · have HE1 : Hid (EnI w0 wr v (namesK L 1)) := Lib.hid (by have := HEm.out; rw [List.take_of_length_le (by omega), ← HPn.out] at this; exact this)
                go_wp2
                exact ⟨⟨1, _, by omega, rfl, rfl, HE1⟩, by decide⟩
          · rw [show ((1 : Nat) : Int) = 1 from rfl]
            obtain ⟨P, HP⟩ : ∃ P, Hid (namesK L 1 = P) := ⟨_, Lib.hid rfl⟩
            have hP : P.length ≤ 1000 := by rw [← HP.out]; exact namesK_len HV.out _
            have HPn : Hid (namesK L 2 = P ++ L.pts.flatMap nameBytes) := Lib.hid (by rw [← HP.out]; rfl)
            rw [HP.out] at HE
            go_wp2
            go_loopw [4, 52] (fun u iv wr => ∃ (m : Nat) (v : Value), m ≤ L.pts.length ∧ iv = .int .i64 m ∧ v = u ∧ Hid (EnI w0 wr v (P ++ (L.pts.take m).flatMap nameBytes))) (fun _ iv _ => L.pts.length - (intOf iv).toNat)
            case atStart => exact ⟨0, _, by omega, rfl, rfl, by simpa using HE⟩
            case round =>
              obtain ⟨m, v, hm, rfl, rfl, HEm⟩ := hrel
              clear HE
              by_cases hlt : m < L.pts.length
              · obtain ⟨bs, os, hA, hbl, hc⟩ := (HR0.out.below HEm.out.bel).r2 m hlt
                obtain rfl : A2 = some ⟨bs, os, none⟩ := hA
                obtain ⟨s, Hs⟩ : ∃ s, Hid (L.pts[m] = s) := ⟨_, Lib.hid rfl⟩
                have hsz : s.size ≤ 1000 := by have := nameB_size (HV.out.v2 _ (List.getElem_mem hlt)); rw [Hs.out] at this; omega
                have hln := names_len L.pts m HV.out.v2
                rw [Hs.out] at hc
                have q0 := hc 0 _ rfl
                rw [Nat.add_zero, Nat.mul_one] at q0
                have Hsn : Hid (P ++ (L.pts.take (m + 1)).flatMap nameBytes = P ++ (L.pts.take m).flatMap nameBytes ++ nameBytes s) := Lib.hid (by rw [flat_snoc nameBytes L.pts m hlt, Hs.out, List.append_assoc])
                have hbl2 : (P ++ (L.pts.take m).flatMap nameBytes).length ≤ 900000 := by rw [List.length_append]; omega
                have Hbl2 := Lib.hid hbl2
                clear hc hln hbl2
                go_wp2_with fail
                refine (appendName_any w0.heap.size v (P ++ (L.pts.take m).flatMap nameBytes) s _ HEm.out.own HEm.out.bel.size Hbl2.out hsz).mono ?_
                rintro e w3 ⟨v', rfl, ho, hg⟩
                have HE1 : Hid (EnI w0 w3 v' (P ++ (L.pts.take (m + 1)).flatMap nameBytes)) := Lib.hid (by rw [Hsn.out]; exact HEm.out.app ho hg)
                clear ho hg q0 hbl
                go_wp2
                go_roundw
                case rel => exact ⟨m + 1, _, by omega, by go_num, rfl, HE1⟩
                case measure => simp [intOf]; omega
              · have HE1 : Hid (EnI w0 wr v (namesK L 2)) := Lib.hid (by have := HEm.out; rw [List.take_of_length_le (by omega), ← HPn.out] at this; exact this)
                go_wp2
                exact ⟨⟨2, _, by omega, rfl, rfl, HE1⟩, by decide⟩
          · rw [show ((2 : Nat) : Int) = 2 from rfl]
            have HB := Lib.hid (HB0.out.below HE.out.bel)
            have s2 := HB.out.2 2 _ rfl
            have s5 := HB.out.1
            go_wp2
            clear s2 s5 HB hix0 hix1
            obtain ⟨P, HP⟩ : ∃ P, Hid (namesK L 2 = P) := ⟨_, Lib.hid rfl⟩
            have hP : P.length ≤ 1000 := by rw [← HP.out]; exact namesK_len HV.out _
            rw [HP.out] at HE
            go_loopw [4, 64] (fun u iv wr => ∃ (m : Nat) (v : Value), m ≤ L.secs.length ∧ iv = .int .i64 m ∧ v = u ∧ Hid (EnI w0 wr v (P ++ (L.secs.take m).flatMap secBytes))) (fun _ iv _ => L.secs.length - (intOf iv).toNat)
            case atStart => exact ⟨0, _, by omega, rfl, rfl, by simpa using HE⟩
            case round =>
              obtain ⟨m, v, hm, rfl, rfl, HEm⟩ := hrel
              clear HE
              by_cases hlt : m < L.secs.length
              · obtain ⟨bs, os, hA, hbl, hc⟩ := (HR0.out.below HEm.out.bel).r3 m hlt
                obtain rfl : A3 = some ⟨bs, os, none⟩ := hA
                obtain ⟨s, Hs⟩ : ∃ s, Hid (L.secs[m] = s) := ⟨_, Lib.hid rfl⟩
                obtain ⟨hnm, hsb⟩ := HV.out.v3 _ (List.getElem_mem hlt)
                rw [Hs.out] at hnm hsb hc
                obtain ⟨k1, k2, k3, k4, k5, k6, k7, k8⟩ := secB_of hsb
                have hsz : s.nm.size ≤ 1000 := by have := nameB_size hnm; omega
                have hln := flat_le secBytes 20 (L.secs.take m) (fun x hx => secBytes_len (HV.out.v3 x (List.mem_of_mem_take hx)).1)
                have hln2 : (L.secs.take m).length ≤ 96 := by rw [List.length_take]; omega
                have hln3 : ((L.secs.take m).flatMap secBytes).length ≤ 1920 := by omega
                obtain ⟨nm, len, lim, grd, stn⟩ := s
                dsimp only at *
                obtain ⟨lf, rfl⟩ := Int.eq_ofNat_of_zero_le (show 0 ≤ len by omega)
                obtain ⟨mf, rfl⟩ := Int.eq_ofNat_of_zero_le (show 0 ≤ lim by omega)
                obtain ⟨gf, hgf⟩ := Int.eq_ofNat_of_zero_le (show 0 ≤ grd + 40 by omega)
                obtain ⟨tf, htf⟩ := Int.eq_ofNat_of_zero_le (show 0 ≤ stn + 1 by omega)
                have q0 := hc 0 _ rfl
                have q1 := hc 1 _ rfl
                have q2 := hc 2 _ rfl
                have q3 := hc 3 _ rfl
                have q4 := hc 4 _ rfl
                rw [Nat.add_zero] at q0
                dsimp only at q0 q1 q2 q3 q4
                obtain ⟨Q0, HQ0⟩ : ∃ Q0, Hid (P ++ (L.secs.take m).flatMap secBytes = Q0) := ⟨_, Lib.hid rfl⟩
                have hQ : Q0.length ≤ 3000 := by rw [← HQ0.out, List.length_append]; omega
                rw [HQ0.out] at HEm
                have Hsn : Hid (P ++ (L.secs.take (m + 1)).flatMap secBytes = Q0 ++ nameBytes nm ++ lows lf 2 ++ lows mf 3 ++ lows gf 1 ++ lows tf 1) := Lib.hid (by
                  rw [flat_snoc secBytes L.secs m hlt, Hs.out, ← List.append_assoc, HQ0.out]
                  unfold secBytes
                  dsimp only
                  rw [hgf, htf]
                  simp [List.append_assoc])
                have hnb := nameBytes_len hnm
                have hl1 : (Q0 ++ nameBytes nm).length ≤ 3100 := by rw [List.length_append]; omega
                have hl2 : (Q0 ++ nameBytes nm ++ lows lf 2).length ≤ 3200 := by rw [List.length_append, lows_len]; omega
                have hl3 : (Q0 ++ nameBytes nm ++ lows lf 2 ++ lows mf 3).length ≤ 3300 := by rw [List.length_append, lows_len]; omega
                have hl4 : (Q0 ++ nameBytes nm ++ lows lf 2 ++ lows mf 3 ++ lows gf 1).length ≤ 3400 := by rw [List.length_append, lows_len]; omega
                have Hl1 := Lib.hid hl1
                have Hl2 := Lib.hid hl2
                have Hl3 := Lib.hid hl3
                have Hl4 := Lib.hid hl4
                have egf : IntKind.i64.wrap (grd + 40) = (gf : Int) := by rw [IntKind.wrap_i64]; omega
                have etf : IntKind.i64.wrap (stn + 1) = (tf : Int) := by rw [IntKind.wrap_i64]; omega
                have hba : Below wr.heap.size wr (wr.alloc (.cells #[.string nm, .int .i64 (lf : Int), .int .i64 (mf : Int), .int .i64 grd, .int .i64 stn] 56)) := (Below.refl _ _).alloc (Nat.le_refl _) _
                have HEa := Lib.hid (HEm.out.call hba)
                have HXa := Lib.hid (BoxB.new wr [.string nm, .int .i64 (lf : Int), .int .i64 (mf : Int), .int .i64 grd, .int .i64 stn] 56)
                clear hc hln hln2 hln3 hl1 hl2 hl3 hl4 hnb hsb hnm hba Hs HQ0 HEm
                go_wp2_with fail
                refine (appendName_any w0.heap.size v Q0 nm _ HEa.out.own HEa.out.bel.size (by omega) hsz).mono ?_
                rintro e w3 ⟨v1, rfl, ho, hg⟩
                obtain ⟨p5, hp5⟩ : ∃ p5, wr.heap.size = p5 := ⟨_, rfl⟩
                rw [hp5] at HXa ⊢
                have HX1 := Lib.hid (HXa.out.app (by decide) HEa.out.own hg)
                have HE1 := Lib.hid (HEa.out.app ho hg)
                clear ho hg hp5 HXa HEa q0 q1 q2 q3 q4 hbl
                have t1 := HX1.out.cell 1 _ rfl
                go_wp2_with fail
                refine (appendNumber_any w0.heap.size v1 (Q0 ++ nameBytes nm) lf 2 _ HE1.out.own HE1.out.bel.size (by have := Hl1.out; omega) (by omega) (by omega)).mono ?_
                rintro e w4 ⟨v2, rfl, ho, hg, _⟩
                have HX2 := Lib.hid (HX1.out.app (by decide) HE1.out.own hg)
                have HE2 := Lib.hid (HE1.out.app ho hg)
                clear ho hg HX1 HE1 t1
                have t2 := HX2.out.cell 2 _ rfl
                go_wp2_with fail
                refine (appendNumber_any w0.heap.size v2 (Q0 ++ nameBytes nm ++ lows lf 2) mf 3 _ HE2.out.own HE2.out.bel.size (by have := Hl2.out; omega) (by omega) (by omega)).mono ?_
                rintro e w5 ⟨v3, rfl, ho, hg, _⟩
                have HX3 := Lib.hid (HX2.out.app (by decide) HE2.out.own hg)
                have HE3 := Lib.hid (HE2.out.app ho hg)
                clear ho hg HX2 HE2 t2
                have t3 := HX3.out.cell 3 _ rfl
                go_wp2_with fail
                refine (appendNumber_any w0.heap.size v3 (Q0 ++ nameBytes nm ++ lows lf 2 ++ lows mf 3) gf 1 _ HE3.out.own HE3.out.bel.size (by have := Hl3.out; omega) (by omega) (by omega)).mono ?_
                rintro e w6 ⟨v4, rfl, ho, hg, _⟩
                have HX4 := Lib.hid (HX3.out.app (by decide) HE3.out.own hg)
                have HE4 := Lib.hid (HE3.out.app ho hg)
                clear ho hg HX3 HE3 t3
                have t4 := HX4.out.cell 4 _ rfl
                go_wp2_with fail
                refine (appendNumber_any w0.heap.size v4 (Q0 ++ nameBytes nm ++ lows lf 2 ++ lows mf 3 ++ lows gf 1) tf 1 _ HE4.out.own HE4.out.bel.size (by have := Hl4.out; omega) (by omega) (by omega)).mono ?_
                rintro e w7 ⟨v5, rfl, ho, hg, _⟩
                have HX5 := Lib.hid (HX4.out.app (by decide) HE4.out.own hg)
                have HE5 := Lib.hid (HE4.out.app ho hg)
                clear ho hg HX4 HE4 t4
                rw [← Hsn.out] at HE5
                clear HX5
                go_wp2
                go_roundw
                case rel => exact ⟨m + 1, _, by omega, by go_num, rfl, HE5⟩
                case measure => simp [intOf]; omega
              · have HB := Lib.hid (HB0.out.below HEm.out.bel)
                have s3 := HB.out.2 3 _ rfl
                have s5 := HB.out.1
                go_wp2
                clear s3 s5 HB
                obtain ⟨P2, HP2⟩ : ∃ P2, Hid (P ++ L.secs.flatMap secBytes = P2) := ⟨_, Lib.hid rfl⟩
                have hP2 : P2.length ≤ 3000 := by
                  rw [← HP2.out, List.length_append]
                  have := flat_le secBytes 20 L.secs (fun x hx => secBytes_len (HV.out.v3 x hx).1)
                  omega
                have HE : Hid (EnI w0 wr v P2) := Lib.hid (by have := HEm.out; rw [List.take_of_length_le (by omega), HP2.out] at this; exact this)
                have HBL : Hid (bodyL L = P2 ++ L.lnks.flatMap lnkBytes) := Lib.hid (by rw [← HP2.out, ← HP.out]; unfold bodyL namesK; simp)
                clear HEm
                go_loopw [4, 94] (fun u iv wr => ∃ (m : Nat) (v : Value), m ≤ L.lnks.length ∧ iv = .int .i64 m ∧ v = u ∧ Hid (EnI w0 wr v (P2 ++ (L.lnks.take m).flatMap lnkBytes))) (fun _ iv _ => L.lnks.length - (intOf iv).toNat)
                case atStart => exact ⟨0, _, by omega, rfl, rfl, by simpa using HE⟩
                case round =>
                  obtain ⟨m, v, hm, rfl, rfl, HEm⟩ := hrel
                  clear HE
                  by_cases hlt : m < L.lnks.length
                  · obtain ⟨wo, rfl⟩ : ∃ wo : World, wo = wr := ⟨_, rfl⟩
                    obtain ⟨bs, os, hA, hbl, hc⟩ := (HR0.out.below HEm.out.bel).r4 m hlt
                    obtain rfl : A4 = some ⟨bs, os, none⟩ := hA
                    obtain ⟨s, Hs⟩ : ∃ s, Hid (L.lnks[m] = s) := ⟨_, Lib.hid rfl⟩
                    have hlb := HV.out.v4 _ (List.getElem_mem hlt)
                    rw [Hs.out] at hlb hc
                    obtain ⟨l1, l2, l3, l4, l5, l6, l7, l8, l9, l10, l11, l12, l13⟩ := linkB_of hlb
                    have hln := flat_le lnkBytes 4 (L.lnks.take m) (fun x hx => by rw [lnkBytes_len]; exact Nat.le_refl _)
                    have hln2 : (L.lnks.take m).length ≤ 192 := by rw [List.length_take]; omega
                    have hln3 : ((L.lnks.take m).flatMap lnkBytes).length ≤ 768 := by omega
                    obtain ⟨a, ae, b, be, pt, ps⟩ := s
                    dsimp only at *
                    obtain ⟨f0, e0⟩ := Int.eq_ofNat_of_zero_le (show 0 ≤ a * 2 + ae by omega)
                    obtain ⟨f1, e1⟩ := Int.eq_ofNat_of_zero_le (show 0 ≤ b * 2 + be by omega)
                    obtain ⟨f2, e2⟩ := Int.eq_ofNat_of_zero_le (show 0 ≤ pt + 1 by omega)
                    obtain ⟨f3, rfl⟩ := Int.eq_ofNat_of_zero_le (show 0 ≤ ps by omega)
                    have q0 := hc 0 _ rfl
                    have q1 := hc 1 _ rfl
                    have q2 := hc 2 _ rfl
                    have q3 := hc 3 _ rfl
                    have q4 := hc 4 _ rfl
                    have q5 := hc 5 _ rfl
                    rw [Nat.add_zero] at q0
                    dsimp only at q0 q1 q2 q3 q4 q5
                    obtain ⟨Q0, HQ0⟩ : ∃ Q0, Hid (P2 ++ (L.lnks.take m).flatMap lnkBytes = Q0) := ⟨_, Lib.hid rfl⟩
                    have hQ : Q0.length ≤ 4000 := by rw [← HQ0.out, List.length_append]; omega
                    rw [HQ0.out] at HEm
                    have Hsn : Hid (P2 ++ (L.lnks.take (m + 1)).flatMap lnkBytes = Q0 ++ lnkK f0 f1 f2 f3 4) := Lib.hid (by
                      rw [flat_snoc lnkBytes L.lnks m hlt, Hs.out, ← List.append_assoc, HQ0.out]
                      unfold lnkBytes lnkK
                      dsimp only
                      rw [e0, e1, e2]
                      simp [List.append_assoc])
                    have hf0 : f0 ≤ 1000 := by omega
                    have hf1 : f1 ≤ 1000 := by omega
                    have hf2 : f2 ≤ 1000 := by omega
                    have hf3 : f3 ≤ 1000 := by omega
                    have hba : Below wo.heap.size wo (wo.alloc (.cells #[.int .i64 a, .int .i64 ae, .int .i64 b, .int .i64 be, .int .i64 pt, .int .i64 (f3 : Int)] 58)) := (Below.refl _ _).alloc (Nat.le_refl _) _
                    have HEa := Lib.hid (HEm.out.call hba)
                    have HIX2 := Lib.hid (fun k hk => index4 (f0 : Int) (f1 : Int) (f2 : Int) (f3 : Int) k hk)
                    clear hc hln hln2 hln3 hlb hba Hs HQ0 HEm l13
                    go_wp2
                    clear q0 q1 q2 q3 q4 q5 e0 e1 e2 hbl
                    go_loopw [4, 116] (fun u iv wr => ∃ (i : Nat) (v : Value), i ≤ 4 ∧ iv = .int .i64 i ∧ v = u ∧ Hid (EnI w0 wr v (Q0 ++ lnkK f0 f1 f2 f3 i))) (fun _ iv _ => 4 - (intOf iv).toNat)
                    case atStart => exact ⟨0, _, by omega, rfl, rfl, by simpa [lnkK] using HEa⟩
                    case round =>
                      obtain ⟨i, v, hi4, rfl, rfl, HEi⟩ := hrel
                      clear HEa
                      by_cases hlt2 : i < 4
                      · have hx := HIX2.out i hlt2
                        obtain ⟨z, Hz⟩ : ∃ z : Nat, Hid ([f0, f1, f2, f3].getD i 0 = z) := ⟨_, Lib.hid rfl⟩
                        have hzi : ([(f0 : Int), (f1 : Int), (f2 : Int), (f3 : Int)].getD i 0) = (z : Int) := by
                          rw [← Hz.out]
                          rcases (show i = 0 ∨ i = 1 ∨ i = 2 ∨ i = 3 by omega) with rfl | rfl | rfl | rfl <;> rfl
                        have hz : z ≤ 1000 := by
                          rw [← Hz.out]
                          rcases (show i = 0 ∨ i = 1 ∨ i = 2 ∨ i = 3 by omega) with rfl | rfl | rfl | rfl
                          · exact hf0
                          · exact hf1
                          · exact hf2
                          · exact hf3
                        rw [hzi] at hx
                        have Hsu : Hid (Q0 ++ lnkK f0 f1 f2 f3 (i + 1) = Q0 ++ lnkK f0 f1 f2 f3 i ++ lows z 1) := Lib.hid (by rw [lnkK_succ f0 f1 f2 f3 i hlt2, Hz.out, List.append_assoc])
                        have hll : (Q0 ++ lnkK f0 f1 f2 f3 i).length ≤ 1000000 := by rw [List.length_append]; have := lnkK_len f0 f1 f2 f3 i; omega
                        have Hll := Lib.hid hll
                        clear hzi hll
                        go_wp2_with fail
                        refine (appendNumber_any w0.heap.size v (Q0 ++ lnkK f0 f1 f2 f3 i) z 1 _ HEi.out.own HEi.out.bel.size Hll.out (by omega) (by omega)).mono ?_
                        rintro e w3 ⟨v', rfl, ho, hg, _⟩
                        have HE1 : Hid (EnI w0 w3 v' (Q0 ++ lnkK f0 f1 f2 f3 (i + 1))) := Lib.hid (by rw [Hsu.out]; exact HEi.out.app ho hg)
                        clear ho hg
                        go_wp2
                        go_roundw
                        case rel => exact ⟨i + 1, _, by omega, by go_num, rfl, HE1⟩
                        case measure => simp [intOf]; omega
                      · obtain rfl : i = 4 := by omega
                        rw [← Hsn.out] at HEi
                        go_wp2
                        go_roundw
                        case rel => exact ⟨m + 1, _, by omega, by go_num, rfl, HEi⟩
                        case measure => simp [intOf]; omega
                  · obtain ⟨B, HB⟩ : ∃ B, Hid (bodyL L = B) := ⟨_, Lib.hid rfl⟩
                    have HE : Hid (EnI w0 wr v B) := Lib.hid (by have := HEm.out; rw [List.take_of_length_le (by omega), ← HBL.out, HB.out] at this; exact this)
                    have hBl : B.length ≤ 4000 := by
                      rw [← HB.out, HBL.out, List.length_append]
                      have := flat_le lnkBytes 4 L.lnks (fun x hx => by rw [lnkBytes_len]; exact Nat.le_refl _)
                      omega
                    have hB0 : 0 < B.length := by
                      rw [← HB.out]; unfold bodyL; rw [List.length_append, List.length_append, List.length_append, List.length_append, head_len]; omega
                    obtain ⟨z, Hz⟩ : ∃ z, Hid (Pl.crc B = z) := ⟨_, Lib.hid rfl⟩
                    have hz : z < 4294967296 := by rw [← Hz.out]; exact crc_lt B
                    have HES2 : Hid (ES = B ++ lows z 4) := Lib.hid (by rw [← HES.out]; unfold encL; rw [HB.out, Hz.out])
                    have kc1 := own_string HE.out.own hB0
                    have hsB : (⟨B.toArray⟩ : ByteArray).size ≤ 9223372036854775807 := by show B.toArray.size ≤ _; simp; omega
                    have HcB : Hid (Pl.crc (⟨B.toArray⟩ : ByteArray).data.toList = z) := Lib.hid (by simpa using Hz.out)
                    clear HEm
                    go_wp2_with fail
                    refine (sum_any ⟨B.toArray⟩ _ hsB).mono ?_
                    rintro e w' ⟨rfl, rfl⟩
                    rw [HcB.out]
                    go_wp2_with fail
                    refine (appendNumber_any w0.heap.size v B z 4 _ HE.out.own HE.out.bel.size (by omega) (by omega) (by omega)).mono ?_
                    rintro e w3 ⟨v', rfl, ho, hg, _⟩
                    have HE1 : Hid (EnI w0 w3 v' ES) := Lib.hid (by rw [HES2.out]; exact HE.out.app ho hg)
                    have kc2 := own_string HE1.out.own (by rw [HES2.out, List.length_append]; omega)
                    clear ho hg HE kc1
                    go_wp2
                    go_ret2
                    exact ⟨rfl, Hb0.out.trans (HE1.out.bel.mono Hb0.out.size)⟩
end Go.Proofs.Ythnfliopmjpdmaa
/- The program's Encode: its contract over the memory as a contract over values without addresses. -/
namespace Go.Proofs.Ythnfliopmjpdmaa.Av
open Go.RowKit
set_option linter.unusedVariables false
set_option linter.unusedSimpArgs false
theorem encode_okO (L : Lay) (hL : LayFits L) (h : layErr L = 0) : Ok Try.prog 10 [aLay L] [] (.tup [.c (.f (.v (.string ⟨(encL L).toArray⟩))), .c (.f (.v (.int .i64 0)))]) [] := by
  refine ok_old _ Try.func10 (by kernel_rfl) (by kernel_rfl) rfl rfl fun w κ ρ vals hs hr => ⟨_, plain_2 plain_s plain_i rfl rfl, ?_⟩
  have hs : vals.size = 1 := hs
  obtain ⟨V, hv, hR⟩ := lay_rd hL (hr 0 (by simp) (by omega) (.slot 0))
  rw [one_arg hs, hv]
  exact encode_ok V L w hR h
theorem encode_badO (L : Lay) (hL : LayFits L) (h : layErr L ≠ 0) : Ok Try.prog 10 [aLay L] [] (.tup [.c (.f (.v (.string ⟨#[]⟩))), .c (.f (.v (.int .i64 1)))]) [] := by
  refine ok_old _ Try.func10 (by kernel_rfl) (by kernel_rfl) rfl rfl fun w κ ρ vals hs hr => ⟨_, plain_2 plain_s plain_i rfl rfl, ?_⟩
  have hs : vals.size = 1 := hs
  obtain ⟨V, hv, hR⟩ := lay_rd hL (hr 0 (by simp) (by omega) (.slot 0))
  rw [one_arg hs, hv]
  exact encode_bad V L w hR h
theorem encode_okV (L : Lay) (hL : LayFits L) (h : layErr L = 0) : OkV Try.prog 10 [vLay L] [] (.tup [.c (xS ⟨(encL L).toArray⟩), .c (xI 0)]) [] := encode_okO L hL h
theorem encode_badV (L : Lay) (hL : LayFits L) (h : layErr L ≠ 0) : OkV Try.prog 10 [vLay L] [] (.tup [.c (xS ⟨#[]⟩), .c (xI 1)]) [] := encode_badO L hL h
end Go.Proofs.Ythnfliopmjpdmaa.Av
/- The cursor on what Encode wrote. -/
namespace Go.Proofs.Ythnfliopmjpdmaa.Av
set_option linter.unusedVariables false
set_option linter.unusedSimpArgs false

/-- A cursor behind p, with s ahead. -/
def At (p s : List UInt8) : Cur := ⟨bA (p ++ s), p.length, false⟩
theorem bA_extract (p a s : List UInt8) : (bA (p ++ (a ++ s))).extract p.length (p.length + a.length) = bA a := by
  apply ByteArray.ext
  simp [ByteArray.data_extract]
theorem at_bytes (p a s : List UInt8) : (At p (a ++ s)).bytes a.length = (bA a, At (p ++ a) s) := by
  unfold At Cur.bytes
  rw [if_neg (by simp only [bA_size, List.length_append]; rintro (h | h); · cases h
                 · omega)]
  simp only [bA_extract, List.length_append, List.append_assoc]
theorem at_af (p a s : List UInt8) : (At p (a ++ s)).af a.length = At (p ++ a) s := by unfold Cur.af; rw [at_bytes]
theorem low_toNat (v i : Nat) : (low v i).toNat = v / 2 ^ (8 * i) % 256 := by
  unfold low
  rw [UInt8.toNat_ofNat']
theorem lows_get (v k i : Nat) (h : i < k) : (bA (lows v k)).data.getD i 0 = low v i := by
  simp [lows, Array.getD, h]
theorem leNum_lows (v k : Nat) : ∀ i, i ≤ k → leNum (bA (lows v k)) i = v % 2 ^ (8 * i)
  | 0, _ => by simp [leNum, Nat.mod_one]
  | i + 1, h => by
    rw [leNum, leNum_lows v k i (by omega), lows_get v k i (by omega), low_toNat, Nat.or_comm, ← Nat.shiftLeft_add_eq_or_of_lt (Nat.mod_lt _ (Nat.two_pow_pos _)), Nat.shiftLeft_eq, show 8 * (i + 1) = 8 * i + 8 by omega, Nat.pow_add, Nat.mod_mul]
    rw [Nat.mul_comm, Nat.add_comm]
theorem at_n (p s : List UInt8) (v k : Nat) (h : v < 2 ^ (8 * k)) : (At p (lows v k ++ s)).n k = v := by
  have e := at_bytes p (lows v k) s
  rw [lows_len] at e
  unfold Cur.n
  rw [e, bA_size, lows_len, leNum_lows v k k (Nat.le_refl _), Nat.mod_eq_of_lt h]
theorem at_afk (p s : List UInt8) (v k : Nat) : (At p (lows v k ++ s)).af k = At (p ++ lows v k) s := by
  have e := at_af p (lows v k) s
  rwa [lows_len] at e
theorem nameBytes_len' (x : ByteArray) : (nameBytes x).length = 1 + x.size := by
  unfold nameBytes
  rw [List.length_append, lows_len, bytes_len]
theorem at_head (p s : List UInt8) (x : ByteArray) (h : x.size < 256) : (1 + ((At p (nameBytes x ++ s)).code.data.getD (At p (nameBytes x ++ s)).pos 0).toNat) = (nameBytes x).length := by
  have e : (At p (nameBytes x ++ s)).code.data.getD (At p (nameBytes x ++ s)).pos 0 = low x.size 0 := by
    simp [At, Array.getD, nameBytes, lows]
  rw [e, low_toNat, nameBytes_len']
  simp
  omega
theorem at_name (p s : List UInt8) (x : ByteArray) (h : x.size < 256) : (At p (nameBytes x ++ s)).name = (x, At (p ++ nameBytes x) s) := by
  unfold Cur.name
  rw [at_head p s x h, at_bytes]
  have hl := nameBytes_len' x
  rw [if_neg (by simp only [At, bA_size, List.length_append]; rintro (h | h); · cases h
                 · omega), if_neg (by intro h; cases h)]
  refine Prod.ext ?_ rfl
  apply ByteArray.ext
  simp [ByteArray.data_extract, nameBytes, lows]
  rw [bA_size, List.length_cons, Nat.add_sub_cancel, List.take_length, Array.toArray_toList]
theorem at_stepN (p s : List UInt8) (x : ByteArray) (h : x.size < 256) : (At p (nameBytes x ++ s)).stepN = (x, At (p ++ nameBytes x) s) := by
  unfold Cur.stepN Cur.nm Cur.afn
  rw [at_name p s x h]
theorem at_stepS (p s : List UInt8) (x : Sec) (n : Nat) (h1 : nameB x.nm = true) (h2 : secB n x = true) (hn : n ≤ 24) : (At p (secBytes x ++ s)).stepS = (x, At (p ++ secBytes x) s) := by
  obtain ⟨q1, q2, q3, q4, q5, q6, q7, q8⟩ := secB_of h2
  have hz := nameB_size h1
  have e : (At p (secBytes x ++ s)) = At p (nameBytes x.nm ++ (lows x.len.toNat 2 ++ (lows x.lim.toNat 3 ++ (lows (x.grd + 40).toNat 1 ++ (lows (x.stn + 1).toNat 1 ++ s))))) := by
    unfold secBytes
    simp only [List.append_assoc]
  rw [e]
  unfold Cur.stepS Cur.nm Cur.afn
  rw [at_name _ _ _ (by omega)]
  simp only
  rw [at_n _ _ _ 2 (by omega), at_afk, at_n _ _ _ 3 (by omega), at_afk, at_n _ _ _ 1 (by omega), at_afk, at_n _ _ _ 1 (by omega), at_afk]
  obtain ⟨nm, len, lim, grd, stn⟩ := x
  simp only at q1 q2 q3 q4 q5 q6 q7 q8 ⊢
  refine Prod.ext ?_ ?_
  · simp only [Sec.mk.injEq, true_and]
    omega
  · unfold secBytes
    simp only [List.append_assoc]
theorem at_stepL (p s : List UInt8) (x : Lnk) (n m : Nat) (h : linkB n m x = true) (hn : n ≤ 96) (hm : m ≤ 48) : (At p (lnkBytes x ++ s)).stepL = (x, At (p ++ lnkBytes x) s) := by
  obtain ⟨l1, l2, l3, l4, l5, l6, l7, l8, l9, l10, l11, l12, l13⟩ := linkB_of h
  have e : (At p (lnkBytes x ++ s)) = At p (lows (x.a * 2 + x.ae).toNat 1 ++ (lows (x.b * 2 + x.be).toNat 1 ++ (lows (x.pt + 1).toNat 1 ++ (lows x.ps.toNat 1 ++ s)))) := by
    unfold lnkBytes
    simp only [List.append_assoc]
  rw [e]
  unfold Cur.stepL
  rw [at_n _ _ _ 1 (by omega), at_afk, at_n _ _ _ 1 (by omega), at_afk, at_n _ _ _ 1 (by omega), at_afk, at_n _ _ _ 1 (by omega), at_afk]
  obtain ⟨a, ae, b, be, pt, ps⟩ := x
  simp only at l1 l2 l3 l4 l5 l6 l7 l8 l9 l10 l11 l12 ⊢
  refine Prod.ext ?_ ?_
  · simp only [Lnk.mk.injEq]
    omega
  · unfold lnkBytes
    simp only [List.append_assoc]
theorem at_loop {α : Type} (step : Cur → α × Cur) (f : α → List UInt8) (l : List α) (h : ∀ x ∈ l, ∀ p s, step (At p (f x ++ s)) = (x, At (p ++ f x) s)) (p s : List UInt8) : ∀ i, i ≤ l.length → loopN step (At p (l.flatMap f ++ s)) i = (l.take i, At (p ++ (l.take i).flatMap f) ((l.drop i).flatMap f ++ s))
  | 0, _ => by simp [loopN]
  | i + 1, hi => by
    have hlt : i < l.length := by omega
    have e : (l.drop i).flatMap f ++ s = f l[i] ++ ((l.drop (i + 1)).flatMap f ++ s) := by
      rw [List.drop_eq_getElem_cons hlt, List.flatMap_cons, List.append_assoc]
    rw [loopN, at_loop step f l h p s i (by omega)]
    simp only
    rw [e, h _ (List.getElem_mem hlt), List.take_succ_eq_append_getElem hlt, List.flatMap_append]
    simp only [List.flatMap_cons, List.flatMap_nil, List.append_nil, List.append_assoc]
theorem at_loopN {α : Type} (step : Cur → α × Cur) (f : α → List UInt8) (l : List α) (h : ∀ x ∈ l, ∀ p s, step (At p (f x ++ s)) = (x, At (p ++ f x) s)) (p s : List UInt8) : loopN step (At p (l.flatMap f ++ s)) l.length = (l, At (p ++ l.flatMap f) s) := by
  rw [at_loop step f l h p s l.length (Nat.le_refl _)]
  simp
theorem at_lay (p s : List UInt8) (L : Lay) (hv : Valid L) : (At p (lows L.sts.length 1 ++ (lows L.pts.length 1 ++ (lows L.secs.length 1 ++ (lows L.lnks.length 1 ++ (L.sts.flatMap nameBytes ++ (L.pts.flatMap nameBytes ++ (L.secs.flatMap secBytes ++ (L.lnks.flatMap lnkBytes ++ s))))))))).lay = (L, At (p ++ lows L.sts.length 1 ++ lows L.pts.length 1 ++ lows L.secs.length 1 ++ lows L.lnks.length 1 ++ L.sts.flatMap nameBytes ++ L.pts.flatMap nameBytes ++ L.secs.flatMap secBytes ++ L.lnks.flatMap lnkBytes) s) := by
  obtain ⟨n1, n2, n3, n4, n5, v1, v2, v3, v4⟩ := hv
  unfold Cur.lay
  simp only
  rw [at_n _ _ _ 1 (by omega), at_afk, at_n _ _ _ 1 (by omega), at_afk, at_n _ _ _ 1 (by omega), at_afk, at_n _ _ _ 1 (by omega), at_afk]
  rw [at_loopN Cur.stepN nameBytes L.sts (fun x hx p s => at_stepN p s x (by have := nameB_size (v1 x hx); omega))]
  simp only
  rw [at_loopN Cur.stepN nameBytes L.pts (fun x hx p s => at_stepN p s x (by have := nameB_size (v2 x hx); omega))]
  simp only
  rw [at_loopN Cur.stepS secBytes L.secs (fun x hx p s => at_stepS p s x _ (v3 x hx).1 (v3 x hx).2 n1)]
  simp only
  rw [at_loopN Cur.stepL lnkBytes L.lnks (fun x hx p s => at_stepL p s x _ _ (v4 x hx) n3 n2)]
theorem encL_shape (L : Lay) : encL L = [82, 80, 76, 49] ++ (lows L.sts.length 1 ++ (lows L.pts.length 1 ++ (lows L.secs.length 1 ++ (lows L.lnks.length 1 ++ (L.sts.flatMap nameBytes ++ (L.pts.flatMap nameBytes ++ (L.secs.flatMap secBytes ++ (L.lnks.flatMap lnkBytes ++ (lows (Pl.crc (bodyL L)) 4 ++ []))))))))) := by
  unfold encL bodyL headBytes
  simp only [List.append_assoc, List.append_nil]
theorem bodyL_shape (L : Lay) : bodyL L = [] ++ [82, 80, 76, 49] ++ lows L.sts.length 1 ++ lows L.pts.length 1 ++ lows L.secs.length 1 ++ lows L.lnks.length 1 ++ L.sts.flatMap nameBytes ++ L.pts.flatMap nameBytes ++ L.secs.flatMap secBytes ++ L.lnks.flatMap lnkBytes := rfl
theorem decode_enc (L : Lay) (h : layErr L = 0) : decode (bA (encL L)) = (L, 0, 0) := by
  have hv := valid_of h
  have e0 : Cur.of (bA (encL L)) = At [] (encL L) := rfl
  have eb := at_bytes [] [82, 80, 76, 49] (lows L.sts.length 1 ++ (lows L.pts.length 1 ++ (lows L.secs.length 1 ++ (lows L.lnks.length 1 ++ (L.sts.flatMap nameBytes ++ (L.pts.flatMap nameBytes ++ (L.secs.flatMap secBytes ++ (L.lnks.flatMap lnkBytes ++ (lows (Pl.crc (bodyL L)) 4 ++ [])))))))))
  rw [← encL_shape L, show ([82, 80, 76, 49] : List UInt8).length = 4 from rfl] at eb
  have hl := at_lay ([] ++ [82, 80, 76, 49]) (lows (Pl.crc (bodyL L)) 4 ++ []) L hv
  rw [← bodyL_shape] at hl
  have hcr : Pl.crc (bodyL L) < 2 ^ (8 * 4) := Pl.crc_lt _
  unfold decode
  rw [e0]
  unfold Cur.af
  rw [eb]
  simp only
  rw [hl]
  simp only
  rw [at_n _ _ _ 4 hcr]
  have ha := at_afk (bodyL L) [] (Pl.crc (bodyL L)) 4
  unfold Cur.af at ha
  rw [ha]
  have hx := bA_extract [] (bodyL L) (lows (Pl.crc (bodyL L)) 4)
  unfold decOf
  rw [if_neg (by rintro ⟨_, h⟩; rw [show (bA [82, 80, 76, 49]).toList = rpl.toList from rfl, beq_self_eq_true] at h; cases h), if_neg (by intro h; cases h), if_neg (by
    have : (bA (encL L)).extract 0 (At (bodyL L) (lows (Pl.crc (bodyL L)) 4 ++ [])).pos = bA (bodyL L) := by
      simpa [At, encL] using hx
    rw [this]; simp), if_neg (by simp only [At, bA_size, encL, List.length_append]; omega), if_neg (by simp [h])]
end Go.Proofs.Ythnfliopmjpdmaa.Av
/- The law RoundTrip. -/
namespace Go.Proofs.Ythnfliopmjpdmaa.Av
set_option linter.unusedVariables false
set_option linter.unusedSimpArgs false
set_option maxRecDepth 4000
set_option maxHeartbeats 4000000

theorem valid_fits {L : Lay} (h : Valid L) : LayFits L := by
  obtain ⟨n1, n2, n3, n4, n5, v1, v2, v3, v4⟩ := h
  refine ⟨fun x hx => ?_, fun x hx => ?_, fun x hx => ?_, by omega, by omega, by omega, by omega⟩
  · have := nameB_size (v1 x hx); omega
  · have := nameB_size (v2 x hx); omega
  · obtain ⟨y, hy, rfl⟩ := List.mem_map.1 hx
    have := nameB_size (v3 y hy).1; omega
theorem encL_size {L : Lay} (h : Valid L) : (bA (encL L)).size ≤ 10000 := by
  obtain ⟨n1, n2, n3, n4, n5, v1, v2, v3, v4⟩ := h
  have z0 : (headBytes L).length = 8 := rfl
  have z1 := flat_le nameBytes 13 L.sts (fun x hx => nameBytes_len (v1 x hx))
  have z2 := flat_le nameBytes 13 L.pts (fun x hx => nameBytes_len (v2 x hx))
  have z3 := flat_le secBytes 20 L.secs (fun x hx => secBytes_len (v3 x hx).1)
  have z4 := flat_le lnkBytes 4 L.lnks (fun x _ => Nat.le_of_eq (lnkBytes_len x))
  rw [bA_size, encL, List.length_append, lows_len, bodyL]
  simp only [List.length_append, z0]
  omega
theorem roundTrip_ok (l : List Int) (hl : l.length ≤ 9223372036854775807) : OkV Try.prog 9 [.c (rInt l)] [] (vB true) [] := by
  have h0 := awake_okV
  have h1 := layout_ok l hl
  have hv := genL_ok l
  generalize genL l = L at h1 hv
  have hV := valid_of hv
  have hF := valid_fits hV
  have h2 := encode_okV L hF hv
  have h3 := decode_ok (bA (encL L)) (Nat.lt_of_le_of_lt (encL_size hV) (by omega))
  rw [decode_enc L hv] at h3
  have h4 := sameLayout_ok L hF.lens
  refine X_fnP mixedX Try.func9 rfl (by kernel_rfl) (Nat.le_of_ble_eq_true (by kernel_rfl)) (by kernel_rfl) rfl rfl ?_
  simp only [sl0, Nat.zero_add, Nat.reduceAdd]
  repeat' (first
    |with_reducible (first|refine WR_pp ?_|refine WR_pd ?_|refine W_seq ?_|refine seqK_n ?_|refine seqK_r ?_|refine seqK_e ?_|refine W_block ?_|refine blockK_n ?_|refine blockK_r ?_|refine LoopK_e ?_|refine LoopK_r ?_|refine LoopX_r ?_|refine W_skip ?_|refine W_exit ?_|refine W_ret ?_|refine W_region (WOps_WR ?_)|refine W_draw (WOpsD_WR ?_)|refine WR_nil ?_|refine q_and ?_ ?_|exact True.intro|assumption|refine blockK_e rfl ?_|refine blockK_o (by decide) ?_|refine LoopX_e (by decide) ?_)
    |((with_reducible apply q_call);first|refine X_pure (h0) rfl ?_|refine X_pure (h1) rfl ?_|refine X_pure (h2) rfl ?_|refine X_pure (h3) rfl ?_)
    |((with_reducible apply q_callG);refine X_pureG ((fun _ => h4)) rfl ?_ ?_)
    |((with_reducible apply q_WR);first|refine X_run rfl ?_ ?_|refine WR_nilD (by kernel_rfl) ?_)
    |((with_reducible apply q_cond);refine X_cond rfl ?_ ?_;all_goals (intro hbq;(try simp only [bq] at hbq);(try (exfalso;omega))))
    |((with_reducible apply q_ret);refine X_ret tabOk trivial rfl rfl ?_ ?_)
    |((with_reducible apply q_retP);refine X_retP tabOk trivial rfl rfl ?_ ?_)
    |(intro (hgq : (_ : Bool) = true);(try simp only [bq] at hgq))
    |(intro (hgq : (_ : Bool) = false);(try simp only [bq] at hgq))
    |((with_reducible apply q_VOk);exact fun _ => ⟨rfl,rfl⟩)
    |(intro _;exact rfl)
    |((with_reducible apply q_bt);simp only [bq])
    |((with_reducible apply q_eqN);rfl)
    |with_reducible exact isByte_wrap _
    |with_reducible exact isByte_nat _
    |(simp only [hgq,bq];done)
    |omega)
  rfl
end Go.Proofs.Ythnfliopmjpdmaa.Av
/- The law RoundTrip, over the memory. -/
namespace Go.Proofs.Ythnfliopmjpdmaa.Av
open Go.RowKit
set_option linter.unusedVariables false
set_option linter.unusedSimpArgs false

theorem okWide_spot {P : Program} {w : World} {r : Reach} {base : Nat} {t e : TypeId} {v : Value} (ht : P.underlying t = some (.slice e)) (h : Value.okWide P w r base t v) {a : Addr} {len cap : Nat} (hv : v = .slice (some a) len cap) : a.spot = none := by
  subst hv
  simp only [Value.okWide, ht, Cell.okWide, Cell.ok] at h
  exact h.2.2.2.1
/-- A slice of integers as the frame of a proof lays it. -/
abbrev IsRowI (w : World) (a : Option Addr) (len cap : Nat) (zs : List Int) : Prop :=
  (a = none ∧ len = 0 ∧ cap = 0 ∧ zs = []) ∨ ∃ x, a = some x ∧ len ≤ cap ∧ cap ≤ maxLen ∧ zs.length = cap ∧ (∀ i, i < zs.length → w.cell? (x.add i) = some (.int .i64 (zs.getD i 0))) ∧ ∀ n ∈ zs, (Lit.int .i64 n).wf = true
theorem flat_int (l : List Int) : l.flatMap fInt = l.map fI := by
  induction l with
  | nil => rfl
  | cons x r ih => rw [List.flatMap_cons, ih]; rfl
theorem rowI_rep {w : World} {a : Option Addr} {len cap : Nat} {zs : List Int} (h : IsRowI w a len cap zs) (hs : ∀ x, a = some x → x.spot = none) : (∀ l, RepA w (fun _ => .lock none) id l (SV.den (.c (rInt (zs.take len)))) (.slice a len cap)) ∧ (zs.take len).length ≤ 9223372036854775807 := by
  rcases h with ⟨rfl, rfl, rfl, rfl⟩ | ⟨x, rfl, hl, hm, hz, hc, _⟩
  · exact ⟨fun l => .nil0, by simp⟩
  · unfold maxLen at hm
    have hlen : (zs.take len).length = len := by rw [List.length_take]; omega
    refine ⟨fun l => ?_, by omega⟩
    obtain ⟨g, o, sp⟩ := x
    have hsp : sp = none := hs _ rfl
    subst hsp
    show RepF w _ (.row ((zs.take len).flatMap fInt) (zs.take len).length) _
    rw [hlen, flat_int]
    have hcell : ∀ i (h : i < (zs.take len).length), w.cell? ⟨g, o + i, none⟩ = some (.int .i64 (zs.take len)[i]) := fun i h => by
      have h1 := hc i (by omega)
      have e : (⟨g, o, none⟩ : Addr).add i = ⟨g, o + i, none⟩ := by
        unfold Addr.add
        split
        · rename_i h0; subst h0; rfl
        · rfl
      rw [e] at h1
      rw [h1, List.getElem_take, List.getD_eq_getElem?_getD, List.getElem?_eq_getElem (by omega)]
      rfl
    refine repF_rowI ⟨g, o, cap, rfl, hl, ⟨fun i hi => ?_, fun hne => ?_⟩⟩
    · rw [List.length_map] at hi
      exact ⟨_, hcell i hi, by rw [List.getElem_map]; exact RepF.v _ rfl⟩
    · refine ⟨?_, trivial⟩
      have h0 : 0 < (zs.take len).length := List.length_pos_iff.2 (fun e => hne (by rw [e]; rfl))
      exact World.block_lt_of_cell? w _ (hcell 0 h0)
theorem law_calls {f : FuncId} {args : List AVal} (hO : Ok Try.prog f args [] (aB true) []) (w : World) (vals : Array Value) (hs : vals.size = args.length) (hr : ∀ i (h : i < args.length) (h' : i < vals.size) l, RepA w (fun _ => .lock none) id l args[i] vals[i]) (hok : ∀ x ∈ args, x.ok 0 = true) :
    Calls Try.prog f vals w fun e w' => e = .returned (.bool true) ∧ Below w.heap.size w w' := by
  refine (hO.run w (fun _ => .lock none) id vals hs hr hok ⟨fun b cs h => by simp at h, fun b cs h => by simp at h⟩).mono ?_
  rintro e w' ⟨v, κ', ρ', rfl, hv, _, hfr, _⟩
  have hv : RepF w' κ' (.v (.bool true)) v := hv (.slot 0)
  rw [(repF_v.1 hv).1]
  exact ⟨rfl, hfr.os, hfr.tape, hfr.output, hfr.size, fun k hk => (hfr.lock k none hk rfl).2⟩
theorem one_rep {w : World} {x : AVal} {v : Value} (h : ∀ l, RepA w (fun _ => .lock none) id l x v) : ∀ i (h : i < [x].length) (h' : i < #[v].size) l, RepA w (fun _ => .lock none) id l [x][i] #[v][i] := fun i h1 h2 l => by
  match i, h1 with
  | 0, _ => exact h l
end Go.Proofs.Ythnfliopmjpdmaa.Av
namespace Go.Proofs.Ythnfliopmjpdmaa
open Go.RowKit
theorem W.LayoutbinRoundTrip (a0 : Option Addr) (len0 cap0 : Nat) (z0 : List Int) (w : World) (w0 : Av.IsRowI w a0 len0 cap0 z0) (s0 : ∀ x, a0 = some x → x.spot = none) :
    Calls Try.prog 9 #[.slice a0 len0 cap0] w fun e w' => e = .returned (.bool true) ∧ Below w.heap.size w w' := by
  obtain ⟨h1, h2⟩ := Av.rowI_rep w0 s0
  exact Av.law_calls (Av.roundTrip_ok _ h2) w _ rfl (Av.one_rep h1) (fun x hx => by simp at hx; subst hx; rfl)
end Go.Proofs.Ythnfliopmjpdmaa
