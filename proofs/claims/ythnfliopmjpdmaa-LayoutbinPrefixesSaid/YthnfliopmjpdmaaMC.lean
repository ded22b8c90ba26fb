/- R4, R5 in one text. -/
import Derived.Test.YthnfliopmjpdmaaMB
/- The law Mutations. -/
namespace Go.Proofs.Ythnfliopmjpdmaa.Av
set_option linter.unusedVariables false
set_option linter.unusedSimpArgs false
set_option maxRecDepth 4000
set_option maxHeartbeats 4000000

theorem encL_size_ge (L : Lay) : 12 ≤ (bA (encL L)).size := by
  have z0 : (headBytes L).length = 8 := rfl
  rw [bA_size, encL, List.length_append, lows_len, bodyL]
  simp only [List.length_append, z0]
  omega
theorem sz1 (a : UInt8) : (⟨#[a]⟩ : ByteArray).size = 1 := rfl
theorem mutations_ok (l : List Int) (v : Int) (c b : UInt8) (hl : l.length ≤ 9223372036854775807) : OkV Try.prog 6 [.c (rInt l), vI v, .c (.c (.f (.v (.int .u8 c.toNat)))), .c (.c (.f (.v (.int .u8 b.toNat))))] [] (vB true) [] := by
  have h0 := awake_okV
  have h1 := layout_ok l hl
  have hv := genL_ok l
  generalize genL l = L at h1 hv
  have hV := valid_of hv
  have hF := valid_fits hV
  have h2 := refEncode_ok L hF hv
  have z1 := encL_size hV
  have z2 := encL_size_ge L
  generalize bA (encL L) = E at h2 z1 z2
  have p1 := pick_ok v E.size (by omega) (by omega)
  have p2 := pick_ok v (E.size - 4) (by omega) (by omega)
  have q1 := pick_lt v (n := E.size) (by omega)
  have q2 := pick_lt v (n := E.size - 4) (by omega)
  rw [show ((E.size - 4 : Nat) : Int) = (E.size : Int) - 4 by omega] at p2
  have hb := UInt8.toNat_lt b
  refine X_fnP mixedX Try.func6 rfl (by kernel_rfl) (Nat.le_of_ble_eq_true (by kernel_rfl)) (by kernel_rfl) rfl rfl ?_
  simp only [sl0, Nat.zero_add, Nat.reduceAdd]
  have hd : ∀ s : ByteArray, s.size ≤ 30000 → OkV Try.prog 17 [vS s] [] (vB true) [] := fun s hs => decodes_ok s (by omega)
  have d1 := hd (E.extract 0 ((pick v E.size : Nat) : Int).toNat) (by rw [ByteArray.size_extract]; omega)
  have d2 := hd E (by omega)
  have d3 := hd (E ++ (⟨#[UInt8.ofNat (c.toNat : Int).toNat]⟩ : ByteArray)) (by simp only [ByteArray.size_append, ByteArray.size_extract, sz1]; omega)
  have d4 := hd (E.extract 0 ((pick v E.size : Nat) : Int).toNat ++ (⟨#[UInt8.ofNat (c.toNat : Int).toNat]⟩ : ByteArray) ++ E.extract (((pick v E.size : Nat) : Int) + 1).toNat E.size) (by simp only [ByteArray.size_append, ByteArray.size_extract, sz1]; omega)
  have k3 := refCrc_okV (E.extract 0 ((pick v (E.size - 4) : Nat) : Int).toNat ++ (⟨#[UInt8.ofNat (c.toNat : Int).toNat]⟩ : ByteArray) ++ E.extract (((pick v (E.size - 4) : Nat) : Int) + 1).toNat ((E.size : Int) - 4).toNat) (by simp only [ByteArray.size_append, ByteArray.size_extract, sz1]; omega)
  repeat' (first
    |with_reducible (first|refine WR_pp ?_|refine WR_pd ?_|refine W_seq ?_|refine seqK_n ?_|refine seqK_r ?_|refine seqK_e ?_|refine W_block ?_|refine blockK_n ?_|refine blockK_r ?_|refine LoopK_e ?_|refine LoopK_r ?_|refine LoopX_r ?_|refine W_skip ?_|refine W_exit ?_|refine W_ret ?_|refine W_region (WOps_WR ?_)|refine W_draw (WOpsD_WR ?_)|refine WR_nil ?_|refine q_and ?_ ?_|exact True.intro|assumption|refine blockK_e rfl ?_|refine blockK_o (by decide) ?_|refine LoopX_e (by decide) ?_)
    |((with_reducible apply q_call);first|refine X_pure (h0) rfl ?_|refine X_pure (h1) rfl ?_|refine X_pure (h2) rfl ?_|refine X_pure (p1) rfl ?_|refine X_pure (p2) rfl ?_|refine X_pure (k3) rfl ?_)
    |((with_reducible apply q_callG);refine X_pureG ((fun _ => d1)) rfl ?_ ?_)
    |((with_reducible apply q_callG);refine X_pureG ((fun _ => d2)) rfl ?_ ?_)
    |((with_reducible apply q_callG);refine X_pureG ((fun _ => d3)) rfl ?_ ?_)
    |((with_reducible apply q_callG);refine X_pureG ((fun _ => d4)) rfl ?_ ?_)
    |((with_reducible apply q_WR);first|refine X_run rfl ?_ ?_|refine WR_nilD (by kernel_rfl) ?_)
    |((with_reducible apply q_cond);refine X_cond rfl ?_ ?_;all_goals (intro hbq;(try simp only [bq] at hbq);(try (exfalso;omega))))
    |((with_reducible apply q_ret);refine X_ret tabOk trivial rfl rfl ?_ ?_)
    |((with_reducible apply q_retP);refine X_retP tabOk trivial rfl rfl ?_ ?_)
    |(intro (hgq : (_ : Bool) = true);(try simp only [bq] at hgq))
    |(intro (hgq : (_ : Bool) = false);(try simp only [bq] at hgq))
    |((with_reducible apply q_VOk);exact fun _ => ⟨rfl,rfl⟩)
    |(intro _;exact rfl)
    |((with_reducible apply q_bt);simp only [bq])
    |((with_reducible apply q_eqN);rfl)
    |with_reducible exact isByte_wrap _
    |with_reducible exact isByte_nat _
    |(simp only [hgq,bq];done)
    |omega)
  any_goals (simp only [ByteArray.size_append, ByteArray.size_extract, sz1, sz4]; omega)
  any_goals rfl
  have hd5 : ∀ a1 a2 a3 a4 : UInt8, OkV Try.prog 17 [vS ((E.extract 0 ((pick v (E.size - 4) : Nat) : Int).toNat ++ (⟨#[UInt8.ofNat (c.toNat : Int).toNat]⟩ : ByteArray) ++ E.extract (((pick v (E.size - 4) : Nat) : Int) + 1).toNat ((E.size : Int) - 4).toNat) ++ ⟨#[a1, a2, a3, a4]⟩)] [] (vB true) [] := fun a1 a2 a3 a4 => hd _ (by simp only [ByteArray.size_append, ByteArray.size_extract, sz1, sz4]; omega)
  repeat' (first
    |with_reducible (first|refine WR_pp ?_|refine WR_pd ?_|refine W_seq ?_|refine seqK_n ?_|refine seqK_r ?_|refine seqK_e ?_|refine W_block ?_|refine blockK_n ?_|refine blockK_r ?_|refine LoopK_e ?_|refine LoopK_r ?_|refine LoopX_r ?_|refine W_skip ?_|refine W_exit ?_|refine W_ret ?_|refine W_region (WOps_WR ?_)|refine W_draw (WOpsD_WR ?_)|refine WR_nil ?_|refine q_and ?_ ?_|exact True.intro|assumption|refine blockK_e rfl ?_|refine blockK_o (by decide) ?_|refine LoopX_e (by decide) ?_)
    |((with_reducible apply q_callG);refine X_pureG ((fun _ => hd5 _ _ _ _)) rfl ?_ ?_)
    |((with_reducible apply q_WR);first|refine X_run rfl ?_ ?_|refine WR_nilD (by kernel_rfl) ?_)
    |((with_reducible apply q_cond);refine X_cond rfl ?_ ?_;all_goals (intro hbq;(try simp only [bq] at hbq);(try (exfalso;omega))))
    |((with_reducible apply q_ret);refine X_ret tabOk trivial rfl rfl ?_ ?_)
    |((with_reducible apply q_retP);refine X_retP tabOk trivial rfl rfl ?_ ?_)
    |(intro (hgq : (_ : Bool) = true);(try simp only [bq] at hgq))
    |(intro (hgq : (_ : Bool) = false);(try simp only [bq] at hgq))
    |((with_reducible apply q_VOk);exact fun _ => ⟨rfl,rfl⟩)
    |(intro _;exact rfl)
    |((with_reducible apply q_bt);simp only [bq])
    |((with_reducible apply q_eqN);rfl)
    |with_reducible exact isByte_wrap _
    |with_reducible exact isByte_nat _
    |(simp only [hgq,bq];done)
    |omega)
  rfl
end Go.Proofs.Ythnfliopmjpdmaa.Av
/- The law Mutations, over the memory. -/
namespace Go.Proofs.Ythnfliopmjpdmaa
open Go.RowKit
set_option linter.unusedVariables false
theorem u8_of {a : Int} (h : (Lit.int .u8 a).wf = true) : ∃ c : UInt8, a = c.toNat := by
  have h2 : 0 ≤ a ∧ a ≤ 255 := by simpa [Lit.wf, IntKind.min, IntKind.max, IntKind.signed, IntKind.bits] using h
  refine ⟨UInt8.ofNat a.toNat, ?_⟩
  rw [UInt8.toNat_ofNat']
  omega
theorem W.LayoutbinMutations (a0 : Option Addr) (len0 cap0 : Nat) (z0 : List Int) (a1 a2 a3 : Int) (w : World) (w0 : Av.IsRowI w a0 len0 cap0 z0) (w1 : (Lit.int .i64 a1).wf = true) (w2 : (Lit.int .u8 a2).wf = true) (w3 : (Lit.int .u8 a3).wf = true) (s0 : ∀ x, a0 = some x → x.spot = none) :
    Calls Try.prog 6 #[.slice a0 len0 cap0, .int .i64 a1, .int .u8 a2, .int .u8 a3] w fun e w' => e = .returned (.bool true) ∧ Below w.heap.size w w' := by
  obtain ⟨h1, h2⟩ := Av.rowI_rep w0 s0
  obtain ⟨c, rfl⟩ := u8_of w2
  obtain ⟨b, rfl⟩ := u8_of w3
  refine Av.law_calls (Av.mutations_ok _ a1 c b h2) w _ rfl (fun i hi hi' l => ?_) (fun x hx => by
    simp at hx
    rcases hx with rfl | rfl | rfl | rfl <;> rfl)
  match i, hi with
  | 0, _ => exact h1 l
  | 1, _ => exact .v _ rfl
  | 2, _ => exact .v _ rfl
  | 3, _ => exact .v _ rfl
end Go.Proofs.Ythnfliopmjpdmaa
