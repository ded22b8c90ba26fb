/- R6, R7 in one text. -/
import Derived.Test.YthnfliopmjpdmaaMB
import Derived.Test.YthnfliopmjpdmaaMC
/- A string that Decode takes: what its last four bytes are. -/
namespace Go.Proofs.Ythnfliopmjpdmaa.Av
set_option linter.unusedVariables false
set_option linter.unusedSimpArgs false

theorem decOf_zero {s m : ByteArray} {c1 c2 c3 : Cur} {q z : Nat} {L : Lay} (h : (decOf s m c1 c2 c3 q z L).2.2 = 0) : c3.short = false ∧ q = z ∧ s.size ≤ c3.pos := by
  unfold decOf at h
  repeat' split at h
  all_goals first | (exfalso; revert h; simp; done) | skip
  all_goals simp_all
theorem bytes_four {s : ByteArray} {c : Cur} (hi : c.In s) (h : (c.af 4).short = false) (hp : s.size ≤ (c.af 4).pos) : 4 ≤ s.size ∧ c.pos = s.size - 4 ∧ c.n 4 = leNum (s.extract (s.size - 4) s.size) 4 := by
  obtain ⟨rfl, h2⟩ := hi
  unfold Cur.n
  unfold Cur.af at h hp
  unfold Cur.bytes at h hp ⊢
  split at h
  · cases h
  · rename_i hh
    rw [if_neg hh] at hp ⊢
    simp only at hp ⊢
    have hh2 : ¬ c.code.size < c.pos + 4 := fun x => hh (.inr x)
    have e : c.pos = c.code.size - 4 := by omega
    refine ⟨by omega, e, ?_⟩
    rw [show c.pos + 4 = c.code.size by omega, e]
    have hz : (c.code.extract (c.code.size - 4) c.code.size).size = 4 := by rw [ByteArray.size_extract]; omega
    rw [hz]
theorem dec_zero (s : ByteArray) (h : (decode s).2.2 = 0) : 4 ≤ s.size ∧ leNum (s.extract (s.size - 4) s.size) 4 = Pl.crc (s.extract 0 (s.size - 4)).data.toList := by
  have hi1 : ((Cur.of s).af 4).In s := Cur.In.af ⟨rfl, Nat.zero_le _⟩ 4
  have hi2 := (lay_in hi1).1
  obtain ⟨h1, h2, h3⟩ := decOf_zero h
  obtain ⟨g1, g2, g3⟩ := bytes_four hi2 h1 h3
  rw [g3, g2] at h2
  exact ⟨g1, h2⟩
theorem leNum_succ (b : ByteArray) (i : Nat) : leNum b (i + 1) = 2 ^ (8 * i) * (b.data.getD i 0).toNat + leNum b i := by
  rw [leNum, Nat.or_comm, ← Nat.shiftLeft_add_eq_or_of_lt (leNum_lt b i), Nat.shiftLeft_eq, Nat.mul_comm]
theorem leNum_inj (b c : ByteArray) : ∀ n, leNum b n = leNum c n → ∀ i, i < n → b.data.getD i 0 = c.data.getD i 0
  | 0, _, i, h => by omega
  | n + 1, h, i, hi => by
    rw [leNum_succ, leNum_succ] at h
    have l1 := leNum_lt b n
    have l2 := leNum_lt c n
    have e1 : (2 ^ (8 * n) * (b.data.getD n 0).toNat + leNum b n) / 2 ^ (8 * n) = (b.data.getD n 0).toNat := by
      rw [Nat.mul_add_div (Nat.two_pow_pos _), Nat.div_eq_of_lt l1]; rfl
    have e2 : (2 ^ (8 * n) * (c.data.getD n 0).toNat + leNum c n) / 2 ^ (8 * n) = (c.data.getD n 0).toNat := by
      rw [Nat.mul_add_div (Nat.two_pow_pos _), Nat.div_eq_of_lt l2]; rfl
    have e : (b.data.getD n 0).toNat = (c.data.getD n 0).toNat := by rw [← e1, ← e2, h]
    by_cases hn : i = n
    · subst hn; exact UInt8.toNat_inj.1 e
    · rw [e] at h
      exact leNum_inj b c n (by omega) i (by omega)
theorem bA_ext (l : List UInt8) (i j : Nat) : (bA l).extract i j = bA ((l.take j).drop i) := by
  apply ByteArray.ext
  apply Array.ext'
  simp [ByteArray.data_extract, Array.toList_extract, List.extract_eq_take_drop, List.drop_take]
theorem dec_change (p q : List UInt8) (a b : UInt8) (h1 : (decode (bA (p ++ a :: q))).2.2 = 0) (h2 : (decode (bA (p ++ b :: q))).2.2 = 0) : a = b := by
  obtain ⟨g1, k1⟩ := dec_zero _ h1
  obtain ⟨g2, k2⟩ := dec_zero _ h2
  have sz : ∀ c, (bA (p ++ c :: q)).size = p.length + 1 + q.length := by
    intro c
    rw [bA_size, List.length_append, List.length_cons]
    omega
  rw [sz] at g1 k1 g2 k2
  rw [bA_ext, bA_ext] at k1 k2
  simp only at k1 k2
  by_cases hq : 4 ≤ q.length
  · have t : ∀ c, ((p ++ c :: q).take (p.length + 1 + q.length - 4)).drop 0 = p ++ c :: q.take (q.length - 4) := fun c => by
      rw [List.drop_zero, List.take_append, List.take_of_length_le (by omega), show p.length + 1 + q.length - 4 - p.length = (q.length - 4) + 1 by omega, List.take_succ_cons]
    have u : ∀ c, ((p ++ c :: q).take (p.length + 1 + q.length)).drop (p.length + 1 + q.length - 4) = q.drop (q.length - 4) := fun c => by
      rw [List.take_of_length_le (by simp; omega), List.drop_append, List.drop_of_length_le (by omega), List.nil_append, show p.length + 1 + q.length - 4 - p.length = (q.length - 4) + 1 by omega, List.drop_succ_cons]
    rw [t, u] at k1 k2
    exact (Pl.crc_change p (q.take (q.length - 4)) a b).1 (k1.symm.trans k2)
  · have t : ∀ c, ((p ++ c :: q).take (p.length + 1 + q.length - 4)).drop 0 = p.take (p.length + 1 + q.length - 4) := fun c => by
      rw [List.drop_zero, List.take_append_of_le_length (by omega)]
    rw [t] at k1 k2
    have hn := leNum_inj _ _ 4 (k1.trans k2.symm) (3 - q.length) (by omega)
    have u : ∀ c, (bA (((p ++ c :: q).take (p.length + 1 + q.length)).drop (p.length + 1 + q.length - 4))).data.getD (3 - q.length) 0 = c := fun c => by
      rw [List.take_of_length_le (by simp; omega)]
      simp only [Array.getD_eq_getD_getElem?, List.getElem?_toArray, List.getElem?_drop]
      rw [show p.length + 1 + q.length - 4 + (3 - q.length) = p.length by omega, List.getElem?_append_right (Nat.le_refl _), Nat.sub_self]
      rfl
    rw [u, u] at hn
    exact hn
end Go.Proofs.Ythnfliopmjpdmaa.Av
/- The law DetectsChanges. -/
namespace Go.Proofs.Ythnfliopmjpdmaa.Av
set_option linter.unusedVariables false
set_option linter.unusedSimpArgs false
set_option maxRecDepth 4000
set_option maxHeartbeats 4000000

theorem det_plain (l : List UInt8) (k : Nat) (c : UInt8) (h0 : (decode (bA l)).2.2 = 0) (hk : k < l.length) (hc : l.getD k 0 ≠ c) : (decode ((bA l).extract 0 k ++ bA [c] ++ (bA l).extract (k + 1) (bA l).size)).2.2 ≠ 0 := by
  intro h
  have e : l = l.take k ++ l[k] :: l.drop (k + 1) := by rw [List.getElem_cons_drop, List.take_append_drop]
  rw [bA_ext, bA_ext, bA_app, bA_app, bA_size, List.take_length, List.drop_zero, List.append_assoc, List.singleton_append] at h
  rw [e] at h0
  have := dec_change _ _ _ _ h0 h
  apply hc
  rw [List.getD_eq_getElem?_getD, List.getElem?_eq_getElem hk]
  exact this
theorem detects_ok (l : List Int) (v : Int) (c : UInt8) (hl : l.length ≤ 9223372036854775807) : OkV Try.prog 7 [.c (rInt l), vI v, .c (.c (.f (.v (.int .u8 c.toNat))))] [] (vB true) [] := by
  have h0 := awake_okV
  have h1 := layout_ok l hl
  have hv := genL_ok l
  generalize genL l = L at h1 hv
  have hV := valid_of hv
  have hF := valid_fits hV
  have h2 := refEncode_ok L hF hv
  have z1 := encL_size hV
  have z2 := encL_size_ge L
  have hd : (decode (bA (encL L))).2.2 = 0 := by rw [decode_enc L hv]
  generalize encL L = E at h2 z1 z2 hd
  have p1 := pick_ok v (bA E).size (by omega) (by omega)
  have q1 := pick_lt v (n := (bA E).size) (by omega)
  generalize pick v (bA E).size = k at p1 q1
  have h3 := decode_ok ((bA E).extract 0 ((k : Nat) : Int).toNat ++ ⟨#[UInt8.ofNat (c.toNat : Int).toNat]⟩ ++ (bA E).extract ((k : Int) + 1).toNat (bA E).size) (by simp only [ByteArray.size_append, ByteArray.size_extract, sz1]; omega)
  have e4 : (decode ((bA E).extract 0 ((k : Nat) : Int).toNat ++ ⟨#[UInt8.ofNat (c.toNat : Int).toNat]⟩ ++ (bA E).extract ((k : Int) + 1).toNat (bA E).size)).2.2 = 0 → E.getD k 0 = c := by
    intro h
    refine Classical.byContradiction fun hn => det_plain E k c hd (by rw [bA_size] at q1; exact q1) hn ?_
    have e1 : UInt8.ofNat (c.toNat : Int).toNat = c := by simp
    rw [e1] at h
    exact h
  generalize decode _ = D at h3 e4
  obtain ⟨L2, p, e⟩ := D
  simp only at e4
  refine X_fnP mixedX Try.func7 rfl (by kernel_rfl) (Nat.le_of_ble_eq_true (by kernel_rfl)) (by kernel_rfl) rfl rfl ?_
  simp only [sl0, Nat.zero_add, Nat.reduceAdd]
  repeat' (first
    |with_reducible (first|refine WR_pp ?_|refine WR_pd ?_|refine W_seq ?_|refine seqK_n ?_|refine seqK_r ?_|refine seqK_e ?_|refine W_block ?_|refine blockK_n ?_|refine blockK_r ?_|refine LoopK_e ?_|refine LoopK_r ?_|refine LoopX_r ?_|refine W_skip ?_|refine W_exit ?_|refine W_ret ?_|refine W_region (WOps_WR ?_)|refine W_draw (WOpsD_WR ?_)|refine WR_nil ?_|refine q_and ?_ ?_|exact True.intro|assumption|refine blockK_e rfl ?_|refine blockK_o (by decide) ?_|refine LoopX_e (by decide) ?_)
    |((with_reducible apply q_call);first|refine X_pure (h0) rfl ?_|refine X_pure (h1) rfl ?_|refine X_pure (h2) rfl ?_|refine X_pure (p1) rfl ?_|refine X_pure (h3) rfl ?_)
    |((with_reducible apply q_WR);first|refine X_run rfl ?_ ?_|refine WR_nilD (by kernel_rfl) ?_)
    |((with_reducible apply q_cond);refine X_cond rfl ?_ ?_;all_goals (intro hbq;(try simp only [bq] at hbq);(try (exfalso;omega))))
    |((with_reducible apply q_ret);refine X_ret tabOk trivial rfl rfl ?_ ?_)
    |((with_reducible apply q_retP);refine X_retP tabOk trivial rfl rfl ?_ ?_)
    |(intro (hgq : (_ : Bool) = true);(try simp only [bq] at hgq))
    |(intro (hgq : (_ : Bool) = false);(try simp only [bq] at hgq))
    |((with_reducible apply q_VOk);exact fun _ => ⟨rfl,rfl⟩)
    |(intro _;exact rfl)
    |((with_reducible apply q_bt);simp only [bq])
    |((with_reducible apply q_eqN);rfl)
    |with_reducible exact isByte_wrap _
    |with_reducible exact isByte_nat _
    |(simp only [hgq,bq];done)
    |omega)
  any_goals (simp only [ByteArray.size_append, ByteArray.size_extract, sz1]; omega)
  · rfl
  · have hne : e ≠ 0 := fun h => hbq (by
      have := e4 h
      rw [← this]
      have hk : k < E.length := by rw [bA_size] at q1; exact q1
      simp [Array.getD, List.getD_eq_getElem?_getD, hk])
    show (packS [ST.c (SC.c (CVal.f (FVal.v (.bool (true && !decide (e = 0))))))]).den = (vB true).den
    rw [decide_eq_false hne]
    rfl
end Go.Proofs.Ythnfliopmjpdmaa.Av
namespace Go.Proofs.Ythnfliopmjpdmaa
open Go.RowKit
set_option linter.unusedVariables false
theorem W.LayoutbinDetectsChanges (a0 : Option Addr) (len0 cap0 : Nat) (z0 : List Int) (a1 a2 : Int) (w : World) (w0 : Av.IsRowI w a0 len0 cap0 z0) (w1 : (Lit.int .i64 a1).wf = true) (w2 : (Lit.int .u8 a2).wf = true) (s0 : ∀ x, a0 = some x → x.spot = none) :
    Calls Try.prog 7 #[.slice a0 len0 cap0, .int .i64 a1, .int .u8 a2] w fun e w' => e = .returned (.bool true) ∧ Below w.heap.size w w' := by
  obtain ⟨h1, h2⟩ := Av.rowI_rep w0 s0
  obtain ⟨c, rfl⟩ := u8_of w2
  refine Av.law_calls (Av.detects_ok _ a1 c h2) w _ rfl (fun i hi hi' l => ?_) (fun x hx => by
    simp at hx
    rcases hx with rfl | rfl | rfl <;> rfl)
  match i, hi with
  | 0, _ => exact h1 l
  | 1, _ => exact .v _ rfl
  | 2, _ => exact .v _ rfl
end Go.Proofs.Ythnfliopmjpdmaa
