/- What the claims use of their texts: Kp2, Kp3, Kp4, AvE, AvY, Kq1, Kq2, Kq3, Kq4, Kq5, Kq6, Mn0, AvZ, Mf1, Mf2, Mf3, Fr, Opens, OpR, Wf3. -/
import Derived.Test.YtalfibohepbhfaaGreatPIE
set_option linter.unusedVariables false
set_option linter.unusedSimpArgs false
set_option maxRecDepth 4000
set_option maxHeartbeats 4000000
namespace Go.Proofs.YtalfibohepbhfaaGreat.Av
def iter {σ : Type} (f : Nat → σ → σ) (x : σ) : Nat → σ
 | 0 => x
 | i + 1 => f i (iter f x i)
def Bld.addSt (b : Bld) (nm : ByteArray) : Bld := { b with L := { b.L with sts := b.L.sts ++ [nm] } }
def Bld.addTr (b : Bld) (t : List Int) : Bld := { b with tracks := b.tracks ++ [t] }
def Bld.addBt (b : Bld) (t : List Int) : Bld := { b with between := b.between ++ [t] }
def Bld.zero : Bld := ⟨⟨[], [], [], []⟩, [], []⟩
structure Bld.le (b : Bld) (m : Nat) : Prop where
 s1 : b.L.sts.length ≤ m
 s2 : b.L.pts.length ≤ m
 s3 : b.L.secs.length ≤ m
 s4 : b.L.lnks.length ≤ m
 s5 : b.tracks.length ≤ m
 s6 : b.between.length ≤ m
theorem Bld.le.small {b : Bld} {m : Nat} (h : b.le m) (hm : m ≤ 900) : b.small := ⟨by have := h.s1; omega, by have := h.s2; omega, by have := h.s3; omega, by have := h.s4; omega⟩
theorem Bld.le.mono {b : Bld} {m k : Nat} (h : b.le m) (hm : m ≤ k) : b.le k := ⟨Nat.le_trans h.s1 hm, Nat.le_trans h.s2 hm, Nat.le_trans h.s3 hm, Nat.le_trans h.s4 hm, Nat.le_trans h.s5 hm, Nat.le_trans h.s6 hm⟩
abbrev TBS := List Int × Bld × Src
def secT (i k : Nat) (s : Src) : Sec := { s.sec (nameN (nameN ⟨#[84]⟩ i) k) i with len := (s.sec (nameN (nameN ⟨#[84]⟩ i) k) i).len + 2 }
def tStep (i k : Nat) (x : TBS) : TBS := (x.1 ++ [(x.2.1.L.secs.length : Int)], x.2.1.add (secT i k x.2.2), x.2.2.af.af.af)
def tLoop (i : Nat) : Nat → TBS → TBS
 | 0, x => x
 | k + 1, x => tLoop i k (tStep i (k + 1) x)
def oStep (i : Nat) (x : Bld × Src) : Bld × Src :=
 let y := tLoop i (1 + x.2.nx 2) ([], x.1.addSt (nameN ⟨#[83]⟩ i), x.2.af)
 (y.2.1.addTr y.1, y.2.2)
theorem add_le {b : Bld} {m : Nat} (h : b.le m) (x : Sec) : (b.add x).le (m + 1) := ⟨Nat.le_succ_of_le h.s1, Nat.le_succ_of_le h.s2, by have := h.s3; simp only [Bld.add, List.length_append, List.length_singleton]; omega, Nat.le_succ_of_le h.s4, Nat.le_succ_of_le h.s5, Nat.le_succ_of_le h.s6⟩
theorem tLoop_le (i : Nat) : ∀ (k : Nat) (x : TBS) (m : Nat), x.2.1.le m → x.2.2.ok → (tLoop i k x).2.1.le (m + k) ∧ (tLoop i k x).2.2.ok ∧ (tLoop i k x).1.length = x.1.length + k
 | 0, x, m, h, hs => ⟨h, hs, rfl⟩
 | k + 1, x, m, h, hs => by
  obtain ⟨h1, h2, h3⟩ := tLoop_le i k (tStep i (k + 1) x) (m + 1) (add_le h _) (Src.af_ok (Src.af_ok (Src.af_ok hs)))
  refine ⟨h1.mono (by omega), h2, ?_⟩
  simp only [tLoop]
  rw [h3]
  simp only [tStep, List.length_append, List.length_singleton]
  omega
theorem oStep_le (i : Nat) (x : Bld × Src) (m : Nat) (h : x.1.le m) (hs : x.2.ok) : (oStep i x).1.le (m + 4) ∧ (oStep i x).2.ok := by
 have hk := x.2.nx_lt (n := 2) (by omega)
 have h0 : (x.1.addSt (nameN ⟨#[83]⟩ i)).le (m + 1) := ⟨by have := h.s1; simp only [Bld.addSt, List.length_append, List.length_singleton]; omega, Nat.le_succ_of_le h.s2, Nat.le_succ_of_le h.s3, Nat.le_succ_of_le h.s4, Nat.le_succ_of_le h.s5, Nat.le_succ_of_le h.s6⟩
 obtain ⟨h1, h2, h3⟩ := tLoop_le i (1 + x.2.nx 2) ([], x.1.addSt (nameN ⟨#[83]⟩ i), x.2.af) (m + 1) h0 (Src.af_ok hs)
 have h1' := h1.mono (show m + 1 + (1 + x.2.nx 2) ≤ m + 3 by omega)
 exact ⟨⟨Nat.le_succ_of_le h1'.s1, Nat.le_succ_of_le h1'.s2, Nat.le_succ_of_le h1'.s3, Nat.le_succ_of_le h1'.s4, by have := h1'.s5; simp only [oStep, Bld.addTr, List.length_append, List.length_singleton]; omega, Nat.le_succ_of_le h1'.s6⟩, h2⟩
theorem iter_le {f : Nat → Bld × Src → Bld × Src} (c : Nat) (hf : ∀ i x m, x.1.le m → x.2.ok → (f i x).1.le (m + c) ∧ (f i x).2.ok) {x : Bld × Src} {m : Nat} (h : x.1.le m) (hs : x.2.ok) : ∀ i, (iter f x i).1.le (m + i * c) ∧ (iter f x i).2.ok
 | 0 => ⟨h.mono (by omega), hs⟩
 | i + 1 => by
  obtain ⟨h1, h2⟩ := iter_le c hf h hs i
  obtain ⟨h3, h4⟩ := hf i _ _ h1 h2
  exact ⟨h3.mono (by rw [Nat.succ_mul]; omega), h4⟩
theorem zero_le' : Bld.zero.le 0 := ⟨Nat.le_refl _, Nat.le_refl _, Nat.le_refl _, Nat.le_refl _, Nat.le_refl _, Nat.le_refl _⟩
def secL (i k : Nat) (s : Src) : Sec := s.sec (nameN (nameN ⟨#[76]⟩ i) k) (-1)
def lStep (i k : Nat) (x : TBS) : TBS := (x.1 ++ [(x.2.1.L.secs.length : Int)], x.2.1.add (secL i k x.2.2), x.2.2.af.af.af)
def lLoop (i : Nat) : Nat → TBS → TBS
 | 0, x => x
 | k + 1, x => lLoop i k (lStep i (k + 1) x)
def cLoop (b : Bld) (t : List Int) : Nat → Bld
 | 0 => b
 | k + 1 => (cLoop b t k).link ⟨t.getD k 0, 1, t.getD (k + 1) 0, 0, -1, 0⟩
def pStep (i : Nat) (x : Bld × Src) : Bld × Src :=
 let y := lLoop i (1 + x.2.nx 2) ([], x.1, x.2.af)
 let c := cLoop y.2.1 y.1 (y.1.length - 1)
 let d := c.fan (y.1.getD 0 0) (c.tracks.getD i []) false
 let e := d.fan (y.1.getD (y.1.length - 1) 0) (d.tracks.getD (i + 1) []) true
 (e.addBt y.1, y.2.2)
def rowB (s : Src) : Bld × Src := iter pStep (iter oStep (Bld.zero, s.af) (2 + s.nx 2)) (1 + s.nx 2)
def TrOk (b : Bld) (m : Nat) : Prop := b.tracks.length = m ∧ ∀ t ∈ b.tracks, 1 ≤ t.length ∧ t.length ≤ 2
theorem tLoop_tr (i : Nat) : ∀ (k : Nat) (x : TBS), (tLoop i k x).2.1.tracks = x.2.1.tracks
 | 0, x => rfl
 | k + 1, x => tLoop_tr i k (tStep i (k + 1) x)
theorem oStep_tr (i : Nat) (x : Bld × Src) (m : Nat) (hl : x.1.le 100) (hs : x.2.ok) (h : TrOk x.1 m) : TrOk (oStep i x).1 (m + 1) := by
 have hk := x.2.nx_lt (n := 2) (by omega)
 have h0 : (x.1.addSt (nameN ⟨#[83]⟩ i)).le 101 := ⟨by have := hl.s1; simp only [Bld.addSt, List.length_append, List.length_singleton]; omega, Nat.le_succ_of_le hl.s2, Nat.le_succ_of_le hl.s3, Nat.le_succ_of_le hl.s4, Nat.le_succ_of_le hl.s5, Nat.le_succ_of_le hl.s6⟩
 obtain ⟨_, _, h3⟩ := tLoop_le i (1 + x.2.nx 2) ([], x.1.addSt (nameN ⟨#[83]⟩ i), x.2.af) 101 h0 (Src.af_ok hs)
 have h4 := tLoop_tr i (1 + x.2.nx 2) ([], x.1.addSt (nameN ⟨#[83]⟩ i), x.2.af)
 simp only [List.length_nil, Nat.zero_add] at h3
 unfold TrOk
 simp only [oStep, Bld.addTr]
 rw [h4]
 refine ⟨by simp only [Bld.addSt, List.length_append, List.length_singleton]; rw [h.1], fun t ht => ?_⟩
 rcases List.mem_append.1 ht with ht | ht
 ·exact h.2 t ht
 ·rw [List.mem_singleton] at ht
  rw [ht, h3]
  omega
theorem oIter_tr {s : Src} (hs : s.ok) : ∀ i, i ≤ 3 → TrOk (iter oStep (Bld.zero, s) i).1 i
 | 0, _ => ⟨rfl, fun t ht => by cases ht⟩
 | i + 1, hi => by
  obtain ⟨h1, h2⟩ := iter_le (x := (Bld.zero, s)) (m := 0) 4 oStep_le zero_le' hs i
  exact oStep_tr i _ i (h1.mono (by omega)) h2 (oIter_tr hs i (by omega))
theorem lLoop_le (i : Nat) : ∀ (k : Nat) (x : TBS) (m : Nat), x.2.1.le m → x.2.2.ok → (lLoop i k x).2.1.le (m + k) ∧ (lLoop i k x).2.2.ok ∧ (lLoop i k x).1.length = x.1.length + k ∧ (lLoop i k x).2.1.tracks = x.2.1.tracks
 | 0, x, m, h, hs => ⟨h, hs, rfl, rfl⟩
 | k + 1, x, m, h, hs => by
  obtain ⟨h1, h2, h3, h4⟩ := lLoop_le i k (lStep i (k + 1) x) (m + 1) (add_le h _) (Src.af_ok (Src.af_ok (Src.af_ok hs)))
  refine ⟨h1.mono (by omega), h2, ?_, h4⟩
  simp only [lLoop]
  rw [h3]
  simp only [lStep, List.length_append, List.length_singleton]
  omega
theorem link_le {b : Bld} {m : Nat} (h : b.le m) (k : Lnk) : (b.link k).le (m + 1) := ⟨Nat.le_succ_of_le h.s1, Nat.le_succ_of_le h.s2, Nat.le_succ_of_le h.s3, by have := h.s4; simp only [Bld.link, List.length_append, List.length_singleton]; omega, Nat.le_succ_of_le h.s5, Nat.le_succ_of_le h.s6⟩
theorem pt_le {b : Bld} {m : Nat} (h : b.le m) : b.pt.le (m + 1) := ⟨Nat.le_succ_of_le h.s1, by have := h.s2; simp only [Bld.pt, List.length_append, List.length_singleton]; omega, Nat.le_succ_of_le h.s3, Nat.le_succ_of_le h.s4, Nat.le_succ_of_le h.s5, Nat.le_succ_of_le h.s6⟩
theorem cLoop_le {b : Bld} {m : Nat} (h : b.le m) (t : List Int) : ∀ k, (cLoop b t k).le (m + k) ∧ (cLoop b t k).tracks = b.tracks
 | 0 => ⟨h, rfl⟩
 | k + 1 => by
  obtain ⟨h1, h2⟩ := cLoop_le h t k
  exact ⟨link_le h1 _, h2⟩
theorem links_le {b : Bld} {m : Nat} (h : b.le m) (x pt : Int) (east : Bool) (ts : List Int) : ∀ k, (b.links x pt east ts k).le (m + k) ∧ (b.links x pt east ts k).tracks = b.tracks
 | 0 => ⟨h, rfl⟩
 | k + 1 => by
  obtain ⟨h1, h2⟩ := links_le h x pt east ts k
  exact ⟨link_le h1 _, h2⟩
theorem fan_le {b : Bld} {m : Nat} (h : b.le m) (x : Int) (ts : List Int) (east : Bool) (ht : ts.length ≤ 2) : (b.fan x ts east).le (m + 3) ∧ (b.fan x ts east).tracks = b.tracks := by
 unfold Bld.fan
 split
 ·obtain ⟨h1, h2⟩ := links_le (pt_le h) x b.L.pts.length east ts ts.length
  exact ⟨h1.mono (by omega), h2⟩
 ·obtain ⟨h1, h2⟩ := links_le h x (-1) east ts ts.length
  exact ⟨h1.mono (by omega), h2⟩
theorem pStep_le (i : Nat) (x : Bld × Src) (m k : Nat) (h : x.1.le m) (hs : x.2.ok) (ht : TrOk x.1 k) : (pStep i x).1.le (m + 10) ∧ (pStep i x).2.ok ∧ TrOk (pStep i x).1 k := by
 have hk := x.2.nx_lt (n := 2) (by omega)
 obtain ⟨h1, h2, h3, h4⟩ := lLoop_le i (1 + x.2.nx 2) ([], x.1, x.2.af) m h (Src.af_ok hs)
 simp only [List.length_nil, Nat.zero_add] at h3 h4
 have hlen : ∀ {b : Bld} (j : Nat), b.tracks = x.1.tracks → (b.tracks.getD j []).length ≤ 2 := fun {b} j e => by
  rw [e, List.getD_eq_getElem?_getD]
  cases hj : x.1.tracks[j]? with
  | none => simp
  | some t => exact (ht.2 t (List.mem_of_getElem? hj)).2
 unfold pStep
 simp only
 generalize lLoop i (1 + x.2.nx 2) ([], x.1, x.2.af) = y at h1 h2 h3 h4
 obtain ⟨c1, c2⟩ := cLoop_le h1 y.1 (y.1.length - 1)
 obtain ⟨d1, d2⟩ := fan_le c1 (y.1.getD 0 0) _ false (hlen (b := cLoop y.2.1 y.1 (y.1.length - 1)) i (c2.trans h4))
 obtain ⟨e1, e2⟩ := fan_le d1 (y.1.getD (y.1.length - 1) 0) _ true (hlen (i + 1) (d2.trans (c2.trans h4)))
 have e3 := e2.trans (d2.trans (c2.trans h4))
 refine ⟨?_, h2, ?_⟩
 ·have e1' := e1.mono (show m + (1 + x.2.nx 2) + (y.1.length - 1) + 3 + 3 ≤ m + 9 by omega)
  exact ⟨Nat.le_succ_of_le e1'.s1, Nat.le_succ_of_le e1'.s2, Nat.le_succ_of_le e1'.s3, Nat.le_succ_of_le e1'.s4, Nat.le_succ_of_le e1'.s5, by have := e1'.s6; simp only [Bld.addBt, List.length_append, List.length_singleton]; omega⟩
 ·unfold TrOk
  simp only [Bld.addBt]
  rw [e3]
  exact ht
theorem pIter_le {x : Bld × Src} {m k : Nat} (h : x.1.le m) (hs : x.2.ok) (ht : TrOk x.1 k) : ∀ i, (iter pStep x i).1.le (m + i * 10) ∧ (iter pStep x i).2.ok ∧ TrOk (iter pStep x i).1 k
 | 0 => ⟨h.mono (by omega), hs, ht⟩
 | i + 1 => by
  obtain ⟨h1, h2, h3⟩ := pIter_le h hs ht i
  obtain ⟨h4, h5, h6⟩ := pStep_le i _ _ k h1 h2 h3
  exact ⟨h4.mono (by rw [Nat.succ_mul]; omega), h5, h6⟩
abbrev slR (n : Nat) : SL := [sC 0 (pB 0), sC 3 (pB 1), sI 4 (2 + n)]
theorem row_ok (s : Src) (hs : s.ok) : OkV Tryz.prog 45 [.c (pB 0)] [some s.box] (.c (pB 1)) [some (rowB s).2.box, some (rowB s).1.box] := by
 have hk := s.nx_lt (n := 2) (by omega)
 have hN := next_ok s 2 hs (by omega) (by omega)
 unfold rowB
 obtain ⟨n, en⟩ : ∃ n, s.nx 2 = n := ⟨_, rfl⟩
 rw [en] at hN hk ⊢
 refine X_fn mixedX Tryz.func45 rfl (by kernel_rfl) (Nat.le_of_ble_eq_true (by kernel_rfl)) (by kernel_rfl) rfl rfl (Nat.le_of_ble_eq_true rfl) rfl rfl ?_
 simp only [sl0, Nat.zero_add, Nat.reduceAdd]
 repeat' (first|with_reducible (first|refine WR_pp ?_|refine W_seq ?_|refine seqK_n ?_|refine W_block ?_|refine W_region (WOps_WR ?_)|refine WR_nil ?_|refine q_and ?_ ?_|exact True.intro)|((with_reducible apply q_call);refine X_call [0] (hN) rfl rfl rfl rfl rfl rfl rfl rfl rfl rfl rfl rfl rfl ?_)|((with_reducible apply q_WR);refine X_run rfl ?_ ?_)|omega)
 refine W_loopS (fun i : Nat => SS (sI 5 i :: slR n) [some (iter oStep (Bld.zero, s.af) i).2.box, some (iter oStep (Bld.zero, s.af) i).1.box]) (fun i => i ≤ 2 + n) (fun i => 2 + n - i) 0 ?_ (by omega) ?_
 ·
  refine X_weak rfl rfl rfl ?_ ?_ <;> repeat' (first|with_reducible (first|exact q_AgS0|exact HLe.nil _|exact SLe.nil|refine SLe.cons ?_ ?_|exact ELe.refl _|refine ELe.c rfl ?_|exact CLe.refl _|exact CLe.int (by omega)|refine CLe.rows ?_|refine CLe.int ?_)|refine q_AgS rfl ?_ ?_|exact CLe.nil_tipS|refine HLe.cells ?_ ?_)
  all_goals rfl
 ·intro i hi
  have hin : i ≤ 3 := by omega
  obtain ⟨hle, hso⟩ := iter_le (x := (Bld.zero, s.af)) (m := 0) 4 oStep_le zero_le' (Src.af_ok hs) i
  obtain ⟨X, eX⟩ : ∃ X, iter oStep (Bld.zero, s.af) i = X := ⟨_, rfl⟩
  have eX1 : iter oStep (Bld.zero, s.af) (i + 1) = oStep i X := by rw [← eX]; rfl
  rw [eX] at hle hso
  rw [eX]
  by_cases hlt : i < 2 + n
  ·obtain ⟨b, s1⟩ := X
   dsimp only at hle hso ⊢
   have hk2 := s1.nx_lt (n := 2) (by omega)
   have hS := named_ok ⟨#[83]⟩ i (by decide) (by omega)
   have hN1 := next_ok s1 2 hso (by omega) (by omega)
   have hl1 := hle.s1
   obtain ⟨F, eF⟩ : ∃ F, tLoop i (1 + s1.nx 2) ([], b.addSt (nameN ⟨#[83]⟩ i), s1.af) = F := ⟨_, rfl⟩
   have eO : oStep i (b, s1) = (F.2.1.addTr F.1, F.2.2) := by simp only [oStep, eF]
   rw [eO] at eX1
   have h0 : (b.addSt (nameN ⟨#[83]⟩ i)).le (0 + i * 4 + 1) := ⟨by simp only [Bld.addSt, List.length_append, List.length_singleton]; omega, Nat.le_succ_of_le hle.s2, Nat.le_succ_of_le hle.s3, Nat.le_succ_of_le hle.s4, Nat.le_succ_of_le hle.s5, Nat.le_succ_of_le hle.s6⟩
   repeat' (first|with_reducible (first|refine WR_pp ?_|refine WR_pd ?_|refine W_seq ?_|refine seqK_n ?_|refine W_block ?_|refine W_skip ?_|refine W_region (WOps_WR ?_)|refine W_draw (WOpsD_WR ?_)|refine WR_nil ?_|refine q_and ?_ ?_|exact True.intro)|((with_reducible apply q_call);first|refine X_pure (hS) rfl ?_|refine X_call [0] (hN1) rfl rfl rfl rfl rfl rfl rfl rfl rfl rfl rfl rfl rfl ?_)|((with_reducible apply q_WR);first|refine X_run rfl ?_ ?_|refine WR_nilD (by kernel_rfl) ?_|fail)|((with_reducible apply q_cond);refine X_cond rfl ?_ ?_;all_goals (intro hbq;(try simp only [bq] at hbq);(try (exfalso;omega))))|((with_reducible apply q_eqN);rfl)|omega)
   refine W_loopS (fun g : Nat × TBS => SS (sI 7 g.1 :: sC 6 (tInt g.2.1) :: sI 5 i :: slR n) [some g.2.2.2.box, some g.2.2.1.box]) (fun g => tLoop i g.1 g.2 = F ∧ (∃ m, g.2.2.1.le m ∧ m + g.1 ≤ 20) ∧ g.2.2.2.ok ∧ g.2.1.length + g.1 ≤ 3) (fun g => g.1) (1 + s1.nx 2, [], b.addSt (nameN ⟨#[83]⟩ i), s1.af) ?_ ⟨eF, ⟨_, h0, by dsimp only; omega⟩, Src.af_ok hso, by simp only [List.length_nil]; omega⟩ ?_
   ·
    refine X_weak rfl rfl rfl ?_ ?_ <;> repeat' (first|with_reducible (first|exact q_AgS0|exact HLe.nil _|exact SLe.nil|refine SLe.cons ?_ ?_|exact ELe.refl _|refine ELe.c rfl ?_|exact CLe.refl _|exact CLe.nil_tipS|exact CLe.int (by omega)|refine CLe.tip ?_ ?_|refine CLe.tips ?_)|refine q_AgS rfl ?_ ?_|refine HLe.cells ?_ ?_)
    all_goals (simp [Bld.addSt, fStr, fS]; done)
   ·intro g hg
    obtain ⟨k, tt, b2, s2⟩ := g
    obtain ⟨g1, ⟨m, g2, g2'⟩, g3, g4⟩ := hg
    dsimp only at g1 g2 g2' g3 g4 ⊢
    cases k with
    | zero =>
     have hF : (tt, b2, s2) = F := g1
     subst hF
     have hl5 := g2.s5
     repeat' (first|with_reducible (first|refine W_seq ?_|refine seqK_n ?_|refine seqK_e ?_|refine blockK_n ?_|refine LoopK_e ?_|refine W_exit ?_|refine W_region (WOps_WR ?_)|refine WR_nil ?_|refine q_and ?_ ?_|exact True.intro|refine blockK_e rfl ?_)|((with_reducible apply q_WR);refine X_run rfl ?_ ?_)|((with_reducible apply q_cond);refine X_cond rfl ?_ ?_;all_goals (intro hbq;(try simp only [bq] at hbq);(try (exfalso;omega))))|((with_reducible apply q_eqN);rfl)|omega)
     refine LoopK_n (i + 1) ?_ (by omega) (by omega)
     rw [eX1]
     refine X_weak rfl rfl rfl ?_ ?_ <;> repeat' (first|with_reducible (first|exact q_AgS0|exact HLe.nil _|exact SLe.nil|refine SLe.cons ?_ ?_|exact ELe.refl _|refine ELe.c rfl ?_|exact CLe.refl _|exact CLe.int (by omega)|refine CLe.tip ?_ ?_|refine CLe.tips ?_)|refine q_AgS rfl ?_ ?_|refine HLe.cells ?_ ?_)
     all_goals (simp [Bld.addTr, fTrk]; done)
    | succ k =>
     have hT := named_ok ⟨#[84]⟩ i (by decide) (by omega)
     have hT2 := named_ok (nameN ⟨#[84]⟩ i) (k + 1) (by rw [nameN_size]; decide) (by omega)
     have hC := section_ok s2 (nameN (nameN ⟨#[84]⟩ i) (k + 1)) i g3
     have hA := add_ok b2 (secT i (k + 1) s2) (g2.small (by omega))
     have q1 := s2.nx_lt (n := 9) (by omega)
     have q2 : (s2.sec (nameN (nameN ⟨#[84]⟩ i) (k + 1)) i).len = 2 + s2.nx 9 := rfl
     repeat' (first|with_reducible (first|refine WR_pp ?_|refine W_seq ?_|refine seqK_n ?_|refine W_block ?_|refine blockK_n ?_|refine W_skip ?_|refine W_region (WOps_WR ?_)|refine WR_nil ?_|refine q_and ?_ ?_|exact True.intro)|((with_reducible apply q_call);first|refine X_pure (hT) rfl ?_|refine X_pure (hT2) rfl ?_|refine X_call [0] (hC) rfl rfl rfl rfl rfl rfl rfl rfl rfl rfl rfl rfl rfl ?_|refine X_call [1] (hA) rfl rfl rfl rfl rfl rfl rfl rfl rfl rfl rfl rfl rfl ?_)|((with_reducible apply q_WR);refine X_run rfl ?_ ?_)|((with_reducible apply q_cond);refine X_cond rfl ?_ ?_;all_goals (intro hbq;(try simp only [bq] at hbq);(try (exfalso;omega))))|((with_reducible apply q_eqN);rfl)|omega)
     refine LoopK_n (k, tStep i (k + 1) (tt, b2, s2)) ?_ ⟨g1, ⟨m + 1, add_le g2 _, by simp only; omega⟩, Src.af_ok (Src.af_ok (Src.af_ok g3)), by simp only [tStep, List.length_append, List.length_singleton]; omega⟩ (by simp only; omega)
     refine X_weak rfl rfl rfl ?_ ?_ <;> repeat' (first|with_reducible (first|exact q_AgS0|exact HLe.nil _|exact SLe.nil|refine SLe.cons ?_ ?_|exact ELe.refl _|refine ELe.c rfl ?_|exact CLe.refl _|exact CLe.int (by omega)|refine CLe.tip ?_ ?_|refine CLe.rows ?_|refine CLe.tips ?_|refine CLe.int ?_)|refine q_AgS rfl ?_ ?_|refine HLe.cells ?_ ?_)
     all_goals (simp [tStep, fInt, fI]; done)
  ·have hie : i = 2 + n := by omega
   subst hie
   clear eX1
   obtain ⟨b0, s0⟩ := X
   dsimp only at hle hso ⊢
   rw [eX]
   clear hlt hi hin
   have hTr := oIter_tr (Src.af_ok hs) (2 + n) (by omega)
   rw [eX] at hTr
   repeat' (first|with_reducible (first|refine W_seq ?_|refine seqK_n ?_|refine seqK_e ?_|refine W_block ?_|refine LoopK_e ?_|refine W_exit ?_|refine W_region (WOps_WR ?_)|refine WR_nil ?_|refine q_and ?_ ?_|exact True.intro|refine blockK_e rfl ?_)|((with_reducible apply q_WR);refine X_run rfl ?_ ?_)|((with_reducible apply q_cond);refine X_cond rfl ?_ ?_;all_goals (intro hbq;(try simp only [bq] at hbq);(try (exfalso;omega)))))
   refine W_loopS (fun i : Nat => SS (sI 9 i :: slR n) [some (iter pStep (b0, s0) i).2.box, some (iter pStep (b0, s0) i).1.box]) (fun i => i ≤ 1 + n) (fun i => 1 + n - i) 0 ?_ (by omega) ?_
   ·
    refine X_weak rfl rfl rfl ?_ ?_ <;> repeat' (first|with_reducible (first|exact q_AgS0|exact HLe.nil _|exact SLe.nil|refine SLe.cons ?_ ?_|exact ELe.refl _|refine ELe.c rfl ?_|exact CLe.refl _|exact CLe.int (by omega)|refine CLe.rows ?_|refine CLe.tips ?_|refine CLe.int ?_)|refine q_AgS rfl ?_ ?_|refine HLe.cells ?_ ?_)
    all_goals rfl
   ·intro i hi
    obtain ⟨hpl, hps, hpt⟩ := pIter_le hle hso hTr i
    obtain ⟨X, eX2⟩ : ∃ X, iter pStep (b0, s0) i = X := ⟨_, rfl⟩
    have eX1 : iter pStep (b0, s0) (i + 1) = pStep i X := by rw [← eX2]; rfl
    rw [eX2] at hpl hps hpt
    rw [eX2]
    by_cases hlt : i < 1 + n
    ·obtain ⟨b, s1⟩ := X
     dsimp only at hpl hps hpt ⊢
     have hk2 := s1.nx_lt (n := 2) (by omega)
     have hN1 := next_ok s1 2 hps (by omega) (by omega)
     have hin : i ≤ 2 := by omega
     obtain ⟨F, eF⟩ : ∃ F, lLoop i (1 + s1.nx 2) ([], b, s1.af) = F := ⟨_, rfl⟩
     obtain ⟨f1, f2, f3, f4⟩ := lLoop_le i (1 + s1.nx 2) ([], b, s1.af) _ hpl (Src.af_ok hps)
     rw [eF] at f1 f2 f3 f4
     simp only [List.length_nil, Nat.zero_add] at f3 f4
     have hTrF : TrOk F.2.1 (2 + n) := ⟨by rw [f4]; exact hpt.1, by rw [f4]; exact hpt.2⟩
     repeat' (first|with_reducible (first|refine WR_pp ?_|refine W_seq ?_|refine seqK_n ?_|refine W_block ?_|refine W_skip ?_|refine W_region (WOps_WR ?_)|refine WR_nil ?_|refine q_and ?_ ?_|exact True.intro)|((with_reducible apply q_call);refine X_call [0] (hN1) rfl rfl rfl rfl rfl rfl rfl rfl rfl rfl rfl rfl rfl ?_)|((with_reducible apply q_WR);refine X_run rfl ?_ ?_)|((with_reducible apply q_cond);refine X_cond rfl ?_ ?_;all_goals (intro hbq;(try simp only [bq] at hbq);(try (exfalso;omega))))|omega)
     refine W_loopS (fun g : Nat × TBS => SS (sI 11 g.1 :: sC 10 (tInt g.2.1) :: sI 9 i :: slR n) [some g.2.2.2.box, some g.2.2.1.box]) (fun g => lLoop i g.1 g.2 = F ∧ (∃ m, g.2.2.1.le m ∧ m + g.1 ≤ 100) ∧ g.2.2.2.ok ∧ g.2.1.length + g.1 ≤ 3) (fun g => g.1) (1 + s1.nx 2, [], b, s1.af) ?_ ⟨eF, ⟨_, hpl, by dsimp only; omega⟩, Src.af_ok hps, by simp only [List.length_nil]; omega⟩ ?_
     ·
      refine X_weak rfl rfl rfl ?_ ?_ <;> repeat' (first|with_reducible (first|exact q_AgS0|exact HLe.nil _|exact SLe.nil|refine SLe.cons ?_ ?_|exact ELe.refl _|refine ELe.c rfl ?_|exact CLe.refl _|exact CLe.nil_tipS|exact CLe.int (by omega)|fail)|refine q_AgS rfl ?_ ?_|refine HLe.cells ?_ ?_)
     ·intro g hg
      obtain ⟨k, tt, b2, s2⟩ := g
      obtain ⟨g1, ⟨m, g2, g2'⟩, g3, g4⟩ := hg
      dsimp only at g1 g2 g2' g3 g4 ⊢
      cases k with
      | succ k =>
       have hT := named_ok ⟨#[76]⟩ i (by decide) (by omega)
       have hT2 := named_ok (nameN ⟨#[76]⟩ i) (k + 1) (by rw [nameN_size]; decide) (by omega)
       have hC := section_ok s2 (nameN (nameN ⟨#[76]⟩ i) (k + 1)) (-1) g3
       have hA := add_ok b2 (secL i (k + 1) s2) (g2.small (by omega))
       repeat' (first|with_reducible (first|refine WR_pp ?_|refine W_seq ?_|refine seqK_n ?_|refine W_block ?_|refine blockK_n ?_|refine W_skip ?_|refine W_region (WOps_WR ?_)|refine WR_nil ?_|refine q_and ?_ ?_|exact True.intro)|((with_reducible apply q_call);first|refine X_pure (hT) rfl ?_|refine X_pure (hT2) rfl ?_|refine X_call [0] (hC) rfl rfl rfl rfl rfl rfl rfl rfl rfl rfl rfl rfl rfl ?_|refine X_call [1] (hA) rfl rfl rfl rfl rfl rfl rfl rfl rfl rfl rfl rfl rfl ?_)|((with_reducible apply q_WR);refine X_run rfl ?_ ?_)|((with_reducible apply q_cond);refine X_cond rfl ?_ ?_;all_goals (intro hbq;(try simp only [bq] at hbq);(try (exfalso;omega))))|((with_reducible apply q_eqN);rfl)|omega)
       refine LoopK_n (k, lStep i (k + 1) (tt, b2, s2)) ?_ ⟨g1, ⟨m + 1, add_le g2 _, by simp only; omega⟩, Src.af_ok (Src.af_ok (Src.af_ok g3)), by simp only [lStep, List.length_append, List.length_singleton]; omega⟩ (by simp only; omega)
       refine X_weak rfl rfl rfl ?_ ?_ <;> repeat' (first|with_reducible (first|exact q_AgS0|exact HLe.nil _|exact SLe.nil|refine SLe.cons ?_ ?_|exact ELe.refl _|refine ELe.c rfl ?_|exact CLe.refl _|exact CLe.int (by omega)|refine CLe.tip ?_ ?_|refine CLe.rows ?_|refine CLe.tips ?_|refine CLe.int ?_)|refine q_AgS rfl ?_ ?_|refine HLe.cells ?_ ?_)
       all_goals (simp [lStep, fInt, fI]; done)
      | zero =>
       have hF : (tt, b2, s2) = F := g1
       subst hF
       simp only at f1 f2 f3 f4 hTrF
       have hcl := fun k => cLoop_le f1 tt k
       repeat' (first|with_reducible (first|refine W_seq ?_|refine seqK_n ?_|refine seqK_e ?_|refine W_block ?_|refine LoopK_e ?_|refine W_exit ?_|refine W_region (WOps_WR ?_)|refine WR_nil ?_|refine q_and ?_ ?_|exact True.intro|refine blockK_e rfl ?_)|((with_reducible apply q_WR);refine X_run rfl ?_ ?_)|((with_reducible apply q_cond);refine X_cond rfl ?_ ?_;all_goals (intro hbq;(try simp only [bq] at hbq);(try (exfalso;omega)))))
       refine W_loopS (fun k : Nat => SS (sI 12 k :: sC 10 (tInt tt) :: sI 9 i :: slR n) [some s2.box, some (cLoop b2 tt k).box]) (fun k => k ≤ tt.length - 1) (fun k => tt.length - 1 - k) 0 ?_ (by omega) ?_
       ·
        refine X_weak rfl rfl rfl ?_ ?_ <;> repeat' (first|with_reducible (first|exact q_AgS0|exact HLe.nil _|exact SLe.nil|refine SLe.cons ?_ ?_|exact ELe.refl _|refine ELe.c rfl ?_|exact CLe.refl _|exact CLe.int (by omega)|refine CLe.tips ?_)|refine q_AgS rfl ?_ ?_|refine HLe.cells ?_ ?_)
        all_goals rfl
       ·intro k hkl
        by_cases hkt : k < tt.length - 1
        ·have hK := link_ok (cLoop b2 tt k) (tt.getD (k : Int).toNat 0) (tt.getD ((k : Int) + 1).toNat 0) (-1) 0 ((hcl k).1.small (by omega))
         repeat' (first|with_reducible (first|refine WR_pd ?_|refine W_seq ?_|refine seqK_n ?_|refine W_block ?_|refine blockK_n ?_|refine W_skip ?_|refine W_region (WOps_WR ?_)|refine W_draw (WOpsD_WR ?_)|refine WR_nil ?_|refine q_and ?_ ?_|exact True.intro|assumption)|((with_reducible apply q_call);refine X_call [1] (hK) rfl rfl rfl rfl rfl rfl rfl rfl rfl rfl rfl rfl rfl ?_)|((with_reducible apply q_WR);first|refine X_run rfl ?_ ?_|refine WR_nilD (by kernel_rfl) ?_|fail)|((with_reducible apply q_cond);refine X_cond rfl ?_ ?_;all_goals (intro hbq;(try simp only [bq] at hbq);(try (exfalso;omega))))|((with_reducible apply q_VOk);exact fun _ => ⟨rfl,rfl⟩)|omega)
         refine LoopK_n (k + 1) ?_ ?_ ?_
         rotate_left
         ·(try dsimp only); omega
         ·(try dsimp only); omega
         refine X_weak rfl rfl rfl ?_ ?_ <;> repeat' (first|with_reducible (first|exact q_AgS0|exact HLe.nil _|exact SLe.nil|refine SLe.cons ?_ ?_|exact ELe.refl _|refine ELe.c rfl ?_|exact CLe.refl _|exact CLe.int (by omega)|refine CLe.tips ?_)|refine q_AgS rfl ?_ ?_|refine HLe.cells ?_ ?_)
         all_goals (simp [cLoop]; done)
        ·have hke : k = tt.length - 1 := by omega
         obtain ⟨c1, c2⟩ := hcl k
         have hc : cLoop b2 tt k = cLoop b2 tt (tt.length - 1) := by rw [hke]
         rw [hc] at c1 c2 ⊢
         generalize eC : cLoop b2 tt (tt.length - 1) = c at c1 c2 hc ⊢
         have hTc : TrOk c (2 + n) := by rw [show TrOk c (2 + n) = (c.tracks.length = 2 + n ∧ ∀ t ∈ c.tracks, 1 ≤ t.length ∧ t.length ≤ 2) from rfl, c2]; exact hTrF
         have hlen : ∀ j, (c.tracks.getD j []).length ≤ 2 := fun j => by
          rw [List.getD_eq_getElem?_getD]
          cases hj : c.tracks[j]? with
          | none => simp
          | some t => exact (hTc.2 t (List.mem_of_getElem? hj)).2
         have l1 := hlen (i : Int).toNat
         have l2 := hlen ((i : Int) + 1).toNat
         have c4 := c1.s4
         have c3 := c1.s2
         have hF1 := fan_ok c (tt.getD (0 : Int).toNat 0) (c.tracks.getD (i : Int).toNat []) false (c1.small (by omega)) (by omega) (by omega) (by omega)
         obtain ⟨d1, d2⟩ := fan_le c1 (tt.getD (0 : Int).toNat 0) (c.tracks.getD (i : Int).toNat []) false l1
         generalize eD : c.fan (tt.getD (0 : Int).toNat 0) (c.tracks.getD (i : Int).toNat []) false = e at d1 d2 hF1
         have d3 := d1.s2
         have d4 := d1.s4
         have l2' : (e.tracks.getD ((i : Int) + 1).toNat []).length ≤ 2 := by rw [d2]; exact l2
         have hF2 := fan_ok e (tt.getD ((tt.length : Int) - 1).toNat 0) (e.tracks.getD ((i : Int) + 1).toNat []) true (d1.small (by omega)) (by omega) (by omega) (by omega)
         obtain ⟨u1, u2⟩ := fan_le d1 (tt.getD ((tt.length : Int) - 1).toNat 0) (e.tracks.getD ((i : Int) + 1).toNat []) true l2'
         generalize eE : e.fan (tt.getD ((tt.length : Int) - 1).toNat 0) (e.tracks.getD ((i : Int) + 1).toNat []) true = u at u1 u2 hF2
         have u6 := u1.s6
         have t1 := hTc.1
         have t2 : e.tracks.length = 2 + n := by rw [d2]; exact t1
         repeat' (first|with_reducible (first|refine WR_pd ?_|refine W_seq ?_|refine seqK_n ?_|refine seqK_e ?_|refine blockK_n ?_|refine LoopK_e ?_|refine W_exit ?_|refine W_region (WOps_WR ?_)|refine W_draw (WOpsD_WR ?_)|refine WR_nil ?_|refine q_and ?_ ?_|exact True.intro|refine blockK_e rfl ?_)|((with_reducible apply q_call);first|refine X_call [1] (hF1) rfl rfl rfl rfl rfl rfl rfl rfl rfl rfl rfl rfl rfl ?_|refine X_call [1] (hF2) rfl rfl rfl rfl rfl rfl rfl rfl rfl rfl rfl rfl rfl ?_)|((with_reducible apply q_WR);first|refine X_run rfl ?_ ?_|refine WR_nilD (by kernel_rfl) ?_|fail)|((with_reducible apply q_cond);refine X_cond rfl ?_ ?_;all_goals (intro hbq;(try simp only [bq] at hbq);(try (exfalso;omega))))|((with_reducible apply q_VOk);exact fun _ => ⟨rfl,rfl⟩)|((with_reducible apply q_eqN);rfl)|omega)
         have n1 : ((i : Int)).toNat = i := by omega
         have n2 : ((i : Int) + 1).toNat = i + 1 := by omega
         have n3 : ((tt.length : Int) - 1).toNat = tt.length - 1 := by omega
         have hp : pStep i (b, s1) = (u.addBt tt, s2) := by
          rw [n1, Int.toNat_zero] at eD
          rw [n2, n3] at eE
          simp only [pStep, eF, eC, eD, eE]
         refine LoopK_n (i + 1) ?_ (by omega) (by omega)
         rw [eX1, hp]
         refine X_weak rfl rfl rfl ?_ ?_ <;> repeat' (first|with_reducible (first|exact q_AgS0|exact HLe.nil _|exact SLe.nil|refine SLe.cons ?_ ?_|exact ELe.refl _|refine ELe.c rfl ?_|exact CLe.refl _|exact CLe.int (by omega)|refine CLe.tip ?_ ?_|refine CLe.tips ?_)|refine q_AgS rfl ?_ ?_|refine HLe.cells ?_ ?_)
         all_goals (simp [Bld.addBt, fTrk]; done)
    ·have hie : i = 1 + n := by omega
     subst hie
     repeat' (first|with_reducible (first|refine W_seq ?_|refine seqK_n ?_|refine seqK_e ?_|refine LoopK_e ?_|refine W_exit ?_|refine W_ret ?_|refine W_region (WOps_WR ?_)|refine WR_nil ?_|refine q_and ?_ ?_|exact True.intro|refine blockK_e rfl ?_)|((with_reducible apply q_WR);refine X_run rfl ?_ ?_)|((with_reducible apply q_cond);refine X_cond rfl ?_ ?_;all_goals (intro hbq;(try simp only [bq] at hbq);(try (exfalso;omega))))|((with_reducible apply q_ret);refine X_ret tabOk trivial rfl rfl ?_ ?_)|omega)
     repeat' (first|with_reducible (first|exact TkEq.nil _|exact SEqL.nil|refine SEqL.cons ?_ ?_|exact CEq.refl _|refine CEq.int ?_|refine CEq.rows ?_|refine CEq.tips ?_)|refine VEq.c ?_|refine TkEq.cells ?_ ?_)
     all_goals (rw [eX2])
theorem from_ok (l : List Int) : OkV Tryz.prog 17 [.c (rInt l)] [] (.c (pB 0)) [some (Src.box ⟨l, 0⟩)] := by
 refine X_fn mixedX Tryz.func17 rfl (by kernel_rfl) (Nat.le_of_ble_eq_true (by kernel_rfl)) (by kernel_rfl) rfl rfl (Nat.le_of_ble_eq_true rfl) rfl rfl ?_
 simp only [sl0, Nat.zero_add, Nat.reduceAdd]
 repeat' (first|with_reducible (first|refine W_seq ?_|refine seqK_n ?_|refine W_ret ?_|refine W_region (WOps_WR ?_)|refine WR_nil ?_|refine q_and ?_ ?_|exact True.intro)|((with_reducible apply q_WR);refine X_run rfl ?_ ?_)|((with_reducible apply q_ret);refine X_ret tabOk trivial rfl rfl ?_ ?_))
 repeat' (first|with_reducible (first|exact TkEq.nil _|exact SEqL.nil|refine SEqL.cons ?_ ?_|exact CEq.refl _|refine CEq.int ?_)|refine VEq.c ?_|refine TkEq.cells ?_ ?_|rfl)
def genL (l : List Int) : Lay := (rowB ⟨l, 0⟩).1.L
def secZ (x : Sec) : Sec := ⟨x.nm, 1, 1000, 0, x.stn⟩
def layZ (L : Lay) : Lay := { L with secs := L.secs.map secZ }
def Bld.z (b : Bld) : Bld := { b with L := layZ b.L }
def goodS (x : Sec) : Prop := 1 ≤ x.len ∧ x.len ≤ 400 ∧ 1000 ≤ x.lim ∧ x.lim ≤ 100000 ∧ -40 ≤ x.grd ∧ x.grd ≤ 40
theorem secB_z (n : Nat) (x : Sec) (h : goodS x) : secB n (secZ x) = secB n x := by
 obtain ⟨h1, h2, h3, h4, h5, h6⟩ := h
 unfold secB secZ
 simp only [decide_eq_decide]
 omega
theorem secsErr_z (n : Nat) : ∀ (l : List Sec) (seen : List ByteArray), (∀ x ∈ l, goodS x) → secsErr n seen (l.map secZ) = secsErr n seen l
 | [], _, _ => rfl
 | x :: r, seen, h => by
  rw [List.map_cons, secsErr, secsErr, secB_z n x (h x (List.mem_cons_self ..)), secsErr_z n r _ (fun y hy => h y (List.mem_cons_of_mem _ hy))]
  rfl
theorem layErr_z (L : Lay) (h : ∀ x ∈ L.secs, goodS x) : layErr (layZ L) = layErr L := by
 unfold layErr layZ
 simp only [List.length_map, secsErr_z _ _ _ h]
theorem sec_good (s : Src) (nm : ByteArray) (st : Int) : goodS (s.sec nm st) ∧ goodS { s.sec nm st with len := (s.sec nm st).len + 2 } := by
 have k1 := s.nx_lt (n := 9) (by omega)
 have k2 := s.af.nx_lt (n := 7) (by omega)
 have k3 := s.af.af.nx_lt (n := 21) (by omega)
 unfold goodS Src.sec
 simp only
 omega
abbrev TBQ := List Int × Bld
def tLoopZ (i : Nat) : Nat → TBQ → TBQ
 | 0, x => x
 | k + 1, x => tLoopZ i k (x.1 ++ [(x.2.L.secs.length : Int)], x.2.add ⟨nameN (nameN ⟨#[84]⟩ i) (k + 1), 1, 1000, 0, i⟩)
def oStepZ (i c : Nat) (b : Bld) : Bld := let y := tLoopZ i c ([], b.addSt (nameN ⟨#[83]⟩ i)); y.2.addTr y.1
def lLoopZ (i : Nat) : Nat → TBQ → TBQ
 | 0, x => x
 | k + 1, x => lLoopZ i k (x.1 ++ [(x.2.L.secs.length : Int)], x.2.add ⟨nameN (nameN ⟨#[76]⟩ i) (k + 1), 1, 1000, 0, -1⟩)
def pStepZ (i n : Nat) (b : Bld) : Bld :=
 let y := lLoopZ i n ([], b)
 let c := cLoop y.2 y.1 (y.1.length - 1)
 let d := c.fan (y.1.getD 0 0) (c.tracks.getD i []) false
 let e := d.fan (y.1.getD (y.1.length - 1) 0) (d.tracks.getD (i + 1) []) true
 e.addBt y.1
theorem add_z (b : Bld) (x : Sec) : (b.add x).z = b.z.add (secZ x) := by simp [Bld.z, Bld.add, layZ]
theorem len_z (b : Bld) : b.z.L.secs.length = b.L.secs.length := by simp [Bld.z, layZ]
theorem tLoop_z (i : Nat) : ∀ (k : Nat) (x : TBS), ((tLoop i k x).1, (tLoop i k x).2.1.z) = tLoopZ i k (x.1, x.2.1.z)
 | 0, x => rfl
 | k + 1, x => by
  rw [tLoop, tLoop_z i k, tLoopZ, len_z]
  simp only [tStep, add_z]
  rfl
theorem lLoop_z (i : Nat) : ∀ (k : Nat) (x : TBS), ((lLoop i k x).1, (lLoop i k x).2.1.z) = lLoopZ i k (x.1, x.2.1.z)
 | 0, x => rfl
 | k + 1, x => by
  rw [lLoop, lLoop_z i k, lLoopZ, len_z]
  simp only [lStep, add_z]
  rfl
theorem oStep_z (i : Nat) (x : Bld × Src) : (oStep i x).1.z = oStepZ i (1 + x.2.nx 2) x.1.z := by
 have h := tLoop_z i (1 + x.2.nx 2) ([], x.1.addSt (nameN ⟨#[83]⟩ i), x.2.af)
 have h1 := congrArg Prod.fst h
 have h2 := congrArg Prod.snd h
 simp only at h1 h2
 unfold oStep oStepZ
 simp only
 rw [show (x.1.z.addSt (nameN ⟨#[83]⟩ i)) = (x.1.addSt (nameN ⟨#[83]⟩ i)).z from rfl, ← h1, ← h2]
 rfl
theorem links_z (b : Bld) (x pt : Int) (east : Bool) (ts : List Int) : ∀ i, (b.links x pt east ts i).z = b.z.links x pt east ts i
 | 0 => rfl
 | i + 1 => by
  rw [Bld.links, Bld.links, ← links_z b x pt east ts i]
  rfl
theorem fan_z (b : Bld) (x : Int) (ts : List Int) (east : Bool) : (b.fan x ts east).z = b.z.fan x ts east := by
 unfold Bld.fan
 split
 ·rw [links_z]; rfl
 ·rw [links_z]
theorem cLoop_z (b : Bld) (t : List Int) : ∀ k, (cLoop b t k).z = cLoop b.z t k
 | 0 => rfl
 | k + 1 => by
  rw [cLoop, cLoop, ← cLoop_z b t k]
  rfl
theorem tracks_z (b : Bld) : b.z.tracks = b.tracks := rfl
theorem addBt_z (b : Bld) (t : List Int) : (b.addBt t).z = b.z.addBt t := rfl
theorem pStep_z (i : Nat) (x : Bld × Src) : (pStep i x).1.z = pStepZ i (1 + x.2.nx 2) x.1.z := by
 have h := lLoop_z i (1 + x.2.nx 2) ([], x.1, x.2.af)
 have h1 := congrArg Prod.fst h
 have h2 := congrArg Prod.snd h
 simp only at h1 h2
 unfold pStep pStepZ
 generalize lLoop i (1 + x.2.nx 2) ([], x.1, x.2.af) = y at h1 h2 ⊢
 generalize lLoopZ i (1 + x.2.nx 2) ([], x.1.z) = u at h1 h2 ⊢
 obtain ⟨u1, u2⟩ := u
 obtain ⟨y1, y2, y3⟩ := y
 simp only at h1 h2 ⊢
 subst h1 h2
 simp only [← cLoop_z, tracks_z, ← fan_z, ← addBt_z]
def iterZ (f : Nat → Nat → Bld → Bld) (c : Nat → Nat) (b : Bld) : Nat → Bld
 | 0 => b
 | i + 1 => f i (c i) (iterZ f c b i)
theorem iter_z {f : Nat → Bld × Src → Bld × Src} {g : Nat → Nat → Bld → Bld} (h : ∀ i x, (f i x).1.z = g i (1 + x.2.nx 2) x.1.z) (x : Bld × Src) : ∀ i, (iter f x i).1.z = iterZ g (fun i => 1 + (iter f x i).2.nx 2) x.1.z i
 | 0 => rfl
 | i + 1 => by
  rw [iter, h, iter_z h x i]
  rfl
def shapeB (n a0 a1 a2 c0 c1 : Nat) : Bld := iterZ pStepZ (fun i => [c0, c1].getD i 1) (iterZ oStepZ (fun i => [a0, a1, a2].getD i 1) Bld.zero (2 + n)) (1 + n)
def shapesB : Bool := [0, 1].all fun n => [1, 2].all fun a0 => [1, 2].all fun a1 => [1, 2].all fun a2 => [1, 2].all fun c0 => [1, 2].all fun c1 => decide (layErr (shapeB n a0 a1 a2 c0 c1).L = 0)
set_option maxRecDepth 100000 in
theorem shapes_ok : shapesB = true := by kernel_rfl
theorem two_mem (s : Src) : 1 + s.nx 2 ∈ [1, 2] := by
 have := s.nx_lt (n := 2) (by omega)
 generalize s.nx 2 = k at this ⊢
 match k, this with
 | 0, _ => simp
 | 1, _ => simp
theorem shape_ok {n a0 a1 a2 c0 c1 : Nat} (hn : n ∈ [0, 1]) (h0 : a0 ∈ [1, 2]) (h1 : a1 ∈ [1, 2]) (h2 : a2 ∈ [1, 2]) (h3 : c0 ∈ [1, 2]) (h4 : c1 ∈ [1, 2]) : layErr (shapeB n a0 a1 a2 c0 c1).L = 0 := by
 have h := shapes_ok
 unfold shapesB at h
 have h := List.all_eq_true.1 h n hn
 have h := List.all_eq_true.1 h a0 h0
 have h := List.all_eq_true.1 h a1 h1
 have h := List.all_eq_true.1 h a2 h2
 have h := List.all_eq_true.1 h c0 h3
 have h := List.all_eq_true.1 h c1 h4
 exact of_decide_eq_true h
theorem iterZ_congr (f : Nat → Nat → Bld → Bld) (c c' : Nat → Nat) (b : Bld) : ∀ i, (∀ j, j < i → c j = c' j) → iterZ f c b i = iterZ f c' b i
 | 0, _ => rfl
 | i + 1, h => by rw [iterZ, iterZ, h i (by omega), iterZ_congr f c c' b i (fun j hj => h j (by omega))]
def GS (b : Bld) : Prop := ∀ x ∈ b.L.secs, goodS x
theorem GS.add {b : Bld} (h : GS b) {x : Sec} (hx : goodS x) : GS (b.add x) := fun y hy => by
 simp only [Bld.add, List.mem_append, List.mem_singleton] at hy
 rcases hy with hy | rfl
 ·exact h y hy
 ·exact hx
theorem GS.of {b c : Bld} (h : GS b) (e : c.L.secs = b.L.secs) : GS c := fun y hy => h y (e ▸ hy)
theorem tLoop_gs (i : Nat) : ∀ (k : Nat) (x : TBS), GS x.2.1 → GS (tLoop i k x).2.1
 | 0, x, h => h
 | k + 1, x, h => tLoop_gs i k _ (h.add (sec_good _ _ _).2)
theorem lLoop_gs (i : Nat) : ∀ (k : Nat) (x : TBS), GS x.2.1 → GS (lLoop i k x).2.1
 | 0, x, h => h
 | k + 1, x, h => lLoop_gs i k _ (h.add (sec_good _ _ _).1)
theorem oStep_gs (i : Nat) (x : Bld × Src) (h : GS x.1) : GS (oStep i x).1 :=
 (tLoop_gs i (1 + x.2.nx 2) ([], x.1.addSt (nameN ⟨#[83]⟩ i), x.2.af) (h.of rfl)).of rfl
theorem links_secs (b : Bld) (x pt : Int) (east : Bool) (ts : List Int) : ∀ i, (b.links x pt east ts i).L.secs = b.L.secs
 | 0 => rfl
 | i + 1 => links_secs b x pt east ts i
theorem fan_secs (b : Bld) (x : Int) (ts : List Int) (east : Bool) : (b.fan x ts east).L.secs = b.L.secs := by
 unfold Bld.fan
 split
 ·rw [links_secs]; rfl
 ·rw [links_secs]
theorem cLoop_secs (b : Bld) (t : List Int) : ∀ k, (cLoop b t k).L.secs = b.L.secs
 | 0 => rfl
 | k + 1 => cLoop_secs b t k
theorem pStep_gs (i : Nat) (x : Bld × Src) (h : GS x.1) : GS (pStep i x).1 := by
 have hl := lLoop_gs i (1 + x.2.nx 2) ([], x.1, x.2.af) h
 unfold pStep
 generalize lLoop i (1 + x.2.nx 2) ([], x.1, x.2.af) = y at hl ⊢
 refine hl.of ?_
 simp only
 show (Bld.fan _ _ _ _).L.secs = _
 rw [fan_secs, fan_secs, cLoop_secs]
theorem iter_gs {f : Nat → Bld × Src → Bld × Src} (hf : ∀ i x, GS x.1 → GS (f i x).1) {x : Bld × Src} (h : GS x.1) : ∀ i, GS (iter f x i).1
 | 0 => h
 | i + 1 => hf _ _ (iter_gs hf h i)
theorem shapeAny (n : Nat) (hn : n < 2) (c1 c2 : Nat → Nat) (h1 : ∀ i, c1 i ∈ [1, 2]) (h2 : ∀ i, c2 i ∈ [1, 2]) : layErr (iterZ pStepZ c2 (iterZ oStepZ c1 Bld.zero (2 + n)) (1 + n)).L = 0 := by
 rw [iterZ_congr oStepZ c1 (fun i => [c1 0, c1 1, c1 2].getD i 1) _ (2 + n) (fun j hj => by
  match j, (show j < 3 by omega) with
  | 0, _ => rfl
  | 1, _ => rfl
  | 2, _ => rfl), iterZ_congr pStepZ c2 (fun i => [c2 0, c2 1].getD i 1) _ (1 + n) (fun j hj => by
  match j, (show j < 2 by omega) with
  | 0, _ => rfl
  | 1, _ => rfl)]
 have hm : n ∈ [0, 1] := by
  match n, hn with
  | 0, _ => simp
  | 1, _ => simp
 exact shape_ok hm (h1 0) (h1 1) (h1 2) (h2 0) (h2 1)
theorem genL_ok (l : List Int) : layErr (genL l) = 0 := by
 have hk := (⟨l, 0⟩ : Src).nx_lt (n := 2) (by omega)
 have g0 : GS Bld.zero := fun x hx => by cases hx
 have g1 := iter_gs oStep_gs (x := (Bld.zero, (⟨l, 0⟩ : Src).af)) g0 (2 + (⟨l, 0⟩ : Src).nx 2)
 have g2 := iter_gs pStep_gs g1 (1 + (⟨l, 0⟩ : Src).nx 2)
 have e1 := iter_z oStep_z (Bld.zero, (⟨l, 0⟩ : Src).af) (2 + (⟨l, 0⟩ : Src).nx 2)
 have e2 := iter_z pStep_z (iter oStep (Bld.zero, (⟨l, 0⟩ : Src).af) (2 + (⟨l, 0⟩ : Src).nx 2)) (1 + (⟨l, 0⟩ : Src).nx 2)
 rw [e1, show Bld.z (Bld.zero, (⟨l, 0⟩ : Src).af).1 = Bld.zero from rfl] at e2
 have hs := shapeAny ((⟨l, 0⟩ : Src).nx 2) hk _ _ (fun i => two_mem (iter oStep (Bld.zero, (⟨l, 0⟩ : Src).af) i).2) (fun i => two_mem (iter pStep (iter oStep (Bld.zero, (⟨l, 0⟩ : Src).af) (2 + (⟨l, 0⟩ : Src).nx 2)) i).2)
 rw [← e2] at hs
 have hz := layErr_z _ g2
 unfold genL rowB
 rw [← hz]
 exact hs
def RetD (P : Program) (fn : Func) (r : AVal) (H' : List (Option (List CVal))) (e : AExit) (s : St) : Prop := ∃ r0, Ret P fn r0 H' e s ∧ r0.dem = r
theorem okE_of_W {P : Program} {D : Array Oper → St → (St → Prop) → Prop} (hD : DSound P D) {f : FuncId} {fn : Func} {c : Code} {args : List AVal} {H : List (Option (List CVal))} {Q : AVal → List (Option (List CVal)) → Prop} (hf : P.funcs[f]? = some fn) (hb : fn.body = some c) (hn : (fn.name == "runtime.NumGoroutine") = false) (hca : args.length ≤ fn.ntmps) (hcode : codeOk fn.ntmps c = true)
  (hres : ∀ r H', Q r H' → Flat r = true ∧ r.ok H'.length = true ∧ H.length ≤ H'.length ∧ H'.all (okB H'.length) = true) {s0 : St} (hs0 : Weak H.length (entry fn args H) s0) (h : W P D H.length c s0 fun e s => ∃ r H', Q r H' ∧ RetD P fn r H' e s) : OkE P f args H Q := by
 refine ⟨⟨fn, hf, by rw [hb]; rfl, hn⟩, fun r H' hq => ⟨flat_dem (hres r H' hq).1, (hres r H' hq).2.1, (hres r H' hq).2.2.1⟩, fun w κ ρ vals hs hr hok hH => ?_⟩
 obtain ⟨κ2, hR2, hF2⟩ := hs0.2 _ _ _ _ (entry_rel hca hs hr hok hH)
 refine calls_of_wp hf hb (wp_mono (W_sound (N := fn.ntmps) hD c _ _ _ w κ2 ρ hcode h ⟨hR2, hF2, fun _ _ => rfl, hs0.1, entry_size hca hs⟩) fun e a' w' hq => ?_)
 have key : ∀ {ex : AExit} {s : St} {κ' : Nat → BK} {ρ' : Nat → Nat}, (∃ r H', Q r H' ∧ RetD P fn r H' ex s) → In fn.ntmps H.length w κ ρ s a' w' κ' ρ' → a'.defers = [] ∧ ∃ v, (results fn a'.tmps).run P w' = .ok v w' ∧ ∃ r H', Q r H' ∧ ∃ v' κ'' ρ'', Ending.returned v = .returned v' ∧ (∀ l, RepA w' κ'' ρ'' l r v') ∧ RelH H' w' κ'' ρ'' ∧ Fr w κ w' κ'' ∧ ∀ b, b < H.length → ρ'' b = ρ b := by
  rintro ex s κ' ρ' ⟨r, H', hq, r0, ⟨_, ys, h1, h2, h3⟩, hd⟩ hI
  obtain ⟨hflat, hrok, hlen, hHok⟩ := hres r H' hq
  obtain ⟨v, vs, k1, k2, k3, k4, k5⟩ := results_run hI.rel h1
  refine ⟨hI.rel.defers, v, k1, r, H', hq, v, κ', ρ', rfl, fun l => ?_, ⟨fun b cs hb' => ?_, fun b cs hb' x hx => ?_⟩, hI.fr, hI.rho⟩
  ·rw [k2, ← hd, ← h2]; exact RepA.dem (l := l) (pack_rep k3 k4 l)
  ·rw [← h3, List.getElem?_take] at hb'
   split at hb'
   ·exact hI.rel.heap.blk b cs hb'
   ·cases hb'
  ·have := List.all_eq_true.1 hHok (some cs) (List.mem_of_getElem? hb')
   exact List.all_eq_true.1 this x hx
 cases e with
 | normal => obtain ⟨s, κ', ρ', hk, hI⟩ := hq; exact key hk hI
 | ret => obtain ⟨s, κ', ρ', hk, hI⟩ := hq; exact key hk hI
 | exit id => obtain ⟨s, κ', ρ', ⟨r, H', _, r0, hk, _⟩, hI⟩ := hq; exact hk.1.elim
 | goto l => exact hq
 | panic ch => exact False.elim hq
 | outgrown => exact False.elim hq
theorem okPE_of_W {P : Program} {D : Array Oper → St → (St → Prop) → Prop} (hD : DSound P D) {f : FuncId} {fn : Func} {c : Code} {args : List AVal} {Q : AVal → Prop} (hf : P.funcs[f]? = some fn) (hb : fn.body = some c) (hn : (fn.name == "runtime.NumGoroutine") = false) (hca : args.length ≤ fn.ntmps) (hcode : codeOk fn.ntmps c = true)
  (hres : ∀ r, Q r → Flat r = true ∧ r.ok 0 = true) {s0 : St} (hs0 : Weak 0 (entry fn args []) s0) (h : W P D 0 c s0 fun e s => ∃ r, Q r ∧ RetP P fn r e s) : OkE P f args [] fun r H' => Q r ∧ H' = [] := by
 refine ⟨⟨fn, hf, by rw [hb]; rfl, hn⟩, fun r H' hq => by obtain ⟨hq, rfl⟩ := hq; exact ⟨flat_dem (hres r hq).1, (hres r hq).2, Nat.le_refl _⟩, fun w κ ρ vals hs hr hok hH => ?_⟩
 obtain ⟨κ2, hR2, hF2⟩ := hs0.2 _ _ _ _ (entry_rel hca hs hr hok hH)
 refine calls_of_wp hf hb (wp_mono (W_sound (N := fn.ntmps) hD c _ _ _ w κ2 ρ hcode h ⟨hR2, hF2, fun _ _ => rfl, hs0.1, entry_size hca hs⟩) fun e a' w' hq => ?_)
 have key : ∀ {ex : AExit} {s : St} {κ' : Nat → BK} {ρ' : Nat → Nat}, (∃ r, Q r ∧ RetP P fn r ex s) → In fn.ntmps 0 w κ ρ s a' w' κ' ρ' → a'.defers = [] ∧ ∃ v, (results fn a'.tmps).run P w' = .ok v w' ∧ ∃ r H', (Q r ∧ H' = []) ∧ ∃ v' κ'' ρ'', Ending.returned v = .returned v' ∧ (∀ l, RepA w' κ'' ρ'' l r v') ∧ RelH H' w' κ'' ρ'' ∧ Fr w κ w' κ'' ∧ ∀ b, b < 0 → ρ'' b = ρ b := by
  rintro ex s κ' ρ' ⟨r, hq, _, ys, h1, h2⟩ hI
  obtain ⟨v, vs, k1, k2, k3, k4, k5⟩ := results_run hI.rel h1
  have hg : Grow w' κ' w' (frozenK κ') := grow_fits fun g n hf => by
   unfold frozenK
   split
   ·trivial
   ·exact hf
  refine ⟨hI.rel.defers, v, k1, r, [], ⟨hq, rfl⟩, v, frozenK κ', ρ', rfl, fun l => ?_, ⟨fun b cs h => by simp at h, fun b cs h => by simp at h⟩, hI.fr.trans ⟨rfl, rfl, rfl, Nat.le_refl _, fun g n _ hl => ⟨by unfold frozenK; rw [hl], rfl⟩, hg⟩, fun b hb => by omega⟩
  rw [k2, ← h2]
  refine pack_rep (by simpa using k3) (fun i hi hi' l => ?_) l
  have hi2 : i < ys.length := by simpa using hi
  rw [List.getElem_map]
  exact fzT_rep hI.rel (k5 _ (List.getElem_mem hi2)) (k4 i hi2 hi' l)
 cases e with
 | normal => obtain ⟨s, κ', ρ', hk, hI⟩ := hq; exact key hk hI
 | ret => obtain ⟨s, κ', ρ', hk, hI⟩ := hq; exact key hk hI
 | exit id => obtain ⟨s, κ', ρ', ⟨r, _, hk⟩, hI⟩ := hq; exact hk.1.elim
 | goto l => exact hq
 | panic ch => exact False.elim hq
 | outgrown => exact False.elim hq
def OkG (P : Program) (f : FuncId) (args : List SV) (H : SH) {γ : Type} (I : γ → Prop) (rs : γ → SV) (Hs : γ → SH) : Prop := OkE P f (args.map SV.den) (denH H) fun r H' => ∃ x, I x ∧ r = (rs x).den ∧ H' = denH (Hs x)
def RetG (P : Program) (fn : Func) {γ : Type} (I : γ → Prop) (rs : γ → SV) (Hs : γ → SH) (e : AExit) (s : St) : Prop := ∃ x, I x ∧ RetD P fn (rs x).den (denH (Hs x)) e s
def RetGP (P : Program) (fn : Func) {γ : Type} (I : γ → Prop) (rs : γ → SV) (e : AExit) (s : St) : Prop := ∃ x, I x ∧ RetP P fn (rs x).den e s
theorem X_fnG {P : Program} (hm : P.follows .mixedOrders = true) {f : FuncId} {fn : Func} {c : Code} {args : List SV} {H : SH} {γ : Type} {I : γ → Prop} {rs : γ → SV} {Hs : γ → SH} (hf : P.funcs[f]? = some fn) (hb : fn.body = some c) (hn : (fn.name == "runtime.NumGoroutine") = false) (hca : args.length ≤ fn.ntmps) (hcode : codeOk fn.ntmps c = true)
  (hres : ∀ x, I x → flatV (rs x) = true ∧ okV (Hs x).length (rs x) = true ∧ H.length ≤ (Hs x).length ∧ okBl (Hs x).length (Hs x) = true) {n0 : Nat} (h0 : H.length = n0) (h : W P (DR P) n0 c (SS (sl0 0 args) H) (RetG P fn I rs Hs)) : OkG P f args H I rs Hs := by
 subst h0
 refine okE_of_W (DR_sound hm) hf hb hn (by simpa using hca) hcode (fun r H' hq => ?_) (weak_entry (args := args.map SV.den) (H := denH H)) ?_
 ·obtain ⟨x, hx, rfl, rfl⟩ := hq
  obtain ⟨h1, h2, h3, h4⟩ := hres x hx
  exact ⟨flatV_den h1, by rw [denH_len]; exact okV_den h2, by rw [denH_len, denH_len]; exact h3, by rw [denH_len]; exact okBl_den h4⟩
 ·rw [denH_len, sl0_eq]
  refine W_mono (K := RetG P fn I rs Hs) (K' := RetG P fn I rs Hs) _ _ _ _ (fun e s hk => ?_) h (fun ops s K K' hK hd => DR_mono ops s K K' hK hd)
  obtain ⟨x, hx, hk⟩ := hk
  exact ⟨_, _, ⟨x, hx, rfl, rfl⟩, hk⟩
theorem okD_ok {P : Program} {f : FuncId} {args : List AVal} {H H' : List (Option (List CVal))} {r : AVal} (h : OkE P f args H fun a b => a = r ∧ b = H') : Ok P f args H r H' := by
 obtain ⟨h1, h2, h3⟩ := h.res r H' ⟨rfl, rfl⟩
 refine ⟨h.fn, h1, h2, h3, fun w κ ρ vals k1 k2 k3 k4 => (h.run w κ ρ vals k1 k2 k3 k4).mono ?_⟩
 rintro e w' ⟨_, _, ⟨rfl, rfl⟩, k⟩
 exact k
theorem X_fnD {P : Program} (hm : P.follows .mixedOrders = true) {f : FuncId} {fn : Func} {c : Code} {args : List SV} {r : SV} {H H' : SH} (hf : P.funcs[f]? = some fn) (hb : fn.body = some c) (hn : (fn.name == "runtime.NumGoroutine") = false) (hca : args.length ≤ fn.ntmps) (hcode : codeOk fn.ntmps c = true)
  (hflat : flatV r = true) (hrok : okV H'.length r = true) (hlen : H.length ≤ H'.length) (hHok : okBl H'.length H' = true) {n0 : Nat} (h0 : H.length = n0) (h : W P (DR P) n0 c (SS (sl0 0 args) H) (RetD P fn r.den (denH H'))) : OkV P f args H r H' := by
 have key : OkG P f args H (fun _ : Unit => True) (fun _ => r) (fun _ => H') := X_fnG hm hf hb hn hca hcode (fun _ _ => ⟨hflat, hrok, hlen, hHok⟩) h0 (W_mono (K := RetD P fn r.den (denH H')) (K' := RetG P fn (fun _ : Unit => True) (fun _ => r) (fun _ => H')) _ _ _ _ (fun e s hk => ⟨(), trivial, hk⟩) h (fun ops s K K' hK hd => DR_mono ops s K K' hK hd))
 refine okD_ok ⟨key.fn, fun a b e => ?_, fun w κ ρ vals k1 k2 k3 k4 => (key.run w κ ρ vals k1 k2 k3 k4).mono ?_⟩
 ·obtain ⟨rfl, rfl⟩ := e
  exact key.res _ _ ⟨(), trivial, rfl, rfl⟩
 ·rintro e w' ⟨_, _, ⟨_, _, rfl, rfl⟩, k⟩
  exact ⟨_, _, ⟨rfl, rfl⟩, k⟩
theorem X_fnGP {P : Program} (hm : P.follows .mixedOrders = true) {f : FuncId} {fn : Func} {c : Code} {args : List SV} {γ : Type} {I : γ → Prop} {rs : γ → SV} (hf : P.funcs[f]? = some fn) (hb : fn.body = some c) (hn : (fn.name == "runtime.NumGoroutine") = false) (hca : args.length ≤ fn.ntmps) (hcode : codeOk fn.ntmps c = true)
  (hres : ∀ x, I x → flatV (rs x) = true ∧ okV 0 (rs x) = true) (h : W P (DR P) 0 c (SS (sl0 0 args) []) (RetGP P fn I rs)) : OkG P f args [] I rs fun _ => [] := by
 have key : OkE P f (args.map SV.den) [] fun r H' => (∃ x, I x ∧ r = (rs x).den) ∧ H' = [] := by
  refine okPE_of_W (DR_sound hm) hf hb hn (by simpa using hca) hcode (fun r hq => ?_) (weak_entry (args := args.map SV.den) (H := [])) ?_
  ·obtain ⟨x, hx, rfl⟩ := hq
   obtain ⟨h1, h2⟩ := hres x hx
   exact ⟨flatV_den h1, okV_den h2⟩
  ·have := sl0_eq (H := []) args 0
   rw [show (denH [] : HB) = [] from rfl] at this
   rw [this]
   refine W_mono (K := RetGP P fn I rs) (K' := RetGP P fn I rs) _ _ _ _ (fun e s hk => ?_) h (fun ops s K K' hK hd => DR_mono ops s K K' hK hd)
   obtain ⟨x, hx, hk⟩ := hk
   exact ⟨_, ⟨x, hx, rfl⟩, hk⟩
 refine ⟨key.fn, fun r H' hq => ?_, fun w κ ρ vals h1 h2 h3 h4 => (key.run w κ ρ vals h1 h2 h3 h4).mono ?_⟩
 ·obtain ⟨x, hx, rfl, rfl⟩ := hq
  exact key.res _ _ ⟨⟨x, hx, rfl⟩, rfl⟩
 ·rintro e w' ⟨r, H', ⟨⟨x, hx, rfl⟩, rfl⟩, k⟩
  exact ⟨_, _, ⟨x, hx, rfl, rfl⟩, k⟩
theorem X_callG {P : Program} {ops : Array Oper} {rest : List Oper} {d : Option Tmp} {ty : TypeId} {pos : String} {af : Array Edge} {K : St → Prop} {l : SL} {H : SH} {c : Call} {f : FuncId} {vs ws : List SV} {Hs Gs : SH} (bs : List Nat) {γ : Type} {I : γ → Prop} {rs : γ → SV} {Hs' : γ → SH} (hO : OkG P f vs Hs I rs Hs')
  (hc : callOf ⟨d, .call c, ty, pos, af, none⟩ = some (f, c.args.toList)) (ha : argsS (evU l) c.args.toList = some ws) (hv : renVs (sigL H bs) vs = some ws) (hg : getHs H bs = some Gs) (hr1 : renHs (sigL H bs) Hs = some Gs) (hn : nodupB bs = true) (h4 : okVs Hs.length vs = true) (h5 : okBl Hs.length Hs = true)
  (h : ∀ x, I x → ∃ Gs' r' l' H', renHs (sigL H bs) (Hs' x) = some Gs' ∧ renV (sigL H bs) (rs x) = some r' ∧ okBl (Hs' x).length (Hs' x) = true ∧ putK H bs Gs' (fun H' => some ⟨[], [], H', .plain (fun _ => True), True⟩) = some ⟨[], [], H', .plain (fun _ => True), True⟩ ∧ (match d with | some d => some ((d, SE.v r') :: l) | none => some l) = some l' ∧ WR P ops rest (SS l' H') (.plain K)) : WR P ops (⟨d, .call c, ty, pos, af, none⟩ :: rest) (SS l H) (.plain K) := by
 obtain ⟨g1, g2⟩ := getHs_den hg
 have hlen : ∀ X : SH, (denH X).length = X.length := denH_len
 have hSH : (SS l H).H = denH H := SS_H _ _
 refine ⟨.inr (.inl ⟨wantA_none rfl, f, c.args.toList, hc, bs, vs.map SV.den, denH Hs, _, hO, nodupB_eq hn, fun b hb => ?_, ?_, ?_, ?_, ?_, ?_⟩)⟩
 ·rw [hSH, hlen]; exact g2 b hb
 ·rw [hSH, hlen, renHs_den hr1]; exact g1.symm
 ·rw [hlen]; exact List.all_eq_true.1 (okVs_den h4)
 ·rw [hlen]; exact okBl_den h5
 ·rw [hSH, hlen, renVs_den hv, ← argsS_eq (s := SS l H) (fun x _ v hv => evU_den hv) ha]
  exact List.map_congr_left fun x _ => (AVal.lend_nil _).symm
 ·rintro r Hs2 ⟨x, hx, rfl, rfl⟩
  obtain ⟨Gs', r', l', H', k1, k2, k3, k4, k5, k6⟩ := h x hx
  obtain ⟨H2, hP1, hP2⟩ := putK_eq k4
  injection hP1 with hP1; injection hP1 with _ _ hP1
  subst hP1
  refine ⟨by rw [hlen]; exact okBl_den k3, ?_⟩
  rw [hSH, hlen, renHs_den k1, ← hP2, renV_den k2]
  have e : SS l' H2 = (SS l H2).put d r'.den := by
   split at k5 <;> injection k5 with k5 <;> subst k5 <;> rfl
  have e2 : (({ (SS l H) with H := denH H2 } : St).put d r'.den) = SS l' H2 := by
   rw [e]; rw [← SS_setH (H' := H2)]; rfl
  rw [e2]
  exact k6.out
theorem X_retD {fn : Func} {r : SV} {H' : SH} {e : AExit} {l : SL} {H : SH} {ys : List ST} (hy : resE tab l H fn.results.toList e = some ys) (hp : (packS ys).den.dem = r.den) (hH : TkEq H H') : RetD Tryz.prog fn r.den (denH H') e (SS l H) := by
 refine ⟨(packS ys).den, ?_, hp⟩
 obtain ⟨h1, rfl | rfl⟩ := resE_eq hy
 ·exact X_ret tabOk trivial rfl h1 rfl hH
 ·exact X_ret tabOk trivial rfl h1 rfl hH
theorem X_retG {fn : Func} {γ : Type} {I : γ → Prop} {rs : γ → SV} {Hs : γ → SH} {e : AExit} {l : SL} {H : SH} {ys : List ST} (hy : resE tab l H fn.results.toList e = some ys) (x : γ) (hx : I x) (hp : (packS ys).den.dem = (rs x).den) (hH : TkEq H (Hs x)) : RetG Tryz.prog fn I rs Hs e (SS l H) := ⟨x, hx, X_retD hy hp hH⟩
theorem X_retGP {fn : Func} {γ : Type} {I : γ → Prop} {rs : γ → SV} {e : AExit} {l : SL} {H : SH} {v : SV} {p : Prop} (hy : fzE tab l H fn.results.toList e = some ⟨[], [(0, .v v)], [], .plain (fun _ => True), p⟩) (x : γ) (hx : I x) (hq : p) (hp : v.den = (rs x).den) : RetGP Tryz.prog fn I rs e (SS l H) := by
 refine ⟨x, hx, ?_⟩
 obtain ⟨h1, rfl | rfl⟩ := fzE_eq hy
 ·exact X_retP tabOk trivial rfl h1 hq hp
 ·exact X_retP tabOk trivial rfl h1 hq hp
theorem WR_view {ops : Array Oper} {rest : List Oper} {l : SL} {H : SH} {R : Rg} (d : Nat) (v : SE) (hv : (SS l H).sl d = v.den) (h : WR Tryz.prog ops rest (SS ((d, v) :: l) H) R) : WR Tryz.prog ops rest (SS l H) R := by
 have e : SS ((d, v) :: l) H = SS l H := by
  rw [← SS_put]
  unfold St.put
  simp only
  show St.mk _ _ = St.mk _ _
  congr 1
  funext i
  show upd (SS l H).sl d v.den i = (SS l H).sl i
  unfold upd
  split
  ·rename_i hi
   rw [hi, hv]
  ·rfl
 rwa [e] at h
theorem X_callF {P : Program} {ops : Array Oper} {rest : List Oper} {d : Option Tmp} {ty : TypeId} {pos : String} {af : Array Edge} {l : SL} {H : SH} {R : Rg} {c : Call} {f : FuncId} {vs ws : List SV} {Hs Hs' Gs Gs' : SH} {r r' : SV} {l' : SL} {H' : SH} (bs : List Nat) (hO : OkV P f vs Hs r Hs')
  (hc : callOf ⟨d, .call c, ty, pos, af, none⟩ = some (f, c.args.toList)) (ha : argsS (evU l) c.args.toList = some ws) (hv : renVs (sigL H bs) vs = some ws) (hg : getHs H bs = some Gs) (hr1 : renHs (sigL H bs) Hs = some Gs) (hr2 : renHs (sigL H bs) Hs' = some Gs') (hr3 : renV (sigL H bs) r = some r')
  (hn : nodupB bs = true) (h4 : okVs Hs.length vs = true) (h5 : okBl Hs.length Hs = true) (h6 : okBl Hs'.length Hs' = true) (hP : putK H bs Gs' (fun H' => some ⟨[], [], H', .plain (fun _ => True), True⟩) = some ⟨[], [], H', .plain (fun _ => True), True⟩)
  (hl : (match d with | some d => some ((d, SE.v r') :: l) | none => some l) = some l') (hb : Hs'.length = bs.length)
  (h : WR P ops rest (SS l' H') (R.push ⟨bs, [], bs, none, false, false⟩)) : WR P ops (⟨d, .call c, ty, pos, af, none⟩ :: rest) (SS l H) R :=
 X_call bs hO hc ha hv hg hr1 hr2 hr3 hn h4 h5 h6 hP hl (by rw [if_pos hb]; exact h)
theorem X_dem {P : Program} {ops : Array Oper} {o : Oper} {rest : List Oper} {l : SL} {H : SH} {K : St → Prop} (t : Nat) {z : Nat} {cs : List FVal} {n : Nat} (ht : lk l t = some (.v (.c (.c (.tip z cs n))))) (h : WR P ops [o] (SS ((t, .v (.c (.c (.f (.row cs n))))) :: l) H) (.seq [] fun _ s' => WR P ops rest s' (.plain K))) : WR P ops (o :: rest) (SS l H) (.plain K) := by
 have h : WOp P ops o (SS ((t, .v (.c (.c (.f (.row cs n))))) :: l) H) fun _ s' => WR P ops rest s' (.plain K) := h.out
 have hv : (SS l H).sl t = .c (.tip z cs n) := lk_ev ht
 have e : SS ((t, .v (.c (.c (.f (.row cs n))))) :: l) H = ⟨upd (SS l H).sl t (.c (.f (.row cs n))), (SS l H).H⟩ := rfl
 rw [e] at h
 have hev : ∀ y b, (SS l H).ev y = .c (.f (.v (.bool b))) → (⟨upd (SS l H).sl t (.c (.f (.row cs n))), (SS l H).H⟩ : St).ev y = .c (.f (.v (.bool b))) := fun y b hy => by
  cases y with
  | tmp d =>
   by_cases e : d = t
   ·subst e
    have hy : (SS l H).sl d = _ := hy
    rw [hv] at hy
    cases hy
   ·show upd _ _ _ _ = _
    rw [upd_other _ _ e]
    exact hy
  | _ => exact hy
 have hun : ∀ d, (SS l H).ev (.tmp d) = .c .und → (⟨upd (SS l H).sl t (.c (.f (.row cs n))), (SS l H).H⟩ : St).ev (.tmp d) = .c .und := fun d hy => by
  by_cases e : d = t
  ·subst e
   have hy : (SS l H).sl d = _ := hy
   rw [hv] at hy
   cases hy
  ·show upd _ _ _ _ = _
   rw [upd_other _ _ e]
   exact hy
 refine ⟨.inr (.inr (.inr ⟨⟨upd (SS l H).sl t (.c (.f (.row cs n))), (SS l H).H⟩, ⟨⟨Nat.le_refl _, fun a w κ ρ hR => ⟨κ, ⟨hR.defers, fun i hi' => ?_, fun i hi => ?_, fun i => ?_, hR.heap⟩, Fr.refl _ _⟩⟩, fun o' hw => ?_⟩, WOp_mono (fun c s k => k.out) h⟩))⟩
 ·show RepA _ _ _ _ (upd _ t _ i) _
  by_cases e : i = t
  ·subst e
   rw [upd_same]
   have h1 := hR.slot i hi'
   rw [hv] at h1
   exact RepC.dem (l := .slot i) (l' := .slot i) (ρ := ρ) (x := .tip z cs n) h1
  ·rw [upd_other _ _ e]
   exact hR.slot i hi'
 ·show upd _ t _ i = _
  by_cases e : i = t
  ·subst e
   have := hR.out i hi
   rw [hv] at this
   cases this
  ·rw [upd_other _ _ e]
   exact hR.out i hi
 ·show AVal.ok _ (upd _ t _ i) = true
  by_cases e : i = t
  ·subst e
   rw [upd_same]
   rfl
  ·rw [upd_other _ _ e]
   exact hR.ok i
 ·unfold wantA at hw ⊢
  split at hw <;> try exact hw
  split at hw <;> try exact hw
  split at hw <;> try exact hw
  split at hw
  ·rename_i he
   rw [hev _ _ he]
   exact hw
  ·rename_i he
   rw [hun _ he]
   exact hw
  ·cases hw
theorem weak_frz {n0 : Nat} {s : St} {b t len cap : Nat} {fs : List FVal} (h0 : n0 ≤ s.H.length) (hb : s.H[b]? = some (some (fs.map CVal.f))) (ht : s.sl t = .c (.arr b 0 len cap)) (hc : len ≤ cap) : Weak n0 s { sl := upd s.sl t (.c (.f (.row fs len))), H := s.H.set b none } := by
 refine ⟨by simpa using h0, fun a w κ ρ hR => ?_⟩
 have hB := hR.heap.blk b _ hb
 have ho := hB.own
 have hlt : ρ b < w.heap.size := by
  obtain ⟨c, e, h1, _⟩ := hB.lie
  exact lt_of_heap h1
 have hG : Grow w κ w (upd κ (ρ b) (.lock none)) := ⟨Nat.le_refl _, fun _ _ _ _ _ h => h, fun g n hg hf => by
  by_cases e : g = ρ b
  ·rw [e, upd_same]; trivial
  ·rw [upd_other _ _ e]; exact hf⟩
 have hK : ∀ l, Keep w κ w (upd κ (ρ b) (.lock none)) l l := fun l => ⟨hG, fun g n hg hk => ⟨by
  rw [upd_other _ _ (fun e => by rw [e, ho] at hk; cases hk)]; exact hk, rfl⟩⟩
 have hF : Fr w κ w (upd κ (ρ b) (.lock none)) := ⟨rfl, rfl, rfl, Nat.le_refl _, fun g n hg hk => ⟨by
  rw [upd_other _ _ (fun e => by rw [e, ho] at hk; cases hk)]; exact hk, rfl⟩, hG⟩
 have hset : ∀ b' cs', (s.H.set b none)[b']? = some (some cs') → b' ≠ b ∧ s.H[b']? = some (some cs') := fun b' cs' h => by
  by_cases e : b = b'
  ·subst e
   rw [List.getElem?_set] at h
   simp at h
  ·rw [List.getElem?_set_ne e] at h
   exact ⟨fun h => e h.symm, h⟩
 refine ⟨_, ⟨hR.defers, fun i hi' => ?_, fun i hi => ?_, fun i => ?_, ⟨fun b' cs' hb' => ?_, fun b' cs' hb' x hx => ?_⟩⟩, hF⟩
 ·show RepA _ _ _ _ (upd s.sl t _ i) _
  by_cases e : i = t
  ·subst e
   rw [upd_same]
   have h1 := hR.slot i hi'
   rw [ht] at h1
   have h1 : a.tmps[i] = .slice (some ⟨ρ b, 0, none⟩) len cap := h1
   rw [h1]
   refine repF_rowI ⟨ρ b, 0, cap, rfl, hc, fun j hj => ?_, fun _ => ⟨hlt, by rw [upd_same]; trivial⟩⟩
   obtain ⟨v, k1, k2⟩ := hB.cell j (by simpa using hj)
   rw [List.getElem_map] at k2
   exact ⟨v, by rw [Nat.zero_add]; exact k1, RepF.grow hG k2⟩
  ·rw [upd_other _ _ e]
   exact RepA.keep hG (fun _ _ => rfl) (hR.ok i) (fun _ _ _ _ => hK _) (hR.slot i hi')
 ·show upd s.sl t _ i = _
  by_cases e : i = t
  ·subst e
   have := hR.out i hi
   rw [ht] at this
   cases this
  ·rw [upd_other _ _ e]
   exact hR.out i hi
 ·show AVal.ok _ (upd s.sl t _ i) = true
  by_cases e : i = t
  ·subst e
   rw [upd_same]
   rfl
  ·rw [upd_other _ _ e, List.length_set]
   exact hR.ok i
 ·obtain ⟨hne, hb2⟩ := hset b' cs' hb'
  obtain ⟨k0, c, e, k1, k2, k3⟩ := hR.heap.blk b' cs' hb2
  refine ⟨?_, c, e, k1, k2, fun i hi hi' => RepC.keep hG (fun _ _ => rfl) (hR.heap.ok b' cs' hb2 _ (List.getElem_mem hi)) (fun _ _ _ _ => hK _) (k3 i hi hi')⟩
  rw [upd_other _ _ (fun e => by rw [e, ho] at k0; injection k0 with k0; exact hne k0.symm)]
  exact k0
 ·obtain ⟨hne, hb2⟩ := hset b' cs' hb'
  rw [List.length_set]
  exact hR.heap.ok b' cs' hb2 x hx
theorem X_frz {n0 : Nat} {l : SL} {H : SH} {s2 : St} (b t : Nat) {α : Type} {z : Nat} {F : α → List FVal} {V : α → List SC} {M : List FVal → Option α} {d : α} {ls : List α} {len cap : Nat} (hH : nth H b = some (some (.els z F V M d ls))) (ht : lk l t = some (.v (.c (.c (.arr b 0 len cap))))) (hlen : len = ls.length) (hc : len ≤ cap) (h0 : Nat.ble n0 H.length = true)
  (h : Weak n0 (SS ((t, .v (.c (.row z F V d ls))) :: l) (H.set b none)) s2) : Weak n0 (SS l H) s2 := by
 refine Weak.trans (weak_frz (s := SS l H) (b := b) (t := t) (len := len) (cap := cap) (fs := ls.flatMap F) (by rw [SS_H, denH_len]; exact Nat.le_of_ble_eq_true h0) (by rw [SS_H]; exact nth_H hH) (lk_ev ht) hc) ?_
 have e : SS ((t, .v (.c (.row z F V d ls))) :: l) (H.set b none) = { sl := upd (SS l H).sl t (.c (.f (.row (ls.flatMap F) len))), H := (SS l H).H.set b none } := by
  rw [← SS_put, ← SS_setH (H := H), SS_H, hlen]
  show St.mk _ _ = St.mk _ _
  congr 1
  exact List.map_set ..
 rw [← e]
 exact h
theorem X_opn {P : Program} {ops : Array Oper} {rest : List Oper} {d : Nat} {ty : TypeId} {pos : String} {af : Array Edge} {K : St → Prop} {l : SL} {H : SH} {t tx : TypeId} {y : Operand} {α : Type} {z : Nat} {F : α → List FVal} {V : α → List SC} (M : List FVal → Option α) {e0 e : α} {ls : List α} {by_ : Nat}
  (hI : mkInfo P t = some (z, by_, (F e).map CVal.f)) (hz : elemSz P tx = some z) (hF : ∀ x, (F x).length = z) (hpos : Nat.ble 1 z = true) (hy : evU l y = some (.c (.row z F V e0 ls))) (h1 : ls.length ≠ 0) (h2 : ls.length ≤ 4611686018427387904) (h3 : ls.length * by_ ≤ 140737488355328)
  (h : ∀ cap, ls.length ≤ cap → WR P ops rest (SS ((d, .v (.c (.c (.arr H.length 0 ls.length cap)))) :: l) (H ++ [some (.els z F V M e (ls ++ List.replicate (cap - ls.length) e))])) (.plain K)) :
  WR P ops (⟨some d, .call { callee := .builtin .append, args := #[.const (.slice none 0 0), y], argTypes := #[t, tx] }, ty, pos, af, none⟩ :: rest) (SS l H) (.plain K) := by
 have hpos := Nat.le_of_ble_eq_true hpos
 refine ⟨.inr (.inr (.inl ⟨wantA_none rfl, t, tx, _, y, z, by_, _, ls.length, ls.flatMap F, rfl, hI, ?_, h2, h3, h1, rfl, fun cap hc => ?_⟩))⟩
 ·unfold srcCells
  rw [evU_den hy]
  show (match (AVal.c (CVal.f (FVal.row (ls.flatMap F) ls.length))).dem with | _ => _) = _
  simp only [hz]
  rw [if_pos ⟨trivial, flatMap_lenB F z hF ls⟩]
 ·have hk := (h cap hc).out
  have e2 : SS ((d, .v (.c (.c (.arr H.length 0 ls.length cap)))) :: l) (H ++ [some (.els z F V M e (ls ++ List.replicate (cap - ls.length) e))]) = ({ (SS l H) with H := (SS l H).H ++ [some ((ls.flatMap F).map CVal.f ++ repCells ((F e).map CVal.f) (cap - ls.length))] } : St).put (some d) (.c (.arr (SS l H).H.length 0 ls.length cap)) := by
   rw [← SS_put, ← SS_setH (H := H), SS_H, denH_len]
   show St.mk _ _ = St.mk _ _
   congr 1
   show denH _ = _
   rw [rep_els hF (by omega)]
   simp [denH, denB, SB.den]
  rw [e2] at hk
  exact hk
structure Rid where
 rt : Int
 ex : Int
 mn : Int
 mx : Int
structure Lin where
 nm : ByteArray
 stk : Int
 w : Int
 rides : List Rid
def fRid (x : Rid) : List FVal := [fI x.rt, fI x.ex, fI x.mn, fI x.mx]
def vRid (x : Rid) : List SC := [xI x.rt, xI x.ex, xI x.mn, xI x.mx]
abbrev rRid (l : List Rid) : SC := .row 4 fRid vRid ⟨0, 0, 0, 0⟩ l
abbrev tRid (l : List Rid) : SC := .tipr 4 fRid vRid (fun _ => none) ⟨0, 0, 0, 0⟩ l
def fLin (x : Lin) : List FVal := [fS x.nm, fI x.stk, fI x.w, .row (x.rides.flatMap fRid) x.rides.length]
def vLin (x : Lin) : List SC := [xS x.nm, xI x.stk, xI x.w, rRid x.rides]
abbrev rLin (l : List Lin) : SC := .row 4 fLin vLin ⟨⟨#[]⟩, 0, 0, []⟩ l
abbrev tLin (l : List Lin) : SC := .tipr 4 fLin vLin (fun _ => none) ⟨⟨#[]⟩, 0, 0, []⟩ l
def fRt (r : Rte) : List FVal := [.row (r.st.flatMap fStp) r.st.length, fI r.ov]
def vRt (r : Rte) : List SC := [rStp r.st, xI r.ov]
abbrev rRt (l : List Rte) : SC := .row 2 fRt vRt ⟨[], 0⟩ l
abbrev tRt (l : List Rte) : SC := .tipr 2 fRt vRt (fun _ => none) ⟨[], 0⟩ l
def rtS (b : Bld) (i a c : Nat) (up : Bool) : List Stp :=
 if up = true then (⟨(b.tracks.getD i []).getD (a % (b.tracks.getD i []).length) 0, 0⟩ :: (b.between.getD i []).map (fun s => (⟨s, 0⟩ : Stp))) ++ [⟨(b.tracks.getD (i + 1) []).getD (c % (b.tracks.getD (i + 1) []).length) 0, 0⟩]
 else (⟨(b.tracks.getD (i + 1) []).getD (c % (b.tracks.getD (i + 1) []).length) 0, 1⟩ :: (b.between.getD i []).reverse.map (fun s => (⟨s, 1⟩ : Stp))) ++ [⟨(b.tracks.getD i []).getD (a % (b.tracks.getD i []).length) 0, 1⟩]
theorem take_rev {t : List Int} {j : Nat} (h : j < t.length) : t.reverse.take (j + 1) = t.reverse.take j ++ [t.getD ((t.length : Int) - 1 - j).toNat 0] := by
 rw [List.take_succ_eq_append_getElem (by simpa using h), List.getElem_reverse, List.getD_eq_getElem?_getD, List.getElem?_eq_getElem (by omega)]
 simp only [Option.getD_some]
 congr 3
 omega
theorem take_fwd {t : List Int} {j : Nat} (h : j < t.length) : t.take (j + 1) = t.take j ++ [t.getD (j : Int).toNat 0] := by
 rw [List.take_succ_eq_append_getElem h, Int.toNat_natCast, List.getD_eq_getElem?_getD, List.getElem?_eq_getElem h]
 rfl
theorem bRoute_ok (b : Bld) (i a c : Nat) (up : Bool) (hb : i < b.between.length) (ht : i + 1 < b.tracks.length) (h1 : 0 < (b.tracks.getD i []).length ∧ (b.tracks.getD i []).length ≤ 100) (h2 : 0 < (b.tracks.getD (i + 1) []).length ∧ (b.tracks.getD (i + 1) []).length ≤ 100) (h3 : (b.between.getD i []).length ≤ 100) (hi : i ≤ 1000) (hb2 : b.between.length ≤ 1000) (ht2 : b.tracks.length ≤ 1000) (ha : a ≤ 1000) (hc : c ≤ 1000) : OkV Tryz.prog 71 [.c (pB 0), .c (xI i), .c (xI a), .c (xI c), .c (xB up)] [some b.box] (.agg [rStp (rtS b i a c up), xI 0]) [some b.box] := by
 have e1 : (i : Int).toNat = i := Int.toNat_natCast i
 have e2 : ((i : Int) + 1).toNat = i + 1 := by omega
 rw [← e2] at h2
 have h1 : 0 < (b.tracks.getD (i : Int).toNat []).length ∧ (b.tracks.getD (i : Int).toNat []).length ≤ 100 := h1
 have h3 : (b.between.getD (i : Int).toNat []).length ≤ 100 := h3
 have m1 := Int.emod_lt_of_pos (a : Int) (show (0 : Int) < (b.tracks.getD (i : Int).toNat []).length by omega)
 have m2 := Int.emod_lt_of_pos (c : Int) (show (0 : Int) < (b.tracks.getD ((i : Int) + 1).toNat []).length by omega)
 have m3 := Int.emod_nonneg (a : Int) (show ((b.tracks.getD (i : Int).toNat []).length : Int) ≠ 0 by omega)
 have m4 := Int.emod_nonneg (c : Int) (show ((b.tracks.getD ((i : Int) + 1).toNat []).length : Int) ≠ 0 by omega)
 have m5 : ((a : Int) % (b.tracks.getD (i : Int).toNat []).length).toNat = a % (b.tracks.getD (i : Int).toNat []).length := by omega
 have m6 : ((c : Int) % (b.tracks.getD ((i : Int) + 1).toNat []).length).toNat = c % (b.tracks.getD ((i : Int) + 1).toNat []).length := by omega
 unfold Bld.box
 cases up
 ·have hr : rtS b i a c false = (⟨(b.tracks.getD ((i : Int) + 1).toNat []).getD ((c : Int) % (b.tracks.getD ((i : Int) + 1).toNat []).length).toNat 0, 1⟩ :: (b.between.getD (i : Int).toNat []).reverse.map (fun s => (⟨s, 1⟩ : Stp))) ++ [⟨(b.tracks.getD (i : Int).toNat []).getD ((a : Int) % (b.tracks.getD (i : Int).toNat []).length).toNat 0, 1⟩] := by
   unfold rtS
   rw [if_neg (by decide), m5, m6, e1, e2]
  rw [hr]
  refine X_fnD mixedX Tryz.func71 rfl (by kernel_rfl) (Nat.le_of_ble_eq_true (by kernel_rfl)) (by kernel_rfl) rfl rfl (Nat.le_of_ble_eq_true rfl) rfl rfl ?_
  simp only [sl0, Nat.zero_add, Nat.reduceAdd]
  repeat' (first|with_reducible (first|refine q_and ?_ ?_|exact True.intro|refine Red.o (by constructor) ?_|assumption)|with_reducible (first|refine W_seq ?_|refine W_block ?_)|((with_reducible apply q_cond);refine X_cond rfl ?_ ?_;all_goals (intro hbq;(try simp only [bq] at hbq);(try (exfalso;omega))))|refine Rex.o (by (with_reducible constructor);apply Eq.refl) ?_|((with_reducible apply q_VOk);exact fun _ => ⟨rfl,rfl⟩)|((with_reducible apply q_CRB);kernel_rfl)|((with_reducible apply q_eqN);rfl)|omega)
  refine W_loopS (fun j : Nat => SS [sI 1 i, sI 2 a, sC 10 (pB 1), sC 11 (rInt (b.between.getD (i : Int).toNat [])), sC 12 (rTrk b.tracks), sC 13 (pB 2), sI 15 ((b.between.getD (i : Int).toNat []).length - 1 - j)] [some (.cells [tStr b.L.sts, tStr b.L.pts, tSec b.L.secs, tLnk b.L.lnks, tTrk b.tracks, tTrk b.between, .c (.f .nils)]), some (.cells [.c (.f .nils), xI 0]), some (.cells [uStp (⟨(b.tracks.getD ((i : Int) + 1).toNat []).getD ((c : Int) % (b.tracks.getD ((i : Int) + 1).toNat []).length).toNat 0, 1⟩ :: ((b.between.getD (i : Int).toNat []).reverse.take j).map (fun s => (⟨s, 1⟩ : Stp))), xI 0])]) (fun j => j ≤ (b.between.getD (i : Int).toNat []).length) (fun j => (b.between.getD (i : Int).toNat []).length - j) 0 ?_ (by omega) ?_
  ·
   refine X_weak rfl rfl rfl ?_ ?_ <;> repeat' (first|with_reducible (first|refine Wk.o (by constructor) ?_|refine q_and ?_ ?_|exact True.intro)|refine q_AgS rfl ?_ ?_|exact (rfl : known _ = _)|omega)
   all_goals rfl
  intro j hj
  have hsl : (⟨(b.tracks.getD ((i : Int) + 1).toNat []).getD ((c : Int) % (b.tracks.getD ((i : Int) + 1).toNat []).length).toNat 0, 1⟩ :: ((b.between.getD (i : Int).toNat []).reverse.take j).map (fun s => (⟨s, 1⟩ : Stp))).length ≤ 101 := by simp only [List.length_cons, List.length_map, List.length_take]; omega
  by_cases hjl : j < (b.between.getD (i : Int).toNat []).length
  ·have ht := take_rev hjl
   repeat' (first|with_reducible (first|refine q_and ?_ ?_|exact True.intro|refine Red.o (by constructor) ?_|assumption)|with_reducible (first|refine W_seq ?_|refine W_block ?_)|((with_reducible apply q_cond);refine X_cond rfl ?_ ?_;all_goals (intro hbq;(try simp only [bq] at hbq);(try (exfalso;omega))))|refine Rex.o (by (with_reducible constructor);apply Eq.refl) ?_|((with_reducible apply q_VOk);exact fun _ => ⟨rfl,rfl⟩)|((with_reducible apply q_CRB);kernel_rfl)|((with_reducible apply q_eqN);rfl)|((with_reducible apply q_FE);exact rfl)|omega)
   all_goals first
    | omega
    | (
     refine LoopK_n (j + 1) ?_ ((by omega)) (by (try dsimp only); omega)
     refine X_weak rfl rfl rfl ?_ ?_ <;> repeat' (first|with_reducible (first|refine Wk.o (by constructor) ?_|refine q_and ?_ ?_|exact True.intro)|refine q_AgS rfl ?_ ?_|exact (rfl : known _ = _)|omega)
     all_goals first
      | omega
      | (rw [ht, List.map_append]; simp; done))
  ·have hje : ((b.between.getD (i : Int).toNat []).reverse.take j) = (b.between.getD (i : Int).toNat []).reverse := List.take_of_length_le (by rw [List.length_reverse]; omega)
   rw [hje] at hsl ⊢
   repeat' (first|with_reducible (first|refine q_and ?_ ?_|exact True.intro|refine Red.o (by constructor) ?_|assumption)|with_reducible (refine W_seq ?_)|((with_reducible apply q_cond);refine X_cond rfl ?_ ?_;all_goals (intro hbq;(try simp only [bq] at hbq);(try (exfalso;omega))))|refine Rex.o (by (with_reducible constructor);apply Eq.refl) ?_|((with_reducible apply q_VOk);exact fun _ => ⟨rfl,rfl⟩)|((with_reducible apply q_CRB);kernel_rfl)|((with_reducible apply q_eqN);rfl)|((with_reducible apply q_FE);exact rfl)|omega)
   all_goals first
    | omega
    | (
     refine X_retD rfl rfl ?_
     repeat' (first|with_reducible (first|refine Wk.o (by constructor) ?_|refine q_and ?_ ?_|exact True.intro)|fail)
     done)
 ·have hr : rtS b i a c true = (⟨(b.tracks.getD (i : Int).toNat []).getD ((a : Int) % (b.tracks.getD (i : Int).toNat []).length).toNat 0, 0⟩ :: (b.between.getD (i : Int).toNat []).map (fun s => (⟨s, 0⟩ : Stp))) ++ [⟨(b.tracks.getD ((i : Int) + 1).toNat []).getD ((c : Int) % (b.tracks.getD ((i : Int) + 1).toNat []).length).toNat 0, 0⟩] := by
   unfold rtS
   rw [if_pos rfl, m5, m6, e1, e2]
  rw [hr]
  refine X_fnD mixedX Tryz.func71 rfl (by kernel_rfl) (Nat.le_of_ble_eq_true (by kernel_rfl)) (by kernel_rfl) rfl rfl (Nat.le_of_ble_eq_true rfl) rfl rfl ?_
  simp only [sl0, Nat.zero_add, Nat.reduceAdd]
  repeat' (first|with_reducible (first|refine q_and ?_ ?_|exact True.intro|refine Red.o (by constructor) ?_|assumption)|with_reducible (first|refine W_seq ?_|refine W_block ?_)|((with_reducible apply q_cond);refine X_cond rfl ?_ ?_;all_goals (intro hbq;(try simp only [bq] at hbq);(try (exfalso;omega))))|refine Rex.o (by (with_reducible constructor);apply Eq.refl) ?_|((with_reducible apply q_VOk);exact fun _ => ⟨rfl,rfl⟩)|((with_reducible apply q_CRB);kernel_rfl)|((with_reducible apply q_eqN);rfl)|omega)
  refine W_loopS (fun j : Nat => SS [sI 1 i, sI 3 c, sC 10 (pB 1), sC 11 (rInt (b.between.getD (i : Int).toNat [])), sC 12 (rTrk b.tracks), sC 13 (pB 2), sI 48 (b.between.getD (i : Int).toNat []).length, sI 49 j] [some (.cells [tStr b.L.sts, tStr b.L.pts, tSec b.L.secs, tLnk b.L.lnks, tTrk b.tracks, tTrk b.between, .c (.f .nils)]), some (.cells [.c (.f .nils), xI 0]), some (.cells [uStp (⟨(b.tracks.getD (i : Int).toNat []).getD ((a : Int) % (b.tracks.getD (i : Int).toNat []).length).toNat 0, 0⟩ :: ((b.between.getD (i : Int).toNat []).take j).map (fun s => (⟨s, 0⟩ : Stp))), xI 0])]) (fun j => j ≤ (b.between.getD (i : Int).toNat []).length) (fun j => (b.between.getD (i : Int).toNat []).length - j) 0 ?_ (by omega) ?_
  ·
   refine X_weak rfl rfl rfl ?_ ?_ <;> repeat' (first|with_reducible (first|refine Wk.o (by constructor) ?_|refine q_and ?_ ?_|exact True.intro)|refine q_AgS rfl ?_ ?_|exact (rfl : known _ = _)|omega)
   all_goals rfl
  intro j hj
  have hsl : (⟨(b.tracks.getD (i : Int).toNat []).getD ((a : Int) % (b.tracks.getD (i : Int).toNat []).length).toNat 0, 0⟩ :: ((b.between.getD (i : Int).toNat []).take j).map (fun s => (⟨s, 0⟩ : Stp))).length ≤ 101 := by simp only [List.length_cons, List.length_map, List.length_take]; omega
  by_cases hjl : j < (b.between.getD (i : Int).toNat []).length
  ·have ht := take_fwd hjl
   repeat' (first|with_reducible (first|refine q_and ?_ ?_|exact True.intro|refine Red.o (by constructor) ?_|assumption)|with_reducible (first|refine W_seq ?_|refine W_block ?_)|((with_reducible apply q_cond);refine X_cond rfl ?_ ?_;all_goals (intro hbq;(try simp only [bq] at hbq);(try (exfalso;omega))))|refine Rex.o (by (with_reducible constructor);apply Eq.refl) ?_|((with_reducible apply q_VOk);exact fun _ => ⟨rfl,rfl⟩)|((with_reducible apply q_CRB);kernel_rfl)|((with_reducible apply q_eqN);rfl)|((with_reducible apply q_FE);exact rfl)|omega)
   all_goals first
    | omega
    | (
     refine LoopK_n (j + 1) ?_ ((by omega)) (by (try dsimp only); omega)
     refine X_weak rfl rfl rfl ?_ ?_ <;> repeat' (first|with_reducible (first|refine Wk.o (by constructor) ?_|refine q_and ?_ ?_|exact True.intro)|refine q_AgS rfl ?_ ?_|exact (rfl : known _ = _)|omega)
     all_goals first
      | omega
      | (rw [ht, List.map_append]; simp; done))
  ·have hje : ((b.between.getD (i : Int).toNat []).take j) = (b.between.getD (i : Int).toNat []) := List.take_of_length_le (by omega)
   rw [hje] at hsl ⊢
   repeat' (first|with_reducible (first|refine q_and ?_ ?_|exact True.intro|refine Red.o (by constructor) ?_|assumption)|with_reducible (refine W_seq ?_)|((with_reducible apply q_cond);refine X_cond rfl ?_ ?_;all_goals (intro hbq;(try simp only [bq] at hbq);(try (exfalso;omega))))|refine Rex.o (by (with_reducible constructor);apply Eq.refl) ?_|((with_reducible apply q_VOk);exact fun _ => ⟨rfl,rfl⟩)|((with_reducible apply q_CRB);kernel_rfl)|((with_reducible apply q_eqN);rfl)|((with_reducible apply q_FE);exact rfl)|omega)
   all_goals first
    | omega
    | (
     refine X_retD rfl rfl ?_
     repeat' (first|with_reducible (first|refine Wk.o (by constructor) ?_|refine q_and ?_ ?_|exact True.intro)|fail)
     done)
structure Chn where
 a : Int
 b : Int
 c : Int
 d : Int
 e : Int
 f : Int
 g : Int
structure Trn where
 a : Int
 b : Int
 c : Int
 d : Int
structure Syn where
 a : Int
 b : Int
 c : Int
 d : Int
 e : Int
structure Dem where
 a : Int
 b : Int
 c : Int
def fChn (x : Chn) : List FVal := [fI x.a, fI x.b, fI x.c, fI x.d, fI x.e, fI x.f, fI x.g]
def vChn (x : Chn) : List SC := [xI x.a, xI x.b, xI x.c, xI x.d, xI x.e, xI x.f, xI x.g]
def fTrn (x : Trn) : List FVal := [fI x.a, fI x.b, fI x.c, fI x.d]
def vTrn (x : Trn) : List SC := [xI x.a, xI x.b, xI x.c, xI x.d]
def fSyn (x : Syn) : List FVal := [fI x.a, fI x.b, fI x.c, fI x.d, fI x.e]
def vSyn (x : Syn) : List SC := [xI x.a, xI x.b, xI x.c, xI x.d, xI x.e]
def fDem (x : Dem) : List FVal := [fI x.a, fI x.b, fI x.c]
def vDem (x : Dem) : List SC := [xI x.a, xI x.b, xI x.c]
def fSk (s : Stk) : List FVal := [fS s.nm, fI s.len, fI s.sp, fI s.ac, fI s.br]
def vSk (s : Stk) : List SC := [xS s.nm, xI s.len, xI s.sp, xI s.ac, xI s.br]
abbrev rChn (l : List Chn) : SC := .row 7 fChn vChn ⟨0, 0, 0, 0, 0, 0, 0⟩ l
abbrev tChn (l : List Chn) : SC := .tipr 7 fChn vChn (fun _ => none) ⟨0, 0, 0, 0, 0, 0, 0⟩ l
abbrev rTrn (l : List Trn) : SC := .row 4 fTrn vTrn ⟨0, 0, 0, 0⟩ l
abbrev tTrn (l : List Trn) : SC := .tipr 4 fTrn vTrn (fun _ => none) ⟨0, 0, 0, 0⟩ l
abbrev rSyn (l : List Syn) : SC := .row 5 fSyn vSyn ⟨0, 0, 0, 0, 0⟩ l
abbrev tSyn (l : List Syn) : SC := .tipr 5 fSyn vSyn (fun _ => none) ⟨0, 0, 0, 0, 0⟩ l
abbrev rDem (l : List Dem) : SC := .row 3 fDem vDem ⟨0, 0, 0⟩ l
abbrev tDem (l : List Dem) : SC := .tipr 3 fDem vDem (fun _ => none) ⟨0, 0, 0⟩ l
abbrev rSk (l : List Stk) : SC := .row 5 fSk vSk ⟨⟨#[]⟩, 0, 0, 0, 0⟩ l
structure Pln where
 per : Int
 stk : List Stk
 rts : List Rte
 lns : List Lin
 chg : List Chn
 trn : List Trn
 syn : List Syn
 dem : List Dem
def Pln.box (p : Pln) : SB := .cells [xI p.per, rSk p.stk, tRt p.rts, tLin p.lns, tChn p.chg, tTrn p.trn, tSyn p.syn, tDem p.dem]
def Pln.val (p : Pln) : List SC := [xI p.per, rSk p.stk, rRt p.rts, rLin p.lns, rChn p.chg, rTrn p.trn, rSyn p.syn, rDem p.dem]
def Src.afn (s : Src) : Nat → Src
 | 0 => s
 | n + 1 => (s.afn n).af
theorem Src.afn_ok {s : Src} (h : s.ok) : ∀ n, (s.afn n).ok
 | 0 => h
 | n + 1 => Src.af_ok (Src.afn_ok h n)
structure LnQ where
 rts : List Rte
 rd : List Rid
 s : Src
def lnI (up : Bool) (m k : Nat) : Nat := if up = true then k else m - 1 - k
def lnStep (b : Bld) (up : Bool) (m : Nat) (at_ : Nat → Nat) (k : Nat) (g : LnQ) : LnQ :=
  ⟨g.rts ++ [⟨rtS b (lnI up m k) (at_ (lnI up m k)) (at_ (lnI up m k + 1)) up, 0⟩],
   g.rd ++ [if k + 1 < m then ⟨g.rts.length, g.s.nx 3, 5 + g.s.af.nx 6, 5 + g.s.af.nx 6 + g.s.af.af.nx 4⟩ else ⟨g.rts.length, g.s.nx 3, 0, 0⟩],
   if k + 1 < m then g.s.af.af.af else g.s.af⟩
def lnRun (b : Bld) (up : Bool) (m : Nat) (at_ : Nat → Nat) (g : LnQ) : Nat → LnQ
 | 0 => g
 | k + 1 => lnStep b up m at_ k (lnRun b up m at_ g k)
def lnAt (s : Src) (j : Nat) : Nat := (s.afn j).nx 2
def lineG (b : Bld) (p : Pln) (s : Src) (up : Bool) (m : Nat) : LnQ := lnRun b up m (lnAt s.af) ⟨p.rts, [], s.af.afn 3⟩ m
def lineP (b : Bld) (p : Pln) (s : Src) (up : Bool) (m : Nat) : Pln := { p with rts := (lineG b p s up m).rts, lns := p.lns ++ [⟨nameN ⟨#[78]⟩ p.lns.length, 0, s.nx 4, (lineG b p s up m).rd⟩] }
theorem lnRun_ok (b : Bld) (up : Bool) (m : Nat) (at_ : Nat → Nat) (g : LnQ) (hs : g.s.ok) : ∀ k, (lnRun b up m at_ g k).s.ok ∧ (lnRun b up m at_ g k).rts.length = g.rts.length + k ∧ (lnRun b up m at_ g k).rd.length = g.rd.length + k
 | 0 => ⟨hs, rfl, rfl⟩
 | k + 1 => by
  obtain ⟨h1, h2, h3⟩ := lnRun_ok b up m at_ g hs k
  refine ⟨?_, ?_, ?_⟩
  ·simp only [lnRun, lnStep]
   split
   ·exact Src.af_ok (Src.af_ok (Src.af_ok h1))
   ·exact Src.af_ok h1
  ·simp only [lnRun, lnStep, List.length_append, List.length_singleton, h2]; omega
  ·simp only [lnRun, lnStep, List.length_append, List.length_singleton, h3]; omega
structure Bld.rail (b : Bld) : Prop where
 n1 : 1 ≤ b.between.length
 n2 : b.between.length ≤ 2
 n3 : b.tracks.length = b.between.length + 1
 t : ∀ i, i < b.tracks.length → 0 < (b.tracks.getD i []).length ∧ (b.tracks.getD i []).length ≤ 2
 w : ∀ i, i < b.between.length → 0 < (b.between.getD i []).length ∧ (b.between.getD i []).length ≤ 2
theorem line_ok (b : Bld) (hb : b.rail) (p : Pln) (s : Src) (hs : s.ok) (up : Bool) (m : Nat) (hm : 1 ≤ m ∧ m ≤ b.between.length) (hr : p.rts.length ≤ 1000) (hl : p.lns.length ≤ 1000) : OkV Tryz.prog 46 [.c (pB 0), .c (pB 1), .c (pB 2), .c (xB up), .c (xI m)] [some b.box, some s.box, some p.box] (.tup []) [some b.box, some (lineG b p s up m).s.box, some (lineP b p s up m).box] := by
 obtain ⟨b1, b2, b3, b4, b5⟩ := hb
 have hN := named_ok ⟨#[78]⟩ p.lns.length (by decide) (by omega)
 have hW := next_ok s 4 hs (by omega) (by omega)
 have hs1 := Src.af_ok hs
 have hg : lineG b p s up m = lnRun b up m (lnAt s.af) ⟨p.rts, [], s.af.afn 3⟩ m := rfl
 unfold lineP
 generalize lineG b p s up m = G at *
 have hk4 := s.nx_lt (n := 4) (by omega)
 have hnz := nameN_size ⟨#[78]⟩ p.lns.length
 unfold Bld.box Pln.box
 refine X_fn mixedX Tryz.func46 rfl (by kernel_rfl) (Nat.le_of_ble_eq_true (by kernel_rfl)) (by kernel_rfl) rfl rfl (Nat.le_of_ble_eq_true rfl) rfl rfl ?_
 simp only [sl0, Nat.zero_add, Nat.reduceAdd]
 repeat' (first|with_reducible (first|refine q_and ?_ ?_|exact True.intro|refine Red.o (by constructor) ?_|fail)|((with_reducible apply q_call);first|refine X_pure (hN) rfl ?_|refine X_call [1] (hW) rfl rfl rfl rfl rfl rfl rfl rfl rfl rfl rfl rfl rfl ?_)|with_reducible (first|refine W_seq ?_|refine W_block ?_)|refine Rex.o (by (with_reducible constructor);apply Eq.refl) ?_|fail)
 clear hN hW
 generalize nameN ⟨#[78]⟩ p.lns.length = nm at *
 refine W_loopS (fun j : Nat => SS [sC 0 (pB 0), sC 1 (pB 1), sC 2 (pB 2), sB 3 up, sI 4 m, sC 10 (pB 3), sC 11 (pB 4), sI 25 j] [some (.cells [tStr b.L.sts, tStr b.L.pts, tSec b.L.secs, tLnk b.L.lnks, tTrk b.tracks, tTrk b.between, .c (.f .nils)]), some (s.af.afn j).box, some (.cells [xI p.per, rSk p.stk, tRt p.rts, tLin p.lns, tChn p.chg, tTrn p.trn, tSyn p.syn, tDem p.dem]), some (.cells [xS nm, xI 0, xI (s.nx 4), .c (.f .nils)]), bInt (row 3 fun i => if i < j then ((lnAt s.af i : Nat) : Int) else 0)]) (fun j => j ≤ 3) (fun j => 3 - j) 0 ?_ (by omega) ?_
 ·
  refine X_weak rfl rfl rfl ?_ ?_ <;> repeat' (first|with_reducible (first|refine Wk.o (by constructor) ?_|refine q_and ?_ ?_|exact True.intro)|refine q_AgS rfl ?_ ?_|refine HLe.cells ?_ ?_|exact (rfl : known _ = _)|omega)
  all_goals rfl
 intro j hj
 have hrl := row_len 3 fun i => if i < j then ((lnAt s.af i : Nat) : Int) else 0
 by_cases hjl : j < 3
 ·have hnx := next_ok (s.af.afn j) 2 (Src.afn_ok hs1 j) (by omega) (by omega)
  repeat' (first|with_reducible (first|refine q_and ?_ ?_|exact True.intro|refine Red.o (by constructor) ?_|fail)|((with_reducible apply q_call);refine X_call [1] (hnx) rfl rfl rfl rfl rfl rfl rfl rfl rfl rfl rfl rfl rfl ?_)|with_reducible (first|refine W_seq ?_|refine W_block ?_)|((with_reducible apply q_cond);refine X_cond rfl ?_ ?_;all_goals (intro hbq;(try simp only [bq] at hbq);(try (exfalso;omega))))|refine Rex.o (by (with_reducible constructor);apply Eq.refl) ?_|((with_reducible apply q_VOk);exact fun _ => ⟨rfl,rfl⟩)|omega)
  all_goals first
   | omega
   | rfl
   | (
    refine LoopK_n (j + 1) ?_ ((by omega)) (by (try dsimp only); omega)
    refine X_weak rfl rfl rfl ?_ ?_ <;> repeat' (first|with_reducible (first|refine Wk.o (by constructor) ?_|refine q_and ?_ ?_|exact True.intro)|refine q_AgS rfl ?_ ?_|refine HLe.cells ?_ ?_|exact (rfl : known _ = _)|omega)
    all_goals first
     | rfl
     | (
      rw [Int.toNat_natCast]
      refine row_set (i := j) ?_ fun i hi hne => ?_
      ·rw [if_pos (by omega)]; rfl
      ·by_cases h1 : i < j
       ·rw [if_pos h1, if_pos (by omega)]
       ·rw [if_neg h1, if_neg (by omega)])
    done)
 have hj3 : j = 3 := by omega
 subst hj3
 have hrw : (row 3 fun i => if i < 3 then ((lnAt s.af i : Nat) : Int) else 0) = row 3 fun i => ((lnAt s.af i : Nat) : Int) := row_ext fun i hi => if_pos hi
 rw [hrw]
 clear hrw hrl
 have hrl := row_len 3 fun i => ((lnAt s.af i : Nat) : Int)
 repeat' (first|with_reducible (first|refine q_and ?_ ?_|exact True.intro|refine Red.o (by constructor) ?_|fail)|with_reducible (first|refine W_seq ?_|refine W_block ?_)|((with_reducible apply q_cond);refine X_cond rfl ?_ ?_;all_goals (intro hbq;(try simp only [bq] at hbq);(try (exfalso;omega))))|refine Rex.o (by (with_reducible constructor);apply Eq.refl) ?_|fail)
 refine W_loopS (fun k : Nat => SS [sC 0 (pB 0), sC 1 (pB 1), sC 2 (pB 2), sB 3 up, sI 4 m, sC 10 (pB 3), sC 11 (pB 4), sI 13 k] [some (.cells [tStr b.L.sts, tStr b.L.pts, tSec b.L.secs, tLnk b.L.lnks, tTrk b.tracks, tTrk b.between, .c (.f .nils)]), some (lnRun b up m (lnAt s.af) ⟨p.rts, [], s.af.afn 3⟩ k).s.box, some (.cells [xI p.per, rSk p.stk, tRt (lnRun b up m (lnAt s.af) ⟨p.rts, [], s.af.afn 3⟩ k).rts, tLin p.lns, tChn p.chg, tTrn p.trn, tSyn p.syn, tDem p.dem]), some (.cells [xS nm, xI 0, xI (s.nx 4), tRid (lnRun b up m (lnAt s.af) ⟨p.rts, [], s.af.afn 3⟩ k).rd]), bInt (row 3 fun i => ((lnAt s.af i : Nat) : Int))]) (fun k => k ≤ m) (fun k => m - k) 0 ?_ (by omega) ?_
 ·
  refine X_weak rfl rfl rfl ?_ ?_ <;> repeat' (first|with_reducible (first|refine Wk.o (by constructor) ?_|refine q_and ?_ ?_|exact True.intro)|refine q_AgS rfl ?_ ?_|exact CLe.nil_tipS|refine HLe.cells ?_ ?_|exact (rfl : known _ = _)|with_reducible rfl|omega)
  all_goals rfl
 intro k hk
 obtain ⟨u1, u2, u3⟩ := lnRun_ok b up m (lnAt s.af) ⟨p.rts, [], s.af.afn 3⟩ (Src.afn_ok hs1 3) k
 have hst : lnRun b up m (lnAt s.af) ⟨p.rts, [], s.af.afn 3⟩ (k + 1) = lnStep b up m (lnAt s.af) k (lnRun b up m (lnAt s.af) ⟨p.rts, [], s.af.afn 3⟩ k) := rfl
 simp only [List.length_nil] at u2 u3
 by_cases hkm : k < m
 ·have hI : lnI up m k ≤ 1 ∧ lnI up m k + 1 ≤ b.between.length := by unfold lnI; split <;> omega
  have ht1 := b4 (lnI up m k) (by omega)
  have ht2 := b4 (lnI up m k + 1) (by omega)
  have hw1 := b5 (lnI up m k) (by omega)
  have hR := bRoute_ok b (lnI up m k) (lnAt s.af (lnI up m k)) (lnAt s.af (lnI up m k + 1)) up (by omega) (by omega) (by omega) (by omega) (by omega) (by omega) (by omega) (by omega) (by have := (s.af.afn (lnI up m k)).nx_lt (n := 2) (by omega); unfold lnAt; omega) (by have := (s.af.afn (lnI up m k + 1)).nx_lt (n := 2) (by omega); unfold lnAt; omega)
  unfold lnStep at hst
  have hrt : (rtS b (lnI up m k) (lnAt s.af (lnI up m k)) (lnAt s.af (lnI up m k + 1)) up).length ≤ 10 := by
   unfold rtS
   split <;> simp only [List.length_append, List.length_cons, List.length_map, List.length_reverse, List.length_nil] <;> omega
  generalize lnRun b up m (lnAt s.af) ⟨p.rts, [], s.af.afn 3⟩ k = g at *
  obtain ⟨gr, gd, gs⟩ := g
  simp only at u1 u2 u3 hst
  have c3 := next_ok gs 3 u1 (by omega) (by omega)
  have c6 := next_ok gs.af 6 (Src.af_ok u1) (by omega) (by omega)
  have c4 := next_ok gs.af.af 4 (Src.af_ok (Src.af_ok u1)) (by omega) (by omega)
  have d3 := gs.nx_lt (n := 3) (by omega)
  have d6 := gs.af.nx_lt (n := 6) (by omega)
  have d4 := gs.af.af.nx_lt (n := 4) (by omega)
  unfold Bld.box at hR
  cases up
  ·have eI : (lnI false m k : Int) = (m : Int) - 1 - k := by unfold lnI; first | (rw [if_neg (by decide)]; omega) | rw [if_pos rfl]
   have ea : (row 3 fun i => ((lnAt s.af i : Nat) : Int)).getD ((m : Int) - 1 - k : Int).toNat 0 = lnAt s.af (lnI false m k) := by rw [← eI, Int.toNat_natCast]; exact row_get (by omega)
   have eb : (row 3 fun i => ((lnAt s.af i : Nat) : Int)).getD (((m : Int) - 1 - k : Int) + 1).toNat 0 = lnAt s.af (lnI false m k + 1) := by rw [← eI, show ((lnI false m k : Int) + 1).toNat = lnI false m k + 1 by omega]; exact row_get (by omega)
   rw [eI, ← ea, ← eb] at hR
   have hI2 : 0 ≤ ((m : Int) - 1 - k : Int) ∧ ((m : Int) - 1 - k : Int) ≤ 1 := by omega
   by_cases hlast : k + 1 < m
   ·simp only [if_pos hlast] at hst
    repeat' (first|with_reducible (first|refine q_and ?_ ?_|exact True.intro|refine Red.o (by constructor) ?_|fail)|((with_reducible apply q_call);first|refine X_call [0] (hR) rfl rfl rfl rfl rfl rfl rfl rfl rfl rfl rfl rfl rfl ?_|refine X_call [1] (c3) rfl rfl rfl rfl rfl rfl rfl rfl rfl rfl rfl rfl rfl ?_|refine X_call [1] (c6) rfl rfl rfl rfl rfl rfl rfl rfl rfl rfl rfl rfl rfl ?_|refine X_call [1] (c4) rfl rfl rfl rfl rfl rfl rfl rfl rfl rfl rfl rfl rfl ?_)|with_reducible (first|refine W_seq ?_|refine W_block ?_)|((with_reducible apply q_cond);refine X_cond rfl ?_ ?_;all_goals (intro hbq;(try simp only [bq] at hbq);(try (exfalso;omega))))|refine Rex.o (by (with_reducible constructor);apply Eq.refl) ?_|((with_reducible apply q_VOk);exact fun _ => ⟨rfl,rfl⟩)|((with_reducible apply q_CRB);kernel_rfl)|((with_reducible apply q_eqN);rfl)|omega|(dsimp only;omega))
    all_goals first
     | omega
     | rfl
     | (
      refine LoopK_n (k + 1) ?_ ((by omega)) (by (try dsimp only); omega)
      refine X_weak rfl rfl rfl ?_ ?_ <;> repeat' (first|with_reducible (first|refine Wk.o (by constructor) ?_|refine q_and ?_ ?_|exact True.intro)|refine q_AgS rfl ?_ ?_|refine HLe.cells ?_ ?_|exact (rfl : known _ = _)|with_reducible rfl|omega)
      all_goals first
       | rfl
       | omega
       | (
        rw [hst]
        done)
       | (
        rw [hst]
        first
         | rfl
         | (simp [fRt, fRid, fI]; done)
         | (simp [fRt, fRid, fI]; omega)))
   ·simp only [if_neg hlast] at hst
    repeat' (first|with_reducible (first|refine q_and ?_ ?_|exact True.intro|refine Red.o (by constructor) ?_|fail)|((with_reducible apply q_call);first|refine X_call [0] (hR) rfl rfl rfl rfl rfl rfl rfl rfl rfl rfl rfl rfl rfl ?_|refine X_call [1] (c3) rfl rfl rfl rfl rfl rfl rfl rfl rfl rfl rfl rfl rfl ?_)|with_reducible (first|refine W_seq ?_|refine W_block ?_)|((with_reducible apply q_cond);refine X_cond rfl ?_ ?_;all_goals (intro hbq;(try simp only [bq] at hbq);(try (exfalso;omega))))|refine Rex.o (by (with_reducible constructor);apply Eq.refl) ?_|((with_reducible apply q_VOk);exact fun _ => ⟨rfl,rfl⟩)|((with_reducible apply q_CRB);kernel_rfl)|((with_reducible apply q_eqN);rfl)|omega|(dsimp only;omega))
    all_goals first
     | omega
     | rfl
     | (
      refine LoopK_n (k + 1) ?_ ((by omega)) (by (try dsimp only); omega)
      refine X_weak rfl rfl rfl ?_ ?_ <;> repeat' (first|with_reducible (first|refine Wk.o (by constructor) ?_|refine q_and ?_ ?_|exact True.intro)|refine q_AgS rfl ?_ ?_|refine HLe.cells ?_ ?_|exact (rfl : known _ = _)|with_reducible rfl|omega)
      all_goals first
       | rfl
       | omega
       | (
        rw [hst]
        done)
       | (
        rw [hst]
        first
         | rfl
         | (simp [fRt, fRid, fI]; done)
         | (simp [fRt, fRid, fI]; omega)))
  ·have eI : (lnI true m k : Int) = k := by unfold lnI; first | (rw [if_neg (by decide)]; omega) | rw [if_pos rfl]
   have ea : (row 3 fun i => ((lnAt s.af i : Nat) : Int)).getD (k : Int).toNat 0 = lnAt s.af (lnI true m k) := by rw [← eI, Int.toNat_natCast]; exact row_get (by omega)
   have eb : (row 3 fun i => ((lnAt s.af i : Nat) : Int)).getD ((k : Int) + 1).toNat 0 = lnAt s.af (lnI true m k + 1) := by rw [← eI, show ((lnI true m k : Int) + 1).toNat = lnI true m k + 1 by omega]; exact row_get (by omega)
   rw [eI, ← ea, ← eb] at hR
   have hI2 : 0 ≤ (k : Int) ∧ (k : Int) ≤ 1 := by omega
   by_cases hlast : k + 1 < m
   ·simp only [if_pos hlast] at hst
    repeat' (first|with_reducible (first|refine q_and ?_ ?_|exact True.intro|refine Red.o (by constructor) ?_|fail)|((with_reducible apply q_call);first|refine X_call [0] (hR) rfl rfl rfl rfl rfl rfl rfl rfl rfl rfl rfl rfl rfl ?_|refine X_call [1] (c3) rfl rfl rfl rfl rfl rfl rfl rfl rfl rfl rfl rfl rfl ?_|refine X_call [1] (c6) rfl rfl rfl rfl rfl rfl rfl rfl rfl rfl rfl rfl rfl ?_|refine X_call [1] (c4) rfl rfl rfl rfl rfl rfl rfl rfl rfl rfl rfl rfl rfl ?_)|with_reducible (first|refine W_seq ?_|refine W_block ?_)|((with_reducible apply q_cond);refine X_cond rfl ?_ ?_;all_goals (intro hbq;(try simp only [bq] at hbq);(try (exfalso;omega))))|refine Rex.o (by (with_reducible constructor);apply Eq.refl) ?_|((with_reducible apply q_VOk);exact fun _ => ⟨rfl,rfl⟩)|((with_reducible apply q_CRB);kernel_rfl)|((with_reducible apply q_eqN);rfl)|omega|(dsimp only;omega))
    all_goals first
     | omega
     | rfl
     | (
      refine LoopK_n (k + 1) ?_ ((by omega)) (by (try dsimp only); omega)
      refine X_weak rfl rfl rfl ?_ ?_ <;> repeat' (first|with_reducible (first|refine Wk.o (by constructor) ?_|refine q_and ?_ ?_|exact True.intro)|refine q_AgS rfl ?_ ?_|refine HLe.cells ?_ ?_|exact (rfl : known _ = _)|with_reducible rfl|omega)
      all_goals first
       | rfl
       | omega
       | (
        rw [hst]
        done)
       | (
        rw [hst]
        first
         | rfl
         | (simp [fRt, fRid, fI]; done)
         | (simp [fRt, fRid, fI]; omega)))
   ·simp only [if_neg hlast] at hst
    repeat' (first|with_reducible (first|refine q_and ?_ ?_|exact True.intro|refine Red.o (by constructor) ?_|fail)|((with_reducible apply q_call);first|refine X_call [0] (hR) rfl rfl rfl rfl rfl rfl rfl rfl rfl rfl rfl rfl rfl ?_|refine X_call [1] (c3) rfl rfl rfl rfl rfl rfl rfl rfl rfl rfl rfl rfl rfl ?_)|with_reducible (first|refine W_seq ?_|refine W_block ?_)|((with_reducible apply q_cond);refine X_cond rfl ?_ ?_;all_goals (intro hbq;(try simp only [bq] at hbq);(try (exfalso;omega))))|refine Rex.o (by (with_reducible constructor);apply Eq.refl) ?_|((with_reducible apply q_VOk);exact fun _ => ⟨rfl,rfl⟩)|((with_reducible apply q_CRB);kernel_rfl)|((with_reducible apply q_eqN);rfl)|omega|(dsimp only;omega))
    all_goals first
     | omega
     | rfl
     | (
      refine LoopK_n (k + 1) ?_ ((by omega)) (by (try dsimp only); omega)
      refine X_weak rfl rfl rfl ?_ ?_ <;> repeat' (first|with_reducible (first|refine Wk.o (by constructor) ?_|refine q_and ?_ ?_|exact True.intro)|refine q_AgS rfl ?_ ?_|refine HLe.cells ?_ ?_|exact (rfl : known _ = _)|with_reducible rfl|omega)
      all_goals first
       | rfl
       | omega
       | (
        rw [hst]
        done)
       | (
        rw [hst]
        first
         | rfl
         | (simp [fRt, fRid, fI]; done)
         | (simp [fRt, fRid, fI]; omega)))
 ·have hkm2 : k = m := by omega
  subst hkm2
  rw [← hg] at u1 u2 u3 ⊢
  repeat' (first|with_reducible (first|refine q_and ?_ ?_|exact True.intro|refine Red.o (by constructor) ?_|fail)|with_reducible (refine W_seq ?_)|((with_reducible apply q_cond);refine X_cond rfl ?_ ?_;all_goals (intro hbq;(try simp only [bq] at hbq);(try (exfalso;omega))))|refine Rex.o (by (with_reducible constructor);apply Eq.refl) ?_|((with_reducible apply q_CRB);kernel_rfl)|((with_reducible apply q_eqN);rfl)|omega)
  all_goals first
   | omega
   | rfl
   | (
    repeat' (first|with_reducible (first|exact TkEq.nil _|refine TkEq.cells ?_ ?_|exact SEqL.nil|refine SEqL.cons ?_ ?_|exact CEq.refl _|refine CEq.tip ?_ ?_)|refine TkEq.cells ?_ ?_)
    all_goals (simp [fLin, fI, fS]; done))
def rideR (p : Pln) (i j : Int) : Rte := p.rts.getD ((p.lns.getD i.toNat ⟨⟨#[]⟩, 0, 0, []⟩).rides.getD j.toNat ⟨0, 0, 0, 0⟩).rt.toNat ⟨[], 0⟩
def stopV (p : Pln) (i j : Int) : Int := ((rideR p i j).st.getD (((rideR p i j).st.length : Int) - 1).toNat st0).sec
def startV (p : Pln) (i j : Int) : Int := ((rideR p i j).st.getD (0 : Int).toNat st0).sec
structure Pln.ok (p : Pln) (n : Nat) : Prop where
 lns : p.lns.length ≤ 3
 rts : p.rts.length ≤ 100
 rides : ∀ x ∈ p.lns, 1 ≤ x.rides.length ∧ x.rides.length ≤ 2
 ride : ∀ x ∈ p.lns, ∀ y ∈ x.rides, 0 ≤ y.rt ∧ y.rt < p.rts.length
 rt : ∀ r ∈ p.rts, 1 ≤ r.st.length ∧ r.st.length ≤ 10 ∧ r.ov = 0
 st : ∀ r ∈ p.rts, ∀ x ∈ r.st, 0 ≤ x.sec ∧ x.sec < n
theorem getD_mem {α : Type} {l : List α} {i : Nat} {d : α} (h : i < l.length) : l.getD i d ∈ l := by
 rw [List.getD_eq_getElem?_getD, List.getElem?_eq_getElem h]
 exact List.getElem_mem h
theorem ride_at {p : Pln} {n : Nat} (h : p.ok n) {i j : Int} (hi : 0 ≤ i ∧ i < p.lns.length) (hj : 0 ≤ j ∧ j < (p.lns.getD i.toNat ⟨⟨#[]⟩, 0, 0, []⟩).rides.length) : 0 ≤ ((p.lns.getD i.toNat ⟨⟨#[]⟩, 0, 0, []⟩).rides.getD j.toNat ⟨0, 0, 0, 0⟩).rt ∧ ((p.lns.getD i.toNat ⟨⟨#[]⟩, 0, 0, []⟩).rides.getD j.toNat ⟨0, 0, 0, 0⟩).rt < p.rts.length ∧ 1 ≤ (rideR p i j).st.length ∧ (rideR p i j).st.length ≤ 10 ∧ (0 ≤ stopV p i j ∧ stopV p i j < n) ∧ 0 ≤ startV p i j ∧ startV p i j < n := by
 have h1 := h.ride _ (getD_mem (d := ⟨⟨#[]⟩, 0, 0, []⟩) (show i.toNat < p.lns.length by omega)) _ (getD_mem (d := ⟨0, 0, 0, 0⟩) (show j.toNat < _ by omega))
 have hm : rideR p i j ∈ p.rts := getD_mem (by omega)
 have h2 := h.rt _ hm
 have h3 := h.st _ hm
 exact ⟨h1.1, h1.2, h2.1, h2.2.1, h3 _ (getD_mem (by omega)), h3 _ (getD_mem (by show 0 < _; omega))⟩
theorem stop_ok (p : Pln) (n : Nat) (h : p.ok n) (i j : Int) (hi : 0 ≤ i ∧ i < p.lns.length) (hj : 0 ≤ j ∧ j < (p.lns.getD i.toNat ⟨⟨#[]⟩, 0, 0, []⟩).rides.length) : OkV Tryz.prog 48 [.agg p.val, .c (xI i), .c (xI j)] [] (vI (stopV p i j)) [] := by
 obtain ⟨r1, r2, r3, r4, _⟩ := ride_at h hi hj
 have n1 := h.lns
 have n2 := h.rts
 have n3 := (h.rides _ (getD_mem (d := ⟨⟨#[]⟩, 0, 0, []⟩) (show i.toNat < p.lns.length by omega))).2
 unfold stopV
 unfold rideR at r3 r4 ⊢
 unfold Pln.val
 refine X_fn mixedX Tryz.func48 rfl (by kernel_rfl) (Nat.le_of_ble_eq_true (by kernel_rfl)) (by kernel_rfl) rfl rfl (Nat.le_of_ble_eq_true rfl) rfl rfl ?_
 simp only [sl0, Nat.zero_add, Nat.reduceAdd]
 repeat' (first|with_reducible (first|refine q_and ?_ ?_|exact True.intro|exact TkEq.nil _|refine Red.o (by constructor) ?_|assumption)|with_reducible (refine W_seq ?_)|refine Rex.o (by (with_reducible constructor);apply Eq.refl) ?_|((with_reducible apply q_VOk);exact fun _ => ⟨rfl,rfl⟩)|((with_reducible apply q_CRB);kernel_rfl)|omega)
 all_goals first | omega | rfl
theorem start_ok (p : Pln) (n : Nat) (h : p.ok n) (i j : Int) (hi : 0 ≤ i ∧ i < p.lns.length) (hj : 0 ≤ j ∧ j < (p.lns.getD i.toNat ⟨⟨#[]⟩, 0, 0, []⟩).rides.length) : OkV Tryz.prog 49 [.agg p.val, .c (xI i), .c (xI j)] [] (vI (startV p i j)) [] := by
 obtain ⟨r1, r2, r3, r4, _⟩ := ride_at h hi hj
 have n1 := h.lns
 have n2 := h.rts
 have n3 := (h.rides _ (getD_mem (d := ⟨⟨#[]⟩, 0, 0, []⟩) (show i.toNat < p.lns.length by omega))).2
 unfold startV
 unfold rideR at r3 r4 ⊢
 unfold Pln.val
 refine X_fn mixedX Tryz.func49 rfl (by kernel_rfl) (Nat.le_of_ble_eq_true (by kernel_rfl)) (by kernel_rfl) rfl rfl (Nat.le_of_ble_eq_true rfl) rfl rfl ?_
 simp only [sl0, Nat.zero_add, Nat.reduceAdd]
 repeat' (first|with_reducible (first|refine q_and ?_ ?_|exact True.intro|exact TkEq.nil _|refine Red.o (by constructor) ?_|assumption)|with_reducible (refine W_seq ?_)|refine Rex.o (by (with_reducible constructor);apply Eq.refl) ?_|((with_reducible apply q_VOk);exact fun _ => ⟨rfl,rfl⟩)|((with_reducible apply q_CRB);kernel_rfl)|omega)
 all_goals first | omega | rfl
theorem Pln.ok.trn {p : Pln} {n : Nat} (h : p.ok n) (t : List Trn) : ({ p with trn := t } : Pln).ok n := ⟨h.lns, h.rts, h.rides, h.ride, h.rt, h.st⟩
theorem turns_ok (p : Pln) (n : Nat) (h : p.ok n) (ht : p.trn.length = 0) (s : Src) (hs : s.ok) : OkG Tryz.prog 47 [.c (pB 0), .c (pB 1)] [some s.box, some p.box] (fun g : Src × List Trn => g.1.ok ∧ g.2.length ≤ 100) (fun _ => .tup []) (fun g => [some g.1.box, some ({ p with trn := g.2 } : Pln).box]) := by
 have hl := h.lns
 have hS : ∀ (t : List Trn) (i j : Int), 0 ≤ i ∧ i < p.lns.length → 0 ≤ j ∧ j < (p.lns.getD i.toNat ⟨⟨#[]⟩, 0, 0, []⟩).rides.length → OkV Tryz.prog 48 [.agg [xI p.per, rSk p.stk, rRt p.rts, rLin p.lns, rChn p.chg, rTrn t, rSyn p.syn, rDem p.dem], .c (xI i), .c (xI j)] [] (vI (stopV p i j)) [] := fun t i j hi hj => stop_ok { p with trn := t } n (h.trn t) i j hi hj
 have hT : ∀ (t : List Trn) (i j : Int), 0 ≤ i ∧ i < p.lns.length → 0 ≤ j ∧ j < (p.lns.getD i.toNat ⟨⟨#[]⟩, 0, 0, []⟩).rides.length → OkV Tryz.prog 49 [.agg [xI p.per, rSk p.stk, rRt p.rts, rLin p.lns, rChn p.chg, rTrn t, rSyn p.syn, rDem p.dem], .c (xI i), .c (xI j)] [] (vI (startV p i j)) [] := fun t i j hi hj => start_ok { p with trn := t } n (h.trn t) i j hi hj
 have hR := fun i j hi hj => (ride_at h (i := i) (j := j) hi hj).2.2.2.2
 have hrd : ∀ i : Nat, i < p.lns.length → 1 ≤ (p.lns.getD (i : Int).toNat ⟨⟨#[]⟩, 0, 0, []⟩).rides.length ∧ (p.lns.getD (i : Int).toNat ⟨⟨#[]⟩, 0, 0, []⟩).rides.length ≤ 2 := fun i hi => h.rides _ (getD_mem hi)
 unfold Pln.box
 refine X_fnG mixedX Tryz.func47 rfl (by kernel_rfl) (Nat.le_of_ble_eq_true (by kernel_rfl)) (by kernel_rfl) (fun x hx => ⟨rfl, rfl, Nat.le_of_ble_eq_true rfl, rfl⟩) rfl ?_
 simp only [sl0, Nat.zero_add, Nat.reduceAdd]
 repeat' (first|with_reducible (first|refine q_and ?_ ?_|exact True.intro|refine Red.o (by constructor) ?_|fail)|with_reducible (first|refine W_seq ?_|refine W_block ?_)|refine Rex.o (by (with_reducible constructor);apply Eq.refl) ?_|fail)
 refine W_loopS (fun g : Nat × Src × List Trn × List Bool × List Bool => SS [sC 0 (pB 0), sC 1 (pB 1), sC 4 (pB 2), sC 5 (pB 3), sI 13 p.lns.length, sI 14 g.1] [some g.2.1.box, some (.cells [xI p.per, rSk p.stk, tRt p.rts, tLin p.lns, tChn p.chg, tTrn g.2.2.1, tSyn p.syn, tDem p.dem]), bBool g.2.2.2.1, bBool g.2.2.2.2]) (fun g => g.1 ≤ p.lns.length ∧ g.2.1.ok ∧ g.2.2.1.length ≤ 4 * g.1 ∧ g.2.2.2.1.length = 4 ∧ g.2.2.2.2.length = 4) (fun g => p.lns.length - g.1) (0, s, p.trn, List.replicate 4 false, List.replicate 4 false) ?_ ⟨by simp only; omega, hs, by simp only; omega, List.length_replicate, List.length_replicate⟩ ?_
 ·
  refine X_weak rfl rfl rfl ?_ ?_ <;> repeat' (first|with_reducible (first|refine Wk.o (by constructor) ?_|refine q_and ?_ ?_|exact True.intro)|refine q_AgS rfl ?_ ?_|refine HLe.cells ?_ ?_|exact (rfl : known _ = _)|with_reducible rfl|omega)
  all_goals rfl
 rintro ⟨a, s1, tr, fr, to⟩ ⟨ha, hs1, htr, hfr, hto⟩
 simp only at ha hs1 htr hfr hto
 by_cases hal : a < p.lns.length
 ·
  repeat' (first|with_reducible (first|refine q_and ?_ ?_|exact True.intro|refine Red.o (by constructor) ?_|fail)|with_reducible (first|refine W_seq ?_|refine W_block ?_)|((with_reducible apply q_cond);refine X_cond rfl ?_ ?_;all_goals (intro hbq;(try simp only [bq] at hbq);(try (exfalso;omega))))|refine Rex.o (by (with_reducible constructor);apply Eq.refl) ?_|fail)
  refine W_loopS (fun g : Nat × Src × List Trn × List Bool × List Bool => SS [sC 0 (pB 0), sC 1 (pB 1), sC 4 (pB 2), sC 5 (pB 3), sI 6 a, sI 13 p.lns.length, sI 14 a, sI 21 p.lns.length, sI 22 g.1] [some g.2.1.box, some (.cells [xI p.per, rSk p.stk, tRt p.rts, tLin p.lns, tChn p.chg, tTrn g.2.2.1, tSyn p.syn, tDem p.dem]), bBool g.2.2.2.1, bBool g.2.2.2.2]) (fun g => g.1 ≤ p.lns.length ∧ g.2.1.ok ∧ g.2.2.1.length ≤ 4 * a + g.1 ∧ g.2.2.2.1.length = 4 ∧ g.2.2.2.2.length = 4) (fun g => p.lns.length - g.1) (0, s1, tr, fr, to) ?_ ⟨by simp only; omega, hs1, by simp only; omega, hfr, hto⟩ ?_
  ·
   refine X_weak rfl rfl rfl ?_ ?_ <;> repeat' (first|with_reducible (first|refine Wk.o (by constructor) ?_|refine q_and ?_ ?_|exact True.intro)|refine q_AgS rfl ?_ ?_|refine HLe.cells ?_ ?_|exact (rfl : known _ = _)|with_reducible rfl|omega)
   all_goals rfl
  clear htr hfr hto hs1
  rintro ⟨b, s2, tr, fr, to⟩ ⟨hb, hs2, htr, hfr, hto⟩
  simp only at hb hs2 htr hfr hto
  by_cases hbl : b < p.lns.length
  ·have ra := hrd a hal
   have rb := hrd b hbl
   have k1 := hS tr a ((p.lns.getD (a : Int).toNat ⟨⟨#[]⟩, 0, 0, []⟩).rides.length - 1) (by omega) (by omega)
   have k2 := hT tr b 0 (by omega) (by omega)
   have c3 := next_ok s2 3 hs2 (by omega) (by omega)
   have d3 := s2.nx_lt (n := 3) (by omega)
   have hs3 := Src.af_ok hs2
   have c10 := next_ok s2.af 10 hs3 (by omega) (by omega)
   have d10 := s2.af.nx_lt (n := 10) (by omega)
   have hs4 := Src.af_ok hs3
   have c30 := next_ok s2.af.af 30 hs4 (by omega) (by omega)
   have d30 := s2.af.af.nx_lt (n := 30) (by omega)
   have hs5 := Src.af_ok hs4
   generalize stopV p a ((p.lns.getD (a : Int).toNat ⟨⟨#[]⟩, 0, 0, []⟩).rides.length - 1) = v1 at *
   generalize startV p b 0 = v2 at *
   clear hS hT
   repeat' (first|with_reducible (first|refine q_and ?_ ?_|exact True.intro|refine Red.o (by constructor) ?_|assumption)|((with_reducible apply q_call);first|refine X_call [0] (c3) rfl rfl rfl rfl rfl rfl rfl rfl rfl rfl rfl rfl rfl ?_|refine X_call [0] (c10) rfl rfl rfl rfl rfl rfl rfl rfl rfl rfl rfl rfl rfl ?_|refine X_call [0] (c30) rfl rfl rfl rfl rfl rfl rfl rfl rfl rfl rfl rfl rfl ?_)|((with_reducible apply q_callG);refine X_pureG ((fun _ => k1)) rfl ?_ ?_)|((with_reducible apply q_callG);refine X_pureG ((fun _ => k2)) rfl ?_ ?_)|with_reducible (first|refine W_seq ?_|refine W_block ?_)|((with_reducible apply q_cond);refine X_cond rfl ?_ ?_;all_goals (intro hbq;(try simp only [bq] at hbq);(try (exfalso;omega))))|refine Rex.o (by (with_reducible constructor);apply Eq.refl) ?_|(intro (hgq : (_ : Bool) = true);(try simp only [bq] at hgq))|((with_reducible apply q_VOk);exact fun _ => ⟨rfl,rfl⟩)|((with_reducible apply q_CRB);kernel_rfl)|((with_reducible apply q_bt);simp only [bq])|((with_reducible apply q_eqN);rfl)|(simp only [hgq,bq];done)|omega|(dsimp only;omega))
   ·rfl
   ·rfl
   ·
    refine LoopK_n ((b + 1, s2.af.af.af, tr ++ [⟨a, b, 10 + s2.af.nx 10, 10 + s2.af.nx 10 + s2.af.af.nx 30⟩], fr.set a true, to.set b true)) ?_ (⟨by simp only; omega, hs5, by simp only [List.length_append, List.length_singleton]; omega, by simp only [List.length_set]; exact hfr, by simp only [List.length_set]; exact hto⟩) (by (try dsimp only); omega)
    refine X_weak rfl rfl rfl ?_ ?_ <;> repeat' (first|with_reducible (first|refine Wk.o (by constructor) ?_|refine q_and ?_ ?_|exact True.intro)|refine q_AgS rfl ?_ ?_|refine HLe.cells ?_ ?_|exact (rfl : known _ = _)|omega)
    all_goals first
     | rfl
     | omega
     | (simp [fTrn, fI]; done)
     | (simp [fTrn, fI]; omega)
   ·
    refine LoopK_n ((b + 1, s2.af, tr, fr, to)) ?_ (⟨by simp only; omega, hs3, by simp only; omega, hfr, hto⟩) (by (try dsimp only); omega)
    refine X_weak rfl rfl rfl ?_ ?_ <;> repeat' (first|with_reducible (first|refine Wk.o (by constructor) ?_|refine q_and ?_ ?_|exact True.intro)|refine q_AgS rfl ?_ ?_|refine HLe.cells ?_ ?_|exact (rfl : known _ = _)|with_reducible rfl|omega)
    all_goals first
     | rfl
     | omega
  ·
   repeat' (first|with_reducible (first|refine q_and ?_ ?_|exact True.intro|refine Red.o (by constructor) ?_|fail)|with_reducible (refine W_seq ?_)|((with_reducible apply q_cond);refine X_cond rfl ?_ ?_;all_goals (intro hbq;(try simp only [bq] at hbq);(try (exfalso;omega))))|refine Rex.o (by (with_reducible constructor);apply Eq.refl) ?_|omega)
   ·
    refine LoopK_n ((a + 1, s2, tr, fr, to)) ?_ (⟨by simp only; omega, hs2, by simp only; omega, hfr, hto⟩) (by (try dsimp only); omega)
    refine X_weak rfl rfl rfl ?_ ?_ <;> repeat' (first|with_reducible (first|refine Wk.o (by constructor) ?_|refine q_and ?_ ?_|exact True.intro)|refine q_AgS rfl ?_ ?_|refine HLe.cells ?_ ?_|exact (rfl : known _ = _)|with_reducible rfl|omega)
    all_goals first
     | rfl
     | omega
 ·
  repeat' (first|with_reducible (first|refine q_and ?_ ?_|exact True.intro|refine Red.o (by constructor) ?_|fail)|with_reducible (refine W_seq ?_)|((with_reducible apply q_cond);refine X_cond rfl ?_ ?_;all_goals (intro hbq;(try simp only [bq] at hbq);(try (exfalso;omega))))|refine Rex.o (by (with_reducible constructor);apply Eq.refl) ?_|fail)
  refine X_retG rfl (s1, tr) ⟨hs1, by simp only; omega⟩ rfl ?_
  repeat' (first|with_reducible (first|refine Wk.o (by constructor) ?_|refine q_and ?_ ?_|exact True.intro)|refine TkEq.cells ?_ ?_)
def InS (n : Nat) (t : List Int) : Prop := ∀ v ∈ t, 0 ≤ v ∧ v < n
theorem InS.mono {n m : Nat} {t : List Int} (h : InS n t) (hm : n ≤ m) : InS m t := fun v hv => ⟨(h v hv).1, by have := (h v hv).2; omega⟩
structure Bld.ent (b : Bld) : Prop where
 t : ∀ x ∈ b.tracks, InS b.L.secs.length x
 w : ∀ x ∈ b.between, InS b.L.secs.length x
 l : ∀ x ∈ b.between, 1 ≤ x.length ∧ x.length ≤ 2
theorem Bld.ent.grow {b c : Bld} (h : b.ent) (e1 : c.tracks = b.tracks) (e2 : c.between = b.between) (e3 : b.L.secs.length ≤ c.L.secs.length) : c.ent := ⟨fun x hx => (h.t x (e1 ▸ hx)).mono e3, fun x hx => (h.w x (e2 ▸ hx)).mono e3, fun x hx => h.l x (e2 ▸ hx)⟩
theorem ins_snoc {n : Nat} {t : List Int} (h : InS n t) : InS (n + 1) (t ++ [(n : Int)]) := fun v hv => by
 rcases List.mem_append.1 hv with hv | hv
 ·have := h v hv; omega
 ·rw [List.mem_singleton] at hv; omega
theorem add_secs (b : Bld) (x : Sec) : (b.add x).L.secs.length = b.L.secs.length + 1 := by simp [Bld.add]
theorem tLoop_ent (i : Nat) : ∀ (k : Nat) (x : TBS), InS x.2.1.L.secs.length x.1 → x.2.1.ent → InS (tLoop i k x).2.1.L.secs.length (tLoop i k x).1 ∧ (tLoop i k x).2.1.ent ∧ (tLoop i k x).2.1.between = x.2.1.between ∧ (tLoop i k x).2.1.L.sts = x.2.1.L.sts
 | 0, x, h1, h2 => ⟨h1, h2, rfl, rfl⟩
 | k + 1, x, h1, h2 => by
  obtain ⟨a, b, c, d⟩ := tLoop_ent i k (tStep i (k + 1) x) (by simp only [tStep, add_secs]; exact ins_snoc h1) (h2.grow rfl rfl (by simp only [tStep, add_secs]; omega))
  exact ⟨a, b, c, d⟩
theorem lLoop_ent (i : Nat) : ∀ (k : Nat) (x : TBS), InS x.2.1.L.secs.length x.1 → x.2.1.ent → InS (lLoop i k x).2.1.L.secs.length (lLoop i k x).1 ∧ (lLoop i k x).2.1.ent ∧ (lLoop i k x).2.1.between = x.2.1.between ∧ (lLoop i k x).2.1.L.sts = x.2.1.L.sts ∧ (lLoop i k x).1.length = x.1.length + k
 | 0, x, h1, h2 => ⟨h1, h2, rfl, rfl, rfl⟩
 | k + 1, x, h1, h2 => by
  obtain ⟨a, b, c, d, e⟩ := lLoop_ent i k (lStep i (k + 1) x) (by simp only [lStep, add_secs]; exact ins_snoc h1) (h2.grow rfl rfl (by simp only [lStep, add_secs]; omega))
  exact ⟨a, b, c, d, by simp only [lLoop]; rw [e]; simp only [lStep, List.length_append, List.length_singleton]; omega⟩
theorem oStep_ent (i : Nat) (x : Bld × Src) (h : x.1.ent) : (oStep i x).1.ent ∧ (oStep i x).1.between = x.1.between ∧ (oStep i x).1.L.sts.length = x.1.L.sts.length + 1 := by
 obtain ⟨a, b, c, d⟩ := tLoop_ent i (1 + x.2.nx 2) ([], x.1.addSt (nameN ⟨#[83]⟩ i), x.2.af) (fun v hv => by cases hv) (h.grow rfl rfl (Nat.le_refl _))
 refine ⟨⟨fun t ht => ?_, fun t ht => b.w t ht, fun t ht => b.l t ht⟩, c, ?_⟩
 ·rcases List.mem_append.1 (show t ∈ (tLoop i (1 + x.2.nx 2) ([], x.1.addSt (nameN ⟨#[83]⟩ i), x.2.af)).2.1.tracks ++ [_] from ht) with ht | ht
  ·exact b.t t ht
  ·rw [List.mem_singleton] at ht; rw [ht]; exact a
 ·show (tLoop i (1 + x.2.nx 2) ([], x.1.addSt (nameN ⟨#[83]⟩ i), x.2.af)).2.1.L.sts.length = _
  rw [d]
  simp [Bld.addSt]
theorem links_same (b : Bld) (x pt : Int) (east : Bool) (ts : List Int) : ∀ k, (b.links x pt east ts k).between = b.between ∧ (b.links x pt east ts k).tracks = b.tracks ∧ (b.links x pt east ts k).L.secs = b.L.secs ∧ (b.links x pt east ts k).L.sts = b.L.sts
 | 0 => ⟨rfl, rfl, rfl, rfl⟩
 | k + 1 => links_same b x pt east ts k
theorem fan_same (b : Bld) (x : Int) (ts : List Int) (east : Bool) : (b.fan x ts east).between = b.between ∧ (b.fan x ts east).tracks = b.tracks ∧ (b.fan x ts east).L.secs = b.L.secs ∧ (b.fan x ts east).L.sts = b.L.sts := by
 unfold Bld.fan
 split
 ·exact links_same b.pt x b.L.pts.length east ts ts.length
 ·exact links_same b x (-1) east ts ts.length
theorem cLoop_same (b : Bld) (t : List Int) : ∀ k, (cLoop b t k).between = b.between ∧ (cLoop b t k).tracks = b.tracks ∧ (cLoop b t k).L.secs = b.L.secs ∧ (cLoop b t k).L.sts = b.L.sts
 | 0 => ⟨rfl, rfl, rfl, rfl⟩
 | k + 1 => cLoop_same b t k
theorem pStep_ent (i : Nat) (x : Bld × Src) (h : x.1.ent) : (pStep i x).1.ent ∧ (pStep i x).1.between.length = x.1.between.length + 1 ∧ (pStep i x).1.L.sts = x.1.L.sts := by
 have hk := x.2.nx_lt (n := 2) (by omega)
 obtain ⟨a, b, c, d, e⟩ := lLoop_ent i (1 + x.2.nx 2) ([], x.1, x.2.af) (fun v hv => by cases hv) h
 unfold pStep
 simp only at a b c d e ⊢
 generalize lLoop i (1 + x.2.nx 2) ([], x.1, x.2.af) = y at a b c d e ⊢
 obtain ⟨u1, u2, u3, u4⟩ := cLoop_same y.2.1 y.1 (y.1.length - 1)
 generalize cLoop y.2.1 y.1 (y.1.length - 1) = q at *
 obtain ⟨v1, v2, v3, v4⟩ := fan_same q (y.1.getD 0 0) (q.tracks.getD i []) false
 generalize q.fan (y.1.getD 0 0) (q.tracks.getD i []) false = r at *
 obtain ⟨w1, w2, w3, w4⟩ := fan_same r (y.1.getD (y.1.length - 1) 0) (r.tracks.getD (i + 1) []) true
 generalize r.fan (y.1.getD (y.1.length - 1) 0) (r.tracks.getD (i + 1) []) true = z at *
 have es : z.L.secs.length = y.2.1.L.secs.length := by rw [w3, v3, u3]
 have ez := b.grow (c := z) (by rw [w2, v2, u2]) (by rw [w1, v1, u1]) (by omega)
 refine ⟨⟨fun t ht => ez.t t ht, fun t ht => ?_, fun t ht => ?_⟩, ?_, ?_⟩
 ·rcases List.mem_append.1 (show t ∈ z.between ++ [y.1] from ht) with ht | ht
  ·exact ez.w t ht
  ·rw [List.mem_singleton] at ht
   rw [ht]
   exact a.mono (Nat.le_of_eq es.symm)
 ·rcases List.mem_append.1 (show t ∈ z.between ++ [y.1] from ht) with ht | ht
  ·exact ez.l t ht
  ·rw [List.mem_singleton] at ht
   rw [ht, e]
   simp only [List.length_nil]
   omega
 ·simp only [Bld.addBt, List.length_append, List.length_singleton]
  rw [w1, v1, u1, c]
 ·show z.L.sts = _
  rw [w4, v4, u4, d]
theorem oIter_ent (s : Src) : ∀ i, (iter oStep (Bld.zero, s) i).1.ent ∧ (iter oStep (Bld.zero, s) i).1.between = [] ∧ (iter oStep (Bld.zero, s) i).1.L.sts.length = i
 | 0 => ⟨⟨fun x hx => by (cases hx), fun x hx => by (cases hx), fun x hx => by (cases hx)⟩, rfl, rfl⟩
 | i + 1 => by
  obtain ⟨a, b, c⟩ := oIter_ent s i
  obtain ⟨d, e, f⟩ := oStep_ent i _ a
  exact ⟨d, e.trans b, by rw [iter, f, c]⟩
theorem pIter_ent {x : Bld × Src} (h : x.1.ent) : ∀ i, (iter pStep x i).1.ent ∧ (iter pStep x i).1.between.length = x.1.between.length + i ∧ (iter pStep x i).1.L.sts = x.1.L.sts
 | 0 => ⟨h, rfl, rfl⟩
 | i + 1 => by
  obtain ⟨a, b, c⟩ := pIter_ent h i
  obtain ⟨d, e, f⟩ := pStep_ent i _ a
  exact ⟨d, by rw [iter, e, b]; omega, f.trans c⟩
structure Railed (b : Bld) : Prop where
 rail : b.rail
 ent : b.ent
 sts : b.L.sts.length = b.between.length + 1
 le : b.le 100
theorem rowB_rail (s : Src) (hs : s.ok) : Railed (rowB s).1 ∧ (rowB s).2.ok := by
 have hn := s.nx_lt (n := 2) (by omega)
 obtain ⟨a1, a2, a3⟩ := oIter_ent s.af (2 + s.nx 2)
 obtain ⟨b1, b2⟩ := iter_le (x := (Bld.zero, s.af)) (m := 0) 4 oStep_le zero_le' (Src.af_ok hs) (2 + s.nx 2)
 have b3 := oIter_tr (Src.af_ok hs) (2 + s.nx 2) (by omega)
 obtain ⟨c1, c2, c3⟩ := pIter_ent a1 (1 + s.nx 2)
 obtain ⟨d1, d2, d3⟩ := pIter_le b1 b2 b3 (1 + s.nx 2)
 unfold rowB
 rw [a2] at c2
 simp only [List.length_nil] at c2
 have e1 := d3.1
 refine ⟨⟨⟨by omega, by omega, by omega, fun i hi => ?_, fun i hi => ?_⟩, c1, by rw [c3, a3]; omega, d1.mono (by omega)⟩, d2⟩
 ·exact d3.2 _ (getD_mem hi)
 ·exact c1.l _ (getD_mem hi)
theorem rtS_in {b : Bld} (h : Railed b) {i : Nat} (hi : i < b.between.length) (a c : Nat) (up : Bool) : ∀ x ∈ rtS b i a c up, 0 ≤ x.sec ∧ x.sec < b.L.secs.length := by
 have n3 := h.rail.n3
 have t1 := h.rail.t i (by omega)
 have t2 := h.rail.t (i + 1) (by omega)
 have s1 := h.ent.t _ (getD_mem (d := []) (show i < b.tracks.length by omega))
 have s2 := h.ent.t _ (getD_mem (d := []) (show i + 1 < b.tracks.length by omega))
 have s3 := h.ent.w _ (getD_mem (d := []) hi)
 have m1 := s1 _ (getD_mem (d := 0) (Nat.mod_lt a t1.1))
 have m2 := s2 _ (getD_mem (d := 0) (Nat.mod_lt c t2.1))
 intro x hx
 unfold rtS at hx
 split at hx
 ·simp only [List.mem_append, List.mem_cons, List.mem_map, List.mem_singleton, List.not_mem_nil, or_false] at hx
  rcases hx with (rfl | ⟨v, hv, rfl⟩) | rfl
  ·exact m1
  ·exact s3 v hv
  ·exact m2
 ·simp only [List.mem_append, List.mem_cons, List.mem_map, List.mem_reverse, List.mem_singleton, List.not_mem_nil, or_false] at hx
  rcases hx with (rfl | ⟨v, hv, rfl⟩) | rfl
  ·exact m2
  ·exact s3 v hv
  ·exact m1
theorem rtS_len {b : Bld} (h : Railed b) {i : Nat} (hi : i < b.between.length) (a c : Nat) (up : Bool) : 1 ≤ (rtS b i a c up).length ∧ (rtS b i a c up).length ≤ 4 := by
 have := h.rail.w i hi
 unfold rtS
 split <;> simp only [List.length_append, List.length_cons, List.length_map, List.length_reverse, List.length_nil] <;> omega
structure LnQ.fine (n : Nat) (g : LnQ) : Prop where
 rd : ∀ y ∈ g.rd, 0 ≤ y.rt ∧ y.rt < g.rts.length
 rt : ∀ r ∈ g.rts, 1 ≤ r.st.length ∧ r.st.length ≤ 10 ∧ r.ov = 0
 st : ∀ r ∈ g.rts, ∀ x ∈ r.st, 0 ≤ x.sec ∧ x.sec < n
theorem lnRun_fine {b : Bld} (h : Railed b) (up : Bool) {m : Nat} (hm : m ≤ b.between.length) (at_ : Nat → Nat) {g : LnQ} (hg : g.fine b.L.secs.length) : ∀ k, k ≤ m → (lnRun b up m at_ g k).fine b.L.secs.length
 | 0, _ => hg
 | k + 1, hk => by
  have ih := lnRun_fine h up hm at_ hg k (by omega)
  have hi : lnI up m k < b.between.length := by unfold lnI; split <;> omega
  have hl := rtS_len h hi (at_ (lnI up m k)) (at_ (lnI up m k + 1)) up
  simp only [lnRun, lnStep]
  refine ⟨fun y hy => ?_, fun r hr => ?_, fun r hr => ?_⟩
  ·simp only [List.length_append, List.length_singleton]
   rcases List.mem_append.1 hy with hy | hy
   ·have := ih.rd y hy; omega
   ·rw [List.mem_singleton] at hy
    rw [hy]
    split <;> simp only <;> omega
  ·rcases List.mem_append.1 hr with hr | hr
   ·exact ih.rt r hr
   ·rw [List.mem_singleton] at hr
    rw [hr]
    exact ⟨hl.1, by simp only; omega, rfl⟩
  ·rcases List.mem_append.1 hr with hr | hr
   ·exact ih.st r hr
   ·rw [List.mem_singleton] at hr
    rw [hr]
    exact rtS_in h hi _ _ _
theorem lineP_ok {b : Bld} (h : Railed b) {p : Pln} {s : Src} (hs : s.ok) (hp : p.ok b.L.secs.length) (up : Bool) {m : Nat} (hm : 1 ≤ m ∧ m ≤ b.between.length) (hl : p.lns.length < 3) (hr : p.rts.length ≤ 2 * p.lns.length) : (lineP b p s up m).ok b.L.secs.length ∧ (lineG b p s up m).s.ok ∧ 1 ≤ (lineP b p s up m).rts.length ∧ (lineP b p s up m).rts.length ≤ 2 * (lineP b p s up m).lns.length ∧ (lineP b p s up m).lns.length = p.lns.length + 1 := by
 obtain ⟨u1, u2, u3⟩ := lnRun_ok b up m (lnAt s.af) ⟨p.rts, [], s.af.afn 3⟩ (Src.afn_ok (Src.af_ok hs) 3) m
 have hf := lnRun_fine h up hm.2 (lnAt s.af) (g := ⟨p.rts, [], s.af.afn 3⟩) ⟨fun y hy => (by cases hy), hp.rt, hp.st⟩ m (Nat.le_refl _)
 have n2 := h.rail.n2
 have hg : lineG b p s up m = lnRun b up m (lnAt s.af) ⟨p.rts, [], s.af.afn 3⟩ m := rfl
 rw [← hg] at u1 u2 u3 hf
 simp only [List.length_nil] at u2 u3
 unfold lineP
 refine ⟨⟨?_, ?_, fun x hx => ?_, fun x hx => ?_, hf.rt, hf.st⟩, u1, ?_, ?_, ?_⟩
 ·simp only [List.length_append, List.length_singleton]; omega
 ·simp only; omega
 ·rcases List.mem_append.1 hx with hx | hx
  ·exact hp.rides x hx
  ·rw [List.mem_singleton] at hx
   rw [hx]
   simp only
   omega
 ·rcases List.mem_append.1 hx with hx | hx
  ·intro y hy
   have := hp.ride x hx y hy
   simp only
   omega
  ·rw [List.mem_singleton] at hx
   rw [hx]
   exact hf.rd
 ·simp only; omega
 ·simp only [List.length_append, List.length_singleton]; omega
 ·simp only [List.length_append, List.length_singleton]
set_option maxHeartbeats 40000000
structure Made (n : Nat) (p : Pln) : Prop where
 ok : p.ok n
 one : 1 ≤ p.rts.length
 stk : p.stk.length = 1
 ln : 1 ≤ p.lns.length
theorem next_ex (s : Src) (n : Nat) (hs : s.ok) (h0 : 0 < n) (hn : n ≤ 9223372036854775807) : ∃ (k : Nat) (s' : Src), s'.ok ∧ k < n ∧ OkV Tryz.prog 19 [.c (pB 0), vI n] [some s.box] (vI k) [some s'.box] := ⟨s.nx n, s.af, Src.af_ok hs, s.nx_lt h0, next_ok s n hs h0 hn⟩
theorem plan_ok (l : List Int) (hl : l.length ≤ 9223372036854775807) : OkG Tryz.prog 27 [.c (rInt l)] [] (Made (genL l).secs.length) (fun p => .tup [.agg [rStr (genL l).sts, rStr (genL l).pts, rSec (genL l).secs, rLnk (genL l).lnks], .agg p.val]) (fun _ => []) := by
 have h0 : Src.ok ⟨l, 0⟩ := ⟨Nat.zero_le _, hl⟩
 have hF := from_ok l
 have hB := row_ok ⟨l, 0⟩ h0
 obtain ⟨hrail, hs⟩ := rowB_rail ⟨l, 0⟩ h0
 have eL : genL l = (rowB ⟨l, 0⟩).1.L := rfl
 rw [eL]
 clear eL
 generalize (rowB ⟨l, 0⟩).1 = b at *
 generalize (rowB ⟨l, 0⟩).2 = s at *
 generalize (⟨l, 0⟩ : Src) = z at *
 obtain ⟨k0, s1, h1, d0, c0⟩ := next_ex s 6 hs (by omega) (by omega)
 obtain ⟨k1, s2, h2, d1, c1⟩ := next_ex s1 2 h1 (by omega) (by omega)
 obtain ⟨k2, s3, h3, d2, c2⟩ := next_ex s2 4 h2 (by omega) (by omega)
 obtain ⟨k3, s4, h4, d3, c3⟩ := next_ex s3 3 h3 (by omega) (by omega)
 obtain ⟨k4, s5, h5, d4, c4⟩ := next_ex s4 3 h4 (by omega) (by omega)
 obtain ⟨k5, s6, h6, d5, c5⟩ := next_ex s5 3 h5 (by omega) (by omega)
 unfold Pln.val
 unfold Bld.box at hB
 refine X_fnGP mixedX Tryz.func27 rfl (by kernel_rfl) (Nat.le_of_ble_eq_true (by kernel_rfl)) (by kernel_rfl) (fun x hx => ⟨rfl, rfl⟩) ?_
 simp only [sl0, Nat.zero_add, Nat.reduceAdd]
 repeat' (first|with_reducible (first|refine q_and ?_ ?_|exact True.intro|refine Red.o (by constructor) ?_|fail)|((with_reducible apply q_call);first|refine X_call [] (hF) rfl rfl rfl rfl rfl rfl rfl rfl rfl rfl rfl rfl rfl ?_|refine X_call [2] (hB) rfl rfl rfl rfl rfl rfl rfl rfl rfl rfl rfl rfl rfl ?_|refine X_callF [2] (c0) rfl rfl rfl rfl rfl rfl rfl rfl rfl rfl rfl rfl rfl rfl ?_)|with_reducible (refine W_seq ?_)|refine Rex.o (by (with_reducible constructor);apply Eq.refl) ?_|fail)
 refine WR_view 16 (.v (.c (tInt [150, 120, 180, 240, 300, 90]))) rfl ?_
 generalize hP : ([150, 120, 180, 240, 300, 90] : List Int) = P
 have hPl : P.length = 6 := by rw [← hP]; rfl
 have hPr : 90 ≤ P.getD ((k0 : Nat) : Int).toNat 0 ∧ P.getD ((k0 : Nat) : Int).toNat 0 ≤ 300 := by
  rw [← hP, Int.toNat_natCast]
  match k0, d0 with
  | 0, _ => decide
  | 1, _ => decide
  | 2, _ => decide
  | 3, _ => decide
  | 4, _ => decide
  | 5, _ => decide
 clear hP
 repeat' (first|with_reducible (first|refine q_and ?_ ?_|exact True.intro|refine Red.o (by constructor) ?_|fail)|((with_reducible apply q_call);first|refine X_callF [2] (c1) rfl rfl rfl rfl rfl rfl rfl rfl rfl rfl rfl rfl rfl rfl ?_|refine X_callF [2] (c2) rfl rfl rfl rfl rfl rfl rfl rfl rfl rfl rfl rfl rfl rfl ?_|refine X_callF [2] (c3) rfl rfl rfl rfl rfl rfl rfl rfl rfl rfl rfl rfl rfl rfl ?_|refine X_callF [2] (c4) rfl rfl rfl rfl rfl rfl rfl rfl rfl rfl rfl rfl rfl rfl ?_|refine X_callF [2] (c5) rfl rfl rfl rfl rfl rfl rfl rfl rfl rfl rfl rfl rfl rfl ?_)|with_reducible (first|refine W_seq ?_|refine W_block ?_)|refine Rex.o (by (with_reducible constructor);apply Eq.refl) ?_|((with_reducible apply q_VOk);exact fun _ => ⟨rfl,rfl⟩)|((with_reducible apply q_CRB);kernel_rfl)|omega)
 generalize P.getD ((k0 : Nat) : Int).toNat 0 = per at *
 clear hPl
 obtain ⟨r1, r2, r3, r4⟩ := hrail
 obtain ⟨e1, e2, e3, e4, e5, e6⟩ := r4
 have q1 := r1.n1
 have q2 := r1.n2
 refine W_loopS (fun g : Nat × Pln × Src => SS [sC 2 (pB 0), sC 3 (pB 1), sC 4 (pB 2), sC 5 (pB 3), sC 6 (pB 4), sI 7 g.1] [some (.cells [.c (.f .nils), .c (.f .nils), .c (.f .nils), .c (.f .nils)]), some (.cells [xI 0, .c (.f .nils), .c (.f .nils), .c (.f .nils), .c (.f .nils), .c (.f .nils), .c (.f .nils), .c (.f .nils)]), some g.2.2.box, some (.cells [tStr b.L.sts, tStr b.L.pts, tSec b.L.secs, tLnk b.L.lnks, tTrk b.tracks, tTrk b.between, .c (.f .nils)]), some (.cells [xI (g.2.1).per, rSk (g.2.1).stk, tRt (g.2.1).rts, tLin (g.2.1).lns, tChn (g.2.1).chg, tTrn (g.2.1).trn, tSyn (g.2.1).syn, tDem (g.2.1).dem])]) (fun g => g.2.2.ok ∧ g.2.1.ok b.L.secs.length ∧ g.1 + g.2.1.lns.length = 1 + k5 ∧ g.2.1.rts.length ≤ 2 * g.2.1.lns.length ∧ (0 < g.2.1.lns.length → 1 ≤ g.2.1.rts.length) ∧ g.2.1.stk.length = 1 ∧ g.2.1.trn.length = 0 ∧ g.2.1.per = per ∧ g.2.1.chg = [] ∧ g.2.1.syn = [] ∧ g.2.1.dem = []) (fun g => g.1) (1 + k5, ⟨per, [⟨⟨#[88]⟩, 1 + k1, 10000 + 5000 * k2, 400 + 200 * k3, 400 + 200 * k4⟩], [], [], [], [], [], []⟩, s6) ?_ ⟨h6, ⟨by simp, by simp, fun x hx => (by cases hx), fun x hx => (by cases hx), fun x hx => (by cases hx), fun x hx => (by cases hx)⟩, by simp, by simp, by simp, rfl, rfl, rfl, rfl, rfl, rfl⟩ ?_
 ·
  refine X_weak rfl rfl rfl ?_ ?_ <;> repeat' (first|with_reducible (first|refine Wk.o (by constructor) ?_|refine q_and ?_ ?_|exact True.intro)|refine q_AgS rfl ?_ ?_|refine HLe.cells ?_ ?_|exact (rfl : known _ = _)|omega)
  all_goals rfl
 clear c0 c1 c2 c3 c4 c5 h0 hF hB
 rintro ⟨k, p, s⟩ ⟨hs, hp, hk, hr, hr1, hsk, ht, hper, hc, hy, hd⟩
 simp only at hs hp hk hr hr1 hsk ht hper hc hy hd
 by_cases hk0 : 0 < k
 ·obtain ⟨u, sa, ha, du, cu⟩ := next_ex s 2 hs (by omega) (by omega)
  obtain ⟨v, sb, hsb, dv, cv⟩ := next_ex sa b.between.length ha (by omega) (by omega)
  have hLn := line_ok b r1 p sb hsb (decide ((u : Int) = 0)) (1 + v) (by omega) (by omega) (by omega)
  obtain ⟨w1, w2, w3, w4, w5⟩ := lineP_ok ⟨r1, r2, r3, ⟨e1, e2, e3, e4, e5, e6⟩⟩ hsb hp (decide ((u : Int) = 0)) (m := 1 + v) (by omega) (by omega) hr
  rw [show ((1 + v : Nat) : Int) = 1 + (v : Int) by omega] at hLn
  unfold Bld.box Pln.box at hLn
  have z1 : (lineP b p sb (decide ((u : Int) = 0)) (1 + v)).stk = p.stk := rfl
  have z2 : (lineP b p sb (decide ((u : Int) = 0)) (1 + v)).trn = p.trn := rfl
  have z3 : (lineP b p sb (decide ((u : Int) = 0)) (1 + v)).per = p.per := rfl
  have z4 : (lineP b p sb (decide ((u : Int) = 0)) (1 + v)).chg = p.chg := rfl
  have z5 : (lineP b p sb (decide ((u : Int) = 0)) (1 + v)).syn = p.syn := rfl
  have z6 : (lineP b p sb (decide ((u : Int) = 0)) (1 + v)).dem = p.dem := rfl
  generalize lineP b p sb (decide ((u : Int) = 0)) (1 + v) = p2 at *
  generalize (lineG b p sb (decide ((u : Int) = 0)) (1 + v)).s = s2 at *
  repeat' (first|with_reducible (first|refine q_and ?_ ?_|exact True.intro|refine Red.o (by constructor) ?_|fail)|((with_reducible apply q_call);first|refine X_callF [2] (cu) rfl rfl rfl rfl rfl rfl rfl rfl rfl rfl rfl rfl rfl rfl ?_|refine X_callF [2] (cv) rfl rfl rfl rfl rfl rfl rfl rfl rfl rfl rfl rfl rfl rfl ?_|refine X_callF [3, 2, 4] (hLn) rfl rfl rfl rfl rfl rfl rfl rfl rfl rfl rfl rfl rfl rfl ?_)|with_reducible (first|refine W_seq ?_|refine W_block ?_)|((with_reducible apply q_cond);refine X_cond rfl ?_ ?_;all_goals (intro hbq;(try simp only [bq] at hbq);(try (exfalso;omega))))|refine Rex.o (by (with_reducible constructor);apply Eq.refl) ?_|((with_reducible apply q_CRB);kernel_rfl)|omega)
  refine LoopK_n ((k - 1, p2, s2)) ?_ (⟨w2, w1, by simp only; omega, w4, fun _ => w3, by simp only [z1]; exact hsk, by simp only [z2]; exact ht, z3.trans hper, z4.trans hc, z5.trans hy, z6.trans hd⟩) (by (try dsimp only); omega)
  refine X_weak rfl rfl rfl ?_ ?_ <;> repeat' (first|with_reducible (first|refine Wk.o (by constructor) ?_|refine q_and ?_ ?_|exact True.intro)|refine q_AgS rfl ?_ ?_|refine HLe.cells ?_ ?_|exact (rfl : known _ = _)|omega)
  all_goals first
   | omega
   | rfl
 ·have hk1 : k = 0 := by omega
  subst hk1
  have hTu := turns_ok p _ hp ht s hs
  unfold Pln.box at hTu
  repeat' (first|with_reducible (first|refine q_and ?_ ?_|exact True.intro|refine Red.o (by constructor) ?_|fail)|with_reducible (refine W_seq ?_)|((with_reducible apply q_cond);refine X_cond rfl ?_ ?_;all_goals (intro hbq;(try simp only [bq] at hbq);(try (exfalso;omega))))|refine Rex.o (by (with_reducible constructor);apply Eq.refl) ?_|fail)
  refine X_callG [2, 4] hTu rfl rfl rfl rfl rfl rfl rfl rfl ?_
  rintro ⟨s2, tr⟩ ⟨hs2, htr⟩
  refine ⟨_, _, _, _, rfl, rfl, rfl, rfl, rfl, ?_⟩
  simp only at hs2 htr
  obtain ⟨kc, s3, hs3, dkc, c7⟩ := next_ex s2 3 hs2 (by omega) (by omega)
  repeat' (first|with_reducible (first|refine q_and ?_ ?_|exact True.intro|refine Red.o (by constructor) ?_|fail)|((with_reducible apply q_call);refine X_callF [2] (c7) rfl rfl rfl rfl rfl rfl rfl rfl rfl rfl rfl rfl rfl rfl ?_)|with_reducible (first|refine W_seq ?_|refine W_block ?_)|refine Rex.o (by (with_reducible constructor);apply Eq.refl) ?_|fail)
  clear hTu c7
  have hpo : ∀ (c : List Chn) (t : List Trn), ({ p with chg := c, trn := t } : Pln).ok b.L.secs.length := fun c t => ⟨hp.lns, hp.rts, hp.rides, hp.ride, hp.rt, hp.st⟩
  have hS : ∀ (c : List Chn) (t : List Trn) (i j : Int), 0 ≤ i ∧ i < p.lns.length → 0 ≤ j ∧ j < (p.lns.getD i.toNat ⟨⟨#[]⟩, 0, 0, []⟩).rides.length → OkV Tryz.prog 48 [.agg [xI p.per, rSk p.stk, rRt p.rts, rLin p.lns, rChn c, rTrn t, rSyn p.syn, rDem p.dem], .c (xI i), .c (xI j)] [] (vI (stopV p i j)) [] := fun c t i j hi hj => stop_ok { p with chg := c, trn := t } _ (hpo c t) i j hi hj
  have hT : ∀ (c : List Chn) (t : List Trn) (i j : Int), 0 ≤ i ∧ i < p.lns.length → 0 ≤ j ∧ j < (p.lns.getD i.toNat ⟨⟨#[]⟩, 0, 0, []⟩).rides.length → OkV Tryz.prog 49 [.agg [xI p.per, rSk p.stk, rRt p.rts, rLin p.lns, rChn c, rTrn t, rSyn p.syn, rDem p.dem], .c (xI i), .c (xI j)] [] (vI (startV p i j)) [] := fun c t i j hi hj => start_ok { p with chg := c, trn := t } _ (hpo c t) i j hi hj
  have hRA := fun i j hi hj => (ride_at hp (i := i) (j := j) hi hj).2.2.2.2
  have hrd : ∀ i : Int, 0 ≤ i ∧ i < p.lns.length → 1 ≤ (p.lns.getD i.toNat ⟨⟨#[]⟩, 0, 0, []⟩).rides.length ∧ (p.lns.getD i.toNat ⟨⟨#[]⟩, 0, 0, []⟩).rides.length ≤ 2 := fun i hi => hp.rides _ (getD_mem (by omega))
  have hpp : ((per.toNat : Nat) : Int) = per := by omega
  refine W_loopS (fun g : Nat × Src × List Chn => SS [sC 2 (pB 0), sC 3 (pB 1), sC 4 (pB 2), sC 5 (pB 3), sC 6 (pB 4), sI 8 g.1] [some (.cells [.c (.f .nils), .c (.f .nils), .c (.f .nils), .c (.f .nils)]), some (.cells [xI 0, .c (.f .nils), .c (.f .nils), .c (.f .nils), .c (.f .nils), .c (.f .nils), .c (.f .nils), .c (.f .nils)]), some g.2.1.box, some (.cells [tStr b.L.sts, tStr b.L.pts, tSec b.L.secs, tLnk b.L.lnks, tTrk b.tracks, tTrk b.between, .c (.f .nils)]), some (.cells [xI p.per, rSk p.stk, tRt p.rts, tLin p.lns, tChn g.2.2, tTrn tr, tSyn p.syn, tDem p.dem])]) (fun g => g.2.1.ok ∧ g.2.2.length + g.1 ≤ 3) (fun g => g.1) (kc, s3, p.chg) ?_ ⟨hs3, by simp only [hc, List.length_nil]; omega⟩ ?_
  ·
   refine X_weak rfl rfl rfl ?_ ?_ <;> repeat' (first|with_reducible (first|refine Wk.o (by constructor) ?_|refine q_and ?_ ?_|exact True.intro)|refine q_AgS rfl ?_ ?_|refine HLe.cells ?_ ?_)
   all_goals rfl
  clear hs3 s3
  rintro ⟨k, s3, ch⟩ ⟨hs3, hch⟩
  simp only at hs3 hch
  by_cases hk0 : 0 < k ∧ 1 < p.lns.length
  ·obtain ⟨a, sa, ha, da, ca⟩ := next_ex s3 p.lns.length hs3 (by omega) (by omega)
   obtain ⟨w, sb, hb, dw, cw⟩ := next_ex sa 3 ha (by omega) (by omega)
   have m1 := Int.emod_lt_of_pos ((a : Int) + 1) (show (0 : Int) < p.lns.length by omega)
   have m2 := Int.emod_nonneg ((a : Int) + 1) (show (p.lns.length : Int) ≠ 0 by omega)
   have ra := hrd a (by omega)
   have rt := hrd (((a : Int) + 1) % p.lns.length) (by omega)
   obtain ⟨x, sc, hsc, dx, cx⟩ := next_ex sb (p.lns.getD (a : Int).toNat ⟨⟨#[]⟩, 0, 0, []⟩).rides.length hb (by omega) (by omega)
   obtain ⟨y, sd, hsd, dy, cy⟩ := next_ex sc (p.lns.getD (((a : Int) + 1) % p.lns.length).toNat ⟨⟨#[]⟩, 0, 0, []⟩).rides.length hsc (by omega) (by omega)
   obtain ⟨u, se, hse, du, cu⟩ := next_ex sd 20 hsd (by omega) (by omega)
   obtain ⟨v, sf, hsf, dv, cv⟩ := next_ex se per.toNat hse (by omega) (by omega)
   rw [hpp, ← hper] at cv
   have q3 := hS ch tr a x (by omega) (by omega)
   have q4 := hT ch tr (((a : Int) + 1) % p.lns.length) y (by omega) (by omega)
   have q5 := (hRA a x (by omega) (by omega)).1
   have q6 := (hRA (((a : Int) + 1) % p.lns.length) y (by omega) (by omega)).2
   generalize stopV p a x = v1 at *
   generalize startV p (((a : Int) + 1) % p.lns.length) y = v2 at *
   clear hS hT hRA hrd
   repeat' (first|with_reducible (first|refine q_and ?_ ?_|exact True.intro|refine Red.o (by constructor) ?_|assumption)|((with_reducible apply q_call);first|refine X_callF [2] (ca) rfl rfl rfl rfl rfl rfl rfl rfl rfl rfl rfl rfl rfl rfl ?_|refine X_callF [2] (cw) rfl rfl rfl rfl rfl rfl rfl rfl rfl rfl rfl rfl rfl rfl ?_|refine X_callF [2] (cx) rfl rfl rfl rfl rfl rfl rfl rfl rfl rfl rfl rfl rfl rfl ?_|refine X_callF [2] (cy) rfl rfl rfl rfl rfl rfl rfl rfl rfl rfl rfl rfl rfl rfl ?_|refine X_callF [2] (cu) rfl rfl rfl rfl rfl rfl rfl rfl rfl rfl rfl rfl rfl rfl ?_|refine X_callF [2] (cv) rfl rfl rfl rfl rfl rfl rfl rfl rfl rfl rfl rfl rfl rfl ?_|refine X_pure (q3) rfl ?_|refine X_pure (q4) rfl ?_)|with_reducible (first|refine W_seq ?_|refine W_block ?_)|((with_reducible apply q_cond);refine X_cond rfl ?_ ?_;all_goals (intro hbq;(try simp only [bq] at hbq);(try (exfalso;omega))))|refine Rex.o (by (with_reducible constructor);apply Eq.refl) ?_|(intro (hgq : (_ : Bool) = true);(try simp only [bq] at hgq))|((with_reducible apply q_VOk);exact fun _ => ⟨rfl,rfl⟩)|((with_reducible apply q_CRB);kernel_rfl)|((with_reducible apply q_bt);simp only [bq])|((with_reducible apply q_eqN);rfl)|omega|(dsimp only;omega))
   ·
    refine LoopK_n ((k - 1, sf, ch ++ [⟨a, x, ((a : Int) + 1) % p.lns.length, y, u, u + v, w⟩])) ?_ (⟨hsf, by simp only [List.length_append, List.length_singleton]; omega⟩) (by (try dsimp only); omega)
    refine X_weak rfl rfl rfl ?_ ?_ <;> repeat' (first|with_reducible (first|refine Wk.o (by constructor) ?_|refine q_and ?_ ?_|exact True.intro)|refine q_AgS rfl ?_ ?_|refine HLe.cells ?_ ?_|exact (rfl : known _ = _)|omega)
    all_goals first
     | rfl
     | omega
     | (simp [fChn, fI]; done)
     | (simp [fChn, fI]; omega)
   ·
    refine LoopK_n ((k - 1, sf, ch)) ?_ (⟨hsf, by simp only; omega⟩) (by (try dsimp only); omega)
    refine X_weak rfl rfl rfl ?_ ?_ <;> repeat' (first|with_reducible (first|refine Wk.o (by constructor) ?_|refine q_and ?_ ?_|exact True.intro)|refine q_AgS rfl ?_ ?_|refine HLe.cells ?_ ?_|exact (rfl : known _ = _)|omega)
    all_goals first
     | rfl
     | omega
  ·obtain ⟨f, s4, hs4, df, c4⟩ := next_ex s3 4 hs3 (by omega) (by omega)
   obtain ⟨o, s5, hs5, d5, c5⟩ := next_ex s4 per.toNat hs4 (by omega) (by omega)
   rw [hpp, ← hper] at c5
   obtain ⟨n6, s6, hs6, dn6, c6⟩ := next_ex s5 3 hs5 (by omega) (by omega)
   obtain ⟨n7, s7, hs7, dn7, c7⟩ := next_ex s4 3 hs4 (by omega) (by omega)
   clear hS hT hRA hrd
   have hyl : p.syn.length ≤ 3 := by rw [hy]; simp
   obtain ⟨YA, hYA⟩ : ∃ YA : List Syn, YA = p.syn ++ [⟨0, 0, 1, 0, o⟩] := ⟨_, rfl⟩
   by_cases hf : (f : Int) = 3 ∧ 1 < p.lns.length
   ·
    repeat' (first|with_reducible (first|refine q_and ?_ ?_|exact True.intro|refine Red.o (by constructor) ?_|assumption)|((with_reducible apply q_call);first|refine X_callF [2] (c4) rfl rfl rfl rfl rfl rfl rfl rfl rfl rfl rfl rfl rfl rfl ?_|refine X_callF [2] (c5) rfl rfl rfl rfl rfl rfl rfl rfl rfl rfl rfl rfl rfl rfl ?_|refine X_callF [2] (c6) rfl rfl rfl rfl rfl rfl rfl rfl rfl rfl rfl rfl rfl rfl ?_)|with_reducible (first|refine W_seq ?_|refine W_block ?_)|((with_reducible apply q_cond);refine X_cond rfl ?_ ?_;all_goals (intro hbq;(try simp only [bq] at hbq);(try (exfalso;omega))))|refine Rex.o (by (with_reducible constructor);apply Eq.refl) ?_|(intro (hgq : (_ : Bool) = true);(try simp only [bq] at hgq))|((with_reducible apply q_CRB);kernel_rfl)|((with_reducible apply q_bt);simp only [bq])|((with_reducible apply q_eqN);rfl)|omega)
    refine W_loopS (fun g : Nat × Src × List Dem => SS [sC 2 (pB 0), sC 3 (pB 1), sC 4 (pB 2), sC 5 (pB 3), sC 6 (pB 4), sI 10 g.1] [some (.cells [.c (.f .nils), .c (.f .nils), .c (.f .nils), .c (.f .nils)]), some (.cells [xI 0, .c (.f .nils), .c (.f .nils), .c (.f .nils), .c (.f .nils), .c (.f .nils), .c (.f .nils), .c (.f .nils)]), some g.2.1.box, some (.cells [tStr b.L.sts, tStr b.L.pts, tSec b.L.secs, tLnk b.L.lnks, tTrk b.tracks, tTrk b.between, .c (.f .nils)]), some (.cells [xI p.per, rSk p.stk, tRt p.rts, tLin p.lns, tChn ch, tTrn tr, tSyn YA, tDem g.2.2])]) (fun g => g.2.1.ok ∧ g.2.2.length + g.1 ≤ 3) (fun g => g.1) (n6, s6, p.dem) ?_ ⟨hs6, by simp only [hd, List.length_nil]; omega⟩ ?_
    ·
     refine X_weak rfl rfl rfl ?_ ?_ <;> repeat' (first|with_reducible (first|refine Wk.o (by constructor) ?_|refine q_and ?_ ?_|exact True.intro)|refine q_AgS rfl ?_ ?_|refine HLe.cells ?_ ?_)
     all_goals first
      | rfl
      | (rw [hYA, hy]; simp [fSyn, fI]; done)
    rintro ⟨k, s8, dm⟩ ⟨hs8, hdm⟩
    simp only at hs8 hdm
    by_cases hk1 : 0 < k
    ·obtain ⟨a, sa, ha, da, ca⟩ := next_ex s8 b.L.sts.length hs8 (by omega) (by omega)
     obtain ⟨x, sb, hb, dx, cx⟩ := next_ex sa (b.L.sts.length - 1) ha (by omega) (by omega)
     obtain ⟨u, sc, hsc, du, cu⟩ := next_ex sb 9 hb (by omega) (by omega)
     rw [show ((b.L.sts.length - 1 : Nat) : Int) = (b.L.sts.length : Int) - 1 by omega] at cx
     repeat' (first|with_reducible (first|refine q_and ?_ ?_|exact True.intro|refine Red.o (by constructor) ?_|fail)|((with_reducible apply q_call);first|refine X_callF [2] (ca) rfl rfl rfl rfl rfl rfl rfl rfl rfl rfl rfl rfl rfl rfl ?_|refine X_callF [2] (cx) rfl rfl rfl rfl rfl rfl rfl rfl rfl rfl rfl rfl rfl rfl ?_|refine X_callF [2] (cu) rfl rfl rfl rfl rfl rfl rfl rfl rfl rfl rfl rfl rfl rfl ?_)|with_reducible (first|refine W_seq ?_|refine W_block ?_)|((with_reducible apply q_cond);refine X_cond rfl ?_ ?_;all_goals (intro hbq;(try simp only [bq] at hbq);(try (exfalso;omega))))|refine Rex.o (by (with_reducible constructor);apply Eq.refl) ?_|((with_reducible apply q_CRB);kernel_rfl)|((with_reducible apply q_eqN);rfl)|omega|(dsimp only;omega))
     refine LoopK_n ((k - 1, sc, dm ++ [⟨a, ((a : Int) + 1 + x) % b.L.sts.length, 1 + u⟩])) ?_ (⟨hsc, by simp only [List.length_append, List.length_singleton]; omega⟩) (by (try dsimp only); omega)
     refine X_weak rfl rfl rfl ?_ ?_ <;> repeat' (first|with_reducible (first|refine Wk.o (by constructor) ?_|refine q_and ?_ ?_|exact True.intro)|refine q_AgS rfl ?_ ?_|refine HLe.cells ?_ ?_|exact (rfl : known _ = _)|omega)
     all_goals first
      | rfl
      | omega
      | (simp [fDem, fI]; done)
      | (simp [fDem, fI]; omega)
    ·
     repeat' (first|with_reducible (first|refine q_and ?_ ?_|exact True.intro|refine Red.o (by constructor) ?_|fail)|with_reducible (refine W_seq ?_)|((with_reducible apply q_cond);refine X_cond rfl ?_ ?_;all_goals (intro hbq;(try simp only [bq] at hbq);(try (exfalso;omega))))|refine Rex.o (by (with_reducible constructor);apply Eq.refl) ?_|((with_reducible apply q_CRB);kernel_rfl))
     refine X_retGP rfl (⟨p.per, p.stk, p.rts, p.lns, ch, tr, YA, dm⟩ : Pln) ⟨⟨hp.lns, hp.rts, hp.rides, hp.ride, hp.rt, hp.st⟩, hr1 (by omega), hsk, by simp only; omega⟩ ?_ ?_
     ·trivial
     ·rfl
   ·
    repeat' (first|with_reducible (first|refine q_and ?_ ?_|exact True.intro|refine Red.o (by constructor) ?_|assumption)|((with_reducible apply q_call);first|refine X_callF [2] (c4) rfl rfl rfl rfl rfl rfl rfl rfl rfl rfl rfl rfl rfl rfl ?_|refine X_callF [2] (c7) rfl rfl rfl rfl rfl rfl rfl rfl rfl rfl rfl rfl rfl rfl ?_)|with_reducible (first|refine W_seq ?_|refine W_block ?_)|((with_reducible apply q_cond);refine X_cond rfl ?_ ?_;all_goals (intro hbq;(try simp only [bq] at hbq);(try (exfalso;omega))))|refine Rex.o (by (with_reducible constructor);apply Eq.refl) ?_|(intro (hgq : (_ : Bool) = true);(try simp only [bq] at hgq))|((with_reducible apply q_bt);simp only [bq]))
    refine W_loopS (fun g : Nat × Src × List Dem => SS [sC 2 (pB 0), sC 3 (pB 1), sC 4 (pB 2), sC 5 (pB 3), sC 6 (pB 4), sI 10 g.1] [some (.cells [.c (.f .nils), .c (.f .nils), .c (.f .nils), .c (.f .nils)]), some (.cells [xI 0, .c (.f .nils), .c (.f .nils), .c (.f .nils), .c (.f .nils), .c (.f .nils), .c (.f .nils), .c (.f .nils)]), some g.2.1.box, some (.cells [tStr b.L.sts, tStr b.L.pts, tSec b.L.secs, tLnk b.L.lnks, tTrk b.tracks, tTrk b.between, .c (.f .nils)]), some (.cells [xI p.per, rSk p.stk, tRt p.rts, tLin p.lns, tChn ch, tTrn tr, tSyn p.syn, tDem g.2.2])]) (fun g => g.2.1.ok ∧ g.2.2.length + g.1 ≤ 3) (fun g => g.1) (n7, s7, p.dem) ?_ ⟨hs7, by simp only [hd, List.length_nil]; omega⟩ ?_
    ·
     refine X_weak rfl rfl rfl ?_ ?_ <;> repeat' (first|with_reducible (first|refine Wk.o (by constructor) ?_|refine q_and ?_ ?_|exact True.intro)|refine q_AgS rfl ?_ ?_|refine HLe.cells ?_ ?_)
     all_goals first
      | rfl
      | (rw [hYA, hy]; simp [fSyn, fI]; done)
    rintro ⟨k, s8, dm⟩ ⟨hs8, hdm⟩
    simp only at hs8 hdm
    by_cases hk1 : 0 < k
    ·obtain ⟨a, sa, ha, da, ca⟩ := next_ex s8 b.L.sts.length hs8 (by omega) (by omega)
     obtain ⟨x, sb, hb, dx, cx⟩ := next_ex sa (b.L.sts.length - 1) ha (by omega) (by omega)
     obtain ⟨u, sc, hsc, du, cu⟩ := next_ex sb 9 hb (by omega) (by omega)
     rw [show ((b.L.sts.length - 1 : Nat) : Int) = (b.L.sts.length : Int) - 1 by omega] at cx
     repeat' (first|with_reducible (first|refine q_and ?_ ?_|exact True.intro|refine Red.o (by constructor) ?_|fail)|((with_reducible apply q_call);first|refine X_callF [2] (ca) rfl rfl rfl rfl rfl rfl rfl rfl rfl rfl rfl rfl rfl rfl ?_|refine X_callF [2] (cx) rfl rfl rfl rfl rfl rfl rfl rfl rfl rfl rfl rfl rfl rfl ?_|refine X_callF [2] (cu) rfl rfl rfl rfl rfl rfl rfl rfl rfl rfl rfl rfl rfl rfl ?_)|with_reducible (first|refine W_seq ?_|refine W_block ?_)|((with_reducible apply q_cond);refine X_cond rfl ?_ ?_;all_goals (intro hbq;(try simp only [bq] at hbq);(try (exfalso;omega))))|refine Rex.o (by (with_reducible constructor);apply Eq.refl) ?_|((with_reducible apply q_CRB);kernel_rfl)|((with_reducible apply q_eqN);rfl)|omega|(dsimp only;omega))
     refine LoopK_n ((k - 1, sc, dm ++ [⟨a, ((a : Int) + 1 + x) % b.L.sts.length, 1 + u⟩])) ?_ (⟨hsc, by simp only [List.length_append, List.length_singleton]; omega⟩) (by (try dsimp only); omega)
     refine X_weak rfl rfl rfl ?_ ?_ <;> repeat' (first|with_reducible (first|refine Wk.o (by constructor) ?_|refine q_and ?_ ?_|exact True.intro)|refine q_AgS rfl ?_ ?_|refine HLe.cells ?_ ?_|exact (rfl : known _ = _)|omega)
     all_goals first
      | rfl
      | omega
      | (simp [fDem, fI]; done)
      | (simp [fDem, fI]; omega)
    ·
     repeat' (first|with_reducible (first|refine q_and ?_ ?_|exact True.intro|refine Red.o (by constructor) ?_|fail)|with_reducible (refine W_seq ?_)|((with_reducible apply q_cond);refine X_cond rfl ?_ ?_;all_goals (intro hbq;(try simp only [bq] at hbq);(try (exfalso;omega))))|refine Rex.o (by (with_reducible constructor);apply Eq.refl) ?_|((with_reducible apply q_CRB);kernel_rfl))
     refine X_retGP rfl (⟨p.per, p.stk, p.rts, p.lns, ch, tr, p.syn, dm⟩ : Pln) ⟨⟨hp.lns, hp.rts, hp.rides, hp.ride, hp.rt, hp.st⟩, hr1 (by omega), hsk, by simp only; omega⟩ ?_ ?_
     ·trivial
     ·rfl
set_option maxHeartbeats 40000000
theorem ahead_ex (L : Lay) (hV : Valid L) (st : List Stp) (ov how : Int) (h1 : 1 ≤ st.length) (h2 : st.length ≤ 100) : ∃ r : Rte, (r = ⟨st, ov⟩ ∨ ∃ x, r = ⟨st ++ [x], 1⟩) ∧ OkV Tryz.prog 28 [vLay L, vR2 st ov, vI how] [] (vR2 r.st r.ov) [] := by
 have hH := refHops_ok L (st.getD ((st.length : Int) - 1).toNat st0) hV
 have hlen := hV.n4
 have hhl : (hopsL L (st.getD ((st.length : Int) - 1).toNat st0)).length ≤ 192 := by
  unfold hopsL
  exact Nat.le_trans (List.length_filterMap_le _ _) hlen
 unfold vLay at hH ⊢
 have hH2 := hH
 generalize hopsL L (st.getD ((st.length : Int) - 1).toNat st0) = hs at *
 by_cases hc : how ≠ 0 ∨ 0 < ov ∨ hs.length = 0
 ·refine ⟨⟨st, ov⟩, .inl rfl, ?_⟩
  refine X_fnP mixedX Tryz.func28 rfl (by kernel_rfl) (Nat.le_of_ble_eq_true (by kernel_rfl)) (by kernel_rfl) rfl rfl ?_
  simp only [sl0, Nat.zero_add, Nat.reduceAdd]
  repeat' (first|with_reducible (first|refine q_and ?_ ?_|exact True.intro|refine Red.o (by constructor) ?_|assumption)|((with_reducible apply q_call);refine X_pure (hH) rfl ?_)|with_reducible (refine W_seq ?_)|((with_reducible apply q_cond);refine X_cond rfl ?_ ?_;all_goals (intro hbq;(try simp only [bq] at hbq);(try (exfalso;omega))))|refine Rex.o (by (with_reducible constructor);apply Eq.refl) ?_|(intro (hgq : (_ : Bool) = true);(try simp only [bq] at hgq))|(intro (hgq : (_ : Bool) = false);(try simp only [bq] at hgq))|((with_reducible apply q_VOk);exact fun _ => ⟨rfl,rfl⟩)|((with_reducible apply q_CRB);kernel_rfl)|((with_reducible apply q_bt);simp only [bq])|(simp only [hgq,bq];done)|omega)
  all_goals rfl
 ·have h0 : hs.length ≠ 0 := by omega
  have hw : how = 0 := by omega
  have hov : ¬ 0 < ov := by omega
  clear hH
  by_cases ha : ∃ j, j < st.length ∧ (st.getD j { sec := 0, dir := 0 }).sec = (hs.getD (0 : Int).toNat { sec := 0, dir := 0, pt := 0, ps := 0 }).sec
  ·refine ⟨⟨st, ov⟩, .inl rfl, ?_⟩
   have hH := hH2
   refine X_fnP mixedX Tryz.func28 rfl (by kernel_rfl) (Nat.le_of_ble_eq_true (by kernel_rfl)) (by kernel_rfl) rfl rfl ?_
   simp only [sl0, Nat.zero_add, Nat.reduceAdd]
   repeat' (first|with_reducible (first|refine q_and ?_ ?_|exact True.intro|refine Red.o (by constructor) ?_|assumption)|((with_reducible apply q_call);refine X_pure (hH) rfl ?_)|with_reducible (first|refine W_seq ?_|refine W_block ?_)|((with_reducible apply q_cond);refine X_cond rfl ?_ ?_;all_goals (intro hbq;(try simp only [bq] at hbq);(try (exfalso;omega))))|refine Rex.o (by (with_reducible constructor);apply Eq.refl) ?_|(intro (hgq : (_ : Bool) = true);(try simp only [bq] at hgq))|(intro (hgq : (_ : Bool) = false);(try simp only [bq] at hgq))|((with_reducible apply q_VOk);exact fun _ => ⟨rfl,rfl⟩)|((with_reducible apply q_CRB);kernel_rfl)|((with_reducible apply q_bt);simp only [bq])|omega)
   clear hH hH2
   refine W_loopS (fun i : Nat => SS [sC 4 (pB 1), sC 6 (pB 2), sC 7 (rHop hs), sC 34 (rStp st), sI 35 st.length, sI 36 i] [none, some (.cells [rStp st, xI ov]), some (.cells [.c (.f .nils), xI 0])]) (fun i => i ≤ st.length ∧ ∀ j, j < i → (st.getD j { sec := 0, dir := 0 }).sec ≠ (hs.getD (0 : Int).toNat { sec := 0, dir := 0, pt := 0, ps := 0 }).sec) (fun i => st.length - i) 0 ?_ ⟨by omega, fun j hj => by omega⟩ ?_
   ·
    refine X_weak rfl rfl rfl ?_ ?_ <;> repeat' (first|with_reducible (first|refine Wk.o (by constructor) ?_|refine q_and ?_ ?_|exact True.intro)|refine q_AgS rfl ?_ ?_|exact (rfl : known _ = _)|omega)
   rintro i ⟨hi, hj⟩
   by_cases hil : i < st.length
   ·by_cases he : (st.getD (i : Int).toNat { sec := 0, dir := 0 }).sec = (hs.getD (0 : Int).toNat { sec := 0, dir := 0, pt := 0, ps := 0 }).sec
    ·
     repeat' (first|with_reducible (first|refine q_and ?_ ?_|exact True.intro|refine Red.o (by constructor) ?_|assumption)|with_reducible (first|refine W_seq ?_|refine W_block ?_)|((with_reducible apply q_cond);refine X_cond rfl ?_ ?_;all_goals (intro hbq;(try simp only [bq] at hbq);(try (exfalso;omega))))|refine Rex.o (by (with_reducible constructor);apply Eq.refl) ?_|((with_reducible apply q_VOk);exact fun _ => ⟨rfl,rfl⟩)|((with_reducible apply q_CRB);kernel_rfl)|omega)
     all_goals rfl
    ·have hj2 : ∀ j, j < i + 1 → (st.getD j { sec := 0, dir := 0 }).sec ≠ (hs.getD (0 : Int).toNat { sec := 0, dir := 0, pt := 0, ps := 0 }).sec := fun j hj1 => by
      by_cases h : j < i
      ·exact hj j h
      ·rw [show j = i by omega]; exact he
     repeat' (first|with_reducible (first|refine q_and ?_ ?_|exact True.intro|refine Red.o (by constructor) ?_|assumption)|with_reducible (first|refine W_seq ?_|refine W_block ?_)|((with_reducible apply q_cond);refine X_cond rfl ?_ ?_;all_goals (intro hbq;(try simp only [bq] at hbq);(try (exfalso;omega))))|refine Rex.o (by (with_reducible constructor);apply Eq.refl) ?_|((with_reducible apply q_VOk);exact fun _ => ⟨rfl,rfl⟩)|((with_reducible apply q_CRB);kernel_rfl)|omega)
     refine LoopK_n (i + 1) ?_ (⟨by omega, hj2⟩) (by (try dsimp only); omega)
     refine X_weak rfl rfl rfl ?_ ?_ <;> repeat' (first|with_reducible (first|refine Wk.o (by constructor) ?_|refine q_and ?_ ?_|exact True.intro)|refine q_AgS rfl ?_ ?_|exact (rfl : known _ = _)|omega)
     all_goals rfl
   ·exfalso
    obtain ⟨j, k1, k2⟩ := ha
    exact hj j (by omega) k2
  ·refine ⟨⟨st ++ [⟨(hs.getD (0 : Int).toNat { sec := 0, dir := 0, pt := 0, ps := 0 }).sec, (hs.getD (0 : Int).toNat { sec := 0, dir := 0, pt := 0, ps := 0 }).dir⟩], 1⟩, .inr ⟨_, rfl⟩, ?_⟩
   have hH := hH2
   refine X_fnP mixedX Tryz.func28 rfl (by kernel_rfl) (Nat.le_of_ble_eq_true (by kernel_rfl)) (by kernel_rfl) rfl rfl ?_
   simp only [sl0, Nat.zero_add, Nat.reduceAdd]
   repeat' (first|with_reducible (first|refine q_and ?_ ?_|exact True.intro|refine Red.o (by constructor) ?_|assumption)|((with_reducible apply q_call);refine X_pure (hH) rfl ?_)|with_reducible (first|refine W_seq ?_|refine W_block ?_)|((with_reducible apply q_cond);refine X_cond rfl ?_ ?_;all_goals (intro hbq;(try simp only [bq] at hbq);(try (exfalso;omega))))|refine Rex.o (by (with_reducible constructor);apply Eq.refl) ?_|(intro (hgq : (_ : Bool) = true);(try simp only [bq] at hgq))|(intro (hgq : (_ : Bool) = false);(try simp only [bq] at hgq))|((with_reducible apply q_VOk);exact fun _ => ⟨rfl,rfl⟩)|((with_reducible apply q_CRB);kernel_rfl)|((with_reducible apply q_bt);simp only [bq])|omega)
   clear hH hH2
   refine W_loopS (fun i : Nat => SS [sC 4 (pB 1), sC 6 (pB 2), sC 7 (rHop hs), sC 34 (rStp st), sI 35 st.length, sI 36 i] [none, some (.cells [rStp st, xI ov]), some (.cells [.c (.f .nils), xI 0])]) (fun i => i ≤ st.length) (fun i => st.length - i) 0 ?_ (by omega) ?_
   ·
    refine X_weak rfl rfl rfl ?_ ?_ <;> repeat' (first|with_reducible (first|refine Wk.o (by constructor) ?_|refine q_and ?_ ?_|exact True.intro)|refine q_AgS rfl ?_ ?_|exact (rfl : known _ = _)|omega)
   rintro i hi
   by_cases hil : i < st.length
   ·have he : ¬ (st.getD (i : Int).toNat { sec := 0, dir := 0 }).sec = (hs.getD (0 : Int).toNat { sec := 0, dir := 0, pt := 0, ps := 0 }).sec := fun e => ha ⟨i, hil, e⟩
    repeat' (first|with_reducible (first|refine q_and ?_ ?_|exact True.intro|refine Red.o (by constructor) ?_|assumption)|with_reducible (first|refine W_seq ?_|refine W_block ?_)|((with_reducible apply q_cond);refine X_cond rfl ?_ ?_;all_goals (intro hbq;(try simp only [bq] at hbq);(try (exfalso;omega))))|refine Rex.o (by (with_reducible constructor);apply Eq.refl) ?_|((with_reducible apply q_VOk);exact fun _ => ⟨rfl,rfl⟩)|((with_reducible apply q_CRB);kernel_rfl)|omega)
    refine LoopK_n (i + 1) ?_ ((by omega)) (by (try dsimp only); omega)
    refine X_weak rfl rfl rfl ?_ ?_ <;> repeat' (first|with_reducible (first|refine Wk.o (by constructor) ?_|refine q_and ?_ ?_|exact True.intro)|refine q_AgS rfl ?_ ?_|exact (rfl : known _ = _)|omega)
    all_goals rfl
   ·
    repeat' (first|with_reducible (first|refine q_and ?_ ?_|exact True.intro|refine Red.o (by constructor) ?_|fail)|with_reducible (refine W_seq ?_)|((with_reducible apply q_cond);refine X_cond rfl ?_ ?_;all_goals (intro hbq;(try simp only [bq] at hbq);(try (exfalso;omega))))|refine Rex.o (by (with_reducible constructor);apply Eq.refl) ?_|((with_reducible apply q_VOk);exact fun _ => ⟨rfl,rfl⟩)|(intro _;exact rfl)|((with_reducible apply q_CRB);kernel_rfl)|((with_reducible apply q_eqN);rfl)|omega)
    all_goals (simp [packS, vR2, SV.den, SC.den, denL, fStp, fI]; done)
structure Drw where
 r : Rte
 s : Stk
structure Drw.ok (d : Drw) : Prop where
 n1 : 1 ≤ d.r.st.length
 n2 : d.r.st.length ≤ 11
 ov : d.r.ov = 0 ∨ d.r.ov = 1 ∧ 2 ≤ d.r.st.length
theorem route2_ok (l : List Int) (hl : l.length ≤ 9223372036854775807) : OkG Tryz.prog 9 [.c (rInt l)] [] Drw.ok (fun d => .tup [.agg [rStr (genL l).sts, rStr (genL l).pts, rSec (genL l).secs, rLnk (genL l).lnks], .agg [rStp d.r.st, xI d.r.ov], .agg [xS d.s.nm, xI d.s.len, xI d.s.sp, xI d.s.ac, xI d.s.br]]) (fun _ => []) := by
 have hP := plan_ok l hl
 unfold Pln.val at hP
 have hF := from_ok l
 have h0 : Src.ok ⟨l, 0⟩ := ⟨Nat.zero_le _, hl⟩
 have hV := valid_of (genL_ok l)
 have hA := fun st ov how h1 h2 => ahead_ex (genL l) hV st ov how h1 h2
 generalize (⟨l, 0⟩ : Src) = z at *
 unfold vLay at hA
 generalize genL l = L at *
 refine X_fnGP mixedX Tryz.func9 rfl (by kernel_rfl) (Nat.le_of_ble_eq_true (by kernel_rfl)) (by kernel_rfl) (fun x hx => ⟨rfl, rfl⟩) ?_
 simp only [sl0, Nat.zero_add, Nat.reduceAdd]
 repeat' (first|with_reducible (first|refine q_and ?_ ?_|exact True.intro|refine Red.o (by constructor) ?_|fail)|with_reducible (refine W_seq ?_)|refine Rex.o (by (with_reducible constructor);apply Eq.refl) ?_|fail)
 refine X_callG [] hP rfl rfl rfl rfl rfl rfl rfl rfl ?_
 rintro p ⟨hp, hp1, hp2, hp3⟩
 refine ⟨_, _, _, _, rfl, rfl, rfl, rfl, rfl, ?_⟩
 have hr := hp.rts
 obtain ⟨k0, s1, h1, d0, c0⟩ := next_ex z 5 h0 (by omega) (by omega)
 obtain ⟨k1, s2, h2, d1, c1⟩ := next_ex s1 p.rts.length h1 (by omega) (by omega)
 have hm : p.rts.getD (k1 : Int).toNat ⟨[], 0⟩ ∈ p.rts := getD_mem (by omega)
 obtain ⟨g1, g2, g3⟩ := hp.rt _ hm
 obtain ⟨r, hr1, hr2⟩ := hA (p.rts.getD (k1 : Int).toNat ⟨[], 0⟩).st (p.rts.getD (k1 : Int).toNat ⟨[], 0⟩).ov ((k0 : Int) / 3) g1 (by omega)
 repeat' (first|with_reducible (first|refine q_and ?_ ?_|exact True.intro|refine Red.o (by constructor) ?_|fail)|((with_reducible apply q_call);first|refine X_call [] (hF) rfl rfl rfl rfl rfl rfl rfl rfl rfl rfl rfl rfl rfl ?_|refine X_callF [5] (c0) rfl rfl rfl rfl rfl rfl rfl rfl rfl rfl rfl rfl rfl rfl ?_|refine X_callF [5] (c1) rfl rfl rfl rfl rfl rfl rfl rfl rfl rfl rfl rfl rfl rfl ?_|refine X_pure (hr2) rfl ?_)|with_reducible (refine W_seq ?_)|refine Rex.o (by (with_reducible constructor);apply Eq.refl) ?_|((with_reducible apply q_VOk);exact fun _ => ⟨rfl,rfl⟩)|((with_reducible apply q_CRB);kernel_rfl)|omega)
 have hd : Drw.ok ⟨r, p.stk.getD (0 : Int).toNat ⟨⟨#[]⟩, 0, 0, 0, 0⟩⟩ := by
  rcases hr1 with rfl | ⟨x, rfl⟩
  ·exact ⟨g1, by simp only; omega, .inl g3⟩
  ·exact ⟨by simp only [List.length_append, List.length_singleton]; omega, by simp only [List.length_append, List.length_singleton]; omega, .inr ⟨rfl, by simp only [List.length_append, List.length_singleton]; omega⟩⟩
 refine X_retGP rfl (⟨r, p.stk.getD (0 : Int).toNat ⟨⟨#[]⟩, 0, 0, 0, 0⟩⟩ : Drw) hd ?_ ?_
 ·trivial
 ·rfl
set_option maxHeartbeats 40000000
theorem fits_valid {L : Lay} (h : Valid L) : LayFits L := by
 obtain ⟨n1, n2, n3, n4, n5, v1, v2, v3, v4⟩ := h
 refine ⟨fun x hx => ?_, fun x hx => ?_, fun x hx => ?_, by omega, by omega, by omega, by omega⟩
 ·have := nameB_size (v1 x hx); omega
 ·have := nameB_size (v2 x hx); omega
 ·obtain ⟨y, hy, rfl⟩ := List.mem_map.1 hx
  have := nameB_size (v3 y hy).1; omega
def tabN : Tb := ⟨tab.sz, tab.fo, tab.fa, tab.es, [], tab.bi, tab.ze, tab.st, tab.it, tab.sl, tab.eq, tab.cb⟩
theorem tabNOk : tabN.Ok Tryz.prog := ⟨tabOk.sz, tabOk.fo, tabOk.fa, tabOk.es, (by simp only [tabN, List.map_nil]), tabOk.bi, tabOk.ze, tabOk.st, tabOk.it, tabOk.sl, tabOk.eq, tabOk.cb⟩
theorem X_runN {ops : Array Oper} {rest : List Oper} {l : SL} {H : SH} {R : Rg} {rest' : List Oper} {l' : SL} {H' : SH} {R' : Rg} {p : Prop} (h : run1 tabN els ops rest l H R = some ⟨rest', l', H', R', p⟩) (hp : p) (hk : WR Tryz.prog ops rest' (SS l' H') R') : WR Tryz.prog ops rest (SS l H) R := run1_ok tabNOk elsOk h hp hk
theorem X_wk {P : Program} {ops : Array Oper} {o : Oper} {rest : List Oper} {l l2 : SL} {H H2 : SH} {K : St → Prop} (hw : WkM ops (SS l H) (SS l2 H2)) (h : WR P ops [o] (SS l2 H2) (.seq [] fun _ s' => WR P ops rest s' (.plain K))) : WR P ops (o :: rest) (SS l H) (.plain K) := by
 have h : WOp P ops o (SS l2 H2) fun _ s' => WR P ops rest s' (.plain K) := h.out
 exact ⟨.inr (.inr (.inr ⟨_, hw, WOp_mono (fun c s k => k.out) h⟩))⟩
theorem wkm_frzC {ops : Array Oper} {s : St} {b b0 i0 len cap k : Nat} {fs : List FVal} {cs : List CVal} (hne : b ≠ b0) (hb : s.H[b]? = some (some (fs.map CVal.f))) (hb0 : s.H[b0]? = some (some cs)) (hi0 : cs[i0]? = some (.arr b 0 len cap)) (hc : len ≤ cap) : WkM ops s { s with H := (s.H.set b none).set b0 (some (cs.set i0 (.f (.row (fs.take k) len)))) } := by
 refine ⟨⟨by simp, fun a w κ ρ hR => ?_⟩, fun o h => h⟩
 have hB := hR.heap.blk b _ hb
 have ho := hB.own
 have hlt : ρ b < w.heap.size := by
  obtain ⟨c, e, h1, _⟩ := hB.lie
  exact lt_of_heap h1
 have hG : Grow w κ w (upd κ (ρ b) (.lock none)) := ⟨Nat.le_refl _, fun _ _ _ _ _ h => h, fun g n hg hf => by
  by_cases e : g = ρ b
  ·rw [e, upd_same]; trivial
  ·rw [upd_other _ _ e]; exact hf⟩
 have hK : ∀ l, Keep w κ w (upd κ (ρ b) (.lock none)) l l := fun l => ⟨hG, fun g n hg hk => ⟨by
  rw [upd_other _ _ (fun e => by rw [e, ho] at hk; cases hk)]; exact hk, rfl⟩⟩
 have hF : Fr w κ w (upd κ (ρ b) (.lock none)) := ⟨rfl, rfl, rfl, Nat.le_refl _, fun g n hg hk => ⟨by
  rw [upd_other _ _ (fun e => by rw [e, ho] at hk; cases hk)]; exact hk, rfl⟩, hG⟩
 have hset : ∀ b' cs', ((s.H.set b none).set b0 (some (cs.set i0 (.f (.row (fs.take k) len)))))[b']? = some (some cs') → b' ≠ b ∧ ((b' ≠ b0 ∧ s.H[b']? = some (some cs')) ∨ (b' = b0 ∧ cs' = cs.set i0 (.f (.row (fs.take k) len)))) := fun b' cs' h => by
  by_cases e0 : b0 = b'
  ·subst e0
   rw [List.getElem?_set] at h
   simp at h
   exact ⟨fun e => hne e.symm, .inr ⟨rfl, h.2.symm⟩⟩
  ·rw [List.getElem?_set_ne e0] at h
   by_cases e : b = b'
   ·subst e
    rw [List.getElem?_set] at h
    simp at h
   ·rw [List.getElem?_set_ne e] at h
    exact ⟨fun h => e h.symm, .inl ⟨fun h => e0 h.symm, h⟩⟩
 have hlen : ((s.H.set b none).set b0 (some (cs.set i0 (.f (.row (fs.take k) len))))).length = s.H.length := by simp
 have hrow : RowAt w (upd κ (ρ b) (.lock none)) (ρ b) 0 fs := ⟨fun j hj => by
  obtain ⟨v, k1, k2⟩ := hB.cell j (by simpa using hj)
  rw [List.getElem_map] at k2
  exact ⟨v, by rw [Nat.zero_add]; exact k1, RepF.grow hG k2⟩, fun _ => ⟨hlt, by rw [upd_same]; trivial⟩⟩
 refine ⟨_, ⟨hR.defers, fun i hi' => RepA.keep hG (fun _ _ => rfl) (hR.ok i) (fun _ _ _ _ => hK _) (hR.slot i hi'), hR.out, fun i => by rw [hlen]; exact hR.ok i, ⟨fun b' cs' hb' => ?_, fun b' cs' hb' x hx => ?_⟩⟩, hF⟩
 ·obtain ⟨hnb, ⟨hn0, hb2⟩ | ⟨rfl, rfl⟩⟩ := hset b' cs' hb'
  ·obtain ⟨k0, c, e, k1, k2, k3⟩ := hR.heap.blk b' cs' hb2
   refine ⟨?_, c, e, k1, k2, fun i hi hi' => RepC.keep hG (fun _ _ => rfl) (hR.heap.ok b' cs' hb2 _ (List.getElem_mem hi)) (fun _ _ _ _ => hK _) (k3 i hi hi')⟩
   rw [upd_other _ _ (fun e => by rw [e, ho] at k0; injection k0 with k0; exact hnb k0.symm)]
   exact k0
  ·obtain ⟨k0, c, e, k1, k2, k3⟩ := hR.heap.blk b' cs hb0
   refine ⟨?_, c, e, k1, by rw [List.length_set]; exact k2, fun i hi hi' => ?_⟩
   ·rw [upd_other _ _ (fun e => by rw [e, ho] at k0; injection k0 with k0; exact hnb k0.symm)]
    exact k0
   ·rw [List.length_set] at hi
    rw [List.getElem_set]
    split
    ·rename_i e1
     subst e1
     have h3 := k3 i0 hi hi'
     have e2 : cs[i0] = .arr b 0 len cap := by
      rw [List.getElem?_eq_getElem hi] at hi0
      exact Option.some.inj hi0
     rw [e2] at h3
     have h3 : c[i0] = .slice (some ⟨ρ b, 0, none⟩) len cap := h3
     rw [h3]
     exact repF_rowI ⟨ρ b, 0, cap, rfl, hc, hrow.take k⟩
    ·exact RepC.keep hG (fun _ _ => rfl) (hR.heap.ok b' cs hb0 _ (List.getElem_mem hi)) (fun _ _ _ _ => hK _) (k3 i hi hi')
 ·rw [hlen]
  obtain ⟨hnb, ⟨hn0, hb2⟩ | ⟨rfl, rfl⟩⟩ := hset b' cs' hb'
  ·exact hR.heap.ok b' cs' hb2 x hx
  ·rcases List.mem_or_eq_of_mem_set hx with h | h
   ·exact hR.heap.ok b' cs hb0 x h
   ·rw [h]; rfl
theorem flatMap_take {α : Type} {F : α → List FVal} {z : Nat} (hF : ∀ x, (F x).length = z) (l r : List α) : ((l ++ r).flatMap F).take (l.length * z) = l.flatMap F := by
 rw [List.flatMap_append, ← flatMap_lenB F z hF l, List.take_left]
theorem X_frzC {P : Program} {ops : Array Oper} {o : Oper} {rest : List Oper} {l : SL} {H : SH} {K : St → Prop} (b b0 i0 : Nat) {α : Type} {z : Nat} {F : α → List FVal} {V : α → List SC} {M : List FVal → Option α} {d : α} {ls rs : List α} {cs : List SC} {len cap : Nat} (hne : b ≠ b0) (hH : nth H b = some (some (.els z F V M d (ls ++ rs)))) (hH0 : nth H b0 = some (some (.cells cs))) (hi : nth cs i0 = some (.c (.arr b 0 len cap))) (hlen : len = ls.length) (hc : len ≤ cap) (hF : ∀ x, (F x).length = z)
  (h : WR P ops [o] (SS l ((H.set b none).set b0 (some (.cells (cs.set i0 (.row z F V d ls)))))) (.seq [] fun _ s' => WR P ops rest s' (.plain K))) : WR P ops (o :: rest) (SS l H) (.plain K) := by
 refine X_wk ?_ h
 have hw := wkm_frzC (ops := ops) (s := SS l H) (b := b) (b0 := b0) (i0 := i0) (len := len) (cap := cap) (k := ls.length * z) (fs := (ls ++ rs).flatMap F) (cs := denL cs) hne (by rw [SS_H]; exact nth_H hH) (by rw [SS_H]; exact nth_H hH0) (nth_den hi) hc
 rw [flatMap_take hF, hlen] at hw
 have e : SS l ((H.set b none).set b0 (some (.cells (cs.set i0 (.row z F V d ls))))) = { (SS l H) with H := ((SS l H).H.set b none).set b0 (some ((denL cs).set i0 (.f (.row (ls.flatMap F) ls.length)))) } := by
  rw [← SS_setH (H := H), SS_H]
  show St.mk _ _ = St.mk _ _
  congr 1
  simp [denH, denB, SB.den, denL, SC.den, List.map_set]
 rw [e]
 exact hw
def stgP (e : FVal) (L : Lay) (st : List Stp) (i : Nat) : FVal := if ptI L st i < 0 then e else .row [fI (L.secs.length + ptI L st i)] 1
def stgI (e : FVal) (L : Lay) (st : List Stp) (i : Nat) : Stg := ⟨(st.getD i st0).sec, stgP e L st i, 0, 0⟩
def stgL (e : FVal) (L : Lay) (st : List Stp) (ov : Int) : List Stg := if rteErr L ⟨st, ov⟩ = 0 then rowT (st.length - ov.toNat) (stgI e L st) else []
def AlikeS (a b : Stg) : Prop := a.sec = b.sec ∧ a.mn = b.mn ∧ a.nt = b.nt ∧ ((a.p = .nils ∧ b.p = .row [] 0) ∨ ∃ v, a.p = .row [fI v] 1 ∧ b.p = .row [fI v] 1)
theorem stgL_len {L : Lay} {st : List Stp} {ov : Int} (e e' : FVal) : (stgL e L st ov).length = (stgL e' L st ov).length := by
 unfold stgL
 split
 ·rw [rowT_len, rowT_len]
 ·rfl
theorem stgL_max {L : Lay} {st : List Stp} {ov : Int} (e : FVal) : (stgL e L st ov).length ≤ st.length := by
 unfold stgL
 split
 ·rw [rowT_len]; omega
 ·simp
theorem stgL_alike {L : Lay} {st : List Stp} {ov : Int} {d : Stg} : ∀ i, i < (stgL .nils L st ov).length → AlikeS ((stgL .nils L st ov).getD i d) ((stgL (.row [] 0) L st ov).getD i d) := fun i hi => by
 unfold stgL at hi ⊢
 by_cases h : rteErr L ⟨st, ov⟩ = 0
 ·rw [if_pos h] at hi ⊢
  rw [if_pos h]
  rw [rowT_len] at hi
  rw [rowT_get hi, rowT_get hi]
  refine ⟨rfl, rfl, rfl, ?_⟩
  show (stgP .nils L st i = _ ∧ stgP (.row [] 0) L st i = _) ∨ ∃ v, stgP .nils L st i = _ ∧ stgP (.row [] 0) L st i = _
  unfold stgP
  by_cases hp : ptI L st i < 0
  ·rw [if_pos hp, if_pos hp]
   exact .inl ⟨rfl, rfl⟩
  ·rw [if_neg hp, if_neg hp]
   exact .inr ⟨_, rfl, rfl⟩
 ·rw [if_neg h] at hi
  cases hi
theorem set_getD {α : Type} {l : List α} {i : Nat} {x d : α} (h : i < l.length) : (l.set i x).getD i d = x := by
 rw [List.getD_eq_getElem?_getD, List.getElem?_set_self h]
 rfl
theorem mStages_ok (L : Lay) (hL : LayFits L) (st : List Stp) (ov : Int) (hl : st.length ≤ 9223372036854775807) (ho : -9223372036854775808 ≤ ov ∧ ov ≤ 9223372036854775807) : OkV Tryz.prog 23 [vLay L, vR2 st ov] [] (.tup [.c (rStg (stgL .nils L st ov)), .c (xI (rteErr L ⟨st, ov⟩))]) [] := by
 have hC := rteCheck_ok L hL st ov hl ho
 unfold stgL
 by_cases h : rteErr L ⟨st, ov⟩ = 0
 ·have hR := rte_of h
  have hV := valid_of hR.lay
  have n2 := hV.n2
  have n3 := hV.n3
  have g1 := hR.ov0
  have g2 := hR.ov
  have g3 := hR.len
  have g4 := hR.two
  simp only at g1 g2 g3 g4
  have hP := mPoints_ok L hL st ov hR
  have hla := mLast_ok st ov hl (by omega)
  have hpr : ∀ i : Nat, i < st.length → -1 ≤ ptI L st i ∧ ptI L st i < L.pts.length := fun i hi => ptI_rng hR hi
  rw [if_pos h]
  rw [h] at hC ⊢
  obtain ⟨n, hn⟩ : ∃ n : Nat, (n : Int) = st.length - ov := ⟨(st.length - ov).toNat, by omega⟩
  rw [show st.length - ov.toNat = n by omega]
  have hpl := row_len st.length (ptI L st)
  have hpg : ∀ i : Nat, i < st.length → (row st.length (ptI L st)).getD (i : Int).toNat 0 = ptI L st i := fun i hi => row_get hi
  generalize row st.length (ptI L st) = pts at *
  unfold vLay at hC hP ⊢
  refine X_fnP mixedX Tryz.func23 rfl (by kernel_rfl) (Nat.le_of_ble_eq_true (by kernel_rfl)) (by kernel_rfl) rfl rfl ?_
  simp only [sl0, Nat.zero_add, Nat.reduceAdd]
  repeat' (first|with_reducible (first|refine q_and ?_ ?_|exact True.intro|refine Red.o (by constructor) ?_|fail)|((with_reducible apply q_call);first|refine X_pure (hC) rfl ?_|refine X_pure (hla) rfl ?_|refine X_pure (hP) rfl ?_)|with_reducible (first|refine W_seq ?_|refine W_block ?_)|((with_reducible apply q_cond);refine X_cond rfl ?_ ?_;all_goals (intro hbq;(try simp only [bq] at hbq);(try (exfalso;omega))))|refine Rex.o (by (with_reducible constructor);apply Eq.refl) ?_|omega|(dsimp only;omega))
  clear hC hla hP
  have eN : ((st.length : Int) - ov - 1 + 1).toNat = n := by omega
  have hz := fun i : Nat => rowT_len n fun j => if j < i then stgI .nils L st j else (⟨0, .nils, 0, 0⟩ : Stg)
  refine W_loopX (fun i : Nat => SS [sC 2 (pB 0), sC 3 (pB 1), sC 7 (.c (.arr 2 0 n n)), sC 22 (rInt pts), sI 23 st.length, sI 24 i] [bLay L, bRte st ov, some (.els 4 fStg vStg mStg ⟨0, .nils, 0, 0⟩ (rowT n fun j => if j < i then stgI .nils L st j else ⟨0, .nils, 0, 0⟩))]) (fun i => i ≤ n) (fun i => n - i) 0 _ (fun _ : Unit => SS [sC 7 (rStg (rowT n (stgI .nils L st)))] []) (fun _ => True) ?_ (by omega) (KCl_block KCl_seq) ?_ ?_
  ·
   refine X_weak rfl rfl rfl ?_ ?_ <;> repeat' (first|with_reducible (first|refine Wk.o (by constructor) ?_|refine q_and ?_ ?_|exact True.intro)|refine q_AgS rfl ?_ ?_|exact (rfl : known _ = _)|omega)
   all_goals (
    rw [eN, rowT_rep]
    refine rowT_ext fun j hj => ?_
    rw [if_neg (by omega)])
  ·intro i hi
   have hzi := hz i
   by_cases hil : i < n
   ·obtain ⟨p1, p2⟩ := hpr i (by omega)
    have p3 := hpg i (by omega)
    have hE : (rowT n fun j => if j < i then stgI .nils L st j else (⟨0, .nils, 0, 0⟩ : Stg)).getD (i : Int).toNat ⟨0, .nils, 0, 0⟩ = ⟨0, .nils, 0, 0⟩ := by
     rw [Int.toNat_natCast, rowT_get hil, if_neg (by omega)]
    have hS : ∀ x : Stg, x = stgI .nils L st i → (rowT n fun j => if j < i then stgI .nils L st j else (⟨0, .nils, 0, 0⟩ : Stg)).set (i : Int).toNat x = rowT n fun j => if j < i + 1 then stgI .nils L st j else ⟨0, .nils, 0, 0⟩ := fun x hx => by
     rw [Int.toNat_natCast]
     refine rowT_set (i := i) ?_ fun j hj hne => ?_
     ·rw [if_pos (by omega), hx]
     ·by_cases h : j < i
      ·rw [if_pos h, if_pos (by omega)]
      ·rw [if_neg h, if_neg (by omega)]
    have hQ : stgP .nils L st i = if pts.getD (i : Int).toNat 0 < 0 then .nils else .row [fI (L.secs.length + pts.getD (i : Int).toNat 0)] 1 := by
     rw [p3]
     rfl
    rw [← p3] at p1 p2
    generalize (rowT n fun j => if j < i then stgI .nils L st j else (⟨0, .nils, 0, 0⟩ : Stg)) = T at *
    by_cases hp : pts.getD (i : Int).toNat 0 < 0
    ·rw [if_pos hp] at hQ
     repeat' (first|with_reducible (first|refine q_and ?_ ?_|exact True.intro|refine Red.o (by constructor) ?_|assumption)|with_reducible (first|refine W_seq ?_|refine W_block ?_)|((with_reducible apply q_cond);refine X_cond rfl ?_ ?_;all_goals (intro hbq;(try simp only [bq] at hbq);(try (exfalso;omega))))|refine Rex.o (by (with_reducible constructor);apply Eq.refl) ?_|((with_reducible apply q_VOk);exact fun _ => ⟨rfl,rfl⟩)|omega)
     ·rfl
     ·
      refine LoopX_n (i + 1) ?_ ((by omega)) (by (try dsimp only); omega)
      refine X_weak rfl rfl rfl ?_ ?_ <;> repeat' (first|with_reducible (first|refine Wk.o (by constructor) ?_|refine q_and ?_ ?_|exact True.intro)|refine q_AgS rfl ?_ ?_|exact (rfl : known _ = _)|omega)
      all_goals (
       rw [hE]
       refine hS _ ?_
       unfold stgI
       rw [hQ]
       rfl)
    ·rw [if_neg hp] at hQ
     repeat' (first|with_reducible (first|refine q_and ?_ ?_|exact True.intro|refine Red.o (by constructor) ?_|assumption)|with_reducible (first|refine W_seq ?_|refine W_block ?_)|((with_reducible apply q_cond);refine X_cond rfl ?_ ?_;all_goals (intro hbq;(try simp only [bq] at hbq);(try (exfalso;omega))))|refine Rex.o (by (with_reducible constructor);apply Eq.refl) ?_|((with_reducible apply q_VOk);exact fun _ => ⟨rfl,rfl⟩)|omega)
     ·rfl
     ·
      refine X_dem 52 rfl ?_
      repeat' (first|with_reducible (first|refine q_and ?_ ?_|exact True.intro|refine Red.o (by constructor) ?_|fail)|refine Rex.o (by (with_reducible constructor);apply Eq.refl) ?_|((with_reducible apply q_VOk);exact fun _ => ⟨rfl,rfl⟩)|omega)
      ·rw [List.length_set]
       omega
      ·rfl
      ·
       refine LoopX_n (i + 1) ?_ ((by omega)) (by (try dsimp only); omega)
       refine X_weak rfl rfl rfl ?_ ?_ <;> repeat' (first|with_reducible (first|refine Wk.o (by constructor) ?_|refine q_and ?_ ?_|exact True.intro)|refine q_AgS rfl ?_ ?_|exact (rfl : known _ = _)|omega)
       all_goals (
        rw [List.set_set, set_getD (by omega), hE]
        refine hS _ ?_
        unfold stgI
        rw [hQ]
        rfl)
   ·have hfull : (rowT n fun j => if j < i then stgI .nils L st j else (⟨0, .nils, 0, 0⟩ : Stg)) = rowT n (stgI .nils L st) := rowT_ext fun j hj => if_pos (by omega)
    rw [hfull] at hzi ⊢
    repeat' (first|with_reducible (first|refine q_and ?_ ?_|exact True.intro|refine Red.o (by constructor) ?_|refine blockK_o' rfl ?_)|with_reducible (first|refine W_seq ?_|refine W_block ?_)|((with_reducible apply q_cond);refine X_cond rfl ?_ ?_;all_goals (intro hbq;(try simp only [bq] at hbq);(try (exfalso;omega))))|refine Rex.o (by (with_reducible constructor);apply Eq.refl) ?_|((with_reducible apply q_VOk);exact fun _ => ⟨rfl,rfl⟩)|omega)
    all_goals (
     refine LoopX_x () rfl (X_frz 2 7 rfl rfl hzi.symm (Nat.le_refl _) rfl ?_) trivial
     simp only [List.set_cons_succ, List.set_cons_zero]
     refine X_weak rfl rfl rfl ?_ ?_ <;> repeat' (first|with_reducible (first|refine Wk.o (by constructor) ?_|exact True.intro)|refine q_AgS rfl ?_ ?_)
     done)
  ·intro _ _
   repeat' (first|with_reducible (first|refine q_and ?_ ?_|exact True.intro|refine Red.o (by constructor) ?_|fail)|with_reducible (refine W_seq ?_)|refine Rex.o (by (with_reducible constructor);apply Eq.refl) ?_|fail)
   all_goals rfl
 ·rw [if_neg h]
  unfold vLay at hC ⊢
  refine X_fnP mixedX Tryz.func23 rfl (by kernel_rfl) (Nat.le_of_ble_eq_true (by kernel_rfl)) (by kernel_rfl) rfl rfl ?_
  simp only [sl0, Nat.zero_add, Nat.reduceAdd]
  repeat' (first|with_reducible (first|refine q_and ?_ ?_|exact True.intro|refine Red.o (by constructor) ?_|fail)|((with_reducible apply q_call);refine X_pure (hC) rfl ?_)|with_reducible (refine W_seq ?_)|((with_reducible apply q_cond);refine X_cond rfl ?_ ?_;all_goals (intro hbq;(try simp only [bq] at hbq);(try (exfalso;omega))))|refine Rex.o (by (with_reducible constructor);apply Eq.refl) ?_|fail)
  all_goals rfl
theorem rStages_ok (L : Lay) (hL : LayFits L) (st : List Stp) (ov : Int) (hl : st.length ≤ 9223372036854775807) (ho : -9223372036854775808 ≤ ov ∧ ov ≤ 9223372036854775807) : OkV Tryz.prog 24 [vLay L, vR2 st ov] [] (.tup [.c (rStg (stgL (.row [] 0) L st ov)), .c (xI (rteErr L ⟨st, ov⟩))]) [] := by
 have hC := refRte_ok L hL st ov hl ho
 unfold stgL
 by_cases h : rteErr L ⟨st, ov⟩ = 0
 ·have hR := rte_of h
  have hV := valid_of hR.lay
  have n2 := hV.n2
  have n3 := hV.n3
  have g1 := hR.ov0
  have g2 := hR.ov
  have g3 := hR.len
  have g4 := hR.two
  simp only at g1 g2 g3 g4
  have hla := rLast_ok st ov hl (by omega)
  have hpr : ∀ i : Nat, i < st.length → -1 ≤ ptI L st i ∧ ptI L st i < L.pts.length := fun i hi => ptI_rng hR hi
  have hP : ∀ i : Nat, 0 < i → i < st.length → OkV Tryz.prog 36 [vLay L, vSt (st.getD ((i : Int) - 1).toNat st0), vSt (st.getD (i : Int).toNat st0)] [] (vI (if ptI L st i < 0 then -1 else L.secs.length + ptI L st i)) [] := fun i h0 hi => by
   have hj := join_at hR (i := i) h0 hi
   have hp := pointOf_ok L (st.getD (i - 1) st0) (st.getD i st0) hV (fun k hk => by
    obtain ⟨k2, e, _, b⟩ := hj
    simp only at e
    rw [hk] at e
    injection e with e
    rw [e]; exact b)
   unfold ptR at hp
   have ei : ptI L st i = ((joinL L (st.getD (i - 1) st0) (st.getD i st0)).map Hop.pt).getD (-1) := by unfold ptI; rw [if_neg (by omega)]
   rw [ei, Int.toNat_natCast, show ((i : Int) - 1).toNat = i - 1 by omega]
   exact hp
  have z0 : stgP (.row [] 0) L st 0 = .row [] 0 := by unfold stgP ptI; rw [if_pos rfl]; rfl
  rw [if_pos h]
  rw [h] at hC ⊢
  obtain ⟨n, hn⟩ : ∃ n : Nat, (n : Int) = st.length - ov := ⟨(st.length - ov).toNat, by omega⟩
  rw [show st.length - ov.toNat = n by omega]
  have hsn : ∀ i : Nat, rowT (i + 1) (stgI (.row [] 0) L st) = rowT i (stgI (.row [] 0) L st) ++ [stgI (.row [] 0) L st i] := fun i => by
   unfold rowT
   rw [List.range_succ, List.map_append]
   rfl
  unfold vLay at hC hP ⊢
  refine X_fnP mixedX Tryz.func24 rfl (by kernel_rfl) (Nat.le_of_ble_eq_true (by kernel_rfl)) (by kernel_rfl) rfl rfl ?_
  simp only [sl0, Nat.zero_add, Nat.reduceAdd]
  repeat' (first|with_reducible (first|refine q_and ?_ ?_|exact True.intro|refine Red.o (by constructor) ?_|fail)|((with_reducible apply q_call);refine X_pure (hC) rfl ?_)|with_reducible (first|refine W_seq ?_|refine W_block ?_)|((with_reducible apply q_cond);refine X_cond rfl ?_ ?_;all_goals (intro hbq;(try simp only [bq] at hbq);(try (exfalso;omega))))|refine Rex.o (by (with_reducible constructor);apply Eq.refl) ?_|fail)
  clear hC
  have hz := fun i : Nat => rowT_len i (stgI (.row [] 0) L st)
  refine W_loopS (fun i : Nat => SS [sC 2 (pB 0), sC 3 (pB 1), sC 7 (tStg (rowT i (stgI (.row [] 0) L st))), sI 8 i] [bLay L, bRte st ov]) (fun i => i ≤ n) (fun i => n - i) 0 ?_ (by omega) ?_
  ·
   refine X_weak rfl rfl rfl ?_ ?_ <;> repeat' (first|with_reducible (first|refine Wk.o (by constructor) ?_|refine q_and ?_ ?_|exact True.intro)|refine q_AgS rfl ?_ ?_|exact CLe.nil_tipS|exact (rfl : known _ = _)|omega)
   all_goals rfl
  intro i hi
  have hzi := hz i
  by_cases hil : i < n
  ·obtain ⟨p1, p2⟩ := hpr i (by omega)
   by_cases h0 : i = 0
   ·subst h0
    repeat' (first|with_reducible (first|refine q_and ?_ ?_|exact True.intro|refine Red.o (by constructor) ?_|fail)|((with_reducible apply q_call);refine X_pure (hla) rfl ?_)|with_reducible (first|refine W_seq ?_|refine W_block ?_)|((with_reducible apply q_cond);refine X_cond rfl ?_ ?_;all_goals (intro hbq;(try simp only [bq] at hbq);(try (exfalso;omega))))|refine Rex.o (by (with_reducible constructor);apply Eq.refl) ?_|((with_reducible apply q_VOk);exact fun _ => ⟨rfl,rfl⟩)|((with_reducible apply q_eqN);rfl)|omega)
    refine LoopK_n (0 + 1) ?_ ((by omega)) (by (try dsimp only); omega)
    refine X_weak rfl rfl rfl ?_ ?_ <;> repeat' (first|with_reducible (first|refine Wk.o (by constructor) ?_|refine q_and ?_ ?_|exact True.intro)|refine q_AgS rfl ?_ ?_|exact (rfl : known _ = _)|omega)
    ·rw [hsn, List.flatMap_append]
     refine congrArg _ ?_
     unfold stgI
     rw [z0]
     try rfl
    ·rw [rowT_len, rowT_len]
   ·have hPi := hP i (by omega) (by omega)
    by_cases hp : ptI L st i < 0
    ·rw [if_pos hp] at hPi
     repeat' (first|with_reducible (first|refine q_and ?_ ?_|exact True.intro|refine Red.o (by constructor) ?_|fail)|((with_reducible apply q_call);first|refine X_pure (hla) rfl ?_|refine X_pure (hPi) rfl ?_)|with_reducible (first|refine W_seq ?_|refine W_block ?_)|((with_reducible apply q_cond);refine X_cond rfl ?_ ?_;all_goals (intro hbq;(try simp only [bq] at hbq);(try (exfalso;omega))))|refine Rex.o (by (with_reducible constructor);apply Eq.refl) ?_|((with_reducible apply q_VOk);exact fun _ => ⟨rfl,rfl⟩)|((with_reducible apply q_CRB);kernel_rfl)|((with_reducible apply q_eqN);rfl)|omega)
     refine LoopK_n (i + 1) ?_ ((by omega)) (by (try dsimp only); omega)
     refine X_weak rfl rfl rfl ?_ ?_ <;> repeat' (first|with_reducible (first|refine Wk.o (by constructor) ?_|refine q_and ?_ ?_|exact True.intro)|refine q_AgS rfl ?_ ?_|exact (rfl : known _ = _)|omega)
     ·rw [hsn, List.flatMap_append]
      congr 1
      unfold stgI stgP
      rw [if_pos hp]
      try rfl
     ·rw [rowT_len, rowT_len]
    ·rw [if_neg hp] at hPi
     repeat' (first|with_reducible (first|refine q_and ?_ ?_|exact True.intro|refine Red.o (by constructor) ?_|fail)|((with_reducible apply q_call);first|refine X_pure (hla) rfl ?_|refine X_pure (hPi) rfl ?_)|with_reducible (first|refine W_seq ?_|refine W_block ?_)|((with_reducible apply q_cond);refine X_cond rfl ?_ ?_;all_goals (intro hbq;(try simp only [bq] at hbq);(try (exfalso;omega))))|refine Rex.o (by (with_reducible constructor);apply Eq.refl) ?_|((with_reducible apply q_VOk);exact fun _ => ⟨rfl,rfl⟩)|((with_reducible apply q_CRB);kernel_rfl)|((with_reducible apply q_eqN);rfl)|omega)
     refine LoopK_n (i + 1) ?_ ((by omega)) (by (try dsimp only); omega)
     refine X_weak rfl rfl rfl ?_ ?_ <;> repeat' (first|with_reducible (first|refine Wk.o (by constructor) ?_|refine q_and ?_ ?_|exact True.intro)|refine q_AgS rfl ?_ ?_|exact (rfl : known _ = _)|omega)
     ·rw [hsn, List.flatMap_append]
      congr 1
      unfold stgI stgP
      rw [if_neg hp]
      try rfl
     ·rw [rowT_len, rowT_len]
  ·have hin : i = n := by omega
   subst hin
   repeat' (first|with_reducible (first|refine q_and ?_ ?_|exact True.intro|refine Red.o (by constructor) ?_|fail)|((with_reducible apply q_call);refine X_pure (hla) rfl ?_)|with_reducible (refine W_seq ?_)|((with_reducible apply q_cond);refine X_cond rfl ?_ ?_;all_goals (intro hbq;(try simp only [bq] at hbq);(try (exfalso;omega))))|refine Rex.o (by (with_reducible constructor);apply Eq.refl) ?_|fail)
   all_goals rfl
 ·rw [if_neg h]
  unfold vLay at hC ⊢
  refine X_fnP mixedX Tryz.func24 rfl (by kernel_rfl) (Nat.le_of_ble_eq_true (by kernel_rfl)) (by kernel_rfl) rfl rfl ?_
  simp only [sl0, Nat.zero_add, Nat.reduceAdd]
  repeat' (first|with_reducible (first|refine q_and ?_ ?_|exact True.intro|refine Red.o (by constructor) ?_|fail)|((with_reducible apply q_call);refine X_pure (hC) rfl ?_)|with_reducible (refine W_seq ?_)|((with_reducible apply q_cond);refine X_cond rfl ?_ ?_;all_goals (intro hbq;(try simp only [bq] at hbq);(try (exfalso;omega))))|refine Rex.o (by (with_reducible constructor);apply Eq.refl) ?_|fail)
  all_goals rfl
theorem sameStages_ok (l m : List Stg) (hl : l.length ≤ 9223372036854775807) (hlm : m.length = l.length) (hp : ∀ i, i < l.length → AlikeS (l.getD i ⟨0, .nils, 0, 0⟩) (m.getD i ⟨0, .nils, 0, 0⟩)) : OkV Tryz.prog 26 [.c (rStg l), .c (rStg m)] [] (vB true) [] := by
 have h0 : OkV Tryz.prog 33 [.c (.c (.f (.row [] 0))), .c (.c (.f (.row [] 0)))] [] (vB true) [] := same_int_ok [] (by show 0 ≤ 9223372036854775807; omega)
 have h1 : ∀ v, OkV Tryz.prog 33 [.c (.c (.f (.row [fI v] 1))), .c (.c (.f (.row [fI v] 1)))] [] (vB true) [] := fun v => same_int_ok [v] (by show 1 ≤ 9223372036854775807; omega)
 refine X_fnP mixedX Tryz.func26 rfl (by kernel_rfl) (Nat.le_of_ble_eq_true (by kernel_rfl)) (by kernel_rfl) rfl rfl ?_
 simp only [sl0, Nat.zero_add, Nat.reduceAdd]
 repeat' (first|with_reducible (first|refine q_and ?_ ?_|exact True.intro|refine Red.o (by constructor) ?_|fail)|with_reducible (first|refine W_seq ?_|refine W_block ?_)|((with_reducible apply q_cond);refine X_cond rfl ?_ ?_;all_goals (intro hbq;(try simp only [bq] at hbq);(try (exfalso;omega))))|refine Rex.o (by (with_reducible constructor);apply Eq.refl) ?_|fail)
 refine W_loopS (fun i : Nat => SS [sC 0 (rStg l), sC 1 (rStg m), sI 12 l.length, sI 13 i] []) (fun i => i ≤ l.length) (fun i => l.length - i) 0 ?_ (by omega) ?_
 ·
  refine X_weak rfl rfl rfl ?_ ?_ <;> repeat' (first|with_reducible (first|refine Wk.o (by constructor) ?_|refine q_and ?_ ?_|exact True.intro)|refine q_AgS rfl ?_ ?_|exact (rfl : known _ = _)|omega)
 ·intro i hi
  by_cases hil : i < l.length
  ·obtain ⟨e1, e2, e3, hq⟩ := hp i hil
   have e1 : (l.getD (i : Int).toNat { sec := 0, p := .nils, mn := 0, nt := 0 }).sec = (m.getD (i : Int).toNat { sec := 0, p := .nils, mn := 0, nt := 0 }).sec := e1
   have e2 : (l.getD (i : Int).toNat { sec := 0, p := .nils, mn := 0, nt := 0 }).mn = (m.getD (i : Int).toNat { sec := 0, p := .nils, mn := 0, nt := 0 }).mn := e2
   have e3 : (l.getD (i : Int).toNat { sec := 0, p := .nils, mn := 0, nt := 0 }).nt = (m.getD (i : Int).toNat { sec := 0, p := .nils, mn := 0, nt := 0 }).nt := e3
   rcases hq with ⟨hq1, hq2⟩ | ⟨v, hq1, hq2⟩
   ·have hq1 : (l.getD (i : Int).toNat { sec := 0, p := .nils, mn := 0, nt := 0 }).p = _ := hq1
    have hq2 : (m.getD (i : Int).toNat { sec := 0, p := .nils, mn := 0, nt := 0 }).p = _ := hq2
    repeat' (first|with_reducible (first|refine q_and ?_ ?_|exact True.intro|refine Red.o (by constructor) ?_|assumption)|with_reducible (first|refine W_seq ?_|refine W_block ?_)|((with_reducible apply q_cond);refine X_cond rfl ?_ ?_;all_goals (intro hbq;(try simp only [bq] at hbq);(try (exfalso;omega))))|refine Rex.o (by (with_reducible constructor);apply Eq.refl) ?_|(intro (hgq : (_ : Bool) = true);(try simp only [bq] at hgq))|((with_reducible apply q_VOk);exact fun _ => ⟨rfl,rfl⟩)|((with_reducible apply q_bt);simp only [bq])|omega)
    all_goals (
     refine WR_view 32 (.g _ (.c (.c (.f .nils)))) (congrArg (fun q => (SE.g _ (.c (.c (.f q)))).den) hq1) ?_
     refine WR_view 37 (.g _ (.c (.c (.f (.row [] 0))))) (congrArg (fun q => (SE.g _ (.c (.c (.f q)))).den) hq2) ?_)
    repeat' (first|with_reducible (first|refine q_and ?_ ?_|exact True.intro|refine Red.o (by constructor) ?_|assumption)|((with_reducible apply q_callG);refine X_pureG ((fun _ => h0)) rfl ?_ ?_)|((with_reducible apply q_cond);refine X_cond rfl ?_ ?_;all_goals (intro hbq;(try simp only [bq] at hbq);(try (exfalso;omega))))|refine Rex.o (by (with_reducible constructor);apply Eq.refl) ?_|(intro (hgq : (_ : Bool) = true);(try simp only [bq] at hgq))|(intro (hgq : (_ : Bool) = false);(try simp only [bq] at hgq))|((with_reducible apply q_VOk);exact fun _ => ⟨rfl,rfl⟩)|((with_reducible apply q_CRB);kernel_rfl)|((with_reducible apply q_bt);simp only [bq])|omega)
    all_goals (
     refine LoopK_n (i + 1) ?_ ((by omega)) (by (try dsimp only); omega)
     refine X_weak rfl rfl rfl ?_ ?_ <;> repeat' (first|with_reducible (first|refine Wk.o (by constructor) ?_|refine q_and ?_ ?_|exact True.intro)|refine q_AgS rfl ?_ ?_|exact (rfl : known _ = _)|omega)
     done)
   ·have hq1 : (l.getD (i : Int).toNat { sec := 0, p := .nils, mn := 0, nt := 0 }).p = _ := hq1
    have hq2 : (m.getD (i : Int).toNat { sec := 0, p := .nils, mn := 0, nt := 0 }).p = _ := hq2
    repeat' (first|with_reducible (first|refine q_and ?_ ?_|exact True.intro|refine Red.o (by constructor) ?_|assumption)|with_reducible (first|refine W_seq ?_|refine W_block ?_)|((with_reducible apply q_cond);refine X_cond rfl ?_ ?_;all_goals (intro hbq;(try simp only [bq] at hbq);(try (exfalso;omega))))|refine Rex.o (by (with_reducible constructor);apply Eq.refl) ?_|(intro (hgq : (_ : Bool) = true);(try simp only [bq] at hgq))|((with_reducible apply q_VOk);exact fun _ => ⟨rfl,rfl⟩)|((with_reducible apply q_bt);simp only [bq])|omega)
    all_goals (
     refine WR_view 32 (.g _ (.c (.c (.f (.row [fI v] 1))))) (congrArg (fun q => (SE.g _ (.c (.c (.f q)))).den) hq1) ?_
     refine WR_view 37 (.g _ (.c (.c (.f (.row [fI v] 1))))) (congrArg (fun q => (SE.g _ (.c (.c (.f q)))).den) hq2) ?_)
    repeat' (first|with_reducible (first|refine q_and ?_ ?_|exact True.intro|refine Red.o (by constructor) ?_|assumption)|((with_reducible apply q_callG);refine X_pureG ((fun _ => h1 v)) rfl ?_ ?_)|((with_reducible apply q_cond);refine X_cond rfl ?_ ?_;all_goals (intro hbq;(try simp only [bq] at hbq);(try (exfalso;omega))))|refine Rex.o (by (with_reducible constructor);apply Eq.refl) ?_|(intro (hgq : (_ : Bool) = true);(try simp only [bq] at hgq))|(intro (hgq : (_ : Bool) = false);(try simp only [bq] at hgq))|((with_reducible apply q_VOk);exact fun _ => ⟨rfl,rfl⟩)|((with_reducible apply q_CRB);kernel_rfl)|((with_reducible apply q_bt);simp only [bq])|omega)
    all_goals (
     refine LoopK_n (i + 1) ?_ ((by omega)) (by (try dsimp only); omega)
     refine X_weak rfl rfl rfl ?_ ?_ <;> repeat' (first|with_reducible (first|refine Wk.o (by constructor) ?_|refine q_and ?_ ?_|exact True.intro)|refine q_AgS rfl ?_ ?_|exact (rfl : known _ = _)|omega)
     done)
  ·
   repeat' (first|with_reducible (first|refine q_and ?_ ?_|exact True.intro|refine Red.o (by constructor) ?_|fail)|with_reducible (refine W_seq ?_)|((with_reducible apply q_cond);refine X_cond rfl ?_ ?_;all_goals (intro hbq;(try simp only [bq] at hbq);(try (exfalso;omega))))|refine Rex.o (by (with_reducible constructor);apply Eq.refl) ?_|fail)
   all_goals rfl
set_option maxHeartbeats 40000000
theorem fitsLaw_ok (L : Lay) (hL : LayFits L) (st : List Stp) (ov : Int) (hl : st.length ≤ 9223372036854775807) (ho : -9223372036854775808 ≤ ov ∧ ov ≤ 9223372036854775807) (nm : ByteArray) (l sp ac br : Int) (ms : List Int) (hml : ms.length ≤ 9223372036854775807) (fr to dr : Int) : OkV Tryz.prog 8 [vLay L, vR2 st ov, vS5 nm l sp ac br, .c (rInt ms), .c (xI fr), .c (xI to), .c (xI dr)] [] (vB true) [] := by
 have hA := awake_ok
 have hM1 := mStages_ok L hL st ov hl ho
 have hM2 := rStages_ok L hL st ov hl ho
 have hF1 := mFits_ok L hL st ov hl ho nm l sp ac br
 have hF2 := rFits_ok L hL st ov hl ho nm l sp ac br
 have hSS := sameStages_ok (stgL .nils L st ov) (stgL (.row [] 0) L st ov) (Nat.le_trans (stgL_max _) hl) (stgL_len _ _) fun i hi => stgL_alike i hi
 have hR := route2_ok ms hml
 have hV2 := valid_of (genL_ok ms)
 have hfit2 := fits_valid hV2
 generalize genL ms = L2 at *
 have n3 := hV2.n3
 have hN1 := fun st2 ov2 (h1 : st2.length ≤ 100) (h2 : 0 ≤ ov2 ∧ ov2 ≤ 1) => mStages_ok L2 hfit2 st2 ov2 (by omega) (by omega)
 have hN2 := fun st2 ov2 (h1 : st2.length ≤ 100) (h2 : 0 ≤ ov2 ∧ ov2 ≤ 1) => rStages_ok L2 hfit2 st2 ov2 (by omega) (by omega)
 have hG1 := fun st2 ov2 (h1 : st2.length ≤ 100) (h2 : 0 ≤ ov2 ∧ ov2 ≤ 1) nm l sp ac br => mFits_ok L2 hfit2 st2 ov2 (by omega) (by omega) nm l sp ac br
 have hG2 := fun st2 ov2 (h1 : st2.length ≤ 100) (h2 : 0 ≤ ov2 ∧ ov2 ≤ 1) nm l sp ac br => rFits_ok L2 hfit2 st2 ov2 (by omega) (by omega) nm l sp ac br
 generalize stgL .nils L st ov = S1 at *
 generalize stgL (.row [] 0) L st ov = S2 at *
 generalize rteErr L ⟨st, ov⟩ = e1 at *
 generalize motErr L ⟨st, ov⟩ l sp ac br = e2 at *
 unfold vLay at hM1 hM2 hF1 hF2 hN1 hN2 hG1 hG2 ⊢
 refine X_fnP mixedX Tryz.func8 rfl (by kernel_rfl) (Nat.le_of_ble_eq_true (by kernel_rfl)) (by kernel_rfl) rfl rfl ?_
 simp only [sl0, Nat.zero_add, Nat.reduceAdd]
 repeat' (first|with_reducible (first|refine q_and ?_ ?_|exact True.intro|refine Red.o (by constructor) ?_|fail)|((with_reducible apply q_call);first|refine X_pure (hM1) rfl ?_|refine X_pure (hM2) rfl ?_|refine X_pure (hF1) rfl ?_|refine X_pure (hF2) rfl ?_)|((with_reducible apply q_callG);refine X_pureG ((fun _ => hSS)) rfl ?_ ?_)|with_reducible (refine W_seq ?_)|((with_reducible apply q_cond);refine X_cond rfl ?_ ?_;all_goals (intro hbq;(try simp only [bq] at hbq);(try (exfalso;omega))))|refine Rex.o (by (with_reducible constructor);apply Eq.refl) ?_|(intro (hgq : (_ : Bool) = true);(try simp only [bq] at hgq))|(intro (hgq : (_ : Bool) = false);(try simp only [bq] at hgq))|((with_reducible apply q_CRB);kernel_rfl)|((with_reducible apply q_bt);simp only [bq]))
 clear hM1 hM2 hF1 hF2 hSS
 refine X_callG [] hR rfl rfl rfl rfl rfl rfl rfl rfl ?_
 rintro ⟨⟨st2, ov2⟩, ⟨nm2, ln2, sp2, ac2, br2⟩⟩ ⟨hd1, hd2, hd3⟩
 refine ⟨_, _, _, _, rfl, rfl, rfl, rfl, rfl, ?_⟩
 simp only at hd1 hd2 hd3
 clear hR
 refine X_run rfl (by simp only [and_self]) (WR_nil ?_)
 refine seqK_n (W_seq (W_region (WOps_WR ?_)))
 refine X_runN rfl (by simp only [and_self]) ?_
 refine X_opn mStp (z := 2) (F := fStp) (V := vStp) (by_ := 16) (e0 := ⟨0, 0⟩) (e := ⟨0, 0⟩) (ls := st2) (by kernel_rfl) (by kernel_rfl) (fun _ => rfl) rfl rfl (by omega) (by omega) (by omega) ?_
 intro cap hcap
 generalize List.replicate (cap - st2.length) (⟨0, 0⟩ : Stp) = pad
 show WR _ _ _ (SS ((63, .v (.c (.c (.arr 6 0 st2.length cap)))) :: _) (_ :: _ :: _ :: _ :: _ :: _ :: [_])) _
 have hP1 := pick_ok fr st2.length (by omega) (by omega)
 have hp1 := pick_lt fr (n := st2.length) (by omega)
 have hP2 := pick_ok dr 3 (by omega) (by omega)
 have hP3 : OkV Tryz.prog 18 [vI to, vI ((L2.secs.length : Int) + 1)] [] (vI (pick to (L2.secs.length + 1))) [] := by
  have h := pick_ok to (L2.secs.length + 1) (by omega) (by omega)
  rw [show ((L2.secs.length + 1 : Nat) : Int) = (L2.secs.length : Int) + 1 by omega] at h
  exact h
 generalize pick fr st2.length = x at *
 generalize pick dr 3 = d at *
 generalize pick to (L2.secs.length + 1) = v at *
 have hpl : (st2 ++ pad).length = st2.length + pad.length := List.length_append
 repeat' (first|with_reducible (first|refine q_and ?_ ?_|exact True.intro|refine Red.o (by constructor) ?_|fail)|((with_reducible apply q_call);refine X_pure (hP1) rfl ?_)|with_reducible (refine W_seq ?_)|refine Rex.o (by (with_reducible constructor);apply Eq.refl) ?_|((with_reducible apply q_CRB);kernel_rfl)|omega)
 refine X_pure hP2 rfl ?_
 refine X_run rfl (by simp only [and_self]) (WR_nil ?_)
 refine seqK_n (X_cond rfl (fun hbq => ?_) fun hbq => ?_)
 ·refine W_region (WOps_WR ?_)
  refine X_run rfl (by repeat' (first|exact True.intro|apply And.intro|omega)) ?_
  refine X_pure hP3 rfl ?_
  refine X_run rfl (by repeat' (first|exact True.intro|apply And.intro|omega|exact fun _ => ⟨rfl, rfl⟩|rfl)) (WR_nil ?_)
  have hset : ∀ a, (st2 ++ pad).set (x : Int).toNat a = st2.set x a ++ pad := fun a => by
   rw [Int.toNat_natCast, List.set_append_left _ _ (by omega)]
  rw [hset]
  generalize hst : st2.set x _ = stx
  have hsl : stx.length = st2.length := by rw [← hst, List.length_set]
  refine seqK_w (SS [sI 6 dr, sC 19 (pB 3), sC 20 (pB 4), sC 21 (pB 5)] [none, none, none, bLay L2, some (.cells [.c (.arr 6 0 st2.length cap), xI ov2]), some (.cells [xS nm2, xI ln2, xI sp2, xI ac2, xI br2]), some (.els 2 fStp vStp mStp ⟨0, 0⟩ (stx ++ pad))]) ?_ ?_
  ·
   refine X_weak rfl rfl rfl ?_ ?_ <;> repeat' (first|with_reducible (first|refine Wk.o (by constructor) ?_|refine q_and ?_ ?_|exact True.intro)|refine q_AgS rfl ?_ ?_|with_reducible rfl)
  ·
   refine W_seq (W_region (WOps_WR ?_))
   refine R_move rfl rfl ?_
   refine R_ibin (k := .i64) (a := dr) (b := 3) rfl rfl rfl ?_
   generalize IntKind.i64.wrap (Int.tdiv dr 3) = q
   show WR _ _ _ (SS ((86, .v (.c (xI q))) :: (85, .v (.c (xI dr))) :: _) _) _
   have hP5 := pick_ok q 8 (by omega) (by omega)
   have hp5 := pick_lt q (n := 8) (by omega)
   generalize pick q 8 = k at *
   refine X_frzC 6 4 0 (by decide) rfl rfl rfl hsl.symm hcap (fun _ => rfl) ?_
   simp only [List.set_cons_succ, List.set_cons_zero]
   have n1 := hN1 stx ov2 (by omega) (by omega)
   have n2 := hN2 stx ov2 (by omega) (by omega)
   have k1 := hG1 stx ov2 (by omega) (by omega) nm2 (1 + k) sp2 ac2 br2
   have k2 := hG2 stx ov2 (by omega) (by omega) nm2 (1 + k) sp2 ac2 br2
   have ss := sameStages_ok (stgL .nils L2 stx ov2) (stgL (.row [] 0) L2 stx ov2) (Nat.le_trans (stgL_max _) (by omega)) (stgL_len _ _) fun i hi => stgL_alike i hi
   clear hN1 hN2 hG1 hG2
   generalize stgL .nils L2 stx ov2 = T1 at *
   generalize stgL (.row [] 0) L2 stx ov2 = T2 at *
   generalize rteErr L2 ⟨stx, ov2⟩ = e3 at *
   generalize motErr L2 ⟨stx, ov2⟩ (1 + k) sp2 ac2 br2 = e4 at *
   repeat' (first|with_reducible (first|refine q_and ?_ ?_|exact True.intro|refine Red.o (by constructor) ?_|fail)|((with_reducible apply q_call);first|refine X_pure (hP5) rfl ?_|refine X_pure (n1) rfl ?_|refine X_pure (n2) rfl ?_|refine X_pure (hA) rfl ?_)|((with_reducible apply q_callG);refine X_pureG ((fun _ => k1)) rfl ?_ ?_)|((with_reducible apply q_callG);refine X_pureG ((fun _ => k2)) rfl ?_ ?_)|((with_reducible apply q_callG);refine X_pureG ((fun _ => ss)) rfl ?_ ?_)|with_reducible (refine W_seq ?_)|refine Rex.o (by (with_reducible constructor);apply Eq.refl) ?_|(intro (hgq : (_ : Bool) = true);(try simp only [bq] at hgq))|((with_reducible apply q_CRB);kernel_rfl)|((with_reducible apply q_bt);simp only [bq])|omega)
   all_goals (refine VEq.c (CEq.bool ?_); simp; done)
 ·refine W_skip ?_
  obtain ⟨stx, hst⟩ : ∃ y, y = st2 := ⟨_, rfl⟩
  have hsl : stx.length = st2.length := by rw [hst]
  refine seqK_w (SS [sI 6 dr, sC 19 (pB 3), sC 20 (pB 4), sC 21 (pB 5)] [none, none, none, bLay L2, some (.cells [.c (.arr 6 0 st2.length cap), xI ov2]), some (.cells [xS nm2, xI ln2, xI sp2, xI ac2, xI br2]), some (.els 2 fStp vStp mStp ⟨0, 0⟩ (stx ++ pad))]) ?_ ?_
  ·
   refine X_weak rfl rfl rfl ?_ ?_ <;> repeat' (first|with_reducible (first|refine Wk.o (by constructor) ?_|refine q_and ?_ ?_|exact True.intro)|refine q_AgS rfl ?_ ?_)
   all_goals (rw [hst]; done)
  ·
   refine W_seq (W_region (WOps_WR ?_))
   refine R_move rfl rfl ?_
   refine R_ibin (k := .i64) (a := dr) (b := 3) rfl rfl rfl ?_
   generalize IntKind.i64.wrap (Int.tdiv dr 3) = q
   show WR _ _ _ (SS ((86, .v (.c (xI q))) :: (85, .v (.c (xI dr))) :: _) _) _
   have hP5 := pick_ok q 8 (by omega) (by omega)
   have hp5 := pick_lt q (n := 8) (by omega)
   generalize pick q 8 = k at *
   refine X_frzC 6 4 0 (by decide) rfl rfl rfl hsl.symm hcap (fun _ => rfl) ?_
   simp only [List.set_cons_succ, List.set_cons_zero]
   have n1 := hN1 stx ov2 (by omega) (by omega)
   have n2 := hN2 stx ov2 (by omega) (by omega)
   have k1 := hG1 stx ov2 (by omega) (by omega) nm2 (1 + k) sp2 ac2 br2
   have k2 := hG2 stx ov2 (by omega) (by omega) nm2 (1 + k) sp2 ac2 br2
   have ss := sameStages_ok (stgL .nils L2 stx ov2) (stgL (.row [] 0) L2 stx ov2) (Nat.le_trans (stgL_max _) (by omega)) (stgL_len _ _) fun i hi => stgL_alike i hi
   clear hN1 hN2 hG1 hG2
   generalize stgL .nils L2 stx ov2 = T1 at *
   generalize stgL (.row [] 0) L2 stx ov2 = T2 at *
   generalize rteErr L2 ⟨stx, ov2⟩ = e3 at *
   generalize motErr L2 ⟨stx, ov2⟩ (1 + k) sp2 ac2 br2 = e4 at *
   repeat' (first|with_reducible (first|refine q_and ?_ ?_|exact True.intro|refine Red.o (by constructor) ?_|fail)|((with_reducible apply q_call);first|refine X_pure (hP5) rfl ?_|refine X_pure (n1) rfl ?_|refine X_pure (n2) rfl ?_|refine X_pure (hA) rfl ?_)|((with_reducible apply q_callG);refine X_pureG ((fun _ => k1)) rfl ?_ ?_)|((with_reducible apply q_callG);refine X_pureG ((fun _ => k2)) rfl ?_ ?_)|((with_reducible apply q_callG);refine X_pureG ((fun _ => ss)) rfl ?_ ?_)|with_reducible (refine W_seq ?_)|refine Rex.o (by (with_reducible constructor);apply Eq.refl) ?_|(intro (hgq : (_ : Bool) = true);(try simp only [bq] at hgq))|((with_reducible apply q_CRB);kernel_rfl)|((with_reducible apply q_bt);simp only [bq])|omega)
   all_goals (refine VEq.c (CEq.bool ?_); simp; done)
open Go.RowKit
theorem okWide_spot {P : Program} {w : World} {r : Reach} {base : Nat} {t e : TypeId} {v : Value} (ht : P.underlying t = some (.slice e)) (h : Value.okWide P w r base t v) {a : Addr} {len cap : Nat} (hv : v = .slice (some a) len cap) : a.spot = none := by
 subst hv
 simp only [Value.okWide, ht, Cell.okWide, Cell.ok] at h
 exact h.2.2.2.1
abbrev IsRowI (w : World) (a : Option Addr) (len cap : Nat) (zs : List Int) : Prop :=
 (a = none ∧ len = 0 ∧ cap = 0 ∧ zs = []) ∨ ∃ x, a = some x ∧ len ≤ cap ∧ cap ≤ maxLen ∧ zs.length = cap ∧ (∀ i, i < zs.length → w.cell? (x.add i) = some (.int .i64 (zs.getD i 0))) ∧ ∀ n ∈ zs, (Lit.int .i64 n).wf = true
theorem flat_int (l : List Int) : l.flatMap fInt = l.map fI := by
 induction l with
 | nil => rfl
 | cons x r ih => rw [List.flatMap_cons, ih]; rfl
theorem rowI_rep {w : World} {a : Option Addr} {len cap : Nat} {zs : List Int} (h : IsRowI w a len cap zs) (hs : ∀ x, a = some x → x.spot = none) : (∀ l, RepA w (fun _ => .lock none) id l (SV.den (.c (rInt (zs.take len)))) (.slice a len cap)) ∧ (zs.take len).length ≤ 9223372036854775807 := by
 rcases h with ⟨rfl, rfl, rfl, rfl⟩ | ⟨x, rfl, hl, hm, hz, hc, _⟩
 ·exact ⟨fun l => .nil0, by simp⟩
 ·unfold maxLen at hm
  have hlen : (zs.take len).length = len := by rw [List.length_take]; omega
  refine ⟨fun l => ?_, by omega⟩
  obtain ⟨g, o, sp⟩ := x
  have hsp : sp = none := hs _ rfl
  subst hsp
  show RepF w _ (.row ((zs.take len).flatMap fInt) (zs.take len).length) _
  rw [hlen, flat_int]
  have hcell : ∀ i (h : i < (zs.take len).length), w.cell? ⟨g, o + i, none⟩ = some (.int .i64 (zs.take len)[i]) := fun i h => by
   have h1 := hc i (by omega)
   have e : (⟨g, o, none⟩ : Addr).add i = ⟨g, o + i, none⟩ := by
    unfold Addr.add
    split
    ·rename_i h0; subst h0; rfl
    ·rfl
   rw [e] at h1
   rw [h1, List.getElem_take, List.getD_eq_getElem?_getD, List.getElem?_eq_getElem (by omega)]
   rfl
  refine repF_rowI ⟨g, o, cap, rfl, hl, ⟨fun i hi => ?_, fun hne => ?_⟩⟩
  ·rw [List.length_map] at hi
   exact ⟨_, hcell i hi, by rw [List.getElem_map]; exact RepF.v _ rfl⟩
  ·refine ⟨?_, trivial⟩
   have h0 : 0 < (zs.take len).length := List.length_pos_iff.2 (fun e => hne (by rw [e]; rfl))
   exact World.block_lt_of_cell? w _ (hcell 0 h0)
theorem law_calls {f : FuncId} {args : List AVal} (hO : Ok Tryz.prog f args [] (aB true) []) (w : World) (vals : Array Value) (hs : vals.size = args.length) (hr : ∀ i (h : i < args.length) (h' : i < vals.size) l, RepA w (fun _ => .lock none) id l args[i] vals[i]) (hok : ∀ x ∈ args, x.ok 0 = true) :
  Calls Tryz.prog f vals w fun e w' => e = .returned (.bool true) ∧ Below w.heap.size w w' := by
 refine (hO.run w (fun _ => .lock none) id vals hs hr hok ⟨fun b cs h => by simp at h, fun b cs h => by simp at h⟩).mono ?_
 rintro e w' ⟨v, κ', ρ', rfl, hv, _, hfr, _⟩
 have hv : RepF w' κ' (.v (.bool true)) v := hv (.slot 0)
 rw [(repF_v.1 hv).1]
 exact ⟨rfl, hfr.os, hfr.tape, hfr.output, hfr.size, fun k hk => (hfr.lock k none hk rfl).2⟩
end Go.Proofs.YtalfibohepbhfaaGreat.Av
namespace Go.Proofs.YtalfibohepbhfaaGreat
open Go.ChangeShapes Go.WideShapes Go.Deep Go.RowKit
section
variable {H : Type} {enc : TypeId × Value → H} {P : Program} {w : World} {base : Nat} {spare : Nat → Bool} {held : Bool}
def Legible (enc : TypeId × Value → H) (P : Program) (w : World) (base : Nat) (spare : Nat → Bool) (held : Bool) (t : TypeId) (v : Value) : Prop :=
 ∃ n y, DataW.trod enc P w base spare held n t [v] = some y
theorem Legible.int {t : TypeId} {v : Value} {k : IntKind} (h : Legible enc P w base spare held t v) (ht : P.underlying t = some (.int k)) : ∃ n, v = .int k n ∧ (Lit.int k n).wf = true := by
 obtain ⟨m, y, hm⟩ := h
 obtain ⟨n, e, _, hw⟩ := DataW.trod_int ht hm
 exact ⟨n, by simpa using e, hw⟩
theorem Legible.str {t : TypeId} {v : Value} (h : Legible enc P w base spare held t v) (ht : P.underlying t = some .string) : ∃ s, v = .string s ∧ s.size ≤ maxLen := by
 obtain ⟨m, y, hm⟩ := h
 obtain ⟨s, e, _, hw⟩ := DataW.trod_string ht hm
 exact ⟨s, by simpa using e, hw⟩
theorem fields_legible {t : TypeId} {fs : Array Field} {fuel : Nat} {cs : List Value} {x : DataW H × List MemPlace} (hs : P.underlying t = some (.struct fs)) (hone : oneCellFields P fs = true) (hC : P.cellsOf t = fs.size)
  (h : DataW.trod enc P w base spare held fuel t cs = some x) : cs.length = fs.size ∧ ∀ (j : Nat) (f : Field), fs[j]? = some f → ∃ v, cs[j]? = some v ∧ Legible enc P w base spare held f.type v := by
 obtain ⟨xs, n, _, _, hl, hxl, hf⟩ := DataW.trod_struct hs h
 refine ⟨hl.trans hC, fun j f hj => ?_⟩
 have hlt : j < fs.size := (Array.getElem?_eq_some_iff.1 hj).1
 have hjc : j < cs.length := by omega
 have hjx : j < xs.length := by omega
 obtain ⟨ho, hk⟩ := hone_of hone j f hj
 have h1 := hf j f hj
 have e : (cs.drop f.offset).take (P.cellsOf f.type) = [cs[j]] := by
  rw [ho, hk, List.drop_eq_getElem_cons hjc, List.take_succ_cons, List.take_zero]
 rw [e, List.getElem?_eq_getElem hjx] at h1
 exact ⟨cs[j], List.getElem?_eq_getElem hjc, n, _, h1⟩
theorem agg_legible {r : Reach} {b0 : Nat} {t : TypeId} {fs : Array Field} {v : Value} {d : DataW H} {p : List MemPlace} (hs : P.underlying t = some (.struct fs)) (hone : oneCellFields P fs = true) (hC : P.cellsOf t = fs.size)
  (hv : Value.okWide P w r b0 t v) (h : DataW.Trod enc P w base spare held t v d p) :
  ∃ cs : List Value, v = .agg cs.toArray ∧ cs.length = fs.size ∧ ∀ (j : Nat) (f : Field), fs[j]? = some f → ∃ u, cs[j]? = some u ∧ Legible enc P w base spare held f.type u := by
 obtain ⟨⟨cs⟩, rfl, _⟩ := okWide_struct hs hv
 obtain ⟨fuel, hf⟩ := h
 obtain ⟨h1, h2⟩ := fields_legible hs hone hC hf
 exact ⟨cs, rfl, by simpa [Value.cells] using h1, fun j f hj => by simpa [Value.cells] using h2 j f hj⟩
theorem rows_legible {t e : TypeId} {fs : Array Field} {v : Value} (ht : P.underlying t = some (.slice e)) (he : P.underlying e = some (.struct fs)) (hone : oneCellFields P fs = true) (hC : P.cellsOf e = fs.size) (hpos : 0 < fs.size)
  (h : Legible enc P w base spare held t v) :
  ∃ A len cap, v = .slice A len cap ∧ len ≤ cap ∧ cap ≤ maxLen ∧ ∀ i, i < len → ∃ b off, A = some ⟨b, off, none⟩ ∧ b < w.heap.size ∧
   ∀ (j : Nat) (f : Field), fs[j]? = some f → ∃ u, w.cell? ⟨b, off + i * fs.size + j, none⟩ = some u ∧ Legible enc P w base spare held f.type u := by
 obtain ⟨fuel, y, hf⟩ := h
 rcases open_slice ht hf with ⟨h0, _⟩ | ⟨a, len, cap, m, n, D, Pl, hcs, hb, hl, hm, hmm, hx, hi⟩
 ·exact ⟨none, 0, 0, by simpa using h0, Nat.le_refl _, by simp [maxLen], fun i hi => absurd hi (Nat.not_lt_zero _)⟩
 ·refine ⟨some a, len, cap, by simpa using hcs, hl, hm, fun i him => ?_⟩
  have him' : i < m := by rw [hmm]; split <;> omega
  obtain ⟨cs', hc, ht'⟩ := hi i him'
  rw [hC] at hc
  obtain ⟨hlen, hfl⟩ := fields_legible he hone hC ht'
  obtain ⟨_, hcl, hat⟩ := World.cells?_some hc
  have h0 : w.cell? (a.add (i * fs.size)) = some (cs'[0]'(by omega)) := by
   have := hat 0 hpos
   rw [List.getElem?_eq_getElem (by omega)] at this
   simpa [Addr.add] using this
  obtain ⟨b, off, spot⟩ := a
  have hspot : spot = none := by
   by_cases hz : i * fs.size = 0
   ·rw [hz] at h0; simpa [Addr.add] using World.cell?_spot h0
   ·have h00 := (hi 0 (by omega))
    obtain ⟨cs0, hc0, ht0⟩ := h00
    rw [hC] at hc0
    obtain ⟨_, hcl0, hat0⟩ := World.cells?_some hc0
    have := hat0 0 hpos
    rw [List.getElem?_eq_getElem (by omega)] at this
    simpa [Addr.add] using World.cell?_spot this
  subst hspot
  have hlt := World.block_lt_of_cell? w _ h0
  refine ⟨b, off, rfl, by simpa [Go.WideShapes.add_plain] using hlt, fun j f hj => ?_⟩
  obtain ⟨u, hu, hleg⟩ := hfl j f hj
  have hjl : j < fs.size := (Array.getElem?_eq_some_iff.1 hj).1
  have := hat j hjl
  rw [Go.WideShapes.add_plain, Go.WideShapes.add_plain, hu] at this
  exact ⟨u, this, hleg⟩
theorem row1_legible {t e : TypeId} {v : Value} (ht : P.underlying t = some (.slice e)) (hC : P.cellsOf e = 1)
  (h : Legible enc P w base spare held t v) :
  ∃ A len cap, v = .slice A len cap ∧ len ≤ cap ∧ cap ≤ maxLen ∧ ∀ i, i < len → ∃ b off, A = some ⟨b, off, none⟩ ∧ b < w.heap.size ∧
   ∃ u, w.cell? ⟨b, off + i, none⟩ = some u ∧ Legible enc P w base spare held e u := by
 obtain ⟨fuel, y, hf⟩ := h
 rcases open_slice ht hf with ⟨h0, _⟩ | ⟨a, len, cap, m, n, D, Pl, hcs, hb, hl, hm, hmm, hx, hi⟩
 ·exact ⟨none, 0, 0, by simpa using h0, Nat.le_refl _, by simp [maxLen], fun i hi => absurd hi (Nat.not_lt_zero _)⟩
 ·refine ⟨some a, len, cap, by simpa using hcs, hl, hm, fun i him => ?_⟩
  have key : ∀ k, k < m → ∃ u, w.cell? (a.add k) = some u ∧ Legible enc P w base spare held e u := by
   intro k hk
   obtain ⟨cs', hc, ht'⟩ := hi k hk
   rw [hC, Nat.mul_one] at hc
   obtain ⟨_, hcl, hat⟩ := World.cells?_some hc
   match cs', hcl with
   | [u], _ => exact ⟨u, by simpa [Addr.add] using hat 0 (by omega), n, _, ht'⟩
  have him' : i < m := by rw [hmm]; split <;> omega
  obtain ⟨u0, h0, _⟩ := key 0 (by omega)
  obtain ⟨u, hu, hleg⟩ := key i him'
  obtain ⟨b, off, spot⟩ := a
  have hspot : spot = none := by simpa [Addr.add] using World.cell?_spot h0
  subst hspot
  rw [Go.WideShapes.add_plain] at hu
  exact ⟨b, off, rfl, World.block_lt_of_cell? w _ hu, u, hu, hleg⟩
end
theorem list_of {α : Type} {Q : Nat → α → Prop} : ∀ (n : Nat), (∀ i, i < n → ∃ a, Q i a) → ∃ l : List α, l.length = n ∧ ∀ i (h : i < l.length), Q i l[i]
 | 0, _ => ⟨[], rfl, fun i h => absurd h (Nat.not_lt_zero _)⟩
 | n + 1, h => by
  obtain ⟨l, hl, hq⟩ := list_of n (fun i hi => h i (by omega))
  obtain ⟨a, ha⟩ := h n (by omega)
  refine ⟨l ++ [a], by simp [hl], fun i hi => ?_⟩
  by_cases hin : i < l.length
  ·rw [List.getElem_append_left hin]; exact hq i hin
  ·have : i = l.length := by simp at hi; omega
   subst this
   simp [hl, ha]
end Go.Proofs.YtalfibohepbhfaaGreat
namespace Go.Proofs.YtalfibohepbhfaaGreat.Av
open Go.ChangeShapes Go.WideShapes Go.Deep Go.RowKit
set_option maxRecDepth 100000
theorem cell_slice {P : Program} {w : World} {r : Reach} {base : Nat} {t e : TypeId} {A : Option Addr} {len cap : Nat} (ht : P.underlying t = some (.slice e)) (h : Cell.okWide P w r base t (.slice A len cap)) : (A = none ∧ len = 0 ∧ cap = 0) ∨ ∃ b o, A = some ⟨b, o, none⟩ := by
 cases A with
 | none =>
  left
  simp only [Cell.okWide, ht, Cell.ok] at h
  split at h <;> simp_all
 | some a =>
  right
  simp only [Cell.okWide, ht, Cell.ok] at h
  obtain ⟨b, o, sp⟩ := a
  have : sp = none := h.2.2.2.1
  subst this
  exact ⟨b, o, rfl⟩
theorem field_wide {P : Program} {w : World} {r : Reach} {base : Nat} {t : TypeId} {fs : Array Field} {cs : Array Value} {ts : List TypeId} (hs : P.underlying t = some (.struct fs)) (hts : P.cellTypes P.depth t = some ts) (hv : Value.okWide P w r base t (.agg cs)) {i : Nat} {u : TypeId} {v : Value} (hi : i < ts.length) (hu : ts[i]? = some u) (h : cs[i]? = some v) : Cell.okWide P w r base u v := by
 simp only [Value.okWide, hs] at hv
 obtain ⟨cs', e, _, ts', h1, _, h2⟩ := hv
 injection e with e
 subst e
 rw [hts] at h1
 injection h1 with h1
 subst h1
 obtain ⟨u', h3, h4⟩ := h2 i v h
 rw [Nat.mod_eq_of_lt hi, hu] at h3
 injection h3 with h3
 exact h3 ▸ h4
theorem flat_idx {α β : Type} (F : α → List β) (n : Nat) (hn : ∀ x, (F x).length = n) (l : List α) {i : Nat} (h : i < (l.flatMap F).length) (h0 : 0 < n) : ∃ hk : i / n < l.length, (l.flatMap F)[i]? = (F l[i / n])[i % n]? := by
 have hl := flatMap_lenB F n hn l
 have hk : i / n < l.length := by rw [Nat.div_lt_iff_lt_mul h0]; omega
 refine ⟨hk, ?_⟩
 have := flatMap_get F n hn l (i / n) (i % n) l[i / n] (List.getElem?_eq_getElem hk) (Nat.mod_lt _ h0)
 rwa [Nat.mul_comm, Nat.div_add_mod] at this
theorem row_rep {α : Type} {F : α → List FVal} {n : Nat} (hn : ∀ x, (F x).length = n) (h0 : 0 < n) {w : World} {A : Option Addr} {cap : Nat} {l : List α} (hc : l.length ≤ cap) (hs : (A = none ∧ l.length = 0 ∧ cap = 0) ∨ ∃ b o, A = some ⟨b, o, none⟩)
  (hq : ∀ i (h : i < l.length), ∃ b off, A = some ⟨b, off, none⟩ ∧ b < w.heap.size ∧ ∀ j v, (F l[i])[j]? = some v → ∃ u, w.cell? ⟨b, off + i * n + j, none⟩ = some u ∧ RepF w (fun _ => .lock none) v u) : RepF w (fun _ => .lock none) (.row (l.flatMap F) l.length) (.slice A l.length cap) := by
 rcases hs with ⟨rfl, e, rfl⟩ | ⟨b, o, rfl⟩
 ·have : l = [] := List.eq_nil_of_length_eq_zero e
  subst this
  exact .nil0
 ·refine repF_rowI ⟨b, o, cap, rfl, hc, ⟨fun i hi => ?_, fun hne => ⟨?_, trivial⟩⟩⟩
  ·obtain ⟨hk, e⟩ := flat_idx F n hn l hi h0
   obtain ⟨b', o', e1, _, hf⟩ := hq (i / n) hk
   injection e1 with e1
   injection e1 with e2 e3
   subst e2; subst e3
   rw [List.getElem?_eq_getElem hi] at e
   obtain ⟨u, h1, h2⟩ := hf (i % n) _ e.symm
   refine ⟨u, ?_, h2⟩
   rw [Nat.add_assoc, Nat.mul_comm, Nat.div_add_mod] at h1
   exact h1
  ·have hl : 0 < l.length := List.length_pos_iff.2 fun e => hne (by rw [e]; rfl)
   obtain ⟨b', o', e1, hb, _⟩ := hq 0 hl
   injection e1 with e1
   injection e1 with e2 e3
   subst e2
   exact hb
section
variable {H : Type} {enc : TypeId × Value → H} {w : World} {base : Nat} {spare : Nat → Bool} {held : Bool} {r : Reach} {b0 : Nat}
theorem open_strsA {A : Option Addr} {len cap : Nat} (hw : Cell.okWide Tryz.prog w r b0 23 (.slice A len cap)) (h : Legible enc Tryz.prog w base spare held 23 (.slice A len cap)) : ∃ l : List ByteArray, l.length = len ∧ len ≤ 9223372036854775807 ∧ Short l ∧ RepF w (fun _ => .lock none) (.row (l.flatMap fStr) l.length) (.slice A len cap) := by
 obtain ⟨A', len', cap', e, h1, h2, h3⟩ := row1_legible Tryz.underlying23 (by kernel_rfl) h
 injection e with e1 e2 e3
 subst e1; subst e2; subst e3
 obtain ⟨l, hl, hq⟩ := list_of (Q := fun i (s : ByteArray) => s.size ≤ 9223372036854775807 ∧ ∃ b off, A = some ⟨b, off, none⟩ ∧ b < w.heap.size ∧ w.cell? ⟨b, off + i, none⟩ = some (.string s)) len (fun i hi => by
  obtain ⟨b, off, e, hb, u, hu, lg⟩ := h3 i hi
  obtain ⟨s, rfl, hz⟩ := lg.str Tryz.underlying9
  exact ⟨s, by unfold maxLen at hz; omega, b, off, e, hb, hu⟩)
 subst hl
 refine ⟨l, rfl, by unfold maxLen at h2; omega, fun s hs => ?_, row_rep (n := 1) (fun x => rfl) (by omega) h1 (cell_slice Tryz.underlying23 hw) fun i hi => ?_⟩
 ·obtain ⟨i, hi, rfl⟩ := List.mem_iff_getElem.1 hs
  exact (hq i hi).1
 ·obtain ⟨_, b, off, e, hb, hu⟩ := hq i hi
  refine ⟨b, off, e, hb, fun j v hv => ?_⟩
  match j, hv with
  | 0, hv =>
   injection hv with hv
   subst hv
   exact ⟨_, by rw [Nat.mul_one, Nat.add_zero]; exact hu, .v _ rfl⟩
theorem open_secsA {A : Option Addr} {len cap : Nat} (hw : Cell.okWide Tryz.prog w r b0 24 (.slice A len cap)) (h : Legible enc Tryz.prog w base spare held 24 (.slice A len cap)) : ∃ l : List Sec, l.length = len ∧ len ≤ 9223372036854775807 ∧ Short (l.map Sec.nm) ∧ RepF w (fun _ => .lock none) (.row (l.flatMap fSec) l.length) (.slice A len cap) := by
 obtain ⟨A', len', cap', e, h1, h2, h3⟩ := rows_legible Tryz.underlying24 Tryz.underlying116 (by kernel_rfl) (by kernel_rfl) (by decide) h
 injection e with e1 e2 e3
 subst e1; subst e2; subst e3
 obtain ⟨l, hl, hq⟩ := list_of (Q := fun i (s : Sec) => s.nm.size ≤ 9223372036854775807 ∧ ∃ b off, A = some ⟨b, off, none⟩ ∧ b < w.heap.size ∧ ∀ j v, (fSec s)[j]? = some v → ∃ u, w.cell? ⟨b, off + i * 5 + j, none⟩ = some u ∧ RepF w (fun _ => .lock none) v u) len (fun i hi => by
  obtain ⟨b, off, e, hb, hf⟩ := h3 i hi
  obtain ⟨u0, c0, l0⟩ := hf 0 _ rfl
  obtain ⟨u1, c1, l1⟩ := hf 1 _ rfl
  obtain ⟨u2, c2, l2⟩ := hf 2 _ rfl
  obtain ⟨u3, c3, l3⟩ := hf 3 _ rfl
  obtain ⟨u4, c4, l4⟩ := hf 4 _ rfl
  obtain ⟨s, rfl, hz⟩ := l0.str Tryz.underlying9
  obtain ⟨n1, rfl, _⟩ := l1.int (k := .i64) Tryz.underlying3
  obtain ⟨n2, rfl, _⟩ := l2.int (k := .i64) Tryz.underlying3
  obtain ⟨n3, rfl, _⟩ := l3.int (k := .i64) Tryz.underlying3
  obtain ⟨n4, rfl, _⟩ := l4.int (k := .i64) Tryz.underlying3
  refine ⟨⟨s, n1, n2, n3, n4⟩, by unfold maxLen at hz; simp only; omega, b, off, e, hb, fun j v hv => ?_⟩
  match j, hv with
  | 0, hv => injection hv with hv; subst hv; exact ⟨_, c0, .v _ rfl⟩
  | 1, hv => injection hv with hv; subst hv; exact ⟨_, c1, .v _ rfl⟩
  | 2, hv => injection hv with hv; subst hv; exact ⟨_, c2, .v _ rfl⟩
  | 3, hv => injection hv with hv; subst hv; exact ⟨_, c3, .v _ rfl⟩
  | 4, hv => injection hv with hv; subst hv; exact ⟨_, c4, .v _ rfl⟩)
 subst hl
 refine ⟨l, rfl, by unfold maxLen at h2; omega, fun s hs => ?_, row_rep (n := 5) (fun x => rfl) (by omega) h1 (cell_slice Tryz.underlying24 hw) fun i hi => (hq i hi).2⟩
 obtain ⟨x, hx, rfl⟩ := List.mem_map.1 hs
 obtain ⟨i, hi, rfl⟩ := List.mem_iff_getElem.1 hx
 exact (hq i hi).1
theorem open_lnksA {A : Option Addr} {len cap : Nat} (hw : Cell.okWide Tryz.prog w r b0 25 (.slice A len cap)) (h : Legible enc Tryz.prog w base spare held 25 (.slice A len cap)) : ∃ l : List Lnk, l.length = len ∧ len ≤ 9223372036854775807 ∧ RepF w (fun _ => .lock none) (.row (l.flatMap fLnk) l.length) (.slice A len cap) := by
 obtain ⟨A', len', cap', e, h1, h2, h3⟩ := rows_legible Tryz.underlying25 Tryz.underlying143 (by kernel_rfl) (by kernel_rfl) (by decide) h
 injection e with e1 e2 e3
 subst e1; subst e2; subst e3
 obtain ⟨l, hl, hq⟩ := list_of (Q := fun i (s : Lnk) => ∃ b off, A = some ⟨b, off, none⟩ ∧ b < w.heap.size ∧ ∀ j v, (fLnk s)[j]? = some v → ∃ u, w.cell? ⟨b, off + i * 6 + j, none⟩ = some u ∧ RepF w (fun _ => .lock none) v u) len (fun i hi => by
  obtain ⟨b, off, e, hb, hf⟩ := h3 i hi
  obtain ⟨u0, c0, l0⟩ := hf 0 _ rfl
  obtain ⟨u1, c1, l1⟩ := hf 1 _ rfl
  obtain ⟨u2, c2, l2⟩ := hf 2 _ rfl
  obtain ⟨u3, c3, l3⟩ := hf 3 _ rfl
  obtain ⟨u4, c4, l4⟩ := hf 4 _ rfl
  obtain ⟨u5, c5, l5⟩ := hf 5 _ rfl
  obtain ⟨n0, rfl, _⟩ := l0.int (k := .i64) Tryz.underlying3
  obtain ⟨n1, rfl, _⟩ := l1.int (k := .i64) Tryz.underlying3
  obtain ⟨n2, rfl, _⟩ := l2.int (k := .i64) Tryz.underlying3
  obtain ⟨n3, rfl, _⟩ := l3.int (k := .i64) Tryz.underlying3
  obtain ⟨n4, rfl, _⟩ := l4.int (k := .i64) Tryz.underlying3
  obtain ⟨n5, rfl, _⟩ := l5.int (k := .i64) Tryz.underlying3
  refine ⟨⟨n0, n1, n2, n3, n4, n5⟩, b, off, e, hb, fun j v hv => ?_⟩
  match j, hv with
  | 0, hv => injection hv with hv; subst hv; exact ⟨_, c0, .v _ rfl⟩
  | 1, hv => injection hv with hv; subst hv; exact ⟨_, c1, .v _ rfl⟩
  | 2, hv => injection hv with hv; subst hv; exact ⟨_, c2, .v _ rfl⟩
  | 3, hv => injection hv with hv; subst hv; exact ⟨_, c3, .v _ rfl⟩
  | 4, hv => injection hv with hv; subst hv; exact ⟨_, c4, .v _ rfl⟩
  | 5, hv => injection hv with hv; subst hv; exact ⟨_, c5, .v _ rfl⟩)
 subst hl
 exact ⟨l, rfl, by unfold maxLen at h2; omega, row_rep (n := 6) (fun x => rfl) (by omega) h1 (cell_slice Tryz.underlying25 hw) hq⟩
theorem open_layA {v : Value} {d : DataW H} {p : List MemPlace} (hv : Value.okWide Tryz.prog w r b0 27 v) (h : DataW.Trod enc Tryz.prog w base spare held 27 v d p) : ∃ L : Lay, LayFits L ∧ ∀ l, RepA w (fun _ => .lock none) id l (vLay L).den v := by
 obtain ⟨cs, rfl, hl, hf⟩ := agg_legible Tryz.underlying27 (by kernel_rfl) (by kernel_rfl) hv h
 have hts : Tryz.prog.cellTypes Tryz.prog.depth 27 = some [23, 23, 24, 25] := by kernel_rfl
 match cs, hl with
 | [c0, c1, c2, c3], _ =>
  obtain ⟨u0, e0, l0⟩ := hf 0 _ rfl
  obtain ⟨u1, e1, l1⟩ := hf 1 _ rfl
  obtain ⟨u2, e2, l2⟩ := hf 2 _ rfl
  obtain ⟨u3, e3, l3⟩ := hf 3 _ rfl
  obtain rfl : c0 = u0 := by simpa using e0
  obtain rfl : c1 = u1 := by simpa using e1
  obtain rfl : c2 = u2 := by simpa using e2
  obtain rfl : c3 = u3 := by simpa using e3
  have w0 := field_wide Tryz.underlying27 hts hv (i := 0) (by decide) rfl (v := c0) rfl
  have w1 := field_wide Tryz.underlying27 hts hv (i := 1) (by decide) rfl (v := c1) rfl
  have w2 := field_wide Tryz.underlying27 hts hv (i := 2) (by decide) rfl (v := c2) rfl
  have w3 := field_wide Tryz.underlying27 hts hv (i := 3) (by decide) rfl (v := c3) rfl
  obtain ⟨A0, n0, k0, rfl, _⟩ := row1_legible Tryz.underlying23 (by kernel_rfl) l0
  obtain ⟨A1, n1, k1, rfl, _⟩ := row1_legible Tryz.underlying23 (by kernel_rfl) l1
  obtain ⟨A2, n2, k2, rfl, _⟩ := rows_legible Tryz.underlying24 Tryz.underlying116 (by kernel_rfl) (by kernel_rfl) (by decide) l2
  obtain ⟨A3, n3, k3, rfl, _⟩ := rows_legible Tryz.underlying25 Tryz.underlying143 (by kernel_rfl) (by kernel_rfl) (by decide) l3
  obtain ⟨a, rfl, za, sa, ra⟩ := open_strsA w0 l0
  obtain ⟨b, rfl, zb, sb, rb⟩ := open_strsA w1 l1
  obtain ⟨c, rfl, zc, sc, rc⟩ := open_secsA w2 l2
  obtain ⟨e, rfl, ze, re⟩ := open_lnksA w3 l3
  refine ⟨⟨a, b, c, e⟩, ⟨sa, sb, sc, za, zb, zc, ze⟩, fun l => ⟨_, rfl, rfl, fun i hi hi' => ?_⟩⟩
  match i, hi' with
  | 0, _ => exact ⟨rfl, ra⟩
  | 1, _ => exact ⟨rfl, rb⟩
  | 2, _ => exact ⟨rfl, rc⟩
  | 3, _ => exact ⟨rfl, re⟩
theorem open_rteA {v : Value} {d : DataW H} {p : List MemPlace} (hv : Value.okWide Tryz.prog w r b0 30 v) (h : DataW.Trod enc Tryz.prog w base spare held 30 v d p) : ∃ (st : List Stp) (ov : Int), st.length ≤ 9223372036854775807 ∧ (-9223372036854775808 ≤ ov ∧ ov ≤ 9223372036854775807) ∧ ∀ l, RepA w (fun _ => .lock none) id l (SV.den (.agg [rStp st, xI ov])) v := by
 obtain ⟨cs, rfl, hl, hf⟩ := agg_legible Tryz.underlying30 (by kernel_rfl) (by kernel_rfl) hv h
 have hts : Tryz.prog.cellTypes Tryz.prog.depth 30 = some [28, 3] := by kernel_rfl
 match cs, hl with
 | [c0, c1], _ =>
  obtain ⟨u0, e0, l0⟩ := hf 0 _ rfl
  obtain ⟨u1, e1, l1⟩ := hf 1 _ rfl
  obtain rfl : c0 = u0 := by simpa using e0
  obtain rfl : c1 = u1 := by simpa using e1
  have w0 := field_wide Tryz.underlying30 hts hv (i := 0) (by decide) rfl (v := c0) rfl
  obtain ⟨ov, rfl, hov⟩ := l1.int (k := .i64) Tryz.underlying3
  obtain ⟨A, len, cap, rfl, h1, h2, h3⟩ := rows_legible Tryz.underlying28 Tryz.underlying51 (by kernel_rfl) (by kernel_rfl) (by decide) l0
  obtain ⟨st, hz, hq⟩ := list_of (Q := fun i (s : Stp) => ∃ b off, A = some ⟨b, off, none⟩ ∧ b < w.heap.size ∧ ∀ j v, (fStp s)[j]? = some v → ∃ u, w.cell? ⟨b, off + i * 2 + j, none⟩ = some u ∧ RepF w (fun _ => .lock none) v u) len (fun i hi => by
   obtain ⟨b, off, e, hb, hf⟩ := h3 i hi
   obtain ⟨u0, c0, l0⟩ := hf 0 _ rfl
   obtain ⟨u1, c1, l1⟩ := hf 1 _ rfl
   obtain ⟨n0, rfl, _⟩ := l0.int (k := .i64) Tryz.underlying3
   obtain ⟨n1, rfl, _⟩ := l1.int (k := .i64) Tryz.underlying3
   refine ⟨⟨n0, n1⟩, b, off, e, hb, fun j v hv => ?_⟩
   match j, hv with
   | 0, hv => injection hv with hv; subst hv; exact ⟨_, c0, .v _ rfl⟩
   | 1, hv => injection hv with hv; subst hv; exact ⟨_, c1, .v _ rfl⟩)
  subst hz
  have hb : -9223372036854775808 ≤ ov ∧ ov ≤ 9223372036854775807 := by simpa [Lit.wf, IntKind.min, IntKind.max, IntKind.signed, IntKind.bits] using hov
  refine ⟨st, ov, by unfold maxLen at h2; omega, hb, fun l => ⟨_, rfl, rfl, fun i hi hi' => ?_⟩⟩
  match i, hi' with
  | 0, _ => exact ⟨rfl, row_rep (n := 2) (fun x => rfl) (by omega) h1 (cell_slice Tryz.underlying28 w0) hq⟩
  | 1, _ => exact ⟨rfl, .v _ rfl⟩
theorem open_stkA {v : Value} {d : DataW H} {p : List MemPlace} (hv : Value.okWide Tryz.prog w r b0 32 v) (h : DataW.Trod enc Tryz.prog w base spare held 32 v d p) : ∃ (nm : ByteArray) (l sp ac br : Int), ∀ k, RepA w (fun _ => .lock none) id k (SV.den (.agg [xS nm, xI l, xI sp, xI ac, xI br])) v := by
 obtain ⟨cs, rfl, hl, hf⟩ := agg_legible Tryz.underlying32 (by kernel_rfl) (by kernel_rfl) hv h
 match cs, hl with
 | [c0, c1, c2, c3, c4], _ =>
  obtain ⟨u0, e0, l0⟩ := hf 0 _ rfl
  obtain ⟨u1, e1, l1⟩ := hf 1 _ rfl
  obtain ⟨u2, e2, l2⟩ := hf 2 _ rfl
  obtain ⟨u3, e3, l3⟩ := hf 3 _ rfl
  obtain ⟨u4, e4, l4⟩ := hf 4 _ rfl
  obtain ⟨s, rfl, _⟩ := l0.str Tryz.underlying9
  obtain ⟨n1, rfl, _⟩ := l1.int (k := .i64) Tryz.underlying3
  obtain ⟨n2, rfl, _⟩ := l2.int (k := .i64) Tryz.underlying3
  obtain ⟨n3, rfl, _⟩ := l3.int (k := .i64) Tryz.underlying3
  obtain ⟨n4, rfl, _⟩ := l4.int (k := .i64) Tryz.underlying3
  simp at e0 e1 e2 e3 e4
  subst e0; subst e1; subst e2; subst e3; subst e4
  refine ⟨s, n1, n2, n3, n4, fun k => ⟨_, rfl, rfl, fun i hi hi' => ?_⟩⟩
  match i, hi' with
  | 0, _ => exact ⟨rfl, .v _ rfl⟩
  | 1, _ => exact ⟨rfl, .v _ rfl⟩
  | 2, _ => exact ⟨rfl, .v _ rfl⟩
  | 3, _ => exact ⟨rfl, .v _ rfl⟩
  | 4, _ => exact ⟨rfl, .v _ rfl⟩
end
end Go.Proofs.YtalfibohepbhfaaGreat.Av
namespace Go.Proofs.YtalfibohepbhfaaGreat
open Go.RowKit Av
theorem W.MotionFits (v0 v1 v2 : Value) (a3 : Option Addr) (len3 cap3 : Nat) (z3 : List Int) (a4 a5 a6 : Int) (w : World) (L : Lay) (hL : LayFits L) (r0 : ∀ l, RepA w (fun _ => .lock none) id l (vLay L).den v0) (st : List Stp) (ov : Int) (hl : st.length ≤ 9223372036854775807) (ho : -9223372036854775808 ≤ ov ∧ ov ≤ 9223372036854775807) (r1 : ∀ l, RepA w (fun _ => .lock none) id l (SV.den (.agg [rStp st, xI ov])) v1) (nm : ByteArray) (n2 sp ac br : Int) (r2 : ∀ l, RepA w (fun _ => .lock none) id l (SV.den (.agg [xS nm, xI n2, xI sp, xI ac, xI br])) v2) (w3 : Av.IsRowI w a3 len3 cap3 z3) (s3 : ∀ x, a3 = some x → x.spot = none) :
  Calls Tryz.prog 8 #[v0, v1, v2, .slice a3 len3 cap3, .int .i64 a4, .int .i64 a5, .int .i64 a6] w fun e w' => e = .returned (.bool true) ∧ Below w.heap.size w w' := by
 obtain ⟨h3, b3⟩ := Av.rowI_rep w3 s3
 refine Av.law_calls (Av.fitsLaw_ok L hL st ov hl ho nm n2 sp ac br (z3.take len3) b3 a4 a5 a6) w _ rfl (fun i hi hi' l => ?_) (fun x hx => by
  simp at hx
  rcases hx with rfl | rfl | rfl | rfl | rfl | rfl | rfl <;> rfl)
 match i, hi with
 | 0, _ => exact r0 l
 | 1, _ => exact r1 l
 | 2, _ => exact r2 l
 | 3, _ => exact h3 l
 | 4, _ => exact .v _ rfl
 | 5, _ => exact .v _ rfl
 | 6, _ => exact .v _ rfl
end Go.Proofs.YtalfibohepbhfaaGreat
