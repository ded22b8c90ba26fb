/- What the claims use of their texts: AvZ, AvQ4, AvQ5, Ot2, Ot3, AvQ6, Ot4, Base, Name, RcK, LayRead, RowsF, CkI, QTail, Ends, Fits, LinkIn. -/
import Derived.Test.YthnfliopmjpdmaaPEC
set_option linter.unusedVariables false
set_option linter.unusedSimpArgs false
set_option maxRecDepth 4000
set_option maxHeartbeats 4000000
namespace Go.Proofs.Ythnfliopmjpdmaa.Av
def tabQ : Tb := ⟨tab.sz, tab.fo, tab.fa, tab.es, tab.ms, tab.bi, tab.ze, tab.st, tab.it, tab.sl, tab.eq, tab.cb, true⟩
theorem tabQOk : tabQ.Ok Try.prog := ⟨tabOk.sz, tabOk.fo, tabOk.fa, tabOk.es, tabOk.ms, tabOk.bi, tabOk.ze, tabOk.st, tabOk.it, tabOk.sl, tabOk.eq, tabOk.cb⟩
inductive RexQ : Prop → Prop → Prop where
 | go {n0 : Nat} {c : Code} {l : SL} {H : SH} {K : AExit → St → Prop} {q : Prop} (h : wC1 Try.prog tabQ els n0 c l H K = some q) : RexQ (W Try.prog (DR Try.prog) n0 c (SS l H) K) q
 | rest {ops : Array Oper} {rest : List Oper} {l : SL} {H : SH} {R : Rg} {q : Prop} (h : wR1 Try.prog tabQ els ops rest l H R = some q) : RexQ (WR Try.prog ops rest (SS l H) R) q
theorem RexQ.o {A B : Prop} (h : RexQ A B) (b : B) : A := by
 cases h with
 | go h => exact wC1_go tabQOk elsOk h b
 | rest h => exact wR1_go tabQOk elsOk h b
theorem X_wk {P : Program} {ops : Array Oper} {o : Oper} {rest : List Oper} {l l2 : SL} {H H2 : SH} {K : St → Prop} (hw : WkM ops (SS l H) (SS l2 H2)) (h : WR P ops [o] (SS l2 H2) (.seq [] fun _ s' => WR P ops rest s' (.plain K))) : WR P ops (o :: rest) (SS l H) (.plain K) := by
 have h : WOp P ops o (SS l2 H2) fun _ s' => WR P ops rest s' (.plain K) := h.out
 exact ⟨.inr (.inr (.inr ⟨_, hw, WOp_mono (fun c s k => k.out) h⟩))⟩
theorem wkm_frzC {ops : Array Oper} {s : St} {b b0 i0 len cap k : Nat} {fs : List FVal} {cs : List CVal} (hne : b ≠ b0) (hb : s.H[b]? = some (some (fs.map CVal.f))) (hb0 : s.H[b0]? = some (some cs)) (hi0 : cs[i0]? = some (.arr b 0 len cap)) (hc : len ≤ cap) : WkM ops s { s with H := (s.H.set b none).set b0 (some (cs.set i0 (.f (.row (fs.take k) len)))) } := by
 refine ⟨⟨by simp, fun a w κ ρ hR => ?_⟩, fun o h => h⟩
 have hB := hR.heap.blk b _ hb
 have ho := hB.own
 have hlt : ρ b < w.heap.size := by
  obtain ⟨c, e, h1, _⟩ := hB.lie
  exact lt_of_heap h1
 have hG : Grow w κ w (upd κ (ρ b) (.lock none)) := ⟨Nat.le_refl _, fun _ _ _ _ _ h => h, fun g n hg hf => by
  by_cases e : g = ρ b
  ·rw [e, upd_same]; trivial
  ·rw [upd_other _ _ e]; exact hf⟩
 have hK : ∀ l, Keep w κ w (upd κ (ρ b) (.lock none)) l l := fun l => ⟨hG, fun g n hg hk => ⟨by
  rw [upd_other _ _ (fun e => by rw [e, ho] at hk; cases hk)]; exact hk, rfl⟩⟩
 have hF : Fr w κ w (upd κ (ρ b) (.lock none)) := ⟨rfl, rfl, rfl, Nat.le_refl _, fun g n hg hk => ⟨by
  rw [upd_other _ _ (fun e => by rw [e, ho] at hk; cases hk)]; exact hk, rfl⟩, hG⟩
 have hset : ∀ b' cs', ((s.H.set b none).set b0 (some (cs.set i0 (.f (.row (fs.take k) len)))))[b']? = some (some cs') → b' ≠ b ∧ ((b' ≠ b0 ∧ s.H[b']? = some (some cs')) ∨ (b' = b0 ∧ cs' = cs.set i0 (.f (.row (fs.take k) len)))) := fun b' cs' h => by
  by_cases e0 : b0 = b'
  ·subst e0
   rw [List.getElem?_set] at h
   simp at h
   exact ⟨fun e => hne e.symm, .inr ⟨rfl, h.2.symm⟩⟩
  ·rw [List.getElem?_set_ne e0] at h
   by_cases e : b = b'
   ·subst e
    rw [List.getElem?_set] at h
    simp at h
   ·rw [List.getElem?_set_ne e] at h
    exact ⟨fun h => e h.symm, .inl ⟨fun h => e0 h.symm, h⟩⟩
 have hlen : ((s.H.set b none).set b0 (some (cs.set i0 (.f (.row (fs.take k) len))))).length = s.H.length := by simp
 have hrow : RowAt w (upd κ (ρ b) (.lock none)) (ρ b) 0 fs := ⟨fun j hj => by
  obtain ⟨v, k1, k2⟩ := hB.cell j (by simpa using hj)
  rw [List.getElem_map] at k2
  exact ⟨v, by rw [Nat.zero_add]; exact k1, RepF.grow hG k2⟩, fun _ => ⟨hlt, by rw [upd_same]; trivial⟩⟩
 refine ⟨_, ⟨hR.defers, fun i hi' => RepA.keep hG (fun _ _ => rfl) (hR.ok i) (fun _ _ _ _ => hK _) (hR.slot i hi'), hR.out, fun i => by rw [hlen]; exact hR.ok i, ⟨fun b' cs' hb' => ?_, fun b' cs' hb' x hx => ?_⟩⟩, hF⟩
 ·obtain ⟨hnb, ⟨hn0, hb2⟩ | ⟨rfl, rfl⟩⟩ := hset b' cs' hb'
  ·obtain ⟨k0, c, e, k1, k2, k3⟩ := hR.heap.blk b' cs' hb2
   refine ⟨?_, c, e, k1, k2, fun i hi hi' => RepC.keep hG (fun _ _ => rfl) (hR.heap.ok b' cs' hb2 _ (List.getElem_mem hi)) (fun _ _ _ _ => hK _) (k3 i hi hi')⟩
   rw [upd_other _ _ (fun e => by rw [e, ho] at k0; injection k0 with k0; exact hnb k0.symm)]
   exact k0
  ·obtain ⟨k0, c, e, k1, k2, k3⟩ := hR.heap.blk b' cs hb0
   refine ⟨?_, c, e, k1, by rw [List.length_set]; exact k2, fun i hi hi' => ?_⟩
   ·rw [upd_other _ _ (fun e => by rw [e, ho] at k0; injection k0 with k0; exact hnb k0.symm)]
    exact k0
   ·rw [List.length_set] at hi
    rw [List.getElem_set]
    split
    ·rename_i e1
     subst e1
     have h3 := k3 i0 hi hi'
     have e2 : cs[i0] = .arr b 0 len cap := by
      rw [List.getElem?_eq_getElem hi] at hi0
      exact Option.some.inj hi0
     rw [e2] at h3
     have h3 : c[i0] = .slice (some ⟨ρ b, 0, none⟩) len cap := h3
     rw [h3]
     exact repF_rowI ⟨ρ b, 0, cap, rfl, hc, hrow.take k⟩
    ·exact RepC.keep hG (fun _ _ => rfl) (hR.heap.ok b' cs hb0 _ (List.getElem_mem hi)) (fun _ _ _ _ => hK _) (k3 i hi hi')
 ·rw [hlen]
  obtain ⟨hnb, ⟨hn0, hb2⟩ | ⟨rfl, rfl⟩⟩ := hset b' cs' hb'
  ·exact hR.heap.ok b' cs' hb2 x hx
  ·rcases List.mem_or_eq_of_mem_set hx with h | h
   ·exact hR.heap.ok b' cs hb0 x h
   ·rw [h]; rfl
theorem flatMap_take {α : Type} {F : α → List FVal} {z : Nat} (hF : ∀ x, (F x).length = z) (l r : List α) : ((l ++ r).flatMap F).take (l.length * z) = l.flatMap F := by
 rw [List.flatMap_append, ← flatMap_lenB F z hF l, List.take_left]
theorem X_frzC {P : Program} {ops : Array Oper} {o : Oper} {rest : List Oper} {l : SL} {H : SH} {K : St → Prop} (b b0 i0 : Nat) {α : Type} {z : Nat} {F : α → List FVal} {V : α → List SC} {M : List FVal → Option α} {d : α} {ls rs : List α} {cs : List SC} {len cap : Nat} (hne : b ≠ b0) (hH : nth H b = some (some (.els z F V M d (ls ++ rs)))) (hH0 : nth H b0 = some (some (.cells cs))) (hi : nth cs i0 = some (.c (.arr b 0 len cap))) (hlen : len = ls.length) (hc : len ≤ cap) (hF : ∀ x, (F x).length = z)
  (h : WR P ops [o] (SS l ((H.set b none).set b0 (some (.cells (cs.set i0 (.row z F V d ls)))))) (.seq [] fun _ s' => WR P ops rest s' (.plain K))) : WR P ops (o :: rest) (SS l H) (.plain K) := by
 refine X_wk ?_ h
 have hw := wkm_frzC (ops := ops) (s := SS l H) (b := b) (b0 := b0) (i0 := i0) (len := len) (cap := cap) (k := ls.length * z) (fs := (ls ++ rs).flatMap F) (cs := denL cs) hne (by rw [SS_H]; exact nth_H hH) (by rw [SS_H]; exact nth_H hH0) (nth_den hi) hc
 rw [flatMap_take hF, hlen] at hw
 have e : SS l ((H.set b none).set b0 (some (.cells (cs.set i0 (.row z F V d ls))))) = { (SS l H) with H := ((SS l H).H.set b none).set b0 (some ((denL cs).set i0 (.f (.row (ls.flatMap F) ls.length)))) } := by
  rw [← SS_setH (H := H), SS_H]
  show St.mk _ _ = St.mk _ _
  congr 1
  simp [denH, denB, SB.den, denL, SC.den, List.map_set]
 rw [e]
 exact hw
theorem psl_SS {l : SL} {H H' : SH} {listed : Array Bool} : ∀ (vs : List (Nat × Nat × SV)), (∀ p ∈ vs, listed.getD p.1 false = true) → ∀ d, psl (SS l H).sl listed (vs.map fun p => (p.1, p.2.1, p.2.2.den)) d = (SS (vs.map (fun p => (p.2.1, SE.v p.2.2)) ++ l) H').sl d
 | [], _, d => by
  show (SS l H).sl d = (SS l H').sl d
  rw [← SS_setH l H H']
  rfl
 | (i, t, v) :: vs, h, d => by
  have h0 : listed.getD i false = true := h _ List.mem_cons_self
  have ih := psl_SS (l := l) (H := H) (H' := H') vs (fun p hp => h p (List.mem_cons_of_mem _ hp)) d
  show (if d = t ∧ listed.getD i false = true then v.den else psl _ listed _ d) = upd _ t v.den d
  unfold upd
  by_cases e : d = t
  ·rw [if_pos ⟨e, h0⟩, if_pos e]
  ·rw [if_neg (fun c => e c.1), if_neg e]
   exact ih
def cpL (n : Nat) (sts pts : List ByteArray) (secs : List Sec) (lnks : List Lnk) (c0 c1 c2 c3 : SC) : SL :=
 [sC 14 (.c (.ptr 0 0)), sC 15 (rStr sts), sC 16 c0, sC 17 (.c (.ptr 0 1)), sC 18 (rStr pts), sC 19 c1, sC 20 (.c (.ptr 0 2)), sC 21 (rSec secs), sC 22 c2, sC 23 (.c (.ptr 0 3)), sC 24 (rLnk lnks), sC 25 c3, sA 26 [c0, c1, c2, c3], sC 9 (.c (.ptr n 0))]
section
variable {pos : String} {id n0 k : Nat} {l : SL} {b1 : Option SB} {K : AExit → St → Prop} {sts pts : List ByteArray} {secs : List Sec} {lnks : List Lnk} {c0 c1 c2 c3 : Nat → SC} {y : Nat → Option SB} {G : Nat → Prop}
abbrev cpH (sts pts : List ByteArray) (secs : List Sec) (lnks : List Lnk) (b1 : Option SB) : SH := [some (.cells [rStr sts, rStr pts, rSec secs, rLnk lnks]), b1]
theorem cp_len : (SS l (cpH sts pts secs lnks b1)).H.length = 2 := by rw [SS_H]; rfl
theorem X_cp {zs : List CVal} (hy : k = 15 → ∀ c, y c = none)
  (h : CpIn Try.prog 29 25 26 27 pos (SS l (cpH sts pts secs lnks b1)) 0 k (.row (sts.flatMap fStr) sts.length) (.row (pts.flatMap fStr) pts.length) (.row (secs.flatMap fSec) secs.length) (.row (lnks.flatMap fLnk) lnks.length) zs G (fun c => (c0 c).den) (fun c => (c1 c).den) (fun c => (c2 c).den) (fun c => (c3 c).den) (fun c => denB (y c)))
  (hk : ∀ cap, G cap → K .normal (SS (cpL 2 sts pts secs lnks (c0 cap) (c1 cap) (c2 cap) (c3 cap) ++ l) [some (.cells [rStr sts, rStr pts, rSec secs, rLnk lnks]), b1, some (.cells [c0 cap, c1 cap, c2 cap, c3 cap]), y cap])) :
  W Try.prog (DR Try.prog) n0 (.region id (cpOps 29 25 26 27 pos) true) (SS l (cpH sts pts secs lnks b1)) K := by
 refine .inr (.inr (cp_sem mixedX h fun cap listed hg hl => ?_))
 have e : cpS (SS l (cpH sts pts secs lnks b1)) 0 k (.row (sts.flatMap fStr) sts.length) (.row (pts.flatMap fStr) pts.length) (.row (secs.flatMap fSec) secs.length) (.row (lnks.flatMap fLnk) lnks.length) zs (fun c => (c0 c).den) (fun c => (c1 c).den) (fun c => (c2 c).den) (fun c => (c3 c).den) (fun c => denB (y c)) cap listed
   = SS (cpL 2 sts pts secs lnks (c0 cap) (c1 cap) (c2 cap) (c3 cap) ++ l) [some (.cells [rStr sts, rStr pts, rSec secs, rLnk lnks]), b1, some (.cells [c0 cap, c1 cap, c2 cap, c3 cap]), y cap] := by
  have eH : (SS (cpL 2 sts pts secs lnks (c0 cap) (c1 cap) (c2 cap) (c3 cap) ++ l) [some (.cells [rStr sts, rStr pts, rSec secs, rLnk lnks]), b1, some (.cells [c0 cap, c1 cap, c2 cap, c3 cap]), y cap]).H = (SS l (cpH sts pts secs lnks b1)).H ++ [cpX zs [(c0 cap).den, (c1 cap).den, (c2 cap).den, (c3 cap).den] listed, cpY k (denB (y cap)) listed] := by
   rw [SS_H, SS_H]
   unfold cpX cpY
   rw [hl 14 (by omega)]
   have hkk := h.kk
   have e2 : (if listed.getD k false = true then denB (y cap) else none) = denB (y cap) := by
    rcases hkk with rfl | rfl | rfl | rfl | rfl
    ·rw [hl 2 (by omega)]; rfl
    ·rw [hl 5 (by omega)]; rfl
    ·rw [hl 8 (by omega)]; rfl
    ·rw [hl 11 (by omega)]; rfl
    ·rw [hy rfl cap]; split <;> rfl
   rw [e2]
   rfl
  unfold cpS
  rw [cp_len, ← eH]
  have es := funext (psl_SS (l := l) (H := cpH sts pts secs lnks b1) (H' := [some (.cells [rStr sts, rStr pts, rSec secs, rLnk lnks]), b1, some (.cells [c0 cap, c1 cap, c2 cap, c3 cap]), y cap]) (listed := listed) [(0, 14, .c (.c (.ptr 0 0))), (1, 15, .c (rStr sts)), (2, 16, .c (c0 cap)), (3, 17, .c (.c (.ptr 0 1))), (4, 18, .c (rStr pts)), (5, 19, .c (c1 cap)), (6, 20, .c (.c (.ptr 0 2))), (7, 21, .c (rSec secs)), (8, 22, .c (c2 cap)), (9, 23, .c (.c (.ptr 0 3))), (10, 24, .c (rLnk lnks)), (11, 25, .c (c3 cap)), (12, 26, .agg [c0 cap, c1 cap, c2 cap, c3 cap]), (13, 9, .c (.c (.ptr 2 0)))] (fun p hp => by
   simp only [List.mem_cons, List.not_mem_nil, or_false] at hp
   rcases hp with rfl | rfl | rfl | rfl | rfl | rfl | rfl | rfl | rfl | rfl | rfl | rfl | rfl | rfl
   all_goals exact hl _ (Nat.le_of_ble_eq_true rfl)))
  refine congr (congrArg St.mk ?_) rfl
  exact es
 rw [e]
 exact hk cap hg
theorem cp_mk {r0 r1 r2 r3 : FVal} {V0 V1 V2 V3 : Nat → CVal} {C : Nat → Option (List CVal)} {s : St} (hn : s.H.length = 2) (h4 : s.sl 4 = .c (.ptr 0 0)) (hb : s.H[0]? = some (some [.f r0, .f r1, .f r2, .f r3])) (kk : k = 2 ∨ k = 5 ∨ k = 8 ∨ k = 11 ∨ k = 15) (g0 : k = 15 → G 0)
  (fl : ∀ c, Nice (V0 c) ∧ Nice (V1 c) ∧ Nice (V2 c) ∧ Nice (V3 c)) (no0 : ∀ c, (V0 c).noB 2 = true ∧ (V1 c).noB 2 = true ∧ (V2 c).noB 2 = true ∧ (V3 c).noB 2 = true) (noY : ∀ c ds, C c = some ds → ds.all (CVal.noB 2) = true)
  (no1 : ∀ c, (k ≠ 2 → (V0 c).noB 3 = true) ∧ (k ≠ 5 → (V1 c).noB 3 = true) ∧ (k ≠ 8 → (V2 c).noB 3 = true) ∧ (k ≠ 11 → (V3 c).noB 3 = true))
  (a0 : CpSpec Try.prog k 2 3 16 (cpAp pos 16 15 25 #[e0 1]) (.tmp 15) r0 G V0 C) (a1 : CpSpec Try.prog k 5 3 19 (cpAp pos 19 18 25 #[e0 4, eC 2]) (.tmp 18) r1 G V1 C) (a2 : CpSpec Try.prog k 8 3 22 (cpAp pos 22 21 26 #[e0 7, eC 5]) (.tmp 21) r2 G V2 C) (a3 : CpSpec Try.prog k 11 3 25 (cpAp pos 25 24 27 #[e0 10, eC 8]) (.tmp 24) r3 G V3 C) :
  ∃ zs, CpIn Try.prog 29 25 26 27 pos s 0 k r0 r1 r2 r3 zs G V0 V1 V2 V3 C := by
 refine ⟨[.f .nils, .f .nils, .f .nils, .f .nils], h4, hb, by kernel_rfl, by kernel_rfl, by kernel_rfl, by kernel_rfl, ⟨1, by kernel_rfl⟩, ⟨1, by kernel_rfl⟩, ⟨1, by kernel_rfl⟩, ⟨true, by kernel_rfl⟩, by kernel_rfl, rfl, ⟨[.f .nils, .f .nils, .f .nils, .f .nils], by kernel_rfl, rfl⟩, fl, by rw [hn]; exact no0, by rw [hn]; exact noY, kk, g0, by rw [hn]; exact no1, by rw [hn]; exact a0, by rw [hn]; exact a1, by rw [hn]; exact a2, by rw [hn]; exact a3⟩
theorem flat_f {α : Type} {F : α → List FVal} {z : Nat} (hF : ∀ x, (F x).length = z) (l : List α) : (l.flatMap F).length = l.length * z := flatMap_lenB F z hF l
theorem cells_noB {b : Nat} (ds : List FVal) : (ds.map CVal.f).all (CVal.noB b) = true := by
 rw [List.all_eq_true]
 intro x hx
 obtain ⟨y, _, rfl⟩ := List.mem_map.1 hx
 rfl
theorem X_cparr0 (h4 : lk l 4 = some (.v (.c (.c (.ptr 0 0))))) (hl : sts.length ≤ 1000000 ∧ pts.length ≤ 1000000 ∧ secs.length ≤ 1000000 ∧ lnks.length ≤ 1000000) (hne : sts.length ≠ 0)
  (hk : ∀ cap : Nat, sts.length ≤ cap → K .normal (SS (cpL 2 sts pts secs lnks (.c (.arr 3 0 sts.length cap)) (rStr pts) (rSec secs) (rLnk lnks) ++ l) [some (.cells [rStr sts, rStr pts, rSec secs, rLnk lnks]), b1, some (.cells [.c (.arr 3 0 sts.length cap), rStr pts, rSec secs, rLnk lnks]), some (.els 1 fStr vStr mStr ⟨#[]⟩ (sts ++ List.replicate (cap - sts.length) ⟨#[]⟩))])) :
  W Try.prog (DR Try.prog) n0 (.region id (cpOps 29 25 26 27 pos) true) (SS l (cpH sts pts secs lnks b1)) K := by
 refine (fun (hx : ∃ zs, CpIn _ _ _ _ _ _ _ _ _ _ _ _ _ zs _ _ _ _ _ _) => ?_) (cp_mk (pos := pos) (k := 2) (G := (fun cap => sts.length ≤ cap)) (s := SS l (cpH sts pts secs lnks b1)) (r0 := .row (sts.flatMap fStr) sts.length) (r1 := .row (pts.flatMap fStr) pts.length) (r2 := .row (secs.flatMap fSec) secs.length) (r3 := .row (lnks.flatMap fLnk) lnks.length) (V0 := fun (cap : Nat) => SC.den (.c (.arr 3 0 sts.length cap))) (V1 := fun (cap : Nat) => SC.den (rStr pts)) (V2 := fun (cap : Nat) => SC.den (rSec secs)) (V3 := fun (cap : Nat) => SC.den (rLnk lnks)) (C := fun (cap : Nat) => denB (some (.els 1 fStr vStr mStr ⟨#[]⟩ (sts ++ List.replicate (cap - sts.length) ⟨#[]⟩)))) cp_len (lk_ev h4) (by rw [SS_H]; rfl) (by omega) (by intro e; omega)
  (fun c => ⟨⟨rfl, rfl⟩, ⟨rfl, rfl⟩, ⟨rfl, rfl⟩, ⟨rfl, rfl⟩⟩) (fun c => ⟨rfl, rfl, rfl, rfl⟩) ?_ (fun c => ⟨fun e => absurd rfl e, fun _ => rfl, fun _ => rfl, fun _ => rfl⟩) ?_ ?_ ?_ ?_)
 ·obtain ⟨zs, h⟩ := hx
  refine X_cp (k := 2) (zs := zs) (G := (fun cap => sts.length ≤ cap)) (c0 := fun _cap => (.c (.arr 3 0 sts.length _cap))) (c1 := fun _ => (rStr pts)) (c2 := fun _ => (rSec secs)) (c3 := fun _ => (rLnk lnks)) (y := fun (cap : Nat) => some (.els 1 fStr vStr mStr ⟨#[]⟩ (sts ++ List.replicate (cap - sts.length) ⟨#[]⟩))) ?_ ?_ ?_
  ·intro e; omega
  ·exact h
  ·exact fun cap hc => hk cap hc
 ·intro c ds hd
  injection hd with hd; subst hd; exact cells_noB _
 ·unfold CpSpec
  rw [if_pos rfl]
  have e : (fun cap => denB (some (.els 1 fStr vStr mStr ⟨#[]⟩ (sts ++ List.replicate (cap - sts.length) ⟨#[]⟩)))) = fun cap => some ((sts.flatMap fStr).map CVal.f ++ repCells ((fStr ⟨#[]⟩).map CVal.f) (cap - sts.length)) := by
   funext cap
   rw [rep_els (z := 1) (fun _ => rfl) (by omega)]
   simp [denB, SB.den]
  rw [e]
  have hA := app_open (P := Try.prog) (d := 16) (ty := 25) (t := 25) (tx := 25) (pos := pos) (af := #[e0 1]) (y := .tmp 15) 3 (sz := 1) (by_ := 16) (zs := (fStr ⟨#[]⟩).map CVal.f) (fs := sts.flatMap fStr) (by kernel_rfl) (by kernel_rfl) (flat_f (F := fStr) (z := 1) (fun _ => rfl) sts) (by omega) (by omega) hne
  exact hA
 ·unfold CpSpec
  rw [if_neg (by decide)]
  exact ⟨_, fun _ => rfl, copy_row (sz := 1) (by_ := 16) (zs := (fStr ⟨#[]⟩).map CVal.f) (by kernel_rfl) (by kernel_rfl) (flat_f (F := fStr) (z := 1) (fun _ => rfl) pts) (by omega) (by omega) (.inl rfl)⟩
 ·unfold CpSpec
  rw [if_neg (by decide)]
  exact ⟨_, fun _ => rfl, copy_row (sz := 5) (by_ := 48) (zs := (fSec sec0).map CVal.f) (by kernel_rfl) (by kernel_rfl) (flat_f (F := fSec) (z := 5) (fun _ => rfl) secs) (by omega) (by omega) (.inl rfl)⟩
 ·unfold CpSpec
  rw [if_neg (by decide)]
  exact ⟨_, fun _ => rfl, copy_row (sz := 6) (by_ := 48) (zs := (fLnk lnk0).map CVal.f) (by kernel_rfl) (by kernel_rfl) (flat_f (F := fLnk) (z := 6) (fun _ => rfl) lnks) (by omega) (by omega) (.inl rfl)⟩
theorem X_cpnil0 (h4 : lk l 4 = some (.v (.c (.c (.ptr 0 0))))) (hl : sts.length ≤ 1000000 ∧ pts.length ≤ 1000000 ∧ secs.length ≤ 1000000 ∧ lnks.length ≤ 1000000) (hne : sts = [])
  (hk : ∀ cap : Nat,  K .normal (SS (cpL 2 sts pts secs lnks (.c (.f .nils)) (rStr pts) (rSec secs) (rLnk lnks) ++ l) [some (.cells [rStr sts, rStr pts, rSec secs, rLnk lnks]), b1, some (.cells [.c (.f .nils), rStr pts, rSec secs, rLnk lnks]), none])) :
  W Try.prog (DR Try.prog) n0 (.region id (cpOps 29 25 26 27 pos) true) (SS l (cpH sts pts secs lnks b1)) K := by
 refine (fun (hx : ∃ zs, CpIn _ _ _ _ _ _ _ _ _ _ _ _ _ zs _ _ _ _ _ _) => ?_) (cp_mk (pos := pos) (k := 15) (G := (fun _ : Nat => True)) (s := SS l (cpH sts pts secs lnks b1)) (r0 := .row (sts.flatMap fStr) sts.length) (r1 := .row (pts.flatMap fStr) pts.length) (r2 := .row (secs.flatMap fSec) secs.length) (r3 := .row (lnks.flatMap fLnk) lnks.length) (V0 := fun (cap : Nat) => SC.den (.c (.f .nils))) (V1 := fun (cap : Nat) => SC.den (rStr pts)) (V2 := fun (cap : Nat) => SC.den (rSec secs)) (V3 := fun (cap : Nat) => SC.den (rLnk lnks)) (C := fun (cap : Nat) => denB (none)) cp_len (lk_ev h4) (by rw [SS_H]; rfl) (by omega) (by intro _; trivial)
  (fun c => ⟨⟨rfl, rfl⟩, ⟨rfl, rfl⟩, ⟨rfl, rfl⟩, ⟨rfl, rfl⟩⟩) (fun c => ⟨rfl, rfl, rfl, rfl⟩) ?_ (fun c => ⟨fun _ => rfl, fun _ => rfl, fun _ => rfl, fun _ => rfl⟩) ?_ ?_ ?_ ?_)
 ·obtain ⟨zs, h⟩ := hx
  refine X_cp (k := 15) (zs := zs) (G := (fun _ : Nat => True)) (c0 := fun _ => (.c (.f .nils))) (c1 := fun _ => (rStr pts)) (c2 := fun _ => (rSec secs)) (c3 := fun _ => (rLnk lnks)) (y := fun (cap : Nat) => none) ?_ ?_ ?_
  ·intro _ _; rfl
  ·exact h
  ·exact fun cap hc => hk cap
 ·intro c ds hd
  cases hd
 ·unfold CpSpec
  rw [if_neg (by decide)]
  exact ⟨_, fun _ => rfl, copy_row (sz := 1) (by_ := 16) (zs := (fStr ⟨#[]⟩).map CVal.f) (by kernel_rfl) (by kernel_rfl) (flat_f (F := fStr) (z := 1) (fun _ => rfl) sts) (by omega) (by omega) (.inr ⟨by rw [hne]; rfl, rfl⟩)⟩
 ·unfold CpSpec
  rw [if_neg (by decide)]
  exact ⟨_, fun _ => rfl, copy_row (sz := 1) (by_ := 16) (zs := (fStr ⟨#[]⟩).map CVal.f) (by kernel_rfl) (by kernel_rfl) (flat_f (F := fStr) (z := 1) (fun _ => rfl) pts) (by omega) (by omega) (.inl rfl)⟩
 ·unfold CpSpec
  rw [if_neg (by decide)]
  exact ⟨_, fun _ => rfl, copy_row (sz := 5) (by_ := 48) (zs := (fSec sec0).map CVal.f) (by kernel_rfl) (by kernel_rfl) (flat_f (F := fSec) (z := 5) (fun _ => rfl) secs) (by omega) (by omega) (.inl rfl)⟩
 ·unfold CpSpec
  rw [if_neg (by decide)]
  exact ⟨_, fun _ => rfl, copy_row (sz := 6) (by_ := 48) (zs := (fLnk lnk0).map CVal.f) (by kernel_rfl) (by kernel_rfl) (flat_f (F := fLnk) (z := 6) (fun _ => rfl) lnks) (by omega) (by omega) (.inl rfl)⟩
theorem X_cparr1 (h4 : lk l 4 = some (.v (.c (.c (.ptr 0 0))))) (hl : sts.length ≤ 1000000 ∧ pts.length ≤ 1000000 ∧ secs.length ≤ 1000000 ∧ lnks.length ≤ 1000000) (hne : pts.length ≠ 0)
  (hk : ∀ cap : Nat, pts.length ≤ cap → K .normal (SS (cpL 2 sts pts secs lnks (rStr sts) (.c (.arr 3 0 pts.length cap)) (rSec secs) (rLnk lnks) ++ l) [some (.cells [rStr sts, rStr pts, rSec secs, rLnk lnks]), b1, some (.cells [rStr sts, .c (.arr 3 0 pts.length cap), rSec secs, rLnk lnks]), some (.els 1 fStr vStr mStr ⟨#[]⟩ (pts ++ List.replicate (cap - pts.length) ⟨#[]⟩))])) :
  W Try.prog (DR Try.prog) n0 (.region id (cpOps 29 25 26 27 pos) true) (SS l (cpH sts pts secs lnks b1)) K := by
 refine (fun (hx : ∃ zs, CpIn _ _ _ _ _ _ _ _ _ _ _ _ _ zs _ _ _ _ _ _) => ?_) (cp_mk (pos := pos) (k := 5) (G := (fun cap => pts.length ≤ cap)) (s := SS l (cpH sts pts secs lnks b1)) (r0 := .row (sts.flatMap fStr) sts.length) (r1 := .row (pts.flatMap fStr) pts.length) (r2 := .row (secs.flatMap fSec) secs.length) (r3 := .row (lnks.flatMap fLnk) lnks.length) (V0 := fun (cap : Nat) => SC.den (rStr sts)) (V1 := fun (cap : Nat) => SC.den (.c (.arr 3 0 pts.length cap))) (V2 := fun (cap : Nat) => SC.den (rSec secs)) (V3 := fun (cap : Nat) => SC.den (rLnk lnks)) (C := fun (cap : Nat) => denB (some (.els 1 fStr vStr mStr ⟨#[]⟩ (pts ++ List.replicate (cap - pts.length) ⟨#[]⟩)))) cp_len (lk_ev h4) (by rw [SS_H]; rfl) (by omega) (by intro e; omega)
  (fun c => ⟨⟨rfl, rfl⟩, ⟨rfl, rfl⟩, ⟨rfl, rfl⟩, ⟨rfl, rfl⟩⟩) (fun c => ⟨rfl, rfl, rfl, rfl⟩) ?_ (fun c => ⟨fun _ => rfl, fun e => absurd rfl e, fun _ => rfl, fun _ => rfl⟩) ?_ ?_ ?_ ?_)
 ·obtain ⟨zs, h⟩ := hx
  refine X_cp (k := 5) (zs := zs) (G := (fun cap => pts.length ≤ cap)) (c0 := fun _ => (rStr sts)) (c1 := fun _cap => (.c (.arr 3 0 pts.length _cap))) (c2 := fun _ => (rSec secs)) (c3 := fun _ => (rLnk lnks)) (y := fun (cap : Nat) => some (.els 1 fStr vStr mStr ⟨#[]⟩ (pts ++ List.replicate (cap - pts.length) ⟨#[]⟩))) ?_ ?_ ?_
  ·intro e; omega
  ·exact h
  ·exact fun cap hc => hk cap hc
 ·intro c ds hd
  injection hd with hd; subst hd; exact cells_noB _
 ·unfold CpSpec
  rw [if_neg (by decide)]
  exact ⟨_, fun _ => rfl, copy_row (sz := 1) (by_ := 16) (zs := (fStr ⟨#[]⟩).map CVal.f) (by kernel_rfl) (by kernel_rfl) (flat_f (F := fStr) (z := 1) (fun _ => rfl) sts) (by omega) (by omega) (.inl rfl)⟩
 ·unfold CpSpec
  rw [if_pos rfl]
  have e : (fun cap => denB (some (.els 1 fStr vStr mStr ⟨#[]⟩ (pts ++ List.replicate (cap - pts.length) ⟨#[]⟩)))) = fun cap => some ((pts.flatMap fStr).map CVal.f ++ repCells ((fStr ⟨#[]⟩).map CVal.f) (cap - pts.length)) := by
   funext cap
   rw [rep_els (z := 1) (fun _ => rfl) (by omega)]
   simp [denB, SB.den]
  rw [e]
  have hA := app_open (P := Try.prog) (d := 19) (ty := 25) (t := 25) (tx := 25) (pos := pos) (af := #[e0 4, eC 2]) (y := .tmp 18) 3 (sz := 1) (by_ := 16) (zs := (fStr ⟨#[]⟩).map CVal.f) (fs := pts.flatMap fStr) (by kernel_rfl) (by kernel_rfl) (flat_f (F := fStr) (z := 1) (fun _ => rfl) pts) (by omega) (by omega) hne
  exact hA
 ·unfold CpSpec
  rw [if_neg (by decide)]
  exact ⟨_, fun _ => rfl, copy_row (sz := 5) (by_ := 48) (zs := (fSec sec0).map CVal.f) (by kernel_rfl) (by kernel_rfl) (flat_f (F := fSec) (z := 5) (fun _ => rfl) secs) (by omega) (by omega) (.inl rfl)⟩
 ·unfold CpSpec
  rw [if_neg (by decide)]
  exact ⟨_, fun _ => rfl, copy_row (sz := 6) (by_ := 48) (zs := (fLnk lnk0).map CVal.f) (by kernel_rfl) (by kernel_rfl) (flat_f (F := fLnk) (z := 6) (fun _ => rfl) lnks) (by omega) (by omega) (.inl rfl)⟩
theorem X_cpnil1 (h4 : lk l 4 = some (.v (.c (.c (.ptr 0 0))))) (hl : sts.length ≤ 1000000 ∧ pts.length ≤ 1000000 ∧ secs.length ≤ 1000000 ∧ lnks.length ≤ 1000000) (hne : pts = [])
  (hk : ∀ cap : Nat,  K .normal (SS (cpL 2 sts pts secs lnks (rStr sts) (.c (.f .nils)) (rSec secs) (rLnk lnks) ++ l) [some (.cells [rStr sts, rStr pts, rSec secs, rLnk lnks]), b1, some (.cells [rStr sts, .c (.f .nils), rSec secs, rLnk lnks]), none])) :
  W Try.prog (DR Try.prog) n0 (.region id (cpOps 29 25 26 27 pos) true) (SS l (cpH sts pts secs lnks b1)) K := by
 refine (fun (hx : ∃ zs, CpIn _ _ _ _ _ _ _ _ _ _ _ _ _ zs _ _ _ _ _ _) => ?_) (cp_mk (pos := pos) (k := 15) (G := (fun _ : Nat => True)) (s := SS l (cpH sts pts secs lnks b1)) (r0 := .row (sts.flatMap fStr) sts.length) (r1 := .row (pts.flatMap fStr) pts.length) (r2 := .row (secs.flatMap fSec) secs.length) (r3 := .row (lnks.flatMap fLnk) lnks.length) (V0 := fun (cap : Nat) => SC.den (rStr sts)) (V1 := fun (cap : Nat) => SC.den (.c (.f .nils))) (V2 := fun (cap : Nat) => SC.den (rSec secs)) (V3 := fun (cap : Nat) => SC.den (rLnk lnks)) (C := fun (cap : Nat) => denB (none)) cp_len (lk_ev h4) (by rw [SS_H]; rfl) (by omega) (by intro _; trivial)
  (fun c => ⟨⟨rfl, rfl⟩, ⟨rfl, rfl⟩, ⟨rfl, rfl⟩, ⟨rfl, rfl⟩⟩) (fun c => ⟨rfl, rfl, rfl, rfl⟩) ?_ (fun c => ⟨fun _ => rfl, fun _ => rfl, fun _ => rfl, fun _ => rfl⟩) ?_ ?_ ?_ ?_)
 ·obtain ⟨zs, h⟩ := hx
  refine X_cp (k := 15) (zs := zs) (G := (fun _ : Nat => True)) (c0 := fun _ => (rStr sts)) (c1 := fun _ => (.c (.f .nils))) (c2 := fun _ => (rSec secs)) (c3 := fun _ => (rLnk lnks)) (y := fun (cap : Nat) => none) ?_ ?_ ?_
  ·intro _ _; rfl
  ·exact h
  ·exact fun cap hc => hk cap
 ·intro c ds hd
  cases hd
 ·unfold CpSpec
  rw [if_neg (by decide)]
  exact ⟨_, fun _ => rfl, copy_row (sz := 1) (by_ := 16) (zs := (fStr ⟨#[]⟩).map CVal.f) (by kernel_rfl) (by kernel_rfl) (flat_f (F := fStr) (z := 1) (fun _ => rfl) sts) (by omega) (by omega) (.inl rfl)⟩
 ·unfold CpSpec
  rw [if_neg (by decide)]
  exact ⟨_, fun _ => rfl, copy_row (sz := 1) (by_ := 16) (zs := (fStr ⟨#[]⟩).map CVal.f) (by kernel_rfl) (by kernel_rfl) (flat_f (F := fStr) (z := 1) (fun _ => rfl) pts) (by omega) (by omega) (.inr ⟨by rw [hne]; rfl, rfl⟩)⟩
 ·unfold CpSpec
  rw [if_neg (by decide)]
  exact ⟨_, fun _ => rfl, copy_row (sz := 5) (by_ := 48) (zs := (fSec sec0).map CVal.f) (by kernel_rfl) (by kernel_rfl) (flat_f (F := fSec) (z := 5) (fun _ => rfl) secs) (by omega) (by omega) (.inl rfl)⟩
 ·unfold CpSpec
  rw [if_neg (by decide)]
  exact ⟨_, fun _ => rfl, copy_row (sz := 6) (by_ := 48) (zs := (fLnk lnk0).map CVal.f) (by kernel_rfl) (by kernel_rfl) (flat_f (F := fLnk) (z := 6) (fun _ => rfl) lnks) (by omega) (by omega) (.inl rfl)⟩
theorem X_cparr2 (h4 : lk l 4 = some (.v (.c (.c (.ptr 0 0))))) (hl : sts.length ≤ 1000000 ∧ pts.length ≤ 1000000 ∧ secs.length ≤ 1000000 ∧ lnks.length ≤ 1000000) (hne : secs.length ≠ 0)
  (hk : ∀ cap : Nat, secs.length ≤ cap → K .normal (SS (cpL 2 sts pts secs lnks (rStr sts) (rStr pts) (.c (.arr 3 0 secs.length cap)) (rLnk lnks) ++ l) [some (.cells [rStr sts, rStr pts, rSec secs, rLnk lnks]), b1, some (.cells [rStr sts, rStr pts, .c (.arr 3 0 secs.length cap), rLnk lnks]), some (.els 5 fSec vSec mSec sec0 (secs ++ List.replicate (cap - secs.length) sec0))])) :
  W Try.prog (DR Try.prog) n0 (.region id (cpOps 29 25 26 27 pos) true) (SS l (cpH sts pts secs lnks b1)) K := by
 refine (fun (hx : ∃ zs, CpIn _ _ _ _ _ _ _ _ _ _ _ _ _ zs _ _ _ _ _ _) => ?_) (cp_mk (pos := pos) (k := 8) (G := (fun cap => secs.length ≤ cap)) (s := SS l (cpH sts pts secs lnks b1)) (r0 := .row (sts.flatMap fStr) sts.length) (r1 := .row (pts.flatMap fStr) pts.length) (r2 := .row (secs.flatMap fSec) secs.length) (r3 := .row (lnks.flatMap fLnk) lnks.length) (V0 := fun (cap : Nat) => SC.den (rStr sts)) (V1 := fun (cap : Nat) => SC.den (rStr pts)) (V2 := fun (cap : Nat) => SC.den (.c (.arr 3 0 secs.length cap))) (V3 := fun (cap : Nat) => SC.den (rLnk lnks)) (C := fun (cap : Nat) => denB (some (.els 5 fSec vSec mSec sec0 (secs ++ List.replicate (cap - secs.length) sec0)))) cp_len (lk_ev h4) (by rw [SS_H]; rfl) (by omega) (by intro e; omega)
  (fun c => ⟨⟨rfl, rfl⟩, ⟨rfl, rfl⟩, ⟨rfl, rfl⟩, ⟨rfl, rfl⟩⟩) (fun c => ⟨rfl, rfl, rfl, rfl⟩) ?_ (fun c => ⟨fun _ => rfl, fun _ => rfl, fun e => absurd rfl e, fun _ => rfl⟩) ?_ ?_ ?_ ?_)
 ·obtain ⟨zs, h⟩ := hx
  refine X_cp (k := 8) (zs := zs) (G := (fun cap => secs.length ≤ cap)) (c0 := fun _ => (rStr sts)) (c1 := fun _ => (rStr pts)) (c2 := fun _cap => (.c (.arr 3 0 secs.length _cap))) (c3 := fun _ => (rLnk lnks)) (y := fun (cap : Nat) => some (.els 5 fSec vSec mSec sec0 (secs ++ List.replicate (cap - secs.length) sec0))) ?_ ?_ ?_
  ·intro e; omega
  ·exact h
  ·exact fun cap hc => hk cap hc
 ·intro c ds hd
  injection hd with hd; subst hd; exact cells_noB _
 ·unfold CpSpec
  rw [if_neg (by decide)]
  exact ⟨_, fun _ => rfl, copy_row (sz := 1) (by_ := 16) (zs := (fStr ⟨#[]⟩).map CVal.f) (by kernel_rfl) (by kernel_rfl) (flat_f (F := fStr) (z := 1) (fun _ => rfl) sts) (by omega) (by omega) (.inl rfl)⟩
 ·unfold CpSpec
  rw [if_neg (by decide)]
  exact ⟨_, fun _ => rfl, copy_row (sz := 1) (by_ := 16) (zs := (fStr ⟨#[]⟩).map CVal.f) (by kernel_rfl) (by kernel_rfl) (flat_f (F := fStr) (z := 1) (fun _ => rfl) pts) (by omega) (by omega) (.inl rfl)⟩
 ·unfold CpSpec
  rw [if_pos rfl]
  have e : (fun cap => denB (some (.els 5 fSec vSec mSec sec0 (secs ++ List.replicate (cap - secs.length) sec0)))) = fun cap => some ((secs.flatMap fSec).map CVal.f ++ repCells ((fSec sec0).map CVal.f) (cap - secs.length)) := by
   funext cap
   rw [rep_els (z := 5) (fun _ => rfl) (by omega)]
   simp [denB, SB.den]
  rw [e]
  have hA := app_open (P := Try.prog) (d := 22) (ty := 26) (t := 26) (tx := 26) (pos := pos) (af := #[e0 7, eC 5]) (y := .tmp 21) 3 (sz := 5) (by_ := 48) (zs := (fSec sec0).map CVal.f) (fs := secs.flatMap fSec) (by kernel_rfl) (by kernel_rfl) (flat_f (F := fSec) (z := 5) (fun _ => rfl) secs) (by omega) (by omega) hne
  exact hA
 ·unfold CpSpec
  rw [if_neg (by decide)]
  exact ⟨_, fun _ => rfl, copy_row (sz := 6) (by_ := 48) (zs := (fLnk lnk0).map CVal.f) (by kernel_rfl) (by kernel_rfl) (flat_f (F := fLnk) (z := 6) (fun _ => rfl) lnks) (by omega) (by omega) (.inl rfl)⟩
theorem X_cparr3 (h4 : lk l 4 = some (.v (.c (.c (.ptr 0 0))))) (hl : sts.length ≤ 1000000 ∧ pts.length ≤ 1000000 ∧ secs.length ≤ 1000000 ∧ lnks.length ≤ 1000000) (hne : lnks.length ≠ 0)
  (hk : ∀ cap : Nat, lnks.length ≤ cap → K .normal (SS (cpL 2 sts pts secs lnks (rStr sts) (rStr pts) (rSec secs) (.c (.arr 3 0 lnks.length cap)) ++ l) [some (.cells [rStr sts, rStr pts, rSec secs, rLnk lnks]), b1, some (.cells [rStr sts, rStr pts, rSec secs, .c (.arr 3 0 lnks.length cap)]), some (.els 6 fLnk vLnk mLnk lnk0 (lnks ++ List.replicate (cap - lnks.length) lnk0))])) :
  W Try.prog (DR Try.prog) n0 (.region id (cpOps 29 25 26 27 pos) true) (SS l (cpH sts pts secs lnks b1)) K := by
 refine (fun (hx : ∃ zs, CpIn _ _ _ _ _ _ _ _ _ _ _ _ _ zs _ _ _ _ _ _) => ?_) (cp_mk (pos := pos) (k := 11) (G := (fun cap => lnks.length ≤ cap)) (s := SS l (cpH sts pts secs lnks b1)) (r0 := .row (sts.flatMap fStr) sts.length) (r1 := .row (pts.flatMap fStr) pts.length) (r2 := .row (secs.flatMap fSec) secs.length) (r3 := .row (lnks.flatMap fLnk) lnks.length) (V0 := fun (cap : Nat) => SC.den (rStr sts)) (V1 := fun (cap : Nat) => SC.den (rStr pts)) (V2 := fun (cap : Nat) => SC.den (rSec secs)) (V3 := fun (cap : Nat) => SC.den (.c (.arr 3 0 lnks.length cap))) (C := fun (cap : Nat) => denB (some (.els 6 fLnk vLnk mLnk lnk0 (lnks ++ List.replicate (cap - lnks.length) lnk0)))) cp_len (lk_ev h4) (by rw [SS_H]; rfl) (by omega) (by intro e; omega)
  (fun c => ⟨⟨rfl, rfl⟩, ⟨rfl, rfl⟩, ⟨rfl, rfl⟩, ⟨rfl, rfl⟩⟩) (fun c => ⟨rfl, rfl, rfl, rfl⟩) ?_ (fun c => ⟨fun _ => rfl, fun _ => rfl, fun _ => rfl, fun e => absurd rfl e⟩) ?_ ?_ ?_ ?_)
 ·obtain ⟨zs, h⟩ := hx
  refine X_cp (k := 11) (zs := zs) (G := (fun cap => lnks.length ≤ cap)) (c0 := fun _ => (rStr sts)) (c1 := fun _ => (rStr pts)) (c2 := fun _ => (rSec secs)) (c3 := fun _cap => (.c (.arr 3 0 lnks.length _cap))) (y := fun (cap : Nat) => some (.els 6 fLnk vLnk mLnk lnk0 (lnks ++ List.replicate (cap - lnks.length) lnk0))) ?_ ?_ ?_
  ·intro e; omega
  ·exact h
  ·exact fun cap hc => hk cap hc
 ·intro c ds hd
  injection hd with hd; subst hd; exact cells_noB _
 ·unfold CpSpec
  rw [if_neg (by decide)]
  exact ⟨_, fun _ => rfl, copy_row (sz := 1) (by_ := 16) (zs := (fStr ⟨#[]⟩).map CVal.f) (by kernel_rfl) (by kernel_rfl) (flat_f (F := fStr) (z := 1) (fun _ => rfl) sts) (by omega) (by omega) (.inl rfl)⟩
 ·unfold CpSpec
  rw [if_neg (by decide)]
  exact ⟨_, fun _ => rfl, copy_row (sz := 1) (by_ := 16) (zs := (fStr ⟨#[]⟩).map CVal.f) (by kernel_rfl) (by kernel_rfl) (flat_f (F := fStr) (z := 1) (fun _ => rfl) pts) (by omega) (by omega) (.inl rfl)⟩
 ·unfold CpSpec
  rw [if_neg (by decide)]
  exact ⟨_, fun _ => rfl, copy_row (sz := 5) (by_ := 48) (zs := (fSec sec0).map CVal.f) (by kernel_rfl) (by kernel_rfl) (flat_f (F := fSec) (z := 5) (fun _ => rfl) secs) (by omega) (by omega) (.inl rfl)⟩
 ·unfold CpSpec
  rw [if_pos rfl]
  have e : (fun cap => denB (some (.els 6 fLnk vLnk mLnk lnk0 (lnks ++ List.replicate (cap - lnks.length) lnk0)))) = fun cap => some ((lnks.flatMap fLnk).map CVal.f ++ repCells ((fLnk lnk0).map CVal.f) (cap - lnks.length)) := by
   funext cap
   rw [rep_els (z := 6) (fun _ => rfl) (by omega)]
   simp [denB, SB.den]
  rw [e]
  have hA := app_open (P := Try.prog) (d := 25) (ty := 27) (t := 27) (tx := 27) (pos := pos) (af := #[e0 10, eC 8]) (y := .tmp 24) 3 (sz := 6) (by_ := 48) (zs := (fLnk lnk0).map CVal.f) (fs := lnks.flatMap fLnk) (by kernel_rfl) (by kernel_rfl) (flat_f (F := fLnk) (z := 6) (fun _ => rfl) lnks) (by omega) (by omega) hne
  exact hA
theorem X_cpnil3 (h4 : lk l 4 = some (.v (.c (.c (.ptr 0 0))))) (hl : sts.length ≤ 1000000 ∧ pts.length ≤ 1000000 ∧ secs.length ≤ 1000000 ∧ lnks.length ≤ 1000000) (hne : lnks = [])
  (hk : ∀ cap : Nat,  K .normal (SS (cpL 2 sts pts secs lnks (rStr sts) (rStr pts) (rSec secs) (.c (.f .nils)) ++ l) [some (.cells [rStr sts, rStr pts, rSec secs, rLnk lnks]), b1, some (.cells [rStr sts, rStr pts, rSec secs, .c (.f .nils)]), none])) :
  W Try.prog (DR Try.prog) n0 (.region id (cpOps 29 25 26 27 pos) true) (SS l (cpH sts pts secs lnks b1)) K := by
 refine (fun (hx : ∃ zs, CpIn _ _ _ _ _ _ _ _ _ _ _ _ _ zs _ _ _ _ _ _) => ?_) (cp_mk (pos := pos) (k := 15) (G := (fun _ : Nat => True)) (s := SS l (cpH sts pts secs lnks b1)) (r0 := .row (sts.flatMap fStr) sts.length) (r1 := .row (pts.flatMap fStr) pts.length) (r2 := .row (secs.flatMap fSec) secs.length) (r3 := .row (lnks.flatMap fLnk) lnks.length) (V0 := fun (cap : Nat) => SC.den (rStr sts)) (V1 := fun (cap : Nat) => SC.den (rStr pts)) (V2 := fun (cap : Nat) => SC.den (rSec secs)) (V3 := fun (cap : Nat) => SC.den (.c (.f .nils))) (C := fun (cap : Nat) => denB (none)) cp_len (lk_ev h4) (by rw [SS_H]; rfl) (by omega) (by intro _; trivial)
  (fun c => ⟨⟨rfl, rfl⟩, ⟨rfl, rfl⟩, ⟨rfl, rfl⟩, ⟨rfl, rfl⟩⟩) (fun c => ⟨rfl, rfl, rfl, rfl⟩) ?_ (fun c => ⟨fun _ => rfl, fun _ => rfl, fun _ => rfl, fun _ => rfl⟩) ?_ ?_ ?_ ?_)
 ·obtain ⟨zs, h⟩ := hx
  refine X_cp (k := 15) (zs := zs) (G := (fun _ : Nat => True)) (c0 := fun _ => (rStr sts)) (c1 := fun _ => (rStr pts)) (c2 := fun _ => (rSec secs)) (c3 := fun _ => (.c (.f .nils))) (y := fun (cap : Nat) => none) ?_ ?_ ?_
  ·intro _ _; rfl
  ·exact h
  ·exact fun cap hc => hk cap
 ·intro c ds hd
  cases hd
 ·unfold CpSpec
  rw [if_neg (by decide)]
  exact ⟨_, fun _ => rfl, copy_row (sz := 1) (by_ := 16) (zs := (fStr ⟨#[]⟩).map CVal.f) (by kernel_rfl) (by kernel_rfl) (flat_f (F := fStr) (z := 1) (fun _ => rfl) sts) (by omega) (by omega) (.inl rfl)⟩
 ·unfold CpSpec
  rw [if_neg (by decide)]
  exact ⟨_, fun _ => rfl, copy_row (sz := 1) (by_ := 16) (zs := (fStr ⟨#[]⟩).map CVal.f) (by kernel_rfl) (by kernel_rfl) (flat_f (F := fStr) (z := 1) (fun _ => rfl) pts) (by omega) (by omega) (.inl rfl)⟩
 ·unfold CpSpec
  rw [if_neg (by decide)]
  exact ⟨_, fun _ => rfl, copy_row (sz := 5) (by_ := 48) (zs := (fSec sec0).map CVal.f) (by kernel_rfl) (by kernel_rfl) (flat_f (F := fSec) (z := 5) (fun _ => rfl) secs) (by omega) (by omega) (.inl rfl)⟩
 ·unfold CpSpec
  rw [if_neg (by decide)]
  exact ⟨_, fun _ => rfl, copy_row (sz := 6) (by_ := 48) (zs := (fLnk lnk0).map CVal.f) (by kernel_rfl) (by kernel_rfl) (flat_f (F := fLnk) (z := 6) (fun _ => rfl) lnks) (by omega) (by omega) (.inr ⟨by rw [hne]; rfl, rfl⟩)⟩
end
theorem weak_tip {n0 : Nat} {s : St} {b b0 i0 len cap sz : Nat} {fs : List FVal} {pad cs : List CVal} (h0 : n0 ≤ s.H.length) (hne : b ≠ b0) (hb : s.H[b]? = some (some (fs.map CVal.f ++ pad))) (hb0 : s.H[b0]? = some (some cs)) (hi0 : cs[i0]? = some (.arr b 0 len cap)) (hc : len ≤ cap) (hl : fs.length = len * sz) (hp : (fs.map CVal.f ++ pad).length = cap * sz) :
  Weak n0 s { s with H := (s.H.set b none).set b0 (some (cs.set i0 (.tip sz fs len))) } := by
 have hlen : ((s.H.set b none).set b0 (some (cs.set i0 (.tip sz fs len)))).length = s.H.length := by simp
 refine ⟨by rw [hlen]; exact h0, fun a w κ ρ hR => ?_⟩
 have hB := hR.heap.blk b _ hb
 have ho := hB.own
 obtain ⟨cB, eB, hB1, hB2, hB3⟩ := hB.lie
 have hlt : ρ b < w.heap.size := lt_of_heap hB1
 have hG : Grow w κ w (upd κ (ρ b) (.tip fs.length (.cell b0 i0))) := ⟨Nat.le_refl _, fun _ _ _ _ _ h => h, fun g n hg hf => by
  by_cases e : g = ρ b
  ·subst e
   rw [ho] at hf
   rw [upd_same]
   exact Nat.le_trans hf (Nat.zero_le _)
  ·rw [upd_other _ _ e]; exact hf⟩
 have hK : ∀ l, Keep w κ w (upd κ (ρ b) (.tip fs.length (.cell b0 i0))) l l := fun l => ⟨hG, fun g n hg hk => ⟨by
  rw [upd_other _ _ (fun e => by rw [e, ho] at hk; cases hk)]; exact hk, rfl⟩⟩
 have hF : Fr w κ w (upd κ (ρ b) (.tip fs.length (.cell b0 i0))) := ⟨rfl, rfl, rfl, Nat.le_refl _, fun g n hg hk => ⟨by
  rw [upd_other _ _ (fun e => by rw [e, ho] at hk; cases hk)]; exact hk, rfl⟩, hG⟩
 have hset : ∀ (b' : Nat) (cs' : List CVal), ((s.H.set b none).set b0 (some (cs.set i0 (.tip sz fs len))))[b']? = some (some cs') → b' ≠ b ∧ ((b' ≠ b0 ∧ s.H[b']? = some (some cs')) ∨ (b' = b0 ∧ cs' = cs.set i0 (.tip sz fs len))) := fun b' cs' h => by
  by_cases e0 : b0 = b'
  ·subst e0
   rw [List.getElem?_set] at h
   simp at h
   exact ⟨fun e => hne e.symm, .inr ⟨rfl, h.2.symm⟩⟩
  ·rw [List.getElem?_set_ne e0] at h
   by_cases e : b = b'
   ·subst e
    rw [List.getElem?_set] at h
    simp at h
   ·rw [List.getElem?_set_ne e] at h
    exact ⟨fun h => e h.symm, .inl ⟨fun h => e0 h.symm, h⟩⟩
 have hrow : RowAt w (upd κ (ρ b) (.tip fs.length (.cell b0 i0))) (ρ b) 0 fs := ⟨fun j hj => by
  obtain ⟨v, k1, k2⟩ := hB.cell j (by simp; omega)
  rw [List.getElem_append_left (by simpa using hj), List.getElem_map] at k2
  exact ⟨v, by rw [Nat.zero_add]; exact k1, RepF.grow hG k2⟩, fun _ => ⟨hlt, by rw [upd_same]; show 0 + fs.length ≤ fs.length; omega⟩⟩
 have hT : TipAt w (upd κ (ρ b) (.tip fs.length (.cell b0 i0))) (.cell b0 i0) sz fs len (ρ b) cap := ⟨hrow, hlt, hl, upd_same _ _ _, hc, cB, eB, hB1, by rw [hB2, hp]⟩
 refine ⟨_, ⟨hR.defers, fun i hi' => RepA.keep hG (fun _ _ => rfl) (hR.ok i) (fun _ _ _ _ => hK _) (hR.slot i hi'), hR.out, fun i => by rw [hlen]; exact hR.ok i, ⟨fun b' cs' hb' => ?_, fun b' cs' hb' x hx => ?_⟩⟩, hF⟩
 ·obtain ⟨hnb, ⟨hn0, hb2⟩ | ⟨rfl, rfl⟩⟩ := hset b' cs' hb'
  ·obtain ⟨k0, c, e, k1, k2, k3⟩ := hR.heap.blk b' cs' hb2
   refine ⟨?_, c, e, k1, k2, fun i hi hi' => RepC.keep hG (fun _ _ => rfl) (hR.heap.ok b' cs' hb2 _ (List.getElem_mem hi)) (fun _ _ _ _ => hK _) (k3 i hi hi')⟩
   rw [upd_other _ _ (fun e => by rw [e, ho] at k0; injection k0 with k0; exact hnb k0.symm)]
   exact k0
  ·obtain ⟨k0, c, e, k1, k2, k3⟩ := hR.heap.blk b' cs hb0
   refine ⟨?_, c, e, k1, by rw [List.length_set]; exact k2, fun i hi hi' => ?_⟩
   ·rw [upd_other _ _ (fun e => by rw [e, ho] at k0; injection k0 with k0; exact hnb k0.symm)]
    exact k0
   ·rw [List.length_set] at hi
    rw [List.getElem_set]
    split
    ·rename_i e1
     subst e1
     have h3 := k3 i0 hi hi'
     have e2 : cs[i0] = .arr b 0 len cap := by
      rw [List.getElem?_eq_getElem hi] at hi0
      exact Option.some.inj hi0
     rw [e2] at h3
     have h3 : c[i0] = .slice (some ⟨ρ b, 0, none⟩) len cap := h3
     rw [h3]
     exact .inl ⟨ρ b, cap, rfl, hT⟩
    ·exact RepC.keep hG (fun _ _ => rfl) (hR.heap.ok b' cs hb0 _ (List.getElem_mem hi)) (fun _ _ _ _ => hK _) (k3 i hi hi')
 ·rw [hlen]
  obtain ⟨hnb, ⟨hn0, hb2⟩ | ⟨rfl, rfl⟩⟩ := hset b' cs' hb'
  ·exact hR.heap.ok b' cs' hb2 x hx
  ·rcases List.mem_or_eq_of_mem_set hx with h | h
   ·exact hR.heap.ok b' cs hb0 x h
   ·rw [h]; rfl
theorem X_tipC {n0 : Nat} {l : SL} {H : SH} {s2 : St} (b b0 i0 : Nat) {α : Type} {z : Nat} {F : α → List FVal} {V : α → List SC} {M : List FVal → Option α} {d : α} {ls rs : List α} {cs : List SC} {len cap : Nat} (hne : b ≠ b0) (hH : nth H b = some (some (.els z F V M d (ls ++ rs)))) (hH0 : nth H b0 = some (some (.cells cs))) (hi : nth cs i0 = some (.c (.arr b 0 len cap))) (hlen : len = ls.length) (hcap : cap = (ls ++ rs).length) (hF : ∀ x, (F x).length = z) (h0 : Nat.ble n0 H.length = true)
  (h : Weak n0 (SS l ((H.set b none).set b0 (some (.cells (cs.set i0 (.tipr z F V M d ls)))))) s2) : Weak n0 (SS l H) s2 := by
 subst hlen
 subst hcap
 have hw := weak_tip (n0 := n0) (s := SS l H) (b := b) (b0 := b0) (i0 := i0) (len := ls.length) (cap := (ls ++ rs).length) (sz := z) (fs := ls.flatMap F) (pad := (rs.flatMap F).map CVal.f) (cs := denL cs) (by rw [SS_H, denH_len]; exact Nat.le_of_ble_eq_true h0) hne (by
  rw [SS_H, nth_H hH]
  simp [SB.den]) (by rw [SS_H]; exact nth_H hH0) (nth_den hi) (by simp) (flat_f hF ls) (by
  rw [← List.map_append, ← List.flatMap_append, List.length_map]
  exact flat_f hF _)
 have e : SS l ((H.set b none).set b0 (some (.cells (cs.set i0 (.tipr z F V M d ls))))) = { (SS l H) with H := ((SS l H).H.set b none).set b0 (some ((denL cs).set i0 (.tip z (ls.flatMap F) ls.length))) } := by
  rw [← SS_setH (H := H), SS_H]
  show St.mk _ _ = St.mk _ _
  congr 1
  simp [denH, denB, SB.den, denL, SC.den, List.map_set]
 rw [e] at h
 exact hw.trans h
def pkI (v n : Int) : Int := (pick v n.toNat : Nat)
theorem pickI (v n : Int) (h0 : 0 < n) (hn : n ≤ 9223372036854775807) : OkV Try.prog 18 [vI v, vI n] [] (vI (pkI v n)) [] := by
 have h := pick_ok v n.toNat (by omega) (by omega)
 rw [Int.toNat_of_nonneg (by omega)] at h
 exact h
theorem pkI_lt (v : Int) {n : Int} (h0 : 0 < n) : 0 ≤ pkI v n ∧ pkI v n < n := by
 have := pick_lt v (n := n.toNat) (by omega)
 unfold pkI
 omega
def Oth (L : Lay) (how at_ v : Int) (L' : Lay) : Prop := OkV Try.prog 14 [vLay L, vI how, vI at_, vI v] [] (vLay L') []
def SmallL (L : Lay) : Prop := L.sts.length ≤ 1000000 ∧ L.pts.length ≤ 1000000 ∧ L.secs.length ≤ 1000000 ∧ L.lnks.length ≤ 1000000
theorem getD_app {α : Type} {l r : List α} {d : α} {i : Nat} (h : i < l.length) : (l ++ r).getD i d = l.getD i d := by
 rw [List.getD_eq_getElem?_getD, List.getD_eq_getElem?_getD, List.getElem?_append_left h]
structure Stop (p : Prop) : Prop where
 out : p
theorem stop35 {P : Program} {D : Array Oper → St → (St → Prop) → Prop} {n0 : Nat} {ops : Array Oper} {s : St} {K : AExit → St → Prop} (h : Stop (W P D n0 (.region 35 ops false) s K)) : W P D n0 (.region 35 ops false) s K := h.out
theorem stop30 {P : Program} {D : Array Oper → St → (St → Prop) → Prop} {n0 : Nat} {ops : Array Oper} {s : St} {K : AExit → St → Prop} (h : Stop (W P D n0 (.region 30 ops true) s K)) : W P D n0 (.region 30 ops true) s K := h.out
section
variable {L : Lay} {how at_ v : Int}
theorem oth0 (hs : SmallL L) (h0 : L.secs.length ≠ 0) (hh : pkI how 12 = 0) : Oth L how at_ v { L with secs := L.secs.set (pkI at_ L.secs.length).toNat { L.secs.getD (pkI at_ L.secs.length).toNat sec0 with len := pkI v 403 - 1 } } := by
 obtain ⟨sts, pts, secs, lnks⟩ := L
 obtain ⟨k0, k1, k2, k3⟩ := hs
 dsimp only at *
 have hP := pickI how 12 (by omega) (by omega)
 have hA := pickI at_ (secs.length : Int) (by omega) (by omega)
 have b1 := pkI_lt at_ (n := (secs.length : Int)) (by omega)
 generalize pkI at_ (secs.length : Int) = i1 at *
 have hne := h0
 rw [hh] at hP
 have hi : i1.toNat < secs.length := by omega
 have h1 := pickI v 403 (by omega) (by omega)
 have b2 := pkI_lt v (n := 403) (by omega)
 unfold Oth vLay
 refine X_fnP mixedX Try.func14 rfl (by kernel_rfl) (Nat.le_of_ble_eq_true (by kernel_rfl)) (by kernel_rfl) rfl rfl ?_
 simp only [sl0, Nat.zero_add, Nat.reduceAdd]
 refine W_seq (W_region (WOps_WR ?_))
 refine X_run rfl (by repeat' (first | exact True.intro | apply And.intro | omega | exact fun _ => ⟨rfl, rfl⟩ | rfl)) (WR_nil (seqK_n ?_))
 refine W_seq (X_cparr2 rfl ⟨k0, k1, k2, k3⟩ hne ?_)
 intro cap hcap
 refine seqK_w (SS [sI 1 how, sI 2 at_, sI 3 v, sC 8 (pB 1), sC 9 (pB 2)] [none, some (.cells [.c (.f .nils), .c (.f .nils), .c (.f .nils), .c (.f .nils)]), some (.cells [rStr sts, rStr pts, .c (.arr 3 0 secs.length cap), rLnk lnks]), some (.els 5 fSec vSec mSec sec0 (secs ++ List.replicate (cap - secs.length) sec0))]) ?_ ?_
 ·
  refine X_weak rfl rfl rfl ?_ ?_ <;> repeat' (first|with_reducible (first|refine Wk.o (by constructor) ?_|refine q_and ?_ ?_|exact True.intro)|refine q_AgS rfl ?_ ?_|exact CLe.nil_tipS|exact CLe.nil_rowS|refine HLe.cells ?_ ?_|refine HLe.els ?_ ?_|refine SLe.cons ?_ ?_|exact (rfl : known _ = _)|with_reducible rfl|omega)
 repeat' (first
  |with_reducible (first|refine q_and ?_ ?_|exact True.intro|exact TkEq.nil _|refine Red.o (by constructor) ?_|refine blockK_o' rfl ?_|refine LoopX_e' rfl ?_|assumption)
  |((with_reducible apply q_call);first|refine X_pure (hA) rfl ?_|refine X_pure (hP) rfl ?_|refine X_pure (h1) rfl ?_)
  |((with_reducible apply stop35))
  |((with_reducible apply q_CI);intro hbq;(try simp only [bq] at hbq);(try (exfalso;omega)))
  |with_reducible (first|refine W_seq ?_|refine W_block ?_)
  |((with_reducible apply q_cond);refine X_cond rfl ?_ ?_;all_goals (intro hbq;(try simp only [bq] at hbq);(try (exfalso;omega))))
  |refine Rex.o (by (with_reducible constructor);apply Eq.refl) ?_
  |(intro (hgq : (_ : Bool) = true);(try simp only [bq] at hgq))
  |(intro (hgq : (_ : Bool) = false);(try simp only [bq] at hgq))
  |((with_reducible apply q_VOk);exact fun _ => ⟨rfl,rfl⟩)|(intro _;exact rfl)|((with_reducible apply q_CRB);kernel_rfl)|((with_reducible apply q_bt);simp only [bq])|((with_reducible apply q_eqN);rfl)|((with_reducible apply q_FE);exact rfl)|with_reducible (first|exact isByte_wrap _|exact isByte_nat _)|(simp only [hgq,bq];done)|omega|(dsimp only;omega))
 all_goals first | ((show (_ : Int) < _); simp; omega) | rfl | skip
 ·refine Stop.mk ?_
  refine W_region (WOps_WR ?_)
  simp only [List.set_append_left _ _ hi, getD_app hi]
  refine X_frzC 3 2 2 (by decide) rfl rfl rfl (by simp) hcap (fun _ => rfl) ?_
  simp only [List.set_cons_succ, List.set_cons_zero]
  repeat' (first
   |with_reducible (first|refine q_and ?_ ?_|exact True.intro|exact TkEq.nil _|refine Red.o (by constructor) ?_|refine blockK_o' rfl ?_|refine LoopX_e' rfl ?_|assumption)
   |((with_reducible apply q_CI);intro hbq;(try simp only [bq] at hbq);(try (exfalso;omega)))
   |with_reducible (first|refine W_seq ?_|refine W_block ?_)
   |((with_reducible apply q_cond);refine X_cond rfl ?_ ?_;all_goals (intro hbq;(try simp only [bq] at hbq);(try (exfalso;omega))))
   |refine Rex.o (by (with_reducible constructor);apply Eq.refl) ?_
   |(intro (hgq : (_ : Bool) = true);(try simp only [bq] at hgq))
   |(intro (hgq : (_ : Bool) = false);(try simp only [bq] at hgq))
   |((with_reducible apply q_VOk);exact fun _ => ⟨rfl,rfl⟩)|(intro _;exact rfl)|((with_reducible apply q_CRB);kernel_rfl)|((with_reducible apply q_bt);simp only [bq])|((with_reducible apply q_eqN);rfl)|((with_reducible apply q_FE);exact rfl)|with_reducible (first|exact isByte_wrap _|exact isByte_nat _)|(simp only [hgq,bq];done)|omega|(dsimp only;omega))
  all_goals rfl
theorem oth1 (hs : SmallL L) (h0 : L.secs.length ≠ 0) (hh : pkI how 12 = 1) : Oth L how at_ v { L with secs := L.secs.set (pkI at_ L.secs.length).toNat { L.secs.getD (pkI at_ L.secs.length).toNat sec0 with lim := pkI v 102000 } } := by
 obtain ⟨sts, pts, secs, lnks⟩ := L
 obtain ⟨k0, k1, k2, k3⟩ := hs
 dsimp only at *
 have hP := pickI how 12 (by omega) (by omega)
 have hA := pickI at_ (secs.length : Int) (by omega) (by omega)
 have b1 := pkI_lt at_ (n := (secs.length : Int)) (by omega)
 generalize pkI at_ (secs.length : Int) = i1 at *
 have hne := h0
 rw [hh] at hP
 have hi : i1.toNat < secs.length := by omega
 have h1 := pickI v 102000 (by omega) (by omega)
 have b2 := pkI_lt v (n := 102000) (by omega)
 unfold Oth vLay
 refine X_fnP mixedX Try.func14 rfl (by kernel_rfl) (Nat.le_of_ble_eq_true (by kernel_rfl)) (by kernel_rfl) rfl rfl ?_
 simp only [sl0, Nat.zero_add, Nat.reduceAdd]
 refine W_seq (W_region (WOps_WR ?_))
 refine X_run rfl (by repeat' (first | exact True.intro | apply And.intro | omega | exact fun _ => ⟨rfl, rfl⟩ | rfl)) (WR_nil (seqK_n ?_))
 refine W_seq (X_cparr2 rfl ⟨k0, k1, k2, k3⟩ hne ?_)
 intro cap hcap
 refine seqK_w (SS [sI 1 how, sI 2 at_, sI 3 v, sC 8 (pB 1), sC 9 (pB 2)] [none, some (.cells [.c (.f .nils), .c (.f .nils), .c (.f .nils), .c (.f .nils)]), some (.cells [rStr sts, rStr pts, .c (.arr 3 0 secs.length cap), rLnk lnks]), some (.els 5 fSec vSec mSec sec0 (secs ++ List.replicate (cap - secs.length) sec0))]) ?_ ?_
 ·
  refine X_weak rfl rfl rfl ?_ ?_ <;> repeat' (first|with_reducible (first|refine Wk.o (by constructor) ?_|refine q_and ?_ ?_|exact True.intro)|refine q_AgS rfl ?_ ?_|exact CLe.nil_tipS|exact CLe.nil_rowS|refine HLe.cells ?_ ?_|refine HLe.els ?_ ?_|refine SLe.cons ?_ ?_|exact (rfl : known _ = _)|with_reducible rfl|omega)
 repeat' (first
  |with_reducible (first|refine q_and ?_ ?_|exact True.intro|exact TkEq.nil _|refine Red.o (by constructor) ?_|refine blockK_o' rfl ?_|refine LoopX_e' rfl ?_|assumption)
  |((with_reducible apply q_call);first|refine X_pure (hA) rfl ?_|refine X_pure (hP) rfl ?_|refine X_pure (h1) rfl ?_)
  |((with_reducible apply stop35))
  |((with_reducible apply q_CI);intro hbq;(try simp only [bq] at hbq);(try (exfalso;omega)))
  |with_reducible (first|refine W_seq ?_|refine W_block ?_)
  |((with_reducible apply q_cond);refine X_cond rfl ?_ ?_;all_goals (intro hbq;(try simp only [bq] at hbq);(try (exfalso;omega))))
  |refine Rex.o (by (with_reducible constructor);apply Eq.refl) ?_
  |(intro (hgq : (_ : Bool) = true);(try simp only [bq] at hgq))
  |(intro (hgq : (_ : Bool) = false);(try simp only [bq] at hgq))
  |((with_reducible apply q_VOk);exact fun _ => ⟨rfl,rfl⟩)|(intro _;exact rfl)|((with_reducible apply q_CRB);kernel_rfl)|((with_reducible apply q_bt);simp only [bq])|((with_reducible apply q_eqN);rfl)|((with_reducible apply q_FE);exact rfl)|with_reducible (first|exact isByte_wrap _|exact isByte_nat _)|(simp only [hgq,bq];done)|omega|(dsimp only;omega))
 all_goals first | ((show (_ : Int) < _); simp; omega) | rfl | skip
 ·refine Stop.mk ?_
  refine W_region (WOps_WR ?_)
  simp only [List.set_append_left _ _ hi, getD_app hi]
  refine X_frzC 3 2 2 (by decide) rfl rfl rfl (by simp) hcap (fun _ => rfl) ?_
  simp only [List.set_cons_succ, List.set_cons_zero]
  repeat' (first
   |with_reducible (first|refine q_and ?_ ?_|exact True.intro|exact TkEq.nil _|refine Red.o (by constructor) ?_|refine blockK_o' rfl ?_|refine LoopX_e' rfl ?_|assumption)
   |((with_reducible apply q_CI);intro hbq;(try simp only [bq] at hbq);(try (exfalso;omega)))
   |with_reducible (first|refine W_seq ?_|refine W_block ?_)
   |((with_reducible apply q_cond);refine X_cond rfl ?_ ?_;all_goals (intro hbq;(try simp only [bq] at hbq);(try (exfalso;omega))))
   |refine Rex.o (by (with_reducible constructor);apply Eq.refl) ?_
   |(intro (hgq : (_ : Bool) = true);(try simp only [bq] at hgq))
   |(intro (hgq : (_ : Bool) = false);(try simp only [bq] at hgq))
   |((with_reducible apply q_VOk);exact fun _ => ⟨rfl,rfl⟩)|(intro _;exact rfl)|((with_reducible apply q_CRB);kernel_rfl)|((with_reducible apply q_bt);simp only [bq])|((with_reducible apply q_eqN);rfl)|((with_reducible apply q_FE);exact rfl)|with_reducible (first|exact isByte_wrap _|exact isByte_nat _)|(simp only [hgq,bq];done)|omega|(dsimp only;omega))
  all_goals rfl
theorem oth2 (hs : SmallL L) (h0 : L.secs.length ≠ 0) (hh : pkI how 12 = 2) : Oth L how at_ v { L with secs := L.secs.set (pkI at_ L.secs.length).toNat { L.secs.getD (pkI at_ L.secs.length).toNat sec0 with grd := pkI v 85 - 40 - 2 } } := by
 obtain ⟨sts, pts, secs, lnks⟩ := L
 obtain ⟨k0, k1, k2, k3⟩ := hs
 dsimp only at *
 have hP := pickI how 12 (by omega) (by omega)
 have hA := pickI at_ (secs.length : Int) (by omega) (by omega)
 have b1 := pkI_lt at_ (n := (secs.length : Int)) (by omega)
 generalize pkI at_ (secs.length : Int) = i1 at *
 have hne := h0
 rw [hh] at hP
 have hi : i1.toNat < secs.length := by omega
 have h1 := pickI v 85 (by omega) (by omega)
 have b2 := pkI_lt v (n := 85) (by omega)
 unfold Oth vLay
 refine X_fnP mixedX Try.func14 rfl (by kernel_rfl) (Nat.le_of_ble_eq_true (by kernel_rfl)) (by kernel_rfl) rfl rfl ?_
 simp only [sl0, Nat.zero_add, Nat.reduceAdd]
 refine W_seq (W_region (WOps_WR ?_))
 refine X_run rfl (by repeat' (first | exact True.intro | apply And.intro | omega | exact fun _ => ⟨rfl, rfl⟩ | rfl)) (WR_nil (seqK_n ?_))
 refine W_seq (X_cparr2 rfl ⟨k0, k1, k2, k3⟩ hne ?_)
 intro cap hcap
 refine seqK_w (SS [sI 1 how, sI 2 at_, sI 3 v, sC 8 (pB 1), sC 9 (pB 2)] [none, some (.cells [.c (.f .nils), .c (.f .nils), .c (.f .nils), .c (.f .nils)]), some (.cells [rStr sts, rStr pts, .c (.arr 3 0 secs.length cap), rLnk lnks]), some (.els 5 fSec vSec mSec sec0 (secs ++ List.replicate (cap - secs.length) sec0))]) ?_ ?_
 ·
  refine X_weak rfl rfl rfl ?_ ?_ <;> repeat' (first|with_reducible (first|refine Wk.o (by constructor) ?_|refine q_and ?_ ?_|exact True.intro)|refine q_AgS rfl ?_ ?_|exact CLe.nil_tipS|exact CLe.nil_rowS|refine HLe.cells ?_ ?_|refine HLe.els ?_ ?_|refine SLe.cons ?_ ?_|exact (rfl : known _ = _)|with_reducible rfl|omega)
 repeat' (first
  |with_reducible (first|refine q_and ?_ ?_|exact True.intro|exact TkEq.nil _|refine Red.o (by constructor) ?_|refine blockK_o' rfl ?_|refine LoopX_e' rfl ?_|assumption)
  |((with_reducible apply q_call);first|refine X_pure (hA) rfl ?_|refine X_pure (hP) rfl ?_|refine X_pure (h1) rfl ?_)
  |((with_reducible apply stop35))
  |((with_reducible apply q_CI);intro hbq;(try simp only [bq] at hbq);(try (exfalso;omega)))
  |with_reducible (first|refine W_seq ?_|refine W_block ?_)
  |((with_reducible apply q_cond);refine X_cond rfl ?_ ?_;all_goals (intro hbq;(try simp only [bq] at hbq);(try (exfalso;omega))))
  |refine Rex.o (by (with_reducible constructor);apply Eq.refl) ?_
  |(intro (hgq : (_ : Bool) = true);(try simp only [bq] at hgq))
  |(intro (hgq : (_ : Bool) = false);(try simp only [bq] at hgq))
  |((with_reducible apply q_VOk);exact fun _ => ⟨rfl,rfl⟩)|(intro _;exact rfl)|((with_reducible apply q_CRB);kernel_rfl)|((with_reducible apply q_bt);simp only [bq])|((with_reducible apply q_eqN);rfl)|((with_reducible apply q_FE);exact rfl)|with_reducible (first|exact isByte_wrap _|exact isByte_nat _)|(simp only [hgq,bq];done)|omega|(dsimp only;omega))
 all_goals first | ((show (_ : Int) < _); simp; omega) | rfl | skip
 ·refine Stop.mk ?_
  refine W_region (WOps_WR ?_)
  simp only [List.set_append_left _ _ hi, getD_app hi]
  refine X_frzC 3 2 2 (by decide) rfl rfl rfl (by simp) hcap (fun _ => rfl) ?_
  simp only [List.set_cons_succ, List.set_cons_zero]
  repeat' (first
   |with_reducible (first|refine q_and ?_ ?_|exact True.intro|exact TkEq.nil _|refine Red.o (by constructor) ?_|refine blockK_o' rfl ?_|refine LoopX_e' rfl ?_|assumption)
   |((with_reducible apply q_CI);intro hbq;(try simp only [bq] at hbq);(try (exfalso;omega)))
   |with_reducible (first|refine W_seq ?_|refine W_block ?_)
   |((with_reducible apply q_cond);refine X_cond rfl ?_ ?_;all_goals (intro hbq;(try simp only [bq] at hbq);(try (exfalso;omega))))
   |refine Rex.o (by (with_reducible constructor);apply Eq.refl) ?_
   |(intro (hgq : (_ : Bool) = true);(try simp only [bq] at hgq))
   |(intro (hgq : (_ : Bool) = false);(try simp only [bq] at hgq))
   |((with_reducible apply q_VOk);exact fun _ => ⟨rfl,rfl⟩)|(intro _;exact rfl)|((with_reducible apply q_CRB);kernel_rfl)|((with_reducible apply q_bt);simp only [bq])|((with_reducible apply q_eqN);rfl)|((with_reducible apply q_FE);exact rfl)|with_reducible (first|exact isByte_wrap _|exact isByte_nat _)|(simp only [hgq,bq];done)|omega|(dsimp only;omega))
  all_goals rfl
theorem oth3 (hs : SmallL L) (h0 : L.secs.length ≠ 0) (hh : pkI how 12 = 3) : Oth L how at_ v { L with secs := L.secs.set (pkI at_ L.secs.length).toNat { L.secs.getD (pkI at_ L.secs.length).toNat sec0 with stn := pkI v (L.sts.length + 3) - 2 } } := by
 obtain ⟨sts, pts, secs, lnks⟩ := L
 obtain ⟨k0, k1, k2, k3⟩ := hs
 dsimp only at *
 have hP := pickI how 12 (by omega) (by omega)
 have hA := pickI at_ (secs.length : Int) (by omega) (by omega)
 have b1 := pkI_lt at_ (n := (secs.length : Int)) (by omega)
 generalize pkI at_ (secs.length : Int) = i1 at *
 have hne := h0
 rw [hh] at hP
 have hi : i1.toNat < secs.length := by omega
 have h1 := pickI v ((sts.length : Int) + 3) (by omega) (by omega)
 have b2 := pkI_lt v (n := (sts.length : Int) + 3) (by omega)
 unfold Oth vLay
 refine X_fnP mixedX Try.func14 rfl (by kernel_rfl) (Nat.le_of_ble_eq_true (by kernel_rfl)) (by kernel_rfl) rfl rfl ?_
 simp only [sl0, Nat.zero_add, Nat.reduceAdd]
 refine W_seq (W_region (WOps_WR ?_))
 refine X_run rfl (by repeat' (first | exact True.intro | apply And.intro | omega | exact fun _ => ⟨rfl, rfl⟩ | rfl)) (WR_nil (seqK_n ?_))
 refine W_seq (X_cparr2 rfl ⟨k0, k1, k2, k3⟩ hne ?_)
 intro cap hcap
 refine seqK_w (SS [sI 1 how, sI 2 at_, sI 3 v, sC 8 (pB 1), sC 9 (pB 2)] [none, some (.cells [.c (.f .nils), .c (.f .nils), .c (.f .nils), .c (.f .nils)]), some (.cells [rStr sts, rStr pts, .c (.arr 3 0 secs.length cap), rLnk lnks]), some (.els 5 fSec vSec mSec sec0 (secs ++ List.replicate (cap - secs.length) sec0))]) ?_ ?_
 ·
  refine X_weak rfl rfl rfl ?_ ?_ <;> repeat' (first|with_reducible (first|refine Wk.o (by constructor) ?_|refine q_and ?_ ?_|exact True.intro)|refine q_AgS rfl ?_ ?_|exact CLe.nil_tipS|exact CLe.nil_rowS|refine HLe.cells ?_ ?_|refine HLe.els ?_ ?_|refine SLe.cons ?_ ?_|exact (rfl : known _ = _)|with_reducible rfl|omega)
 repeat' (first
  |with_reducible (first|refine q_and ?_ ?_|exact True.intro|exact TkEq.nil _|refine Red.o (by constructor) ?_|refine blockK_o' rfl ?_|refine LoopX_e' rfl ?_|assumption)
  |((with_reducible apply q_call);first|refine X_pure (hA) rfl ?_|refine X_pure (hP) rfl ?_|refine X_pure (h1) rfl ?_)
  |((with_reducible apply stop35))
  |((with_reducible apply q_CI);intro hbq;(try simp only [bq] at hbq);(try (exfalso;omega)))
  |with_reducible (first|refine W_seq ?_|refine W_block ?_)
  |((with_reducible apply q_cond);refine X_cond rfl ?_ ?_;all_goals (intro hbq;(try simp only [bq] at hbq);(try (exfalso;omega))))
  |refine Rex.o (by (with_reducible constructor);apply Eq.refl) ?_
  |(intro (hgq : (_ : Bool) = true);(try simp only [bq] at hgq))
  |(intro (hgq : (_ : Bool) = false);(try simp only [bq] at hgq))
  |((with_reducible apply q_VOk);exact fun _ => ⟨rfl,rfl⟩)|(intro _;exact rfl)|((with_reducible apply q_CRB);kernel_rfl)|((with_reducible apply q_bt);simp only [bq])|((with_reducible apply q_eqN);rfl)|((with_reducible apply q_FE);exact rfl)|with_reducible (first|exact isByte_wrap _|exact isByte_nat _)|(simp only [hgq,bq];done)|omega|(dsimp only;omega))
 all_goals first | ((show (_ : Int) < _); simp; omega) | rfl | skip
 ·refine Stop.mk ?_
  refine W_region (WOps_WR ?_)
  simp only [List.set_append_left _ _ hi, getD_app hi]
  refine X_frzC 3 2 2 (by decide) rfl rfl rfl (by simp) hcap (fun _ => rfl) ?_
  simp only [List.set_cons_succ, List.set_cons_zero]
  repeat' (first
   |with_reducible (first|refine q_and ?_ ?_|exact True.intro|exact TkEq.nil _|refine Red.o (by constructor) ?_|refine blockK_o' rfl ?_|refine LoopX_e' rfl ?_|assumption)
   |((with_reducible apply q_CI);intro hbq;(try simp only [bq] at hbq);(try (exfalso;omega)))
   |with_reducible (first|refine W_seq ?_|refine W_block ?_)
   |((with_reducible apply q_cond);refine X_cond rfl ?_ ?_;all_goals (intro hbq;(try simp only [bq] at hbq);(try (exfalso;omega))))
   |refine Rex.o (by (with_reducible constructor);apply Eq.refl) ?_
   |(intro (hgq : (_ : Bool) = true);(try simp only [bq] at hgq))
   |(intro (hgq : (_ : Bool) = false);(try simp only [bq] at hgq))
   |((with_reducible apply q_VOk);exact fun _ => ⟨rfl,rfl⟩)|(intro _;exact rfl)|((with_reducible apply q_CRB);kernel_rfl)|((with_reducible apply q_bt);simp only [bq])|((with_reducible apply q_eqN);rfl)|((with_reducible apply q_FE);exact rfl)|with_reducible (first|exact isByte_wrap _|exact isByte_nat _)|(simp only [hgq,bq];done)|omega|(dsimp only;omega))
  all_goals rfl
theorem oth4 (hs : SmallL L) (h0 : L.secs.length ≠ 0) (hh : pkI how 12 = 4) : Oth L how at_ v { L with secs := L.secs.set (pkI at_ L.secs.length).toNat { L.secs.getD (pkI at_ L.secs.length).toNat sec0 with nm := ([⟨#[]⟩, ⟨#[88]⟩, ⟨#[84, 48, 49]⟩, ⟨#[49, 97]⟩, ⟨#[97, 98, 99, 100, 101, 102, 103, 104, 105, 106, 107, 108, 109]⟩] : List ByteArray).getD (pkI v 5).toNat ⟨#[]⟩ } } := by
 obtain ⟨sts, pts, secs, lnks⟩ := L
 obtain ⟨k0, k1, k2, k3⟩ := hs
 dsimp only at *
 have hP := pickI how 12 (by omega) (by omega)
 have hA := pickI at_ (secs.length : Int) (by omega) (by omega)
 have b1 := pkI_lt at_ (n := (secs.length : Int)) (by omega)
 generalize pkI at_ (secs.length : Int) = i1 at *
 have hne := h0
 rw [hh] at hP
 have hi : i1.toNat < secs.length := by omega
 have h1 := pickI v 5 (by omega) (by omega)
 have b2 := pkI_lt v (n := 5) (by omega)
 unfold Oth vLay
 refine X_fnP mixedX Try.func14 rfl (by kernel_rfl) (Nat.le_of_ble_eq_true (by kernel_rfl)) (by kernel_rfl) rfl rfl ?_
 simp only [sl0, Nat.zero_add, Nat.reduceAdd]
 refine W_seq (W_region (WOps_WR ?_))
 refine X_run rfl (by repeat' (first | exact True.intro | apply And.intro | omega | exact fun _ => ⟨rfl, rfl⟩ | rfl)) (WR_nil (seqK_n ?_))
 refine W_seq (X_cparr2 rfl ⟨k0, k1, k2, k3⟩ hne ?_)
 intro cap hcap
 refine seqK_w (SS [sI 1 how, sI 2 at_, sI 3 v, sC 8 (pB 1), sC 9 (pB 2)] [none, some (.cells [.c (.f .nils), .c (.f .nils), .c (.f .nils), .c (.f .nils)]), some (.cells [rStr sts, rStr pts, .c (.arr 3 0 secs.length cap), rLnk lnks]), some (.els 5 fSec vSec mSec sec0 (secs ++ List.replicate (cap - secs.length) sec0))]) ?_ ?_
 ·
  refine X_weak rfl rfl rfl ?_ ?_ <;> repeat' (first|with_reducible (first|refine Wk.o (by constructor) ?_|refine q_and ?_ ?_|exact True.intro)|refine q_AgS rfl ?_ ?_|exact CLe.nil_tipS|exact CLe.nil_rowS|refine HLe.cells ?_ ?_|refine HLe.els ?_ ?_|refine SLe.cons ?_ ?_|exact (rfl : known _ = _)|with_reducible rfl|omega)
 repeat' (first
  |with_reducible (first|refine q_and ?_ ?_|exact True.intro|exact TkEq.nil _|refine Red.o (by constructor) ?_|refine blockK_o' rfl ?_|refine LoopX_e' rfl ?_|assumption)
  |((with_reducible apply q_call);first|refine X_pure (hA) rfl ?_|refine X_pure (hP) rfl ?_|refine X_pure (h1) rfl ?_)
  |((with_reducible apply stop35))
  |((with_reducible apply q_CI);intro hbq;(try simp only [bq] at hbq);(try (exfalso;omega)))
  |with_reducible (first|refine W_seq ?_|refine W_block ?_)
  |((with_reducible apply q_cond);refine X_cond rfl ?_ ?_;all_goals (intro hbq;(try simp only [bq] at hbq);(try (exfalso;omega))))
  |refine Rex.o (by (with_reducible constructor);apply Eq.refl) ?_
  |(intro (hgq : (_ : Bool) = true);(try simp only [bq] at hgq))
  |(intro (hgq : (_ : Bool) = false);(try simp only [bq] at hgq))
  |((with_reducible apply q_VOk);exact fun _ => ⟨rfl,rfl⟩)|(intro _;exact rfl)|((with_reducible apply q_CRB);kernel_rfl)|((with_reducible apply q_bt);simp only [bq])|((with_reducible apply q_eqN);rfl)|((with_reducible apply q_FE);exact rfl)|with_reducible (first|exact isByte_wrap _|exact isByte_nat _)|(simp only [hgq,bq];done)|omega|(dsimp only;omega))
 refine WR_view 89 (.v (.c (uStr [⟨#[]⟩, ⟨#[88]⟩, ⟨#[84, 48, 49]⟩, ⟨#[49, 97]⟩, ⟨#[97, 98, 99, 100, 101, 102, 103, 104, 105, 106, 107, 108, 109]⟩]))) rfl ?_
 repeat' (first
  |with_reducible (first|refine q_and ?_ ?_|exact True.intro|exact TkEq.nil _|refine Red.o (by constructor) ?_|refine blockK_o' rfl ?_|refine LoopX_e' rfl ?_|assumption)
  |((with_reducible apply q_call);first|refine X_pure (hA) rfl ?_|refine X_pure (hP) rfl ?_|refine X_pure (h1) rfl ?_)
  |((with_reducible apply stop35))
  |((with_reducible apply q_CI);intro hbq;(try simp only [bq] at hbq);(try (exfalso;omega)))
  |with_reducible (first|refine W_seq ?_|refine W_block ?_)
  |((with_reducible apply q_cond);refine X_cond rfl ?_ ?_;all_goals (intro hbq;(try simp only [bq] at hbq);(try (exfalso;omega))))
  |refine Rex.o (by (with_reducible constructor);apply Eq.refl) ?_
  |(intro (hgq : (_ : Bool) = true);(try simp only [bq] at hgq))
  |(intro (hgq : (_ : Bool) = false);(try simp only [bq] at hgq))
  |((with_reducible apply q_VOk);exact fun _ => ⟨rfl,rfl⟩)|(intro _;exact rfl)|((with_reducible apply q_CRB);kernel_rfl)|((with_reducible apply q_bt);simp only [bq])|((with_reducible apply q_eqN);rfl)|((with_reducible apply q_FE);exact rfl)|with_reducible (first|exact isByte_wrap _|exact isByte_nat _)|(simp only [hgq,bq];done)|omega|(dsimp only;omega))
 all_goals first | ((show (_ : Int) < _); simp; omega) | rfl | skip
 ·refine Stop.mk ?_
  refine W_region (WOps_WR ?_)
  simp only [List.set_append_left _ _ hi, getD_app hi]
  refine X_frzC 3 2 2 (by decide) rfl rfl rfl (by simp) hcap (fun _ => rfl) ?_
  simp only [List.set_cons_succ, List.set_cons_zero]
  repeat' (first
   |with_reducible (first|refine q_and ?_ ?_|exact True.intro|exact TkEq.nil _|refine Red.o (by constructor) ?_|refine blockK_o' rfl ?_|refine LoopX_e' rfl ?_|assumption)
   |((with_reducible apply q_CI);intro hbq;(try simp only [bq] at hbq);(try (exfalso;omega)))
   |with_reducible (first|refine W_seq ?_|refine W_block ?_)
   |((with_reducible apply q_cond);refine X_cond rfl ?_ ?_;all_goals (intro hbq;(try simp only [bq] at hbq);(try (exfalso;omega))))
   |refine Rex.o (by (with_reducible constructor);apply Eq.refl) ?_
   |(intro (hgq : (_ : Bool) = true);(try simp only [bq] at hgq))
   |(intro (hgq : (_ : Bool) = false);(try simp only [bq] at hgq))
   |((with_reducible apply q_VOk);exact fun _ => ⟨rfl,rfl⟩)|(intro _;exact rfl)|((with_reducible apply q_CRB);kernel_rfl)|((with_reducible apply q_bt);simp only [bq])|((with_reducible apply q_eqN);rfl)|((with_reducible apply q_FE);exact rfl)|with_reducible (first|exact isByte_wrap _|exact isByte_nat _)|(simp only [hgq,bq];done)|omega|(dsimp only;omega))
  all_goals rfl
theorem oth5 (hs : SmallL L) (h0 : L.secs.length ≠ 0) (hh : pkI how 12 = 5) (hne : L.sts.length ≠ 0) : Oth L how at_ v { L with sts := L.sts ++ [([⟨#[83, 48]⟩, ⟨#[83, 95, 57]⟩, ⟨#[]⟩, ⟨#[97, 45, 98]⟩] : List ByteArray).getD (pkI v 4).toNat ⟨#[]⟩] } := by
 obtain ⟨sts, pts, secs, lnks⟩ := L
 obtain ⟨k0, k1, k2, k3⟩ := hs
 dsimp only at *
 have hP := pickI how 12 (by omega) (by omega)
 have hA := pickI at_ (secs.length : Int) (by omega) (by omega)
 have b1 := pkI_lt at_ (n := (secs.length : Int)) (by omega)
 generalize pkI at_ (secs.length : Int) = i1 at *
 rw [hh] at hP
 have h1 := pickI v 4 (by omega) (by omega)
 have b2 := pkI_lt v (n := 4) (by omega)
 unfold Oth vLay
 refine X_fnP mixedX Try.func14 rfl (by kernel_rfl) (Nat.le_of_ble_eq_true (by kernel_rfl)) (by kernel_rfl) rfl rfl ?_
 simp only [sl0, Nat.zero_add, Nat.reduceAdd]
 refine W_seq (W_region (WOps_WR ?_))
 refine X_run rfl (by repeat' (first | exact True.intro | apply And.intro | omega | exact fun _ => ⟨rfl, rfl⟩ | rfl)) (WR_nil (seqK_n ?_))
 refine W_seq (X_cparr0 rfl ⟨k0, k1, k2, k3⟩ hne ?_)
 intro cap hcap
 refine seqK_w (SS [sI 1 how, sI 2 at_, sI 3 v, sC 8 (pB 1), sC 9 (pB 2)] [none, some (.cells [.c (.f .nils), .c (.f .nils), .c (.f .nils), .c (.f .nils)]), some (.cells [uStr sts, rStr pts, rSec secs, rLnk lnks])]) ?_ ?_
 ·refine X_tipC 3 2 0 (by decide) rfl rfl rfl rfl (by simp; omega) (fun _ => rfl) rfl ?_
  simp only [List.set_cons_succ, List.set_cons_zero]
  refine X_weak rfl rfl rfl ?_ ?_ <;> repeat' (first|with_reducible (first|refine Wk.o (by constructor) ?_|refine q_and ?_ ?_|exact True.intro)|refine q_AgS rfl ?_ ?_|exact CLe.nil_tipS|exact CLe.nil_rowS|refine HLe.cells ?_ ?_|refine HLe.els ?_ ?_|refine SLe.cons ?_ ?_|exact (rfl : known _ = _)|with_reducible rfl|omega)
 repeat' (first
  |with_reducible (first|refine q_and ?_ ?_|exact True.intro|exact TkEq.nil _|refine Red.o (by constructor) ?_|refine blockK_o' rfl ?_|refine LoopX_e' rfl ?_|assumption)
  |((with_reducible apply q_call);first|refine X_pure (hA) rfl ?_|refine X_pure (hP) rfl ?_|refine X_pure (h1) rfl ?_)
  |((with_reducible apply q_CI);intro hbq;(try simp only [bq] at hbq);(try (exfalso;omega)))
  |with_reducible (first|refine W_seq ?_|refine W_block ?_)
  |((with_reducible apply q_cond);refine X_cond rfl ?_ ?_;all_goals (intro hbq;(try simp only [bq] at hbq);(try (exfalso;omega))))
  |refine Rex.o (by (with_reducible constructor);apply Eq.refl) ?_
  |(intro (hgq : (_ : Bool) = true);(try simp only [bq] at hgq))
  |(intro (hgq : (_ : Bool) = false);(try simp only [bq] at hgq))
  |((with_reducible apply q_VOk);exact fun _ => ⟨rfl,rfl⟩)|(intro _;exact rfl)|((with_reducible apply q_CRB);kernel_rfl)|((with_reducible apply q_bt);simp only [bq])|((with_reducible apply q_eqN);rfl)|((with_reducible apply q_FE);exact rfl)|with_reducible (first|exact isByte_wrap _|exact isByte_nat _)|(simp only [hgq,bq];done)|omega|(dsimp only;omega))
 refine WR_view 100 (.v (.c (uStr [⟨#[83, 48]⟩, ⟨#[83, 95, 57]⟩, ⟨#[]⟩, ⟨#[97, 45, 98]⟩]))) rfl ?_
 repeat' (first
  |with_reducible (first|refine q_and ?_ ?_|exact True.intro|exact TkEq.nil _|refine Red.o (by constructor) ?_|refine blockK_o' rfl ?_|refine LoopX_e' rfl ?_|assumption)
  |((with_reducible apply q_call);first|refine X_pure (hA) rfl ?_|refine X_pure (hP) rfl ?_|refine X_pure (h1) rfl ?_)
  |((with_reducible apply q_CI);intro hbq;(try simp only [bq] at hbq);(try (exfalso;omega)))
  |with_reducible (first|refine W_seq ?_|refine W_block ?_)
  |((with_reducible apply q_cond);refine X_cond rfl ?_ ?_;all_goals (intro hbq;(try simp only [bq] at hbq);(try (exfalso;omega))))
  |refine Rex.o (by (with_reducible constructor);apply Eq.refl) ?_
  |(intro (hgq : (_ : Bool) = true);(try simp only [bq] at hgq))
  |(intro (hgq : (_ : Bool) = false);(try simp only [bq] at hgq))
  |((with_reducible apply q_VOk);exact fun _ => ⟨rfl,rfl⟩)|(intro _;exact rfl)|((with_reducible apply q_CRB);kernel_rfl)|((with_reducible apply q_bt);simp only [bq])|((with_reducible apply q_eqN);rfl)|((with_reducible apply q_FE);exact rfl)|with_reducible (first|exact isByte_wrap _|exact isByte_nat _)|(simp only [hgq,bq];done)|omega|(dsimp only;omega))
 all_goals first | exact b2.2 | rfl
theorem oth5n (hs : SmallL L) (h0 : L.secs.length ≠ 0) (hh : pkI how 12 = 5) (hne : L.sts = []) : Oth L how at_ v { L with sts := L.sts ++ [([⟨#[83, 48]⟩, ⟨#[83, 95, 57]⟩, ⟨#[]⟩, ⟨#[97, 45, 98]⟩] : List ByteArray).getD (pkI v 4).toNat ⟨#[]⟩] } := by
 obtain ⟨sts, pts, secs, lnks⟩ := L
 obtain ⟨k0, k1, k2, k3⟩ := hs
 dsimp only at *
 have hP := pickI how 12 (by omega) (by omega)
 have hA := pickI at_ (secs.length : Int) (by omega) (by omega)
 have b1 := pkI_lt at_ (n := (secs.length : Int)) (by omega)
 generalize pkI at_ (secs.length : Int) = i1 at *
 rw [hh] at hP
 have h1 := pickI v 4 (by omega) (by omega)
 have b2 := pkI_lt v (n := 4) (by omega)
 unfold Oth vLay
 refine X_fnP mixedX Try.func14 rfl (by kernel_rfl) (Nat.le_of_ble_eq_true (by kernel_rfl)) (by kernel_rfl) rfl rfl ?_
 simp only [sl0, Nat.zero_add, Nat.reduceAdd]
 refine W_seq (W_region (WOps_WR ?_))
 refine X_run rfl (by repeat' (first | exact True.intro | apply And.intro | omega | exact fun _ => ⟨rfl, rfl⟩ | rfl)) (WR_nil (seqK_n ?_))
 refine W_seq (X_cpnil0 rfl ⟨k0, k1, k2, k3⟩ hne ?_)
 intro cap
 subst hne
 refine seqK_w (SS [sI 1 how, sI 2 at_, sI 3 v, sC 8 (pB 1), sC 9 (pB 2)] [none, some (.cells [.c (.f .nils), .c (.f .nils), .c (.f .nils), .c (.f .nils)]), some (.cells [uStr [], rStr pts, rSec secs, rLnk lnks])]) ?_ ?_
 ·
  refine X_weak rfl rfl rfl ?_ ?_ <;> repeat' (first|with_reducible (first|refine Wk.o (by constructor) ?_|refine q_and ?_ ?_|exact True.intro)|refine q_AgS rfl ?_ ?_|exact CLe.nil_tipS|exact CLe.nil_rowS|refine HLe.cells ?_ ?_|refine HLe.els ?_ ?_|refine SLe.cons ?_ ?_|exact (rfl : known _ = _)|with_reducible rfl|omega)
 repeat' (first
  |with_reducible (first|refine q_and ?_ ?_|exact True.intro|exact TkEq.nil _|refine Red.o (by constructor) ?_|refine blockK_o' rfl ?_|refine LoopX_e' rfl ?_|assumption)
  |((with_reducible apply q_call);first|refine X_pure (hA) rfl ?_|refine X_pure (hP) rfl ?_|refine X_pure (h1) rfl ?_)
  |((with_reducible apply q_CI);intro hbq;(try simp only [bq] at hbq);(try (exfalso;omega)))
  |with_reducible (first|refine W_seq ?_|refine W_block ?_)
  |((with_reducible apply q_cond);refine X_cond rfl ?_ ?_;all_goals (intro hbq;(try simp only [bq] at hbq);(try (exfalso;omega))))
  |refine Rex.o (by (with_reducible constructor);apply Eq.refl) ?_
  |(intro (hgq : (_ : Bool) = true);(try simp only [bq] at hgq))
  |(intro (hgq : (_ : Bool) = false);(try simp only [bq] at hgq))
  |((with_reducible apply q_VOk);exact fun _ => ⟨rfl,rfl⟩)|(intro _;exact rfl)|((with_reducible apply q_CRB);kernel_rfl)|((with_reducible apply q_bt);simp only [bq])|((with_reducible apply q_eqN);rfl)|((with_reducible apply q_FE);exact rfl)|with_reducible (first|exact isByte_wrap _|exact isByte_nat _)|(simp only [hgq,bq];done)|omega|(dsimp only;omega))
 refine WR_view 100 (.v (.c (uStr [⟨#[83, 48]⟩, ⟨#[83, 95, 57]⟩, ⟨#[]⟩, ⟨#[97, 45, 98]⟩]))) rfl ?_
 repeat' (first
  |with_reducible (first|refine q_and ?_ ?_|exact True.intro|exact TkEq.nil _|refine Red.o (by constructor) ?_|refine blockK_o' rfl ?_|refine LoopX_e' rfl ?_|assumption)
  |((with_reducible apply q_call);first|refine X_pure (hA) rfl ?_|refine X_pure (hP) rfl ?_|refine X_pure (h1) rfl ?_)
  |((with_reducible apply q_CI);intro hbq;(try simp only [bq] at hbq);(try (exfalso;omega)))
  |with_reducible (first|refine W_seq ?_|refine W_block ?_)
  |((with_reducible apply q_cond);refine X_cond rfl ?_ ?_;all_goals (intro hbq;(try simp only [bq] at hbq);(try (exfalso;omega))))
  |refine Rex.o (by (with_reducible constructor);apply Eq.refl) ?_
  |(intro (hgq : (_ : Bool) = true);(try simp only [bq] at hgq))
  |(intro (hgq : (_ : Bool) = false);(try simp only [bq] at hgq))
  |((with_reducible apply q_VOk);exact fun _ => ⟨rfl,rfl⟩)|(intro _;exact rfl)|((with_reducible apply q_CRB);kernel_rfl)|((with_reducible apply q_bt);simp only [bq])|((with_reducible apply q_eqN);rfl)|((with_reducible apply q_FE);exact rfl)|with_reducible (first|exact isByte_wrap _|exact isByte_nat _)|(simp only [hgq,bq];done)|omega|(dsimp only;omega))
 all_goals first | exact b2.2 | rfl
theorem oth6 (hs : SmallL L) (h0 : L.secs.length ≠ 0) (hh : pkI how 12 = 6) (hne : L.pts.length ≠ 0) : Oth L how at_ v { L with pts := L.pts ++ [([⟨#[80, 48]⟩, ⟨#[81]⟩, ⟨#[57]⟩] : List ByteArray).getD (pkI v 3).toNat ⟨#[]⟩] } := by
 obtain ⟨sts, pts, secs, lnks⟩ := L
 obtain ⟨k0, k1, k2, k3⟩ := hs
 dsimp only at *
 have hP := pickI how 12 (by omega) (by omega)
 have hA := pickI at_ (secs.length : Int) (by omega) (by omega)
 have b1 := pkI_lt at_ (n := (secs.length : Int)) (by omega)
 generalize pkI at_ (secs.length : Int) = i1 at *
 rw [hh] at hP
 have h1 := pickI v 3 (by omega) (by omega)
 have b2 := pkI_lt v (n := 3) (by omega)
 unfold Oth vLay
 refine X_fnP mixedX Try.func14 rfl (by kernel_rfl) (Nat.le_of_ble_eq_true (by kernel_rfl)) (by kernel_rfl) rfl rfl ?_
 simp only [sl0, Nat.zero_add, Nat.reduceAdd]
 refine W_seq (W_region (WOps_WR ?_))
 refine X_run rfl (by repeat' (first | exact True.intro | apply And.intro | omega | exact fun _ => ⟨rfl, rfl⟩ | rfl)) (WR_nil (seqK_n ?_))
 refine W_seq (X_cparr1 rfl ⟨k0, k1, k2, k3⟩ hne ?_)
 intro cap hcap
 refine seqK_w (SS [sI 1 how, sI 2 at_, sI 3 v, sC 8 (pB 1), sC 9 (pB 2)] [none, some (.cells [.c (.f .nils), .c (.f .nils), .c (.f .nils), .c (.f .nils)]), some (.cells [rStr sts, uStr pts, rSec secs, rLnk lnks])]) ?_ ?_
 ·refine X_tipC 3 2 1 (by decide) rfl rfl rfl rfl (by simp; omega) (fun _ => rfl) rfl ?_
  simp only [List.set_cons_succ, List.set_cons_zero]
  refine X_weak rfl rfl rfl ?_ ?_ <;> repeat' (first|with_reducible (first|refine Wk.o (by constructor) ?_|refine q_and ?_ ?_|exact True.intro)|refine q_AgS rfl ?_ ?_|exact CLe.nil_tipS|exact CLe.nil_rowS|refine HLe.cells ?_ ?_|refine HLe.els ?_ ?_|refine SLe.cons ?_ ?_|exact (rfl : known _ = _)|with_reducible rfl|omega)
 repeat' (first
  |with_reducible (first|refine q_and ?_ ?_|exact True.intro|exact TkEq.nil _|refine Red.o (by constructor) ?_|refine blockK_o' rfl ?_|refine LoopX_e' rfl ?_|assumption)
  |((with_reducible apply q_call);first|refine X_pure (hA) rfl ?_|refine X_pure (hP) rfl ?_|refine X_pure (h1) rfl ?_)
  |((with_reducible apply q_CI);intro hbq;(try simp only [bq] at hbq);(try (exfalso;omega)))
  |with_reducible (first|refine W_seq ?_|refine W_block ?_)
  |((with_reducible apply q_cond);refine X_cond rfl ?_ ?_;all_goals (intro hbq;(try simp only [bq] at hbq);(try (exfalso;omega))))
  |refine Rex.o (by (with_reducible constructor);apply Eq.refl) ?_
  |(intro (hgq : (_ : Bool) = true);(try simp only [bq] at hgq))
  |(intro (hgq : (_ : Bool) = false);(try simp only [bq] at hgq))
  |((with_reducible apply q_VOk);exact fun _ => ⟨rfl,rfl⟩)|(intro _;exact rfl)|((with_reducible apply q_CRB);kernel_rfl)|((with_reducible apply q_bt);simp only [bq])|((with_reducible apply q_eqN);rfl)|((with_reducible apply q_FE);exact rfl)|with_reducible (first|exact isByte_wrap _|exact isByte_nat _)|(simp only [hgq,bq];done)|omega|(dsimp only;omega))
 refine WR_view 112 (.v (.c (uStr [⟨#[80, 48]⟩, ⟨#[81]⟩, ⟨#[57]⟩]))) rfl ?_
 repeat' (first
  |with_reducible (first|refine q_and ?_ ?_|exact True.intro|exact TkEq.nil _|refine Red.o (by constructor) ?_|refine blockK_o' rfl ?_|refine LoopX_e' rfl ?_|assumption)
  |((with_reducible apply q_call);first|refine X_pure (hA) rfl ?_|refine X_pure (hP) rfl ?_|refine X_pure (h1) rfl ?_)
  |((with_reducible apply q_CI);intro hbq;(try simp only [bq] at hbq);(try (exfalso;omega)))
  |with_reducible (first|refine W_seq ?_|refine W_block ?_)
  |((with_reducible apply q_cond);refine X_cond rfl ?_ ?_;all_goals (intro hbq;(try simp only [bq] at hbq);(try (exfalso;omega))))
  |refine Rex.o (by (with_reducible constructor);apply Eq.refl) ?_
  |(intro (hgq : (_ : Bool) = true);(try simp only [bq] at hgq))
  |(intro (hgq : (_ : Bool) = false);(try simp only [bq] at hgq))
  |((with_reducible apply q_VOk);exact fun _ => ⟨rfl,rfl⟩)|(intro _;exact rfl)|((with_reducible apply q_CRB);kernel_rfl)|((with_reducible apply q_bt);simp only [bq])|((with_reducible apply q_eqN);rfl)|((with_reducible apply q_FE);exact rfl)|with_reducible (first|exact isByte_wrap _|exact isByte_nat _)|(simp only [hgq,bq];done)|omega|(dsimp only;omega))
 all_goals first | exact b2.2 | rfl
theorem oth6n (hs : SmallL L) (h0 : L.secs.length ≠ 0) (hh : pkI how 12 = 6) (hne : L.pts = []) : Oth L how at_ v { L with pts := L.pts ++ [([⟨#[80, 48]⟩, ⟨#[81]⟩, ⟨#[57]⟩] : List ByteArray).getD (pkI v 3).toNat ⟨#[]⟩] } := by
 obtain ⟨sts, pts, secs, lnks⟩ := L
 obtain ⟨k0, k1, k2, k3⟩ := hs
 dsimp only at *
 have hP := pickI how 12 (by omega) (by omega)
 have hA := pickI at_ (secs.length : Int) (by omega) (by omega)
 have b1 := pkI_lt at_ (n := (secs.length : Int)) (by omega)
 generalize pkI at_ (secs.length : Int) = i1 at *
 rw [hh] at hP
 have h1 := pickI v 3 (by omega) (by omega)
 have b2 := pkI_lt v (n := 3) (by omega)
 unfold Oth vLay
 refine X_fnP mixedX Try.func14 rfl (by kernel_rfl) (Nat.le_of_ble_eq_true (by kernel_rfl)) (by kernel_rfl) rfl rfl ?_
 simp only [sl0, Nat.zero_add, Nat.reduceAdd]
 refine W_seq (W_region (WOps_WR ?_))
 refine X_run rfl (by repeat' (first | exact True.intro | apply And.intro | omega | exact fun _ => ⟨rfl, rfl⟩ | rfl)) (WR_nil (seqK_n ?_))
 refine W_seq (X_cpnil1 rfl ⟨k0, k1, k2, k3⟩ hne ?_)
 intro cap
 subst hne
 refine seqK_w (SS [sI 1 how, sI 2 at_, sI 3 v, sC 8 (pB 1), sC 9 (pB 2)] [none, some (.cells [.c (.f .nils), .c (.f .nils), .c (.f .nils), .c (.f .nils)]), some (.cells [rStr sts, uStr [], rSec secs, rLnk lnks])]) ?_ ?_
 ·
  refine X_weak rfl rfl rfl ?_ ?_ <;> repeat' (first|with_reducible (first|refine Wk.o (by constructor) ?_|refine q_and ?_ ?_|exact True.intro)|refine q_AgS rfl ?_ ?_|exact CLe.nil_tipS|exact CLe.nil_rowS|refine HLe.cells ?_ ?_|refine HLe.els ?_ ?_|refine SLe.cons ?_ ?_|exact (rfl : known _ = _)|with_reducible rfl|omega)
 repeat' (first
  |with_reducible (first|refine q_and ?_ ?_|exact True.intro|exact TkEq.nil _|refine Red.o (by constructor) ?_|refine blockK_o' rfl ?_|refine LoopX_e' rfl ?_|assumption)
  |((with_reducible apply q_call);first|refine X_pure (hA) rfl ?_|refine X_pure (hP) rfl ?_|refine X_pure (h1) rfl ?_)
  |((with_reducible apply q_CI);intro hbq;(try simp only [bq] at hbq);(try (exfalso;omega)))
  |with_reducible (first|refine W_seq ?_|refine W_block ?_)
  |((with_reducible apply q_cond);refine X_cond rfl ?_ ?_;all_goals (intro hbq;(try simp only [bq] at hbq);(try (exfalso;omega))))
  |refine Rex.o (by (with_reducible constructor);apply Eq.refl) ?_
  |(intro (hgq : (_ : Bool) = true);(try simp only [bq] at hgq))
  |(intro (hgq : (_ : Bool) = false);(try simp only [bq] at hgq))
  |((with_reducible apply q_VOk);exact fun _ => ⟨rfl,rfl⟩)|(intro _;exact rfl)|((with_reducible apply q_CRB);kernel_rfl)|((with_reducible apply q_bt);simp only [bq])|((with_reducible apply q_eqN);rfl)|((with_reducible apply q_FE);exact rfl)|with_reducible (first|exact isByte_wrap _|exact isByte_nat _)|(simp only [hgq,bq];done)|omega|(dsimp only;omega))
 refine WR_view 112 (.v (.c (uStr [⟨#[80, 48]⟩, ⟨#[81]⟩, ⟨#[57]⟩]))) rfl ?_
 repeat' (first
  |with_reducible (first|refine q_and ?_ ?_|exact True.intro|exact TkEq.nil _|refine Red.o (by constructor) ?_|refine blockK_o' rfl ?_|refine LoopX_e' rfl ?_|assumption)
  |((with_reducible apply q_call);first|refine X_pure (hA) rfl ?_|refine X_pure (hP) rfl ?_|refine X_pure (h1) rfl ?_)
  |((with_reducible apply q_CI);intro hbq;(try simp only [bq] at hbq);(try (exfalso;omega)))
  |with_reducible (first|refine W_seq ?_|refine W_block ?_)
  |((with_reducible apply q_cond);refine X_cond rfl ?_ ?_;all_goals (intro hbq;(try simp only [bq] at hbq);(try (exfalso;omega))))
  |refine Rex.o (by (with_reducible constructor);apply Eq.refl) ?_
  |(intro (hgq : (_ : Bool) = true);(try simp only [bq] at hgq))
  |(intro (hgq : (_ : Bool) = false);(try simp only [bq] at hgq))
  |((with_reducible apply q_VOk);exact fun _ => ⟨rfl,rfl⟩)|(intro _;exact rfl)|((with_reducible apply q_CRB);kernel_rfl)|((with_reducible apply q_bt);simp only [bq])|((with_reducible apply q_eqN);rfl)|((with_reducible apply q_FE);exact rfl)|with_reducible (first|exact isByte_wrap _|exact isByte_nat _)|(simp only [hgq,bq];done)|omega|(dsimp only;omega))
 all_goals first | exact b2.2 | rfl
end
section
variable {L : Lay} {how at_ v : Int}
theorem oth11 (hs : SmallL L) (h0 : L.secs.length ≠ 0) (hh : pkI how 12 = 11) (hne : L.secs.length ≠ 0) : Oth L how at_ v { L with secs := L.secs ++ [L.secs.getD (pkI at_ L.secs.length).toNat sec0] } := by
 obtain ⟨sts, pts, secs, lnks⟩ := L
 obtain ⟨k0, k1, k2, k3⟩ := hs
 dsimp only at *
 have hP := pickI how 12 (by omega) (by omega)
 have hA := pickI at_ (secs.length : Int) (by omega) (by omega)
 have b1 := pkI_lt at_ (n := (secs.length : Int)) (by omega)
 generalize pkI at_ (secs.length : Int) = i1 at *
 rw [hh] at hP
 unfold Oth vLay
 refine X_fnP mixedX Try.func14 rfl (by kernel_rfl) (Nat.le_of_ble_eq_true (by kernel_rfl)) (by kernel_rfl) rfl rfl ?_
 simp only [sl0, Nat.zero_add, Nat.reduceAdd]
 refine W_seq (W_region (WOps_WR ?_))
 refine X_run rfl (by repeat' (first | exact True.intro | apply And.intro | omega | exact fun _ => ⟨rfl, rfl⟩ | rfl)) (WR_nil (seqK_n ?_))
 refine W_seq (X_cparr2 rfl ⟨k0, k1, k2, k3⟩ hne ?_)
 intro cap hcap
 refine seqK_w (SS [sI 1 how, sI 2 at_, sI 3 v, sC 8 (pB 1), sC 9 (pB 2)] [none, some (.cells [.c (.f .nils), .c (.f .nils), .c (.f .nils), .c (.f .nils)]), some (.cells [rStr sts, rStr pts, uSec secs, rLnk lnks])]) ?_ ?_
 ·refine X_tipC 3 2 2 (by decide) rfl rfl rfl rfl (by simp; omega) (fun _ => rfl) rfl ?_
  simp only [List.set_cons_succ, List.set_cons_zero]
  refine X_weak rfl rfl rfl ?_ ?_ <;> repeat' (first|with_reducible (first|refine Wk.o (by constructor) ?_|refine q_and ?_ ?_|exact True.intro)|refine q_AgS rfl ?_ ?_|exact CLe.nil_tipS|exact CLe.nil_rowS|refine HLe.cells ?_ ?_|refine HLe.els ?_ ?_|refine SLe.cons ?_ ?_|exact (rfl : known _ = _)|with_reducible rfl|omega)
 repeat' (first
  |with_reducible (first|refine q_and ?_ ?_|exact True.intro|exact TkEq.nil _|refine Red.o (by constructor) ?_|refine blockK_o' rfl ?_|refine LoopX_e' rfl ?_|assumption)
  |((with_reducible apply q_call);first|refine X_pure (hA) rfl ?_|refine X_pure (hP) rfl ?_)
  |((with_reducible apply q_CI);intro hbq;(try simp only [bq] at hbq);(try (exfalso;omega)))
  |with_reducible (first|refine W_seq ?_|refine W_block ?_)
  |((with_reducible apply q_cond);refine X_cond rfl ?_ ?_;all_goals (intro hbq;(try simp only [bq] at hbq);(try (exfalso;omega))))
  |refine Rex.o (by (with_reducible constructor);apply Eq.refl) ?_
  |(intro (hgq : (_ : Bool) = true);(try simp only [bq] at hgq))
  |(intro (hgq : (_ : Bool) = false);(try simp only [bq] at hgq))
  |((with_reducible apply q_VOk);exact fun _ => ⟨rfl,rfl⟩)|(intro _;exact rfl)|((with_reducible apply q_CRB);kernel_rfl)|((with_reducible apply q_bt);simp only [bq])|((with_reducible apply q_eqN);rfl)|((with_reducible apply q_FE);exact rfl)|with_reducible (first|exact isByte_wrap _|exact isByte_nat _)|(simp only [hgq,bq];done)|omega|(dsimp only;omega))
 all_goals rfl
theorem oth7 (hs : SmallL L) (h0 : L.secs.length ≠ 0) (hh : pkI how 12 = 7) (hne : L.lnks.length ≠ 0) : Oth L how at_ v { L with lnks := L.lnks ++ [⟨pkI at_ (L.secs.length + 1), pkI v 2, pkI (IntKind.i64.wrap (Int.tdiv v 2)) (L.secs.length + 1), pkI (IntKind.i64.wrap (Int.tdiv v 200)) 2, pkI (IntKind.i64.wrap (Int.tdiv v 400)) (L.pts.length + 2) - 1, pkI (IntKind.i64.wrap (Int.tdiv v 7)) 2⟩] } := by
 obtain ⟨sts, pts, secs, lnks⟩ := L
 obtain ⟨k0, k1, k2, k3⟩ := hs
 dsimp only at *
 have hP := pickI how 12 (by omega) (by omega)
 have hA := pickI at_ (secs.length : Int) (by omega) (by omega)
 have b1 := pkI_lt at_ (n := (secs.length : Int)) (by omega)
 generalize pkI at_ (secs.length : Int) = i1 at *
 rw [hh] at hP
 have h1 := pickI at_ ((secs.length : Int) + 1) (by omega) (by omega)
 have h2 := pickI v 2 (by omega) (by omega)
 have h3 := pickI (IntKind.i64.wrap (Int.tdiv v 2)) ((secs.length : Int) + 1) (by omega) (by omega)
 have h4 := pickI (IntKind.i64.wrap (Int.tdiv v 200)) 2 (by omega) (by omega)
 have h5 := pickI (IntKind.i64.wrap (Int.tdiv v 400)) ((pts.length : Int) + 2) (by omega) (by omega)
 have h6 := pickI (IntKind.i64.wrap (Int.tdiv v 7)) 2 (by omega) (by omega)
 have b5 := pkI_lt (IntKind.i64.wrap (Int.tdiv v 400)) (n := (pts.length : Int) + 2) (by omega)
 unfold Oth vLay
 refine X_fnP mixedX Try.func14 rfl (by kernel_rfl) (Nat.le_of_ble_eq_true (by kernel_rfl)) (by kernel_rfl) rfl rfl ?_
 simp only [sl0, Nat.zero_add, Nat.reduceAdd]
 refine W_seq (W_region (WOps_WR ?_))
 refine X_run rfl (by repeat' (first | exact True.intro | apply And.intro | omega | exact fun _ => ⟨rfl, rfl⟩ | rfl)) (WR_nil (seqK_n ?_))
 refine W_seq (X_cparr3 rfl ⟨k0, k1, k2, k3⟩ hne ?_)
 intro cap hcap
 refine seqK_w (SS [sI 1 how, sI 2 at_, sI 3 v, sC 8 (pB 1), sC 9 (pB 2)] [none, some (.cells [.c (.f .nils), .c (.f .nils), .c (.f .nils), .c (.f .nils)]), some (.cells [rStr sts, rStr pts, rSec secs, uLnk lnks])]) ?_ ?_
 ·refine X_tipC 3 2 3 (by decide) rfl rfl rfl rfl (by simp; omega) (fun _ => rfl) rfl ?_
  simp only [List.set_cons_succ, List.set_cons_zero]
  refine X_weak rfl rfl rfl ?_ ?_ <;> repeat' (first|with_reducible (first|refine Wk.o (by constructor) ?_|refine q_and ?_ ?_|exact True.intro)|refine q_AgS rfl ?_ ?_|exact CLe.nil_tipS|exact CLe.nil_rowS|refine HLe.cells ?_ ?_|refine HLe.els ?_ ?_|refine SLe.cons ?_ ?_|exact (rfl : known _ = _)|with_reducible rfl|omega)
 repeat' (first
  |with_reducible (first|refine q_and ?_ ?_|exact True.intro|exact TkEq.nil _|refine Red.o (by constructor) ?_|refine blockK_o' rfl ?_|refine LoopX_e' rfl ?_|assumption)
  |((with_reducible apply q_call);first|refine X_pure (hA) rfl ?_|refine X_pure (hP) rfl ?_|refine X_pure (h1) rfl ?_|refine X_pure (h2) rfl ?_|refine X_pure (h3) rfl ?_|refine X_pure (h4) rfl ?_|refine X_pure (h5) rfl ?_|refine X_pure (h6) rfl ?_)
  |((with_reducible apply q_CI);intro hbq;(try simp only [bq] at hbq);(try (exfalso;omega)))
  |with_reducible (first|refine W_seq ?_|refine W_block ?_)
  |((with_reducible apply q_cond);refine X_cond rfl ?_ ?_;all_goals (intro hbq;(try simp only [bq] at hbq);(try (exfalso;omega))))
  |refine RexQ.o (by (with_reducible constructor);apply Eq.refl) ?_
  |refine Rex.o (by (with_reducible constructor);apply Eq.refl) ?_
  |(intro (hgq : (_ : Bool) = true);(try simp only [bq] at hgq))
  |(intro (hgq : (_ : Bool) = false);(try simp only [bq] at hgq))
  |((with_reducible apply q_VOk);exact fun _ => ⟨rfl,rfl⟩)|(intro _;exact rfl)|((with_reducible apply q_CRB);kernel_rfl)|((with_reducible apply q_bt);simp only [bq])|((with_reducible apply q_eqN);rfl)|((with_reducible apply q_FE);exact rfl)|with_reducible (first|exact isByte_wrap _|exact isByte_nat _)|(simp only [hgq,bq];done)|omega|(dsimp only;omega))
 all_goals rfl
theorem oth7n (hs : SmallL L) (h0 : L.secs.length ≠ 0) (hh : pkI how 12 = 7) (hne : L.lnks = []) : Oth L how at_ v { L with lnks := L.lnks ++ [⟨pkI at_ (L.secs.length + 1), pkI v 2, pkI (IntKind.i64.wrap (Int.tdiv v 2)) (L.secs.length + 1), pkI (IntKind.i64.wrap (Int.tdiv v 200)) 2, pkI (IntKind.i64.wrap (Int.tdiv v 400)) (L.pts.length + 2) - 1, pkI (IntKind.i64.wrap (Int.tdiv v 7)) 2⟩] } := by
 obtain ⟨sts, pts, secs, lnks⟩ := L
 obtain ⟨k0, k1, k2, k3⟩ := hs
 dsimp only at *
 have hP := pickI how 12 (by omega) (by omega)
 have hA := pickI at_ (secs.length : Int) (by omega) (by omega)
 have b1 := pkI_lt at_ (n := (secs.length : Int)) (by omega)
 generalize pkI at_ (secs.length : Int) = i1 at *
 rw [hh] at hP
 have h1 := pickI at_ ((secs.length : Int) + 1) (by omega) (by omega)
 have h2 := pickI v 2 (by omega) (by omega)
 have h3 := pickI (IntKind.i64.wrap (Int.tdiv v 2)) ((secs.length : Int) + 1) (by omega) (by omega)
 have h4 := pickI (IntKind.i64.wrap (Int.tdiv v 200)) 2 (by omega) (by omega)
 have h5 := pickI (IntKind.i64.wrap (Int.tdiv v 400)) ((pts.length : Int) + 2) (by omega) (by omega)
 have h6 := pickI (IntKind.i64.wrap (Int.tdiv v 7)) 2 (by omega) (by omega)
 have b5 := pkI_lt (IntKind.i64.wrap (Int.tdiv v 400)) (n := (pts.length : Int) + 2) (by omega)
 unfold Oth vLay
 refine X_fnP mixedX Try.func14 rfl (by kernel_rfl) (Nat.le_of_ble_eq_true (by kernel_rfl)) (by kernel_rfl) rfl rfl ?_
 simp only [sl0, Nat.zero_add, Nat.reduceAdd]
 refine W_seq (W_region (WOps_WR ?_))
 refine X_run rfl (by repeat' (first | exact True.intro | apply And.intro | omega | exact fun _ => ⟨rfl, rfl⟩ | rfl)) (WR_nil (seqK_n ?_))
 refine W_seq (X_cpnil3 rfl ⟨k0, k1, k2, k3⟩ hne ?_)
 intro cap
 subst hne
 refine seqK_w (SS [sI 1 how, sI 2 at_, sI 3 v, sC 8 (pB 1), sC 9 (pB 2)] [none, some (.cells [.c (.f .nils), .c (.f .nils), .c (.f .nils), .c (.f .nils)]), some (.cells [rStr sts, rStr pts, rSec secs, uLnk []])]) ?_ ?_
 ·
  refine X_weak rfl rfl rfl ?_ ?_ <;> repeat' (first|with_reducible (first|refine Wk.o (by constructor) ?_|refine q_and ?_ ?_|exact True.intro)|refine q_AgS rfl ?_ ?_|exact CLe.nil_tipS|exact CLe.nil_rowS|refine HLe.cells ?_ ?_|refine HLe.els ?_ ?_|refine SLe.cons ?_ ?_|exact (rfl : known _ = _)|with_reducible rfl|omega)
 repeat' (first
  |with_reducible (first|refine q_and ?_ ?_|exact True.intro|exact TkEq.nil _|refine Red.o (by constructor) ?_|refine blockK_o' rfl ?_|refine LoopX_e' rfl ?_|assumption)
  |((with_reducible apply q_call);first|refine X_pure (hA) rfl ?_|refine X_pure (hP) rfl ?_|refine X_pure (h1) rfl ?_|refine X_pure (h2) rfl ?_|refine X_pure (h3) rfl ?_|refine X_pure (h4) rfl ?_|refine X_pure (h5) rfl ?_|refine X_pure (h6) rfl ?_)
  |((with_reducible apply q_CI);intro hbq;(try simp only [bq] at hbq);(try (exfalso;omega)))
  |with_reducible (first|refine W_seq ?_|refine W_block ?_)
  |((with_reducible apply q_cond);refine X_cond rfl ?_ ?_;all_goals (intro hbq;(try simp only [bq] at hbq);(try (exfalso;omega))))
  |refine RexQ.o (by (with_reducible constructor);apply Eq.refl) ?_
  |refine Rex.o (by (with_reducible constructor);apply Eq.refl) ?_
  |(intro (hgq : (_ : Bool) = true);(try simp only [bq] at hgq))
  |(intro (hgq : (_ : Bool) = false);(try simp only [bq] at hgq))
  |((with_reducible apply q_VOk);exact fun _ => ⟨rfl,rfl⟩)|(intro _;exact rfl)|((with_reducible apply q_CRB);kernel_rfl)|((with_reducible apply q_bt);simp only [bq])|((with_reducible apply q_eqN);rfl)|((with_reducible apply q_FE);exact rfl)|with_reducible (first|exact isByte_wrap _|exact isByte_nat _)|(simp only [hgq,bq];done)|omega|(dsimp only;omega))
 all_goals rfl
theorem oth8 (hs : SmallL L) (h0 : L.secs.length ≠ 0) (hh : pkI how 12 = 8) (hne : L.lnks.length ≠ 0) : Oth L how at_ v { L with lnks := (L.lnks.set (pkI at_ L.lnks.length).toNat { L.lnks.getD (pkI at_ L.lnks.length).toNat lnk0 with pt := pkI v (L.pts.length + 3) - 2 }).set (pkI at_ L.lnks.length).toNat { (L.lnks.set (pkI at_ L.lnks.length).toNat { L.lnks.getD (pkI at_ L.lnks.length).toNat lnk0 with pt := pkI v (L.pts.length + 3) - 2 }).getD (pkI at_ L.lnks.length).toNat lnk0 with ps := pkI (IntKind.i64.wrap (Int.tdiv v 9)) 3 } } := by
 obtain ⟨sts, pts, secs, lnks⟩ := L
 obtain ⟨k0, k1, k2, k3⟩ := hs
 dsimp only at *
 have hP := pickI how 12 (by omega) (by omega)
 have hA := pickI at_ (secs.length : Int) (by omega) (by omega)
 have b1 := pkI_lt at_ (n := (secs.length : Int)) (by omega)
 generalize pkI at_ (secs.length : Int) = i1 at *
 rw [hh] at hP
 have hK := pickI at_ (lnks.length : Int) (by omega) (by omega)
 have bK := pkI_lt at_ (n := (lnks.length : Int)) (by omega)
 generalize pkI at_ (lnks.length : Int) = j at *
 have hi : j.toNat < lnks.length := by omega
 have s2 : ∀ (a x : Lnk) (r : List Lnk), ((lnks.set j.toNat a) ++ r).set j.toNat x = (lnks.set j.toNat a).set j.toNat x ++ r := fun a x r => List.set_append_left _ _ (by rw [List.length_set]; exact hi)
 have g2 : ∀ (a : Lnk) (r : List Lnk), ((lnks.set j.toNat a) ++ r).getD j.toNat lnk0 = (lnks.set j.toNat a).getD j.toNat lnk0 := fun a r => getD_app (by rw [List.length_set]; exact hi)
 have h1 := pickI v ((pts.length : Int) + 3) (by omega) (by omega)
 have b2 := pkI_lt v (n := (pts.length : Int) + 3) (by omega)
 have h2 := pickI (IntKind.i64.wrap (Int.tdiv v 9)) 3 (by omega) (by omega)
 unfold Oth vLay
 refine X_fnP mixedX Try.func14 rfl (by kernel_rfl) (Nat.le_of_ble_eq_true (by kernel_rfl)) (by kernel_rfl) rfl rfl ?_
 simp only [sl0, Nat.zero_add, Nat.reduceAdd]
 refine W_seq (W_region (WOps_WR ?_))
 refine X_run rfl (by repeat' (first | exact True.intro | apply And.intro | omega | exact fun _ => ⟨rfl, rfl⟩ | rfl)) (WR_nil (seqK_n ?_))
 refine W_seq (X_cparr3 rfl ⟨k0, k1, k2, k3⟩ hne ?_)
 intro cap hcap
 refine seqK_w (SS [sI 1 how, sI 2 at_, sI 3 v, sC 8 (pB 1), sC 9 (pB 2)] [none, some (.cells [.c (.f .nils), .c (.f .nils), .c (.f .nils), .c (.f .nils)]), some (.cells [rStr sts, rStr pts, rSec secs, .c (.arr 3 0 lnks.length cap)]), some (.els 6 fLnk vLnk mLnk lnk0 (lnks ++ List.replicate (cap - lnks.length) lnk0))]) ?_ ?_
 ·
  refine X_weak rfl rfl rfl ?_ ?_ <;> repeat' (first|with_reducible (first|refine Wk.o (by constructor) ?_|refine q_and ?_ ?_|exact True.intro)|refine q_AgS rfl ?_ ?_|exact CLe.nil_tipS|exact CLe.nil_rowS|refine HLe.cells ?_ ?_|refine HLe.els ?_ ?_|refine SLe.cons ?_ ?_|exact (rfl : known _ = _)|with_reducible rfl|omega)
 repeat' (first
  |with_reducible (first|refine q_and ?_ ?_|exact True.intro|exact TkEq.nil _|refine Red.o (by constructor) ?_|refine blockK_o' rfl ?_|refine LoopX_e' rfl ?_|assumption)
  |((with_reducible apply q_call);first|refine X_pure (hA) rfl ?_|refine X_pure (hP) rfl ?_|refine X_pure (hK) rfl ?_|refine X_pure (h1) rfl ?_|refine X_pure (h2) rfl ?_)
  |((with_reducible apply stop35))
  |((with_reducible apply q_CI);intro hbq;(try simp only [bq] at hbq);(try (exfalso;omega)))
  |with_reducible (first|refine W_seq ?_|refine W_block ?_)
  |((with_reducible apply q_cond);refine X_cond rfl ?_ ?_;all_goals (intro hbq;(try simp only [bq] at hbq);(try (exfalso;omega))))
  |refine RexQ.o (by (with_reducible constructor);apply Eq.refl) ?_
  |refine Rex.o (by (with_reducible constructor);apply Eq.refl) ?_
  |(intro (hgq : (_ : Bool) = true);(try simp only [bq] at hgq))
  |(intro (hgq : (_ : Bool) = false);(try simp only [bq] at hgq))
  |((with_reducible apply q_VOk);exact fun _ => ⟨rfl,rfl⟩)|(intro _;exact rfl)|((with_reducible apply q_CRB);kernel_rfl)|((with_reducible apply q_bt);simp only [bq])|((with_reducible apply q_eqN);rfl)|((with_reducible apply q_FE);exact rfl)|with_reducible (first|exact isByte_wrap _|exact isByte_nat _)|(simp only [hgq,bq];done)|omega|(dsimp only;omega))
 all_goals first | ((show (_ : Int) < _); simp; omega) | rfl | skip
 ·refine Stop.mk ?_
  refine W_region (WOps_WR ?_)
  simp only [List.set_append_left _ _ hi, getD_app hi, s2, g2]
  refine X_frzC 3 2 3 (by decide) rfl rfl rfl (by simp) hcap (fun _ => rfl) ?_
  simp only [List.set_cons_succ, List.set_cons_zero]
  repeat' (first
   |with_reducible (first|refine q_and ?_ ?_|exact True.intro|exact TkEq.nil _|refine Red.o (by constructor) ?_|refine blockK_o' rfl ?_|refine LoopX_e' rfl ?_|assumption)
   |((with_reducible apply q_CI);intro hbq;(try simp only [bq] at hbq);(try (exfalso;omega)))
   |with_reducible (first|refine W_seq ?_|refine W_block ?_)
   |((with_reducible apply q_cond);refine X_cond rfl ?_ ?_;all_goals (intro hbq;(try simp only [bq] at hbq);(try (exfalso;omega))))
   |refine Rex.o (by (with_reducible constructor);apply Eq.refl) ?_
   |(intro (hgq : (_ : Bool) = true);(try simp only [bq] at hgq))
   |(intro (hgq : (_ : Bool) = false);(try simp only [bq] at hgq))
   |((with_reducible apply q_VOk);exact fun _ => ⟨rfl,rfl⟩)|(intro _;exact rfl)|((with_reducible apply q_CRB);kernel_rfl)|((with_reducible apply q_bt);simp only [bq])|((with_reducible apply q_eqN);rfl)|((with_reducible apply q_FE);exact rfl)|with_reducible (first|exact isByte_wrap _|exact isByte_nat _)|(simp only [hgq,bq];done)|omega|(dsimp only;omega))
  all_goals rfl
theorem oth10 (hs : SmallL L) (h0 : L.secs.length ≠ 0) (hh : pkI how 12 = 10) (hne : L.lnks.length ≠ 0) : Oth L how at_ v { L with lnks := (L.lnks.set (pkI at_ L.lnks.length).toNat { L.lnks.getD (pkI at_ L.lnks.length).toNat lnk0 with ae := pkI v 3 }).set (pkI at_ L.lnks.length).toNat { (L.lnks.set (pkI at_ L.lnks.length).toNat { L.lnks.getD (pkI at_ L.lnks.length).toNat lnk0 with ae := pkI v 3 }).getD (pkI at_ L.lnks.length).toNat lnk0 with b := pkI (IntKind.i64.wrap (Int.tdiv v 3)) (L.secs.length + 1) } } := by
 obtain ⟨sts, pts, secs, lnks⟩ := L
 obtain ⟨k0, k1, k2, k3⟩ := hs
 dsimp only at *
 have hP := pickI how 12 (by omega) (by omega)
 have hA := pickI at_ (secs.length : Int) (by omega) (by omega)
 have b1 := pkI_lt at_ (n := (secs.length : Int)) (by omega)
 generalize pkI at_ (secs.length : Int) = i1 at *
 rw [hh] at hP
 have hK := pickI at_ (lnks.length : Int) (by omega) (by omega)
 have bK := pkI_lt at_ (n := (lnks.length : Int)) (by omega)
 generalize pkI at_ (lnks.length : Int) = j at *
 have hi : j.toNat < lnks.length := by omega
 have s2 : ∀ (a x : Lnk) (r : List Lnk), ((lnks.set j.toNat a) ++ r).set j.toNat x = (lnks.set j.toNat a).set j.toNat x ++ r := fun a x r => List.set_append_left _ _ (by rw [List.length_set]; exact hi)
 have g2 : ∀ (a : Lnk) (r : List Lnk), ((lnks.set j.toNat a) ++ r).getD j.toNat lnk0 = (lnks.set j.toNat a).getD j.toNat lnk0 := fun a r => getD_app (by rw [List.length_set]; exact hi)
 have h1 := pickI v 3 (by omega) (by omega)
 have h2 := pickI (IntKind.i64.wrap (Int.tdiv v 3)) ((secs.length : Int) + 1) (by omega) (by omega)
 unfold Oth vLay
 refine X_fnP mixedX Try.func14 rfl (by kernel_rfl) (Nat.le_of_ble_eq_true (by kernel_rfl)) (by kernel_rfl) rfl rfl ?_
 simp only [sl0, Nat.zero_add, Nat.reduceAdd]
 refine W_seq (W_region (WOps_WR ?_))
 refine X_run rfl (by repeat' (first | exact True.intro | apply And.intro | omega | exact fun _ => ⟨rfl, rfl⟩ | rfl)) (WR_nil (seqK_n ?_))
 refine W_seq (X_cparr3 rfl ⟨k0, k1, k2, k3⟩ hne ?_)
 intro cap hcap
 refine seqK_w (SS [sI 1 how, sI 2 at_, sI 3 v, sC 8 (pB 1), sC 9 (pB 2)] [none, some (.cells [.c (.f .nils), .c (.f .nils), .c (.f .nils), .c (.f .nils)]), some (.cells [rStr sts, rStr pts, rSec secs, .c (.arr 3 0 lnks.length cap)]), some (.els 6 fLnk vLnk mLnk lnk0 (lnks ++ List.replicate (cap - lnks.length) lnk0))]) ?_ ?_
 ·
  refine X_weak rfl rfl rfl ?_ ?_ <;> repeat' (first|with_reducible (first|refine Wk.o (by constructor) ?_|refine q_and ?_ ?_|exact True.intro)|refine q_AgS rfl ?_ ?_|exact CLe.nil_tipS|exact CLe.nil_rowS|refine HLe.cells ?_ ?_|refine HLe.els ?_ ?_|refine SLe.cons ?_ ?_|exact (rfl : known _ = _)|with_reducible rfl|omega)
 repeat' (first
  |with_reducible (first|refine q_and ?_ ?_|exact True.intro|exact TkEq.nil _|refine Red.o (by constructor) ?_|refine blockK_o' rfl ?_|refine LoopX_e' rfl ?_|assumption)
  |((with_reducible apply q_call);first|refine X_pure (hA) rfl ?_|refine X_pure (hP) rfl ?_|refine X_pure (hK) rfl ?_|refine X_pure (h1) rfl ?_|refine X_pure (h2) rfl ?_)
  |((with_reducible apply stop35))
  |((with_reducible apply q_CI);intro hbq;(try simp only [bq] at hbq);(try (exfalso;omega)))
  |with_reducible (first|refine W_seq ?_|refine W_block ?_)
  |((with_reducible apply q_cond);refine X_cond rfl ?_ ?_;all_goals (intro hbq;(try simp only [bq] at hbq);(try (exfalso;omega))))
  |refine RexQ.o (by (with_reducible constructor);apply Eq.refl) ?_
  |refine Rex.o (by (with_reducible constructor);apply Eq.refl) ?_
  |(intro (hgq : (_ : Bool) = true);(try simp only [bq] at hgq))
  |(intro (hgq : (_ : Bool) = false);(try simp only [bq] at hgq))
  |((with_reducible apply q_VOk);exact fun _ => ⟨rfl,rfl⟩)|(intro _;exact rfl)|((with_reducible apply q_CRB);kernel_rfl)|((with_reducible apply q_bt);simp only [bq])|((with_reducible apply q_eqN);rfl)|((with_reducible apply q_FE);exact rfl)|with_reducible (first|exact isByte_wrap _|exact isByte_nat _)|(simp only [hgq,bq];done)|omega|(dsimp only;omega))
 all_goals first | ((show (_ : Int) < _); simp; omega) | rfl | skip
 ·refine Stop.mk ?_
  refine W_region (WOps_WR ?_)
  simp only [List.set_append_left _ _ hi, getD_app hi, s2, g2]
  refine X_frzC 3 2 3 (by decide) rfl rfl rfl (by simp) hcap (fun _ => rfl) ?_
  simp only [List.set_cons_succ, List.set_cons_zero]
  repeat' (first
   |with_reducible (first|refine q_and ?_ ?_|exact True.intro|exact TkEq.nil _|refine Red.o (by constructor) ?_|refine blockK_o' rfl ?_|refine LoopX_e' rfl ?_|assumption)
   |((with_reducible apply q_CI);intro hbq;(try simp only [bq] at hbq);(try (exfalso;omega)))
   |with_reducible (first|refine W_seq ?_|refine W_block ?_)
   |((with_reducible apply q_cond);refine X_cond rfl ?_ ?_;all_goals (intro hbq;(try simp only [bq] at hbq);(try (exfalso;omega))))
   |refine Rex.o (by (with_reducible constructor);apply Eq.refl) ?_
   |(intro (hgq : (_ : Bool) = true);(try simp only [bq] at hgq))
   |(intro (hgq : (_ : Bool) = false);(try simp only [bq] at hgq))
   |((with_reducible apply q_VOk);exact fun _ => ⟨rfl,rfl⟩)|(intro _;exact rfl)|((with_reducible apply q_CRB);kernel_rfl)|((with_reducible apply q_bt);simp only [bq])|((with_reducible apply q_eqN);rfl)|((with_reducible apply q_FE);exact rfl)|with_reducible (first|exact isByte_wrap _|exact isByte_nat _)|(simp only [hgq,bq];done)|omega|(dsimp only;omega))
  all_goals rfl
theorem othL (hs : SmallL L) (h0 : L.secs.length ≠ 0) (hh : pkI how 12 = 8 ∨ pkI how 12 = 9 ∨ pkI how 12 = 10) (hne : L.lnks.length = 0) : Oth L how at_ v L := by
 obtain ⟨sts, pts, secs, lnks⟩ := L
 obtain ⟨k0, k1, k2, k3⟩ := hs
 dsimp only at *
 have hP := pickI how 12 (by omega) (by omega)
 have hA := pickI at_ (secs.length : Int) (by omega) (by omega)
 have b1 := pkI_lt at_ (n := (secs.length : Int)) (by omega)
 generalize pkI at_ (secs.length : Int) = i1 at *
 generalize pkI how 12 = h at *
 unfold Oth vLay
 refine X_fnP mixedX Try.func14 rfl (by kernel_rfl) (Nat.le_of_ble_eq_true (by kernel_rfl)) (by kernel_rfl) rfl rfl ?_
 simp only [sl0, Nat.zero_add, Nat.reduceAdd]
 repeat' (first
  |with_reducible (first|refine q_and ?_ ?_|exact True.intro|exact TkEq.nil _|refine Red.o (by constructor) ?_|refine blockK_o' rfl ?_|refine LoopX_e' rfl ?_|assumption)
  |((with_reducible apply q_call);first|refine X_pure (hA) rfl ?_|refine X_pure (hP) rfl ?_)
  |((with_reducible apply q_CI);intro hbq;(try simp only [bq] at hbq);(try (exfalso;omega)))
  |with_reducible (first|refine W_seq ?_|refine W_block ?_)
  |((with_reducible apply q_cond);refine X_cond rfl ?_ ?_;all_goals (intro hbq;(try simp only [bq] at hbq);(try (exfalso;omega))))
  |refine Rex.o (by (with_reducible constructor);apply Eq.refl) ?_
  |(intro (hgq : (_ : Bool) = true);(try simp only [bq] at hgq))
  |(intro (hgq : (_ : Bool) = false);(try simp only [bq] at hgq))
  |((with_reducible apply q_VOk);exact fun _ => ⟨rfl,rfl⟩)|(intro _;exact rfl)|((with_reducible apply q_CRB);kernel_rfl)|((with_reducible apply q_bt);simp only [bq])|((with_reducible apply q_eqN);rfl)|((with_reducible apply q_FE);exact rfl)|with_reducible (first|exact isByte_wrap _|exact isByte_nat _)|(simp only [hgq,bq];done)|omega|(dsimp only;omega))
 all_goals rfl
theorem oth0' (hs : SmallL L) (h0 : L.secs.length = 0) : Oth L how at_ v L := by
 obtain ⟨sts, pts, secs, lnks⟩ := L
 obtain ⟨k0, k1, k2, k3⟩ := hs
 dsimp only at *
 unfold Oth vLay
 refine X_fnP mixedX Try.func14 rfl (by kernel_rfl) (Nat.le_of_ble_eq_true (by kernel_rfl)) (by kernel_rfl) rfl rfl ?_
 simp only [sl0, Nat.zero_add, Nat.reduceAdd]
 repeat' (first
  |with_reducible (first|refine q_and ?_ ?_|exact True.intro|exact TkEq.nil _|refine Red.o (by constructor) ?_|refine blockK_o' rfl ?_|refine LoopX_e' rfl ?_|assumption)
  |((with_reducible apply q_CI);intro hbq;(try simp only [bq] at hbq);(try (exfalso;omega)))
  |with_reducible (first|refine W_seq ?_|refine W_block ?_)
  |((with_reducible apply q_cond);refine X_cond rfl ?_ ?_;all_goals (intro hbq;(try simp only [bq] at hbq);(try (exfalso;omega))))
  |refine Rex.o (by (with_reducible constructor);apply Eq.refl) ?_
  |(intro (hgq : (_ : Bool) = true);(try simp only [bq] at hgq))
  |(intro (hgq : (_ : Bool) = false);(try simp only [bq] at hgq))
  |((with_reducible apply q_VOk);exact fun _ => ⟨rfl,rfl⟩)|(intro _;exact rfl)|((with_reducible apply q_CRB);kernel_rfl)|((with_reducible apply q_bt);simp only [bq])|((with_reducible apply q_eqN);rfl)|((with_reducible apply q_FE);exact rfl)|with_reducible (first|exact isByte_wrap _|exact isByte_nat _)|(simp only [hgq,bq];done)|omega|(dsimp only;omega))
 all_goals rfl
end
theorem setAt_eq : ∀ (ds cs : List CVal) (o : Nat), o + ds.length ≤ cs.length → setAt cs o ds = cs.take o ++ ds ++ cs.drop (o + ds.length)
 | [], cs, o, _ => by simp [setAt]
 | d :: ds, cs, o, h => by
  rw [List.length_cons] at h
  rw [setAt, setAt_eq ds _ _ (by rw [List.length_set]; omega)]
  have h1 : o < cs.length := by omega
  have e : cs.set o d = cs.take o ++ d :: cs.drop (o + 1) := by
   rw [List.set_eq_take_append_cons_drop, if_pos h1]
  have h2 : (cs.take o).length = o := by rw [List.length_take]; omega
  have e1 : (cs.set o d).take (o + 1) = cs.take o ++ [d] := by
   rw [e, List.take_append, h2, List.take_of_length_le (by omega)]
   simp
  have e2 : (cs.set o d).drop (o + 1 + ds.length) = cs.drop (o + (ds.length + 1)) := by
   rw [e, List.drop_append, h2, List.drop_eq_nil_of_le (by omega), show o + 1 + ds.length - o = ds.length + 1 by omega, List.drop_succ_cons, List.drop_drop]
   simp [show o + 1 + ds.length = o + (ds.length + 1) by omega]
  rw [e1, e2]
  simp
theorem setAt_els {α : Type} {F : α → List FVal} {z : Nat} (hF : ∀ x, (F x).length = z) (l m : List α) (i : Nat) (h : i + m.length ≤ l.length) : setAt ((l.flatMap F).map CVal.f) (i * z) ((m.flatMap F).map CVal.f) = ((l.take i ++ m ++ l.drop (i + m.length)).flatMap F).map CVal.f := by
 have hm := flat_f hF m
 have hl := flat_f hF l
 have hz : i * z + m.length * z = (i + m.length) * z := (Nat.add_mul _ _ _).symm
 have hle : (i + m.length) * z ≤ l.length * z := Nat.mul_le_mul_right _ h
 rw [setAt_eq _ _ _ (by rw [List.length_map, List.length_map]; omega)]
 have e1 : (l.flatMap F).take (i * z) = (l.take i).flatMap F := by
  have := flatMap_take hF (l.take i) (l.drop i)
  rw [List.take_append_drop, List.length_take, Nat.min_eq_left (by omega)] at this
  exact this
 have e2 : (l.flatMap F).drop ((i + m.length) * z) = (l.drop (i + m.length)).flatMap F := flatMap_dropB F z hF l _
 rw [List.length_map, hm, hz, ← List.map_take, ← List.map_drop, e1, e2]
 simp
section
variable {P : Program} {ops : Array Oper} {s : St} {rest : List Oper} {d : Option Tmp} {ty : TypeId} {pos : String} {af : Array Edge} {R : Rg}
theorem R_slice_arrL {t : TypeId} {x lo : Operand} {z b off n cap : Nat} {a : Int} (hz : elemSz P t = some z) (hx : s.ev x = .c (.arr b off n cap)) (hh : bnd s (some lo) 0 = some a) (h0 : 0 ≤ a) (h1 : a ≤ n) (h2 : n ≤ cap)
  (h : ∀ o', (a < n → o' = off + a.toNat * z) → o' + ((n : Int) - a).toNat * z ≤ off + n * z → WR P ops rest (s.put d (.c (.arr b o' ((n : Int) - a).toNat (cap - a.toNat)))) (R.push .q0)) :
  WR P ops (⟨d, .slice t x (some lo) none none, ty, pos, af, none⟩ :: rest) s R := by
 refine WR_op (wantA_none rfl) rfl ?_ (clOf0 rfl rfl rfl) (h (if (cap : Int) = a then off else off + a.toNat * z) (fun hl => by rw [if_neg (by omega)]) ?_)
 ·show aSlice P s _ t x (some lo) none none = _
  unfold aSlice
  rw [hz, hx]
  have e : (AVal.c (CVal.arr b off n cap)).dem = .c (.arr b off n cap) := rfl
  rw [e]
  simp only [hh]
  have h4 : bnd s none (n : Int) = some (n : Int) := rfl
  rw [h4]
  simp only
  rw [if_pos ⟨h0, h1, by omega⟩]
 ·split
  ·rw [show ((n : Int) - a).toNat = 0 by omega]; omega
  ·have : (n : Int).toNat = n := Int.toNat_natCast n
   have e : a.toNat + ((n : Int) - a).toNat = n := by omega
   have : a.toNat * z + ((n : Int) - a).toNat * z = n * z := by rw [← Nat.add_mul, e]
   omega
theorem aAppend_arr {t tx : TypeId} {x y : Operand} {b off n cap : Nat} (hx : s.ev x = .c (.arr b off n cap)) : aAppend P s t tx x y = none := by
 have hh : holds s x = none := by unfold holds; split <;> simp [hx]
 unfold aAppend
 split
 ·split
  ·rw [hh, hx]
  ·rfl
 ·rfl
theorem R_append_into {t tx : TypeId} {x y : Operand} {z b off n cap m : Nat} {fs : List FVal} {cells : List CVal} {fp : List Nat} (hz : elemSz P t = some z) (hx : s.ev x = .c (.arr b off n cap)) (hs : srcCells P s z tx y = some (m, fs)) (hb : s.H[b]? = some (some cells)) (h1 : n + m ≤ cap) (h2 : off + (n + m) * z ≤ cells.length) (hfp : arrB (s.ev y).dem = fp) {H' : HB} (hH : hset s.H b (setAt cells (off + n * z) (fs.map CVal.f)) = H')
  (h : WR P ops rest ((s.setH H').put d (.c (.arr b off (n + m) cap))) (R.push ⟨b :: fp, [], [b], none, false, false⟩)) : WR P ops (⟨d, .call { callee := .builtin .append, args := #[x, y], argTypes := #[t, tx] }, ty, pos, af, none⟩ :: rest) s R := by
 refine WR_chg (x := .c (.arr b off (n + m) cap)) (c := { blk := some (b, setAt cells (off + n * z) (fs.map CVal.f)) }) (wantA_none rfl) rfl ?_ (by rw [← hfp]; simp only [clOf, fpOf, frOf, hx, AVal.dem, CVal.dem, arrB]; rfl) ?_ h
 ·show aApp P s t tx x y = _
  unfold aApp
  rw [aAppend_arr hx]
  show aInto P s t tx x y = _
  unfold aInto
  rw [hz, hx]
  show (match srcCells P s z tx y, s.H[b]? with | _, _ => _) = _
  rw [hs, hb]
  show (if _ then _ else _) = _
  rw [if_pos ⟨h1, h2⟩]
 ·rw [← hH]
  rfl
end
theorem X_into {P : Program} {ops : Array Oper} {rest : List Oper} {d : Nat} {ty : TypeId} {pos : String} {af : Array Edge} {R : Rg} {l : SL} {H : SH} {t tx : TypeId} {x y : Operand} {z b i cap cap2 o1 k : Nat} {α : Type} {F : α → List FVal} {V : α → List SC} {M : List FVal → Option α} {e : α} {ls : List α} (m : List α)
  (hz : elemSz P t = some z) (hz2 : elemSz P tx = some z) (hx : evU l x = some (.c (.c (.arr b 0 i cap)))) (hy : evU l y = some (.c (.c (.arr b o1 k cap2)))) (hH : nth H b = some (some (.els z F V M e ls))) (hF : ∀ x, (F x).length = z) (hfz : ∀ y, fzs ((F y).map CVal.f) = some (F y)) (hl : ls.length = cap) (hm : m.length = k) (hsrc : ((ls.flatMap F).drop o1).take (k * z) = m.flatMap F) (ho : o1 + k * z ≤ cap * z) (hc : i + k ≤ cap)
  (h : WR P ops rest (SS ((d, .v (.c (.c (.arr b 0 (i + k) cap)))) :: l) (H.set b (some (.els z F V M e (ls.take i ++ m ++ ls.drop (i + k)))))) (R.push ⟨[b, b], [], [b], none, false, false⟩)) :
  WR P ops (⟨some d, .call { callee := .builtin .append, args := #[x, y], argTypes := #[t, tx] }, ty, pos, af, none⟩ :: rest) (SS l H) R := by
 have hx2 : (SS l H).ev x = .c (.arr b 0 i cap) := evU_den hx
 have hy2 : (SS l H).ev y = .c (.arr b o1 k cap2) := evU_den hy
 have hb : (SS l H).H[b]? = some (some ((ls.flatMap F).map CVal.f)) := by
  rw [SS_H]
  exact nth_H hH
 have hfl := flat_f hF ls
 refine R_append_into (z := z) (m := k) (fs := m.flatMap F) hz hx2 ?_ hb hc (by
  rw [List.length_map, hfl, Nat.zero_add, hl]
  exact Nat.mul_le_mul_right _ hc) (fp := [b]) (by rw [hy2]; rfl) rfl ?_
 ·unfold srcCells
  rw [hy2]
  show (match elemSz P tx, (SS l H).H[b]? with | _, _ => _) = _
  rw [hz2, hb]
  show (if _ then _ else _) = _
  rw [if_pos ⟨rfl, by rw [List.length_map, hfl, hl]; exact ho⟩, ← List.map_drop, ← List.map_take, hsrc, fzs_els hfz]
 ·have e2 : ((SS l H).setH (hset (SS l H).H b (setAt ((ls.flatMap F).map CVal.f) (0 + i * z) ((m.flatMap F).map CVal.f)))).put (some d) (.c (.arr b 0 (i + k) cap)) = SS ((d, .v (.c (.c (.arr b 0 (i + k) cap)))) :: l) (H.set b (some (.els z F V M e (ls.take i ++ m ++ ls.drop (i + k))))) := by
   rw [Nat.zero_add, setAt_els hF ls m i (by omega), hm, SS_H]
   have e3 : hset (denH H) b (((ls.take i ++ m ++ ls.drop (i + k)).flatMap F).map CVal.f) = denH (H.set b (some (.els z F V M e (ls.take i ++ m ++ ls.drop (i + k))))) := by
    unfold denH hset
    rw [List.map_set]
    rfl
   rw [e3, SS_setH]
   rfl
  rw [e2]
  exact h
def tabE : Tb := ⟨tab.sz, tab.fo, tab.fa, [], [], tab.bi, tab.ze, tab.st, tab.it, tab.sl, tab.eq, tab.cb, tab.qt⟩
theorem tabEOk : tabE.Ok Try.prog := ⟨tabOk.sz, tabOk.fo, tabOk.fa, (by simp only [tabE, List.map_nil]), (by simp only [tabE, List.map_nil]), tabOk.bi, tabOk.ze, tabOk.st, tabOk.it, tabOk.sl, tabOk.eq, tabOk.cb⟩
theorem X_runE {ops : Array Oper} {rest : List Oper} {l : SL} {H : SH} {R : Rg} {rest' : List Oper} {l' : SL} {H' : SH} {R' : Rg} {p : Prop} (h : run1 tabE els ops rest l H R = some ⟨rest', l', H', R', p⟩) (hp : p) (hk : WR Try.prog ops rest' (SS l' H') R') : WR Try.prog ops rest (SS l H) R := run1_ok tabEOk elsOk h hp hk
section
variable {L : Lay} {how at_ v : Int}
theorem oth9 (hs : SmallL L) (h0 : L.secs.length ≠ 0) (hh : pkI how 12 = 9) (hne : L.lnks.length ≠ 0) : Oth L how at_ v { L with lnks := L.lnks.take (pkI at_ L.lnks.length).toNat ++ L.lnks.drop ((pkI at_ L.lnks.length).toNat + 1) } := by
 obtain ⟨sts, pts, secs, lnks⟩ := L
 obtain ⟨k0, k1, k2, k3⟩ := hs
 dsimp only at *
 have hP := pickI how 12 (by omega) (by omega)
 have hA := pickI at_ (secs.length : Int) (by omega) (by omega)
 have b1 := pkI_lt at_ (n := (secs.length : Int)) (by omega)
 generalize pkI at_ (secs.length : Int) = i1 at *
 rw [hh] at hP
 have hK := pickI at_ (lnks.length : Int) (by omega) (by omega)
 have bK := pkI_lt at_ (n := (lnks.length : Int)) (by omega)
 generalize pkI at_ (lnks.length : Int) = j at *
 have hi : j.toNat < lnks.length := by omega
 unfold Oth vLay
 refine X_fnP mixedX Try.func14 rfl (by kernel_rfl) (Nat.le_of_ble_eq_true (by kernel_rfl)) (by kernel_rfl) rfl rfl ?_
 simp only [sl0, Nat.zero_add, Nat.reduceAdd]
 refine W_seq (W_region (WOps_WR ?_))
 refine X_run rfl (by repeat' (first | exact True.intro | apply And.intro | omega | exact fun _ => ⟨rfl, rfl⟩ | rfl)) (WR_nil (seqK_n ?_))
 refine W_seq (X_cparr3 rfl ⟨k0, k1, k2, k3⟩ hne ?_)
 intro cap hcap
 refine seqK_w (SS [sI 1 how, sI 2 at_, sI 3 v, sC 8 (pB 1), sC 9 (pB 2)] [none, some (.cells [.c (.f .nils), .c (.f .nils), .c (.f .nils), .c (.f .nils)]), some (.cells [rStr sts, rStr pts, rSec secs, .c (.arr 3 0 lnks.length cap)]), some (.els 6 fLnk vLnk mLnk lnk0 (lnks ++ List.replicate (cap - lnks.length) lnk0))]) ?_ ?_
 ·
  refine X_weak rfl rfl rfl ?_ ?_ <;> repeat' (first|with_reducible (first|refine Wk.o (by constructor) ?_|refine q_and ?_ ?_|exact True.intro)|refine q_AgS rfl ?_ ?_|exact CLe.nil_tipS|exact CLe.nil_rowS|refine HLe.cells ?_ ?_|refine HLe.els ?_ ?_|refine SLe.cons ?_ ?_|exact (rfl : known _ = _)|with_reducible rfl|omega)
 repeat' (first
  |with_reducible (first|refine q_and ?_ ?_|exact True.intro|exact TkEq.nil _|refine Red.o (by constructor) ?_|refine blockK_o' rfl ?_|refine LoopX_e' rfl ?_|assumption)
  |((with_reducible apply q_call);first|refine X_pure (hA) rfl ?_|refine X_pure (hP) rfl ?_|refine X_pure (hK) rfl ?_)
  |((with_reducible apply stop30))
  |((with_reducible apply q_CI);intro hbq;(try simp only [bq] at hbq);(try (exfalso;omega)))
  |with_reducible (first|refine W_seq ?_|refine W_block ?_)
  |((with_reducible apply q_cond);refine X_cond rfl ?_ ?_;all_goals (intro hbq;(try simp only [bq] at hbq);(try (exfalso;omega))))
  |refine Rex.o (by (with_reducible constructor);apply Eq.refl) ?_
  |(intro (hgq : (_ : Bool) = true);(try simp only [bq] at hgq))
  |(intro (hgq : (_ : Bool) = false);(try simp only [bq] at hgq))
  |((with_reducible apply q_VOk);exact fun _ => ⟨rfl,rfl⟩)|(intro _;exact rfl)|((with_reducible apply q_CRB);kernel_rfl)|((with_reducible apply q_bt);simp only [bq])|((with_reducible apply q_eqN);rfl)|((with_reducible apply q_FE);exact rfl)|with_reducible (first|exact isByte_wrap _|exact isByte_nat _)|(simp only [hgq,bq];done)|omega|(dsimp only;omega))
 all_goals first | ((show (_ : Int) < _); simp; omega) | rfl | skip
 ·refine Stop.mk ?_
  refine W_draw (WOpsD_WR ?_)
  have hrun : ∀ {p : Prop}, p → p := fun h => h
  refine X_runE rfl (by repeat' (first | exact True.intro | apply And.intro | omega | exact fun _ => ⟨rfl, rfl⟩ | rfl)) ?_
  refine R_slice_arr (z := 6) (b := 3) (off := 0) (n := lnks.length) (cap := cap) (h' := j) (by kernel_rfl) rfl rfl (by omega) (by omega) ?_
  refine WR_pd ?_
  show WR _ _ _ (SS ((201, .v (.c (.c (.arr 3 0 j.toNat cap)))) :: _) _) _
  refine X_runE rfl (by repeat' (first | exact True.intro | apply And.intro | omega | exact fun _ => ⟨rfl, rfl⟩ | rfl)) ?_
  refine R_slice_arrL (z := 6) (b := 3) (off := 0) (n := lnks.length) (cap := cap) (a := j + 1) (by kernel_rfl) rfl rfl (by omega) (by omega) hcap ?_
  intro o1 ho1 ho2
  have em : ((lnks.length : Int) - (j + 1)).toNat = (lnks.drop (j.toNat + 1)).length := by rw [List.length_drop]; omega
  have ej : (j + 1).toNat = j.toNat + 1 := by omega
  rw [em]
  rw [em] at ho2
  refine WR_pd ?_
  show WR _ _ _ (SS ((206, .v (.c (.c (.arr 3 o1 (lnks.drop (j.toNat + 1)).length (cap - (j + 1).toNat))))) :: _) _) _
  have hml : (lnks.drop (j.toNat + 1)).length = lnks.length - (j.toNat + 1) := List.length_drop ..
  have hsrc : (((lnks ++ List.replicate (cap - lnks.length) lnk0).flatMap fLnk).drop o1).take ((lnks.drop (j.toNat + 1)).length * 6) = (lnks.drop (j.toNat + 1)).flatMap fLnk := by
   by_cases hlt : j + 1 < lnks.length
   ·rw [ho1 hlt, ej, Nat.zero_add, flatMap_dropB fLnk 6 (fun _ => rfl), List.drop_append_of_le_length (by omega), flatMap_take (F := fLnk) (z := 6) (fun _ => rfl)]
   ·have e0 : lnks.drop (j.toNat + 1) = [] := List.drop_eq_nil_of_le (by omega)
    rw [e0]
    simp
  refine X_into (b := 3) (lnks.drop (j.toNat + 1)) (by kernel_rfl) (by kernel_rfl) rfl rfl rfl (fun _ => rfl) (fun _ => rfl) (by simp; omega) rfl hsrc (by omega) (by omega) ?_
  refine WR_pd ?_
  have etk : (lnks ++ List.replicate (cap - lnks.length) lnk0).take j.toNat = lnks.take j.toNat := List.take_append_of_le_length (by omega)
  rw [etk]
  have el : j.toNat + (lnks.drop (j.toNat + 1)).length = (lnks.take j.toNat ++ lnks.drop (j.toNat + 1)).length := by rw [List.length_append, List.length_take]; omega
  rw [el]
  have hlen : (lnks.take j.toNat ++ lnks.drop (j.toNat + 1)).length ≤ cap := by omega
  generalize (lnks ++ List.replicate (cap - lnks.length) lnk0).drop _ = pad
  generalize lnks.take j.toNat ++ lnks.drop (j.toNat + 1) = lx at *
  simp only [List.set_cons_succ, List.set_cons_zero]
  repeat' (first
   |with_reducible (first|refine q_and ?_ ?_|exact True.intro|exact TkEq.nil _|refine Red.o (by constructor) ?_|refine blockK_o' rfl ?_|refine LoopX_e' rfl ?_|assumption)
   |((with_reducible apply stop35))
   |((with_reducible apply q_CI);intro hbq;(try simp only [bq] at hbq);(try (exfalso;omega)))
   |with_reducible (first|refine W_seq ?_|refine W_block ?_)
   |((with_reducible apply q_cond);refine X_cond rfl ?_ ?_;all_goals (intro hbq;(try simp only [bq] at hbq);(try (exfalso;omega))))
   |refine Rex.o (by (with_reducible constructor);apply Eq.refl) ?_
   |(intro (hgq : (_ : Bool) = true);(try simp only [bq] at hgq))
   |(intro (hgq : (_ : Bool) = false);(try simp only [bq] at hgq))
   |((with_reducible apply q_VOk);exact fun _ => ⟨rfl,rfl⟩)|(intro _;exact rfl)|((with_reducible apply q_CRB);kernel_rfl)|((with_reducible apply q_bt);simp only [bq])|((with_reducible apply q_eqN);rfl)|((with_reducible apply q_FE);exact rfl)|with_reducible (first|exact isByte_wrap _|exact isByte_nat _)|(simp only [hgq,bq];done)|omega|(dsimp only;omega))
  refine Stop.mk ?_
  refine W_region (WOps_WR ?_)
  refine X_frzC 3 2 3 (by decide) rfl rfl rfl rfl hlen (fun _ => rfl) ?_
  simp only [List.set_cons_succ, List.set_cons_zero]
  repeat' (first
   |with_reducible (first|refine q_and ?_ ?_|exact True.intro|exact TkEq.nil _|refine Red.o (by constructor) ?_|refine blockK_o' rfl ?_|refine LoopX_e' rfl ?_|assumption)
   |((with_reducible apply q_CI);intro hbq;(try simp only [bq] at hbq);(try (exfalso;omega)))
   |with_reducible (first|refine W_seq ?_|refine W_block ?_)
   |((with_reducible apply q_cond);refine X_cond rfl ?_ ?_;all_goals (intro hbq;(try simp only [bq] at hbq);(try (exfalso;omega))))
   |refine Rex.o (by (with_reducible constructor);apply Eq.refl) ?_
   |(intro (hgq : (_ : Bool) = true);(try simp only [bq] at hgq))
   |(intro (hgq : (_ : Bool) = false);(try simp only [bq] at hgq))
   |((with_reducible apply q_VOk);exact fun _ => ⟨rfl,rfl⟩)|(intro _;exact rfl)|((with_reducible apply q_CRB);kernel_rfl)|((with_reducible apply q_bt);simp only [bq])|((with_reducible apply q_eqN);rfl)|((with_reducible apply q_FE);exact rfl)|with_reducible (first|exact isByte_wrap _|exact isByte_nat _)|(simp only [hgq,bq];done)|omega|(dsimp only;omega))
  all_goals rfl
end
end Go.Proofs.Ythnfliopmjpdmaa.Av
namespace Go.Proofs.Ythnfliopmjpdmaa
open Go.RowKit
theorem ret_int {k : IntKind} {a b : Int} (h : a = b) : Ending.returned (.int k a) = .returned (.int k b) := by rw [h]
theorem below_draws {B : Nat} {a w : World} (h : Below B a w) (n : Nat) : Below B a (w.drewN n) := ⟨h.os, h.tape, h.output, h.size, h.block⟩
end Go.Proofs.Ythnfliopmjpdmaa
namespace Go.Proofs.Ythnfliopmjpdmaa
open Go.RowKit
theorem ret_bool {a b : Bool} (h : a = b) : Ending.returned (.bool a) = .returned (.bool b) := by rw [h]
theorem isLetter_any (c : Nat) (w : World) (hc : c < 256) :
  Calls Try.prog 63 #[.int .u8 c] w fun e w' => e = .returned (.bool (letN c)) ∧ w = w' := by
 go_enter Try.func63, Try.ntmps63
 go_wp2
 all_goals
  go_ret
  exact ⟨ret_bool (by rw [Bool.eq_iff_iff]; simp [letN]; try omega), rfl⟩
theorem refLetter_any (c : Nat) (w : World) (hc : c < 256) :
  Calls Try.prog 65 #[.int .u8 c] w fun e w' => e = .returned (.bool (letN c)) ∧ w = w' := by
 go_enter Try.func65, Try.ntmps65
 go_wp2
 all_goals
  go_ret
  exact ⟨ret_bool (by rw [Bool.eq_iff_iff]; simp [letN]; try omega), rfl⟩
theorem isDigit_any (c : Nat) (w : World) (hc : c < 256) :
  Calls Try.prog 64 #[.int .u8 c] w fun e w' => e = .returned (.bool (digN c)) ∧ w = w' := by
 go_enter Try.func64, Try.ntmps64
 go_wp2
 all_goals
  go_ret
  exact ⟨ret_bool (by rw [Bool.eq_iff_iff]; simp [digN]; try omega), rfl⟩
theorem refDigit_any (c : Nat) (w : World) (hc : c < 256) :
  Calls Try.prog 66 #[.int .u8 c] w fun e w' => e = .returned (.bool (digN c)) ∧ w = w' := by
 go_enter Try.func66, Try.ntmps66
 go_wp2
 all_goals
  go_ret
  exact ⟨ret_bool (by rw [Bool.eq_iff_iff]; simp [digN]; try omega), rfl⟩
theorem okN_cases (c : Nat) : (okN c = true ∧ (letN c = true ∨ (letN c = false ∧ digN c = true) ∨ (letN c = false ∧ digN c = false ∧ c = 95))) ∨ (okN c = false ∧ letN c = false ∧ digN c = false ∧ c ≠ 95) := by
 unfold okN
 by_cases h : c = 95
 ·subst h; left; decide
 ·have : (c == 95) = false := by simpa using h
  cases letN c <;> cases digN c <;> simp [h, this]
theorem all_one (s : ByteArray) (h0 : 0 < s.size) (h : letN s[0].toNat = true) : (s.data.toList.take 1).all (fun c => okN c.toNat) = true := by
 rw [all_upto s 0 h0, letN_ok h]; rfl
theorem name_any (s : ByteArray) (w : World) (hs : s.size ≤ 9223372036854775807) :
  Calls Try.prog 53 #[.string s] w fun e w' => e = .returned (.bool (nameB s)) ∧ w = w' := by
 by_cases h0 : s.size < 1
 ·rw [nameB_short (.inl h0)]
  go_enter Try.func53, Try.ntmps53
  go_wp2
  go_ret
  exact ⟨rfl, rfl⟩
 ·by_cases h1 : 12 < s.size
  ·rw [nameB_short (.inr h1)]
   have h0' : 1 ≤ s.size := by omega
   go_enter Try.func53, Try.ntmps53
   go_wp2
   go_ret
   exact ⟨rfl, rfl⟩
  ·have h2 : 0 < s.size := by omega
   have h0' : 1 ≤ s.size := by omega
   have h3 : s.size ≤ 12 := by omega
   by_cases hl : letN s[0].toNat = true
   ·have Hl := Lib.hid hl
    clear hl
    go_enter Try.func53, Try.ntmps53
    go_wp2_with fail
    refine (isLetter_any _ _ (UInt8.toNat_lt _)).mono ?_
    rintro e w' ⟨rfl, rfl⟩
    rw [Hl.out]
    go_wp2
    go_loop [20] (fun i => ∃ k : Nat, 0 ≤ k ∧ k ≤ s.size ∧ i = .int .i64 k ∧ Hid ((s.data.toList.take k).all (fun c => okN c.toNat) = true)) (fun i => s.size - (intOf i).toNat)
    case atStart => exact ⟨0, by omega, by omega, rfl, Lib.hid rfl⟩
    case round =>
     obtain ⟨k, hk0, hk, rfl, Hk⟩ := hrel
     by_cases hlt : k < s.size
     ·have Hup := Lib.hid (all_upto s k hlt (fun c => okN c.toNat))
      rcases okN_cases s[k].toNat with ⟨hok, hy | ⟨hx, hy⟩ | ⟨hx, hy, hz⟩⟩ | ⟨hok, hx, hy, hz⟩
      ·have HL := Lib.hid hy
       have Hk1 : Hid ((s.data.toList.take (k + 1)).all (fun c => okN c.toNat) = true) := Lib.hid (by rw [Hup.out, Hk.out, hok]; rfl)
       clear hok hy
       go_wp2_with (go_at_call 63; refine (isLetter_any _ _ (UInt8.toNat_lt _)).mono ?_; rintro e w' ⟨rfl, rfl⟩; rw [HL.out])
       go_round
       case rel => exact ⟨k + 1, by omega, by omega, by go_num, Hk1⟩
       case measure => simp [intOf]; omega
      ·have HL := Lib.hid hx
       have HD := Lib.hid hy
       have Hk1 : Hid ((s.data.toList.take (k + 1)).all (fun c => okN c.toNat) = true) := Lib.hid (by rw [Hup.out, Hk.out, hok]; rfl)
       clear hok hx hy
       go_wp2_with (first | (go_at_call 63; refine (isLetter_any _ _ (UInt8.toNat_lt _)).mono ?_; rintro e w' ⟨rfl, rfl⟩; rw [HL.out]) | (go_at_call 64; refine (isDigit_any _ _ (UInt8.toNat_lt _)).mono ?_; rintro e w' ⟨rfl, rfl⟩; rw [HD.out]))
       go_round
       case rel => exact ⟨k + 1, by omega, by omega, by go_num, Hk1⟩
       case measure => simp [intOf]; omega
      ·have HL := Lib.hid hx
       have HD := Lib.hid hy
       have Hk1 : Hid ((s.data.toList.take (k + 1)).all (fun c => okN c.toNat) = true) := Lib.hid (by rw [Hup.out, Hk.out, hok]; rfl)
       have hb : ((s[k].toNat : Int) != 95) = false := by rw [hz]; rfl
       clear hok hx hy hz
       go_wp2_with (first | (go_at_call 63; refine (isLetter_any _ _ (UInt8.toNat_lt _)).mono ?_; rintro e w' ⟨rfl, rfl⟩; rw [HL.out]) | (go_at_call 64; refine (isDigit_any _ _ (UInt8.toNat_lt _)).mono ?_; rintro e w' ⟨rfl, rfl⟩; rw [HD.out]))
       go_round
       case rel => exact ⟨k + 1, by omega, by omega, by go_num, Hk1⟩
       case measure => simp [intOf]; omega
      ·have HL := Lib.hid hx
       have HD := Lib.hid hy
       have HN := Lib.hid (nameB_no k hlt hok)
       have hb : ((s[k].toNat : Int) != 95) = true := by rw [bne_iff_ne]; omega
       clear hok hx hy hz
       go_wp2_with (first | (go_at_call 63; refine (isLetter_any _ _ (UInt8.toNat_lt _)).mono ?_; rintro e w' ⟨rfl, rfl⟩; rw [HL.out]) | (go_at_call 64; refine (isDigit_any _ _ (UInt8.toNat_lt _)).mono ?_; rintro e w' ⟨rfl, rfl⟩; rw [HD.out]))
       go_ret
       exact ⟨ret_bool HN.out.symm, rfl⟩
     ·have HN : Hid (nameB s = true) := Lib.hid (nameB_mk h2 h3 Hl.out (by have := Hk.out; rwa [List.take_of_length_le (by rw [bytes_len]; omega)] at this))
      go_wp2
      go_ret
      exact ⟨ret_bool HN.out.symm, rfl⟩
   ·have Hl := Lib.hid (Bool.eq_false_iff.2 hl)
    have HN := Lib.hid (nameB_no0 h2 (Bool.eq_false_iff.2 hl))
    clear hl
    go_enter Try.func53, Try.ntmps53
    go_wp2_with (go_at_call 63; refine (isLetter_any _ _ (UInt8.toNat_lt _)).mono ?_; rintro e w' ⟨rfl, rfl⟩; rw [Hl.out])
    go_ret
    exact ⟨ret_bool HN.out.symm, rfl⟩
theorem refName_any (s : ByteArray) (w : World) (hs : s.size ≤ 9223372036854775807) :
  Calls Try.prog 60 #[.string s] w fun e w' => e = .returned (.bool (nameB s)) ∧ w = w' := by
 by_cases h0 : s.size < 1
 ·rw [nameB_short (.inl h0)]
  go_enter Try.func60, Try.ntmps60
  go_wp2
  go_ret
  exact ⟨rfl, rfl⟩
 ·by_cases h1 : 12 < s.size
  ·rw [nameB_short (.inr h1)]
   have h0' : 1 ≤ s.size := by omega
   go_enter Try.func60, Try.ntmps60
   go_wp2
   go_ret
   exact ⟨rfl, rfl⟩
  ·have h2 : 0 < s.size := by omega
   have h0' : 1 ≤ s.size := by omega
   have h3 : s.size ≤ 12 := by omega
   by_cases hl : letN s[0].toNat = true
   ·have Hl := Lib.hid hl
    clear hl
    go_enter Try.func60, Try.ntmps60
    go_wp2_with fail
    refine (refLetter_any _ _ (UInt8.toNat_lt _)).mono ?_
    rintro e w' ⟨rfl, rfl⟩
    rw [Hl.out]
    go_wp2
    go_loop [3] (fun i => ∃ k : Nat, 1 ≤ k ∧ k ≤ s.size ∧ i = .int .i64 k ∧ Hid ((s.data.toList.take k).all (fun c => okN c.toNat) = true)) (fun i => s.size - (intOf i).toNat)
    case atStart => exact ⟨1, by omega, by omega, rfl, Lib.hid (all_one s h2 Hl.out)⟩
    case round =>
     obtain ⟨k, hk0, hk, rfl, Hk⟩ := hrel
     by_cases hlt : k < s.size
     ·have Hup := Lib.hid (all_upto s k hlt (fun c => okN c.toNat))
      rcases okN_cases s[k].toNat with ⟨hok, hy | ⟨hx, hy⟩ | ⟨hx, hy, hz⟩⟩ | ⟨hok, hx, hy, hz⟩
      ·have HL := Lib.hid hy
       have Hk1 : Hid ((s.data.toList.take (k + 1)).all (fun c => okN c.toNat) = true) := Lib.hid (by rw [Hup.out, Hk.out, hok]; rfl)
       clear hok hy
       go_wp2_with (go_at_call 65; refine (refLetter_any _ _ (UInt8.toNat_lt _)).mono ?_; rintro e w' ⟨rfl, rfl⟩; rw [HL.out])
       go_round
       case rel => exact ⟨k + 1, by omega, by omega, by go_num, Hk1⟩
       case measure => simp [intOf]; omega
      ·have HL := Lib.hid hx
       have HD := Lib.hid hy
       have Hk1 : Hid ((s.data.toList.take (k + 1)).all (fun c => okN c.toNat) = true) := Lib.hid (by rw [Hup.out, Hk.out, hok]; rfl)
       clear hok hx hy
       go_wp2_with (first | (go_at_call 65; refine (refLetter_any _ _ (UInt8.toNat_lt _)).mono ?_; rintro e w' ⟨rfl, rfl⟩; rw [HL.out]) | (go_at_call 66; refine (refDigit_any _ _ (UInt8.toNat_lt _)).mono ?_; rintro e w' ⟨rfl, rfl⟩; rw [HD.out]))
       go_round
       case rel => exact ⟨k + 1, by omega, by omega, by go_num, Hk1⟩
       case measure => simp [intOf]; omega
      ·have HL := Lib.hid hx
       have HD := Lib.hid hy
       have Hk1 : Hid ((s.data.toList.take (k + 1)).all (fun c => okN c.toNat) = true) := Lib.hid (by rw [Hup.out, Hk.out, hok]; rfl)
       have hb : ((s[k].toNat : Int) != 95) = false := by rw [hz]; rfl
       clear hok hx hy hz
       go_wp2_with (first | (go_at_call 65; refine (refLetter_any _ _ (UInt8.toNat_lt _)).mono ?_; rintro e w' ⟨rfl, rfl⟩; rw [HL.out]) | (go_at_call 66; refine (refDigit_any _ _ (UInt8.toNat_lt _)).mono ?_; rintro e w' ⟨rfl, rfl⟩; rw [HD.out]))
       go_round
       case rel => exact ⟨k + 1, by omega, by omega, by go_num, Hk1⟩
       case measure => simp [intOf]; omega
      ·have HL := Lib.hid hx
       have HD := Lib.hid hy
       have HN := Lib.hid (nameB_no k hlt hok)
       have hb : ((s[k].toNat : Int) != 95) = true := by rw [bne_iff_ne]; omega
       clear hok hx hy hz
       go_wp2_with (first | (go_at_call 65; refine (refLetter_any _ _ (UInt8.toNat_lt _)).mono ?_; rintro e w' ⟨rfl, rfl⟩; rw [HL.out]) | (go_at_call 66; refine (refDigit_any _ _ (UInt8.toNat_lt _)).mono ?_; rintro e w' ⟨rfl, rfl⟩; rw [HD.out]))
       go_ret
       exact ⟨ret_bool HN.out.symm, rfl⟩
     ·have HN : Hid (nameB s = true) := Lib.hid (nameB_mk h2 h3 Hl.out (by have := Hk.out; rwa [List.take_of_length_le (by rw [bytes_len]; omega)] at this))
      go_wp2
      go_ret
      exact ⟨ret_bool HN.out.symm, rfl⟩
   ·have Hl := Lib.hid (Bool.eq_false_iff.2 hl)
    have HN := Lib.hid (nameB_no0 h2 (Bool.eq_false_iff.2 hl))
    clear hl
    go_enter Try.func60, Try.ntmps60
    go_wp2_with (go_at_call 65; refine (refLetter_any _ _ (UInt8.toNat_lt _)).mono ?_; rintro e w' ⟨rfl, rfl⟩; rw [Hl.out])
    go_ret
    exact ⟨ret_bool HN.out.symm, rfl⟩
end Go.Proofs.Ythnfliopmjpdmaa
namespace Go.Proofs.Ythnfliopmjpdmaa
def ShortS (l : List ByteArray) : Prop := ∀ s ∈ l, s.size ≤ 9223372036854775807
theorem strW (t s : ByteArray) : (t.toList == s.toList) = eqS s t := by
 rw [ByteArray.toList_eq, ByteArray.toList_eq, Bool.eq_iff_iff, eqS_iff, beq_iff_eq]
 exact ⟨fun h => by cases s; cases t; simp at h; rw [h], fun h => by rw [h]⟩
theorem mem_snoc (s : ByteArray) (l : List ByteArray) {k : Nat} (h : k < l.length) : memS s (l.take (k + 1)) = (memS s (l.take k) || eqS s (l.getD k ⟨#[]⟩)) := by
 unfold memS
 rw [List.take_succ_eq_append_getElem h, List.any_append, List.any_cons, List.any_nil, Bool.or_false, List.getD_eq_getElem?_getD, List.getElem?_eq_getElem h]
 rfl
theorem mem_take (s : ByteArray) (l : List ByteArray) {k i : Nat} (h : k < i) (hi : i ≤ l.length) (he : eqS s (l.getD k ⟨#[]⟩) = true) : memS s (l.take i) = true := by
 unfold memS
 rw [List.getD_eq_getElem?_getD, List.getElem?_eq_getElem (show k < l.length by omega)] at he
 exact List.any_eq_true.2 ⟨_, List.mem_iff_getElem.2 ⟨k, by rw [List.length_take]; omega, List.getElem_take ..⟩, he⟩
end Go.Proofs.Ythnfliopmjpdmaa
namespace Go.Proofs.Ythnfliopmjpdmaa.Av
open Go.RowKit
def Plain (r : AVal) (v : Value) : Prop := ∀ w κ ρ l, RepA w κ ρ l r v
theorem plain_i {n : Int} {k : IntKind} : Plain (.c (.f (.v (.int k n)))) (.int k n) := fun _ _ _ _ => RepF.v _ rfl
theorem plain_s {s : ByteArray} : Plain (aS s) (.string s) := fun _ _ _ _ => RepF.v _ rfl
theorem plain_b {b : Bool} : Plain (aB b) (.bool b) := fun _ _ _ _ => RepF.v _ rfl
theorem plain_2 {a b : CVal} {u v : Value} (ha : Plain (.c a) u) (hb : Plain (.c b) v) (fa : a.flat = true) (fb : b.flat = true) : Plain (.tup [.c a, .c b]) (.tuple #[u, v]) := fun w κ ρ l => by
 refine ⟨#[u, v], rfl, rfl, fun i h h' => ?_⟩
 match i, h with
 | 0, _ => exact ⟨fa, ha w κ ρ l⟩
 | 1, _ => exact ⟨fb, hb w κ ρ l⟩
theorem ok_old {P : Program} {f : FuncId} {args : List AVal} {r : AVal} (fn : Func) (hf : P.funcs[f]? = some fn) (hb : fn.body.isSome = true) (hn : (fn.name == "runtime.NumGoroutine") = false) (hflat : Flat r = true) (hrok : r.ok 0 = true)
  (h : ∀ (w : World) (κ : Nat → BK) (ρ : Nat → Nat) (vals : Array Value), vals.size = args.length → (∀ i (h : i < args.length) (h' : i < vals.size) l, RepA w κ ρ l args[i] vals[i]) → ∃ v, Plain r v ∧ Calls P f vals w fun e w' => e = .returned v ∧ Below w.heap.size w w') : Ok P f args [] r [] := by
 refine ⟨⟨fn, hf, hb, hn⟩, flat_dem hflat, hrok, Nat.le_refl _, fun w κ ρ vals hs hr hok hH => ?_⟩
 obtain ⟨v, hp, hc⟩ := h w κ ρ vals hs hr
 refine hc.mono ?_
 rintro e w' ⟨rfl, hB⟩
 refine ⟨v, fun g => if g < w.heap.size then κ g else .lock none, ρ, rfl, fun l => hp _ _ _ l, ⟨fun b cs h => by simp at h, fun b cs h => by simp at h⟩, ⟨hB.os, hB.tape, hB.output, hB.size, fun g n hg hl => ⟨by rw [if_pos hg]; exact hl, hB.block g hg⟩, ⟨hB.size, fun g o x hg _ hx => ?_, fun g n hg hf => by rw [if_pos hg]; exact hf⟩⟩, fun _ _ => rfl⟩
 rw [World.cell?_of_block (w := w) (a := ⟨g, o, none⟩) (hB.block g hg)]
 exact hx
theorem one_arg {vals : Array Value} (h : vals.size = 1) : vals = #[vals[0]] := by
 apply Array.ext
 ·simp [h]
 ·intro i h1 h2
  match i, h2 with
  | 0, _ => rfl
theorem refName_okV (s : ByteArray) (hz : s.size ≤ 9223372036854775807) : OkV Try.prog 60 [vS s] [] (vB (nameB s)) [] := by
 refine ok_old _ Try.func60 (by kernel_rfl) (by kernel_rfl) rfl rfl fun w κ ρ vals hs hr => ⟨_, plain_b, ?_⟩
 have hs : vals.size = 1 := hs
 have h0 := (repF_v.1 (hr 0 (by simp) (by omega) (.slot 0))).1
 rw [one_arg hs, show vals[0] = .string s from h0]
 refine (refName_any s w hz).mono ?_
 rintro e w' ⟨he, rfl⟩
 exact ⟨he, Below.refl _ _⟩
theorem refNames_okV (l : List ByteArray) (i : Nat) (hi : i < l.length) (hl : l.length ≤ 1000) (hs : ShortS l) : OkV Try.prog 46 [.c (rStr l), .c (xI i)] [] (vI (nameErr (l.take i) (l.getD i ⟨#[]⟩))) [] := by
 have hz : (l.getD (i : Int).toNat ⟨#[]⟩).size ≤ 9223372036854775807 := by
  rw [Int.toNat_natCast, List.getD_eq_getElem?_getD, List.getElem?_eq_getElem hi]
  exact hs _ (List.getElem_mem hi)
 have hN := refName_okV (l.getD (i : Int).toNat ⟨#[]⟩) hz
 unfold nameErr
 by_cases hb : nameB (l.getD i ⟨#[]⟩) = true
 ·rw [show nameB (l.getD (i : Int).toNat ⟨#[]⟩) = true from hb] at hN
  rw [if_neg (by rw [hb]; decide)]
  refine X_fnP mixedX Try.func46 rfl (by kernel_rfl) (Nat.le_of_ble_eq_true (by kernel_rfl)) (by kernel_rfl) rfl rfl ?_
  simp only [sl0, Nat.zero_add, Nat.reduceAdd]
  repeat' (first|with_reducible (first|refine q_and ?_ ?_|exact True.intro|refine Red.o (by constructor) ?_|fail)|((with_reducible apply q_call);refine X_pure (hN) rfl ?_)|with_reducible (first|refine W_seq ?_|refine W_block ?_)|((with_reducible apply q_cond);refine X_cond rfl ?_ ?_;all_goals (intro hbq;(try simp only [bq] at hbq);(try (exfalso;omega))))|refine Rex.o (by (with_reducible constructor);apply Eq.refl) ?_|((with_reducible apply q_VOk);exact fun _ => ⟨rfl,rfl⟩)|omega)
  refine W_loopS (fun k : Nat => SS [sC 0 (rStr l), sI 1 i, sI 5 k] []) (fun k => k ≤ i ∧ memS (l.getD i ⟨#[]⟩) (l.take k) = false) (fun k => i - k) 0 ?_ ⟨by omega, rfl⟩ ?_
  ·
   refine X_weak rfl rfl rfl ?_ ?_ <;> repeat' (first|with_reducible (first|refine Wk.o (by constructor) ?_|refine q_and ?_ ?_|exact True.intro)|refine q_AgS rfl ?_ ?_|exact (rfl : known _ = _)|omega)
  intro k hk
  obtain ⟨hk, hno⟩ := hk
  by_cases hki : k < i
  ·have hsn := mem_snoc (l.getD i ⟨#[]⟩) l (k := k) (by omega)
   have hw := strW (l.getD (k : Int).toNat ⟨#[]⟩) (l.getD (i : Int).toNat ⟨#[]⟩)
   cases he : Go.Proofs.Ythnfliopmjpdmaa.eqS (l.getD i ⟨#[]⟩) (l.getD k ⟨#[]⟩) with
   | true =>
    rw [show Go.Proofs.Ythnfliopmjpdmaa.eqS (l.getD (i : Int).toNat ⟨#[]⟩) (l.getD (k : Int).toNat ⟨#[]⟩) = true from he] at hw
    rw [if_pos (mem_take _ l hki (by omega) he)]
    repeat' (first|with_reducible (first|refine q_and ?_ ?_|exact True.intro|refine Red.o (by constructor) ?_|fail)|((with_reducible apply q_cond);refine X_cond rfl ?_ ?_;all_goals (intro hbq;(try simp only [bq,and_true,true_and,and_false,false_and,or_true,true_or,or_false,false_or,not_true_eq_false,not_false_eq_true,Bool.true_eq_false,Bool.false_eq_true,hw] at hbq);(try (exfalso;omega))))|with_reducible (first|refine W_seq ?_|refine W_block ?_)|refine Rex.o (by (with_reducible constructor);apply Eq.refl) ?_|((with_reducible apply q_VOk);exact fun _ => ⟨rfl,rfl⟩)|((with_reducible apply q_CRB);kernel_rfl)|omega)
    all_goals rfl
   | false =>
    rw [show Go.Proofs.Ythnfliopmjpdmaa.eqS (l.getD (i : Int).toNat ⟨#[]⟩) (l.getD (k : Int).toNat ⟨#[]⟩) = false from he] at hw
    rw [hno, he] at hsn
    repeat' (first|with_reducible (first|refine q_and ?_ ?_|exact True.intro|refine Red.o (by constructor) ?_|fail)|((with_reducible apply q_cond);refine X_cond rfl ?_ ?_;all_goals (intro hbq;(try simp only [bq,and_true,true_and,and_false,false_and,or_true,true_or,or_false,false_or,not_true_eq_false,not_false_eq_true,Bool.true_eq_false,Bool.false_eq_true,hw] at hbq);(try (exfalso;omega))))|with_reducible (first|refine W_seq ?_|refine W_block ?_)|refine Rex.o (by (with_reducible constructor);apply Eq.refl) ?_|((with_reducible apply q_VOk);exact fun _ => ⟨rfl,rfl⟩)|((with_reducible apply q_CRB);kernel_rfl)|omega)
    ·
     refine LoopK_n (k + 1) ?_ (⟨by omega, hsn⟩) (by (try dsimp only); omega)
     refine X_weak rfl rfl rfl ?_ ?_ <;> repeat' (first|with_reducible (first|refine Wk.o (by constructor) ?_|refine q_and ?_ ?_|exact True.intro)|refine q_AgS rfl ?_ ?_|exact (rfl : known _ = _)|omega)
  ·have hki : k = i := by omega
   subst hki
   rw [if_neg (by rw [hno]; decide)]
   repeat' (first|with_reducible (first|refine q_and ?_ ?_|exact True.intro|refine Red.o (by constructor) ?_|fail)|with_reducible (refine W_seq ?_)|((with_reducible apply q_cond);refine X_cond rfl ?_ ?_;all_goals (intro hbq;(try simp only [bq] at hbq);(try (exfalso;omega))))|refine Rex.o (by (with_reducible constructor);apply Eq.refl) ?_|fail)
   all_goals rfl
 ·have hb : nameB (l.getD i ⟨#[]⟩) = false := by simpa using hb
  rw [show nameB (l.getD (i : Int).toNat ⟨#[]⟩) = false from hb] at hN
  rw [if_pos hb]
  refine X_fnP mixedX Try.func46 rfl (by kernel_rfl) (Nat.le_of_ble_eq_true (by kernel_rfl)) (by kernel_rfl) rfl rfl ?_
  simp only [sl0, Nat.zero_add, Nat.reduceAdd]
  repeat' (first|with_reducible (first|refine q_and ?_ ?_|exact True.intro|refine Red.o (by constructor) ?_|fail)|((with_reducible apply q_call);refine X_pure (hN) rfl ?_)|with_reducible (refine W_seq ?_)|((with_reducible apply q_cond);refine X_cond rfl ?_ ?_;all_goals (intro hbq;(try simp only [bq] at hbq);(try (exfalso;omega))))|refine Rex.o (by (with_reducible constructor);apply Eq.refl) ?_|((with_reducible apply q_VOk);exact fun _ => ⟨rfl,rfl⟩)|omega)
  all_goals rfl
theorem has_okV (k : Lnk) (a e : Int) : OkV Try.prog 61 [.agg (vLnk k), .agg [xI a, xI e]] [] (vB (hasE k (a, e))) [] := by
 unfold hasE vLnk
 refine X_fnP mixedX Try.func61 rfl (by kernel_rfl) (Nat.le_of_ble_eq_true (by kernel_rfl)) (by kernel_rfl) rfl rfl ?_
 simp only [sl0, Nat.zero_add, Nat.reduceAdd]
 repeat' (first|with_reducible (first|refine q_and ?_ ?_|exact True.intro|refine Red.o (by constructor) ?_|assumption)|with_reducible (refine W_seq ?_)|refine Rex.o (by (with_reducible constructor);apply Eq.refl) ?_|(intro (hgq : (_ : Bool) = true);(try simp only [bq] at hgq))|(intro (hgq : (_ : Bool) = false);(try simp only [bq] at hgq))|((with_reducible apply q_bt);simp only [bq])|(simp only [hgq,bq];done))
 ·refine VEq.c (CEq.bool ?_)
  simp only [Bool.decide_or, Bool.decide_and]
theorem refIn_okV (n lo hi : Int) : OkV Try.prog 48 [.c (xI n), .c (xI lo), .c (xI hi)] [] (vB (decide (lo ≤ n) && decide (n ≤ hi))) [] := by
 refine X_fn mixedX Try.func48 rfl (by kernel_rfl) (Nat.le_of_ble_eq_true (by kernel_rfl)) (by kernel_rfl) rfl rfl (Nat.le_of_ble_eq_true rfl) rfl rfl ?_
 simp only [sl0, Nat.zero_add, Nat.reduceAdd]
 repeat' (first|with_reducible (first|refine q_and ?_ ?_|exact True.intro|exact TkEq.nil _|refine Red.o (by constructor) ?_|assumption)|with_reducible (refine W_seq ?_)|refine Rex.o (by (with_reducible constructor);apply Eq.refl) ?_|(intro (hgq : (_ : Bool) = true);(try simp only [bq] at hgq))|((with_reducible apply q_bt);simp only [bq]))
 repeat' (first|with_reducible (first|refine Wk.o (by constructor) ?_|exact True.intro)|refine VEq.c ?_)
theorem atE_snoc (l : List Lnk) (x : Int × Int) {j : Nat} (h : j < l.length) : atE (l.take (j + 1)) x = atE (l.take j) x ++ (if hasE (l.getD j lnk0) x = true then [l.getD j lnk0] else []) := by
 unfold atE
 rw [List.take_succ_eq_append_getElem h, List.filter_append, List.getD_eq_getElem?_getD, List.getElem?_eq_getElem h]
 simp only [Option.getD_some, List.filter_cons, List.filter_nil]
def lastL (l : List Lnk) : Lnk := l.getLast?.getD lnk0
theorem lastL_snoc (l : List Lnk) (k : Lnk) : lastL (l ++ [k]) = k := by unfold lastL; simp
theorem fit_eq (k : Lnk) (hk : -1 ≤ k.pt) (l : List Lnk) : fitB k l = (decide ((l.length : Int) = 0) || (decide ((l.length : Int) = 1) && decide (0 ≤ k.pt) && decide ((lastL l).pt = k.pt) && !decide ((lastL l).ps = k.ps))) := by
 match l with
 | [] => rfl
 | [j] =>
  have hj : lastL [j] = j := rfl
  rw [hj]
  unfold fitB
  rw [Bool.eq_iff_iff]
  simp only [decide_eq_true_eq, Bool.or_eq_true, Bool.and_eq_true, Bool.not_eq_true', decide_eq_false_iff_not, List.length_singleton]
  constructor <;> intro h <;> omega
 | a :: b :: l =>
  simp only [fitB, List.length_cons]
  rw [decide_eq_false (by omega), decide_eq_false (by omega)]
  rfl
theorem free_okV (L : Lay) (i : Nat) (hi : i < L.lnks.length) (hl : L.lnks.length ≤ 1000) (a e : Int) (hp : -1 ≤ (L.lnks.getD i lnk0).pt) : OkV Try.prog 62 [vLay L, .c (xI i), .agg [xI a, xI e]] [] (vB (fitB (L.lnks.getD i lnk0) (atE (L.lnks.take i) (a, e)))) [] := by
 have hH := fun k => has_okV k a e
 rw [fit_eq _ hp]
 unfold vLnk at hH
 unfold vLay
 refine X_fnP mixedX Try.func62 rfl (by kernel_rfl) (Nat.le_of_ble_eq_true (by kernel_rfl)) (by kernel_rfl) rfl rfl ?_
 simp only [sl0, Nat.zero_add, Nat.reduceAdd]
 repeat' (first|with_reducible (first|refine q_and ?_ ?_|exact True.intro|refine Red.o (by constructor) ?_|fail)|with_reducible (first|refine W_seq ?_|refine W_block ?_)|refine Rex.o (by (with_reducible constructor);apply Eq.refl) ?_|((with_reducible apply q_VOk);exact fun _ => ⟨rfl,rfl⟩)|omega)
 refine W_loopS (fun j : Nat => SS [sI 1 i, sC 3 (pB 0), sC 5 (pB 1), sC 7 (pB 2), sI 8 ((atE (L.lnks.take j) (a, e)).length : Nat), sC 9 (pB 3), sI 10 j] [some (.cells [rStr L.sts, rStr L.pts, rSec L.secs, rLnk L.lnks]), some (.cells [xI a, xI e]), some (.cells (vLnk (L.lnks.getD (i : Int).toNat lnk0))), some (.cells (vLnk (lastL (atE (L.lnks.take j) (a, e)))))]) (fun j => j ≤ i) (fun j => i - j) 0 ?_ (by omega) ?_
 ·
  refine X_weak rfl rfl rfl ?_ ?_ <;> repeat' (first|with_reducible (first|refine Wk.o (by constructor) ?_|refine q_and ?_ ?_|exact True.intro)|refine q_AgS rfl ?_ ?_|refine SLe.cons ?_ ?_|exact (rfl : known _ = _)|omega)
  all_goals rfl
 intro j hj
 have hal : (atE (L.lnks.take j) (a, e)).length ≤ 1000 := by
  unfold atE
  refine Nat.le_trans (List.length_filter_le _ _) ?_
  rw [List.length_take]; omega
 by_cases hji : j < i
 ·have hsn := atE_snoc L.lnks (a, e) (j := j) (by omega)
  have hC := hH (L.lnks.getD (j : Int).toNat lnk0)
  cases hb : hasE (L.lnks.getD j lnk0) (a, e) with
  | true =>
   rw [show hasE (L.lnks.getD (j : Int).toNat lnk0) (a, e) = true from hb] at hC
   rw [if_pos hb] at hsn
   repeat' (first|with_reducible (first|refine q_and ?_ ?_|exact True.intro|refine Red.o (by constructor) ?_|fail)|((with_reducible apply q_call);refine X_pure (hC) rfl ?_)|with_reducible (first|refine W_seq ?_|refine W_block ?_)|((with_reducible apply q_cond);refine X_cond rfl ?_ ?_;all_goals (intro hbq;(try simp only [bq] at hbq);(try (exfalso;omega))))|refine Rex.o (by (with_reducible constructor);apply Eq.refl) ?_|((with_reducible apply q_VOk);exact fun _ => ⟨rfl,rfl⟩)|((with_reducible apply q_CRB);kernel_rfl)|omega)
   ·
    refine LoopK_n (j + 1) ?_ ((by omega)) (by (try dsimp only); omega)
    refine X_weak rfl rfl rfl ?_ ?_ <;> repeat' (first|with_reducible (first|refine Wk.o (by constructor) ?_|refine q_and ?_ ?_|exact True.intro)|refine q_AgS rfl ?_ ?_|refine SLe.cons ?_ ?_|exact (rfl : known _ = _)|omega)
    all_goals (rw [hsn]; first | (simp; done) | (rw [lastL_snoc]; rfl))
  | false =>
   rw [show hasE (L.lnks.getD (j : Int).toNat lnk0) (a, e) = false from hb] at hC
   rw [if_neg (by rw [hb]; decide), List.append_nil] at hsn
   repeat' (first|with_reducible (first|refine q_and ?_ ?_|exact True.intro|refine Red.o (by constructor) ?_|fail)|((with_reducible apply q_call);refine X_pure (hC) rfl ?_)|with_reducible (first|refine W_seq ?_|refine W_block ?_)|((with_reducible apply q_cond);refine X_cond rfl ?_ ?_;all_goals (intro hbq;(try simp only [bq] at hbq);(try (exfalso;omega))))|refine Rex.o (by (with_reducible constructor);apply Eq.refl) ?_|((with_reducible apply q_VOk);exact fun _ => ⟨rfl,rfl⟩)|((with_reducible apply q_CRB);kernel_rfl)|omega)
   ·
    refine LoopK_n (j + 1) ?_ ((by omega)) (by (try dsimp only); omega)
    refine X_weak rfl rfl rfl ?_ ?_ <;> repeat' (first|with_reducible (first|refine Wk.o (by constructor) ?_|refine q_and ?_ ?_|exact True.intro)|refine q_AgS rfl ?_ ?_|refine SLe.cons ?_ ?_|exact (rfl : known _ = _)|omega)
    all_goals (rw [hsn]; try rfl)
 ·have hje : j = i := by omega
  subst hje
  repeat' (first|with_reducible (first|refine q_and ?_ ?_|exact True.intro|refine Red.o (by constructor) ?_|assumption)|with_reducible (refine W_seq ?_)|((with_reducible apply q_cond);refine X_cond rfl ?_ ?_;all_goals (intro hbq;(try simp only [bq] at hbq);(try (exfalso;omega))))|refine Rex.o (by (with_reducible constructor);apply Eq.refl) ?_|(intro (hgq : (_ : Bool) = true);(try simp only [bq] at hgq))|(intro (hgq : (_ : Bool) = false);(try simp only [bq] at hgq))|((with_reducible apply q_bt);simp only [bq])|(simp only [hgq,bq];done)|omega)
  ·refine VEq.c (CEq.bool ?_)
   rfl
theorem refLink_okV (L : Lay) (i : Nat) (hi : i < L.lnks.length) (hl : L.lnks.length ≤ 1000) (h2 : L.pts.length ≤ 1000) (h3 : L.secs.length ≤ 1000) : OkV Try.prog 49 [vLay L, .c (xI i)] [] (vI (linkErr L.secs.length L.pts.length (L.lnks.take i) (L.lnks.getD i lnk0))) [] := by
 have hH := fun k a e => has_okV k a e
 have f1 := fun a e hp => free_okV L i hi hl a e hp
 have c1 := refIn_okV (L.lnks.getD (i : Int).toNat lnk0).a 0 ((L.secs.length : Int) - 1)
 have c2 := refIn_okV (L.lnks.getD (i : Int).toNat lnk0).b 0 ((L.secs.length : Int) - 1)
 have c3 := refIn_okV (L.lnks.getD (i : Int).toNat lnk0).ae 0 1
 have c4 := refIn_okV (L.lnks.getD (i : Int).toNat lnk0).be 0 1
 have c5 := refIn_okV (L.lnks.getD (i : Int).toNat lnk0).pt (-1) ((L.pts.length : Int) - 1)
 have c6 := refIn_okV (L.lnks.getD (i : Int).toNat lnk0).ps 0 1
 unfold vLnk at hH
 generalize hK : L.lnks.getD i lnk0 = K at *
 have hKi : L.lnks.getD (i : Int).toNat lnk0 = K := hK
 by_cases hB : linkB L.secs.length L.pts.length K = true
 ·have hb := linkB_of hB
  have g1 := f1 K.a K.ae hb.2.2.2.2.2.2.2.2.1
  have g2 := f1 K.b K.be hb.2.2.2.2.2.2.2.2.1
  clear f1
  rw [← hKi] at hb
  unfold linkErr
  rw [if_neg (by rw [hB]; decide)]
  by_cases hab : K.a = K.b ∧ K.ae = K.be
  ·rw [if_pos (by rw [hab.1, hab.2])]
   rw [← hKi] at hab
   unfold vLay
   refine X_fnP mixedX Try.func49 rfl (by kernel_rfl) (Nat.le_of_ble_eq_true (by kernel_rfl)) (by kernel_rfl) rfl rfl ?_
   simp only [sl0, Nat.zero_add, Nat.reduceAdd]
   repeat' (first|with_reducible (first|refine q_and ?_ ?_|exact True.intro|refine Red.o (by constructor) ?_|assumption)|((with_reducible apply q_call);refine X_pure (c1) rfl ?_)|((with_reducible apply q_callG);refine X_pureG ((fun _ => c2)) rfl ?_ ?_)|((with_reducible apply q_callG);refine X_pureG ((fun _ => c3)) rfl ?_ ?_)|((with_reducible apply q_callG);refine X_pureG ((fun _ => c4)) rfl ?_ ?_)|((with_reducible apply q_callG);refine X_pureG ((fun _ => c5)) rfl ?_ ?_)|((with_reducible apply q_callG);refine X_pureG ((fun _ => c6)) rfl ?_ ?_)|((with_reducible apply q_W);refine W_two [0, 1, 2, 3, 4, 5, 6, 7, 8, 9] 10 11 [12, 13] 2 (by kernel_rfl) rfl rfl rfl rfl ?_)|((with_reducible apply q_TB);kernel_rfl)|((with_reducible apply q_LB);exact LB_SS rfl)|((with_reducible apply q_RK);refine RK_SS rfl ?_)|with_reducible (refine W_seq ?_)|((with_reducible apply q_cond);refine X_cond rfl ?_ ?_;all_goals (intro hbq;(try simp only [bq] at hbq);(try (exfalso;omega))))|refine Rex.o (by (with_reducible constructor);apply Eq.refl) ?_|(intro (hgq : (_ : Bool) = true);(try simp only [bq] at hgq))|(intro (hgq : (_ : Bool) = false);(try simp only [bq] at hgq))|((with_reducible apply q_VOk);exact fun _ => ⟨rfl,rfl⟩)|((with_reducible apply q_bt);simp only [bq])|(simp only [hgq,bq];done)|omega)
   all_goals rfl
  ·rw [if_neg (fun e => hab (by injection e with e1 e2; exact ⟨e1, e2⟩))]
   rw [← hKi] at hab
   unfold vLay at g1 g2 ⊢
   refine X_fnP mixedX Try.func49 rfl (by kernel_rfl) (Nat.le_of_ble_eq_true (by kernel_rfl)) (by kernel_rfl) rfl rfl ?_
   simp only [sl0, Nat.zero_add, Nat.reduceAdd]
   repeat' (first|with_reducible (first|refine q_and ?_ ?_|exact True.intro|refine Red.o (by constructor) ?_|assumption)|((with_reducible apply q_call);refine X_pure (c1) rfl ?_)|((with_reducible apply q_callG);refine X_pureG ((fun _ => c2)) rfl ?_ ?_)|((with_reducible apply q_callG);refine X_pureG ((fun _ => c3)) rfl ?_ ?_)|((with_reducible apply q_callG);refine X_pureG ((fun _ => c4)) rfl ?_ ?_)|((with_reducible apply q_callG);refine X_pureG ((fun _ => c5)) rfl ?_ ?_)|((with_reducible apply q_callG);refine X_pureG ((fun _ => c6)) rfl ?_ ?_)|((with_reducible apply q_W);refine W_two [0, 1, 2, 3, 4, 5, 6, 7, 8, 9] 10 11 [12, 13] 2 (by kernel_rfl) rfl rfl rfl rfl ?_)|((with_reducible apply q_TB);kernel_rfl)|((with_reducible apply q_LB);exact LB_SS rfl)|((with_reducible apply q_RK);refine RK_SS rfl ?_)|with_reducible (first|refine W_seq ?_|refine W_block ?_)|((with_reducible apply q_cond);refine X_cond rfl ?_ ?_;all_goals (intro hbq;(try simp only [bq] at hbq);(try (exfalso;omega))))|refine Rex.o (by (with_reducible constructor);apply Eq.refl) ?_|(intro (hgq : (_ : Bool) = true);(try simp only [bq] at hgq))|(intro (hgq : (_ : Bool) = false);(try simp only [bq] at hgq))|((with_reducible apply q_VOk);exact fun _ => ⟨rfl,rfl⟩)|((with_reducible apply q_bt);simp only [bq])|(simp only [hgq,bq];done)|omega)
   clear c1 c2 c3 c4 c5 c6
   all_goals (
    refine W_loopS (fun j : Nat => SS [sI 1 i, sC 2 (pB 0), sC 5 (pB 1), sC 7 (pB 2), sC 8 (pB 3), sI 9 j] [some (.cells [rStr L.sts, rStr L.pts, rSec L.secs, rLnk L.lnks]), none, some (.cells [xI (L.lnks.getD (i : Int).toNat lnk0).a, xI (L.lnks.getD (i : Int).toNat lnk0).ae]), some (.cells [xI (L.lnks.getD (i : Int).toNat lnk0).b, xI (L.lnks.getD (i : Int).toNat lnk0).be])]) (fun j => j ≤ i ∧ (L.lnks.take j).any (fun k => hasE k ((L.lnks.getD (i : Int).toNat lnk0).a, (L.lnks.getD (i : Int).toNat lnk0).ae) && hasE k ((L.lnks.getD (i : Int).toNat lnk0).b, (L.lnks.getD (i : Int).toNat lnk0).be)) = false) (fun j => i - j) 0 ?_ ⟨by omega, rfl⟩ ?_
    ·
     refine X_weak rfl rfl rfl ?_ ?_ <;> repeat' (first|with_reducible (first|refine Wk.o (by constructor) ?_|refine q_and ?_ ?_|exact True.intro)|refine q_AgS rfl ?_ ?_|exact (rfl : known _ = _)|omega)
     all_goals rfl
    intro j hj
    obtain ⟨hj, hno⟩ := hj
    by_cases hji : j < i
    ·have hC := hH (L.lnks.getD (j : Int).toNat lnk0) (L.lnks.getD (i : Int).toNat lnk0).a (L.lnks.getD (i : Int).toNat lnk0).ae
     have hD := hH (L.lnks.getD (j : Int).toNat lnk0) (L.lnks.getD (i : Int).toNat lnk0).b (L.lnks.getD (i : Int).toNat lnk0).be
     have hsn : (L.lnks.take (j + 1)).any (fun k => hasE k ((L.lnks.getD (i : Int).toNat lnk0).a, (L.lnks.getD (i : Int).toNat lnk0).ae) && hasE k ((L.lnks.getD (i : Int).toNat lnk0).b, (L.lnks.getD (i : Int).toNat lnk0).be)) = ((L.lnks.take j).any (fun k => hasE k ((L.lnks.getD (i : Int).toNat lnk0).a, (L.lnks.getD (i : Int).toNat lnk0).ae) && hasE k ((L.lnks.getD (i : Int).toNat lnk0).b, (L.lnks.getD (i : Int).toNat lnk0).be)) || (hasE (L.lnks.getD (j : Int).toNat lnk0) ((L.lnks.getD (i : Int).toNat lnk0).a, (L.lnks.getD (i : Int).toNat lnk0).ae) && hasE (L.lnks.getD (j : Int).toNat lnk0) ((L.lnks.getD (i : Int).toNat lnk0).b, (L.lnks.getD (i : Int).toNat lnk0).be))) := by
      rw [List.take_succ_eq_append_getElem (show j < L.lnks.length by omega), List.any_append, List.any_cons, List.any_nil, Bool.or_false, Int.toNat_natCast j, List.getD_eq_getElem?_getD (l := L.lnks) (i := j), List.getElem?_eq_getElem (show j < L.lnks.length by omega)]
      rfl
     cases hc1 : hasE (L.lnks.getD (j : Int).toNat lnk0) ((L.lnks.getD (i : Int).toNat lnk0).a, (L.lnks.getD (i : Int).toNat lnk0).ae) with
     | true =>
      cases hc2 : hasE (L.lnks.getD (j : Int).toNat lnk0) ((L.lnks.getD (i : Int).toNat lnk0).b, (L.lnks.getD (i : Int).toNat lnk0).be) with
      | true =>
       have hany : (L.lnks.take i).any (fun k => hasE k (K.a, K.ae) && hasE k (K.b, K.be)) = true := by
        rw [hKi] at hc1 hc2
        refine List.any_eq_true.2 ⟨L.lnks.getD j lnk0, ?_, by rw [Bool.and_eq_true]; exact ⟨hc1, hc2⟩⟩
        rw [List.getD_eq_getElem?_getD, List.getElem?_eq_getElem (show j < L.lnks.length by omega)]
        exact List.mem_iff_getElem.2 ⟨j, by rw [List.length_take]; omega, List.getElem_take ..⟩
       rw [if_pos hany]
       rw [hc1] at hC
       rw [hc2] at hD
       repeat' (first|with_reducible (first|refine q_and ?_ ?_|exact True.intro|refine Red.o (by constructor) ?_|fail)|((with_reducible apply q_call);refine X_pure (hC) rfl ?_)|((with_reducible apply q_callG);refine X_pureG ((fun _ => hD)) rfl ?_ ?_)|with_reducible (first|refine W_seq ?_|refine W_block ?_)|((with_reducible apply q_cond);refine X_cond rfl ?_ ?_;all_goals (intro hbq;(try simp only [bq] at hbq);(try (exfalso;omega))))|refine Rex.o (by (with_reducible constructor);apply Eq.refl) ?_|(intro (hgq : (_ : Bool) = true);(try simp only [bq] at hgq))|((with_reducible apply q_VOk);exact fun _ => ⟨rfl,rfl⟩)|((with_reducible apply q_CRB);kernel_rfl)|((with_reducible apply q_bt);simp only [bq])|omega)
       all_goals rfl
      | false =>
       rw [hc1, hc2, hno] at hsn
       rw [hc1] at hC
       rw [hc2] at hD
       repeat' (first|with_reducible (first|refine q_and ?_ ?_|exact True.intro|refine Red.o (by constructor) ?_|fail)|((with_reducible apply q_call);refine X_pure (hC) rfl ?_)|((with_reducible apply q_callG);refine X_pureG ((fun _ => hD)) rfl ?_ ?_)|with_reducible (first|refine W_seq ?_|refine W_block ?_)|((with_reducible apply q_cond);refine X_cond rfl ?_ ?_;all_goals (intro hbq;(try simp only [bq] at hbq);(try (exfalso;omega))))|refine Rex.o (by (with_reducible constructor);apply Eq.refl) ?_|(intro (hgq : (_ : Bool) = true);(try simp only [bq] at hgq))|((with_reducible apply q_VOk);exact fun _ => ⟨rfl,rfl⟩)|((with_reducible apply q_CRB);kernel_rfl)|((with_reducible apply q_bt);simp only [bq])|omega)
       ·
        refine LoopK_n (j + 1) ?_ (⟨by omega, hsn⟩) (by (try dsimp only); omega)
        refine X_weak rfl rfl rfl ?_ ?_ <;> repeat' (first|with_reducible (first|refine Wk.o (by constructor) ?_|refine q_and ?_ ?_|exact True.intro)|refine q_AgS rfl ?_ ?_|exact (rfl : known _ = _)|omega)
     | false =>
      rw [hc1, hno, Bool.false_and] at hsn
      rw [hc1] at hC
      repeat' (first|with_reducible (first|refine q_and ?_ ?_|exact True.intro|refine Red.o (by constructor) ?_|fail)|((with_reducible apply q_call);refine X_pure (hC) rfl ?_)|((with_reducible apply q_callG);refine X_pureG ((fun _ => hD)) rfl ?_ ?_)|with_reducible (first|refine W_seq ?_|refine W_block ?_)|((with_reducible apply q_cond);refine X_cond rfl ?_ ?_;all_goals (intro hbq;(try simp only [bq] at hbq);(try (exfalso;omega))))|refine Rex.o (by (with_reducible constructor);apply Eq.refl) ?_|(intro (hgq : (_ : Bool) = true);(try simp only [bq] at hgq))|((with_reducible apply q_VOk);exact fun _ => ⟨rfl,rfl⟩)|((with_reducible apply q_CRB);kernel_rfl)|omega)
      ·
       refine LoopK_n (j + 1) ?_ (⟨by omega, hsn⟩) (by (try dsimp only); omega)
       refine X_weak rfl rfl rfl ?_ ?_ <;> repeat' (first|with_reducible (first|refine Wk.o (by constructor) ?_|refine q_and ?_ ?_|exact True.intro)|refine q_AgS rfl ?_ ?_|exact (rfl : known _ = _)|omega)
    ·have hje : i = j := by omega
     subst hje
     rw [hKi] at hno
     rw [if_neg (by rw [hno]; decide)]
     rw [← hKi] at g1 g2
     generalize hq1 : fitB (L.lnks.getD (i : Int).toNat lnk0) (atE (L.lnks.take i) ((L.lnks.getD (i : Int).toNat lnk0).a, (L.lnks.getD (i : Int).toNat lnk0).ae)) = q1 at g1
     generalize hq2 : fitB (L.lnks.getD (i : Int).toNat lnk0) (atE (L.lnks.take i) ((L.lnks.getD (i : Int).toNat lnk0).b, (L.lnks.getD (i : Int).toNat lnk0).be)) = q2 at g2
     rw [hKi] at hq1 hq2
     rw [hq1, hq2]
     cases q1 with
     | false =>
      rw [if_pos (.inl rfl)]
      repeat' (first|with_reducible (first|refine q_and ?_ ?_|exact True.intro|refine Red.o (by constructor) ?_|fail)|((with_reducible apply q_call);refine X_pure (g1) rfl ?_)|((with_reducible apply q_callG);refine X_pureG ((fun _ => g2)) rfl ?_ ?_)|with_reducible (refine W_seq ?_)|((with_reducible apply q_cond);refine X_cond rfl ?_ ?_;all_goals (intro hbq;(try simp only [bq] at hbq);(try (exfalso;omega))))|refine Rex.o (by (with_reducible constructor);apply Eq.refl) ?_|(intro (hgq : (_ : Bool) = true);(try simp only [bq] at hgq))|(intro (hgq : (_ : Bool) = false);(try simp only [bq] at hgq)))
      all_goals rfl
     | true =>
      cases q2 with
      | false =>
       rw [if_pos (.inr rfl)]
       repeat' (first|with_reducible (first|refine q_and ?_ ?_|exact True.intro|refine Red.o (by constructor) ?_|fail)|((with_reducible apply q_call);refine X_pure (g1) rfl ?_)|((with_reducible apply q_callG);refine X_pureG ((fun _ => g2)) rfl ?_ ?_)|with_reducible (refine W_seq ?_)|((with_reducible apply q_cond);refine X_cond rfl ?_ ?_;all_goals (intro hbq;(try simp only [bq] at hbq);(try (exfalso;omega))))|refine Rex.o (by (with_reducible constructor);apply Eq.refl) ?_|(intro (hgq : (_ : Bool) = true);(try simp only [bq] at hgq))|(intro (hgq : (_ : Bool) = false);(try simp only [bq] at hgq))|((with_reducible apply q_bt);simp only [bq]))
       all_goals rfl
      | true =>
       rw [if_neg (by simp)]
       repeat' (first|with_reducible (first|refine q_and ?_ ?_|exact True.intro|refine Red.o (by constructor) ?_|fail)|((with_reducible apply q_call);refine X_pure (g1) rfl ?_)|((with_reducible apply q_callG);refine X_pureG ((fun _ => g2)) rfl ?_ ?_)|with_reducible (refine W_seq ?_)|((with_reducible apply q_cond);refine X_cond rfl ?_ ?_;all_goals (intro hbq;(try simp only [bq] at hbq);(try (exfalso;omega))))|refine Rex.o (by (with_reducible constructor);apply Eq.refl) ?_|(intro (hgq : (_ : Bool) = true);(try simp only [bq] at hgq))|(intro (hgq : (_ : Bool) = false);(try simp only [bq] at hgq))|((with_reducible apply q_bt);simp only [bq]))
       all_goals rfl
    )
 ·have hB : linkB L.secs.length L.pts.length K = false := by simpa using hB
  unfold linkErr
  rw [if_pos hB]
  unfold linkB at hB
  rw [decide_eq_false_iff_not, ← hKi] at hB
  unfold vLay
  refine X_fnP mixedX Try.func49 rfl (by kernel_rfl) (Nat.le_of_ble_eq_true (by kernel_rfl)) (by kernel_rfl) rfl rfl ?_
  simp only [sl0, Nat.zero_add, Nat.reduceAdd]
  repeat' (first|with_reducible (first|refine q_and ?_ ?_|exact True.intro|refine Red.o (by constructor) ?_|assumption)|((with_reducible apply q_call);refine X_pure (c1) rfl ?_)|((with_reducible apply q_callG);refine X_pureG ((fun _ => c2)) rfl ?_ ?_)|((with_reducible apply q_callG);refine X_pureG ((fun _ => c3)) rfl ?_ ?_)|((with_reducible apply q_callG);refine X_pureG ((fun _ => c4)) rfl ?_ ?_)|((with_reducible apply q_callG);refine X_pureG ((fun _ => c5)) rfl ?_ ?_)|((with_reducible apply q_callG);refine X_pureG ((fun _ => c6)) rfl ?_ ?_)|with_reducible (refine W_seq ?_)|((with_reducible apply q_cond);refine X_cond rfl ?_ ?_;all_goals (intro hbq;(try simp only [bq] at hbq);(try (exfalso;omega))))|refine Rex.o (by (with_reducible constructor);apply Eq.refl) ?_|(intro (hgq : (_ : Bool) = true);(try simp only [bq] at hgq))|(intro (hgq : (_ : Bool) = false);(try simp only [bq] at hgq))|((with_reducible apply q_VOk);exact fun _ => ⟨rfl,rfl⟩)|((with_reducible apply q_bt);simp only [bq])|(simp only [hgq,bq];done)|omega)
  all_goals rfl
theorem drop_get {α : Type} {l : List α} {i : Nat} (d : α) (h : i < l.length) : l.drop i = l.getD i d :: l.drop (i + 1) := by
 rw [List.drop_eq_getElem_cons h, List.getD_eq_getElem?_getD, List.getElem?_eq_getElem h]
 rfl
theorem take_get {α : Type} {l : List α} {i : Nat} (d : α) (h : i < l.length) : l.take (i + 1) = l.take i ++ [l.getD i d] := by
 rw [List.take_succ_eq_append_getElem h, List.getD_eq_getElem?_getD, List.getElem?_eq_getElem h]
 rfl
theorem names_0 {l : List ByteArray} {i : Nat} (h : i < l.length) (h0 : nameErr (l.take i) (l.getD i ⟨#[]⟩) = 0) : namesErr (l.take i) (l.drop i) = namesErr (l.take (i + 1)) (l.drop (i + 1)) := by
 rw [drop_get ⟨#[]⟩ h, namesErr, if_pos h0, take_get ⟨#[]⟩ h]
theorem names_1 {l : List ByteArray} {i : Nat} (h : i < l.length) (h0 : ¬ nameErr (l.take i) (l.getD i ⟨#[]⟩) = 0) : namesErr (l.take i) (l.drop i) = nameErr (l.take i) (l.getD i ⟨#[]⟩) := by
 rw [drop_get ⟨#[]⟩ h, namesErr, if_neg h0]
theorem links_0 {a b : Nat} {l : List Lnk} {i : Nat} (h : i < l.length) (h0 : linkErr a b (l.take i) (l.getD i lnk0) = 0) : linksErr a b (l.take i) (l.drop i) = linksErr a b (l.take (i + 1)) (l.drop (i + 1)) := by
 rw [drop_get lnk0 h, linksErr, if_pos h0, take_get lnk0 h]
theorem links_1 {a b : Nat} {l : List Lnk} {i : Nat} (h : i < l.length) (h0 : ¬ linkErr a b (l.take i) (l.getD i lnk0) = 0) : linksErr a b (l.take i) (l.drop i) = linkErr a b (l.take i) (l.getD i lnk0) := by
 rw [drop_get lnk0 h, linksErr, if_neg h0]
theorem nm_get {l : List Sec} {i : Nat} (h : i < l.length) : (l.map Sec.nm).getD i ⟨#[]⟩ = (l.getD i sec0).nm := by
 simp [List.getD_eq_getElem?_getD, List.getElem?_map, List.getElem?_eq_getElem h]
theorem secs_0 {n : Nat} {l : List Sec} {i : Nat} (h : i < l.length) (h0 : nameErr ((l.map Sec.nm).take i) ((l.map Sec.nm).getD i ⟨#[]⟩) = 0) (h1 : secB n (l.getD i sec0) = true) : secsErr n ((l.map Sec.nm).take i) (l.drop i) = secsErr n ((l.map Sec.nm).take (i + 1)) (l.drop (i + 1)) := by
 rw [nm_get h] at h0
 rw [drop_get sec0 h, secsErr, if_pos h0, if_pos h1, take_get ⟨#[]⟩ (by rw [List.length_map]; exact h), nm_get h]
theorem secs_1 {n : Nat} {l : List Sec} {i : Nat} (h : i < l.length) (h0 : ¬ nameErr ((l.map Sec.nm).take i) ((l.map Sec.nm).getD i ⟨#[]⟩) = 0) : secsErr n ((l.map Sec.nm).take i) (l.drop i) = nameErr ((l.map Sec.nm).take i) ((l.map Sec.nm).getD i ⟨#[]⟩) := by
 rw [nm_get h] at h0 ⊢
 rw [drop_get sec0 h, secsErr, if_neg h0]
theorem secs_4 {n : Nat} {l : List Sec} {i : Nat} (h : i < l.length) (h0 : nameErr ((l.map Sec.nm).take i) ((l.map Sec.nm).getD i ⟨#[]⟩) = 0) (h1 : ¬ secB n (l.getD i sec0) = true) : secsErr n ((l.map Sec.nm).take i) (l.drop i) = 4 := by
 rw [nm_get h] at h0
 rw [drop_get sec0 h, secsErr, if_pos h0, if_neg h1]
theorem orErr_z (b : Int) : orErr 0 b = b := rfl
theorem orErr_n {a : Int} (h : ¬ a = 0) (b : Int) : orErr a b = a := if_neg h
theorem secNames_ok (L : Lay) (h : L.secs.length ≤ 1000) : OkV Try.prog 47 [vLay L] [] (.c (rStr (L.secs.map Sec.nm))) [] := by
 unfold vLay
 refine X_fn mixedX Try.func47 rfl (by kernel_rfl) (Nat.le_of_ble_eq_true (by kernel_rfl)) (by kernel_rfl) rfl rfl (Nat.le_of_ble_eq_true rfl) rfl rfl ?_
 simp only [sl0, Nat.zero_add, Nat.reduceAdd]
 repeat' (first|with_reducible (first|refine q_and ?_ ?_|exact True.intro)|refine Rex.o (by (with_reducible constructor);apply Eq.refl) ?_|fail)
 refine W_loopS (fun i : Nat => SS [sC 1 (pB 0), sC 3 (uStr ((L.secs.take i).map Sec.nm)), sI 4 i] [some (.cells [rStr L.sts, rStr L.pts, rSec L.secs, rLnk L.lnks])]) (fun i => i ≤ L.secs.length) (fun i => L.secs.length - i) 0 ?_ (by omega) ?_
 ·
  refine X_weak rfl rfl rfl ?_ ?_ <;> repeat' (first|with_reducible (first|refine Wk.o (by constructor) ?_|refine q_and ?_ ?_|exact True.intro)|refine q_AgS rfl ?_ ?_|exact CLe.nil_tipS|exact (rfl : known _ = _)|omega)
 intro i hi
 have hl : ((L.secs.take i).map Sec.nm).length = min i L.secs.length := by simp
 have hsn : i < L.secs.length → (L.secs.take (i + 1)).map Sec.nm = (L.secs.take i).map Sec.nm ++ [(L.secs.getD i sec0).nm] := fun h => by
  rw [take_get sec0 h, List.map_append]
  rfl
 repeat' (first|with_reducible (first|refine q_and ?_ ?_|exact True.intro|exact TkEq.nil _|refine Red.o (by constructor) ?_|assumption)|((with_reducible apply q_CI);intro hbq;(try simp only [bq] at hbq);(try (exfalso;omega)))|refine Rex.o (by (with_reducible constructor);apply Eq.refl) ?_|((with_reducible apply q_VOk);exact fun _ => ⟨rfl,rfl⟩)|((with_reducible apply q_eqN);rfl)|((with_reducible apply q_FE);exact rfl)|omega)
 ·
  refine LoopK_n (i + 1) ?_ ((by omega)) (by (try dsimp only); omega)
  refine X_weak rfl rfl rfl ?_ ?_ <;> repeat' (first|with_reducible (first|refine Wk.o (by constructor) ?_|refine q_and ?_ ?_|exact True.intro)|refine q_AgS rfl ?_ ?_|exact (rfl : known _ = _)|omega)
  ·rw [hsn (by omega)]; rfl
 ·have hie : i = L.secs.length := by omega
  subst hie
  rw [List.take_length]
  repeat' (first|with_reducible (first|refine Wk.o (by constructor) ?_|exact True.intro)|refine VEq.c ?_)
theorem refCheck_ok2 (L : Lay) (s1 : ShortS L.sts) (s2 : ShortS L.pts) (s3 : ShortS (L.secs.map Sec.nm)) (m1 : L.sts.length ≤ 9223372036854775807) (m2 : L.pts.length ≤ 9223372036854775807) (m3 : L.secs.length ≤ 9223372036854775807) (m4 : L.lnks.length ≤ 9223372036854775807) : OkV Try.prog 27 [vLay L] [] (vI (layErr L)) [] := by
 by_cases hf : 24 < L.sts.length ∨ 48 < L.pts.length ∨ 96 < L.secs.length ∨ 192 < L.lnks.length
 ·unfold layErr
  rw [if_pos hf]
  unfold vLay
  refine X_fnP mixedX Try.func27 rfl (by kernel_rfl) (Nat.le_of_ble_eq_true (by kernel_rfl)) (by kernel_rfl) rfl rfl ?_
  simp only [sl0, Nat.zero_add, Nat.reduceAdd]
  repeat' (first|with_reducible (first|refine q_and ?_ ?_|exact True.intro|refine Red.o (by constructor) ?_|assumption)|with_reducible (refine W_seq ?_)|((with_reducible apply q_cond);refine X_cond rfl ?_ ?_;all_goals (intro hbq;(try simp only [bq] at hbq);(try (exfalso;omega))))|refine Rex.o (by (with_reducible constructor);apply Eq.refl) ?_|(intro (hgq : (_ : Bool) = true);(try simp only [bq] at hgq))|(intro (hgq : (_ : Bool) = false);(try simp only [bq] at hgq))|((with_reducible apply q_bt);simp only [bq])|(simp only [hgq,bq];done))
  all_goals rfl
 by_cases hz : L.secs.length = 0
 ·unfold layErr
  rw [if_neg hf, if_pos hz]
  unfold vLay
  refine X_fnP mixedX Try.func27 rfl (by kernel_rfl) (Nat.le_of_ble_eq_true (by kernel_rfl)) (by kernel_rfl) rfl rfl ?_
  simp only [sl0, Nat.zero_add, Nat.reduceAdd]
  repeat' (first|with_reducible (first|refine q_and ?_ ?_|exact True.intro|refine Red.o (by constructor) ?_|assumption)|with_reducible (refine W_seq ?_)|((with_reducible apply q_cond);refine X_cond rfl ?_ ?_;all_goals (intro hbq;(try simp only [bq] at hbq);(try (exfalso;omega))))|refine Rex.o (by (with_reducible constructor);apply Eq.refl) ?_|(intro (hgq : (_ : Bool) = true);(try simp only [bq] at hgq))|(intro (hgq : (_ : Bool) = false);(try simp only [bq] at hgq))|((with_reducible apply q_bt);simp only [bq])|(simp only [hgq,bq];done))
  all_goals rfl
 have hR : layErr L = orErr (namesErr (L.sts.take 0) (L.sts.drop 0)) (orErr (namesErr (L.pts.take 0) (L.pts.drop 0)) (orErr (secsErr L.sts.length ((L.secs.map Sec.nm).take 0) (L.secs.drop 0)) (linksErr L.secs.length L.pts.length (L.lnks.take 0) (L.lnks.drop 0)))) := by
  unfold layErr
  rw [if_neg hf, if_neg hz]
  rfl
 have hN := secNames_ok L (by omega)
 have hK := fun i hi => refLink_okV L i hi (by omega) (by omega) (by omega)
 generalize layErr L = R at *
 unfold vLay at hN hK ⊢
 refine X_fnP mixedX Try.func27 rfl (by kernel_rfl) (Nat.le_of_ble_eq_true (by kernel_rfl)) (by kernel_rfl) rfl rfl ?_
 simp only [sl0, Nat.zero_add, Nat.reduceAdd]
 repeat' (first|with_reducible (first|refine q_and ?_ ?_|exact True.intro|refine Red.o (by constructor) ?_|assumption)|with_reducible (first|refine W_seq ?_|refine W_block ?_)|((with_reducible apply q_cond);refine X_cond rfl ?_ ?_;all_goals (intro hbq;(try simp only [bq] at hbq);(try (exfalso;omega))))|refine Rex.o (by (with_reducible constructor);apply Eq.refl) ?_|(intro (hgq : (_ : Bool) = true);(try simp only [bq] at hgq))|(intro (hgq : (_ : Bool) = false);(try simp only [bq] at hgq))|((with_reducible apply q_bt);simp only [bq])|(simp only [hgq,bq];done))
 refine W_loopS (fun i : Nat => SS [sC 1 (pB 0), sI 3 i] [some (.cells [rStr L.sts, rStr L.pts, rSec L.secs, rLnk L.lnks])]) (fun i => i ≤ L.sts.length ∧ R = orErr (namesErr (L.sts.take i) (L.sts.drop i)) (orErr (namesErr (L.pts.take 0) (L.pts.drop 0)) (orErr (secsErr L.sts.length ((L.secs.map Sec.nm).take 0) (L.secs.drop 0)) (linksErr L.secs.length L.pts.length (L.lnks.take 0) (L.lnks.drop 0))))) (fun i => L.sts.length - i) 0 ?_ ⟨by omega, hR⟩ ?_
 ·
  refine X_weak rfl rfl rfl ?_ ?_ <;> repeat' (first|with_reducible (first|refine Wk.o (by constructor) ?_|refine q_and ?_ ?_|exact True.intro)|refine q_AgS rfl ?_ ?_|exact (rfl : known _ = _)|omega)
 clear hR
 rintro i ⟨hi, hR⟩
 by_cases hil : i < L.sts.length
 ·have hC := refNames_okV L.sts i hil (by omega) s1
  by_cases hz2 : nameErr (L.sts.take i) (L.sts.getD i ⟨#[]⟩) = 0
  ·rw [hz2] at hC
   rw [names_0 hil hz2] at hR
   repeat' (first|with_reducible (first|refine q_and ?_ ?_|exact True.intro|refine Red.o (by constructor) ?_|fail)|((with_reducible apply q_call);refine X_pure (hC) rfl ?_)|with_reducible (first|refine W_seq ?_|refine W_block ?_)|((with_reducible apply q_cond);refine X_cond rfl ?_ ?_;all_goals (intro hbq;(try simp only [bq] at hbq);(try (exfalso;omega))))|refine Rex.o (by (with_reducible constructor);apply Eq.refl) ?_|omega)
   ·
    refine LoopK_n (i + 1) ?_ (⟨by omega, hR⟩) (by (try dsimp only); omega)
    refine X_weak rfl rfl rfl ?_ ?_ <;> repeat' (first|with_reducible (first|refine Wk.o (by constructor) ?_|refine q_and ?_ ?_|exact True.intro)|refine q_AgS rfl ?_ ?_|exact (rfl : known _ = _)|omega)
  ·rw [names_1 hil hz2, orErr_n hz2] at hR
   rw [← hR] at hC hz2
   repeat' (first|with_reducible (first|refine q_and ?_ ?_|exact True.intro|refine Red.o (by constructor) ?_|fail)|((with_reducible apply q_call);refine X_pure (hC) rfl ?_)|with_reducible (first|refine W_seq ?_|refine W_block ?_)|((with_reducible apply q_cond);refine X_cond rfl ?_ ?_;all_goals (intro hbq;(try simp only [bq] at hbq);(try (exfalso;omega))))|refine Rex.o (by (with_reducible constructor);apply Eq.refl) ?_|fail)
   all_goals rfl
 have hie : i = L.sts.length := by omega
 subst hie
 rw [List.drop_length, namesErr, orErr_z] at hR
 repeat' (first|with_reducible (first|refine q_and ?_ ?_|exact True.intro|refine Red.o (by constructor) ?_|fail)|with_reducible (first|refine W_seq ?_|refine W_block ?_)|((with_reducible apply q_cond);refine X_cond rfl ?_ ?_;all_goals (intro hbq;(try simp only [bq] at hbq);(try (exfalso;omega))))|refine Rex.o (by (with_reducible constructor);apply Eq.refl) ?_|fail)
 refine W_loopS (fun i : Nat => SS [sC 1 (pB 0), sI 5 i] [some (.cells [rStr L.sts, rStr L.pts, rSec L.secs, rLnk L.lnks])]) (fun i => i ≤ L.pts.length ∧ R = orErr (namesErr (L.pts.take i) (L.pts.drop i)) (orErr (secsErr L.sts.length ((L.secs.map Sec.nm).take 0) (L.secs.drop 0)) (linksErr L.secs.length L.pts.length (L.lnks.take 0) (L.lnks.drop 0)))) (fun i => L.pts.length - i) 0 ?_ ⟨by omega, hR⟩ ?_
 ·
  refine X_weak rfl rfl rfl ?_ ?_ <;> repeat' (first|with_reducible (first|refine Wk.o (by constructor) ?_|refine q_and ?_ ?_|exact True.intro)|refine q_AgS rfl ?_ ?_|exact (rfl : known _ = _)|omega)
 clear hR
 rintro i ⟨hi2, hR⟩
 by_cases hil : i < L.pts.length
 ·have hC := refNames_okV L.pts i hil (by omega) s2
  by_cases hz2 : nameErr (L.pts.take i) (L.pts.getD i ⟨#[]⟩) = 0
  ·rw [hz2] at hC
   rw [names_0 hil hz2] at hR
   repeat' (first|with_reducible (first|refine q_and ?_ ?_|exact True.intro|refine Red.o (by constructor) ?_|fail)|((with_reducible apply q_call);refine X_pure (hC) rfl ?_)|with_reducible (first|refine W_seq ?_|refine W_block ?_)|((with_reducible apply q_cond);refine X_cond rfl ?_ ?_;all_goals (intro hbq;(try simp only [bq] at hbq);(try (exfalso;omega))))|refine Rex.o (by (with_reducible constructor);apply Eq.refl) ?_|omega)
   ·
    refine LoopK_n (i + 1) ?_ (⟨by omega, hR⟩) (by (try dsimp only); omega)
    refine X_weak rfl rfl rfl ?_ ?_ <;> repeat' (first|with_reducible (first|refine Wk.o (by constructor) ?_|refine q_and ?_ ?_|exact True.intro)|refine q_AgS rfl ?_ ?_|exact (rfl : known _ = _)|omega)
  ·rw [names_1 hil hz2, orErr_n hz2] at hR
   rw [← hR] at hC hz2
   repeat' (first|with_reducible (first|refine q_and ?_ ?_|exact True.intro|refine Red.o (by constructor) ?_|fail)|((with_reducible apply q_call);refine X_pure (hC) rfl ?_)|with_reducible (first|refine W_seq ?_|refine W_block ?_)|((with_reducible apply q_cond);refine X_cond rfl ?_ ?_;all_goals (intro hbq;(try simp only [bq] at hbq);(try (exfalso;omega))))|refine Rex.o (by (with_reducible constructor);apply Eq.refl) ?_|fail)
   all_goals rfl
 have hie : i = L.pts.length := by omega
 subst hie
 rw [List.drop_length, namesErr, orErr_z] at hR
 have hml : (L.secs.map Sec.nm).length = L.secs.length := by rw [List.length_map]
 repeat' (first|with_reducible (first|refine q_and ?_ ?_|exact True.intro|refine Red.o (by constructor) ?_|fail)|((with_reducible apply q_call);refine X_pure (hN) rfl ?_)|with_reducible (first|refine W_seq ?_|refine W_block ?_)|((with_reducible apply q_cond);refine X_cond rfl ?_ ?_;all_goals (intro hbq;(try simp only [bq] at hbq);(try (exfalso;omega))))|refine Rex.o (by (with_reducible constructor);apply Eq.refl) ?_|fail)
 refine W_loopS (fun i : Nat => SS [sC 1 (pB 0), sC 7 (rStr (L.secs.map Sec.nm)), sI 8 i] [some (.cells [rStr L.sts, rStr L.pts, rSec L.secs, rLnk L.lnks])]) (fun i => i ≤ L.secs.length ∧ R = orErr (secsErr L.sts.length ((L.secs.map Sec.nm).take i) (L.secs.drop i)) (linksErr L.secs.length L.pts.length (L.lnks.take 0) (L.lnks.drop 0))) (fun i => L.secs.length - i) 0 ?_ ⟨by omega, hR⟩ ?_
 ·
  refine X_weak rfl rfl rfl ?_ ?_ <;> repeat' (first|with_reducible (first|refine Wk.o (by constructor) ?_|refine q_and ?_ ?_|exact True.intro)|refine q_AgS rfl ?_ ?_|exact (rfl : known _ = _)|omega)
 clear hR
 rintro i ⟨hi3, hR⟩
 by_cases hil : i < L.secs.length
 ·have hC := refNames_okV (L.secs.map Sec.nm) i (by omega) (by omega) s3
  by_cases hz2 : nameErr ((L.secs.map Sec.nm).take i) ((L.secs.map Sec.nm).getD i ⟨#[]⟩) = 0
  ·rw [hz2] at hC
   have c1 := refIn_okV (L.secs.getD (i : Int).toNat sec0).len 1 400
   have c2 := refIn_okV (L.secs.getD (i : Int).toNat sec0).lim 1000 100000
   have c3 := refIn_okV (L.secs.getD (i : Int).toNat sec0).grd (-40) 40
   have c4 := refIn_okV (L.secs.getD (i : Int).toNat sec0).stn (-1) ((L.sts.length : Int) - 1)
   by_cases hb : secB L.sts.length (L.secs.getD i sec0) = true
   ·rw [secs_0 hil hz2 hb] at hR
    have hq := secB_of (show secB L.sts.length (L.secs.getD (i : Int).toNat sec0) = true from hb)
    repeat' (first|with_reducible (first|refine q_and ?_ ?_|exact True.intro|refine Red.o (by constructor) ?_|assumption)|((with_reducible apply q_call);first|refine X_pure (hC) rfl ?_|refine X_pure (c1) rfl ?_)|((with_reducible apply q_callG);refine X_pureG ((fun _ => c2)) rfl ?_ ?_)|((with_reducible apply q_callG);refine X_pureG ((fun _ => c3)) rfl ?_ ?_)|((with_reducible apply q_callG);refine X_pureG ((fun _ => c4)) rfl ?_ ?_)|with_reducible (first|refine W_seq ?_|refine W_block ?_)|((with_reducible apply q_cond);refine X_cond rfl ?_ ?_;all_goals (intro hbq;(try simp only [bq] at hbq);(try (exfalso;omega))))|refine Rex.o (by (with_reducible constructor);apply Eq.refl) ?_|(intro (hgq : (_ : Bool) = true);(try simp only [bq] at hgq))|(intro (hgq : (_ : Bool) = false);(try simp only [bq] at hgq))|((with_reducible apply q_VOk);exact fun _ => ⟨rfl,rfl⟩)|((with_reducible apply q_bt);simp only [bq])|(simp only [hgq,bq];done)|omega)
    ·
     refine LoopK_n (i + 1) ?_ (⟨by omega, hR⟩) (by (try dsimp only); omega)
     refine X_weak rfl rfl rfl ?_ ?_ <;> repeat' (first|with_reducible (first|refine Wk.o (by constructor) ?_|refine q_and ?_ ?_|exact True.intro)|refine q_AgS rfl ?_ ?_|exact (rfl : known _ = _)|omega)
   ·rw [secs_4 hil hz2 hb] at hR
    have hq : ¬ secB L.sts.length (L.secs.getD (i : Int).toNat sec0) = true := hb
    unfold secB at hq
    rw [decide_eq_true_eq] at hq
    have hR4 : R = 4 := hR
    subst hR4
    repeat' (first|with_reducible (first|refine q_and ?_ ?_|exact True.intro|refine Red.o (by constructor) ?_|assumption)|((with_reducible apply q_call);first|refine X_pure (hC) rfl ?_|refine X_pure (c1) rfl ?_)|((with_reducible apply q_callG);refine X_pureG ((fun _ => c2)) rfl ?_ ?_)|((with_reducible apply q_callG);refine X_pureG ((fun _ => c3)) rfl ?_ ?_)|((with_reducible apply q_callG);refine X_pureG ((fun _ => c4)) rfl ?_ ?_)|with_reducible (first|refine W_seq ?_|refine W_block ?_)|((with_reducible apply q_cond);refine X_cond rfl ?_ ?_;all_goals (intro hbq;(try simp only [bq] at hbq);(try (exfalso;omega))))|refine Rex.o (by (with_reducible constructor);apply Eq.refl) ?_|(intro (hgq : (_ : Bool) = true);(try simp only [bq] at hgq))|(intro (hgq : (_ : Bool) = false);(try simp only [bq] at hgq))|((with_reducible apply q_VOk);exact fun _ => ⟨rfl,rfl⟩)|((with_reducible apply q_bt);simp only [bq])|(simp only [hgq,bq];done)|omega)
    all_goals rfl
  ·rw [secs_1 hil hz2, orErr_n hz2] at hR
   rw [← hR] at hC hz2
   repeat' (first|with_reducible (first|refine q_and ?_ ?_|exact True.intro|refine Red.o (by constructor) ?_|fail)|((with_reducible apply q_call);refine X_pure (hC) rfl ?_)|with_reducible (first|refine W_seq ?_|refine W_block ?_)|((with_reducible apply q_cond);refine X_cond rfl ?_ ?_;all_goals (intro hbq;(try simp only [bq] at hbq);(try (exfalso;omega))))|refine Rex.o (by (with_reducible constructor);apply Eq.refl) ?_|fail)
   all_goals rfl
 have hie : i = L.secs.length := by omega
 subst hie
 rw [List.drop_length, secsErr, orErr_z] at hR
 repeat' (first|with_reducible (first|refine q_and ?_ ?_|exact True.intro|refine Red.o (by constructor) ?_|fail)|with_reducible (first|refine W_seq ?_|refine W_block ?_)|((with_reducible apply q_cond);refine X_cond rfl ?_ ?_;all_goals (intro hbq;(try simp only [bq] at hbq);(try (exfalso;omega))))|refine Rex.o (by (with_reducible constructor);apply Eq.refl) ?_|fail)
 refine W_loopS (fun i : Nat => SS [sC 1 (pB 0), sI 11 i] [some (.cells [rStr L.sts, rStr L.pts, rSec L.secs, rLnk L.lnks])]) (fun i => i ≤ L.lnks.length ∧ R = linksErr L.secs.length L.pts.length (L.lnks.take i) (L.lnks.drop i)) (fun i => L.lnks.length - i) 0 ?_ ⟨by omega, hR⟩ ?_
 ·
  refine X_weak rfl rfl rfl ?_ ?_ <;> repeat' (first|with_reducible (first|refine Wk.o (by constructor) ?_|refine q_and ?_ ?_|exact True.intro)|refine q_AgS rfl ?_ ?_|exact (rfl : known _ = _)|omega)
 clear hR
 rintro i ⟨hi4, hR⟩
 by_cases hil : i < L.lnks.length
 ·have hC := hK i hil
  by_cases hz2 : linkErr L.secs.length L.pts.length (L.lnks.take i) (L.lnks.getD i lnk0) = 0
  ·rw [hz2] at hC
   rw [links_0 hil hz2] at hR
   repeat' (first|with_reducible (first|refine q_and ?_ ?_|exact True.intro|refine Red.o (by constructor) ?_|fail)|((with_reducible apply q_call);refine X_pure (hC) rfl ?_)|with_reducible (first|refine W_seq ?_|refine W_block ?_)|((with_reducible apply q_cond);refine X_cond rfl ?_ ?_;all_goals (intro hbq;(try simp only [bq] at hbq);(try (exfalso;omega))))|refine Rex.o (by (with_reducible constructor);apply Eq.refl) ?_|omega)
   ·
    refine LoopK_n (i + 1) ?_ (⟨by omega, hR⟩) (by (try dsimp only); omega)
    refine X_weak rfl rfl rfl ?_ ?_ <;> repeat' (first|with_reducible (first|refine Wk.o (by constructor) ?_|refine q_and ?_ ?_|exact True.intro)|refine q_AgS rfl ?_ ?_|exact (rfl : known _ = _)|omega)
  ·rw [links_1 hil hz2] at hR
   rw [← hR] at hC hz2
   repeat' (first|with_reducible (first|refine q_and ?_ ?_|exact True.intro|refine Red.o (by constructor) ?_|fail)|((with_reducible apply q_call);refine X_pure (hC) rfl ?_)|with_reducible (first|refine W_seq ?_|refine W_block ?_)|((with_reducible apply q_cond);refine X_cond rfl ?_ ?_;all_goals (intro hbq;(try simp only [bq] at hbq);(try (exfalso;omega))))|refine Rex.o (by (with_reducible constructor);apply Eq.refl) ?_|fail)
   all_goals rfl
 have hie : i = L.lnks.length := by omega
 subst hie
 rw [List.drop_length, linksErr] at hR
 subst hR
 repeat' (first|with_reducible (first|refine q_and ?_ ?_|exact True.intro|refine Red.o (by constructor) ?_|fail)|with_reducible (refine W_seq ?_)|((with_reducible apply q_cond);refine X_cond rfl ?_ ?_;all_goals (intro hbq;(try simp only [bq] at hbq);(try (exfalso;omega))))|refine Rex.o (by (with_reducible constructor);apply Eq.refl) ?_|fail)
 all_goals rfl
end Go.Proofs.Ythnfliopmjpdmaa.Av
namespace Go.Proofs.Ythnfliopmjpdmaa
open Go.RowKit
def BoxV (w : World) (p : Nat) (vs : List Value) : Prop := p < w.heap.size ∧ ∀ (j : Nat) (v : Value), vs[j]? = some v → w.cell? ⟨p, j, none⟩ = some v
theorem BoxV.new (w : World) (vs : List Value) (t : TypeId) : BoxV (w.alloc (.cells vs.toArray t)) w.heap.size vs :=
 ⟨by simp, fun j v h => by
  have e := (MapKept.heap_alloc w (.cells vs.toArray t)).1
  show (match (w.alloc (.cells vs.toArray t)).heap[w.heap.size]? with | some (.cells c _ _) => if Option.isSome (none : Option Nat) then none else c[j]? | _ => none) = some v
  rw [e]
  simpa using h⟩
theorem BoxV.below {w w' : World} {p : Nat} {vs : List Value} (h : BoxV w p vs) (hb : Below w.heap.size w w') : BoxV w' p vs :=
 ⟨Nat.lt_of_lt_of_le h.1 hb.size, fun j v e => (hb.cell (p := ⟨p, j, none⟩) h.1).trans (h.2 j v e)⟩
theorem BoxV.of_block {w w' : World} {p : Nat} {vs : List Value} (h : BoxV w p vs) (hs : p < w'.heap.size) (e : w'.heap[p]? = w.heap[p]?) : BoxV w' p vs :=
 ⟨hs, fun j v hv => (World.cell?_of_block (w := w) (a := ⟨p, j, none⟩) e).trans (h.2 j v hv)⟩
def RdF {α : Type} (n : Nat) (f : α → List Value) (w : World) (A : Option Addr) (xs : List α) : Prop :=
 ∀ k (h : k < xs.length), ∃ b off, A = some ⟨b, off, none⟩ ∧ b < w.heap.size ∧ ∀ (j : Nat) (v : Value), (f xs[k])[j]? = some v → w.cell? ⟨b, off + k * n + j, none⟩ = some v
theorem RdF.below {α : Type} {n : Nat} {f : α → List Value} {w w' : World} {A : Option Addr} {xs : List α} (h : RdF n f w A xs) (hb : Below w.heap.size w w') : RdF n f w' A xs := by
 intro k hk
 obtain ⟨b, off, e, hlt, h1⟩ := h k hk
 exact ⟨b, off, e, Nat.lt_of_lt_of_le hlt hb.size, fun j v hv => (hb.cell (p := ⟨b, _, none⟩) hlt).trans (h1 j v hv)⟩
def strF (s : ByteArray) : List Value := [.string s]
def secF (s : Sec) : List Value := [.string s.nm, .int .i64 s.len, .int .i64 s.lim, .int .i64 s.grd, .int .i64 s.stn]
def lnkF (k : Lnk) : List Value := [.int .i64 k.a, .int .i64 k.ae, .int .i64 k.b, .int .i64 k.be, .int .i64 k.pt, .int .i64 k.ps]
structure LayV where
 A1 : Option Addr
 c1 : Nat
 A2 : Option Addr
 c2 : Nat
 A3 : Option Addr
 c3 : Nat
 A4 : Option Addr
 c4 : Nat
def Short (l : List ByteArray) : Prop := ∀ s ∈ l, s.size ≤ 9223372036854775807
structure RdLay (w : World) (V : LayV) (L : Lay) : Prop where
 r1 : RdF 1 strF w V.A1 L.sts
 r2 : RdF 1 strF w V.A2 L.pts
 r3 : RdF 5 secF w V.A3 L.secs
 r4 : RdF 6 lnkF w V.A4 L.lnks
 s1 : Short L.sts
 s2 : Short L.pts
 s3 : Short (L.secs.map Sec.nm)
 n1 : L.sts.length ≤ V.c1
 n2 : L.pts.length ≤ V.c2
 n3 : L.secs.length ≤ V.c3
 n4 : L.lnks.length ≤ V.c4
 m1 : L.sts.length ≤ 9223372036854775807
 m2 : L.pts.length ≤ 9223372036854775807
 m3 : L.secs.length ≤ 9223372036854775807
 m4 : L.lnks.length ≤ 9223372036854775807
theorem RdLay.below {w w' : World} {V : LayV} {L : Lay} (h : RdLay w V L) (hb : Below w.heap.size w w') : RdLay w' V L :=
 ⟨h.r1.below hb, h.r2.below hb, h.r3.below hb, h.r4.below hb, h.s1, h.s2, h.s3, h.n1, h.n2, h.n3, h.n4, h.m1, h.m2, h.m3, h.m4⟩
theorem sectionInRange_any (V : LayV) (L : Lay) (s : Sec) (w : World) :
  Calls Try.prog 38 #[.agg #[.slice V.A1 L.sts.length V.c1, .slice V.A2 L.pts.length V.c2, .slice V.A3 L.secs.length V.c3, .slice V.A4 L.lnks.length V.c4], .agg #[.string s.nm, .int .i64 s.len, .int .i64 s.lim, .int .i64 s.grd, .int .i64 s.stn]] w fun e w' => e = .returned (.bool (secB L.sts.length s)) ∧ Below w.heap.size w w' := by
 go_enter Try.func38, Try.ntmps38
 go_wp2
 all_goals
  go_ret
  exact ⟨ret_bool (by rw [Bool.eq_iff_iff]; simp [secB]; try omega), ((Below.refl _ _).alloc (Nat.le_refl _) _).alloc (by simp) _⟩
end Go.Proofs.Ythnfliopmjpdmaa
namespace Go.Proofs.Ythnfliopmjpdmaa
open Go.RowKit
theorem flat_at {α : Type} (f : α → List Value) (n : Nat) (hf : ∀ x, (f x).length = n) : ∀ (xs : List α) (k : Nat) (h : k < xs.length) (j : Nat), j < n → (xs.flatMap f)[k * n + j]? = (f xs[k])[j]?
 | [], k, h, _, _ => absurd h (Nat.not_lt_zero _)
 | x :: r, 0, _, j, hj => by
  rw [List.flatMap_cons, Nat.zero_mul, Nat.zero_add, List.getElem?_append_left (by rw [hf]; exact hj)]; rfl
 | x :: r, k + 1, h, j, hj => by
  have ih := flat_at f n hf r k (by simpa using h) j hj
  rw [List.flatMap_cons, show (k + 1) * n + j = k * n + j + n by rw [Nat.add_mul]; omega, List.getElem?_append_right (by rw [hf]; omega), hf, Nat.add_sub_cancel, ih]; rfl
theorem flat_len {α : Type} (f : α → List Value) (n : Nat) (hf : ∀ x, (f x).length = n) (xs : List α) : (xs.flatMap f).length = xs.length * n := by
 induction xs with
 | nil => simp
 | cons x r ih => rw [List.flatMap_cons, List.length_append, hf, ih, List.length_cons, Nat.add_mul]; omega
theorem add_row (b j : Nat) : ((⟨b, 0, none⟩ : Addr).add j) = ⟨b, j, none⟩ := by unfold Addr.add; split <;> simp_all
def OwnF {α : Type} (w : World) (base : Nat) (T : TypeId) (n : Nat) (f : α → List Value) (v : Value) (xs : List α) : Prop := w.ownsRow base T n v xs.length (xs.flatMap f)
theorem OwnF.nil {α : Type} (w : World) (base : Nat) (T : TypeId) (n : Nat) (f : α → List Value) : OwnF w base T n f (.slice none 0 0) [] := World.ownsRow_nil w base T n
theorem OwnF.shape {α : Type} {w : World} {base : Nat} {T : TypeId} {n : Nat} {f : α → List Value} {v : Value} {xs : List α} (h : OwnF w base T n f v xs) : ∃ A c, v = .slice A xs.length c ∧ xs.length ≤ c ∧ c ≤ 9223372036854775807 := by
 rcases h.2 with ⟨h1, h2⟩ | ⟨g, cap, cur, h1, _, _, h3, h4, _⟩
 ·exact ⟨none, 0, by rw [h1, h2], by omega, by omega⟩
 ·exact ⟨_, cap, h1, h3, by unfold maxLen at h4; omega⟩
theorem OwnF.kept {α : Type} {w w' : World} {base : Nat} {T : TypeId} {n : Nat} {f : α → List Value} {v : Value} {xs : List α} {row : Option Nat} (h : OwnF w base T n f v xs) (hg : w.grownBy w' row) (hne : v.ownBlock = none ∨ v.ownBlock ≠ row) : OwnF w' base T n f v xs :=
 World.ownsRow.kept h hg hne
theorem grown_of_below {w w' : World} (hb : Below w.heap.size w w') : w.grownBy w' none := ⟨hb.os, hb.tape, hb.output, hb.size, fun k hk _ => hb.block k hk⟩
theorem OwnF.below {α : Type} {w w' : World} {base : Nat} {T : TypeId} {n : Nat} {f : α → List Value} {v : Value} {xs : List α} (h : OwnF w base T n f v xs) (hb : Below w.heap.size w w') : OwnF w' base T n f v xs :=
 h.kept (grown_of_below hb) (by cases hv : v.ownBlock <;> simp)
theorem OwnF.rd {α : Type} {w : World} {base : Nat} {T : TypeId} {n : Nat} {f : α → List Value} {A : Option Addr} {m c : Nat} {xs : List α} (hf : ∀ x, (f x).length = n) (h : OwnF w base T n f (.slice A m c) xs) : RdF n f w A xs := by
 intro k hk
 rcases h.2 with ⟨h1, h2⟩ | ⟨g, cap, cur, h1, _, hb, h3, h4, h5, h6⟩
 ·omega
 ·injection h1 with e1 e2 e3
  subst e1
  refine ⟨g, 0, rfl, (Array.getElem?_eq_some_iff.1 hb).1, fun j v hv => ?_⟩
  have hjn : j < n := by
   have := (List.getElem?_eq_some_iff.1 hv).1
   rw [hf] at this; exact this
  have e := flat_at f n hf xs k hk j hjn
  rw [hv] at e
  have := World.ownsRow.cells h (g := g) rfl _ _ e
  rw [add_row] at this
  rwa [Nat.zero_add]
end Go.Proofs.Ythnfliopmjpdmaa
namespace Go.Proofs.Ythnfliopmjpdmaa
open Go.RowKit
theorem lnkF_len (k : Lnk) : (lnkF k).length = 6 := rfl
structure CkI (w x : World) (n : Nat) (E : Nat → List Lnk) (Vs : Nat → Value) : Prop where
 row : x.rowIs w.heap.size 27 n Vs
 own : ∀ i, i < n → OwnF x (w.heap.size + 1) 58 6 lnkF (Vs i) (E i)
 apart : ∀ i j, i < n → j < n → i ≠ j → (Vs i).ownBlock = none ∨ (Vs i).ownBlock ≠ (Vs j).ownBlock
 bel : Below w.heap.size w x
theorem CkI.call {w x y : World} {n : Nat} {E : Nat → List Lnk} {Vs : Nat → Value} (h : CkI w x n E Vs) (hb : Below x.heap.size x y) : CkI w y n E Vs :=
 ⟨h.row.of_block (hb.block _ h.row.lt), fun i hi => (h.own i hi).below hb, h.apart, h.bel.trans (hb.mono h.bel.size)⟩
theorem CkI.congr {w x : World} {n : Nat} {E E' : Nat → List Lnk} {Vs : Nat → Value} (h : CkI w x n E Vs) (e : ∀ i, i < n → E i = E' i) : CkI w x n E' Vs :=
 ⟨h.row, fun i hi => by rw [← e i hi]; exact h.own i hi, h.apart, h.bel⟩
theorem CkI.blk {w x : World} {n : Nat} {E : Nat → List Lnk} {Vs : Nat → Value} (h : CkI w x n E Vs) {i : Nat} (hi : i < n) {q : Nat} (hq : (Vs i).ownBlock = some q) : w.heap.size + 1 ≤ q ∧ q < x.heap.size :=
 World.ownsRow.lt (h.own i hi) q hq
theorem CkI.start {w x : World} {n : Nat} (hrow : x.rowIs w.heap.size 27 n (fun _ => .slice none 0 0)) (hb : Below w.heap.size w x) : CkI w x n (fun _ => []) (fun _ => .slice none 0 0) :=
 ⟨hrow, fun i hi => OwnF.nil _ _ _ _ _, fun i j _ _ _ => .inl rfl, hb⟩
theorem CkI.put {w x w1 : World} {n : Nat} {E : Nat → List Lnk} {Vs : Nat → Value} (h : CkI w x n E Vs) {i : Nat} (hi : i < n) (k : Lnk) {g cap : Nat}
  (hown : w1.ownsRow (w.heap.size + 1) 58 6 (.slice (some ⟨g, 0, none⟩) ((E i).length + 1) cap) ((E i).length + 1) ((E i).flatMap lnkF ++ lnkF k)) (hg : x.grownBy w1 (Vs i).ownBlock) (hat : (Vs i).ownBlock = some g ∨ g = x.heap.size) :
  CkI w (w1.setCell ⟨w.heap.size, i, none⟩ (.slice (some ⟨g, 0, none⟩) ((E i).length + 1) cap)) n (fun j => if j = i then E i ++ [k] else E j) (fun j => if j = i then .slice (some ⟨g, 0, none⟩) ((E i).length + 1) cap else Vs j) := by
 have hne : some w.heap.size ≠ (Vs i).ownBlock := fun e => by have := h.blk hi e.symm; omega
 refine ⟨?_, fun j hj => ?_, fun a b ha hb hab => ?_, ?_⟩
 ·exact (h.row.of_block (hg.block _ h.row.lt hne)).set i _
 ·by_cases hji : j = i
  ·simp only [hji, if_true]
   refine ownsRow_setCell_below (base := w.heap.size + 1) ?_ (by simp) _
   rw [List.flatMap_append, List.length_append]
   simpa using hown
  ·simp only [if_neg hji]
   exact ownsRow_setCell_below (World.ownsRow.kept (h.own j hj) hg (h.apart j i hj hi hji)) (by simp) _
 ·by_cases hai : a = i
  ·have hbi : b ≠ i := fun e => hab (hai.trans e.symm)
   simp only [hai, if_true, if_neg hbi]
   right
   intro e
   have e' : some g = (Vs b).ownBlock := e
   rcases hat with hat | hat
   ·rcases h.apart b i hb hi hbi with h1 | h1
    ·rw [h1] at e'; cases e'
    ·exact h1 (by rw [← e', hat])
   ·have := h.blk hb e'.symm; omega
  ·by_cases hbi : b = i
   ·simp only [hbi, if_true, if_neg hai]
    by_cases hn : (Vs a).ownBlock = none
    ·left; exact hn
    ·right
     intro e
     have e' : (Vs a).ownBlock = some g := e
     rcases hat with hat | hat
     ·rcases h.apart a i ha hi hai with h1 | h1
      ·exact hn h1
      ·exact h1 (by rw [e', hat])
     ·have := h.blk ha e'; omega
   ·simp only [if_neg hai, if_neg hbi]
    exact h.apart a b ha hb hab
 ·exact (h.bel.grown hg h.bel.size (fun q hq => by have := h.blk hi hq; omega)).setCell (Nat.le_refl _) _
theorem BoxV.grown {w w' : World} {p : Nat} {vs : List Value} {row : Option Nat} (h : BoxV w p vs) (hg : w.grownBy w' row) (hne : some p ≠ row) : BoxV w' p vs :=
 h.of_block (Nat.lt_of_lt_of_le h.1 hg.size) (hg.block p h.1 hne)
theorem BoxV.far {w : World} {p : Nat} {vs : List Value} (h : BoxV w p vs) {a : Addr} (ha : p ≠ a.block) (v : Value) : BoxV (w.setCell a v) p vs :=
 h.of_block (by simp [World.setCell]; exact h.1) (Below.heap_setCell _ _ _ _ ha)
def endOf (i : Nat) : Int × Int := (((i / 2 : Nat) : Int), ((i % 2 : Nat) : Int))
def atI (prev : List Lnk) (i : Nat) : List Lnk := atE prev (endOf i)
theorem endOf_at {a ae : Int} {i : Nat} (h1 : 0 ≤ a) (h2 : 0 ≤ ae) (h3 : ae ≤ 1) (hi : 2 * a + ae = i) : endOf i = (a, ae) := by
 unfold endOf
 congr 1 <;> omega
theorem atE_snoc (prev : List Lnk) (k : Lnk) (x : Int × Int) : atE (prev ++ [k]) x = if hasE k x = true then atE prev x ++ [k] else atE prev x := by
 unfold atE
 rw [List.filter_append]
 by_cases h : hasE k x = true
 ·rw [if_pos h]; simp [h]
 ·rw [if_neg h]; simp [h]
theorem hasE_at {k : Lnk} {ia ib : Nat} (h1 : 0 ≤ k.a) (h2 : 0 ≤ k.ae) (h3 : k.ae ≤ 1) (h4 : 0 ≤ k.b) (h5 : 0 ≤ k.be) (h6 : k.be ≤ 1) (ha : 2 * k.a + k.ae = ia) (hb : 2 * k.b + k.be = ib) (i : Nat) : hasE k (endOf i) = true ↔ i = ia ∨ i = ib := by
 unfold hasE endOf
 simp only [decide_eq_true_eq]
 omega
theorem atI_step {prev : List Lnk} {k : Lnk} {ia ib : Nat} (h1 : 0 ≤ k.a) (h2 : 0 ≤ k.ae) (h3 : k.ae ≤ 1) (h4 : 0 ≤ k.b) (h5 : 0 ≤ k.be) (h6 : k.be ≤ 1) (ha : 2 * k.a + k.ae = ia) (hb : 2 * k.b + k.be = ib) (hne : ia ≠ ib) (i : Nat) :
  (if i = ib then (if ib = ia then atI prev ia ++ [k] else atI prev ib) ++ [k] else if i = ia then atI prev ia ++ [k] else atI prev i) = atI (prev ++ [k]) i := by
 have hh := hasE_at h1 h2 h3 h4 h5 h6 ha hb
 have e : ∀ j, atI (prev ++ [k]) j = if hasE k (endOf j) = true then atI prev j ++ [k] else atI prev j := fun j => atE_snoc _ _ _
 rw [e]
 by_cases hib : i = ib
 ·rw [if_pos hib, if_neg (Ne.symm hne), if_pos ((hh i).2 (.inr hib)), hib]
 ·rw [if_neg hib]
  by_cases hia : i = ia
  ·rw [if_pos hia, if_pos ((hh i).2 (.inl hia)), hia]
  ·rw [if_neg hia, if_neg (fun h => by rcases (hh i).1 h with h | h; exact hia h; exact hib h)]
end Go.Proofs.Ythnfliopmjpdmaa
namespace Go.Proofs.Ythnfliopmjpdmaa
section
variable {P : Program} {ops oh : Array Oper} {md : Region.Mode} {C : World → Prop} {n : Nat}
theorem wpAny_more {Q : Exit → Act → World → Prop} : ∀ (f : Nat) (listed : Array Bool) (a : Act) (w : World), wpAny P md ops Q f listed a w → wpAny P md ops Q (f + 1) listed a w
 | 0, _, _, _, h => ⟨fun _ => h.2, fun i hi => by rw [h.1] at hi; cases hi⟩
 | f + 1, _, _, _, h => ⟨h.1, fun i hi => wpOp_mono (fun a' w' h' => wpAny_more f _ a' w' h') (h.2 i hi)⟩
theorem wpAny_more_n {Q : Exit → Act → World → Prop} (f g : Nat) (listed : Array Bool) (a : Act) (w : World) (h : wpAny P md ops Q f listed a w) : wpAny P md ops Q (g + f) listed a w := by
 induction g with
 | zero => rw [Nat.zero_add]; exact h
 | succ g ih => rw [show g + 1 + f = g + f + 1 by omega]; exact wpAny_more _ _ _ _ ih
def headB (md : Region.Mode) (ops : Array Oper) (n : Nat) : Bool :=
 (List.range n).all fun j => match ops[j]? with
  | some o => (o.after.all fun e => !Region.binds md e || decide (e.on < j)) && (match o.guard with | none => true | some (i, _) => decide (i < n))
  | none => false
theorem headB_spec (h : headB md ops n = true) {j : Nat} (hj : j < n) :
  ∃ o, ops[j]? = some o ∧ (∀ e ∈ o.after, Region.binds md e = true → e.on < j) ∧ (∀ i b, o.guard = some (i, b) → i < n) := by
 have h1 := List.all_eq_true.1 h j (List.mem_range.2 hj)
 cases ho : ops[j]? with
 | none => rw [ho] at h1; cases h1
 | some o =>
  rw [ho] at h1
  simp only [Bool.and_eq_true] at h1
  refine ⟨o, rfl, fun e he hb => ?_, fun i b hg => ?_⟩
  ·have := (Array.all_eq_true'.1 h1.1) e he
   rw [hb] at this
   simpa using this
  ·have := h1.2
   rw [hg] at this
   simpa using this
theorem some_ready {listed : Array Bool} (hB : headB md ops n = true) (hsz : n ≤ listed.size) : ∀ j, j < n → listed.getD j true = false → ∃ i ∈ Region.ready md ops listed, i < n := by
 intro j
 induction j using Nat.strongRecOn with
 | _ j ih =>
  intro hj hun
  obtain ⟨o, ho, hback, _⟩ := headB_spec hB hj
  by_cases hall : ∀ e ∈ o.after, Region.binds md e = true → listed.getD e.on false = true
  ·exact ⟨j, mem_ready.2 ⟨hun, o, ho, hall⟩, hj⟩
  ·obtain ⟨e, he⟩ := Classical.not_forall.1 hall
   obtain ⟨hm, he2⟩ := Classical.not_imp.1 he
   obtain ⟨hb, hl⟩ := Classical.not_imp.1 he2
   have hlt := hback e hm hb
   exact ih e.on hlt (by omega) (getD_in (by omega) (by simpa using hl))
theorem yielded_head (hoh : ∀ j, j < n → oh[j]? = ops[j]?) (t : Array Value) {j : Nat} (hj : j < n) : yielded oh t j = yielded ops t j := by
 unfold yielded
 rw [hoh j hj]
theorem wanted_head (hoh : ∀ j, j < n → oh[j]? = ops[j]?) (t : Array Value) {o : Oper} (hg : ∀ i b, o.guard = some (i, b) → i < n) : Region.wanted o (yielded oh t) = Region.wanted o (yielded ops t) := by
 unfold Region.wanted
 cases ho : o.guard with
 | none => rfl
 | some x =>
  obtain ⟨i, b⟩ := x
  simp only
  rw [yielded_head hoh t (hg i b ho)]
theorem ready_head {lh listed : Array Bool} (hB : headB md ops n = true) (hoh : ∀ j, j < n → oh[j]? = ops[j]?) (hag : ∀ j d, j < n → lh.getD j d = listed.getD j d) {j : Nat} (hj : j < n) :
  j ∈ Region.ready md ops listed ↔ j ∈ Region.ready md oh lh := by
 obtain ⟨o, ho, hback, _⟩ := headB_spec hB hj
 rw [mem_ready, mem_ready, hag j true hj, hoh j hj]
 constructor
 ·rintro ⟨h0, o', ho', h1⟩
  refine ⟨h0, o', ho', fun e he hb => ?_⟩
  rw [ho] at ho'; injection ho' with ho'; subst ho'
  rw [hag _ _ (by have := hback e he hb; omega)]; exact h1 e he hb
 ·rintro ⟨h0, o', ho', h1⟩
  refine ⟨h0, o', ho', fun e he hb => ?_⟩
  rw [ho] at ho'; injection ho' with ho'; subst ho'
  rw [← hag _ _ (by have := hback e he hb; omega)]; exact h1 e he hb
def headL (n N : Nat) : Array Bool := ((List.range N).map fun i => decide (i < n)).toArray
theorem eq_headL {listed : Array Bool} (hs : listed.size = ops.size) (h1 : ∀ j, j < n → listed.getD j false = true) (h2 : ∀ t, n ≤ t → t < ops.size → listed.getD t true = false) : listed = headL n ops.size := by
 apply Array.ext
 ·simp [headL, hs]
 ·intro i hi _
  simp only [headL, List.getElem_toArray, List.getElem_map, List.getElem_range]
  rcases Nat.lt_or_ge i n with h | h
  ·have := h1 i h
   simp [hi] at this
   simp [h, this]
  ·have := h2 i h (by omega)
   simp [hi] at this
   simp [show ¬ i < n by omega, this]
theorem wpOp_head {Q : Exit → Act → World → Prop} {K : Act → World → Prop} {a : Act} {w : World} (hB : headB md ops n = true) (hoh : ∀ j, j < n → oh[j]? = ops[j]?) {i : Nat} (hi : i < n) (h : wpOp P oh Q i K a w) : wpOp P ops Q i K a w := by
 obtain ⟨o, ho, _, hg⟩ := headB_spec hB hi
 unfold wpOp at *
 rw [hoh i hi, ho] at h
 rw [ho]
 simp only at h ⊢
 rw [wanted_head hoh a.tmps hg] at h
 exact h
theorem wpAny_of_qhead {Q : Exit → Act → World → Prop} {Q0 : Act → Prop} {g : Nat} (hB : headB md ops n = true) (hoh : ∀ j, j < n → oh[j]? = ops[j]?) (hon : oh.size = n) (hn : n < ops.size)
  (hs : Region.sinkB md ops n = true) (hc : Region.chainB md ops n = true)
  (htail : ∀ a w, C w → Q0 a → wpAny P md ops Q g (headL n ops.size) a w) :
  ∀ (f : Nat) (lh listed : Array Bool) (a : Act) (w : World), C w → (∀ j d, j < n → lh.getD j d = listed.getD j d) → HeadInv md ops n listed →
   wpAnyQ P md oh C Q0 f lh a → wpAny P md ops Q (f + g) listed a w := by
 have done : ∀ (lh listed : Array Bool) (a : Act) (w : World), C w → (∀ j d, j < n → lh.getD j d = listed.getD j d) → HeadInv md ops n listed → Region.ready md oh lh = [] → Q0 a → wpAny P md ops Q g listed a w := by
  intro lh listed a w hC hag inv hr hq
  have hall : ∀ j, j < n → listed.getD j false = true := by
   intro j hj
   cases hl : listed.getD j false with
   | true => rfl
   | false =>
    obtain ⟨i, hi, hin⟩ := some_ready hB (by rw [inv.size]; omega) j hj (getD_in (by rw [inv.size]; omega) hl)
    rw [ready_head hB hoh hag hin, hr] at hi
    cases hi
  rw [eq_headL inv.size hall inv.tail]
  exact htail a w hC hq
 intro f
 induction f with
 | zero =>
  intro lh listed a w hC hag inv h
  rw [Nat.zero_add]
  exact done lh listed a w hC hag inv h.1 h.2
 | succ f ih =>
  intro lh listed a w hC hag inv h
  by_cases hr : Region.ready md oh lh = []
  ·exact wpAny_more_n g (f + 1) _ _ _ (done lh listed a w hC hag inv hr (h.1 hr))
  ·obtain ⟨i0, hi0⟩ := List.exists_mem_of_ne_nil _ hr
   have hi0n : i0 < n := by
    obtain ⟨_, o, ho, _⟩ := mem_ready.1 hi0
    rw [← hon]; exact (Array.getElem?_eq_some_iff.1 ho).1
   have hun : listed.getD i0 true = false := by rw [← hag i0 true hi0n]; exact (mem_ready.1 hi0).1
   rw [show f + 1 + g = (f + g) + 1 by omega]
   refine ⟨fun h0 => ?_, fun i hi => ?_⟩
   ·have := (ready_head hB hoh hag hi0n).2 hi0
    rw [h0] at this
    cases this
   ·have hin : i < n := by
     rcases Nat.lt_or_ge i n with h' | h'
     ·exact h'
     ·exact absurd hi (tail_waits hs hc hn inv _ i0 rfl hi0n hun i h')
    have h2 := h.2 i ((ready_head hB hoh hag hin).1 hi)
    refine wpOp_head hB hoh hin (wpOp_of_qOp hC (fun a' w' hC' hK => ih _ _ a' w' hC' (fun j d hj => ?_) (inv.set hi hin) hK) h2)
    by_cases hij : i = j
    ·subst hij
     have h3 : i < listed.size := by rw [inv.size]; omega
     have h4 : i < lh.size := by
      have := (mem_ready.1 ((ready_head hB hoh hag hin).1 hi)).1
      rcases Nat.lt_or_ge i lh.size with h' | h'
      ·exact h'
      ·simp [Array.getElem?_eq_none h'] at this
     simp [h3, h4]
    ·rw [getD_set_ne d hij, getD_set_ne d hij]; exact hag j d hj
theorem classOf (S : World → Prop) {w0 : World} (h : S w0) : ∃ (Z : Type) (_ : Nonempty Z) (f : Z → World), (∀ z, S (f z)) ∧ ∀ w', S w' → ∃ z, w' = f z :=
 ⟨{x : World // S x}, ⟨⟨w0, h⟩⟩, Subtype.val, fun z => z.2, fun w' hw => ⟨⟨w', hw⟩, rfl⟩⟩
def qtailB (md : Region.Mode) (ops : Array Oper) (n : Nat) : Bool :=
 headB md ops n && decide (n < ops.size) && Region.sinkB md ops n && Region.chainB md ops n && Region.seqB md ops (ops.size - n) n (headL n ops.size) && Region.lexB md (ops.extract 0 n)
theorem wp_region_qtail {id : Nat} {Q : Exit → Act → World → Prop} {a : Act} {w : World} {l : List Oper} (C : World → Prop) (n : Nat) (hm : P.follows .mixedOrders = true) (hB : qtailB .any l.toArray n = true) (hC : C { w with drawn := w.drawn + 1 })
  (h : wpQuiet P (l.take n).toArray C (fun a' => ∀ w', C w' → wpList P l.toArray Q (l.drop n) a' w') (l.take n) a) : (Code.region id l.toArray true).wp P Q a w := by
 simp only [qtailB, Bool.and_eq_true, decide_eq_true_eq] at hB
 obtain ⟨⟨⟨⟨⟨hb, hn⟩, hs⟩, hc⟩, hseq⟩, hlex⟩ := hB
 have hn' : n < l.length := by simpa using hn
 have he : l.toArray.extract 0 n = (l.take n).toArray := by simp
 rw [he] at hlex
 simp only [Region.lexB, Bool.and_eq_true] at hlex
 have hdl : (l.drop n).length = l.toArray.size - n := by simp
 have hsz : (l.take n).toArray.size = n := by simp; omega
 have hoh : ∀ j, j < n → (l.take n).toArray[j]? = l.toArray[j]? := fun j hj => by simp [hj]
 have inv0 : HeadInv .any l.toArray n (Array.replicate l.toArray.size false) :=
  ⟨by simp, fun j oj _ hl => (by rw [getD_replicate_false] at hl; cases hl), fun t _ ht => getD_in (by simpa using ht) (getD_replicate_false _ _)⟩
 have hq := wpAnyQ_lex (C := C) (md := .any) hlex.1 (l.take n) 0 (Array.replicate (l.take n).toArray.size false) a (by simp) (by simpa using hlex.2) h
 refine wp_region_any hm ?_
 have := wpAny_of_qhead (Q := Q) (g := l.toArray.size - n) hb hoh hsz hn hs hc (fun a' w' hC' hQ => by
  have := wpAny_of_seq (md := .any) (Q' := Q) (l.drop n) n (headL n l.toArray.size) a' w' (fun j => by simp [List.getElem?_drop]) (by rw [hdl]; exact hseq) (hQ w' hC')
  rwa [hdl] at this) _ _ _ a _ hC (fun j d hj => by
   have h1 : j < l.length := by omega
   rw [hsz]
   simp [hj, h1]) inv0 hq
 have e : (l.take n).length + (l.toArray.size - n) = l.toArray.size := by simp; omega
 rw [e] at this
 exact this
end
open Go.RowKit
theorem index_any (a ae : Int) (w : World) (h1 : 0 ≤ a) (h2 : a ≤ 1000000) (h3 : 0 ≤ ae) (h4 : ae ≤ 1) :
  Calls Try.prog 56 #[.agg #[.int .i64 a, .int .i64 ae]] w fun e w' => e = .returned (.int .i64 (2 * a + ae)) ∧ Below w.heap.size w w' := by
 go_enter Try.func56, Try.ntmps56
 go_wp2
 go_ret
 exact ⟨rfl, (Below.refl _ _).alloc (Nat.le_refl _) _⟩
theorem ends_any (k : Lnk) (w : World) :
  Calls Try.prog 55 #[.agg #[.int .i64 k.a, .int .i64 k.ae, .int .i64 k.b, .int .i64 k.be, .int .i64 k.pt, .int .i64 k.ps]] w fun e w' => e = .returned (.tuple #[.agg #[.int .i64 k.a, .int .i64 k.ae], .agg #[.int .i64 k.b, .int .i64 k.be]]) ∧ Below w.heap.size w w' := by
 go_enter Try.func55, Try.ntmps55
 go_wp2
 go_region
 go_wp2
 exact bodyPost_ret (v := .tuple #[.agg #[.int .i64 k.a, .int .i64 k.ae], .agg #[.int .i64 k.b, .int .i64 k.be]]) (by simp [results, Try.results55, go_sem]) rfl ⟨rfl, ((((Below.refl _ _).alloc (Nat.le_refl _) _).alloc (by simp) _).alloc (by simp; omega) _).drew⟩
def eqE (x y x' y' : Int) : Bool := decide (x = x' ∧ y = y')
theorem eql_end (x y x' y' : Int) (w : World) : (binOp .eql 100 (.agg #[.int .i64 x, .int .i64 y]) (.agg #[.int .i64 x', .int .i64 y'])).run Try.prog w = .ok (.bool (eqE x y x' y')) w := by
 by_cases h : x = x' <;> by_cases h2 : y = y' <;> simp [go_sem, eqE, h, h2]
def joinsB (a ae b be : Int) (k : Lnk) : Bool := (eqE a ae k.a k.ae && eqE b be k.b k.be) || (eqE a ae k.b k.be && eqE b be k.a k.ae)
theorem any_snoc (ls : List Lnk) (k : Nat) (h : k < ls.length) (p : Lnk → Bool) : (ls.take (k + 1)).any p = ((ls.take k).any p || p ls[k]) := by
 rw [List.take_succ_eq_append_getElem h, List.any_append]; simp
structure JnI (w x : World) (a ae b be : Int) (A : Option Addr) (ls : List Lnk) : Prop where
 ba : BoxV x w.heap.size [.int .i64 a, .int .i64 ae]
 bb : BoxV x (w.heap.size + 1) [.int .i64 b, .int .i64 be]
 rd : RdF 6 lnkF x A ls
 bel : Below w.heap.size w x
theorem JnI.call {w x y : World} {a ae b be : Int} {A : Option Addr} {ls : List Lnk} (h : JnI w x a ae b be A ls) (hb : Below x.heap.size x y) : JnI w y a ae b be A ls :=
 ⟨h.ba.below hb, h.bb.below hb, h.rd.below hb, h.bel.trans (hb.mono h.bel.size)⟩
theorem joined_any (A : Option Addr) (c : Nat) (ls : List Lnk) (a ae b be : Int) (w : World) (hR : RdF 6 lnkF w A ls) (hl : ls.length ≤ 9223372036854775807) :
  Calls Try.prog 57 #[.slice A ls.length c, .agg #[.int .i64 a, .int .i64 ae], .agg #[.int .i64 b, .int .i64 be]] w fun e w' => e = .returned (.bool (ls.any (joinsB a ae b be))) ∧ Below w.heap.size w w' := by
 have hb0 : Below w.heap.size w (w.alloc (.cells #[.int .i64 a, .int .i64 ae] 100)) := (Below.refl _ _).alloc (Nat.le_refl _) _
 have hb1 := (Below.refl _ (w.alloc (.cells #[.int .i64 a, .int .i64 ae] 100))).alloc (Nat.le_refl _) (.cells #[.int .i64 b, .int .i64 be] 100)
 have HI : Hid (JnI w ((w.alloc (.cells #[.int .i64 a, .int .i64 ae] 100)).alloc (.cells #[.int .i64 b, .int .i64 be] 100)) a ae b be A ls) := Lib.hid
  ⟨(BoxV.new w [.int .i64 a, .int .i64 ae] 100).below hb1, (by have := BoxV.new (w.alloc (.cells #[.int .i64 a, .int .i64 ae] 100)) [.int .i64 b, .int .i64 be] 100; simpa using this), (hR.below hb0).below hb1, hb0.trans (hb1.mono hb0.size)⟩
 clear hR hb0 hb1
 have heq := eql_end
 go_enter Try.func57, Try.ntmps57
 go_wp2
 go_loopw [13] (fun i wr => ∃ k : Nat, k ≤ ls.length ∧ i = .int .i64 k ∧ Hid ((ls.take k).any (joinsB a ae b be) = false) ∧ Hid (JnI w wr a ae b be A ls)) (fun i _ => ls.length - (intOf i).toNat)
 case atStart => exact ⟨0, by omega, rfl, Lib.hid rfl, HI⟩
 case round =>
  obtain ⟨k, hk, rfl, Hk, HI2⟩ := hrel
  by_cases hlt : k < ls.length
  ·have Hsn := Lib.hid (any_snoc ls k hlt (joinsB a ae b be))
   obtain ⟨bb, off, rfl, hbl, hc⟩ := HI2.out.rd k hlt
   obtain ⟨j, Hj⟩ : ∃ j, Hid (ls[k] = j) := ⟨_, Lib.hid rfl⟩
   rw [Hj.out] at hc Hsn
   have q0 := hc 0 _ rfl
   have q1 := hc 1 _ rfl
   have q2 := hc 2 _ rfl
   have q3 := hc 3 _ rfl
   have q4 := hc 4 _ rfl
   have q5 := hc 5 _ rfl
   rw [Nat.add_zero] at q0
   clear hc
   have hba : Below wr.heap.size wr (wr.alloc (.cells #[.int .i64 j.a, .int .i64 j.ae, .int .i64 j.b, .int .i64 j.be, .int .i64 j.pt, .int .i64 j.ps] 58)) := (Below.refl _ _).alloc (Nat.le_refl _) _
   have HI3 := Lib.hid (HI2.out.call hba)
   clear HI2 hba
   go_wp2_with fail
   refine (ends_any j _).mono ?_
   rintro e w2 ⟨rfl, hb2⟩
   have HI4 := Lib.hid (HI3.out.call hb2)
   clear q0 q1 q2 q3 q4 q5 hb2 HI3 hbl
   have c0 := HI4.out.ba.2 0 _ rfl
   have c1 := HI4.out.ba.2 1 _ rfl
   have d0 := HI4.out.bb.2 0 _ rfl
   have d1 := HI4.out.bb.2 1 _ rfl
   have g1 := HI4.out.ba.1
   have g2 := HI4.out.bb.1
   have hbn : Below w2.heap.size w2 ((w2.alloc (.cells #[.int .i64 j.a, .int .i64 j.ae] 100)).alloc (.cells #[.int .i64 j.b, .int .i64 j.be] 100)) := ((Below.refl _ _).alloc (Nat.le_refl _) _).alloc (by simp) _
   have HI5 := Lib.hid (HI4.out.call hbn)
   clear hbn
   cases h1 : eqE a ae j.a j.ae
   ·skip
    cases h3 : eqE a ae j.b j.be
    ·skip
     have HJ : Hid (joinsB a ae b be j = false) := Lib.hid (by simp [joinsB, h1, h3])
     go_wp2
     go_roundw
     case rel => exact ⟨k + 1, by omega, by go_num, Lib.hid (by rw [Hsn.out, Hk.out, HJ.out]; rfl), HI5⟩
     case measure => simp [intOf]; omega
    ·cases h4 : eqE b be j.a j.ae
     ·skip
      have HJ : Hid (joinsB a ae b be j = false) := Lib.hid (by simp [joinsB, h1, h3, h4])
      go_wp2
      go_roundw
      case rel => exact ⟨k + 1, by omega, by go_num, Lib.hid (by rw [Hsn.out, Hk.out, HJ.out]; rfl), HI5⟩
      case measure => simp [intOf]; omega
     ·skip
      have HJ : Hid (joinsB a ae b be j = true) := Lib.hid (by simp [joinsB, h1, h3, h4])
      have HA : Hid (ls.any (joinsB a ae b be) = true) := Lib.hid (List.any_eq_true.2 ⟨j, by rw [← Hj.out]; exact List.getElem_mem hlt, HJ.out⟩)
      go_wp2
      go_ret
      exact ⟨ret_bool HA.out.symm, HI5.out.bel⟩
   ·cases h2 : eqE b be j.b j.be
    ·skip
     cases h3 : eqE a ae j.b j.be
     ·skip
      have HJ : Hid (joinsB a ae b be j = false) := Lib.hid (by simp [joinsB, h1, h2, h3])
      go_wp2
      go_roundw
      case rel => exact ⟨k + 1, by omega, by go_num, Lib.hid (by rw [Hsn.out, Hk.out, HJ.out]; rfl), HI5⟩
      case measure => simp [intOf]; omega
     ·cases h4 : eqE b be j.a j.ae
      ·skip
       have HJ : Hid (joinsB a ae b be j = false) := Lib.hid (by simp [joinsB, h1, h2, h3, h4])
       go_wp2
       go_roundw
       case rel => exact ⟨k + 1, by omega, by go_num, Lib.hid (by rw [Hsn.out, Hk.out, HJ.out]; rfl), HI5⟩
       case measure => simp [intOf]; omega
      ·skip
       have HJ : Hid (joinsB a ae b be j = true) := Lib.hid (by simp [joinsB, h1, h2, h3, h4])
       have HA : Hid (ls.any (joinsB a ae b be) = true) := Lib.hid (List.any_eq_true.2 ⟨j, by rw [← Hj.out]; exact List.getElem_mem hlt, HJ.out⟩)
       go_wp2
       go_ret
       exact ⟨ret_bool HA.out.symm, HI5.out.bel⟩
    ·skip
     have HJ : Hid (joinsB a ae b be j = true) := Lib.hid (by simp [joinsB, h1, h2])
     have HA : Hid (ls.any (joinsB a ae b be) = true) := Lib.hid (List.any_eq_true.2 ⟨j, by rw [← Hj.out]; exact List.getElem_mem hlt, HJ.out⟩)
     go_wp2
     go_ret
     exact ⟨ret_bool HA.out.symm, HI5.out.bel⟩
  ·have HA : Hid (ls.any (joinsB a ae b be) = false) := Lib.hid (by have := Hk.out; rwa [List.take_of_length_le (by omega)] at this)
   go_wp2
   go_ret
   exact ⟨ret_bool HA.out.symm, HI2.out.bel⟩
end Go.Proofs.Ythnfliopmjpdmaa
namespace Go.Proofs.Ythnfliopmjpdmaa
open Go.RowKit
theorem fitB_one {k j : Lnk} : fitB k [j] = decide (k.pt ≠ -1 ∧ k.pt = j.pt ∧ k.ps ≠ j.ps) := rfl
theorem fits_any (k : Lnk) (A : Option Addr) (c : Nat) (ls : List Lnk) (w : World) (hR : RdF 6 lnkF w A ls) (hl : ls.length ≤ 9223372036854775807) :
  Calls Try.prog 58 #[.agg #[.int .i64 k.a, .int .i64 k.ae, .int .i64 k.b, .int .i64 k.be, .int .i64 k.pt, .int .i64 k.ps], .slice A ls.length c] w fun e w' => e = .returned (.bool (fitB k ls)) ∧ Below w.heap.size w w' := by
 obtain ⟨a, ae, b, be, pt, ps⟩ := k
 dsimp only
 match ls, hR, hl with
 | [], _, _ =>
  go_enter Try.func58, Try.ntmps58
  go_wp2
  go_ret
  exact ⟨rfl, (Below.refl _ _).alloc (Nat.le_refl _) _⟩
 | i :: j :: r, _, hl =>
  have HF : Hid (fitB ⟨a, ae, b, be, pt, ps⟩ (i :: j :: r) = false) := Lib.hid rfl
  obtain ⟨n, Hn⟩ : ∃ n, Hid ((i :: j :: r).length = n) := ⟨_, Lib.hid rfl⟩
  rw [HF.out, Hn.out]
  have hn : 2 ≤ n := by rw [← Hn.out]; simp
  have e0 : ((n : Int) == 0) = false := by simp; omega
  have e1 : ((n : Int) == 1) = false := by simp; omega
  clear hl
  go_enter Try.func58, Try.ntmps58
  go_wp2
  go_quiet (fail)
  go_wp2
  go_ret
  exact ⟨rfl, below_draws ((Below.refl _ _).alloc (Nat.le_refl _) _) _⟩
 | [j], hR, _ =>
  obtain ⟨ja, jae, jb, jbe, jpt, jps⟩ := j
  obtain ⟨bb, off, rfl, hbl, hc⟩ := hR 0 (by simp)
  have q4 := hc 4 _ rfl
  have q5 := hc 5 _ rfl
  simp only [Nat.zero_mul, Nat.add_zero] at q4 q5
  clear hc hR
  rw [fitB_one]
  dsimp only
  by_cases h1 : pt = -1
  ·rw [decide_eq_false (by omega)]
   have f1 : (pt != -1) = false := by rw [h1]; rfl
   clear h1
   go_enter Try.func58, Try.ntmps58
   go_wp2
   go_quiet (fail)
   go_wp2
   go_ret
   exact ⟨rfl, below_draws ((Below.refl _ _).alloc (Nat.le_refl _) _) _⟩
  ·have f1 : (pt != -1) = true := by simpa using h1
   by_cases h2 : pt = jpt
   ·have f2 : (pt == jpt) = true := by simpa using h2
    by_cases h3 : ps = jps
    ·rw [decide_eq_false (by omega)]
     have f3 : (ps != jps) = false := by simpa using h3
     clear h1 h2 h3
     go_enter Try.func58, Try.ntmps58
     go_wp2
     go_quiet (fail)
     go_wp2
     go_ret
     exact ⟨rfl, below_draws ((Below.refl _ _).alloc (Nat.le_refl _) _) _⟩
    ·rw [decide_eq_true (by omega)]
     have f3 : (ps != jps) = true := by simpa using h3
     clear h1 h2 h3
     go_enter Try.func58, Try.ntmps58
     go_wp2
     go_quiet (fail)
     go_wp2
     go_ret
     exact ⟨rfl, below_draws ((Below.refl _ _).alloc (Nat.le_refl _) _) _⟩
   ·rw [decide_eq_false (by omega)]
    have f2 : (pt == jpt) = false := by simpa using h2
    clear h1 h2
    go_enter Try.func58, Try.ntmps58
    go_wp2
    go_quiet (fail)
    go_wp2
    go_ret
    exact ⟨rfl, below_draws ((Below.refl _ _).alloc (Nat.le_refl _) _) _⟩
end Go.Proofs.Ythnfliopmjpdmaa
namespace Go.Proofs.Ythnfliopmjpdmaa
open Go.RowKit
theorem linkB_false {nsec npt : Nat} {k : Lnk} (h : ¬ (0 ≤ k.a ∧ k.a < nsec ∧ 0 ≤ k.b ∧ k.b < nsec ∧ 0 ≤ k.ae ∧ k.ae ≤ 1 ∧ 0 ≤ k.be ∧ k.be ≤ 1 ∧ -1 ≤ k.pt ∧ k.pt < npt ∧ 0 ≤ k.ps ∧ k.ps ≤ 1 ∧ (k.pt ≠ -1 ∨ k.ps = 0))) : linkB nsec npt k = false := decide_eq_false h
theorem linkB_true {nsec npt : Nat} {k : Lnk} (h : 0 ≤ k.a ∧ k.a < nsec ∧ 0 ≤ k.b ∧ k.b < nsec ∧ 0 ≤ k.ae ∧ k.ae ≤ 1 ∧ 0 ≤ k.be ∧ k.be ≤ 1 ∧ -1 ≤ k.pt ∧ k.pt < npt ∧ 0 ≤ k.ps ∧ k.ps ≤ 1 ∧ (k.pt ≠ -1 ∨ k.ps = 0)) : linkB nsec npt k = true := decide_eq_true h
theorem eq01 (n : Int) : ((n == 0) = true ∧ n = 0) ∨ ((n == 0) = false ∧ (n == 1) = true ∧ n = 1) ∨ ((n == 0) = false ∧ (n == 1) = false ∧ n ≠ 0 ∧ n ≠ 1) := by
 by_cases h : n = 0
 ·left; exact ⟨by rw [h]; rfl, h⟩
 ·by_cases h1 : n = 1
  ·right; left; exact ⟨by simpa using h, by rw [h1]; rfl, h1⟩
  ·right; right; exact ⟨by simpa using h, by simpa using h1, h, h1⟩
theorem neq1 (n : Int) : ((n != -1) = true ∧ n ≠ -1) ∨ ((n != -1) = false ∧ n = -1) := by
 by_cases h : n = -1
 ·right; exact ⟨by rw [h]; rfl, h⟩
 ·left; exact ⟨by simpa using h, h⟩
set_option maxHeartbeats 2000000 in
set_option maxRecDepth 100000 in
theorem linkInRange_any (V : LayV) (L : Lay) (k : Lnk) (w : World) :
  Calls Try.prog 54 #[.agg #[.slice V.A1 L.sts.length V.c1, .slice V.A2 L.pts.length V.c2, .slice V.A3 L.secs.length V.c3, .slice V.A4 L.lnks.length V.c4], .agg #[.int .i64 k.a, .int .i64 k.ae, .int .i64 k.b, .int .i64 k.be, .int .i64 k.pt, .int .i64 k.ps]] w fun e w' => e = .returned (.bool (linkB L.secs.length L.pts.length k)) ∧ Below w.heap.size w w' := by
 obtain ⟨a, ae, b, be, pt, ps⟩ := k
 dsimp only
 by_cases h1 : 0 ≤ a
 rotate_left
 ·have h1' : decide (0 ≤ a) = false := decide_eq_false h1
  have HE := Lib.hid (linkB_false (nsec := L.secs.length) (npt := L.pts.length) (k := ⟨a, ae, b, be, pt, ps⟩) (by dsimp only; omega))
  (go_enter Try.func54, Try.ntmps54); simp only [List.append_eq, List.cons_append, List.nil_append]
  go_wp2
  go_ret
  exact ⟨ret_bool HE.out.symm, ((Below.refl _ _).alloc (Nat.le_refl _) _).alloc (by simp) _⟩
 ·skip
  by_cases h2 : a < L.secs.length
  rotate_left
  ·have h2' : decide (a < (L.secs.length : Int)) = false := decide_eq_false h2
   have HE := Lib.hid (linkB_false (nsec := L.secs.length) (npt := L.pts.length) (k := ⟨a, ae, b, be, pt, ps⟩) (by dsimp only; omega))
   (go_enter Try.func54, Try.ntmps54); simp only [List.append_eq, List.cons_append, List.nil_append]
   go_wp2
   go_ret
   exact ⟨ret_bool HE.out.symm, ((Below.refl _ _).alloc (Nat.le_refl _) _).alloc (by simp) _⟩
  ·skip
   by_cases h3 : 0 ≤ b
   rotate_left
   ·have h3' : decide (0 ≤ b) = false := decide_eq_false h3
    have HE := Lib.hid (linkB_false (nsec := L.secs.length) (npt := L.pts.length) (k := ⟨a, ae, b, be, pt, ps⟩) (by dsimp only; omega))
    (go_enter Try.func54, Try.ntmps54); simp only [List.append_eq, List.cons_append, List.nil_append]
    go_wp2
    go_ret
    exact ⟨ret_bool HE.out.symm, ((Below.refl _ _).alloc (Nat.le_refl _) _).alloc (by simp) _⟩
   ·skip
    by_cases h4 : b < L.secs.length
    rotate_left
    ·have h4' : decide (b < (L.secs.length : Int)) = false := decide_eq_false h4
     have HE := Lib.hid (linkB_false (nsec := L.secs.length) (npt := L.pts.length) (k := ⟨a, ae, b, be, pt, ps⟩) (by dsimp only; omega))
     (go_enter Try.func54, Try.ntmps54); simp only [List.append_eq, List.cons_append, List.nil_append]
     go_wp2
     go_ret
     exact ⟨ret_bool HE.out.symm, ((Below.refl _ _).alloc (Nat.le_refl _) _).alloc (by simp) _⟩
    ·skip
     rcases eq01 ae with ⟨xae, eae⟩ | ⟨xae, yae, eae⟩ | ⟨xae, yae, eae, fae⟩
     ·skip
      rcases eq01 be with ⟨xbe, ebe⟩ | ⟨xbe, ybe, ebe⟩ | ⟨xbe, ybe, ebe, fbe⟩
      ·skip
       by_cases h7 : -1 ≤ pt
       rotate_left
       ·have h7' : decide (-1 ≤ pt) = false := decide_eq_false h7
        have HE := Lib.hid (linkB_false (nsec := L.secs.length) (npt := L.pts.length) (k := ⟨a, ae, b, be, pt, ps⟩) (by dsimp only; omega))
        clear eae ebe
        (go_enter Try.func54, Try.ntmps54); simp only [List.append_eq, List.cons_append, List.nil_append]
        go_wp2
        go_ret
        exact ⟨ret_bool HE.out.symm, ((Below.refl _ _).alloc (Nat.le_refl _) _).alloc (by simp) _⟩
       ·skip
        by_cases h8 : pt < L.pts.length
        rotate_left
        ·have h8' : decide (pt < (L.pts.length : Int)) = false := decide_eq_false h8
         have HE := Lib.hid (linkB_false (nsec := L.secs.length) (npt := L.pts.length) (k := ⟨a, ae, b, be, pt, ps⟩) (by dsimp only; omega))
         clear eae ebe
         (go_enter Try.func54, Try.ntmps54); simp only [List.append_eq, List.cons_append, List.nil_append]
         go_wp2
         go_ret
         exact ⟨ret_bool HE.out.symm, ((Below.refl _ _).alloc (Nat.le_refl _) _).alloc (by simp) _⟩
        ·skip
         rcases eq01 ps with ⟨xps, eps⟩ | ⟨xps, yps, eps⟩ | ⟨xps, yps, eps, fps⟩
         ·skip
          have HE := Lib.hid (linkB_true (nsec := L.secs.length) (npt := L.pts.length) (k := ⟨a, ae, b, be, pt, ps⟩) (by dsimp only; omega))
          clear eae ebe eps
          (go_enter Try.func54, Try.ntmps54); simp only [List.append_eq, List.cons_append, List.nil_append]
          go_wp2
          go_ret
          exact ⟨ret_bool HE.out.symm, ((Below.refl _ _).alloc (Nat.le_refl _) _).alloc (by simp) _⟩
         ·rcases neq1 pt with ⟨xpt, ept⟩ | ⟨xpt, ept⟩
          ·skip
           have HE := Lib.hid (linkB_true (nsec := L.secs.length) (npt := L.pts.length) (k := ⟨a, ae, b, be, pt, ps⟩) (by dsimp only; omega))
           clear eae ebe eps ept
           (go_enter Try.func54, Try.ntmps54); simp only [List.append_eq, List.cons_append, List.nil_append]
           go_wp2
           go_ret
           exact ⟨ret_bool HE.out.symm, ((Below.refl _ _).alloc (Nat.le_refl _) _).alloc (by simp) _⟩
          ·skip
           have HE := Lib.hid (linkB_false (nsec := L.secs.length) (npt := L.pts.length) (k := ⟨a, ae, b, be, pt, ps⟩) (by dsimp only; omega))
           clear eae ebe eps ept
           (go_enter Try.func54, Try.ntmps54); simp only [List.append_eq, List.cons_append, List.nil_append]
           go_wp2
           go_ret
           exact ⟨ret_bool HE.out.symm, ((Below.refl _ _).alloc (Nat.le_refl _) _).alloc (by simp) _⟩
         ·skip
          have HE := Lib.hid (linkB_false (nsec := L.secs.length) (npt := L.pts.length) (k := ⟨a, ae, b, be, pt, ps⟩) (by dsimp only; omega))
          clear eae ebe eps fps
          (go_enter Try.func54, Try.ntmps54); simp only [List.append_eq, List.cons_append, List.nil_append]
          go_wp2
          go_ret
          exact ⟨ret_bool HE.out.symm, ((Below.refl _ _).alloc (Nat.le_refl _) _).alloc (by simp) _⟩
      ·skip
       by_cases h7 : -1 ≤ pt
       rotate_left
       ·have h7' : decide (-1 ≤ pt) = false := decide_eq_false h7
        have HE := Lib.hid (linkB_false (nsec := L.secs.length) (npt := L.pts.length) (k := ⟨a, ae, b, be, pt, ps⟩) (by dsimp only; omega))
        clear eae ebe
        (go_enter Try.func54, Try.ntmps54); simp only [List.append_eq, List.cons_append, List.nil_append]
        go_wp2
        go_ret
        exact ⟨ret_bool HE.out.symm, ((Below.refl _ _).alloc (Nat.le_refl _) _).alloc (by simp) _⟩
       ·skip
        by_cases h8 : pt < L.pts.length
        rotate_left
        ·have h8' : decide (pt < (L.pts.length : Int)) = false := decide_eq_false h8
         have HE := Lib.hid (linkB_false (nsec := L.secs.length) (npt := L.pts.length) (k := ⟨a, ae, b, be, pt, ps⟩) (by dsimp only; omega))
         clear eae ebe
         (go_enter Try.func54, Try.ntmps54); simp only [List.append_eq, List.cons_append, List.nil_append]
         go_wp2
         go_ret
         exact ⟨ret_bool HE.out.symm, ((Below.refl _ _).alloc (Nat.le_refl _) _).alloc (by simp) _⟩
        ·skip
         rcases eq01 ps with ⟨xps, eps⟩ | ⟨xps, yps, eps⟩ | ⟨xps, yps, eps, fps⟩
         ·skip
          have HE := Lib.hid (linkB_true (nsec := L.secs.length) (npt := L.pts.length) (k := ⟨a, ae, b, be, pt, ps⟩) (by dsimp only; omega))
          clear eae ebe eps
          (go_enter Try.func54, Try.ntmps54); simp only [List.append_eq, List.cons_append, List.nil_append]
          go_wp2
          go_ret
          exact ⟨ret_bool HE.out.symm, ((Below.refl _ _).alloc (Nat.le_refl _) _).alloc (by simp) _⟩
         ·rcases neq1 pt with ⟨xpt, ept⟩ | ⟨xpt, ept⟩
          ·skip
           have HE := Lib.hid (linkB_true (nsec := L.secs.length) (npt := L.pts.length) (k := ⟨a, ae, b, be, pt, ps⟩) (by dsimp only; omega))
           clear eae ebe eps ept
           (go_enter Try.func54, Try.ntmps54); simp only [List.append_eq, List.cons_append, List.nil_append]
           go_wp2
           go_ret
           exact ⟨ret_bool HE.out.symm, ((Below.refl _ _).alloc (Nat.le_refl _) _).alloc (by simp) _⟩
          ·skip
           have HE := Lib.hid (linkB_false (nsec := L.secs.length) (npt := L.pts.length) (k := ⟨a, ae, b, be, pt, ps⟩) (by dsimp only; omega))
           clear eae ebe eps ept
           (go_enter Try.func54, Try.ntmps54); simp only [List.append_eq, List.cons_append, List.nil_append]
           go_wp2
           go_ret
           exact ⟨ret_bool HE.out.symm, ((Below.refl _ _).alloc (Nat.le_refl _) _).alloc (by simp) _⟩
         ·skip
          have HE := Lib.hid (linkB_false (nsec := L.secs.length) (npt := L.pts.length) (k := ⟨a, ae, b, be, pt, ps⟩) (by dsimp only; omega))
          clear eae ebe eps fps
          (go_enter Try.func54, Try.ntmps54); simp only [List.append_eq, List.cons_append, List.nil_append]
          go_wp2
          go_ret
          exact ⟨ret_bool HE.out.symm, ((Below.refl _ _).alloc (Nat.le_refl _) _).alloc (by simp) _⟩
      ·skip
       have HE := Lib.hid (linkB_false (nsec := L.secs.length) (npt := L.pts.length) (k := ⟨a, ae, b, be, pt, ps⟩) (by dsimp only; omega))
       clear eae ebe fbe
       (go_enter Try.func54, Try.ntmps54); simp only [List.append_eq, List.cons_append, List.nil_append]
       go_wp2
       go_ret
       exact ⟨ret_bool HE.out.symm, ((Below.refl _ _).alloc (Nat.le_refl _) _).alloc (by simp) _⟩
     ·skip
      rcases eq01 be with ⟨xbe, ebe⟩ | ⟨xbe, ybe, ebe⟩ | ⟨xbe, ybe, ebe, fbe⟩
      ·skip
       by_cases h7 : -1 ≤ pt
       rotate_left
       ·have h7' : decide (-1 ≤ pt) = false := decide_eq_false h7
        have HE := Lib.hid (linkB_false (nsec := L.secs.length) (npt := L.pts.length) (k := ⟨a, ae, b, be, pt, ps⟩) (by dsimp only; omega))
        clear eae ebe
        (go_enter Try.func54, Try.ntmps54); simp only [List.append_eq, List.cons_append, List.nil_append]
        go_wp2
        go_ret
        exact ⟨ret_bool HE.out.symm, ((Below.refl _ _).alloc (Nat.le_refl _) _).alloc (by simp) _⟩
       ·skip
        by_cases h8 : pt < L.pts.length
        rotate_left
        ·have h8' : decide (pt < (L.pts.length : Int)) = false := decide_eq_false h8
         have HE := Lib.hid (linkB_false (nsec := L.secs.length) (npt := L.pts.length) (k := ⟨a, ae, b, be, pt, ps⟩) (by dsimp only; omega))
         clear eae ebe
         (go_enter Try.func54, Try.ntmps54); simp only [List.append_eq, List.cons_append, List.nil_append]
         go_wp2
         go_ret
         exact ⟨ret_bool HE.out.symm, ((Below.refl _ _).alloc (Nat.le_refl _) _).alloc (by simp) _⟩
        ·skip
         rcases eq01 ps with ⟨xps, eps⟩ | ⟨xps, yps, eps⟩ | ⟨xps, yps, eps, fps⟩
         ·skip
          have HE := Lib.hid (linkB_true (nsec := L.secs.length) (npt := L.pts.length) (k := ⟨a, ae, b, be, pt, ps⟩) (by dsimp only; omega))
          clear eae ebe eps
          (go_enter Try.func54, Try.ntmps54); simp only [List.append_eq, List.cons_append, List.nil_append]
          go_wp2
          go_ret
          exact ⟨ret_bool HE.out.symm, ((Below.refl _ _).alloc (Nat.le_refl _) _).alloc (by simp) _⟩
         ·rcases neq1 pt with ⟨xpt, ept⟩ | ⟨xpt, ept⟩
          ·skip
           have HE := Lib.hid (linkB_true (nsec := L.secs.length) (npt := L.pts.length) (k := ⟨a, ae, b, be, pt, ps⟩) (by dsimp only; omega))
           clear eae ebe eps ept
           (go_enter Try.func54, Try.ntmps54); simp only [List.append_eq, List.cons_append, List.nil_append]
           go_wp2
           go_ret
           exact ⟨ret_bool HE.out.symm, ((Below.refl _ _).alloc (Nat.le_refl _) _).alloc (by simp) _⟩
          ·skip
           have HE := Lib.hid (linkB_false (nsec := L.secs.length) (npt := L.pts.length) (k := ⟨a, ae, b, be, pt, ps⟩) (by dsimp only; omega))
           clear eae ebe eps ept
           (go_enter Try.func54, Try.ntmps54); simp only [List.append_eq, List.cons_append, List.nil_append]
           go_wp2
           go_ret
           exact ⟨ret_bool HE.out.symm, ((Below.refl _ _).alloc (Nat.le_refl _) _).alloc (by simp) _⟩
         ·skip
          have HE := Lib.hid (linkB_false (nsec := L.secs.length) (npt := L.pts.length) (k := ⟨a, ae, b, be, pt, ps⟩) (by dsimp only; omega))
          clear eae ebe eps fps
          (go_enter Try.func54, Try.ntmps54); simp only [List.append_eq, List.cons_append, List.nil_append]
          go_wp2
          go_ret
          exact ⟨ret_bool HE.out.symm, ((Below.refl _ _).alloc (Nat.le_refl _) _).alloc (by simp) _⟩
      ·skip
       by_cases h7 : -1 ≤ pt
       rotate_left
       ·have h7' : decide (-1 ≤ pt) = false := decide_eq_false h7
        have HE := Lib.hid (linkB_false (nsec := L.secs.length) (npt := L.pts.length) (k := ⟨a, ae, b, be, pt, ps⟩) (by dsimp only; omega))
        clear eae ebe
        (go_enter Try.func54, Try.ntmps54); simp only [List.append_eq, List.cons_append, List.nil_append]
        go_wp2
        go_ret
        exact ⟨ret_bool HE.out.symm, ((Below.refl _ _).alloc (Nat.le_refl _) _).alloc (by simp) _⟩
       ·skip
        by_cases h8 : pt < L.pts.length
        rotate_left
        ·have h8' : decide (pt < (L.pts.length : Int)) = false := decide_eq_false h8
         have HE := Lib.hid (linkB_false (nsec := L.secs.length) (npt := L.pts.length) (k := ⟨a, ae, b, be, pt, ps⟩) (by dsimp only; omega))
         clear eae ebe
         (go_enter Try.func54, Try.ntmps54); simp only [List.append_eq, List.cons_append, List.nil_append]
         go_wp2
         go_ret
         exact ⟨ret_bool HE.out.symm, ((Below.refl _ _).alloc (Nat.le_refl _) _).alloc (by simp) _⟩
        ·skip
         rcases eq01 ps with ⟨xps, eps⟩ | ⟨xps, yps, eps⟩ | ⟨xps, yps, eps, fps⟩
         ·skip
          have HE := Lib.hid (linkB_true (nsec := L.secs.length) (npt := L.pts.length) (k := ⟨a, ae, b, be, pt, ps⟩) (by dsimp only; omega))
          clear eae ebe eps
          (go_enter Try.func54, Try.ntmps54); simp only [List.append_eq, List.cons_append, List.nil_append]
          go_wp2
          go_ret
          exact ⟨ret_bool HE.out.symm, ((Below.refl _ _).alloc (Nat.le_refl _) _).alloc (by simp) _⟩
         ·rcases neq1 pt with ⟨xpt, ept⟩ | ⟨xpt, ept⟩
          ·skip
           have HE := Lib.hid (linkB_true (nsec := L.secs.length) (npt := L.pts.length) (k := ⟨a, ae, b, be, pt, ps⟩) (by dsimp only; omega))
           clear eae ebe eps ept
           (go_enter Try.func54, Try.ntmps54); simp only [List.append_eq, List.cons_append, List.nil_append]
           go_wp2
           go_ret
           exact ⟨ret_bool HE.out.symm, ((Below.refl _ _).alloc (Nat.le_refl _) _).alloc (by simp) _⟩
          ·skip
           have HE := Lib.hid (linkB_false (nsec := L.secs.length) (npt := L.pts.length) (k := ⟨a, ae, b, be, pt, ps⟩) (by dsimp only; omega))
           clear eae ebe eps ept
           (go_enter Try.func54, Try.ntmps54); simp only [List.append_eq, List.cons_append, List.nil_append]
           go_wp2
           go_ret
           exact ⟨ret_bool HE.out.symm, ((Below.refl _ _).alloc (Nat.le_refl _) _).alloc (by simp) _⟩
         ·skip
          have HE := Lib.hid (linkB_false (nsec := L.secs.length) (npt := L.pts.length) (k := ⟨a, ae, b, be, pt, ps⟩) (by dsimp only; omega))
          clear eae ebe eps fps
          (go_enter Try.func54, Try.ntmps54); simp only [List.append_eq, List.cons_append, List.nil_append]
          go_wp2
          go_ret
          exact ⟨ret_bool HE.out.symm, ((Below.refl _ _).alloc (Nat.le_refl _) _).alloc (by simp) _⟩
      ·skip
       have HE := Lib.hid (linkB_false (nsec := L.secs.length) (npt := L.pts.length) (k := ⟨a, ae, b, be, pt, ps⟩) (by dsimp only; omega))
       clear eae ebe fbe
       (go_enter Try.func54, Try.ntmps54); simp only [List.append_eq, List.cons_append, List.nil_append]
       go_wp2
       go_ret
       exact ⟨ret_bool HE.out.symm, ((Below.refl _ _).alloc (Nat.le_refl _) _).alloc (by simp) _⟩
     ·skip
      have HE := Lib.hid (linkB_false (nsec := L.secs.length) (npt := L.pts.length) (k := ⟨a, ae, b, be, pt, ps⟩) (by dsimp only; omega))
      clear eae fae
      (go_enter Try.func54, Try.ntmps54); simp only [List.append_eq, List.cons_append, List.nil_append]
      go_wp2
      go_ret
      exact ⟨ret_bool HE.out.symm, ((Below.refl _ _).alloc (Nat.le_refl _) _).alloc (by simp) _⟩
end Go.Proofs.Ythnfliopmjpdmaa
