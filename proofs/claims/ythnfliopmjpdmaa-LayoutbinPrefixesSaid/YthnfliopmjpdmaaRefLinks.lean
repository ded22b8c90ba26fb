/- Contracts of sectionNames and free of the reference of layouts. -/
import Derived.Test.YthnfliopmjpdmaaRefNames
import Derived.Test.YthnfliopmjpdmaaCkI
namespace Go.Proofs.Ythnfliopmjpdmaa
open Go.RowKit
set_option linter.unusedVariables false

theorem info_str : (Try.prog.info? 9).map (fun i => (i.zero, i.size, i.bytes)) = some (some (.string ⟨#[]⟩), 1, 16) := by kernel_rfl
theorem strF_len (s : ByteArray) : (strF s).length = 1 := rfl

/-- The call returns a slice of its own that holds these strings. -/
def RetStrs (w : World) (ss : List ByteArray) (e : Ending) (w' : World) : Prop :=
  ∃ A c, e = .returned (.slice A ss.length c) ∧ OwnF w' w.heap.size 9 1 strF (.slice A ss.length c) ss ∧ Below w.heap.size w w'

theorem sectionNames_any (V : LayV) (L : Lay) (w : World) (hR : RdLay w V L) (hs : L.secs.length ≤ 1000) :
    Calls Try.prog 47 #[.agg #[.slice V.A1 L.sts.length V.c1, .slice V.A2 L.pts.length V.c2, .slice V.A3 L.secs.length V.c3, .slice V.A4 L.lnks.length V.c4]] w (RetStrs w (L.secs.map Sec.nm)) := by
  obtain ⟨A1, c1, A2, c2, A3, c3, A4, c4⟩ := V
  dsimp only
  obtain ⟨i0, hi, hz0, hz1, hz2⟩ := info_parts info_str
  have Hb0 : Hid (Below w.heap.size w (w.alloc (.cells #[.slice A1 L.sts.length c1, .slice A2 L.pts.length c2, .slice A3 L.secs.length c3, .slice A4 L.lnks.length c4] 29))) := Lib.hid ((Below.refl _ _).alloc (Nat.le_refl _) _)
  have HB0 := Lib.hid (BoxV.new w [.slice A1 L.sts.length c1, .slice A2 L.pts.length c2, .slice A3 L.secs.length c3, .slice A4 L.lnks.length c4] 29)
  have HR0 := Lib.hid (hR.below Hb0.out)
  clear hR
  go_enter Try.func47, Try.ntmps47
  go_wp2
  generalize w.alloc (.cells #[.slice A1 L.sts.length c1, .slice A2 L.pts.length c2, .slice A3 L.secs.length c3, .slice A4 L.lnks.length c4] 29) = w0 at *
  go_loopw [3, 4] (fun v kv wr => ∃ (k : Nat) (A : Option Addr) (c : Nat), k ≤ L.secs.length ∧ kv = .int .i64 k ∧ v = .slice A k c ∧ Hid (wr.ownsRow w0.heap.size 9 1 (.slice A k c) k (((L.secs.take k).map Sec.nm).flatMap strF)) ∧ Hid (Below w0.heap.size w0 wr)) (fun _ kv _ => L.secs.length - (intOf kv).toNat)
  case atStart => exact ⟨0, none, 0, by omega, rfl, rfl, Lib.hid (by simpa using World.ownsRow_nil w0 w0.heap.size 9 1), Lib.hid (Below.refl _ _)⟩
  case round =>
    obtain ⟨k, A, c, hk, rfl, rfl, Ho, Hb⟩ := hrel
    have HB := Lib.hid (HB0.out.below Hb.out)
    have s2 := HB.out.2 2 _ rfl
    have s5 := HB.out.1
    by_cases hlt : k < L.secs.length
    · obtain ⟨bs, os, hA, hbl, hc⟩ := (HR0.out.below Hb.out).r3 k hlt
      obtain rfl : A3 = some ⟨bs, os, none⟩ := hA
      obtain ⟨s, Hs⟩ : ∃ s, Hid (L.secs[k] = s) := ⟨_, Lib.hid rfl⟩
      rw [Hs.out] at hc
      have q0 := hc 0 _ rfl
      rw [Nat.add_zero] at q0
      have Htk : Hid (((L.secs.take (k + 1)).map Sec.nm).flatMap strF = ((L.secs.take k).map Sec.nm).flatMap strF ++ [.string s.nm]) := Lib.hid (by rw [List.take_succ_eq_append_getElem hlt, Hs.out, List.map_append, List.flatMap_append]; rfl)
      clear hc
      go_wp2_with (at_builtin; refine wpList_append_lies _ (by rfl) _ _ _ (by rfl) w0.heap.size 9 i0 (.string ⟨#[]⟩) 1 16 Try.underlying25 hi hz0 hz1 hz2 rfl (by omega) _ k _ (by rfl) (Ho.out.alloc _) ⟨wr.heap.size, 0, none⟩ 1 1 [.string s.nm] (by rfl) (by rfl) ?c1 ?c2 (by omega) ?c3 ?c4 ?c5 (wr.heap.size + 1) (by simp) ?_)
      case c1 => exact World.news_of_block (heap_alloc_new wr _)
      case c2 => intro u hu; simp at hu; rw [hu]; rfl
      case c3 => unfold maxLen; omega
      case c4 => omega
      case c5 => have := Hb.out.size; simp; omega
      intro g cap w1 hown hg hat hlt1
      have Hown : Hid (w1.ownsRow w0.heap.size 9 1 (.slice (some ⟨g, 0, none⟩) (k + 1) cap) (k + 1) (((L.secs.take (k + 1)).map Sec.nm).flatMap strF)) := Lib.hid (by rw [Htk.out, List.map_take]; exact hown)
      have Hb1 : Hid (Below w0.heap.size w0 w1) := Lib.hid ((Hb.out.alloc Hb.out.size _).grown hg (by have := Hb.out.size; simp; omega) (fun q hq => ((Ho.out.lt q hq).1)))
      clear hown hg hat q0 s2 s5 HB hbl
      go_wp2
      go_roundw
      case rel => exact ⟨k + 1, _, _, by omega, by go_num, rfl, Hown, Hb1⟩
      case measure => simp [intOf]; omega
    · obtain rfl : L.secs.length = k := by omega
      go_wp2
      go_ret
      refine ⟨A, c, by rw [List.length_map]; rfl, ?_, Hb0.out.trans (Hb.out.mono Hb0.out.size)⟩
      have h := Ho.out
      rw [List.take_length] at h
      unfold OwnF
      rw [List.length_map]
      obtain ⟨h1, h2⟩ := h
      refine ⟨h1, h2.imp id (fun ⟨g, cap, cur, e1, e2, e3⟩ => ⟨g, cap, cur, e1, Nat.le_trans Hb0.out.size e2, e3⟩)⟩

theorem atE_take (ls : List Lnk) (k : Nat) (h : k < ls.length) (x : Int × Int) : atE (ls.take (k + 1)) x = if hasE ls[k] x = true then atE (ls.take k) x ++ [ls[k]] else atE (ls.take k) x := by
  rw [List.take_succ_eq_append_getElem h, atE_snoc]

theorem BoxV.alloc {w : World} {p : Nat} {vs : List Value} (h : BoxV w p vs) (o : Obj) : BoxV (w.alloc o) p vs := h.below ((Below.refl _ _).alloc (Nat.le_refl _) _)

theorem frozen_new (w : World) (c : Array Value) (t : TypeId) (j : Nat) : (w.alloc (.cells c t)).frozen? ⟨w.heap.size, j, none⟩ = false := by
  have e := (MapKept.heap_alloc w (.cells c t)).1
  unfold World.frozen?
  simp only
  rw [e]
  simp

theorem BoxV.set {w : World} {p : Nat} {vs : List Value} (h : BoxV w p vs) (j : Nat) (v : Value) : BoxV (w.setCell ⟨p, j, none⟩ v) p (vs.set j v) := by
  refine ⟨by simp [World.setCell]; exact h.1, fun i u hu => ?_⟩
  rw [List.getElem?_set] at hu
  by_cases hij : j = i
  · subst hij
    rw [if_pos rfl] at hu
    by_cases hl : j < vs.length
    · rw [if_pos hl] at hu
      injection hu with hu
      subst hu
      exact World.cell?_setCell_same _ _ _ (h.2 j _ (List.getElem?_eq_getElem hl))
    · rw [if_neg hl] at hu; cases hu
  · rw [if_neg hij] at hu
    exact (World.cell?_setCell_other _ _ _ _ (fun e => hij (by injection e))).trans (h.2 i u hu)

/-- What free keeps. -/
structure FrI (w x : World) (p3 p5 p7 p9 : Nat) (V : LayV) (L : Lay) (q qe : Int) (k o : Lnk) : Prop where
  b0 : BoxV x p3 [.slice V.A1 L.sts.length V.c1, .slice V.A2 L.pts.length V.c2, .slice V.A3 L.secs.length V.c3, .slice V.A4 L.lnks.length V.c4]
  b1 : BoxV x p5 [.int .i64 q, .int .i64 qe]
  b2 : BoxV x p7 [.int .i64 k.a, .int .i64 k.ae, .int .i64 k.b, .int .i64 k.be, .int .i64 k.pt, .int .i64 k.ps]
  b3 : BoxV x p9 [.int .i64 o.a, .int .i64 o.ae, .int .i64 o.b, .int .i64 o.be, .int .i64 o.pt, .int .i64 o.ps]
  bel : Below w.heap.size w x
  ord : w.heap.size ≤ p3 ∧ p3 < p5 ∧ p5 < p7 ∧ p7 < p9
  fr : ∀ j, x.frozen? ⟨p9, j, none⟩ = false
theorem FrI.call {w x y : World} {p3 p5 p7 p9 : Nat} {V : LayV} {L : Lay} {q qe : Int} {k o : Lnk} (h : FrI w x p3 p5 p7 p9 V L q qe k o) (hb : Below x.heap.size x y) : FrI w y p3 p5 p7 p9 V L q qe k o :=
  ⟨h.b0.below hb, h.b1.below hb, h.b2.below hb, h.b3.below hb, h.bel.trans (hb.mono h.bel.size), h.ord, fun j => (hb.frozen (p := ⟨p9, j, none⟩) h.b3.1).trans (h.fr j)⟩
theorem FrI.drewN {w x : World} {p3 p5 p7 p9 : Nat} {V : LayV} {L : Lay} {q qe : Int} {k o : Lnk} (h : FrI w x p3 p5 p7 p9 V L q qe k o) (m : Nat) : FrI w (x.drewN m) p3 p5 p7 p9 V L q qe k o :=
  h.call (below_draws (Below.refl _ _) m)
theorem FrI.start (w : World) (V : LayV) (L : Lay) (q qe : Int) (k : Lnk) (T1 T2 T3 : TypeId) : FrI w ((((w.alloc (.cells #[.slice V.A1 L.sts.length V.c1, .slice V.A2 L.pts.length V.c2, .slice V.A3 L.secs.length V.c3, .slice V.A4 L.lnks.length V.c4] T1)).alloc (.cells #[.int .i64 q, .int .i64 qe] T2)).alloc (.cells #[.int .i64 k.a, .int .i64 k.ae, .int .i64 k.b, .int .i64 k.be, .int .i64 k.pt, .int .i64 k.ps] T3)).alloc (.cells #[.int .i64 0, .int .i64 0, .int .i64 0, .int .i64 0, .int .i64 0, .int .i64 0] T3)) w.heap.size (w.heap.size + 1) (w.heap.size + 1 + 1) (w.heap.size + 1 + 1 + 1) V L q qe k ⟨0, 0, 0, 0, 0, 0⟩ := by
  refine ⟨(((BoxV.new w [.slice V.A1 L.sts.length V.c1, .slice V.A2 L.pts.length V.c2, .slice V.A3 L.secs.length V.c3, .slice V.A4 L.lnks.length V.c4] T1).alloc _).alloc _).alloc _, ?_, ?_, ?_, ((((Below.refl _ _).alloc (Nat.le_refl _) _).alloc (by simp) _).alloc (by simp; omega) _).alloc (by simp; omega) _, ⟨Nat.le_refl _, by omega, by omega, by omega⟩, fun j => by have := frozen_new (((w.alloc (.cells #[.slice V.A1 L.sts.length V.c1, .slice V.A2 L.pts.length V.c2, .slice V.A3 L.secs.length V.c3, .slice V.A4 L.lnks.length V.c4] T1)).alloc (.cells #[.int .i64 q, .int .i64 qe] T2)).alloc (.cells #[.int .i64 k.a, .int .i64 k.ae, .int .i64 k.b, .int .i64 k.be, .int .i64 k.pt, .int .i64 k.ps] T3)) #[.int .i64 0, .int .i64 0, .int .i64 0, .int .i64 0, .int .i64 0, .int .i64 0] T3 j; simpa only [World.size_alloc] using this⟩
  · have := BoxV.new (w.alloc (.cells #[.slice V.A1 L.sts.length V.c1, .slice V.A2 L.pts.length V.c2, .slice V.A3 L.secs.length V.c3, .slice V.A4 L.lnks.length V.c4] T1)) [.int .i64 q, .int .i64 qe] T2
    simp only [World.size_alloc] at this
    exact (this.alloc _).alloc _
  · have := BoxV.new ((w.alloc (.cells #[.slice V.A1 L.sts.length V.c1, .slice V.A2 L.pts.length V.c2, .slice V.A3 L.secs.length V.c3, .slice V.A4 L.lnks.length V.c4] T1)).alloc (.cells #[.int .i64 q, .int .i64 qe] T2)) [.int .i64 k.a, .int .i64 k.ae, .int .i64 k.b, .int .i64 k.be, .int .i64 k.pt, .int .i64 k.ps] T3
    simp only [World.size_alloc] at this
    exact this.alloc _
  · have := BoxV.new (((w.alloc (.cells #[.slice V.A1 L.sts.length V.c1, .slice V.A2 L.pts.length V.c2, .slice V.A3 L.secs.length V.c3, .slice V.A4 L.lnks.length V.c4] T1)).alloc (.cells #[.int .i64 q, .int .i64 qe] T2)).alloc (.cells #[.int .i64 k.a, .int .i64 k.ae, .int .i64 k.b, .int .i64 k.be, .int .i64 k.pt, .int .i64 k.ps] T3)) [.int .i64 0, .int .i64 0, .int .i64 0, .int .i64 0, .int .i64 0, .int .i64 0] T3
    simp only [World.size_alloc] at this
    exact this

theorem FrI.put {w x : World} {p3 p5 p7 p9 : Nat} {V : LayV} {L : Lay} {q qe : Int} {k o : Lnk} (h : FrI w x p3 p5 p7 p9 V L q qe k o) (l : Lnk) :
    FrI w ((((((x.setCell ⟨p9, 0, none⟩ (.int .i64 l.a)).setCell ⟨p9, 1, none⟩ (.int .i64 l.ae)).setCell ⟨p9, 2, none⟩ (.int .i64 l.b)).setCell ⟨p9, 3, none⟩ (.int .i64 l.be)).setCell ⟨p9, 4, none⟩ (.int .i64 l.pt)).setCell ⟨p9, 5, none⟩ (.int .i64 l.ps)) p3 p5 p7 p9 V L q qe k l := by
  obtain ⟨o1, o2, o3, o4⟩ := h.ord
  have hw : w.heap.size ≤ p9 := by omega
  refine ⟨(((((h.b0.far (show p3 ≠ p9 by omega) _).far (show p3 ≠ p9 by omega) _).far (show p3 ≠ p9 by omega) _).far (show p3 ≠ p9 by omega) _).far (show p3 ≠ p9 by omega) _).far (show p3 ≠ p9 by omega) _,
    (((((h.b1.far (show p5 ≠ p9 by omega) _).far (show p5 ≠ p9 by omega) _).far (show p5 ≠ p9 by omega) _).far (show p5 ≠ p9 by omega) _).far (show p5 ≠ p9 by omega) _).far (show p5 ≠ p9 by omega) _,
    (((((h.b2.far (show p7 ≠ p9 by omega) _).far (show p7 ≠ p9 by omega) _).far (show p7 ≠ p9 by omega) _).far (show p7 ≠ p9 by omega) _).far (show p7 ≠ p9 by omega) _).far (show p7 ≠ p9 by omega) _,
    (((((h.b3.set 0 _).set 1 _).set 2 _).set 3 _).set 4 _).set 5 _,
    (((((h.bel.setCell hw _).setCell hw _).setCell hw _).setCell hw _).setCell hw _).setCell hw _, h.ord, fun j => ?_⟩
  simp only [World.frozen?_setCell]
  exact h.fr j

set_option maxHeartbeats 1000000 in
set_option maxRecDepth 100000 in
theorem refFree_any (V : LayV) (L : Lay) (i : Nat) (q qe : Int) (w : World) (hR : RdLay w V L) (hl : L.lnks.length ≤ 192) (hi : i < L.lnks.length) (hpt : -1 ≤ L.lnks[i].pt) :
    Calls Try.prog 62 #[.agg #[.slice V.A1 L.sts.length V.c1, .slice V.A2 L.pts.length V.c2, .slice V.A3 L.secs.length V.c3, .slice V.A4 L.lnks.length V.c4], .int .i64 i, .agg #[.int .i64 q, .int .i64 qe]] w fun e w' => e = .returned (.bool (fitB L.lnks[i] (atE (L.lnks.take i) (q, qe)))) ∧ Below w.heap.size w w' := by
  obtain ⟨A1, c1, A2, c2, A3, c3, A4, c4⟩ := V
  dsimp only
  obtain ⟨k, Hk⟩ : ∃ k, Hid (L.lnks[i] = k) := ⟨_, Lib.hid rfl⟩
  rw [Hk.out] at hpt ⊢
  obtain ⟨R, HRs⟩ : ∃ R, Hid (fitB k (atE (L.lnks.take i) (q, qe)) = R) := ⟨_, Lib.hid rfl⟩
  rw [HRs.out]
  obtain ⟨b4, o4, hA4, hbl, hc⟩ := hR.r4 i hi
  obtain rfl : A4 = some ⟨b4, o4, none⟩ := hA4
  rw [Hk.out] at hc
  have q0 := hc 0 _ rfl
  have q1 := hc 1 _ rfl
  have q2 := hc 2 _ rfl
  have q3 := hc 3 _ rfl
  have q4 := hc 4 _ rfl
  have q5 := hc 5 _ rfl
  rw [Nat.add_zero] at q0
  clear hc
  have HR := Lib.hid hR
  clear hR
  have HF := Lib.hid (FrI.start w ⟨A1, c1, A2, c2, A3, c3, some ⟨b4, o4, none⟩, c4⟩ L q qe k 29 108 58)
  dsimp only at HF
  go_enter Try.func62, Try.ntmps62
  go_wp2
  clear q0 q1 q2 q3 q4 q5
  obtain ⟨p3, hp3⟩ : ∃ p3, w.heap.size = p3 := ⟨_, rfl⟩
  generalize (((w.alloc (.cells #[.slice A1 L.sts.length c1, .slice A2 L.pts.length c2, .slice A3 L.secs.length c3, .slice (some ⟨b4, o4, none⟩) L.lnks.length c4] 29)).alloc (.cells #[.int .i64 q, .int .i64 qe] 108)).alloc (.cells #[.int .i64 k.a, .int .i64 k.ae, .int .i64 k.b, .int .i64 k.be, .int .i64 k.pt, .int .i64 k.ps] 58)).alloc (.cells #[.int .i64 0, .int .i64 0, .int .i64 0, .int .i64 0, .int .i64 0, .int .i64 0] 58) = w1 at *
  rw [hp3] at HF ⊢
  clear hp3
  obtain ⟨p5, hp5⟩ : ∃ p5, p3 + 1 = p5 := ⟨_, rfl⟩
  rw [hp5] at HF ⊢
  clear hp5
  obtain ⟨p7, hp7⟩ : ∃ p7, p5 + 1 = p7 := ⟨_, rfl⟩
  rw [hp7] at HF ⊢
  clear hp7
  obtain ⟨p9, hp9⟩ : ∃ p9, p7 + 1 = p9 := ⟨_, rfl⟩
  rw [hp9] at HF ⊢
  clear hp9
  go_loopw [8, 10] (fun mv jv wr => ∃ (j m : Nat) (o : Lnk), j ≤ i ∧ m ≤ j ∧ jv = .int .i64 j ∧ mv = .int .i64 m ∧ Hid ((atE (L.lnks.take j) (q, qe)).length = m) ∧ Hid ((atE (L.lnks.take j) (q, qe)).getLastD ⟨0, 0, 0, 0, 0, 0⟩ = o) ∧ Hid (FrI w wr p3 p5 p7 p9 ⟨A1, c1, A2, c2, A3, c3, some ⟨b4, o4, none⟩, c4⟩ L q qe k o)) (fun _ jv _ => i - (intOf jv).toNat)
  case atStart => exact ⟨0, 0, _, by omega, by omega, rfl, rfl, Lib.hid rfl, Lib.hid rfl, HF⟩
  case round =>
    obtain ⟨j, m, o, hj, hm, rfl, rfl, Hm, Ho, HI⟩ := hrel
    clear HF
    by_cases hlt : j < i
    · have hjl : j < L.lnks.length := by omega
      obtain ⟨l, Hl⟩ : ∃ l, Hid (L.lnks[j] = l) := ⟨_, Lib.hid rfl⟩
      obtain ⟨h, Hh⟩ : ∃ h, Hid (hasE l (q, qe) = h) := ⟨_, Lib.hid rfl⟩
      have Hat : Hid (atE (L.lnks.take (j + 1)) (q, qe) = if h = true then atE (L.lnks.take j) (q, qe) ++ [l] else atE (L.lnks.take j) (q, qe)) := Lib.hid (by have := atE_take L.lnks j hjl (q, qe); rw [Hl.out, Hh.out] at this; exact this)
      go_wp2
      obtain ⟨Z, hZ, f, hS, hof⟩ := classOf (fun x => FrI w x p3 p5 p7 p9 ⟨A1, c1, A2, c2, A3, c3, some ⟨b4, o4, none⟩, c4⟩ L q qe k o) (HI.out.drewN 1)
      have hL : ∀ z, ∀ (n : Nat) (v : Value), (lnkF l)[n]? = some v → (f z).cell? ⟨b4, o4 + j * 6 + n, none⟩ = some v := fun z n v hv => by
        obtain ⟨b', o', e', _, hc⟩ := (HR.out.below (hS z).bel).r4 j hjl
        obtain ⟨rfl, rfl⟩ : b4 = b' ∧ o4 = o' := by simpa using e'
        rw [Hl.out] at hc
        exact hc n v hv
      have z0 : ∀ z, (f z).cell? ⟨b4, o4 + j * 6, none⟩ = some (.int .i64 l.a) := fun z => hL z 0 _ rfl
      have z1 : ∀ z, (f z).cell? ⟨b4, o4 + j * 6 + 1, none⟩ = some (.int .i64 l.ae) := fun z => hL z 1 _ rfl
      have z2 : ∀ z, (f z).cell? ⟨b4, o4 + j * 6 + 2, none⟩ = some (.int .i64 l.b) := fun z => hL z 2 _ rfl
      have z3 : ∀ z, (f z).cell? ⟨b4, o4 + j * 6 + 3, none⟩ = some (.int .i64 l.be) := fun z => hL z 3 _ rfl
      have z4 : ∀ z, (f z).cell? ⟨b4, o4 + j * 6 + 4, none⟩ = some (.int .i64 l.pt) := fun z => hL z 4 _ rfl
      have z5 : ∀ z, (f z).cell? ⟨b4, o4 + j * 6 + 5, none⟩ = some (.int .i64 l.ps) := fun z => hL z 5 _ rfl
      have z6 : ∀ z, (f z).cell? ⟨p3, 3, none⟩ = some (.slice (some ⟨b4, o4, none⟩) L.lnks.length c4) := fun z => (hS z).b0.2 3 _ rfl
      have z7 : ∀ z, (f z).cell? ⟨p5, 0, none⟩ = some (.int .i64 q) := fun z => (hS z).b1.2 0 _ rfl
      have z8 : ∀ z, (f z).cell? ⟨p5, 1, none⟩ = some (.int .i64 qe) := fun z => (hS z).b1.2 1 _ rfl
      have HS := Lib.hid hS
      have Hof := Lib.hid hof
      clear hS hof hL
      refine wp_region_qtail (fun w' => ∃ z : Z, w' = f z) 6 (by kernel_rfl) (by kernel_rfl) (Hof.out _ (HI.out.drewN 1)) ?_
      simp only [List.take_succ_cons, List.take_zero, List.drop_succ_cons, List.drop_zero]
      (repeat (go_big_quiet_step (fail)))
      refine wpQuiet_nil ?_
      intro w4 hw4
      obtain ⟨zz, hw4⟩ := hw4
      have HI4 := Lib.hid (HS.out zz)
      rw [← hw4] at HI4
      clear hw4 zz z0 z1 z2 z3 z4 z5 z6 z7 z8 HS Hof HI hZ f Z
      go_wp2_with fail
      refine (refHas_any l q qe _).mono ?_
      rintro e w5 ⟨rfl, hb5⟩
      rw [Hh.out]
      have HI5 := Lib.hid (HI4.out.call hb5)
      clear hb5 HI4
      cases h
      · have Hm2 : Hid ((atE (L.lnks.take (j + 1)) (q, qe)).length = m) := Lib.hid (by rw [Hat.out, if_neg (by decide)]; exact Hm.out)
        have Ho2 : Hid ((atE (L.lnks.take (j + 1)) (q, qe)).getLastD ⟨0, 0, 0, 0, 0, 0⟩ = o) := Lib.hid (by rw [Hat.out, if_neg (by decide)]; exact Ho.out)
        go_wp2
        go_roundw
        case rel => exact ⟨j + 1, m, o, by omega, by omega, by go_num, rfl, Hm2, Ho2, HI5⟩
        case measure => simp [intOf]; omega
      · obtain ⟨b', o', e', _, hc⟩ := (HR.out.below HI5.out.bel).r4 j hjl
        obtain ⟨rfl, rfl⟩ : b4 = b' ∧ o4 = o' := by simpa using e'
        rw [Hl.out] at hc
        have q0 := hc 0 _ rfl
        have q1 := hc 1 _ rfl
        have q2 := hc 2 _ rfl
        have q3 := hc 3 _ rfl
        have q4 := hc 4 _ rfl
        have q5 := hc 5 _ rfl
        rw [Nat.add_zero] at q0
        have s3 := HI5.out.b0.2 3 _ rfl
        have t0 := HI5.out.b3.2 0 _ rfl
        have t1 := HI5.out.b3.2 1 _ rfl
        have t2 := HI5.out.b3.2 2 _ rfl
        have t3 := HI5.out.b3.2 3 _ rfl
        have t4 := HI5.out.b3.2 4 _ rfl
        have t5 := HI5.out.b3.2 5 _ rfl
        have f0 := HI5.out.fr 0
        have f1 := HI5.out.fr 1
        have f2 := HI5.out.fr 2
        have f3 := HI5.out.fr 3
        have f4 := HI5.out.fr 4
        have f5 := HI5.out.fr 5
        clear hc e'
        have Hm2 : Hid ((atE (L.lnks.take (j + 1)) (q, qe)).length = m + 1) := Lib.hid (by rw [Hat.out, if_pos rfl, List.length_append, Hm.out]; rfl)
        have Ho2 : Hid ((atE (L.lnks.take (j + 1)) (q, qe)).getLastD ⟨0, 0, 0, 0, 0, 0⟩ = l) := Lib.hid (by rw [Hat.out, if_pos rfl]; simp)
        have HI6 := Lib.hid (HI5.out.put l)
        go_wp2
        exact ⟨⟨j + 1, m + 1, l, by omega, by omega, by go_num, by go_num, Hm2, Ho2, HI6⟩, by simp [intOf]; omega⟩
    · obtain rfl : i = j := by omega
      obtain ⟨E, HE⟩ : ∃ E, Hid (atE (L.lnks.take i) (q, qe) = E) := ⟨_, Lib.hid rfl⟩
      rw [HE.out] at Hm Ho HRs
      have u4 := HI.out.b2.2 4 _ rfl
      have u5 := HI.out.b2.2 5 _ rfl
      have v4 := HI.out.b3.2 4 _ rfl
      have v5 := HI.out.b3.2 5 _ rfl
      have Hbl := Lib.hid HI.out.bel
      clear HI HE
      match E, Hm, Ho, HRs with
      | [], Hm, Ho, HRs =>
        have HF : Hid (R = true) := Lib.hid HRs.out.symm
        obtain rfl : 0 = m := Hm.out
        clear Hm Ho
        rw [show ((0 : Nat) : Int) = 0 from rfl]
        go_wp2
        go_ret
        exact ⟨ret_bool HF.out.symm, Hbl.out⟩
      | e1 :: e2 :: r, Hm, Ho, HRs =>
        have HF : Hid (R = false) := Lib.hid HRs.out.symm
        have hm2 : 2 ≤ m := by have := Hm.out; simp at this; omega
        have n0 : ((m : Int) == 0) = false := by rw [beq_eq_false_iff_ne]; omega
        have n1 : ((m : Int) == 1) = false := by rw [beq_eq_false_iff_ne]; omega
        clear Hm Ho HRs
        go_wp2
        go_ret
        exact ⟨ret_bool HF.out.symm, Hbl.out⟩
      | [e1], Hm, Ho, HRs =>
        obtain rfl : 1 = m := Hm.out
        obtain rfl : e1 = o := Ho.out
        clear Hm Ho
        rw [show ((1 : Nat) : Int) = 1 from rfl]
        have HRs' : Hid (decide (k.pt ≠ -1 ∧ k.pt = e1.pt ∧ k.ps ≠ e1.ps) = R) := Lib.hid HRs.out
        clear HRs
        by_cases h1 : 0 ≤ k.pt
        · by_cases h2 : e1.pt = k.pt
          · have g2 : (e1.pt == k.pt) = true := by simpa using h2
            by_cases h3 : e1.ps = k.ps
            · have g3 : (e1.ps != k.ps) = false := by simpa using h3
              have HF : Hid (R = false) := Lib.hid (by rw [← HRs'.out]; exact decide_eq_false (by omega))
              clear h2 h3
              go_wp2
              go_ret
              exact ⟨ret_bool HF.out.symm, Hbl.out⟩
            · have g3 : (e1.ps != k.ps) = true := by simpa using h3
              have HF : Hid (R = true) := Lib.hid (by rw [← HRs'.out]; exact decide_eq_true (by omega))
              clear h2 h3
              go_wp2
              go_ret
              exact ⟨ret_bool HF.out.symm, Hbl.out⟩
          · have g2 : (e1.pt == k.pt) = false := by simpa using h2
            have HF : Hid (R = false) := Lib.hid (by rw [← HRs'.out]; exact decide_eq_false (by omega))
            clear h2
            go_wp2
            go_ret
            exact ⟨ret_bool HF.out.symm, Hbl.out⟩
        · have HF : Hid (R = false) := Lib.hid (by rw [← HRs'.out]; exact decide_eq_false (by omega))
          have g1 : decide (0 ≤ k.pt) = false := decide_eq_false h1
          go_wp2
          go_ret
          exact ⟨ret_bool HF.out.symm, Hbl.out⟩
end Go.Proofs.Ythnfliopmjpdmaa
