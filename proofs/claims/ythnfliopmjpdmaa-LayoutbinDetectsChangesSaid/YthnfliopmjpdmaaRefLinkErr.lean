/- Contract of linkError of the reference of layouts. -/
import Derived.Test.YthnfliopmjpdmaaRefLinks
import Derived.Test.YthnfliopmjpdmaaLinkIn
import Derived.RegionTactic
import Derived.Deep.DeepCutAuto
namespace Go.Proofs.Ythnfliopmjpdmaa
open Go.RowKit
set_option linter.unusedVariables false

theorem eql_rend (x y x' y' : Int) (w : World) : (binOp .eql 108 (.agg #[.int .i64 x, .int .i64 y]) (.agg #[.int .i64 x', .int .i64 y'])).run Try.prog w = .ok (.bool (decide (x = x' ∧ y = y'))) w := by
  by_cases h : x = x' <;> by_cases h2 : y = y' <;> simp [go_sem, h, h2]

structure LkI (w x : World) (p2 p5 p7 p8 : Nat) (V : LayV) (L : Lay) (k : Lnk) : Prop where
  b0 : BoxV x p2 [.slice V.A1 L.sts.length V.c1, .slice V.A2 L.pts.length V.c2, .slice V.A3 L.secs.length V.c3, .slice V.A4 L.lnks.length V.c4]
  b1 : BoxV x p5 [.int .i64 k.a, .int .i64 k.ae, .int .i64 k.b, .int .i64 k.be, .int .i64 k.pt, .int .i64 k.ps]
  b2 : BoxV x p7 [.int .i64 k.a, .int .i64 k.ae]
  b3 : BoxV x p8 [.int .i64 k.b, .int .i64 k.be]
  bel : Below w.heap.size w x
theorem LkI.call {w x y : World} {p2 p5 p7 p8 : Nat} {V : LayV} {L : Lay} {k : Lnk} (h : LkI w x p2 p5 p7 p8 V L k) (hb : Below x.heap.size x y) : LkI w y p2 p5 p7 p8 V L k :=
  ⟨h.b0.below hb, h.b1.below hb, h.b2.below hb, h.b3.below hb, h.bel.trans (hb.mono h.bel.size)⟩
theorem LkI.drewN {w x : World} {p2 p5 p7 p8 : Nat} {V : LayV} {L : Lay} {k : Lnk} (h : LkI w x p2 p5 p7 p8 V L k) (m : Nat) : LkI w (x.drewN m) p2 p5 p7 p8 V L k :=
  h.call (below_draws (Below.refl _ _) m)
theorem LkI.start1 (w : World) (V : LayV) (L : Lay) (k : Lnk) (T1 T2 T3 : TypeId) : LkI w ((((w.alloc (.cells #[.slice V.A1 L.sts.length V.c1, .slice V.A2 L.pts.length V.c2, .slice V.A3 L.secs.length V.c3, .slice V.A4 L.lnks.length V.c4] T1)).alloc (.cells #[.int .i64 k.a, .int .i64 k.ae, .int .i64 k.b, .int .i64 k.be, .int .i64 k.pt, .int .i64 k.ps] T2)).alloc (.cells #[.int .i64 k.a, .int .i64 k.ae] T3)).alloc (.cells #[.int .i64 k.b, .int .i64 k.be] T3)).drew w.heap.size (w.heap.size + 1) (w.heap.size + 1 + 1) (w.heap.size + 1 + 1 + 1) V L k := by
  refine LkI.drewN (m := 1) ⟨(((BoxV.new w [.slice V.A1 L.sts.length V.c1, .slice V.A2 L.pts.length V.c2, .slice V.A3 L.secs.length V.c3, .slice V.A4 L.lnks.length V.c4] T1).alloc _).alloc _).alloc _, ?_, ?_, ?_, ((((Below.refl _ _).alloc (Nat.le_refl _) _).alloc (by simp) _).alloc (by simp; omega) _).alloc (by simp; omega) _⟩
  · have := BoxV.new (w.alloc (.cells #[.slice V.A1 L.sts.length V.c1, .slice V.A2 L.pts.length V.c2, .slice V.A3 L.secs.length V.c3, .slice V.A4 L.lnks.length V.c4] T1)) [.int .i64 k.a, .int .i64 k.ae, .int .i64 k.b, .int .i64 k.be, .int .i64 k.pt, .int .i64 k.ps] T2
    simp only [World.size_alloc] at this
    exact (this.alloc _).alloc _
  · have := BoxV.new ((w.alloc (.cells #[.slice V.A1 L.sts.length V.c1, .slice V.A2 L.pts.length V.c2, .slice V.A3 L.secs.length V.c3, .slice V.A4 L.lnks.length V.c4] T1)).alloc (.cells #[.int .i64 k.a, .int .i64 k.ae, .int .i64 k.b, .int .i64 k.be, .int .i64 k.pt, .int .i64 k.ps] T2)) [.int .i64 k.a, .int .i64 k.ae] T3
    simp only [World.size_alloc] at this
    exact this.alloc _
  · have := BoxV.new (((w.alloc (.cells #[.slice V.A1 L.sts.length V.c1, .slice V.A2 L.pts.length V.c2, .slice V.A3 L.secs.length V.c3, .slice V.A4 L.lnks.length V.c4] T1)).alloc (.cells #[.int .i64 k.a, .int .i64 k.ae, .int .i64 k.b, .int .i64 k.be, .int .i64 k.pt, .int .i64 k.ps] T2)).alloc (.cells #[.int .i64 k.a, .int .i64 k.ae] T3)) [.int .i64 k.b, .int .i64 k.be] T3
    simp only [World.size_alloc] at this
    exact this
theorem LkI.start2 (w : World) (V : LayV) (L : Lay) (k : Lnk) (T1 T2 T3 : TypeId) : LkI w ((((w.alloc (.cells #[.slice V.A1 L.sts.length V.c1, .slice V.A2 L.pts.length V.c2, .slice V.A3 L.secs.length V.c3, .slice V.A4 L.lnks.length V.c4] T1)).alloc (.cells #[.int .i64 k.a, .int .i64 k.ae, .int .i64 k.b, .int .i64 k.be, .int .i64 k.pt, .int .i64 k.ps] T2)).alloc (.cells #[.int .i64 k.b, .int .i64 k.be] T3)).alloc (.cells #[.int .i64 k.a, .int .i64 k.ae] T3)).drew w.heap.size (w.heap.size + 1) (w.heap.size + 1 + 1 + 1) (w.heap.size + 1 + 1) V L k := by
  refine LkI.drewN (m := 1) ⟨(((BoxV.new w [.slice V.A1 L.sts.length V.c1, .slice V.A2 L.pts.length V.c2, .slice V.A3 L.secs.length V.c3, .slice V.A4 L.lnks.length V.c4] T1).alloc _).alloc _).alloc _, ?_, ?_, ?_, ((((Below.refl _ _).alloc (Nat.le_refl _) _).alloc (by simp) _).alloc (by simp; omega) _).alloc (by simp; omega) _⟩
  · have := BoxV.new (w.alloc (.cells #[.slice V.A1 L.sts.length V.c1, .slice V.A2 L.pts.length V.c2, .slice V.A3 L.secs.length V.c3, .slice V.A4 L.lnks.length V.c4] T1)) [.int .i64 k.a, .int .i64 k.ae, .int .i64 k.b, .int .i64 k.be, .int .i64 k.pt, .int .i64 k.ps] T2
    simp only [World.size_alloc] at this
    exact (this.alloc _).alloc _
  · have := BoxV.new (((w.alloc (.cells #[.slice V.A1 L.sts.length V.c1, .slice V.A2 L.pts.length V.c2, .slice V.A3 L.secs.length V.c3, .slice V.A4 L.lnks.length V.c4] T1)).alloc (.cells #[.int .i64 k.a, .int .i64 k.ae, .int .i64 k.b, .int .i64 k.be, .int .i64 k.pt, .int .i64 k.ps] T2)).alloc (.cells #[.int .i64 k.b, .int .i64 k.be] T3)) [.int .i64 k.a, .int .i64 k.ae] T3
    simp only [World.size_alloc] at this
    exact this
  · have := BoxV.new ((w.alloc (.cells #[.slice V.A1 L.sts.length V.c1, .slice V.A2 L.pts.length V.c2, .slice V.A3 L.secs.length V.c3, .slice V.A4 L.lnks.length V.c4] T1)).alloc (.cells #[.int .i64 k.a, .int .i64 k.ae, .int .i64 k.b, .int .i64 k.be, .int .i64 k.pt, .int .i64 k.ps] T2)) [.int .i64 k.b, .int .i64 k.be] T3
    simp only [World.size_alloc] at this
    exact this.alloc _

set_option maxHeartbeats 4000000 in
set_option maxRecDepth 100000 in
theorem refLinkError_ok (V : LayV) (L : Lay) (i : Nat) (w : World) (hR : RdLay w V L) (hs : L.secs.length ≤ 96) (hp : L.pts.length ≤ 48) (hl : L.lnks.length ≤ 192) (hi : i < L.lnks.length) (hin : linkB L.secs.length L.pts.length L.lnks[i] = true) :
    Calls Try.prog 49 #[.agg #[.slice V.A1 L.sts.length V.c1, .slice V.A2 L.pts.length V.c2, .slice V.A3 L.secs.length V.c3, .slice V.A4 L.lnks.length V.c4], .int .i64 i] w fun e w' => e = .returned (.int .i64 (linkErr L.secs.length L.pts.length (L.lnks.take i) L.lnks[i])) ∧ Below w.heap.size w w' := by
  obtain ⟨A1, c1, A2, c2, A3, c3, A4, c4⟩ := V
  dsimp only
  obtain ⟨k, Hk⟩ : ∃ k, Hid (L.lnks[i] = k) := ⟨_, Lib.hid rfl⟩
  rw [Hk.out] at hin ⊢
  obtain ⟨R, HRs⟩ : ∃ R, Hid (linkErr L.secs.length L.pts.length (L.lnks.take i) k = R) := ⟨_, Lib.hid rfl⟩
  rw [HRs.out]
  obtain ⟨l1, l2, l3, l4, l5, l6, l7, l8, l9, l10, l11, l12, l13⟩ := linkB_of hin
  obtain ⟨b4, o4, hA4, hbl, hc⟩ := hR.r4 i hi
  obtain rfl : A4 = some ⟨b4, o4, none⟩ := hA4
  rw [Hk.out] at hc
  have q0 := hc 0 _ rfl
  have q1 := hc 1 _ rfl
  have q2 := hc 2 _ rfl
  have q3 := hc 3 _ rfl
  have q4 := hc 4 _ rfl
  have q5 := hc 5 _ rfl
  rw [Nat.add_zero] at q0
  have Hin := Lib.hid hin
  have HR := Lib.hid hR
  clear hc hR hin
  have I1 := Lib.hid (inB_true (n := k.a) (lo := 0) (hi := (L.secs.length : Int) - 1) (by omega) (by omega))
  have I2 := Lib.hid (inB_true (n := k.b) (lo := 0) (hi := (L.secs.length : Int) - 1) (by omega) (by omega))
  have I3 := Lib.hid (inB_true (n := k.ae) (lo := 0) (hi := 1) (by omega) (by omega))
  have I4 := Lib.hid (inB_true (n := k.be) (lo := 0) (hi := 1) (by omega) (by omega))
  have I5 := Lib.hid (inB_true (n := k.pt) (lo := -1) (hi := (L.pts.length : Int) - 1) (by omega) (by omega))
  have I6 := Lib.hid (inB_true (n := k.ps) (lo := 0) (hi := 1) (by omega) (by omega))
  have heq := eql_rend
  go_enter Try.func49, Try.ntmps49
  go_upto_region 3 with fail
  go_cut [69] (fun s wx => s = .bool false ∧ wx = (w.alloc (.cells #[.slice A1 L.sts.length c1, .slice A2 L.pts.length c2, .slice A3 L.secs.length c3, .slice (some ⟨b4, o4, none⟩) L.lnks.length c4] 29)).alloc (.cells #[.int .i64 k.a, .int .i64 k.ae, .int .i64 k.b, .int .i64 k.be, .int .i64 k.pt, .int .i64 k.ps] 58))
  case first =>
    by_cases hpt : k.pt < 0
    · have g1 : (k.ps != 0) = false := by
        have h0 : k.ps = 0 := by omega
        rw [h0]; rfl
      clear l13
      go_wp2_with (go_at_call 48; refine (refIn_any _ _ _ _).mono ?_; rintro e w' ⟨rfl, rfl⟩; first | rw [I1.out] | rw [I2.out] | rw [I3.out] | rw [I4.out] | rw [I5.out] | rw [I6.out])
      go_meet
      exact ⟨rfl, rfl⟩
    · have g1 : decide (k.pt < 0) = false := decide_eq_false hpt
      clear l13
      go_wp2_with (go_at_call 48; refine (refIn_any _ _ _ _).mono ?_; rintro e w' ⟨rfl, rfl⟩; first | rw [I1.out] | rw [I2.out] | rw [I3.out] | rw [I4.out] | rw [I5.out] | rw [I6.out])
      go_meet
      exact ⟨rfl, rfl⟩
  case rest =>
    obtain ⟨rfl, rfl⟩ := hcut
    clear q0 q1 q2 q3 q4 q5 I1 I2 I3 I4 I5 I6 l13
    have HS1 := Lib.hid (LkI.start1 w ⟨A1, c1, A2, c2, A3, c3, some ⟨b4, o4, none⟩, c4⟩ L k 29 58 108)
    have HS2 := Lib.hid (LkI.start2 w ⟨A1, c1, A2, c2, A3, c3, some ⟨b4, o4, none⟩, c4⟩ L k 29 58 108)
    dsimp only at HS1 HS2
    go_upto_region 5 with fail
    go_cut [7, 8] (fun s7 s8 wx => ∃ p7 p8, s7 = .pointer (some ⟨p7, 0, none⟩) ∧ s8 = .pointer (some ⟨p8, 0, none⟩) ∧ Hid (LkI w wx w.heap.size (w.heap.size + 1) p7 p8 ⟨A1, c1, A2, c2, A3, c3, some ⟨b4, o4, none⟩, c4⟩ L k))
    case first =>
      go_region
      all_goals (go_wp2_with fail; go_meet; first | with_reducible exact ⟨_, _, rfl, rfl, HS1⟩ | with_reducible exact ⟨_, _, rfl, rfl, HS2⟩)
    case rest =>
      obtain ⟨p7, p8, rfl, rfl, HI⟩ := hcut
      clear HS1 HS2
      obtain ⟨p2, hp2⟩ : ∃ p2, w.heap.size = p2 := ⟨_, rfl⟩
      rw [hp2] at HI ⊢
      clear hp2
      obtain ⟨p5, hp5⟩ : ∃ p5, p2 + 1 = p5 := ⟨_, rfl⟩
      rw [hp5] at HI ⊢
      clear hp5
      have s0 := HI.out.b2.2 0 _ rfl
      have s1 := HI.out.b2.2 1 _ rfl
      have s2 := HI.out.b3.2 0 _ rfl
      have s3 := HI.out.b3.2 1 _ rfl
      by_cases hsame : k.a = k.b ∧ k.ae = k.be
      · have d1 : decide (k.a = k.b ∧ k.ae = k.be) = true := decide_eq_true hsame
        have HF : Hid (R = 1) := Lib.hid (by rw [← HRs.out]; unfold linkErr; rw [if_neg (by rw [Hin.out]; decide), if_pos (by rw [hsame.1, hsame.2])])
        clear hsame
        go_wp2
        go_ret
        exact ⟨ret_int HF.out.symm, HI.out.bel⟩
      · have d1 : decide (k.a = k.b ∧ k.ae = k.be) = false := decide_eq_false hsame
        have Hpair : Hid ((k.a, k.ae) ≠ (k.b, k.be)) := Lib.hid (fun h => hsame ⟨by injection h, by injection h⟩)
        clear hsame
        go_wp2
        clear s0 s1 s2 s3 d1 heq
        go_loopw [9] (fun jv wr => ∃ j : Nat, j ≤ i ∧ jv = .int .i64 j ∧ Hid ((L.lnks.take j).any (fun l => hasE l (k.a, k.ae) && hasE l (k.b, k.be)) = false) ∧ Hid (LkI w wr p2 p5 p7 p8 ⟨A1, c1, A2, c2, A3, c3, some ⟨b4, o4, none⟩, c4⟩ L k)) (fun jv _ => i - (intOf jv).toNat)
        case atStart => exact ⟨0, by omega, rfl, Lib.hid rfl, HI⟩
        case round =>
          obtain ⟨j, hj, rfl, Hany, HI2⟩ := hrel
          clear HI
          by_cases hlt : j < i
          · have hjl : j < L.lnks.length := by omega
            obtain ⟨l, Hl⟩ : ∃ l, Hid (L.lnks[j] = l) := ⟨_, Lib.hid rfl⟩
            have Hsn : Hid ((L.lnks.take (j + 1)).any (fun l => hasE l (k.a, k.ae) && hasE l (k.b, k.be)) = (hasE l (k.a, k.ae) && hasE l (k.b, k.be))) := Lib.hid (by rw [List.take_succ_eq_append_getElem hjl, List.any_append, Hany.out, Hl.out]; simp)
            go_wp2
            obtain ⟨Z, hZ, f, hS, hof⟩ := classOf (fun x => LkI w x p2 p5 p7 p8 ⟨A1, c1, A2, c2, A3, c3, some ⟨b4, o4, none⟩, c4⟩ L k) (HI2.out.drewN 1)
            have hL : ∀ z, ∀ (n : Nat) (v : Value), (lnkF l)[n]? = some v → (f z).cell? ⟨b4, o4 + j * 6 + n, none⟩ = some v := fun z n v hv => by
              obtain ⟨b', o', e', _, hc⟩ := (HR.out.below (hS z).bel).r4 j hjl
              obtain ⟨rfl, rfl⟩ : b4 = b' ∧ o4 = o' := by simpa using e'
              rw [Hl.out] at hc
              exact hc n v hv
            have z0 : ∀ z, (f z).cell? ⟨b4, o4 + j * 6, none⟩ = some (.int .i64 l.a) := fun z => hL z 0 _ rfl
            have z1 : ∀ z, (f z).cell? ⟨b4, o4 + j * 6 + 1, none⟩ = some (.int .i64 l.ae) := fun z => hL z 1 _ rfl
            have z2 : ∀ z, (f z).cell? ⟨b4, o4 + j * 6 + 2, none⟩ = some (.int .i64 l.b) := fun z => hL z 2 _ rfl
            have z3 : ∀ z, (f z).cell? ⟨b4, o4 + j * 6 + 3, none⟩ = some (.int .i64 l.be) := fun z => hL z 3 _ rfl
            have z4 : ∀ z, (f z).cell? ⟨b4, o4 + j * 6 + 4, none⟩ = some (.int .i64 l.pt) := fun z => hL z 4 _ rfl
            have z5 : ∀ z, (f z).cell? ⟨b4, o4 + j * 6 + 5, none⟩ = some (.int .i64 l.ps) := fun z => hL z 5 _ rfl
            have z6 : ∀ z, (f z).cell? ⟨p2, 3, none⟩ = some (.slice (some ⟨b4, o4, none⟩) L.lnks.length c4) := fun z => (hS z).b0.2 3 _ rfl
            have z7 : ∀ z, (f z).cell? ⟨p7, 0, none⟩ = some (.int .i64 k.a) := fun z => (hS z).b2.2 0 _ rfl
            have z8 : ∀ z, (f z).cell? ⟨p7, 1, none⟩ = some (.int .i64 k.ae) := fun z => (hS z).b2.2 1 _ rfl
            have z9 : ∀ z, (f z).cell? ⟨p8, 0, none⟩ = some (.int .i64 k.b) := fun z => (hS z).b3.2 0 _ rfl
            have za : ∀ z, (f z).cell? ⟨p8, 1, none⟩ = some (.int .i64 k.be) := fun z => (hS z).b3.2 1 _ rfl
            have HS := Lib.hid hS
            have Hof := Lib.hid hof
            clear hS hof hL
            obtain ⟨h1, H1⟩ : ∃ h1, Hid (hasE l (k.a, k.ae) = h1) := ⟨_, Lib.hid rfl⟩
            obtain ⟨h2, H2⟩ : ∃ h2, Hid (hasE l (k.b, k.be) = h2) := ⟨_, Lib.hid rfl⟩
            rw [H1.out, H2.out] at Hsn
            cases h1 <;> cases h2
            all_goals
              refine wp_region_qtail (fun w' => ∃ z : Z, w' = f z) 15 (by kernel_rfl) (by kernel_rfl) (Hof.out _ (HI2.out.drewN 1)) ?_
              simp only [List.take_succ_cons, List.take_zero, List.drop_succ_cons, List.drop_zero]
              (repeat (go_big_quiet_step ((go_at_call 61; first
                | with_reducible exact (refHas_any l k.a k.ae _).mono fun e w'' ⟨he, hbb⟩ => ⟨he.trans (ret_bool H1.out), Hof.out _ ((HS.out _).call hbb)⟩
                | with_reducible exact (refHas_any l k.b k.be _).mono fun e w'' ⟨he, hbb⟩ => ⟨he.trans (ret_bool H2.out), Hof.out _ ((HS.out _).call hbb)⟩))))
              refine wpQuiet_nil ?_
              intro w4 hw4
              obtain ⟨zz, hw4⟩ := hw4
              have HI4 := Lib.hid (HS.out zz)
              rw [← hw4] at HI4
              clear hw4 zz z0 z1 z2 z3 z4 z5 z6 z7 z8 z9 za HS Hof HI2 hZ f Z
              go_wp2
              first
                | (go_roundw
                   case rel => exact ⟨j + 1, by omega, by go_num, Hsn, HI4⟩
                   case measure => simp [intOf]; omega)
                | (have HF : Hid (R = 5) := Lib.hid (by
                     have hm : (L.lnks.take i).any (fun l => hasE l (k.a, k.ae) && hasE l (k.b, k.be)) = true := List.any_eq_true.2 ⟨l, by rw [← Hl.out]; exact List.mem_take_iff_getElem.2 ⟨j, by omega, rfl⟩, by rw [H1.out, H2.out]; rfl⟩
                     rw [← HRs.out]; unfold linkErr; rw [if_neg (by rw [Hin.out]; decide), if_neg Hpair.out, if_pos hm])
                   go_ret
                   exact ⟨ret_int HF.out.symm, HI4.out.bel⟩)
          · obtain rfl : i = j := by omega
            obtain ⟨Fa, HFa⟩ : ∃ Fa, Hid (fitB k (atE (L.lnks.take i) (k.a, k.ae)) = Fa) := ⟨_, Lib.hid rfl⟩
            obtain ⟨Fb, HFb⟩ : ∃ Fb, Hid (fitB k (atE (L.lnks.take i) (k.b, k.be)) = Fb) := ⟨_, Lib.hid rfl⟩
            have HLE : Hid (R = if Fa = false ∨ Fb = false then 11 else 0) := Lib.hid (by
              rw [← HRs.out]; unfold linkErr
              rw [if_neg (by rw [Hin.out]; decide), if_neg Hpair.out, if_neg (by rw [Hany.out]; decide), HFa.out, HFb.out])
            have s0 := HI2.out.b0.2 0 _ rfl
            have s1 := HI2.out.b0.2 1 _ rfl
            have s2 := HI2.out.b0.2 2 _ rfl
            have s3 := HI2.out.b0.2 3 _ rfl
            have t0 := HI2.out.b2.2 0 _ rfl
            have t1 := HI2.out.b2.2 1 _ rfl
            go_wp2_with fail
            refine (refFree_any ⟨A1, c1, A2, c2, A3, c3, some ⟨b4, o4, none⟩, c4⟩ L i k.a k.ae _ (HR.out.below HI2.out.bel) (by omega) hi (by rw [Hk.out]; omega)).mono ?_
            rintro e w5 ⟨rfl, hb5⟩
            rw [Hk.out, HFa.out]
            have HI5 := Lib.hid (HI2.out.call hb5)
            clear hb5 HI2 s0 s1 s2 s3 t0 t1
            cases Fa
            · have HF : Hid (R = 11) := Lib.hid (by rw [HLE.out, if_pos (.inl rfl)])
              go_wp2
              go_ret
              exact ⟨ret_int HF.out.symm, HI5.out.bel⟩
            · have s0 := HI5.out.b0.2 0 _ rfl
              have s1 := HI5.out.b0.2 1 _ rfl
              have s2 := HI5.out.b0.2 2 _ rfl
              have s3 := HI5.out.b0.2 3 _ rfl
              have t0 := HI5.out.b3.2 0 _ rfl
              have t1 := HI5.out.b3.2 1 _ rfl
              go_wp2_with fail
              refine (refFree_any ⟨A1, c1, A2, c2, A3, c3, some ⟨b4, o4, none⟩, c4⟩ L i k.b k.be _ (HR.out.below HI5.out.bel) (by omega) hi (by rw [Hk.out]; omega)).mono ?_
              rintro e w6 ⟨rfl, hb6⟩
              rw [Hk.out, HFb.out]
              have HI6 := Lib.hid (HI5.out.call hb6)
              clear hb6 HI5 s0 s1 s2 s3 t0 t1
              cases Fb
              · have HF : Hid (R = 11) := Lib.hid (by rw [HLE.out, if_pos (.inr rfl)])
                go_wp2
                go_ret
                exact ⟨ret_int HF.out.symm, HI6.out.bel⟩
              · have HF : Hid (R = 0) := Lib.hid (by rw [HLE.out]; simp)
                go_wp2
                go_ret
                exact ⟨ret_int HF.out.symm, HI6.out.bel⟩

set_option maxHeartbeats 2000000 in
set_option maxRecDepth 100000 in
theorem refLinkError_bad (V : LayV) (L : Lay) (i : Nat) (w : World) (hR : RdLay w V L) (hs : L.secs.length ≤ 96) (hp : L.pts.length ≤ 48) (hl : L.lnks.length ≤ 192) (hi : i < L.lnks.length) (hin : linkB L.secs.length L.pts.length L.lnks[i] = false) :
    Calls Try.prog 49 #[.agg #[.slice V.A1 L.sts.length V.c1, .slice V.A2 L.pts.length V.c2, .slice V.A3 L.secs.length V.c3, .slice V.A4 L.lnks.length V.c4], .int .i64 i] w fun e w' => e = .returned (.int .i64 (linkErr L.secs.length L.pts.length (L.lnks.take i) L.lnks[i])) ∧ Below w.heap.size w w' := by
  obtain ⟨A1, c1, A2, c2, A3, c3, A4, c4⟩ := V
  dsimp only
  obtain ⟨k, Hk⟩ : ∃ k, Hid (L.lnks[i] = k) := ⟨_, Lib.hid rfl⟩
  rw [Hk.out] at hin ⊢
  have HF : Hid (linkErr L.secs.length L.pts.length (L.lnks.take i) k = 4) := Lib.hid (by unfold linkErr; rw [if_pos hin])
  rw [HF.out]
  have hno : ¬ (0 ≤ k.a ∧ k.a < L.secs.length ∧ 0 ≤ k.b ∧ k.b < L.secs.length ∧ 0 ≤ k.ae ∧ k.ae ≤ 1 ∧ 0 ≤ k.be ∧ k.be ≤ 1 ∧ -1 ≤ k.pt ∧ k.pt < L.pts.length ∧ 0 ≤ k.ps ∧ k.ps ≤ 1 ∧ (k.pt ≠ -1 ∨ k.ps = 0)) := fun h => by rw [linkB_true h] at hin; cases hin
  have Hno := Lib.hid hno
  clear hno hin
  obtain ⟨b4, o4, hA4, hbl, hc⟩ := hR.r4 i hi
  obtain rfl : A4 = some ⟨b4, o4, none⟩ := hA4
  rw [Hk.out] at hc
  have q0 := hc 0 _ rfl
  have q1 := hc 1 _ rfl
  have q2 := hc 2 _ rfl
  have q3 := hc 3 _ rfl
  have q4 := hc 4 _ rfl
  have q5 := hc 5 _ rfl
  rw [Nat.add_zero] at q0
  clear hc hR
  have Hb : Hid (Below w.heap.size w ((w.alloc (.cells #[.slice A1 L.sts.length c1, .slice A2 L.pts.length c2, .slice A3 L.secs.length c3, .slice (some ⟨b4, o4, none⟩) L.lnks.length c4] 29)).alloc (.cells #[.int .i64 k.a, .int .i64 k.ae, .int .i64 k.b, .int .i64 k.be, .int .i64 k.pt, .int .i64 k.ps] 58))) := Lib.hid (((Below.refl _ _).alloc (Nat.le_refl _) _).alloc (by simp) _)
  go_enter Try.func49, Try.ntmps49
  go_upto_region 3 with fail
  go_cut [69] (fun s wx => s = .bool true ∧ wx = (w.alloc (.cells #[.slice A1 L.sts.length c1, .slice A2 L.pts.length c2, .slice A3 L.secs.length c3, .slice (some ⟨b4, o4, none⟩) L.lnks.length c4] 29)).alloc (.cells #[.int .i64 k.a, .int .i64 k.ae, .int .i64 k.b, .int .i64 k.be, .int .i64 k.pt, .int .i64 k.ps] 58))
  case rest =>
    obtain ⟨rfl, rfl⟩ := hcut
    go_wp2
    go_ret
    exact ⟨rfl, Hb.out⟩
  case first =>
    by_cases h0 : 0 ≤ k.a ∧ k.a ≤ (L.secs.length : Int) - 1
    rotate_left
    · have I1 := Lib.hid (inB_false h0)
      clear h0
      go_wp2_with (go_at_call 48; refine (refIn_any _ _ _ _).mono ?_; rintro e w' ⟨rfl, rfl⟩; first | rw [I1.out])
      go_meet
      exact ⟨rfl, rfl⟩
    have I1 := Lib.hid (inB_true h0.1 h0.2)
    by_cases h1 : 0 ≤ k.b ∧ k.b ≤ (L.secs.length : Int) - 1
    rotate_left
    · have I2 := Lib.hid (inB_false h1)
      clear h1
      go_wp2_with (go_at_call 48; refine (refIn_any _ _ _ _).mono ?_; rintro e w' ⟨rfl, rfl⟩; first | rw [I1.out] | rw [I2.out])
      go_meet
      exact ⟨rfl, rfl⟩
    have I2 := Lib.hid (inB_true h1.1 h1.2)
    by_cases h2 : 0 ≤ k.ae ∧ k.ae ≤ 1
    rotate_left
    · have I3 := Lib.hid (inB_false h2)
      clear h2
      go_wp2_with (go_at_call 48; refine (refIn_any _ _ _ _).mono ?_; rintro e w' ⟨rfl, rfl⟩; first | rw [I1.out] | rw [I2.out] | rw [I3.out])
      go_meet
      exact ⟨rfl, rfl⟩
    have I3 := Lib.hid (inB_true h2.1 h2.2)
    by_cases h3 : 0 ≤ k.be ∧ k.be ≤ 1
    rotate_left
    · have I4 := Lib.hid (inB_false h3)
      clear h3
      go_wp2_with (go_at_call 48; refine (refIn_any _ _ _ _).mono ?_; rintro e w' ⟨rfl, rfl⟩; first | rw [I1.out] | rw [I2.out] | rw [I3.out] | rw [I4.out])
      go_meet
      exact ⟨rfl, rfl⟩
    have I4 := Lib.hid (inB_true h3.1 h3.2)
    by_cases h4 : -1 ≤ k.pt ∧ k.pt ≤ (L.pts.length : Int) - 1
    rotate_left
    · have I5 := Lib.hid (inB_false h4)
      clear h4
      go_wp2_with (go_at_call 48; refine (refIn_any _ _ _ _).mono ?_; rintro e w' ⟨rfl, rfl⟩; first | rw [I1.out] | rw [I2.out] | rw [I3.out] | rw [I4.out] | rw [I5.out])
      go_meet
      exact ⟨rfl, rfl⟩
    have I5 := Lib.hid (inB_true h4.1 h4.2)
    by_cases h5 : 0 ≤ k.ps ∧ k.ps ≤ 1
    rotate_left
    · have I6 := Lib.hid (inB_false h5)
      clear h5
      go_wp2_with (go_at_call 48; refine (refIn_any _ _ _ _).mono ?_; rintro e w' ⟨rfl, rfl⟩; first | rw [I1.out] | rw [I2.out] | rw [I3.out] | rw [I4.out] | rw [I5.out] | rw [I6.out])
      go_meet
      exact ⟨rfl, rfl⟩
    have I6 := Lib.hid (inB_true h5.1 h5.2)
    have g1 : k.pt < 0 := by have := Hno.out; omega
    have g2 : (k.ps != 0) = true := by rw [bne_iff_ne]; have := Hno.out; omega
    clear h0 h1 h2 h3 h4 h5
    go_wp2_with (go_at_call 48; refine (refIn_any _ _ _ _).mono ?_; rintro e w' ⟨rfl, rfl⟩; first | rw [I1.out] | rw [I2.out] | rw [I3.out] | rw [I4.out] | rw [I5.out] | rw [I6.out])
    go_meet
    exact ⟨rfl, rfl⟩

theorem refLinkError_any (V : LayV) (L : Lay) (i : Nat) (w : World) (hR : RdLay w V L) (hs : L.secs.length ≤ 96) (hp : L.pts.length ≤ 48) (hl : L.lnks.length ≤ 192) (hi : i < L.lnks.length) :
    Calls Try.prog 49 #[.agg #[.slice V.A1 L.sts.length V.c1, .slice V.A2 L.pts.length V.c2, .slice V.A3 L.secs.length V.c3, .slice V.A4 L.lnks.length V.c4], .int .i64 i] w fun e w' => e = .returned (.int .i64 (linkErr L.secs.length L.pts.length (L.lnks.take i) L.lnks[i])) ∧ Below w.heap.size w w' := by
  cases h : linkB L.secs.length L.pts.length L.lnks[i]
  · exact refLinkError_bad V L i w hR hs hp hl hi h
  · exact refLinkError_ok V L i w hR hs hp hl hi h
end Go.Proofs.Ythnfliopmjpdmaa
