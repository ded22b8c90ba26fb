/- What the claims use of their texts: CkLinks, Seen, Check, BrK, CrcPlain, Crc, BrX, Bytes, Valid, EncPlain, Enc1, BrE, Q7, Q8, Kp2, Kp3, Kp4, R2, Ot5, Fr, Opens, OpR, We1. -/
import Derived.Test.YthnfliopmjpdmaaPED
set_option linter.unusedVariables false
set_option linter.unusedSimpArgs false
set_option maxRecDepth 4000
set_option maxHeartbeats 4000000
namespace Go.Proofs.Ythnfliopmjpdmaa
open Go.RowKit
theorem info_links : (Try.prog.info? 27).map (fun i => (i.zero, i.size, i.bytes)) = some (some (.slice none 0 0), 1, 24) := by kernel_rfl
theorem info_link : (Try.prog.info? 58).map (fun i => (i.zero, i.size, i.bytes)) = some (some (.agg #[.int .i64 0, .int .i64 0, .int .i64 0, .int .i64 0, .int .i64 0, .int .i64 0]), 6, 48) := by kernel_rfl
theorem joins_any {prev : List Lnk} {a ae b be : Int} (hne : ¬ (a = b ∧ ae = be)) : (atE prev (a, ae)).any (joinsB a ae b be) = prev.any (fun j => hasE j (a, ae) && hasE j (b, be)) := by
 have key : ∀ j : Lnk, (hasE j (a, ae) && joinsB a ae b be j) = (hasE j (a, ae) && hasE j (b, be)) := by
  intro j
  rw [Bool.eq_iff_iff]
  simp [hasE, joinsB, eqE]
  omega
 unfold atE
 rw [List.any_filter]
 congr 1
 funext j
 exact key j
structure CkR (w x : World) (n : Nat) (E : Nat → List Lnk) (Vs : Nat → Value) (p5 p6 p7 : Nat) (k : Lnk) : Prop where
 tab : CkI w x n E Vs
 b5 : BoxV x p5 [.int .i64 k.a, .int .i64 k.ae, .int .i64 k.b, .int .i64 k.be, .int .i64 k.pt, .int .i64 k.ps]
 b6 : BoxV x p6 [.int .i64 k.a, .int .i64 k.ae]
 b7 : BoxV x p7 [.int .i64 k.b, .int .i64 k.be]
theorem CkR.call {w x y : World} {n : Nat} {E : Nat → List Lnk} {Vs : Nat → Value} {p5 p6 p7 : Nat} {k : Lnk} (h : CkR w x n E Vs p5 p6 p7 k) (hb : Below x.heap.size x y) : CkR w y n E Vs p5 p6 p7 k :=
 ⟨h.tab.call hb, h.b5.below hb, h.b6.below hb, h.b7.below hb⟩
theorem CkR.drewN {w x : World} {n : Nat} {E : Nat → List Lnk} {Vs : Nat → Value} {p5 p6 p7 : Nat} {k : Lnk} (h : CkR w x n E Vs p5 p6 p7 k) (m : Nat) : CkR w (x.drewN m) n E Vs p5 p6 p7 k :=
 h.call (below_draws (Below.refl _ _) m)
theorem CkI.rdAt {w x : World} {n : Nat} {E : Nat → List Lnk} {Vs : Nat → Value} (h : CkI w x n E Vs) {i : Nat} (hi : i < n) {A : Option Addr} {c : Nat} {Ea : List Lnk} (hV : Vs i = .slice A Ea.length c) (hE : E i = Ea) : RdF 6 lnkF x A Ea := by
 have := h.own i hi
 rw [hV, hE] at this
 exact this.rd lnkF_len
set_option maxHeartbeats 1000000 in
set_option maxRecDepth 100000 in
theorem checkLinks_any (V : LayV) (L : Lay) (w : World) (hR : RdLay w V L) (hs : L.secs.length ≤ 96) (hl : L.lnks.length ≤ 192) :
  Calls Try.prog 39 #[.agg #[.slice V.A1 L.sts.length V.c1, .slice V.A2 L.pts.length V.c2, .slice V.A3 L.secs.length V.c3, .slice V.A4 L.lnks.length V.c4]] w fun e w' => e = .returned (.int .i64 (linksErr L.secs.length L.pts.length [] L.lnks)) ∧ Below w.heap.size w w' := by
 obtain ⟨A1, c1, A2, c2, A3, c3, A4, c4⟩ := V
 dsimp only
 obtain ⟨R, HE⟩ : ∃ R, Hid (linksErr L.secs.length L.pts.length [] L.lnks = R) := ⟨_, Lib.hid rfl⟩
 rw [HE.out]
 obtain ⟨n, Hn⟩ : ∃ n, Hid (2 * L.secs.length = n) := ⟨_, Lib.hid rfl⟩
 have hn : n ≤ 192 := by have := Hn.out; omega
 have hni : 2 * (L.secs.length : Int) = (n : Int) := by have := Hn.out; omega
 have hmk := run_make_row' (P := Try.prog) 97 27 (.slice none 0 0) 24 Try.underlying97 info_links rfl .i64 .i64 n (by omega) (by omega)
 obtain ⟨i0, hi, hz0, hz1, hz2⟩ := info_parts info_link
 have HB0 := Lib.hid (BoxV.new w [.slice A1 L.sts.length c1, .slice A2 L.pts.length c2, .slice A3 L.secs.length c3, .slice A4 L.lnks.length c4] 29)
 have Hb0 : Hid (Below w.heap.size w (w.alloc (.cells #[.slice A1 L.sts.length c1, .slice A2 L.pts.length c2, .slice A3 L.secs.length c3, .slice A4 L.lnks.length c4] 29))) := Lib.hid ((Below.refl _ _).alloc (Nat.le_refl _) _)
 have HR0 := Lib.hid (hR.below Hb0.out)
 have hml : L.lnks.length ≤ 9223372036854775807 := by omega
 clear hR
 have hp0 : (w.alloc (.cells #[.slice A1 L.sts.length c1, .slice A2 L.pts.length c2, .slice A3 L.secs.length c3, .slice A4 L.lnks.length c4] 29)).heap.size = w.heap.size + 1 := by simp
 go_enter Try.func39, Try.ntmps39
 go_wp2
 clear hmk
 generalize hw0 : w.alloc (.cells #[.slice A1 L.sts.length c1, .slice A2 L.pts.length c2, .slice A3 L.secs.length c3, .slice A4 L.lnks.length c4] 29) = w0 at *
 obtain ⟨p, hp⟩ : ∃ p, w.heap.size = p := ⟨_, rfl⟩
 obtain ⟨r, hr⟩ : ∃ r, p + 1 = r := ⟨_, rfl⟩
 have Hr : Hid (w0.heap.size = r) := Lib.hid (by rw [hp0, hp, hr])
 have HT : Hid (CkI w0 (w0.alloc (.cells (madeCells #[.slice none 0 0] n) 27)) n (atI []) (fun _ => .slice none 0 0)) := Lib.hid (CkI.start (World.rowIs_made w0 (.slice none 0 0) n 27) ((Below.refl _ _).alloc (Nat.le_refl _) _))
 have Hpr : Hid (p < r) := Lib.hid (by omega)
 rw [hp] at HB0
 rw [hp]
 rw [hr]
 clear hw0 hp0 hr
 have Hb0' : Hid (Below p w w0) := Lib.hid (by rw [← hp]; exact Hb0.out)
 clear hp
 generalize w0.alloc (.cells (madeCells #[.slice none 0 0] n) 27) = w1 at *
 go_loopw [18] (fun i wr => ∃ (k : Nat) (Vs : Nat → Value), k ≤ L.lnks.length ∧ i = .int .i64 k ∧ Hid (linksErr L.secs.length L.pts.length (L.lnks.take k) (L.lnks.drop k) = R) ∧ Hid (CkI w0 wr n (atI (L.lnks.take k)) Vs)) (fun i _ => L.lnks.length - (intOf i).toNat)
 case atStart => exact ⟨0, _, by omega, rfl, Lib.hid (by simpa using HE.out), HT⟩
 case round =>
  obtain ⟨k, Vs, hk, rfl, HR, HI⟩ := hrel
  clear HT
  have HB := Lib.hid (HB0.out.below HI.out.bel)
  by_cases hlt : k < L.lnks.length
  ·obtain ⟨b4, o4, hA4, hbl, hc⟩ := (HR0.out.below HI.out.bel).r4 k hlt
   obtain rfl : A4 = some ⟨b4, o4, none⟩ := hA4
   obtain ⟨j, Hj⟩ : ∃ j, Hid (L.lnks[k] = j) := ⟨_, Lib.hid rfl⟩
   have HR' : Hid (linksErr L.secs.length L.pts.length (L.lnks.take k) (j :: L.lnks.drop (k + 1)) = R) := Lib.hid (by rw [← Hj.out, ← List.drop_eq_getElem_cons hlt]; exact HR.out)
   have Htk : Hid (L.lnks.take (k + 1) = L.lnks.take k ++ [j]) := Lib.hid (by rw [List.take_succ_eq_append_getElem hlt, Hj.out])
   rw [Hj.out] at hc
   have q0 := hc 0 _ rfl
   have q1 := hc 1 _ rfl
   have q2 := hc 2 _ rfl
   have q3 := hc 3 _ rfl
   have q4 := hc 4 _ rfl
   have q5 := hc 5 _ rfl
   rw [Nat.add_zero] at q0
   have s0 := HB.out.2 0 _ rfl
   have s1 := HB.out.2 1 _ rfl
   have s2 := HB.out.2 2 _ rfl
   have s3 := HB.out.2 3 _ rfl
   have s4 := HB.out.1
   clear hc HR Hj
   have hba : Below wr.heap.size wr (wr.alloc (.cells #[.int .i64 j.a, .int .i64 j.ae, .int .i64 j.b, .int .i64 j.be, .int .i64 j.pt, .int .i64 j.ps] 58)) := (Below.refl _ _).alloc (Nat.le_refl _) _
   have HI1 := Lib.hid (HI.out.call hba)
   have H5 := Lib.hid (BoxV.new wr [.int .i64 j.a, .int .i64 j.ae, .int .i64 j.b, .int .i64 j.be, .int .i64 j.pt, .int .i64 j.ps] 58)
   obtain ⟨p5, hp5⟩ : ∃ p5, wr.heap.size = p5 := ⟨_, rfl⟩
   have Hold : Hid (∀ i, i < n → ∀ q, (Vs i).ownBlock = some q → q < p5) := Lib.hid (fun i hi q hq => by rw [← hp5]; exact (HI.out.blk hi hq).2)
   have Hrp : Hid (r < p5) := Lib.hid (by rw [← hp5, ← Hr.out]; exact HI.out.row.lt)
   have Hp5 := Lib.hid hp5
   clear hp5
   go_wp2_with fail
   refine (linkInRange_any ⟨A1, c1, A2, c2, A3, c3, some ⟨b4, o4, none⟩, c4⟩ L j _).mono ?_
   rintro e w2 ⟨rfl, hb2⟩
   have HI2 := Lib.hid (HI1.out.call hb2)
   have H52 := Lib.hid (H5.out.below hb2)
   rw [Hp5.out] at H52 ⊢
   clear hb2 HI1 H5 q0 q1 q2 q3 q4 q5 s0 s1 s2 s3 s4 hba HB hbl HI
   cases hin : linkB L.secs.length L.pts.length j
   ·have HF : Hid (R = 4) := Lib.hid (by rw [← HR'.out]; simp [linksErr, linkErr, hin])
    clear hin
    go_wp2
    go_ret
    exact ⟨ret_int HF.out.symm, Hb0.out.trans (HI2.out.bel.mono Hb0.out.size)⟩
   ·obtain ⟨l1, l2, l3, l4, l5, l6, l7, l8, l9, l10, l11, l12, l13⟩ := linkB_of hin
    have Hin := Lib.hid hin
    have H13 := Lib.hid l13
    clear hin l13
    have t0 := H52.out.2 0 _ rfl
    have t1 := H52.out.2 1 _ rfl
    have t2 := H52.out.2 2 _ rfl
    have t3 := H52.out.2 3 _ rfl
    have t4 := H52.out.2 4 _ rfl
    have t5 := H52.out.2 5 _ rfl
    have t6 := H52.out.1
    go_wp2_with fail
    refine (ends_any j _).mono ?_
    rintro e w3 ⟨rfl, hb3⟩
    have hb4 : Below w3.heap.size w3 ((w3.alloc (.cells #[.int .i64 j.a, .int .i64 j.ae] 100)).alloc (.cells #[.int .i64 j.b, .int .i64 j.be] 100)) := ((Below.refl _ _).alloc (Nat.le_refl _) _).alloc (by simp) _
    have hb5 : Below (w3.heap.size + 1) (w3.alloc (.cells #[.int .i64 j.a, .int .i64 j.ae] 100)) ((w3.alloc (.cells #[.int .i64 j.a, .int .i64 j.ae] 100)).alloc (.cells #[.int .i64 j.b, .int .i64 j.be] 100)) := (Below.refl _ _).alloc (by simp) _
    have HC : Hid (CkR w0 ((w3.alloc (.cells #[.int .i64 j.a, .int .i64 j.ae] 100)).alloc (.cells #[.int .i64 j.b, .int .i64 j.be] 100)) n (atI (L.lnks.take k)) Vs p5 w3.heap.size (w3.heap.size + 1) j) := Lib.hid
     ⟨(HI2.out.call hb3).call hb4, (H52.out.below hb3).below hb4, (BoxV.new w3 [.int .i64 j.a, .int .i64 j.ae] 100).below (by simpa using hb5), (by have := BoxV.new (w3.alloc (.cells #[.int .i64 j.a, .int .i64 j.ae] 100)) [.int .i64 j.b, .int .i64 j.be] 100; simpa using this)⟩
    clear hb3 hb4 hb5 HI2 H52 t0 t1 t2 t3 t4 t5 t6
    go_wp2
    obtain ⟨p6, hp6⟩ : ∃ p6, w3.heap.size = p6 := ⟨_, rfl⟩
    obtain ⟨p7, hp7⟩ : ∃ p7, p6 + 1 = p7 := ⟨_, rfl⟩
    rw [hp6, hp7] at HC
    rw [hp6, hp7]
    clear hp6 hp7
    generalize (w3.alloc (.cells #[.int .i64 j.a, .int .i64 j.ae] 100)).alloc (.cells #[.int .i64 j.b, .int .i64 j.be] 100) = W3 at *
    obtain ⟨ia, hia⟩ := Int.eq_ofNat_of_zero_le (show 0 ≤ 2 * j.a + j.ae by omega)
    obtain ⟨ib, hib⟩ := Int.eq_ofNat_of_zero_le (show 0 ≤ 2 * j.b + j.be by omega)
    have ha : ia < n := by have := Hn.out; omega
    have hb : ib < n := by have := Hn.out; omega
    have Hia := Lib.hid hia
    have Hib := Lib.hid hib
    clear hia hib
    obtain ⟨Z, hZ, f, hS, hof⟩ := classOf (fun x => CkR w0 x n (atI (L.lnks.take k)) Vs p5 p6 p7 j) (HC.out.drewN 1)
    have z0 : ∀ z, (f z).cell? ⟨p6, 0, none⟩ = some (.int .i64 j.a) := fun z => (hS z).b6.2 0 _ rfl
    have z1 : ∀ z, (f z).cell? ⟨p6, 1, none⟩ = some (.int .i64 j.ae) := fun z => (hS z).b6.2 1 _ rfl
    have z2 : ∀ z, (f z).cell? ⟨p7, 0, none⟩ = some (.int .i64 j.b) := fun z => (hS z).b7.2 0 _ rfl
    have z3 : ∀ z, (f z).cell? ⟨p7, 1, none⟩ = some (.int .i64 j.be) := fun z => (hS z).b7.2 1 _ rfl
    have HS := Lib.hid hS
    have Hof := Lib.hid hof
    clear hS hof
    refine wp_region_qtail (fun w' => ∃ z : Z, w' = f z) 9 (by kernel_rfl) (by kernel_rfl) (Hof.out _ (HC.out.drewN 1)) ?_
    simp only [List.take_succ_cons, List.take_zero, List.drop_succ_cons, List.drop_zero]
    (repeat (go_big_quiet_step ((go_at_call 56; first
     | with_reducible exact (index_any j.a j.ae _ (by omega) (by omega) (by omega) (by omega)).mono fun e w'' ⟨he, hbb⟩ => ⟨he.trans (ret_int Hia.out), Hof.out _ ((HS.out _).call hbb)⟩
     | with_reducible exact (index_any j.b j.be _ (by omega) (by omega) (by omega) (by omega)).mono fun e w'' ⟨he, hbb⟩ => ⟨he.trans (ret_int Hib.out), Hof.out _ ((HS.out _).call hbb)⟩))))
    refine wpQuiet_nil ?_
    intro w4 hw4
    obtain ⟨z4, hw4⟩ := hw4
    have HC4 := Lib.hid (HS.out z4)
    rw [← hw4] at HC4
    clear hw4 z0 z1 z2 z3 HS Hof HC
    clear hZ f Z z4
    obtain ⟨Ea, HEa⟩ : ∃ Ea, Hid (atI (L.lnks.take k) ia = Ea) := ⟨_, Lib.hid rfl⟩
    obtain ⟨Eb, HEb⟩ : ∃ Eb, Hid (atI (L.lnks.take k) ib = Eb) := ⟨_, Lib.hid rfl⟩
    obtain ⟨Aa, ca, hVa, hca1, hca2⟩ := (HC4.out.tab.own ia ha).shape
    obtain ⟨Ab, cb, hVb, hcb1, hcb2⟩ := (HC4.out.tab.own ib hb).shape
    rw [HEa.out] at hVa hca1
    rw [HEb.out] at hVb hcb1
    have HVa := Lib.hid hVa
    have HVb := Lib.hid hVb
    clear hVa hVb
    have g0 := HC4.out.b6.2 0 _ rfl
    have g1 := HC4.out.b6.2 1 _ rfl
    have g2 := HC4.out.b7.2 0 _ rfl
    have g3 := HC4.out.b7.2 1 _ rfl
    have heq := eql_end
    cases hsame : eqE j.a j.ae j.b j.be
    ·go_wp2
     clear g0 g1 g2 g3 heq
     have hne : ¬ (j.a = j.b ∧ j.ae = j.be) := by simpa [eqE] using hsame
     obtain ⟨J, HJ⟩ : ∃ J, Hid (Ea.any (joinsB j.a j.ae j.b j.be) = J) := ⟨_, Lib.hid rfl⟩
     have Hne := Lib.hid hne
     clear hne hsame
     obtain ⟨Z, hZ, f, hS, hof⟩ := classOf (fun x => CkR w0 x n (atI (L.lnks.take k)) Vs p5 p6 p7 j) (HC4.out.drewN 1)
     have z0 : ∀ z, (f z).cell? ⟨p6, 0, none⟩ = some (.int .i64 j.a) := fun z => (hS z).b6.2 0 _ rfl
     have z1 : ∀ z, (f z).cell? ⟨p6, 1, none⟩ = some (.int .i64 j.ae) := fun z => (hS z).b6.2 1 _ rfl
     have z2 : ∀ z, (f z).cell? ⟨p7, 0, none⟩ = some (.int .i64 j.b) := fun z => (hS z).b7.2 0 _ rfl
     have z3 : ∀ z, (f z).cell? ⟨p7, 1, none⟩ = some (.int .i64 j.be) := fun z => (hS z).b7.2 1 _ rfl
     have z4 : ∀ z, (f z).cell? ⟨p5, 0, none⟩ = some (.int .i64 j.a) := fun z => (hS z).b5.2 0 _ rfl
     have z5 : ∀ z, (f z).cell? ⟨p5, 1, none⟩ = some (.int .i64 j.ae) := fun z => (hS z).b5.2 1 _ rfl
     have z6 : ∀ z, (f z).cell? ⟨p5, 2, none⟩ = some (.int .i64 j.b) := fun z => (hS z).b5.2 2 _ rfl
     have z7 : ∀ z, (f z).cell? ⟨p5, 3, none⟩ = some (.int .i64 j.be) := fun z => (hS z).b5.2 3 _ rfl
     have z8 : ∀ z, (f z).cell? ⟨p5, 4, none⟩ = some (.int .i64 j.pt) := fun z => (hS z).b5.2 4 _ rfl
     have z9 : ∀ z, (f z).cell? ⟨p5, 5, none⟩ = some (.int .i64 j.ps) := fun z => (hS z).b5.2 5 _ rfl
     have za : ∀ z, (f z).cell? ⟨r, ia, none⟩ = some (.slice Aa Ea.length ca) := fun z => by have := (hS z).tab.row.cell (i := ia) ha; rw [HVa.out, Hr.out] at this; exact this
     have zb : ∀ z, (f z).cell? ⟨r, ib, none⟩ = some (.slice Ab Eb.length cb) := fun z => by have := (hS z).tab.row.cell (i := ib) hb; rw [HVb.out, Hr.out] at this; exact this
     have HS := Lib.hid hS
     have Hof := Lib.hid hof
     clear hS hof
     refine wp_region_qtail (fun w' => ∃ z : Z, w' = f z) 6 (by kernel_rfl) (by kernel_rfl) (Hof.out _ (HC4.out.drewN 1)) ?_
     simp only [List.take_succ_cons, List.take_zero, List.drop_succ_cons, List.drop_zero]
     (repeat (go_big_quiet_step ((go_at_call 57; with_reducible exact (joined_any Aa ca Ea j.a j.ae j.b j.be _ ((HS.out _).tab.rdAt ha HVa.out HEa.out) (by omega)).mono fun e w'' ⟨he, hbb⟩ => ⟨he.trans (ret_bool HJ.out), Hof.out _ ((HS.out _).call hbb)⟩))))
     refine wpQuiet_nil ?_
     intro w5 hw4
     obtain ⟨zz, hw4⟩ := hw4
     have HC5 := Lib.hid (HS.out zz)
     rw [← hw4] at HC5
     clear hw4 zz z0 z1 z2 z3 z4 z5 z6 z7 z8 z9 za zb HS Hof HC4 hZ f Z
     have HEa' : Hid (atE (L.lnks.take k) (j.a, j.ae) = Ea) := Lib.hid (by rw [← HEa.out]; unfold atI; rw [endOf_at l1 l5 l6 Hia.out])
     have HEb' : Hid (atE (L.lnks.take k) (j.b, j.be) = Eb) := Lib.hid (by rw [← HEb.out]; unfold atI; rw [endOf_at l3 l7 l8 Hib.out])
     have HJ' : Hid ((L.lnks.take k).any (fun i => hasE i (j.a, j.ae) && hasE i (j.b, j.be)) = J) := Lib.hid (by rw [← joins_any Hne.out, HEa'.out]; exact HJ.out)
     have Hpair : Hid ((j.a, j.ae) ≠ (j.b, j.be)) := Lib.hid (fun h => Hne.out ⟨by injection h, by injection h⟩)
     cases J
     ·obtain ⟨Fa, HFa⟩ : ∃ Fa, Hid (fitB j Ea = Fa) := ⟨_, Lib.hid rfl⟩
      obtain ⟨Fb, HFb⟩ : ∃ Fb, Hid (fitB j Eb = Fb) := ⟨_, Lib.hid rfl⟩
      have HLE : Hid (linkErr L.secs.length L.pts.length (L.lnks.take k) j = if Fa = false ∨ Fb = false then 11 else 0) := Lib.hid (by
       unfold linkErr
       rw [if_neg (by rw [Hin.out]; decide), if_neg Hpair.out, if_neg (by rw [HJ'.out]; decide), HEa'.out, HEb'.out, HFa.out, HFb.out])
      go_wp2
      obtain ⟨Z, hZ, f, hS, hof⟩ := classOf (fun x => CkR w0 x n (atI (L.lnks.take k)) Vs p5 p6 p7 j) (HC5.out.drewN 1)
      have z0 : ∀ z, (f z).cell? ⟨p6, 0, none⟩ = some (.int .i64 j.a) := fun z => (hS z).b6.2 0 _ rfl
      have z1 : ∀ z, (f z).cell? ⟨p6, 1, none⟩ = some (.int .i64 j.ae) := fun z => (hS z).b6.2 1 _ rfl
      have z2 : ∀ z, (f z).cell? ⟨p7, 0, none⟩ = some (.int .i64 j.b) := fun z => (hS z).b7.2 0 _ rfl
      have z3 : ∀ z, (f z).cell? ⟨p7, 1, none⟩ = some (.int .i64 j.be) := fun z => (hS z).b7.2 1 _ rfl
      have z4 : ∀ z, (f z).cell? ⟨p5, 0, none⟩ = some (.int .i64 j.a) := fun z => (hS z).b5.2 0 _ rfl
      have z5 : ∀ z, (f z).cell? ⟨p5, 1, none⟩ = some (.int .i64 j.ae) := fun z => (hS z).b5.2 1 _ rfl
      have z6 : ∀ z, (f z).cell? ⟨p5, 2, none⟩ = some (.int .i64 j.b) := fun z => (hS z).b5.2 2 _ rfl
      have z7 : ∀ z, (f z).cell? ⟨p5, 3, none⟩ = some (.int .i64 j.be) := fun z => (hS z).b5.2 3 _ rfl
      have z8 : ∀ z, (f z).cell? ⟨p5, 4, none⟩ = some (.int .i64 j.pt) := fun z => (hS z).b5.2 4 _ rfl
      have z9 : ∀ z, (f z).cell? ⟨p5, 5, none⟩ = some (.int .i64 j.ps) := fun z => (hS z).b5.2 5 _ rfl
      have za : ∀ z, (f z).cell? ⟨r, ia, none⟩ = some (.slice Aa Ea.length ca) := fun z => by have := (hS z).tab.row.cell (i := ia) ha; rw [HVa.out, Hr.out] at this; exact this
      have zb : ∀ z, (f z).cell? ⟨r, ib, none⟩ = some (.slice Ab Eb.length cb) := fun z => by have := (hS z).tab.row.cell (i := ib) hb; rw [HVb.out, Hr.out] at this; exact this
      have HS := Lib.hid hS
      have Hof := Lib.hid hof
      clear hS hof
      refine wp_region_qtail (fun w' => ∃ z : Z, w' = f z) 6 (by kernel_rfl) (by kernel_rfl) (Hof.out _ (HC5.out.drewN 1)) ?_
      simp only [List.take_succ_cons, List.take_zero, List.drop_succ_cons, List.drop_zero]
      (repeat (go_big_quiet_step ((go_at_call 58; with_reducible exact (fits_any j Aa ca Ea _ ((HS.out _).tab.rdAt ha HVa.out HEa.out) (by omega)).mono fun e w'' ⟨he, hbb⟩ => ⟨he.trans (ret_bool HFa.out), Hof.out _ ((HS.out _).call hbb)⟩))))
      refine wpQuiet_nil ?_
      intro w6 hw4
      obtain ⟨zz, hw4⟩ := hw4
      have HC6 := Lib.hid (HS.out zz)
      rw [← hw4] at HC6
      clear hw4 zz z0 z1 z2 z3 z4 z5 z6 z7 z8 z9 za zb HS Hof HC5 hZ f Z
      cases Fa
      ·have HF : Hid (R = 11) := Lib.hid (by rw [← HR'.out]; simp [linksErr, HLE.out])
       go_wp2
       go_ret
       exact ⟨ret_int HF.out.symm, Hb0.out.trans (HC6.out.tab.bel.mono Hb0.out.size)⟩
      ·go_wp2
       obtain ⟨Z, hZ, f, hS, hof⟩ := classOf (fun x => CkR w0 x n (atI (L.lnks.take k)) Vs p5 p6 p7 j) (HC6.out.drewN 1)
       have z0 : ∀ z, (f z).cell? ⟨p6, 0, none⟩ = some (.int .i64 j.a) := fun z => (hS z).b6.2 0 _ rfl
       have z1 : ∀ z, (f z).cell? ⟨p6, 1, none⟩ = some (.int .i64 j.ae) := fun z => (hS z).b6.2 1 _ rfl
       have z2 : ∀ z, (f z).cell? ⟨p7, 0, none⟩ = some (.int .i64 j.b) := fun z => (hS z).b7.2 0 _ rfl
       have z3 : ∀ z, (f z).cell? ⟨p7, 1, none⟩ = some (.int .i64 j.be) := fun z => (hS z).b7.2 1 _ rfl
       have z4 : ∀ z, (f z).cell? ⟨p5, 0, none⟩ = some (.int .i64 j.a) := fun z => (hS z).b5.2 0 _ rfl
       have z5 : ∀ z, (f z).cell? ⟨p5, 1, none⟩ = some (.int .i64 j.ae) := fun z => (hS z).b5.2 1 _ rfl
       have z6 : ∀ z, (f z).cell? ⟨p5, 2, none⟩ = some (.int .i64 j.b) := fun z => (hS z).b5.2 2 _ rfl
       have z7 : ∀ z, (f z).cell? ⟨p5, 3, none⟩ = some (.int .i64 j.be) := fun z => (hS z).b5.2 3 _ rfl
       have z8 : ∀ z, (f z).cell? ⟨p5, 4, none⟩ = some (.int .i64 j.pt) := fun z => (hS z).b5.2 4 _ rfl
       have z9 : ∀ z, (f z).cell? ⟨p5, 5, none⟩ = some (.int .i64 j.ps) := fun z => (hS z).b5.2 5 _ rfl
       have za : ∀ z, (f z).cell? ⟨r, ia, none⟩ = some (.slice Aa Ea.length ca) := fun z => by have := (hS z).tab.row.cell (i := ia) ha; rw [HVa.out, Hr.out] at this; exact this
       have zb : ∀ z, (f z).cell? ⟨r, ib, none⟩ = some (.slice Ab Eb.length cb) := fun z => by have := (hS z).tab.row.cell (i := ib) hb; rw [HVb.out, Hr.out] at this; exact this
       have HS := Lib.hid hS
       have Hof := Lib.hid hof
       clear hS hof
       refine wp_region_qtail (fun w' => ∃ z : Z, w' = f z) 6 (by kernel_rfl) (by kernel_rfl) (Hof.out _ (HC6.out.drewN 1)) ?_
       simp only [List.take_succ_cons, List.take_zero, List.drop_succ_cons, List.drop_zero]
       (repeat (go_big_quiet_step ((go_at_call 58; with_reducible exact (fits_any j Ab cb Eb _ ((HS.out _).tab.rdAt hb HVb.out HEb.out) (by omega)).mono fun e w'' ⟨he, hbb⟩ => ⟨he.trans (ret_bool HFb.out), Hof.out _ ((HS.out _).call hbb)⟩))))
       refine wpQuiet_nil ?_
       intro w7 hw4
       obtain ⟨zz, hw4⟩ := hw4
       have HC7 := Lib.hid (HS.out zz)
       rw [← hw4] at HC7
       clear hw4 zz z0 z1 z2 z3 z4 z5 z6 z7 z8 z9 za zb HS Hof HC6 hZ f Z
       cases Fb
       ·have HF : Hid (R = 11) := Lib.hid (by rw [← HR'.out]; simp [linksErr, HLE.out])
        go_wp2
        go_ret
        exact ⟨ret_int HF.out.symm, Hb0.out.trans (HC7.out.tab.bel.mono Hb0.out.size)⟩
       ·have HR2 : Hid (linksErr L.secs.length L.pts.length (L.lnks.take (k + 1)) (L.lnks.drop (k + 1)) = R) := Lib.hid (by rw [Htk.out, ← HR'.out]; simp [linksErr, HLE.out])
        go_wp2
        have y0 := HC7.out.b5.2 0 _ rfl
        have y1 := HC7.out.b5.2 1 _ rfl
        have y2 := HC7.out.b5.2 2 _ rfl
        have y3 := HC7.out.b5.2 3 _ rfl
        have y4 := HC7.out.b5.2 4 _ rfl
        have y5 := HC7.out.b5.2 5 _ rfl
        have y6 := HC7.out.b5.1
        have ya : w7.cell? ⟨r, ia, none⟩ = some (.slice Aa Ea.length ca) := by have := HC7.out.tab.row.cell (i := ia) ha; rw [HVa.out, Hr.out] at this; exact this
        have yr : r < w7.heap.size := by have := HC7.out.tab.row.lt; rw [Hr.out] at this; exact this
        have hEa : Ea.length ≤ 192 := by rw [← HEa.out]; unfold atI atE; have := List.length_filter_le (fun k => hasE k (endOf ia)) (L.lnks.take k); rw [List.length_take] at this; omega
        have hEb : Eb.length ≤ 192 := by rw [← HEb.out]; unfold atI atE; have := List.length_filter_le (fun k => hasE k (endOf ib)) (L.lnks.take k); rw [List.length_take] at this; omega
        have HT7 : Hid (CkI w0 (w7.alloc (.cells #[.int .i64 j.a, .int .i64 j.ae, .int .i64 j.b, .int .i64 j.be, .int .i64 j.pt, .int .i64 j.ps] 58)).drew n (atI (L.lnks.take k)) Vs) := Lib.hid (HC7.out.tab.call ((Below.refl _ _).alloc (Nat.le_refl _) _).drew)
        have Hown : Hid ((w7.alloc (.cells #[.int .i64 j.a, .int .i64 j.ae, .int .i64 j.b, .int .i64 j.be, .int .i64 j.pt, .int .i64 j.ps] 58)).drew.ownsRow (w0.heap.size + 1) 58 6 (.slice Aa Ea.length ca) Ea.length (Ea.flatMap lnkF)) := Lib.hid (by have := HT7.out.own ia ha; rw [HVa.out, HEa.out] at this; exact this)
        have Hnews : Hid (∀ j' u, (lnkF j)[j']? = some u → (w7.alloc (.cells #[.int .i64 j.a, .int .i64 j.ae, .int .i64 j.b, .int .i64 j.be, .int .i64 j.pt, .int .i64 j.ps] 58)).drew.cell? ((⟨w7.heap.size, 0, none⟩ : Addr).add j') = some u) := Lib.hid (World.news_of_block (w := w7.alloc (.cells #[.int .i64 j.a, .int .i64 j.ae, .int .i64 j.b, .int .i64 j.be, .int .i64 j.pt, .int .i64 j.ps] 58)) (heap_alloc_new w7 _))
        have Hone : Hid (∀ u ∈ lnkF j, u.oneCell' = true) := Lib.hid (by intro u hu; simp [lnkF] at hu; rcases hu with rfl | rfl | rfl | rfl | rfl | rfl <;> rfl)
        have Hbase : Hid (w0.heap.size + 1 ≤ (w7.alloc (.cells #[.int .i64 j.a, .int .i64 j.ae, .int .i64 j.b, .int .i64 j.be, .int .i64 j.pt, .int .i64 j.ps] 58)).drew.heap.size) := Lib.hid (by have := HC7.out.tab.row.lt; show _ ≤ (w7.alloc _).heap.size; simp; omega)
        have Hrow : Hid (∀ w8, (w7.alloc (.cells #[.int .i64 j.a, .int .i64 j.ae, .int .i64 j.b, .int .i64 j.be, .int .i64 j.pt, .int .i64 j.ps] 58)).drew.grownBy w8 (Value.slice Aa Ea.length ca).ownBlock → w8.cell? ⟨r, ia, none⟩ = some (.slice Aa Ea.length ca) ∧ w8.frozen? ⟨r, ia, none⟩ = false) := Lib.hid (fun w8 hg => by
         have hne : some w0.heap.size ≠ (Value.slice Aa Ea.length ca).ownBlock := fun e => by
          rw [← HVa.out] at e
          have := HT7.out.blk ha e.symm; omega
         have hrow := HT7.out.row.of_block (hg.block _ HT7.out.row.lt hne)
         have h1 := hrow.cell (i := ia) ha
         have h2 := hrow.frozen ia
         rw [HVa.out, Hr.out] at h1
         rw [Hr.out] at h2
         exact ⟨h1, h2⟩)
        go_region_law (refine step_append_lies _ (by rfl) (.tmp 66) (.tmp 68) 27 (by rfl) (w0.heap.size + 1) 58 i0 _ 6 48 Try.underlying27 hi hz0 hz1 hz2 rfl (by omega) (.slice Aa Ea.length ca) Ea.length (Ea.flatMap lnkF) (by simp [Act.eval]) Hown.out ⟨w7.heap.size, 0, none⟩ 1 1 (lnkF j) (by simp [Act.eval]) rfl Hnews.out Hone.out (by omega) (by unfold maxLen; omega) (by omega) Hbase.out (w7.heap.size + 1) (by simp) ?_; intro g8 cap8 w8 ho8 hg8 hat8 hlt8; obtain ⟨x1, x2⟩ := Hrow.out w8 hg8)
        all_goals
         have HT8 : Hid (CkI w0 (w8.setCell ⟨r, ia, none⟩ (.slice (some ⟨g8, 0, none⟩) (Ea.length + 1) cap8)) n (fun i => if i = ia then Ea ++ [j] else atI (L.lnks.take k) i) (fun i => if i = ia then .slice (some ⟨g8, 0, none⟩) (Ea.length + 1) cap8 else Vs i)) := Lib.hid (by
          have h := HT7.out.put ha j (g := g8) (cap := cap8) (by rw [HEa.out]; exact ho8) (by rw [HVa.out]; exact hg8) (by rw [HVa.out]; exact hat8.imp id (fun e => by rw [e]; show _ = (w7.alloc _).heap.size; simp))
          rw [HEa.out, Hr.out] at h; exact h)
         have H58 : Hid (BoxV (w8.setCell ⟨r, ia, none⟩ (.slice (some ⟨g8, 0, none⟩) (Ea.length + 1) cap8)) p5 [.int .i64 j.a, .int .i64 j.ae, .int .i64 j.b, .int .i64 j.be, .int .i64 j.pt, .int .i64 j.ps]) := Lib.hid (((HC7.out.b5.below ((Below.refl _ _).alloc (Nat.le_refl _) (.cells #[.int .i64 j.a, .int .i64 j.ae, .int .i64 j.b, .int .i64 j.be, .int .i64 j.pt, .int .i64 j.ps] 58)).drew).grown hg8 (fun e => by rw [← HVa.out] at e; have := Hold.out ia ha p5 e.symm; omega)).far (by have := Hrp.out; show p5 ≠ r; omega) _)
         clear ho8 hg8 hat8 hlt8 x1 x2 HT7 Hown Hnews Hbase Hrow HC7 y0 y1 y2 y3 y4 y5 y6 ya yr
         generalize w8.setCell ⟨r, ia, none⟩ (.slice (some ⟨g8, 0, none⟩) (Ea.length + 1) cap8) = w9 at *
         have hab : ib ≠ ia := fun e => Hne.out (by have := Hia.out; have := Hib.out; omega)
         have Hab := Lib.hid hab
         clear hab
         obtain ⟨V1, HV1⟩ : ∃ V1, Hid ((fun i => if i = ia then .slice (some ⟨g8, 0, none⟩) (Ea.length + 1) cap8 else Vs i) = V1) := ⟨_, Lib.hid rfl⟩
         obtain ⟨E1, HE1⟩ : ∃ E1, Hid ((fun i => if i = ia then Ea ++ [j] else atI (L.lnks.take k) i) = E1) := ⟨_, Lib.hid rfl⟩
         rw [HV1.out, HE1.out] at HT8
         have HVb1 : Hid (V1 ib = .slice Ab Eb.length cb) := Lib.hid (by rw [← HV1.out]; simp only [if_neg Hab.out]; exact HVb.out)
         have HEb1 : Hid (E1 ib = Eb) := Lib.hid (by rw [← HE1.out]; simp only [if_neg Hab.out]; exact HEb.out)
         have y0 := H58.out.2 0 _ rfl
         have y1 := H58.out.2 1 _ rfl
         have y2 := H58.out.2 2 _ rfl
         have y3 := H58.out.2 3 _ rfl
         have y4 := H58.out.2 4 _ rfl
         have y5 := H58.out.2 5 _ rfl
         have y6 := H58.out.1
         have ya : w9.cell? ⟨r, ib, none⟩ = some (.slice Ab Eb.length cb) := by have := HT8.out.row.cell (i := ib) hb; rw [HVb1.out, Hr.out] at this; exact this
         have yr : r < w9.heap.size := by have := HT8.out.row.lt; rw [Hr.out] at this; exact this
         have HT9 : Hid (CkI w0 (w9.alloc (.cells #[.int .i64 j.a, .int .i64 j.ae, .int .i64 j.b, .int .i64 j.be, .int .i64 j.pt, .int .i64 j.ps] 58)).drew n E1 V1) := Lib.hid (HT8.out.call ((Below.refl _ _).alloc (Nat.le_refl _) _).drew)
         have Hown : Hid ((w9.alloc (.cells #[.int .i64 j.a, .int .i64 j.ae, .int .i64 j.b, .int .i64 j.be, .int .i64 j.pt, .int .i64 j.ps] 58)).drew.ownsRow (w0.heap.size + 1) 58 6 (.slice Ab Eb.length cb) Eb.length (Eb.flatMap lnkF)) := Lib.hid (by have := HT9.out.own ib hb; rw [HVb1.out, HEb1.out] at this; exact this)
         have Hnews : Hid (∀ j' u, (lnkF j)[j']? = some u → (w9.alloc (.cells #[.int .i64 j.a, .int .i64 j.ae, .int .i64 j.b, .int .i64 j.be, .int .i64 j.pt, .int .i64 j.ps] 58)).drew.cell? ((⟨w9.heap.size, 0, none⟩ : Addr).add j') = some u) := Lib.hid (World.news_of_block (w := w9.alloc (.cells #[.int .i64 j.a, .int .i64 j.ae, .int .i64 j.b, .int .i64 j.be, .int .i64 j.pt, .int .i64 j.ps] 58)) (heap_alloc_new w9 _))
         have Hbase : Hid (w0.heap.size + 1 ≤ (w9.alloc (.cells #[.int .i64 j.a, .int .i64 j.ae, .int .i64 j.b, .int .i64 j.be, .int .i64 j.pt, .int .i64 j.ps] 58)).drew.heap.size) := Lib.hid (by have := HT8.out.row.lt; show _ ≤ (w9.alloc _).heap.size; simp; omega)
         have Hrow : Hid (∀ w10, (w9.alloc (.cells #[.int .i64 j.a, .int .i64 j.ae, .int .i64 j.b, .int .i64 j.be, .int .i64 j.pt, .int .i64 j.ps] 58)).drew.grownBy w10 (Value.slice Ab Eb.length cb).ownBlock → w10.cell? ⟨r, ib, none⟩ = some (.slice Ab Eb.length cb) ∧ w10.frozen? ⟨r, ib, none⟩ = false) := Lib.hid (fun w10 hg => by
          have hne : some w0.heap.size ≠ (Value.slice Ab Eb.length cb).ownBlock := fun e => by
           rw [← HVb1.out] at e
           have := HT9.out.blk hb e.symm; omega
          have hrow := HT9.out.row.of_block (hg.block _ HT9.out.row.lt hne)
          have h1 := hrow.cell (i := ib) hb
          have h2 := hrow.frozen ib
          rw [HVb1.out, Hr.out] at h1
          rw [Hr.out] at h2
          exact ⟨h1, h2⟩)
         go_wp2
         go_region_law (refine step_append_lies _ (by rfl) (.tmp 74) (.tmp 76) 27 (by rfl) (w0.heap.size + 1) 58 i0 _ 6 48 Try.underlying27 hi hz0 hz1 hz2 rfl (by omega) (.slice Ab Eb.length cb) Eb.length (Eb.flatMap lnkF) (by simp [Act.eval]) Hown.out ⟨w9.heap.size, 0, none⟩ 1 1 (lnkF j) (by simp [Act.eval]) rfl Hnews.out Hone.out (by omega) (by unfold maxLen; omega) (by omega) Hbase.out (w9.heap.size + 1) (by simp) ?_; intro g10 cap10 w10 ho10 hg10 hat10 hlt10; obtain ⟨x1, x2⟩ := Hrow.out w10 hg10)
         all_goals
          have HT10 : Hid (∃ V2, CkI w0 (w10.setCell ⟨r, ib, none⟩ (.slice (some ⟨g10, 0, none⟩) (Eb.length + 1) cap10)) n (atI (L.lnks.take (k + 1))) V2) := Lib.hid (by
           have h := HT9.out.put hb j (g := g10) (cap := cap10) (by rw [HEb1.out]; exact ho10) (by rw [HVb1.out]; exact hg10) (by rw [HVb1.out]; exact hat10.imp id (fun e => by rw [e]; show _ = (w9.alloc _).heap.size; simp))
           rw [HEb1.out, Hr.out] at h
           refine ⟨_, h.congr (fun i hi => ?_)⟩
           have hs := atI_step (prev := L.lnks.take k) l1 l5 l6 l3 l7 l8 Hia.out Hib.out (Ne.symm Hab.out) i
           rw [if_neg Hab.out, HEa.out, HEb.out] at hs
           rw [Htk.out, ← hs, ← HE1.out])
          clear ho10 hg10 hat10 hlt10 x1 x2 HT9 Hown Hnews Hbase Hrow y0 y1 y2 y3 y4 y5 y6 ya yr HT8 H58
          generalize w10.setCell ⟨r, ib, none⟩ (.slice (some ⟨g10, 0, none⟩) (Eb.length + 1) cap10) = w11 at *
          obtain ⟨V2, hT⟩ := HT10.out
          have HT11 := Lib.hid hT
          clear hT HT10
          go_wp2
          go_roundw
          case rel => exact ⟨k + 1, V2, by omega, by go_num, HR2, HT11⟩
          case measure => simp [intOf]; omega
     ·have HF : Hid (R = 5) := Lib.hid (by
       have : linkErr L.secs.length L.pts.length (L.lnks.take k) j = 5 := by
        unfold linkErr
        rw [if_neg (by rw [Hin.out]; decide), if_neg Hpair.out, if_pos HJ'.out]
       rw [← HR'.out]; simp [linksErr, this])
      go_wp2
      go_ret
      exact ⟨ret_int HF.out.symm, Hb0.out.trans (HC5.out.tab.bel.mono Hb0.out.size)⟩
    ·have HF : Hid (R = 1) := Lib.hid (by
      have : (j.a, j.ae) = (j.b, j.be) := by simp [eqE] at hsame; rw [hsame.1, hsame.2]
      rw [← HR'.out]; simp [linksErr, linkErr, Hin.out, this])
     go_wp2
     go_ret
     exact ⟨ret_int HF.out.symm, Hb0.out.trans (HC4.out.tab.bel.mono Hb0.out.size)⟩
  ·have HF : Hid (R = 0) := Lib.hid (by rw [← HR.out, List.drop_of_length_le (by omega)]; rfl)
   go_wp2
   go_ret
   exact ⟨ret_int HF.out.symm, Hb0.out.trans (HI.out.bel.mono Hb0.out.size)⟩
end Go.Proofs.Ythnfliopmjpdmaa
namespace Go.Proofs.Ythnfliopmjpdmaa
open Go.RowKit
open Go.WideMaps (keyOf_string_mk)
theorem run_zero_bool (w : World) : (zeroValue 4).run Try.prog w = .ok (.bool false) w := by kernel_rfl
def SeenM (w : World) (b : Nat) (seen : List ByteArray) : Prop :=
 ∃ D : DataW Unit, w.ownsMap Try.prog 9 (plainElem Try.prog 4) b seen.length D ∧ Maps.IsMap D ∧ ∀ s : ByteArray, D.atKey (.string s.data.toList) (.lit (.bool false)) = .lit (.bool (memS s seen))
theorem memS_snoc (s x : ByteArray) (l : List ByteArray) : memS s (l ++ [x]) = (memS s l || eqS s x) := by simp [memS, List.any_append]
theorem bytes_inj {a b : ByteArray} (h : a.data.toList = b.data.toList) : a = b := by
 cases a; cases b; simp at h; rw [h]
theorem SeenM.new (w : World) : SeenM (w.alloc (.map #[] 0)) w.heap.size [] :=
 ⟨.map [], World.ownsMap_made w _ _ _, Maps.isMap_empty, fun s => by simp [DataW.atKey, memS]⟩
theorem SeenM.of_block {w w' : World} {b : Nat} {seen : List ByteArray} (h : SeenM w b seen) (e : w'.heap[b]? = w.heap[b]?) : SeenM w' b seen := by
 obtain ⟨D, ⟨es, c, h1, h2⟩, h3⟩ := h
 exact ⟨D, ⟨es, c, e.trans h1, h2⟩, h3⟩
theorem SeenM.lt {w : World} {b : Nat} {seen : List ByteArray} (h : SeenM w b seen) : b < w.heap.size := by
 obtain ⟨D, h1, _⟩ := h; exact h1.lt
theorem plainElem_bool_inv {e : TypeId} (he : Try.prog.underlying e = some .bool) {v : Value} {z : DataW Unit × List MemPlace} (h : plainElem Try.prog e v = some z) : ∃ x, v = .bool x ∧ z = (.lit (.bool x), []) := by
 unfold plainElem at h
 rw [he] at h
 cases v <;> simp at h
 exact ⟨_, rfl, h.symm⟩
theorem SeenM.look {w : World} {b : Nat} {seen : List ByteArray} (h : SeenM w b seen) (s : ByteArray) (hs : s.size ≤ maxLen) : (Instr.lookup 79 (.map (some b)) (.string s) false).run Try.prog w = .ok (.bool (memS s seen)) w := by
 obtain ⟨D, hown, hD, hat⟩ := h
 obtain ⟨v, ps, hrun, hv⟩ := hown.lookup (Maps.string_keyed Try.underlying9) Try.underlying79 (run_zero_bool w) (plainElem_bool Try.underlying4 false) (keyOf_string_mk Try.underlying9 hs)
 obtain ⟨x, rfl, hx⟩ := plainElem_bool_inv Try.underlying4 hv
 simp only [Prod.mk.injEq] at hx
 have h1 := hx.1
 rw [hat s] at h1
 have h3 : memS s seen = x := by simpa using h1
 rw [h3]; exact hrun
theorem SeenM.put {w : World} {b : Nat} {seen : List ByteArray} (h : SeenM w b seen) (s : ByteArray) (hs : s.size ≤ maxLen) (hn : seen.length < maxLen) :
  ∃ w', (Instr.mapUpdate 79 (.map (some b)) (.string s) (.bool true)).run Try.prog w = .ok () w' ∧ SeenM w' b (seen ++ [s]) ∧ w.grownBy w' (some b) := by
 obtain ⟨D, hown, hD, hat⟩ := h
 obtain ⟨w', hrun, ho, hg⟩ := hown.update (Maps.string_keyed Try.underlying9) Try.underlying79 hn (keyOf_string_mk Try.underlying9 hs) (plainElem_bool Try.underlying4 true)
 refine ⟨w', hrun, ⟨_, by rw [List.length_append]; exact ho, hD.put _ _, fun x => ?_⟩, hg⟩
 rw [memS_snoc]
 by_cases hx : x = s
 ·subst hx
  rw [Maps.atKey_put_same hD ((Maps.string_keyed Try.underlying9).key (keyOf_string_mk (P := Try.prog) Try.underlying9 hs)), (eqS_iff _ _).2 rfl]; simp
 ·rw [Maps.atKey_put_other (fun e => hx (bytes_inj (by simpa using e))), hat x, show eqS x s = false by rw [Bool.eq_false_iff]; exact fun h => hx ((eqS_iff _ _).1 h)]; simp
theorem nameErr_bad {seen : List ByteArray} {s : ByteArray} (h : nameB s = false) : nameErr seen s = 3 := by simp [nameErr, h]
theorem nameErr_dup {seen : List ByteArray} {s : ByteArray} (h : nameB s = true) (h2 : memS s seen = true) : nameErr seen s = 5 := by simp [nameErr, h, h2]
theorem nameErr_ok {seen : List ByteArray} {s : ByteArray} (h : nameB s = true) (h2 : memS s seen = false) : nameErr seen s = 0 := by simp [nameErr, h, h2]
theorem checkName_any (s : ByteArray) (b : Nat) (seen : List ByteArray) (w : World) (hs : s.size ≤ maxLen) (hM : SeenM w b seen) (hn : seen.length < maxLen) :
  Calls Try.prog 37 #[.string s, .map (some b)] w fun e w' => e = .returned (.int .i64 (nameErr seen s)) ∧ (nameErr seen s = 0 → SeenM w' b (seen ++ [s])) ∧ w.grownBy w' (some b) := by
 have hs' : s.size ≤ 9223372036854775807 := by unfold maxLen at hs; omega
 have hgr : w.grownBy w (some b) := ⟨rfl, rfl, rfl, Nat.le_refl _, fun _ _ _ => rfl⟩
 have Hgr := Lib.hid hgr
 clear hgr
 cases hB : nameB s
 ·have HB := Lib.hid hB
  have HE := Lib.hid (nameErr_bad (seen := seen) hB)
  clear hB hM
  go_enter Try.func37, Try.ntmps37
  go_wp2_with fail
  refine (name_any s _ hs').mono ?_
  rintro e w' ⟨rfl, rfl⟩
  rw [HB.out]
  go_wp2
  go_ret
  exact ⟨ret_int HE.out.symm, fun h => absurd h (by rw [HE.out]; decide), Hgr.out⟩
 ·have hl := hM.look s hs
  cases hD : memS s seen
  ·obtain ⟨w2, hu, hM2, hg2⟩ := hM.put s hs hn
   rw [hD] at hl
   have HB := Lib.hid hB
   have HE := Lib.hid (nameErr_ok hB hD)
   have HM2 := Lib.hid hM2
   have Hg2 := Lib.hid hg2
   clear hB hD hM hM2 hg2
   go_enter Try.func37, Try.ntmps37
   go_wp2_with fail
   refine (name_any s _ hs').mono ?_
   rintro e w' ⟨rfl, rfl⟩
   rw [HB.out]
   go_wp2
   go_ret
   exact ⟨ret_int HE.out.symm, fun _ => HM2.out, Hg2.out⟩
  ·rw [hD] at hl
   have HB := Lib.hid hB
   have HE := Lib.hid (nameErr_dup hB hD)
   clear hB hD hM
   go_enter Try.func37, Try.ntmps37
   go_wp2_with fail
   refine (name_any s _ hs').mono ?_
   rintro e w' ⟨rfl, rfl⟩
   rw [HB.out]
   go_wp2
   go_ret
   exact ⟨ret_int HE.out.symm, fun h => absurd h (by rw [HE.out]; decide), Hgr.out⟩
end Go.Proofs.Ythnfliopmjpdmaa
namespace Go.Proofs.Ythnfliopmjpdmaa
open Go.RowKit
theorem index_pair0 (x y : Value) (w : World) : (Instr.index 53 (.agg #[x, y]) (.int .i64 0)).run Try.prog w = .ok x w := by kernel_rfl
theorem index_pair1 (x y : Value) (w : World) : (Instr.index 53 (.agg #[x, y]) (.int .i64 1)).run Try.prog w = .ok y w := by kernel_rfl
def rest2 (L : Lay) : Int := orErr (secsErr L.sts.length [] L.secs) (linksErr L.secs.length L.pts.length [] L.lnks)
def rest1 (L : Lay) : Int := orErr (namesErr [] L.pts) (rest2 L)
theorem layErr_full {L : Lay} (h : 24 < L.sts.length ∨ 48 < L.pts.length ∨ 96 < L.secs.length ∨ 192 < L.lnks.length) : layErr L = 7 := if_pos h
theorem layErr_none {L : Lay} (h : ¬ (24 < L.sts.length ∨ 48 < L.pts.length ∨ 96 < L.secs.length ∨ 192 < L.lnks.length)) (h0 : L.secs.length = 0) : layErr L = 1 := by
 unfold layErr; rw [if_neg h, if_pos h0]
theorem layErr_go {L : Lay} (h : ¬ (24 < L.sts.length ∨ 48 < L.pts.length ∨ 96 < L.secs.length ∨ 192 < L.lnks.length)) (h0 : L.secs.length ≠ 0) : layErr L = orErr (namesErr [] L.sts) (rest1 L) := by
 unfold layErr; rw [if_neg h, if_neg h0]; rfl
theorem secsErr_cons (nst : Nat) (seen : List ByteArray) (s : Sec) (r : List Sec) : secsErr nst seen (s :: r) = if nameErr seen s.nm = 0 then (if secB nst s = true then secsErr nst (seen ++ [s.nm]) r else 4) else nameErr seen s.nm := rfl
set_option maxHeartbeats 1000000 in
set_option maxRecDepth 100000 in
theorem layCheck_any (V : LayV) (L : Lay) (w : World) (hR : RdLay w V L) :
  Calls Try.prog 22 #[.agg #[.slice V.A1 L.sts.length V.c1, .slice V.A2 L.pts.length V.c2, .slice V.A3 L.secs.length V.c3, .slice V.A4 L.lnks.length V.c4]] w fun e w' => e = .returned (.int .i64 (layErr L)) ∧ Below w.heap.size w w' := by
 obtain ⟨A1, c1, A2, c2, A3, c3, A4, c4⟩ := V
 dsimp only
 have i1 : L.sts.length ≤ 9223372036854775807 := hR.m1
 have i2 : L.pts.length ≤ 9223372036854775807 := hR.m2
 have i3 : L.secs.length ≤ 9223372036854775807 := hR.m3
 have i4 : L.lnks.length ≤ 9223372036854775807 := hR.m4
 obtain ⟨R, HE⟩ : ∃ R, Hid (layErr L = R) := ⟨_, Lib.hid rfl⟩
 rw [HE.out]
 have Hb0 : Hid (Below w.heap.size w (w.alloc (.cells #[.slice A1 L.sts.length c1, .slice A2 L.pts.length c2, .slice A3 L.secs.length c3, .slice A4 L.lnks.length c4] 29))) := Lib.hid ((Below.refl _ _).alloc (Nat.le_refl _) _)
 by_cases h1 : 24 < L.sts.length
 ·have HF : Hid (R = 7) := Lib.hid (by rw [← HE.out]; exact layErr_full (.inl h1))
  go_enter Try.func22, Try.ntmps22
  go_wp2
  go_ret
  exact ⟨ret_int HF.out.symm, Hb0.out⟩
 have d1 : decide ((24 : Int) < (L.sts.length : Int)) = false := by simp; omega
 by_cases h2 : 48 < L.pts.length
 ·have HF : Hid (R = 7) := Lib.hid (by rw [← HE.out]; exact layErr_full (.inr (.inl h2)))
  go_enter Try.func22, Try.ntmps22
  go_wp2
  go_ret
  exact ⟨ret_int HF.out.symm, Hb0.out⟩
 have d2 : decide ((48 : Int) < (L.pts.length : Int)) = false := by simp; omega
 by_cases h3 : 96 < L.secs.length
 ·have HF : Hid (R = 7) := Lib.hid (by rw [← HE.out]; exact layErr_full (.inr (.inr (.inl h3))))
  go_enter Try.func22, Try.ntmps22
  go_wp2
  go_ret
  exact ⟨ret_int HF.out.symm, Hb0.out⟩
 have d3 : decide ((96 : Int) < (L.secs.length : Int)) = false := by simp; omega
 by_cases h4 : 192 < L.lnks.length
 ·have HF : Hid (R = 7) := Lib.hid (by rw [← HE.out]; exact layErr_full (.inr (.inr (.inr h4))))
  go_enter Try.func22, Try.ntmps22
  go_wp2
  go_ret
  exact ⟨ret_int HF.out.symm, Hb0.out⟩
 have d4 : decide ((192 : Int) < (L.lnks.length : Int)) = false := by simp; omega
 by_cases h5 : L.secs.length = 0
 ·have HF : Hid (R = 1) := Lib.hid (by rw [← HE.out]; exact layErr_none (by omega) h5)
  have d5 : ((L.secs.length : Int) == 0) = true := by rw [h5]; rfl
  clear h5
  go_enter Try.func22, Try.ntmps22
  go_wp2
  go_ret
  exact ⟨ret_int HF.out.symm, Hb0.out⟩
 have d5 : ((L.secs.length : Int) == 0) = false := by rw [beq_eq_false_iff_ne]; omega
 have HR1 : Hid (orErr (namesErr [] L.sts) (rest1 L) = R) := Lib.hid (by rw [← HE.out]; exact (layErr_go (by omega) h5).symm)
 have HB0 := Lib.hid (BoxV.new w [.slice A1 L.sts.length c1, .slice A2 L.pts.length c2, .slice A3 L.secs.length c3, .slice A4 L.lnks.length c4] 29)
 have HR0 := Lib.hid (hR.below Hb0.out)
 have hmm := @run_makeMap Try.prog
 have hix := index_pair0
 have hix1 := index_pair1
 have n1 : L.sts.length ≤ 24 := by omega
 have n2 : L.pts.length ≤ 48 := by omega
 have n3 : L.secs.length ≤ 96 := by omega
 have n4 : L.lnks.length ≤ 192 := by omega
 have n5 : 1 ≤ L.secs.length := by omega
 clear h1 h2 h3 h4 h5 hR HE
 go_enter Try.func22, Try.ntmps22
 go_wp2
 clear d1 d2 d3 d4 d5
 generalize w.alloc (.cells #[.slice A1 L.sts.length c1, .slice A2 L.pts.length c2, .slice A3 L.secs.length c3, .slice A4 L.lnks.length c4] 29) = w0 at *
 go_loopw [40] (fun i wr => ∃ k : Nat, k ≤ 2 ∧ i = .int .i64 k ∧ Hid ((if k = 0 then orErr (namesErr [] L.sts) (rest1 L) else if k = 1 then rest1 L else rest2 L) = R) ∧ Hid (Below w0.heap.size w0 wr)) (fun i _ => 2 - (intOf i).toNat)
 case atStart => exact ⟨0, by omega, rfl, Lib.hid (by simpa using HR1.out), Lib.hid (Below.refl _ _)⟩
 case round =>
  obtain ⟨k, hk, rfl, HRk, Hbr⟩ := hrel
  obtain ⟨wo, rfl⟩ : ∃ wo : World, wo = wr := ⟨_, rfl⟩
  rcases (show k = 0 ∨ k = 1 ∨ k = 2 by omega) with rfl | rfl | rfl
  ·rw [show ((0 : Nat) : Int) = 0 from rfl]
   have HM := Lib.hid (SeenM.new wo)
   have Hb1 : Hid (Below w0.heap.size w0 (wo.alloc (.map #[] 0))) := Lib.hid (Hbr.out.alloc Hbr.out.size _)
   have Hbq : Hid (w0.heap.size ≤ wo.heap.size) := Lib.hid Hbr.out.size
   have HRk' : Hid (orErr (namesErr [] L.sts) (rest1 L) = R) := Lib.hid (by have := HRk.out; simpa [rest1] using this)
   obtain ⟨E, HE⟩ : ∃ E, Hid (namesErr [] L.sts = E) := ⟨_, Lib.hid rfl⟩
   rw [HE.out] at HRk'
   clear HRk
   go_wp2
   obtain ⟨bq, hbq⟩ : ∃ bq, wo.heap.size = bq := ⟨_, rfl⟩
   rw [hbq] at HM Hbq
   rw [hbq]
   clear hbq Hbr
   generalize wo.alloc (.map #[] 0) = w1 at *
   go_loopw [46] (fun i wr => ∃ m : Nat, m ≤ L.sts.length ∧ i = .int .i64 m ∧ Hid (namesErr (L.sts.take m) (L.sts.drop m) = E) ∧ Hid (SeenM wr bq (L.sts.take m)) ∧ Hid (Below w0.heap.size w0 wr)) (fun i _ => L.sts.length - (intOf i).toNat)
   case atStart => exact ⟨0, by omega, rfl, Lib.hid (by simpa using HE.out), by simpa using HM, Hb1⟩
   case round =>
    obtain ⟨m, hm, rfl, HEm, HMm, Hbm⟩ := hrel
    clear HM Hb1
    by_cases hlt : m < L.sts.length
    ·obtain ⟨bs, os, hA, hbl, hc⟩ := (HR0.out.below Hbm.out).r1 m hlt
     obtain rfl : A1 = some ⟨bs, os, none⟩ := hA
     obtain ⟨s, Hs⟩ : ∃ s, Hid (L.sts[m] = s) := ⟨_, Lib.hid rfl⟩
     have hsz : s.size ≤ maxLen := by rw [← Hs.out]; unfold maxLen; exact HR0.out.s1 _ (List.getElem_mem hlt)
     rw [Hs.out] at hc
     have q0 := hc 0 _ rfl
     rw [Nat.add_zero, Nat.mul_one] at q0
     have HEm' : Hid (namesErr (L.sts.take m) (s :: L.sts.drop (m + 1)) = E) := Lib.hid (by rw [← Hs.out, ← List.drop_eq_getElem_cons hlt]; exact HEm.out)
     have Htk : Hid (L.sts.take (m + 1) = L.sts.take m ++ [s]) := Lib.hid (by rw [List.take_succ_eq_append_getElem hlt, Hs.out])
     clear hc HEm Hs
     go_wp2_with fail
     refine (checkName_any s bq (L.sts.take m) _ hsz HMm.out (by rw [List.length_take]; unfold maxLen; omega)).mono ?_
     rintro e w2 ⟨rfl, hM2, hg2⟩
     have Hb2 : Hid (Below w0.heap.size w0 w2) := Lib.hid (Hbm.out.grown hg2 Hbm.out.size (fun q hq => by injection hq with hq; subst hq; exact Hbq.out))
     obtain ⟨z, Hz⟩ : ∃ z, Hid (nameErr (L.sts.take m) s = z) := ⟨_, Lib.hid rfl⟩
     rw [Hz.out] at hM2 ⊢
     clear hg2 q0 hbl HMm
     by_cases hz : z = 0
     ·subst hz
      have HM2 : Hid (SeenM w2 bq (L.sts.take (m + 1))) := Lib.hid (by rw [Htk.out]; exact hM2 rfl)
      have HE2 : Hid (namesErr (L.sts.take (m + 1)) (L.sts.drop (m + 1)) = E) := Lib.hid (by rw [Htk.out, ← HEm'.out]; simp [namesErr, Hz.out])
      clear hM2 Hz
      go_wp2
      go_roundw
      case rel => exact ⟨m + 1, by omega, by go_num, HE2, HM2, Hb2⟩
      case measure => simp [intOf]; omega
     ·have hzb : (z != 0) = true := by simpa using hz
      have HF : Hid (R = z) := Lib.hid (by
       have h1 : E = z := by rw [← HEm'.out]; simp [namesErr, Hz.out, hz]
       rw [← HRk'.out, h1]; unfold orErr; rw [if_neg hz])
      clear hM2 Hz hz
      go_wp2
      go_ret
      exact ⟨ret_int HF.out.symm, Hb0.out.trans (Hb2.out.mono Hb0.out.size)⟩
    ·have HF : Hid (rest1 L = R) := Lib.hid (by
      have h1 : E = 0 := by rw [← HEm.out, List.drop_of_length_le (by omega)]; rfl
      rw [← HRk'.out, h1]; rfl)
     go_wp2
     exact ⟨⟨1, by omega, rfl, Lib.hid (by simpa using HF.out), Hbm⟩, by decide⟩
  ·rw [show ((1 : Nat) : Int) = 1 from rfl]
   have HM := Lib.hid (SeenM.new wo)
   have Hb1 : Hid (Below w0.heap.size w0 (wo.alloc (.map #[] 0))) := Lib.hid (Hbr.out.alloc Hbr.out.size _)
   have Hbq : Hid (w0.heap.size ≤ wo.heap.size) := Lib.hid Hbr.out.size
   have HRk' : Hid (orErr (namesErr [] L.pts) (rest2 L) = R) := Lib.hid (by have := HRk.out; simpa [rest1] using this)
   obtain ⟨E, HE⟩ : ∃ E, Hid (namesErr [] L.pts = E) := ⟨_, Lib.hid rfl⟩
   rw [HE.out] at HRk'
   clear HRk
   go_wp2
   obtain ⟨bq, hbq⟩ : ∃ bq, wo.heap.size = bq := ⟨_, rfl⟩
   rw [hbq] at HM Hbq
   rw [hbq]
   clear hbq Hbr
   generalize wo.alloc (.map #[] 0) = w1 at *
   go_loopw [46] (fun i wr => ∃ m : Nat, m ≤ L.pts.length ∧ i = .int .i64 m ∧ Hid (namesErr (L.pts.take m) (L.pts.drop m) = E) ∧ Hid (SeenM wr bq (L.pts.take m)) ∧ Hid (Below w0.heap.size w0 wr)) (fun i _ => L.pts.length - (intOf i).toNat)
   case atStart => exact ⟨0, by omega, rfl, Lib.hid (by simpa using HE.out), by simpa using HM, Hb1⟩
   case round =>
    obtain ⟨m, hm, rfl, HEm, HMm, Hbm⟩ := hrel
    clear HM Hb1
    by_cases hlt : m < L.pts.length
    ·obtain ⟨bs, os, hA, hbl, hc⟩ := (HR0.out.below Hbm.out).r2 m hlt
     obtain rfl : A2 = some ⟨bs, os, none⟩ := hA
     obtain ⟨s, Hs⟩ : ∃ s, Hid (L.pts[m] = s) := ⟨_, Lib.hid rfl⟩
     have hsz : s.size ≤ maxLen := by rw [← Hs.out]; unfold maxLen; exact HR0.out.s2 _ (List.getElem_mem hlt)
     rw [Hs.out] at hc
     have q0 := hc 0 _ rfl
     rw [Nat.add_zero, Nat.mul_one] at q0
     have HEm' : Hid (namesErr (L.pts.take m) (s :: L.pts.drop (m + 1)) = E) := Lib.hid (by rw [← Hs.out, ← List.drop_eq_getElem_cons hlt]; exact HEm.out)
     have Htk : Hid (L.pts.take (m + 1) = L.pts.take m ++ [s]) := Lib.hid (by rw [List.take_succ_eq_append_getElem hlt, Hs.out])
     clear hc HEm Hs
     go_wp2_with fail
     refine (checkName_any s bq (L.pts.take m) _ hsz HMm.out (by rw [List.length_take]; unfold maxLen; omega)).mono ?_
     rintro e w2 ⟨rfl, hM2, hg2⟩
     have Hb2 : Hid (Below w0.heap.size w0 w2) := Lib.hid (Hbm.out.grown hg2 Hbm.out.size (fun q hq => by injection hq with hq; subst hq; exact Hbq.out))
     obtain ⟨z, Hz⟩ : ∃ z, Hid (nameErr (L.pts.take m) s = z) := ⟨_, Lib.hid rfl⟩
     rw [Hz.out] at hM2 ⊢
     clear hg2 q0 hbl HMm
     by_cases hz : z = 0
     ·subst hz
      have HM2 : Hid (SeenM w2 bq (L.pts.take (m + 1))) := Lib.hid (by rw [Htk.out]; exact hM2 rfl)
      have HE2 : Hid (namesErr (L.pts.take (m + 1)) (L.pts.drop (m + 1)) = E) := Lib.hid (by rw [Htk.out, ← HEm'.out]; simp [namesErr, Hz.out])
      clear hM2 Hz
      go_wp2
      go_roundw
      case rel => exact ⟨m + 1, by omega, by go_num, HE2, HM2, Hb2⟩
      case measure => simp [intOf]; omega
     ·have hzb : (z != 0) = true := by simpa using hz
      have HF : Hid (R = z) := Lib.hid (by
       have h1 : E = z := by rw [← HEm'.out]; simp [namesErr, Hz.out, hz]
       rw [← HRk'.out, h1]; unfold orErr; rw [if_neg hz])
      clear hM2 Hz hz
      go_wp2
      go_ret
      exact ⟨ret_int HF.out.symm, Hb0.out.trans (Hb2.out.mono Hb0.out.size)⟩
    ·have HF : Hid (rest2 L = R) := Lib.hid (by
      have h1 : E = 0 := by rw [← HEm.out, List.drop_of_length_le (by omega)]; rfl
      rw [← HRk'.out, h1]; rfl)
     go_wp2
     exact ⟨⟨2, by omega, rfl, Lib.hid (by simpa using HF.out), Hbm⟩, by decide⟩
  ·have HRk' : Hid (rest2 L = R) := Lib.hid (by have := HRk.out; simpa using this)
   rw [show ((2 : Nat) : Int) = 2 from rfl]
   have HM := Lib.hid (SeenM.new wo)
   have Hb1 : Hid (Below w0.heap.size w0 (wo.alloc (.map #[] 0))) := Lib.hid (Hbr.out.alloc Hbr.out.size _)
   have Hbq : Hid (w0.heap.size ≤ wo.heap.size) := Lib.hid Hbr.out.size
   obtain ⟨E, HE⟩ : ∃ E, Hid (secsErr L.sts.length [] L.secs = E) := ⟨_, Lib.hid rfl⟩
   obtain ⟨T, HT⟩ : ∃ T, Hid (linksErr L.secs.length L.pts.length [] L.lnks = T) := ⟨_, Lib.hid rfl⟩
   have HR2 : Hid (orErr E T = R) := Lib.hid (by have := HRk'.out; unfold rest2 at this; rw [HE.out, HT.out] at this; exact this)
   have HB := Lib.hid (HB0.out.below Hbr.out)
   have s2 := HB.out.2 2 _ rfl
   have s5 := HB.out.1
   clear HRk HRk'
   go_wp2
   clear s2 s5 HB
   obtain ⟨bq, hbq⟩ : ∃ bq, wo.heap.size = bq := ⟨_, rfl⟩
   rw [hbq] at HM Hbq
   rw [hbq]
   clear hbq Hbr
   generalize wo.alloc (.map #[] 0) = w1 at *
   go_loopw [62] (fun i wr => ∃ m : Nat, m ≤ L.secs.length ∧ i = .int .i64 m ∧ Hid (secsErr L.sts.length ((L.secs.take m).map Sec.nm) (L.secs.drop m) = E) ∧ Hid (SeenM wr bq ((L.secs.take m).map Sec.nm)) ∧ Hid (Below w0.heap.size w0 wr)) (fun i _ => L.secs.length - (intOf i).toNat)
   case atStart => exact ⟨0, by omega, rfl, Lib.hid (by simpa using HE.out), by simpa using HM, Hb1⟩
   case round =>
    obtain ⟨m, hm, rfl, HEm, HMm, Hbm⟩ := hrel
    clear HM Hb1
    by_cases hlt : m < L.secs.length
    ·obtain ⟨bs, os, hA, hbl, hc⟩ := (HR0.out.below Hbm.out).r3 m hlt
     obtain rfl : A3 = some ⟨bs, os, none⟩ := hA
     obtain ⟨s, Hs⟩ : ∃ s, Hid (L.secs[m] = s) := ⟨_, Lib.hid rfl⟩
     have hsz : s.nm.size ≤ maxLen := by rw [← Hs.out]; unfold maxLen; exact HR0.out.s3 _ (List.mem_map.2 ⟨_, List.getElem_mem hlt, rfl⟩)
     rw [Hs.out] at hc
     have q0 := hc 0 _ rfl
     have q1 := hc 1 _ rfl
     have q2 := hc 2 _ rfl
     have q3 := hc 3 _ rfl
     have q4 := hc 4 _ rfl
     rw [Nat.add_zero] at q0
     have HEm' : Hid (secsErr L.sts.length ((L.secs.take m).map Sec.nm) (s :: L.secs.drop (m + 1)) = E) := Lib.hid (by rw [← Hs.out, ← List.drop_eq_getElem_cons hlt]; exact HEm.out)
     have Htk : Hid ((L.secs.take (m + 1)).map Sec.nm = (L.secs.take m).map Sec.nm ++ [s.nm]) := Lib.hid (by rw [List.take_succ_eq_append_getElem hlt, Hs.out, List.map_append]; rfl)
     have hba : Below wr.heap.size wr (wr.alloc (.cells #[.string s.nm, .int .i64 s.len, .int .i64 s.lim, .int .i64 s.grd, .int .i64 s.stn] 56)) := (Below.refl _ _).alloc (Nat.le_refl _) _
     have HM1 := Lib.hid (HMm.out.of_block (hba.block _ HMm.out.lt))
     have H5 := Lib.hid (BoxV.new wr [.string s.nm, .int .i64 s.len, .int .i64 s.lim, .int .i64 s.grd, .int .i64 s.stn] 56)
     have Hb1 : Hid (Below w0.heap.size w0 (wr.alloc (.cells #[.string s.nm, .int .i64 s.len, .int .i64 s.lim, .int .i64 s.grd, .int .i64 s.stn] 56))) := Lib.hid (Hbm.out.trans (hba.mono Hbm.out.size))
     have Hpb : Hid (bq ≠ wr.heap.size) := Lib.hid (by have := HMm.out.lt; omega)
     clear hc HEm Hs hba
     go_wp2_with fail
     refine (checkName_any s.nm bq ((L.secs.take m).map Sec.nm) _ hsz HM1.out (by rw [List.length_map, List.length_take]; unfold maxLen; omega)).mono ?_
     rintro e w2 ⟨rfl, hM2, hg2⟩
     have Hb2 : Hid (Below w0.heap.size w0 w2) := Lib.hid (Hb1.out.grown hg2 Hb1.out.size (fun q hq => by injection hq with hq; subst hq; exact Hbq.out))
     have H52 := Lib.hid (H5.out.grown hg2 (fun e => Hpb.out (by injection e with e; exact e.symm)))
     obtain ⟨z, Hz⟩ : ∃ z, Hid (nameErr ((L.secs.take m).map Sec.nm) s.nm = z) := ⟨_, Lib.hid rfl⟩
     rw [Hz.out] at hM2 ⊢
     obtain ⟨p5, hp5⟩ : ∃ p5, wr.heap.size = p5 := ⟨_, rfl⟩
     rw [hp5] at H52 ⊢
     clear hg2 q0 q1 q2 q3 q4 hbl HMm HM1 H5 Hb1 Hpb hp5
     by_cases hz : z = 0
     ·subst hz
      have HM2 : Hid (SeenM w2 bq ((L.secs.take (m + 1)).map Sec.nm)) := Lib.hid (by rw [Htk.out]; exact hM2 rfl)
      have HB := Lib.hid (HB0.out.below Hb2.out)
      have s0 := HB.out.2 0 _ rfl
      have s1 := HB.out.2 1 _ rfl
      have s2 := HB.out.2 2 _ rfl
      have s3 := HB.out.2 3 _ rfl
      have t0 := H52.out.2 0 _ rfl
      have t1 := H52.out.2 1 _ rfl
      have t2 := H52.out.2 2 _ rfl
      have t3 := H52.out.2 3 _ rfl
      have t4 := H52.out.2 4 _ rfl
      clear hM2
      go_wp2_with fail
      refine (sectionInRange_any ⟨A1, c1, A2, c2, some ⟨bs, os, none⟩, c3, A4, c4⟩ L s _).mono ?_
      rintro e w3 ⟨rfl, hb3⟩
      have HM3 := Lib.hid (HM2.out.of_block (hb3.block _ HM2.out.lt))
      have Hb3 := Lib.hid (Hb2.out.trans (hb3.mono Hb2.out.size))
      clear hb3 s0 s1 s2 s3 t0 t1 t2 t3 t4 HB H52 HM2
      cases hin : secB L.sts.length s
      ·have HF : Hid (R = 4) := Lib.hid (by
        have h1 : E = 4 := by rw [← HEm'.out, secsErr_cons, if_pos Hz.out, if_neg (by rw [hin]; decide)]
        rw [← HR2.out, h1]; rfl)
       clear hin
       go_wp2
       go_ret
       exact ⟨ret_int HF.out.symm, Hb0.out.trans (Hb3.out.mono Hb0.out.size)⟩
      ·have HE2 : Hid (secsErr L.sts.length ((L.secs.take (m + 1)).map Sec.nm) (L.secs.drop (m + 1)) = E) := Lib.hid (by rw [Htk.out, ← HEm'.out, secsErr_cons, if_pos Hz.out, if_pos hin])
       clear hin
       go_wp2
       go_roundw
       case rel => exact ⟨m + 1, by omega, by go_num, HE2, HM3, Hb3⟩
       case measure => simp [intOf]; omega
     ·have hzb : (z != 0) = true := by simpa using hz
      have HF : Hid (R = z) := Lib.hid (by
       have h1 : E = z := by rw [← HEm'.out, secsErr_cons, Hz.out, if_neg hz]
       rw [← HR2.out, h1]; unfold orErr; rw [if_neg hz])
      clear hM2 Hz hz
      go_wp2
      go_ret
      exact ⟨ret_int HF.out.symm, Hb0.out.trans (Hb2.out.mono Hb0.out.size)⟩
    ·have HF : Hid (T = R) := Lib.hid (by
      have h1 : E = 0 := by rw [← HEm.out, List.drop_of_length_le (by omega)]; rfl
      rw [← HR2.out, h1]; rfl)
     have HB := Lib.hid (HB0.out.below Hbm.out)
     have s0 := HB.out.2 0 _ rfl
     have s1 := HB.out.2 1 _ rfl
     have s2 := HB.out.2 2 _ rfl
     have s3 := HB.out.2 3 _ rfl
     have s5 := HB.out.1
     go_wp2_with fail
     refine (checkLinks_any ⟨A1, c1, A2, c2, A3, c3, A4, c4⟩ L _ (HR0.out.below Hbm.out) (by omega) (by omega)).mono ?_
     rintro e w3 ⟨rfl, hb3⟩
     rw [HT.out, HF.out]
     have Hb3 := Lib.hid (Hbm.out.trans (hb3.mono Hbm.out.size))
     clear hb3
     go_wp2
     go_ret
     exact ⟨rfl, Hb0.out.trans (Hb3.out.mono Hb0.out.size)⟩
end Go.Proofs.Ythnfliopmjpdmaa
namespace Go.Proofs.Ythnfliopmjpdmaa.Av
open Go.RowKit
def cRow {α : Type} (f : α → List FVal) (l : List α) : CVal := .f (.row (l.flatMap f) l.length)
def cLay (L : Lay) : List CVal := [cRow fStr L.sts, cRow fStr L.pts, cRow fSec L.secs, cRow fLnk L.lnks]
def aLay (L : Lay) : AVal := .agg (cLay L)
theorem flatMap_len {α β : Type} (f : α → List β) (n : Nat) (h : ∀ x, (f x).length = n) (l : List α) : (l.flatMap f).length = l.length * n := flatMap_lenB f n h l
theorem flatMap_at {α β : Type} (F : α → List β) (n : Nat) (hn : ∀ x, (F x).length = n) : ∀ (l : List α) (k j : Nat) (hk : k < l.length) (hj : j < n), (l.flatMap F)[k * n + j]? = (F l[k])[j]?
 | x :: l, 0, j, _, hj => by
  simp only [List.flatMap_cons, Nat.zero_mul, Nat.zero_add, List.getElem_cons_zero]
  rw [List.getElem?_append_left (by rw [hn]; exact hj)]
 | x :: l, k + 1, j, hk, hj => by
  simp only [List.flatMap_cons, List.getElem_cons_succ]
  have e : (k + 1) * n + j = n + (k * n + j) := by rw [Nat.succ_mul]; omega
  rw [e, List.getElem?_append_right (by rw [hn]; omega), hn, Nat.add_sub_cancel_left]
  exact flatMap_at F n hn l k j (by simpa using hk) hj
theorem rdf_of_row {α : Type} (n : Nat) (f : α → List Value) (F : α → List FVal) (hF : ∀ x, F x = (f x).map FVal.v) (hn : ∀ x, (f x).length = n) (hpos : 0 < n) {w : World} {κ : Nat → BK} {l : List α} {v : Value} (h : RepF w κ (.row (l.flatMap F) l.length) v) :
  ∃ A c, v = .slice A l.length c ∧ RdF n f w A l ∧ l.length ≤ c := by
 have hnF : ∀ x, (F x).length = n := fun x => by rw [hF, List.length_map, hn]
 rcases repF_row.1 h with ⟨g, o, cap, rfl, hle, hrow⟩ | ⟨h1, h2, rfl⟩
 ·refine ⟨_, cap, rfl, fun k hk => ⟨g, o, rfl, ?_, fun j u hj => ?_⟩, hle⟩
  ·refine (hrow.fits fun e => ?_).1
   have := flatMap_len F n hnF l
   rw [e] at this
   have h0 : 0 < l.length * n := Nat.mul_pos (by omega) hpos
   simp at this; omega
  ·have hjn : j < n := by rw [← hn l[k]]; exact (List.getElem?_eq_some_iff.1 hj).1
   have hlt : k * n + j < (l.flatMap F).length := by
    rw [flatMap_len F n hnF]
    have : (k + 1) * n ≤ l.length * n := Nat.mul_le_mul_right _ (by omega)
    rw [Nat.succ_mul] at this
    omega
   obtain ⟨y, hy1, hy2⟩ := hrow.cell (k * n + j) hlt
   have e1 := flatMap_at F n hnF l k j hk hjn
   rw [List.getElem?_eq_getElem hlt, hF, List.getElem?_map, hj] at e1
   injection e1 with e1
   rw [e1] at hy2
   rw [show o + k * n + j = o + (k * n + j) by omega, hy1, (repF_v.1 hy2).1]
 ·have hl : l = [] := List.eq_nil_of_length_eq_zero h2
  subst hl
  exact ⟨none, 0, rfl, fun k hk => by simp at hk, Nat.le_refl _⟩
structure LayFits (L : Lay) : Prop where
 s1 : Short L.sts
 s2 : Short L.pts
 s3 : Short (L.secs.map Sec.nm)
 m1 : L.sts.length ≤ 9223372036854775807
 m2 : L.pts.length ≤ 9223372036854775807
 m3 : L.secs.length ≤ 9223372036854775807
 m4 : L.lnks.length ≤ 9223372036854775807
theorem lay_rd {w : World} {κ : Nat → BK} {ρ : Nat → Nat} {l : Loc} {L : Lay} {v : Value} (hL : LayFits L) (h : RepA w κ ρ l (aLay L) v) : ∃ V : LayV, v = .agg #[.slice V.A1 L.sts.length V.c1, .slice V.A2 L.pts.length V.c2, .slice V.A3 L.secs.length V.c3, .slice V.A4 L.lnks.length V.c4] ∧ RdLay w V L := by
 obtain ⟨vs, rfl, hs, hi⟩ := h
 have hs' : vs.size = 4 := hs
 obtain ⟨A1, c1, e1, r1, n1⟩ := rdf_of_row 1 strF fStr (fun x => rfl) (fun x => rfl) (by omega) (hi 0 (by simp [cLay]) (by omega)).2
 obtain ⟨A2, c2, e2, r2, n2⟩ := rdf_of_row 1 strF fStr (fun x => rfl) (fun x => rfl) (by omega) (hi 1 (by simp [cLay]) (by omega)).2
 obtain ⟨A3, c3, e3, r3, n3⟩ := rdf_of_row 5 secF fSec (fun x => rfl) (fun x => rfl) (by omega) (hi 2 (by simp [cLay]) (by omega)).2
 obtain ⟨A4, c4, e4, r4, n4⟩ := rdf_of_row 6 lnkF fLnk (fun x => rfl) (fun x => rfl) (by omega) (hi 3 (by simp [cLay]) (by omega)).2
 refine ⟨⟨A1, c1, A2, c2, A3, c3, A4, c4⟩, ?_, r1, r2, r3, r4, hL.s1, hL.s2, hL.s3, n1, n2, n3, n4, hL.m1, hL.m2, hL.m3, hL.m4⟩
 congr 1
 apply Array.ext
 ·exact hs'
 ·intro i h1 h2
  match i, h2 with
  | 0, _ => exact e1
  | 1, _ => exact e2
  | 2, _ => exact e3
  | 3, _ => exact e4
theorem refCheck_okV (L : Lay) (hL : LayFits L) : OkV Try.prog 27 [vLay L] [] (vI (layErr L)) [] := refCheck_ok2 L hL.s1 hL.s2 hL.s3 hL.m1 hL.m2 hL.m3 hL.m4
end Go.Proofs.Ythnfliopmjpdmaa.Av
namespace Go.Proofs.Ythnfliopmjpdmaa.Pl
def crcBit (c : Nat) : Nat := if c % 2 = 1 then (c / 2) ^^^ 3988292384 else c / 2
def crcBits : Nat → Nat → Nat
 | 0, c => c
 | j + 1, c => crcBit (crcBits j c)
def crcByte (c b : Nat) : Nat := crcBits 8 (c ^^^ b)
def crcFold (l : List UInt8) (c : Nat) : Nat := l.foldl (fun c b => crcByte c b.toNat) c
def crc (l : List UInt8) : Nat := 4294967295 ^^^ crcFold l 4294967295
theorem crcBit_lt (c : Nat) (h : c < 4294967296) : crcBit c < 4294967296 := by
 unfold crcBit
 split
 ·exact Nat.xor_lt_two_pow (n := 32) (by omega) (by omega)
 ·omega
theorem crcBits_lt (j c : Nat) (h : c < 4294967296) : crcBits j c < 4294967296 := by
 induction j with
 | zero => exact h
 | succ j ih => exact crcBit_lt _ ih
theorem xor_lt (c b : Nat) (h : c < 4294967296) (hb : b < 4294967296) : c ^^^ b < 4294967296 := Nat.xor_lt_two_pow (n := 32) h hb
theorem crcByte_lt (c b : Nat) (h : c < 4294967296) (hb : b < 256) : crcByte c b < 4294967296 := crcBits_lt _ _ (xor_lt _ _ h (by omega))
theorem crcFold_lt (l : List UInt8) (c : Nat) (h : c < 4294967296) : crcFold l c < 4294967296 := by
 induction l generalizing c with
 | nil => exact h
 | cons b l ih => exact ih _ (crcByte_lt _ _ h (by have := b.toNat_lt; omega))
theorem crcFold_snoc (l : List UInt8) (b : UInt8) (c : Nat) : crcFold (l ++ [b]) c = crcByte (crcFold l c) b.toNat := by simp [crcFold, List.foldl_append]
theorem crc_lt (l : List UInt8) : crc l < 4294967296 := xor_lt _ _ (by omega) (crcFold_lt _ _ (by omega))
end Go.Proofs.Ythnfliopmjpdmaa.Pl
namespace Go.Proofs.Ythnfliopmjpdmaa
open Go.RowKit
theorem take_snoc (s : ByteArray) (k : Nat) (h : k < s.size) : s.data.toList.take (k + 1) = s.data.toList.take k ++ [s[k]] := by
 rw [List.take_succ_eq_append_getElem (by simpa using h)]; rfl
theorem val_u32 {a b : Int} (h : a = b) : Value.int .u32 a = Value.int .u32 b := by rw [h]
theorem bits_byte (c : Nat) (b : UInt8) (hc : c < 4294967296) : bits .xor .u32 (c : Int) ((b.toNat : Int) % 4294967296) = ((c ^^^ b.toNat : Nat) : Int) := by
 have hb : b.toNat < 256 := b.toNat_lt
 rw [show (b.toNat : Int) % 4294967296 = ((b.toNat : Nat) : Int) by omega, u32_xor_nat c b.toNat hc (by omega)]
theorem bits_poly (c : Nat) (hc : c < 4294967296) : bits .xor .u32 ((c : Int) / 2) 3988292384 = (((c / 2) ^^^ 3988292384 : Nat) : Int) := by
 rw [show (c : Int) / 2 = ((c / 2 : Nat) : Int) by omega, show (3988292384 : Int) = ((3988292384 : Nat) : Int) from rfl, u32_xor_nat _ _ (by omega) (by omega)]
theorem bits_low (c : Nat) (hc : c < 4294967296) : bits .and .u32 (c : Int) 1 = ((c % 2 : Nat) : Int) := by
 rw [show (1 : Int) = ((1 : Nat) : Int) from rfl, u32_and_nat _ _ hc (by omega), nat_mask1]
theorem bits_not (c : Nat) (hc : c < 4294967296) : bits .xor .u32 IntKind.u32.max (c : Int) = ((4294967295 ^^^ c : Nat) : Int) := by
 rw [show IntKind.u32.max = ((4294967295 : Nat) : Int) from rfl, u32_xor_nat _ _ (by omega) hc]
theorem sum_any (s : ByteArray) (w : World) (hs : s.size ≤ 9223372036854775807) :
  Calls Try.prog 12 #[.string s] w fun e w' => e = .returned (.int .u32 (Pl.crc s.data.toList : Nat)) ∧ w = w' := by
 go_enter Try.func12, Try.ntmps12
 go_wp2
 go_loop [3, 8] (fun u v => ∃ k c : Nat, k ≤ s.size ∧ c < 4294967296 ∧ Hid (Pl.crcFold (s.data.toList.take k) 4294967295 = c) ∧ u = .int .u32 c ∧ v = .int .i64 k) (fun _ v => s.size - (intOf v).toNat)
 case atStart => exact ⟨0, 4294967295, by omega, by omega, Lib.hid rfl, rfl, rfl⟩
 case round =>
  obtain ⟨k, c, hk, hc, Hc, rfl, rfl⟩ := hrel
  by_cases hlt : k < s.size
  ·have hsn : Hid (Pl.crcFold (s.data.toList.take (k + 1)) 4294967295 = Pl.crcByte c s[k].toNat) := Lib.hid (by rw [take_snoc s k hlt, Pl.crcFold_snoc, Hc.out])
   have hx := bits_byte c s[k] hc
   have Hx := Lib.hid hx
   clear hx
   go_wp2
   go_loop [3, 17] (fun u v => ∃ j d : Nat, j ≤ 8 ∧ d < 4294967296 ∧ Hid (d = Pl.crcBits j (c ^^^ s[k].toNat)) ∧ u = .int .u32 d ∧ v = .int .i64 j) (fun _ v => 8 - (intOf v).toNat)
   case atStart => exact ⟨0, c ^^^ s[k].toNat, by omega, Pl.xor_lt _ _ hc (by have := s[k].toNat_lt; omega), Lib.hid rfl, val_u32 Hx.out, rfl⟩
   case round =>
    obtain ⟨j, d, hj, hd, Hd, rfl, rfl⟩ := hrel
    by_cases hj8 : j < 8
    ·by_cases ho : d % 2 = 1
     ·have e1 : (bits BinOp.and IntKind.u32 (d : Int) 1 == 1) = true := by rw [bits_low d hd, ho]; rfl
      have Hn : Hid (((d / 2) ^^^ 3988292384) = Pl.crcBits (j + 1) (c ^^^ s[k].toNat)) := Lib.hid (by show _ = Pl.crcBit _; rw [← Hd.out, Pl.crcBit, if_pos ho])
      have Hp := Lib.hid (bits_poly d hd)
      go_wp2
      go_round
      case rel => exact ⟨j + 1, _, by omega, Pl.xor_lt _ _ (by omega) (by omega), Hn, val_u32 Hp.out, by go_num⟩
      case measure => simp [intOf]; omega
     ·have e1 : (bits BinOp.and IntKind.u32 (d : Int) 1 == 1) = false := by rw [bits_low d hd, show d % 2 = 0 by omega]; rfl
      have Hn : Hid (d / 2 = Pl.crcBits (j + 1) (c ^^^ s[k].toNat)) := Lib.hid (by show _ = Pl.crcBit _; rw [← Hd.out, Pl.crcBit, if_neg ho])
      go_wp2
      go_round
      case rel => exact ⟨j + 1, d / 2, by omega, by omega, Hn, by go_num, by go_num⟩
      case measure => simp [intOf]; omega
    ·obtain rfl : j = 8 := by omega
     have Hn : Hid (Pl.crcFold (s.data.toList.take (k + 1)) 4294967295 = d) := Lib.hid (by rw [hsn.out, Hd.out]; rfl)
     go_wp2
     go_round
     case rel => exact ⟨k + 1, d, by omega, hd, Hn, rfl, by go_num⟩
     case measure => simp [intOf]; omega
  ·have Hn : Hid (bits .xor .u32 IntKind.u32.max (c : Int) = ((Pl.crc s.data.toList : Nat) : Int)) := Lib.hid (by
    rw [bits_not c hc, ← Hc.out, List.take_of_length_le (by simp; omega)]; rfl)
   go_wp2
   go_ret
   exact ⟨by rw [← Hn.out]; rfl, rfl⟩
theorem refCrc_any (s : ByteArray) (w : World) (hs : s.size ≤ 9223372036854775807) :
  Calls Try.prog 19 #[.string s] w fun e w' => e = .returned (.int .u32 (Pl.crc s.data.toList : Nat)) ∧ w = w' := by
 go_enter Try.func19, Try.ntmps19
 go_wp2
 go_loop [3, 4] (fun u v => ∃ k c : Nat, k ≤ s.size ∧ c < 4294967296 ∧ Hid (Pl.crcFold (s.data.toList.take k) 4294967295 = c) ∧ u = .int .u32 c ∧ v = .int .i64 k) (fun _ v => s.size - (intOf v).toNat)
 case atStart => exact ⟨0, 4294967295, by omega, by omega, Lib.hid rfl, rfl, rfl⟩
 case round =>
  obtain ⟨k, c, hk, hc, Hc, rfl, rfl⟩ := hrel
  by_cases hlt : k < s.size
  ·have hsn : Hid (Pl.crcFold (s.data.toList.take (k + 1)) 4294967295 = Pl.crcByte c s[k].toNat) := Lib.hid (by rw [take_snoc s k hlt, Pl.crcFold_snoc, Hc.out])
   have hx := bits_byte c s[k] hc
   have Hx := Lib.hid hx
   clear hx
   go_wp2
   go_loop [3, 5] (fun u v => ∃ j d : Nat, j ≤ 8 ∧ d < 4294967296 ∧ Hid (d = Pl.crcBits j (c ^^^ s[k].toNat)) ∧ u = .int .u32 d ∧ v = .int .i64 j) (fun _ v => 8 - (intOf v).toNat)
   case atStart => exact ⟨0, c ^^^ s[k].toNat, by omega, Pl.xor_lt _ _ hc (by have := s[k].toNat_lt; omega), Lib.hid rfl, val_u32 Hx.out, rfl⟩
   case round =>
    obtain ⟨j, d, hj, hd, Hd, rfl, rfl⟩ := hrel
    by_cases hj8 : j < 8
    ·by_cases ho : d % 2 = 1
     ·have e1 : (bits BinOp.and IntKind.u32 (d : Int) 1 == 1) = true := by rw [bits_low d hd, ho]; rfl
      have Hn : Hid (((d / 2) ^^^ 3988292384) = Pl.crcBits (j + 1) (c ^^^ s[k].toNat)) := Lib.hid (by show _ = Pl.crcBit _; rw [← Hd.out, Pl.crcBit, if_pos ho])
      have Hp := Lib.hid (bits_poly d hd)
      go_wp2
      go_round
      case rel => exact ⟨j + 1, _, by omega, Pl.xor_lt _ _ (by omega) (by omega), Hn, val_u32 Hp.out, by go_num⟩
      case measure => simp [intOf]; omega
     ·have e1 : (bits BinOp.and IntKind.u32 (d : Int) 1 == 1) = false := by rw [bits_low d hd, show d % 2 = 0 by omega]; rfl
      have Hn : Hid (d / 2 = Pl.crcBits (j + 1) (c ^^^ s[k].toNat)) := Lib.hid (by show _ = Pl.crcBit _; rw [← Hd.out, Pl.crcBit, if_neg ho])
      go_wp2
      go_round
      case rel => exact ⟨j + 1, d / 2, by omega, by omega, Hn, by go_num, by go_num⟩
      case measure => simp [intOf]; omega
    ·obtain rfl : j = 8 := by omega
     have Hn : Hid (Pl.crcFold (s.data.toList.take (k + 1)) 4294967295 = d) := Lib.hid (by rw [hsn.out, Hd.out]; rfl)
     go_wp2
     go_round
     case rel => exact ⟨k + 1, d, by omega, hd, Hn, rfl, by go_num⟩
     case measure => simp [intOf]; omega
  ·have Hn : Hid (bits .xor .u32 IntKind.u32.max (c : Int) = ((Pl.crc s.data.toList : Nat) : Int)) := Lib.hid (by
    rw [bits_not c hc, ← Hc.out, List.take_of_length_le (by simp; omega)]; rfl)
   go_wp2
   go_ret
   exact ⟨by rw [← Hn.out]; rfl, rfl⟩
theorem crc_a : Pl.crc [97] = 3904355907 := by decide +kernel
theorem awake_any (w : World) :
  Calls Try.prog 16 #[] w fun e w' => e = .returned (.bool true) ∧ w = w' := by
 go_enter Try.func16, Try.ntmps16
 go_wp2_with fail
 refine (sum_any ⟨#[97]⟩ _ (by decide)).mono ?_
 rintro e w' ⟨rfl, rfl⟩
 rw [show Pl.crc (⟨#[97]⟩ : ByteArray).data.toList = 3904355907 from crc_a]
 go_wp2
 go_ret
 exact ⟨rfl, rfl⟩
end Go.Proofs.Ythnfliopmjpdmaa
namespace Go.Proofs.Ythnfliopmjpdmaa.Av
open Go.RowKit
theorem sum_ok (s : ByteArray) (hs : s.size ≤ 9223372036854775807) : Ok Try.prog 12 [aS s] [] (.c (.f (.v (.int .u32 (Pl.crc s.data.toList : Nat))))) [] := by
 refine ok_old _ Try.func12 (by kernel_rfl) (by kernel_rfl) rfl rfl fun w κ ρ vals hv hr => ⟨_, plain_i, ?_⟩
 have hv : vals.size = 1 := hv
 have h0 : vals[0] = .string s := (repF_v.1 (hr 0 (by simp) (by omega) (.slot 0))).1
 rw [one_arg hv, h0]
 exact (sum_any s w hs).mono fun e w' ⟨h1, h2⟩ => ⟨h1, by subst h2; exact Below.refl _ _⟩
theorem refCrc_ok (s : ByteArray) (hs : s.size ≤ 9223372036854775807) : Ok Try.prog 19 [aS s] [] (.c (.f (.v (.int .u32 (Pl.crc s.data.toList : Nat))))) [] := by
 refine ok_old _ Try.func19 (by kernel_rfl) (by kernel_rfl) rfl rfl fun w κ ρ vals hv hr => ⟨_, plain_i, ?_⟩
 have hv : vals.size = 1 := hv
 have h0 : vals[0] = .string s := (repF_v.1 (hr 0 (by simp) (by omega) (.slot 0))).1
 rw [one_arg hv, h0]
 exact (refCrc_any s w hs).mono fun e w' ⟨h1, h2⟩ => ⟨h1, by subst h2; exact Below.refl _ _⟩
theorem awake_ok : Ok Try.prog 16 [] [] (aB true) [] := by
 refine ok_old _ Try.func16 (by kernel_rfl) (by kernel_rfl) rfl rfl fun w κ ρ vals hv hr => ⟨_, plain_b, ?_⟩
 have hv : vals = #[] := Array.eq_empty_of_size_eq_zero hv
 rw [hv]
 exact (awake_any w).mono fun e w' ⟨h1, h2⟩ => ⟨h1, by subst h2; exact Below.refl _ _⟩
theorem refCrc_okV (s : ByteArray) (hs : s.size ≤ 9223372036854775807) : OkV Try.prog 19 [vS s] [] (.c (.c (.f (.v (.int .u32 (Pl.crc s.data.toList : Nat)))))) [] := refCrc_ok s hs
theorem awake_okV : OkV Try.prog 16 [] [] (vB true) [] := awake_ok
end Go.Proofs.Ythnfliopmjpdmaa.Av
namespace Go.Proofs.Ythnfliopmjpdmaa
open Go.RowKit
def byteF (b : UInt8) : List Value := [.int .u8 (b.toNat : Int)]
theorem byteF_len (b : UInt8) : (byteF b).length = 1 := rfl
theorem info_u8 : (Try.prog.info? 5).map (fun i => (i.zero, i.size, i.bytes)) = some (some (.int .u8 0), 1, 1) := by kernel_rfl
def low (n i : Nat) : UInt8 := UInt8.ofNat (n / 2 ^ (8 * i))
def lows (n m : Nat) : List UInt8 := (List.range m).map (low n)
theorem lows_succ (n m : Nat) : lows n (m + 1) = lows n m ++ [low n m] := by unfold lows; rw [List.range_succ, List.map_append]; rfl
theorem low_val (n i : Nat) : ((low n i).toNat : Int) = ((n / 2 ^ (8 * i) : Nat) : Int) % 256 := by
 unfold low
 rw [UInt8.toNat_ofNat']
 omega
def RetGrown (w : World) (base : Nat) (v : Value) (bs : List UInt8) (e : Ending) (w' : World) : Prop :=
 ∃ v', e = .returned v' ∧ OwnF w' base 5 1 byteF v' bs ∧ w.grownBy w' v.ownBlock ∧ (v'.ownBlock = v.ownBlock ∨ ∃ g, v'.ownBlock = some g ∧ w.heap.size ≤ g)
theorem appendNumber_any (base : Nat) (v : Value) (bs : List UInt8) (n m : Nat) (w : World) (hO : OwnF w base 5 1 byteF v bs) (hb : base ≤ w.heap.size) (hl : bs.length ≤ 1000000) (hn : n ≤ 9223372036854775807) (hm : m ≤ 4) :
  Calls Try.prog 23 #[v, .int .i64 n, .int .i64 m] w (RetGrown w base v (bs ++ lows n m)) := by
 obtain ⟨i0, hi, hz0, hz1, hz2⟩ := info_parts info_u8
 have HO := Lib.hid hO
 obtain ⟨A, c, rfl, hc1, hc2⟩ := hO.shape
 clear hO
 go_enter Try.func23, Try.ntmps23
 go_wp2
 go_loopw [0, 9] (fun u iv wr => ∃ (k : Nat) (A' : Option Addr) (c' : Nat), k ≤ m ∧ iv = .int .i64 k ∧ u = .slice A' (bs.length + k) c' ∧ Hid (OwnF wr base 5 1 byteF (.slice A' (bs.length + k) c') (bs ++ lows n k)) ∧ Hid (w.grownBy wr (Value.slice A bs.length c).ownBlock) ∧ Hid ((Value.slice A' (bs.length + k) c').ownBlock = (Value.slice A bs.length c).ownBlock ∨ ∃ g, (Value.slice A' (bs.length + k) c').ownBlock = some g ∧ w.heap.size ≤ g)) (fun _ iv _ => m - (intOf iv).toNat)
 case atStart => exact ⟨0, A, c, by omega, rfl, rfl, by simpa [lows] using HO, Lib.hid ⟨rfl, rfl, rfl, Nat.le_refl _, fun _ _ _ => rfl⟩, Lib.hid (.inl rfl)⟩
 case round =>
  obtain ⟨k, A', c', hk, rfl, rfl, Ho, Hg, Ha⟩ := hrel
  by_cases hlt : k < m
  ·have hk3 : k ≤ 3 := by omega
   obtain ⟨y, Hy⟩ : ∃ y, Hid (8 * k = y) := ⟨_, Lib.hid rfl⟩
   have e1 : IntKind.i64.wrap (8 * (k : Int)) = (y : Int) := by rw [IntKind.wrap_i64]; have := Hy.out; omega
   have e1' : 8 * (k : Int) = (y : Int) := by have := Hy.out; omega
   have Hb : Hid (((low n k).toNat : Int) = (n : Int) / 2 ^ y % 256) := Lib.hid (by rw [low_val, Hy.out]; push_cast; rfl)
   go_wp2_with (at_builtin; refine wpList_append_lies _ (by rfl) _ _ _ (by rfl) base 5 i0 (.int .u8 0) 1 1 Try.underlying41 hi hz0 hz1 hz2 rfl (by omega) (.slice A' (bs.length + k) c') (bs.length + k) ((bs ++ lows n k).flatMap byteF) (by rfl) ?c0 ⟨wr.heap.size, 0, none⟩ 1 1 [.int .u8 ((n : Int) / 2 ^ y % 256)] (by rfl) (by rfl) ?c1 ?c2 (by omega) ?c3 ?c4 ?c5 (wr.heap.size + 1) (by simp) ?_)
   case c0 => have h := Ho.out.below ((Below.refl _ _).alloc (Nat.le_refl _) (.cells #[.int .u8 ((n : Int) / 2 ^ y % 256)] 5)); unfold OwnF at h; rw [List.length_append, show (lows n k).length = k by simp [lows]] at h; exact h
   case c1 => exact World.news_of_block (heap_alloc_new wr _)
   case c2 => intro u hu; simp at hu; rw [hu]; rfl
   case c3 => unfold maxLen; omega
   case c4 => omega
   case c5 => have := Hg.out.size; simp; omega
   intro g cap w1 hown hg hat hlt1
   have Ho1 : Hid (OwnF w1 base 5 1 byteF (.slice (some ⟨g, 0, none⟩) (bs.length + (k + 1)) cap) (bs ++ lows n (k + 1))) := Lib.hid (by
    unfold OwnF
    rw [lows_succ, ← List.append_assoc, List.flatMap_append, List.length_append, List.length_append, show (lows n k).length = k by simp [lows]]
    have e : [low n k].flatMap byteF = [.int .u8 ((n : Int) / 2 ^ y % 256)] := by simp [byteF, Hb.out]
    rw [e, List.flatMap_append, List.append_assoc]
    exact hown)
   have hgw : wr.grownBy w1 (Value.slice A' (bs.length + k) c').ownBlock := ⟨hg.os, hg.tape, hg.output, Nat.le_trans (by simp) hg.size, fun q hq hne => (hg.block q (by simp; omega) hne).trans (Below.heap_alloc _ _ _ hq)⟩
   have Hg1 : Hid (w.grownBy w1 (Value.slice A bs.length c).ownBlock) := Lib.hid ⟨hgw.os.trans Hg.out.os, hgw.tape.trans Hg.out.tape, hgw.output.trans Hg.out.output, Nat.le_trans Hg.out.size hgw.size, fun q hq hne => (hgw.block q (Nat.lt_of_lt_of_le hq Hg.out.size) (by
    rcases Ha.out with h | ⟨g', h, hge⟩
    ·rw [h]; exact hne
    ·rw [h]; intro e; injection e with e; omega)).trans (Hg.out.block q hq hne)⟩
   have Ha1 : Hid ((Value.slice (some ⟨g, 0, none⟩) (bs.length + (k + 1)) cap).ownBlock = (Value.slice A bs.length c).ownBlock ∨ ∃ g', (Value.slice (some ⟨g, 0, none⟩) (bs.length + (k + 1)) cap).ownBlock = some g' ∧ w.heap.size ≤ g') := Lib.hid (by
    rcases hat with h | h
    ·rcases Ha.out with h2 | ⟨g', h2, hge⟩
     ·left; rw [← h2]; exact h.symm
     ·right; exact ⟨g, rfl, by rw [h2] at h; injection h with h; omega⟩
    ·right; exact ⟨g, rfl, by have := Hg.out.size; omega⟩)
   clear hown hg hat hgw hlt1
   go_wp2
   go_roundw
   case rel => exact ⟨k + 1, _, _, by omega, by go_num, rfl, Ho1, Hg1, Ha1⟩
   case measure => simp [intOf]; omega
  ·obtain rfl : m = k := by omega
   go_wp2
   go_ret
   exact ⟨_, rfl, Ho.out, Hg.out, Ha.out⟩
def RetApp (w : World) (base : Nat) (v : Value) (bs : List UInt8) (e : Ending) (w' : World) : Prop :=
 ∃ v', e = .returned v' ∧ OwnF w' base 5 1 byteF v' bs ∧ w.grownBy w' v.ownBlock
theorem grown_trans {a b c : World} {r s : Option Nat} (h : a.grownBy b r) (k : b.grownBy c s) (hs : s = r ∨ ∃ g, s = some g ∧ a.heap.size ≤ g) : a.grownBy c r :=
 ⟨k.os.trans h.os, k.tape.trans h.tape, k.output.trans h.output, Nat.le_trans h.size k.size, fun q hq hne => (k.block q (Nat.lt_of_lt_of_le hq h.size) (by
  rcases hs with e | ⟨g, e, hge⟩
  ·rw [e]; exact hne
  ·rw [e]; intro e2; injection e2 with e2; omega)).trans (h.block q hq hne)⟩
theorem strCells_flat (s : ByteArray) : Lib.strCells s = s.data.toList.flatMap byteF := by
 unfold Lib.strCells byteF
 induction s.data.toList with
 | nil => rfl
 | cons a r ih => simp [List.flatMap_cons, ih]
def nameBytes (s : ByteArray) : List UInt8 := lows s.size 1 ++ s.data.toList
theorem appendName_any (base : Nat) (v : Value) (bs : List UInt8) (s : ByteArray) (w : World) (hO : OwnF w base 5 1 byteF v bs) (hb : base ≤ w.heap.size) (hl : bs.length ≤ 900000) (hs : s.size ≤ 1000) :
  Calls Try.prog 24 #[v, .string s] w (RetApp w base v (bs ++ nameBytes s)) := by
 obtain ⟨i0, hi, hz0, hz1, hz2⟩ := info_parts info_u8
 have HO := Lib.hid hO
 clear hO
 go_enter Try.func24, Try.ntmps24
 go_wp2_with fail
 refine (appendNumber_any base v bs s.size 1 _ HO.out hb (by omega) (by omega) (by omega)).mono ?_
 rintro e w1 ⟨v1, rfl, ho1, hg1, ha1⟩
 have Hg1 := Lib.hid hg1
 have Ha1 := Lib.hid ha1
 have hb1 : base ≤ w1.heap.size := Nat.le_trans hb hg1.size
 have Ho1 : Hid (w1.ownsRow base 5 1 v1 (bs.length + 1) ((bs ++ lows s.size 1).flatMap byteF)) := Lib.hid (by
  unfold OwnF at ho1
  rw [List.length_append, show (lows s.size 1).length = 1 by simp [lows]] at ho1; exact ho1)
 clear ho1 hg1 ha1
 go_wp2_with (at_builtin; refine Lib.wpList_append_own_string _ (by rfl) _ _ _ _ (by rfl) base 5 i0 Try.underlying41 Try.underlying9 hi hz0 hz1 hz2 v1 (bs.length + 1) _ (by rfl) Ho1.out s (by rfl) (by unfold maxLen; omega) (by omega) hb1 ?_)
 intro v2 w2 ho2 hg2 _
 have Ho2 : Hid (OwnF w2 base 5 1 byteF v2 (bs ++ nameBytes s)) := Lib.hid (by
  unfold OwnF nameBytes
  rw [← List.append_assoc, List.flatMap_append, ← strCells_flat, List.length_append, List.length_append, show (lows s.size 1).length = 1 by simp [lows], bytes_len, List.flatMap_append, List.append_assoc]
  exact ho2)
 have Hg2 : Hid (w.grownBy w2 v.ownBlock) := Lib.hid (grown_trans Hg1.out hg2 Ha1.out)
 clear ho2 hg2
 go_wp2
 go_ret
 exact ⟨v2, rfl, Ho2.out, Hg2.out⟩
end Go.Proofs.Ythnfliopmjpdmaa
namespace Go.Proofs.Ythnfliopmjpdmaa
theorem orErr_zero {a b : Int} (h : orErr a b = 0) : a = 0 ∧ b = 0 := by
 unfold orErr at h
 by_cases ha : a = 0
 ·rw [if_pos ha] at h; exact ⟨ha, h⟩
 ·rw [if_neg ha] at h; exact absurd h ha
theorem nameErr_zero {seen : List ByteArray} {s : ByteArray} (h : nameErr seen s = 0) : nameB s = true := by
 unfold nameErr at h
 cases hb : nameB s
 ·rw [if_pos hb] at h; cases h
 ·rfl
theorem namesErr_zero : ∀ (r : List ByteArray) (seen : List ByteArray), namesErr seen r = 0 → ∀ s ∈ r, nameB s = true
 | [], _, _, s, hs => by cases hs
 | x :: r, seen, h, s, hs => by
  simp only [namesErr] at h
  by_cases hx : nameErr seen x = 0
  ·rw [if_pos hx] at h
   rcases List.mem_cons.1 hs with rfl | hs
   ·exact nameErr_zero hx
   ·exact namesErr_zero r _ h s hs
  ·rw [if_neg hx] at h; exact absurd h hx
theorem secsErr_zero (nst : Nat) : ∀ (r : List Sec) (seen : List ByteArray), secsErr nst seen r = 0 → ∀ s ∈ r, nameB s.nm = true ∧ secB nst s = true
 | [], _, _, s, hs => by cases hs
 | x :: r, seen, h, s, hs => by
  simp only [secsErr] at h
  by_cases hx : nameErr seen x.nm = 0
  ·rw [if_pos hx] at h
   by_cases hb : secB nst x = true
   ·rw [if_pos hb] at h
    rcases List.mem_cons.1 hs with rfl | hs
    ·exact ⟨nameErr_zero hx, hb⟩
    ·exact secsErr_zero nst r _ h s hs
   ·rw [if_neg hb] at h; cases h
  ·rw [if_neg hx] at h; exact absurd h hx
theorem linksErr_zero (n p : Nat) : ∀ (r : List Lnk) (prev : List Lnk), linksErr n p prev r = 0 → ∀ k ∈ r, linkB n p k = true
 | [], _, _, s, hs => by cases hs
 | x :: r, prev, h, s, hs => by
  simp only [linksErr] at h
  by_cases hx : linkErr n p prev x = 0
  ·rw [if_pos hx] at h
   rcases List.mem_cons.1 hs with rfl | hs
   ·cases hb : linkB n p s
    ·unfold linkErr at hx; rw [if_pos hb] at hx; cases hx
    ·rfl
   ·exact linksErr_zero n p r _ h s hs
  ·rw [if_neg hx] at h; exact absurd h hx
structure Valid (L : Lay) : Prop where
 n1 : L.sts.length ≤ 24
 n2 : L.pts.length ≤ 48
 n3 : L.secs.length ≤ 96
 n4 : L.lnks.length ≤ 192
 n5 : 1 ≤ L.secs.length
 v1 : ∀ s ∈ L.sts, nameB s = true
 v2 : ∀ s ∈ L.pts, nameB s = true
 v3 : ∀ s ∈ L.secs, nameB s.nm = true ∧ secB L.sts.length s = true
 v4 : ∀ k ∈ L.lnks, linkB L.secs.length L.pts.length k = true
theorem valid_of {L : Lay} (h : layErr L = 0) : Valid L := by
 unfold layErr at h
 by_cases h1 : 24 < L.sts.length ∨ 48 < L.pts.length ∨ 96 < L.secs.length ∨ 192 < L.lnks.length
 ·rw [if_pos h1] at h; cases h
 ·rw [if_neg h1] at h
  by_cases h2 : L.secs.length = 0
  ·rw [if_pos h2] at h; cases h
  ·rw [if_neg h2] at h
   obtain ⟨a, h⟩ := orErr_zero h
   obtain ⟨b, h⟩ := orErr_zero h
   obtain ⟨c, d⟩ := orErr_zero h
   exact ⟨by omega, by omega, by omega, by omega, by omega, namesErr_zero _ _ a, namesErr_zero _ _ b, secsErr_zero _ _ _ c, linksErr_zero _ _ _ _ d⟩
theorem nameB_size {s : ByteArray} (h : nameB s = true) : s.size ≤ 12 := by
 unfold nameB at h
 simp at h
 exact h.1.1.2
def secBytes (s : Sec) : List UInt8 := nameBytes s.nm ++ lows s.len.toNat 2 ++ lows s.lim.toNat 3 ++ lows (s.grd + 40).toNat 1 ++ lows (s.stn + 1).toNat 1
def lnkBytes (k : Lnk) : List UInt8 := lows (k.a * 2 + k.ae).toNat 1 ++ lows (k.b * 2 + k.be).toNat 1 ++ lows (k.pt + 1).toNat 1 ++ lows k.ps.toNat 1
def headBytes (L : Lay) : List UInt8 := [82, 80, 76, 49] ++ lows L.sts.length 1 ++ lows L.pts.length 1 ++ lows L.secs.length 1 ++ lows L.lnks.length 1
def bodyL (L : Lay) : List UInt8 := headBytes L ++ L.sts.flatMap nameBytes ++ L.pts.flatMap nameBytes ++ L.secs.flatMap secBytes ++ L.lnks.flatMap lnkBytes
def encL (L : Lay) : List UInt8 := bodyL L ++ lows (Pl.crc (bodyL L)) 4
theorem lows_len (n m : Nat) : (lows n m).length = m := by simp [lows]
theorem nameBytes_len {s : ByteArray} (h : nameB s = true) : (nameBytes s).length ≤ 13 := by
 have := nameB_size h
 unfold nameBytes
 rw [List.length_append, lows_len, bytes_len]; omega
theorem flat_le {α : Type} (f : α → List UInt8) (n : Nat) : ∀ (l : List α), (∀ x ∈ l, (f x).length ≤ n) → (l.flatMap f).length ≤ l.length * n
 | [], _ => by simp
 | x :: r, h => by
  have ih := flat_le f n r (fun y hy => h y (List.mem_cons_of_mem _ hy))
  have hx := h x (List.mem_cons_self ..)
  rw [List.flatMap_cons, List.length_append, List.length_cons, Nat.add_mul]; omega
theorem secBytes_len {s : Sec} (h : nameB s.nm = true) : (secBytes s).length ≤ 20 := by
 have := nameBytes_len h
 unfold secBytes
 simp only [List.length_append, lows_len]; omega
theorem lnkBytes_len (k : Lnk) : (lnkBytes k).length = 4 := by unfold lnkBytes; simp only [List.length_append, lows_len]
open Go.RowKit
theorem index4 (n0 n1 n2 n3 : Int) (k : Nat) (hk : k < 4) (w : World) : (Instr.index 51 (.agg #[.int .i64 n0, .int .i64 n1, .int .i64 n2, .int .i64 n3]) (.int .i64 (k : Int))).run Try.prog w = .ok (.int .i64 ([n0, n1, n2, n3].getD k 0)) w := by
 rcases (show k = 0 ∨ k = 1 ∨ k = 2 ∨ k = 3 by omega) with rfl | rfl | rfl | rfl <;> kernel_rfl
theorem index4_0 (n0 n1 n2 n3 : Int) (w : World) : (Instr.index 51 (.agg #[.int .i64 n0, .int .i64 n1, .int .i64 n2, .int .i64 n3]) (.int .i64 0)).run Try.prog w = .ok (.int .i64 n0) w := by kernel_rfl
structure EnI (w x : World) (v : Value) (bs : List UInt8) : Prop where
 own : OwnF x w.heap.size 5 1 byteF v bs
 bel : Below w.heap.size w x
theorem EnI.call {w x y : World} {v : Value} {bs : List UInt8} (h : EnI w x v bs) (hb : Below x.heap.size x y) : EnI w y v bs := ⟨h.own.below hb, h.bel.trans (hb.mono h.bel.size)⟩
theorem EnI.app {w x y : World} {v v' : Value} {bs bs' : List UInt8} (h : EnI w x v bs) (ho : OwnF y w.heap.size 5 1 byteF v' bs') (hg : x.grownBy y v.ownBlock) : EnI w y v' bs' :=
 ⟨ho, h.bel.grown hg h.bel.size (fun q hq => (World.ownsRow.lt h.own q hq).1)⟩
theorem own_base {w : World} {b b' : Nat} {T : TypeId} {n : Nat} {v : Value} {m : Nat} {xs : List Value} (h : w.ownsRow b T n v m xs) (hb : b' ≤ b) : w.ownsRow b' T n v m xs :=
 ⟨h.1, h.2.imp id (fun ⟨g, cap, cur, e1, e2, e3⟩ => ⟨g, cap, cur, e1, Nat.le_trans hb e2, e3⟩)⟩
theorem appendNumber_first (base b : Nat) (bs : List UInt8) (n : Nat) (w : World) (hc : ∀ j u, (bs.flatMap byteF)[j]? = some u → w.cell? ⟨b, j, none⟩ = some u) (hbb : b < w.heap.size) (hb : base ≤ w.heap.size) (hl : bs.length ≤ 1000) (hn : n ≤ 9223372036854775807) :
  Calls Try.prog 23 #[.slice (some ⟨b, 0, none⟩) bs.length bs.length, .int .i64 n, .int .i64 1] w fun e w' => ∃ v', e = .returned v' ∧ OwnF w' base 5 1 byteF v' (bs ++ lows n 1) ∧ Below w.heap.size w w' := by
 obtain ⟨i0, hi, hz0, hz1, hz2⟩ := info_parts info_u8
 have Hc := Lib.hid hc
 clear hc
 go_enter Try.func23, Try.ntmps23
 go_wp2
 go_loopw [0, 9] (fun u iv wr => (iv = .int .i64 0 ∧ u = .slice (some ⟨b, 0, none⟩) bs.length bs.length ∧ wr = w) ∨ (iv = .int .i64 1 ∧ Hid (OwnF wr base 5 1 byteF u (bs ++ lows n 1)) ∧ Hid (Below w.heap.size w wr))) (fun _ iv _ => 1 - (intOf iv).toNat)
 case atStart => exact .inl ⟨rfl, rfl, rfl⟩
 case round =>
  rcases hrel with ⟨rfl, rfl, rfl⟩ | ⟨rfl, Ho, Hb⟩
  ·have Hlow : Hid (((low n 0).toNat : Int) = (n : Int) % 256) := Lib.hid (by rw [low_val]; simp)
   go_wp2_with (at_builtin; refine wpList_append_grows _ (by rfl) _ _ _ (by rfl) 5 i0 (.int .u8 0) 1 1 Try.underlying41 hi hz0 hz1 hz2 rfl (by omega) (some ⟨b, 0, none⟩) bs.length bs.length (bs.flatMap byteF) (by rfl) (fun h => by cases h) ?c0 ?c1 ⟨wr.heap.size, 0, none⟩ 1 1 [.int .u8 ((n : Int) % 256)] (by rfl) (by rfl) ?c2 ?c3 (by omega) ?c4 ?c5 ?_)
   case c0 => rw [flat_len byteF 1 byteF_len]
   case c1 =>
    intro b1 e1 j u hu
    cases e1
    rw [add_row, World.cell?_of_block (w := wr) (a := ⟨b, j, none⟩) (Below.heap_alloc _ _ _ hbb)]
    exact Hc.out j u hu
   case c2 => exact World.news_of_block (heap_alloc_new wr _)
   case c3 => intro u hu; simp at hu; rw [hu]; rfl
   case c4 => unfold maxLen; omega
   case c5 => omega
   intro v' w1 hown hg
   have Ho : Hid (OwnF w1 base 5 1 byteF v' (bs ++ lows n 1)) := Lib.hid (by
    unfold OwnF
    rw [lows_succ, show lows n 0 = [] from rfl, List.nil_append, List.flatMap_append, List.length_append]
    have e : [low n 0].flatMap byteF = [.int .u8 ((n : Int) % 256)] := by simp [byteF, Hlow.out]
    rw [e]
    exact own_base hown (by first | omega | (simp; omega)))
   have Hb1 : Hid (Below wr.heap.size wr w1) := Lib.hid (((Below.refl _ _).alloc (Nat.le_refl _) _).grown hg (by simp) (fun q hq => by cases hq))
   clear hown hg
   go_wp2
   exact ⟨.inr ⟨rfl, Ho, Hb1⟩, by decide⟩
  ·go_wp2
   go_ret
   exact ⟨_, rfl, Ho.out, Hb.out⟩
def headK (L : Lay) (k : Nat) : List UInt8 := [82, 80, 76, 49] ++ (([L.sts.length, L.pts.length, L.secs.length, L.lnks.length].take k).flatMap (fun n => lows n 1))
theorem headK_four (L : Lay) : headK L 4 = headBytes L := by unfold headK headBytes; simp
theorem headK_len (L : Lay) (k : Nat) : (headK L k).length ≤ 8 := by
 unfold headK
 have := flat_le (fun n => lows n 1) 1 ([L.sts.length, L.pts.length, L.secs.length, L.lnks.length].take k) (fun x _ => by rw [lows_len]; exact Nat.le_refl _)
 rw [List.length_append]
 simp only [List.length_take, List.length_cons, List.length_nil] at *
 omega
theorem headK_succ (L : Lay) (k : Nat) (hk : k < 4) : headK L (k + 1) = headK L k ++ lows ([L.sts.length, L.pts.length, L.secs.length, L.lnks.length].getD k 0) 1 := by
 rcases (show k = 0 ∨ k = 1 ∨ k = 2 ∨ k = 3 by omega) with rfl | rfl | rfl | rfl <;> simp [headK]
def BoxB (w : World) (p : Nat) (vs : List Value) (T : TypeId) : Prop := w.heap[p]? = some (.cells vs.toArray T (0, 0))
theorem BoxB.new (w : World) (vs : List Value) (T : TypeId) : BoxB (w.alloc (.cells vs.toArray T)) w.heap.size vs T := heap_alloc_new w _
theorem BoxB.lt {w : World} {p : Nat} {vs : List Value} {T : TypeId} (h : BoxB w p vs T) : p < w.heap.size := (Array.getElem?_eq_some_iff.1 h).1
theorem BoxB.cell {w : World} {p : Nat} {vs : List Value} {T : TypeId} (h : BoxB w p vs T) (j : Nat) (v : Value) (hv : vs[j]? = some v) : w.cell? ⟨p, j, none⟩ = some v := by
 show (match w.heap[p]? with | some (.cells c _ _) => if Option.isSome (none : Option Nat) then none else c[j]? | _ => none) = some v
 rw [h]; simpa using hv
theorem BoxB.app {w w' : World} {p base : Nat} {vs : List Value} {T : TypeId} {v : Value} {bs : List UInt8} (h : BoxB w p vs T) (hT : T ≠ 5) (ho : OwnF w base 5 1 byteF v bs) (hg : w.grownBy w' v.ownBlock) : BoxB w' p vs T := by
 refine (hg.block p h.lt (fun e => ?_)).trans h
 rcases ho.2 with ⟨h1, _⟩ | ⟨g, cap, cur, h1, _, h2, _⟩
 ·rw [h1] at e; cases e
 ·rw [h1] at e
  have e' : p = g := by injection e
  subst e'
  have h3 : some (Obj.cells vs.toArray T (0, 0)) = some (.cells cur 5 (0, 0)) := h.symm.trans h2
  injection h3 with h3
  injection h3 with _ h4 _
  exact hT h4
theorem own_string {w : World} {base : Nat} {v : Value} {bs : List UInt8} (ho : OwnF w base 5 1 byteF v bs) (h0 : 0 < bs.length) : (convert 41 9 v).run Try.prog w = .ok (.string ⟨bs.toArray⟩) w := by
 rcases ho.2 with ⟨h1, h2⟩ | ⟨g, cap, cur, h1, _, h2, _⟩
 ·omega
 ·rw [h1]
  refine run_convert_bytes_back (P := Try.prog) w 41 9 5 ⟨g, 0, none⟩ cap bs Try.underlying41 Try.underlying5 Try.underlying9 (fun j hj => ?_)
  have e := flat_at byteF 1 byteF_len bs j hj 0 (by omega)
  rw [Nat.mul_one, Nat.add_zero] at e
  exact World.ownsRow.cells ho (g := g) (by rw [h1]; rfl) j _ (by rw [e]; rfl)
theorem crc_lt (l : List UInt8) : Pl.crc l < 4294967296 := Pl.crc_lt l
def lnkK (f0 f1 f2 f3 k : Nat) : List UInt8 := ([f0, f1, f2, f3].take k).flatMap (fun n => lows n 1)
theorem lnkK_succ (f0 f1 f2 f3 k : Nat) (hk : k < 4) : lnkK f0 f1 f2 f3 (k + 1) = lnkK f0 f1 f2 f3 k ++ lows ([f0, f1, f2, f3].getD k 0) 1 := by
 rcases (show k = 0 ∨ k = 1 ∨ k = 2 ∨ k = 3 by omega) with rfl | rfl | rfl | rfl <;> simp [lnkK]
theorem lnkK_len (f0 f1 f2 f3 k : Nat) : (lnkK f0 f1 f2 f3 k).length ≤ 4 := by
 unfold lnkK
 have := flat_le (fun n => lows n 1) 1 ([f0, f1, f2, f3].take k) (fun x _ => by rw [lows_len]; exact Nat.le_refl _)
 rw [List.length_take] at this
 simp only [List.length_cons, List.length_nil] at this
 omega
def namesK (L : Lay) (k : Nat) : List UInt8 := if k = 0 then headBytes L else if k = 1 then headBytes L ++ L.sts.flatMap nameBytes else headBytes L ++ L.sts.flatMap nameBytes ++ L.pts.flatMap nameBytes
theorem names_len (S : List ByteArray) (m : Nat) (h : ∀ s ∈ S, nameB s = true) : ((S.take m).flatMap nameBytes).length ≤ S.length * 13 := by
 have := flat_le nameBytes 13 (S.take m) (fun x hx => nameBytes_len (h x (List.mem_of_mem_take hx)))
 rw [List.length_take] at this
 have h2 : min m S.length * 13 ≤ S.length * 13 := Nat.mul_le_mul_right _ (Nat.min_le_right _ _)
 omega
theorem names_len' (S : List ByteArray) (h : ∀ s ∈ S, nameB s = true) : (S.flatMap nameBytes).length ≤ S.length * 13 :=
 flat_le nameBytes 13 S (fun x hx => nameBytes_len (h x hx))
theorem head_len (L : Lay) : (headBytes L).length = 8 := by unfold headBytes; simp [lows_len]
theorem namesK_len {L : Lay} (h : Valid L) (k : Nat) : (namesK L k).length ≤ 1000 := by
 have h1 := names_len' L.sts h.v1
 have h2 := names_len' L.pts h.v2
 have h3 := h.n1
 have h4 := h.n2
 have h5 := head_len L
 unfold namesK
 split
 ·omega
 ·split
  ·rw [List.length_append]; omega
  ·rw [List.length_append, List.length_append]; omega
theorem flat_snoc {α : Type} (f : α → List UInt8) (S : List α) (m : Nat) (h : m < S.length) : (S.take (m + 1)).flatMap f = (S.take m).flatMap f ++ f S[m] := by
 rw [List.take_succ_eq_append_getElem h, List.flatMap_append]; simp
theorem encode_bad (V : LayV) (L : Lay) (w : World) (hR : RdLay w V L) (hbad : layErr L ≠ 0) :
  Calls Try.prog 10 #[.agg #[.slice V.A1 L.sts.length V.c1, .slice V.A2 L.pts.length V.c2, .slice V.A3 L.secs.length V.c3, .slice V.A4 L.lnks.length V.c4]] w fun e w' => e = .returned (.tuple #[.string ⟨#[]⟩, .int .i64 1]) ∧ Below w.heap.size w w' := by
 obtain ⟨z, Hz⟩ : ∃ z, Hid (layErr L = z) := ⟨_, Lib.hid rfl⟩
 have hz : (z != 0) = true := by rw [bne_iff_ne, ← Hz.out]; exact hbad
 have hb0 : Below w.heap.size w (w.alloc (.cells #[.slice V.A1 L.sts.length V.c1, .slice V.A2 L.pts.length V.c2, .slice V.A3 L.secs.length V.c3, .slice V.A4 L.lnks.length V.c4] 29)) := (Below.refl _ _).alloc (Nat.le_refl _) _
 have HR := Lib.hid (hR.below hb0)
 have Hb0 := Lib.hid hb0
 clear hR hbad hb0
 go_enter Try.func10, Try.ntmps10
 go_wp2_with fail
 refine (layCheck_any V L _ HR.out).mono ?_
 rintro e w1 ⟨rfl, hb⟩
 rw [Hz.out]
 have Hb := Lib.hid (Hb0.out.trans (hb.mono Hb0.out.size))
 clear hb Hb0 HR
 go_wp2
 go_ret2
 exact ⟨rfl, Hb.out⟩
set_option maxHeartbeats 600000 in
set_option maxRecDepth 100000 in
theorem encode_ok (V : LayV) (L : Lay) (w : World) (hR : RdLay w V L) (hok : layErr L = 0) :
  Calls Try.prog 10 #[.agg #[.slice V.A1 L.sts.length V.c1, .slice V.A2 L.pts.length V.c2, .slice V.A3 L.secs.length V.c3, .slice V.A4 L.lnks.length V.c4]] w fun e w' => e = .returned (.tuple #[.string ⟨(encL L).toArray⟩, .int .i64 0]) ∧ Below w.heap.size w w' := by
 obtain ⟨A1, c1, A2, c2, A3, c3, A4, c4⟩ := V
 dsimp only
 have HV := Lib.hid (valid_of hok)
 have n1 := HV.out.n1
 have n2 := HV.out.n2
 have n3 := HV.out.n3
 have n4 := HV.out.n4
 have Hok := Lib.hid hok
 obtain ⟨ES, HES⟩ : ∃ ES, Hid (encL L = ES) := ⟨_, Lib.hid rfl⟩
 rw [HES.out]
 have Hb0 : Hid (Below w.heap.size w (w.alloc (.cells #[.slice A1 L.sts.length c1, .slice A2 L.pts.length c2, .slice A3 L.secs.length c3, .slice A4 L.lnks.length c4] 29))) := Lib.hid ((Below.refl _ _).alloc (Nat.le_refl _) _)
 have HB0 := Lib.hid (BoxV.new w [.slice A1 L.sts.length c1, .slice A2 L.pts.length c2, .slice A3 L.secs.length c3, .slice A4 L.lnks.length c4] 29)
 have HR0 := Lib.hid (hR.below Hb0.out)
 clear hR hok
 have hix := fun k hk => index4 (L.sts.length : Int) (L.pts.length : Int) (L.secs.length : Int) (L.lnks.length : Int) k hk
 have HIX := Lib.hid hix
 clear hix
 have kc := fun (w : World) (C : Array Value) (n c : Nat) => Lib.run_convert_bytes_const (P := Try.prog) w 41 5 C n c Try.underlying41 Try.underlying5
 go_enter Try.func10, Try.ntmps10
 go_wp2_with fail
 generalize w.alloc (.cells #[.slice A1 L.sts.length c1, .slice A2 L.pts.length c2, .slice A3 L.secs.length c3, .slice A4 L.lnks.length c4] 29) = w0 at *
 refine (layCheck_any ⟨A1, c1, A2, c2, A3, c3, A4, c4⟩ L _ HR0.out).mono ?_
 rintro e w1 ⟨rfl, hb1⟩
 rw [Hok.out]
 have Hw1 : Hid (Below w0.heap.size w0 (w1.alloc (.cells #[.int .u8 82, .int .u8 80, .int .u8 76, .int .u8 49] 5 (4, 5)))) := Lib.hid (hb1.alloc hb1.size _)
 have Hcl : Hid (∀ j u, (([82, 80, 76, 49] : List UInt8).flatMap byteF)[j]? = some u → (w1.alloc (.cells #[.int .u8 82, .int .u8 80, .int .u8 76, .int .u8 49] 5 (4, 5))).cell? ⟨w1.heap.size, j, none⟩ = some u) := Lib.hid (fun j u hu => by
  have e := (MapKept.heap_alloc w1 (.cells #[.int .u8 82, .int .u8 80, .int .u8 76, .int .u8 49] 5 (4, 5))).1
  show (match (w1.alloc (.cells #[.int .u8 82, .int .u8 80, .int .u8 76, .int .u8 49] 5 (4, 5))).heap[w1.heap.size]? with | some (.cells c _ _) => if Option.isSome (none : Option Nat) then none else c[j]? | _ => none) = some u
  rw [e]
  simpa [byteF] using hu)
 have HB1 := Lib.hid (HB0.out.below hb1)
 have s0 := HB1.out.2 0 _ rfl
 have s1 := HB1.out.2 1 _ rfl
 have s2 := HB1.out.2 2 _ rfl
 have s3 := HB1.out.2 3 _ rfl
 have s5 := HB1.out.1
 clear hb1
 go_wp2
 clear s0 s1 s2 s3 s5 HB1 kc
 obtain ⟨q, Hq⟩ : ∃ q, Hid (w1.heap.size = q) := ⟨_, Lib.hid rfl⟩
 have hqs : q < (w1.alloc (.cells #[.int .u8 82, .int .u8 80, .int .u8 76, .int .u8 49] 5 (4, 5))).heap.size := by rw [← Hq.out]; simp
 have Hqs := Lib.hid hqs
 clear hqs
 rw [Hq.out] at Hcl ⊢
 generalize w1.alloc (.cells #[.int .u8 82, .int .u8 80, .int .u8 76, .int .u8 49] 5 (4, 5)) = w2 at *
 obtain ⟨p, Hp⟩ : ∃ p, Hid (w.heap.size = p) := ⟨_, Lib.hid rfl⟩
 rw [Hp.out] at HB0 ⊢
 go_loopw [4, 35] (fun u iv wr => (iv = .int .i64 0 ∧ u = .slice (some ⟨q, 0, none⟩) 4 4 ∧ wr = w2) ∨ ∃ (k : Nat) (v : Value), 1 ≤ k ∧ k ≤ 4 ∧ iv = .int .i64 k ∧ v = u ∧ Hid (EnI w0 wr v (headK L k))) (fun _ iv _ => 4 - (intOf iv).toNat)
 case atStart => exact .inl ⟨rfl, rfl, rfl⟩
 case round =>
  rcases hrel with ⟨rfl, rfl, rfl⟩ | ⟨k, v, hk1, hk2, rfl, rfl, HE⟩
  ·have hx0 := index4_0 (L.sts.length : Int) (L.pts.length : Int) (L.secs.length : Int) (L.lnks.length : Int)
   go_wp2_with fail
   refine (appendNumber_first w0.heap.size q [82, 80, 76, 49] L.sts.length _ Hcl.out Hqs.out Hw1.out.size (by simp) (by omega)).mono ?_
   rintro e w3 ⟨v', rfl, ho, hb3⟩
   have HE1 : Hid (EnI w0 w3 v' (headK L 1)) := Lib.hid ⟨by simpa [headK] using ho, Hw1.out.trans (hb3.mono Hw1.out.size)⟩
   clear ho hb3
   go_wp2
   exact ⟨.inr ⟨1, _, by omega, by omega, rfl, rfl, HE1⟩, by decide⟩
  ·by_cases hlt : k < 4
   ·have hx := HIX.out k hlt
    have hl := headK_len L k
    obtain ⟨z, Hz⟩ : ∃ z : Nat, Hid ([L.sts.length, L.pts.length, L.secs.length, L.lnks.length].getD k 0 = z) := ⟨_, Lib.hid rfl⟩
    have hzi : ([(L.sts.length : Int), (L.pts.length : Int), (L.secs.length : Int), (L.lnks.length : Int)].getD k 0) = (z : Int) := by
     rw [← Hz.out]
     rcases (show k = 1 ∨ k = 2 ∨ k = 3 by omega) with rfl | rfl | rfl <;> rfl
    have hz : z ≤ 192 := by
     rw [← Hz.out]
     rcases (show k = 1 ∨ k = 2 ∨ k = 3 by omega) with rfl | rfl | rfl
     ·show L.pts.length ≤ 192; omega
     ·show L.secs.length ≤ 192; omega
     ·show L.lnks.length ≤ 192; omega
    rw [hzi] at hx
    have Hsu : Hid (headK L (k + 1) = headK L k ++ lows z 1) := Lib.hid (by rw [headK_succ L k hlt, Hz.out])
    have Hl := Lib.hid hl
    clear hzi hl
    go_wp2_with fail
    refine (appendNumber_any w0.heap.size v (headK L k) z 1 _ HE.out.own HE.out.bel.size (by have := Hl.out; omega) (by omega) (by omega)).mono ?_
    rintro e w3 ⟨v', rfl, ho, hg, _⟩
    have HE1 : Hid (EnI w0 w3 v' (headK L (k + 1))) := Lib.hid (by rw [Hsu.out]; exact HE.out.app ho hg)
    clear ho hg
    go_wp2
    go_roundw
    case rel => exact .inr ⟨k + 1, _, by omega, by omega, by go_num, rfl, HE1⟩
    case measure => simp [intOf]; omega
   ·obtain rfl : k = 4 := by omega
    have HE4 : Hid (EnI w0 wr v (namesK L 0)) := Lib.hid (by have := HE.out; rw [headK_four] at this; exact this)
    rw [show ((4 : Nat) : Int) = 4 from rfl]
    have HB := Lib.hid (HB0.out.below HE.out.bel)
    have s0 := HB.out.2 0 _ rfl
    have s1 := HB.out.2 1 _ rfl
    have s5 := HB.out.1
    have hix0 := index_pair0
    have hix1 := index_pair1
    clear HE
    go_wp2
    clear s0 s1 s5 HB
    go_loopw [4, 47] (fun u iv wr => ∃ (k : Nat) (v : Value), k ≤ 2 ∧ iv = .int .i64 k ∧ v = u ∧ Hid (EnI w0 wr v (namesK L k))) (fun _ iv _ => 2 - (intOf iv).toNat)
    case atStart => exact ⟨0, _, by omega, rfl, rfl, HE4⟩
    case round =>
     obtain ⟨k, v, hk, rfl, rfl, HE⟩ := hrel
     clear HE4
     obtain ⟨wo, rfl⟩ : ∃ wo : World, wo = wr := ⟨_, rfl⟩
     rcases (show k = 0 ∨ k = 1 ∨ k = 2 by omega) with rfl | rfl | rfl
     ·rw [show ((0 : Nat) : Int) = 0 from rfl]
      obtain ⟨P, HP⟩ : ∃ P, Hid (namesK L 0 = P) := ⟨_, Lib.hid rfl⟩
      have hP : P.length ≤ 1000 := by rw [← HP.out]; exact namesK_len HV.out _
      have HPn : Hid (namesK L 1 = P ++ L.sts.flatMap nameBytes) := Lib.hid (by rw [← HP.out]; rfl)
      rw [HP.out] at HE
      go_wp2
      go_loopw [4, 52] (fun u iv wr => ∃ (m : Nat) (v : Value), m ≤ L.sts.length ∧ iv = .int .i64 m ∧ v = u ∧ Hid (EnI w0 wr v (P ++ (L.sts.take m).flatMap nameBytes))) (fun _ iv _ => L.sts.length - (intOf iv).toNat)
      case atStart => exact ⟨0, _, by omega, rfl, rfl, by simpa using HE⟩
      case round =>
       obtain ⟨m, v, hm, rfl, rfl, HEm⟩ := hrel
       clear HE
       by_cases hlt : m < L.sts.length
       ·obtain ⟨bs, os, hA, hbl, hc⟩ := (HR0.out.below HEm.out.bel).r1 m hlt
        obtain rfl : A1 = some ⟨bs, os, none⟩ := hA
        obtain ⟨s, Hs⟩ : ∃ s, Hid (L.sts[m] = s) := ⟨_, Lib.hid rfl⟩
        have hsz : s.size ≤ 1000 := by have := nameB_size (HV.out.v1 _ (List.getElem_mem hlt)); rw [Hs.out] at this; omega
        have hln := names_len L.sts m HV.out.v1
        rw [Hs.out] at hc
        have q0 := hc 0 _ rfl
        rw [Nat.add_zero, Nat.mul_one] at q0
        have Hsn : Hid (P ++ (L.sts.take (m + 1)).flatMap nameBytes = P ++ (L.sts.take m).flatMap nameBytes ++ nameBytes s) := Lib.hid (by rw [flat_snoc nameBytes L.sts m hlt, Hs.out, List.append_assoc])
        have hbl2 : (P ++ (L.sts.take m).flatMap nameBytes).length ≤ 900000 := by rw [List.length_append]; omega
        have Hbl2 := Lib.hid hbl2
        clear hc hln hbl2
        go_wp2_with fail
        refine (appendName_any w0.heap.size v (P ++ (L.sts.take m).flatMap nameBytes) s _ HEm.out.own HEm.out.bel.size Hbl2.out hsz).mono ?_
        rintro e w3 ⟨v', rfl, ho, hg⟩
        have HE1 : Hid (EnI w0 w3 v' (P ++ (L.sts.take (m + 1)).flatMap nameBytes)) := Lib.hid (by rw [Hsn.out]; exact HEm.out.app ho hg)
        clear ho hg q0 hbl
        go_wp2
        go_roundw
        case rel => exact ⟨m + 1, _, by omega, by go_num, rfl, HE1⟩
        case measure => simp [intOf]; omega
       ·have HE1 : Hid (EnI w0 wr v (namesK L 1)) := Lib.hid (by have := HEm.out; rw [List.take_of_length_le (by omega), ← HPn.out] at this; exact this)
        go_wp2
        exact ⟨⟨1, _, by omega, rfl, rfl, HE1⟩, by decide⟩
     ·rw [show ((1 : Nat) : Int) = 1 from rfl]
      obtain ⟨P, HP⟩ : ∃ P, Hid (namesK L 1 = P) := ⟨_, Lib.hid rfl⟩
      have hP : P.length ≤ 1000 := by rw [← HP.out]; exact namesK_len HV.out _
      have HPn : Hid (namesK L 2 = P ++ L.pts.flatMap nameBytes) := Lib.hid (by rw [← HP.out]; rfl)
      rw [HP.out] at HE
      go_wp2
      go_loopw [4, 52] (fun u iv wr => ∃ (m : Nat) (v : Value), m ≤ L.pts.length ∧ iv = .int .i64 m ∧ v = u ∧ Hid (EnI w0 wr v (P ++ (L.pts.take m).flatMap nameBytes))) (fun _ iv _ => L.pts.length - (intOf iv).toNat)
      case atStart => exact ⟨0, _, by omega, rfl, rfl, by simpa using HE⟩
      case round =>
       obtain ⟨m, v, hm, rfl, rfl, HEm⟩ := hrel
       clear HE
       by_cases hlt : m < L.pts.length
       ·obtain ⟨bs, os, hA, hbl, hc⟩ := (HR0.out.below HEm.out.bel).r2 m hlt
        obtain rfl : A2 = some ⟨bs, os, none⟩ := hA
        obtain ⟨s, Hs⟩ : ∃ s, Hid (L.pts[m] = s) := ⟨_, Lib.hid rfl⟩
        have hsz : s.size ≤ 1000 := by have := nameB_size (HV.out.v2 _ (List.getElem_mem hlt)); rw [Hs.out] at this; omega
        have hln := names_len L.pts m HV.out.v2
        rw [Hs.out] at hc
        have q0 := hc 0 _ rfl
        rw [Nat.add_zero, Nat.mul_one] at q0
        have Hsn : Hid (P ++ (L.pts.take (m + 1)).flatMap nameBytes = P ++ (L.pts.take m).flatMap nameBytes ++ nameBytes s) := Lib.hid (by rw [flat_snoc nameBytes L.pts m hlt, Hs.out, List.append_assoc])
        have hbl2 : (P ++ (L.pts.take m).flatMap nameBytes).length ≤ 900000 := by rw [List.length_append]; omega
        have Hbl2 := Lib.hid hbl2
        clear hc hln hbl2
        go_wp2_with fail
        refine (appendName_any w0.heap.size v (P ++ (L.pts.take m).flatMap nameBytes) s _ HEm.out.own HEm.out.bel.size Hbl2.out hsz).mono ?_
        rintro e w3 ⟨v', rfl, ho, hg⟩
        have HE1 : Hid (EnI w0 w3 v' (P ++ (L.pts.take (m + 1)).flatMap nameBytes)) := Lib.hid (by rw [Hsn.out]; exact HEm.out.app ho hg)
        clear ho hg q0 hbl
        go_wp2
        go_roundw
        case rel => exact ⟨m + 1, _, by omega, by go_num, rfl, HE1⟩
        case measure => simp [intOf]; omega
       ·have HE1 : Hid (EnI w0 wr v (namesK L 2)) := Lib.hid (by have := HEm.out; rw [List.take_of_length_le (by omega), ← HPn.out] at this; exact this)
        go_wp2
        exact ⟨⟨2, _, by omega, rfl, rfl, HE1⟩, by decide⟩
     ·rw [show ((2 : Nat) : Int) = 2 from rfl]
      have HB := Lib.hid (HB0.out.below HE.out.bel)
      have s2 := HB.out.2 2 _ rfl
      have s5 := HB.out.1
      go_wp2
      clear s2 s5 HB hix0 hix1
      obtain ⟨P, HP⟩ : ∃ P, Hid (namesK L 2 = P) := ⟨_, Lib.hid rfl⟩
      have hP : P.length ≤ 1000 := by rw [← HP.out]; exact namesK_len HV.out _
      rw [HP.out] at HE
      go_loopw [4, 64] (fun u iv wr => ∃ (m : Nat) (v : Value), m ≤ L.secs.length ∧ iv = .int .i64 m ∧ v = u ∧ Hid (EnI w0 wr v (P ++ (L.secs.take m).flatMap secBytes))) (fun _ iv _ => L.secs.length - (intOf iv).toNat)
      case atStart => exact ⟨0, _, by omega, rfl, rfl, by simpa using HE⟩
      case round =>
       obtain ⟨m, v, hm, rfl, rfl, HEm⟩ := hrel
       clear HE
       by_cases hlt : m < L.secs.length
       ·obtain ⟨bs, os, hA, hbl, hc⟩ := (HR0.out.below HEm.out.bel).r3 m hlt
        obtain rfl : A3 = some ⟨bs, os, none⟩ := hA
        obtain ⟨s, Hs⟩ : ∃ s, Hid (L.secs[m] = s) := ⟨_, Lib.hid rfl⟩
        obtain ⟨hnm, hsb⟩ := HV.out.v3 _ (List.getElem_mem hlt)
        rw [Hs.out] at hnm hsb hc
        obtain ⟨k1, k2, k3, k4, k5, k6, k7, k8⟩ := secB_of hsb
        have hsz : s.nm.size ≤ 1000 := by have := nameB_size hnm; omega
        have hln := flat_le secBytes 20 (L.secs.take m) (fun x hx => secBytes_len (HV.out.v3 x (List.mem_of_mem_take hx)).1)
        have hln2 : (L.secs.take m).length ≤ 96 := by rw [List.length_take]; omega
        have hln3 : ((L.secs.take m).flatMap secBytes).length ≤ 1920 := by omega
        obtain ⟨nm, len, lim, grd, stn⟩ := s
        dsimp only at *
        obtain ⟨lf, rfl⟩ := Int.eq_ofNat_of_zero_le (show 0 ≤ len by omega)
        obtain ⟨mf, rfl⟩ := Int.eq_ofNat_of_zero_le (show 0 ≤ lim by omega)
        obtain ⟨gf, hgf⟩ := Int.eq_ofNat_of_zero_le (show 0 ≤ grd + 40 by omega)
        obtain ⟨tf, htf⟩ := Int.eq_ofNat_of_zero_le (show 0 ≤ stn + 1 by omega)
        have q0 := hc 0 _ rfl
        have q1 := hc 1 _ rfl
        have q2 := hc 2 _ rfl
        have q3 := hc 3 _ rfl
        have q4 := hc 4 _ rfl
        rw [Nat.add_zero] at q0
        dsimp only at q0 q1 q2 q3 q4
        obtain ⟨Q0, HQ0⟩ : ∃ Q0, Hid (P ++ (L.secs.take m).flatMap secBytes = Q0) := ⟨_, Lib.hid rfl⟩
        have hQ : Q0.length ≤ 3000 := by rw [← HQ0.out, List.length_append]; omega
        rw [HQ0.out] at HEm
        have Hsn : Hid (P ++ (L.secs.take (m + 1)).flatMap secBytes = Q0 ++ nameBytes nm ++ lows lf 2 ++ lows mf 3 ++ lows gf 1 ++ lows tf 1) := Lib.hid (by
         rw [flat_snoc secBytes L.secs m hlt, Hs.out, ← List.append_assoc, HQ0.out]
         unfold secBytes
         dsimp only
         rw [hgf, htf]
         simp [List.append_assoc])
        have hnb := nameBytes_len hnm
        have hl1 : (Q0 ++ nameBytes nm).length ≤ 3100 := by rw [List.length_append]; omega
        have hl2 : (Q0 ++ nameBytes nm ++ lows lf 2).length ≤ 3200 := by rw [List.length_append, lows_len]; omega
        have hl3 : (Q0 ++ nameBytes nm ++ lows lf 2 ++ lows mf 3).length ≤ 3300 := by rw [List.length_append, lows_len]; omega
        have hl4 : (Q0 ++ nameBytes nm ++ lows lf 2 ++ lows mf 3 ++ lows gf 1).length ≤ 3400 := by rw [List.length_append, lows_len]; omega
        have Hl1 := Lib.hid hl1
        have Hl2 := Lib.hid hl2
        have Hl3 := Lib.hid hl3
        have Hl4 := Lib.hid hl4
        have egf : IntKind.i64.wrap (grd + 40) = (gf : Int) := by rw [IntKind.wrap_i64]; omega
        have etf : IntKind.i64.wrap (stn + 1) = (tf : Int) := by rw [IntKind.wrap_i64]; omega
        have hba : Below wr.heap.size wr (wr.alloc (.cells #[.string nm, .int .i64 (lf : Int), .int .i64 (mf : Int), .int .i64 grd, .int .i64 stn] 56)) := (Below.refl _ _).alloc (Nat.le_refl _) _
        have HEa := Lib.hid (HEm.out.call hba)
        have HXa := Lib.hid (BoxB.new wr [.string nm, .int .i64 (lf : Int), .int .i64 (mf : Int), .int .i64 grd, .int .i64 stn] 56)
        clear hc hln hln2 hln3 hl1 hl2 hl3 hl4 hnb hsb hnm hba Hs HQ0 HEm
        go_wp2_with fail
        refine (appendName_any w0.heap.size v Q0 nm _ HEa.out.own HEa.out.bel.size (by omega) hsz).mono ?_
        rintro e w3 ⟨v1, rfl, ho, hg⟩
        obtain ⟨p5, hp5⟩ : ∃ p5, wr.heap.size = p5 := ⟨_, rfl⟩
        rw [hp5] at HXa ⊢
        have HX1 := Lib.hid (HXa.out.app (by decide) HEa.out.own hg)
        have HE1 := Lib.hid (HEa.out.app ho hg)
        clear ho hg hp5 HXa HEa q0 q1 q2 q3 q4 hbl
        have t1 := HX1.out.cell 1 _ rfl
        go_wp2_with fail
        refine (appendNumber_any w0.heap.size v1 (Q0 ++ nameBytes nm) lf 2 _ HE1.out.own HE1.out.bel.size (by have := Hl1.out; omega) (by omega) (by omega)).mono ?_
        rintro e w4 ⟨v2, rfl, ho, hg, _⟩
        have HX2 := Lib.hid (HX1.out.app (by decide) HE1.out.own hg)
        have HE2 := Lib.hid (HE1.out.app ho hg)
        clear ho hg HX1 HE1 t1
        have t2 := HX2.out.cell 2 _ rfl
        go_wp2_with fail
        refine (appendNumber_any w0.heap.size v2 (Q0 ++ nameBytes nm ++ lows lf 2) mf 3 _ HE2.out.own HE2.out.bel.size (by have := Hl2.out; omega) (by omega) (by omega)).mono ?_
        rintro e w5 ⟨v3, rfl, ho, hg, _⟩
        have HX3 := Lib.hid (HX2.out.app (by decide) HE2.out.own hg)
        have HE3 := Lib.hid (HE2.out.app ho hg)
        clear ho hg HX2 HE2 t2
        have t3 := HX3.out.cell 3 _ rfl
        go_wp2_with fail
        refine (appendNumber_any w0.heap.size v3 (Q0 ++ nameBytes nm ++ lows lf 2 ++ lows mf 3) gf 1 _ HE3.out.own HE3.out.bel.size (by have := Hl3.out; omega) (by omega) (by omega)).mono ?_
        rintro e w6 ⟨v4, rfl, ho, hg, _⟩
        have HX4 := Lib.hid (HX3.out.app (by decide) HE3.out.own hg)
        have HE4 := Lib.hid (HE3.out.app ho hg)
        clear ho hg HX3 HE3 t3
        have t4 := HX4.out.cell 4 _ rfl
        go_wp2_with fail
        refine (appendNumber_any w0.heap.size v4 (Q0 ++ nameBytes nm ++ lows lf 2 ++ lows mf 3 ++ lows gf 1) tf 1 _ HE4.out.own HE4.out.bel.size (by have := Hl4.out; omega) (by omega) (by omega)).mono ?_
        rintro e w7 ⟨v5, rfl, ho, hg, _⟩
        have HX5 := Lib.hid (HX4.out.app (by decide) HE4.out.own hg)
        have HE5 := Lib.hid (HE4.out.app ho hg)
        clear ho hg HX4 HE4 t4
        rw [← Hsn.out] at HE5
        clear HX5
        go_wp2
        go_roundw
        case rel => exact ⟨m + 1, _, by omega, by go_num, rfl, HE5⟩
        case measure => simp [intOf]; omega
       ·have HB := Lib.hid (HB0.out.below HEm.out.bel)
        have s3 := HB.out.2 3 _ rfl
        have s5 := HB.out.1
        go_wp2
        clear s3 s5 HB
        obtain ⟨P2, HP2⟩ : ∃ P2, Hid (P ++ L.secs.flatMap secBytes = P2) := ⟨_, Lib.hid rfl⟩
        have hP2 : P2.length ≤ 3000 := by
         rw [← HP2.out, List.length_append]
         have := flat_le secBytes 20 L.secs (fun x hx => secBytes_len (HV.out.v3 x hx).1)
         omega
        have HE : Hid (EnI w0 wr v P2) := Lib.hid (by have := HEm.out; rw [List.take_of_length_le (by omega), HP2.out] at this; exact this)
        have HBL : Hid (bodyL L = P2 ++ L.lnks.flatMap lnkBytes) := Lib.hid (by rw [← HP2.out, ← HP.out]; unfold bodyL namesK; simp)
        clear HEm
        go_loopw [4, 94] (fun u iv wr => ∃ (m : Nat) (v : Value), m ≤ L.lnks.length ∧ iv = .int .i64 m ∧ v = u ∧ Hid (EnI w0 wr v (P2 ++ (L.lnks.take m).flatMap lnkBytes))) (fun _ iv _ => L.lnks.length - (intOf iv).toNat)
        case atStart => exact ⟨0, _, by omega, rfl, rfl, by simpa using HE⟩
        case round =>
         obtain ⟨m, v, hm, rfl, rfl, HEm⟩ := hrel
         clear HE
         by_cases hlt : m < L.lnks.length
         ·obtain ⟨wo, rfl⟩ : ∃ wo : World, wo = wr := ⟨_, rfl⟩
          obtain ⟨bs, os, hA, hbl, hc⟩ := (HR0.out.below HEm.out.bel).r4 m hlt
          obtain rfl : A4 = some ⟨bs, os, none⟩ := hA
          obtain ⟨s, Hs⟩ : ∃ s, Hid (L.lnks[m] = s) := ⟨_, Lib.hid rfl⟩
          have hlb := HV.out.v4 _ (List.getElem_mem hlt)
          rw [Hs.out] at hlb hc
          obtain ⟨l1, l2, l3, l4, l5, l6, l7, l8, l9, l10, l11, l12, l13⟩ := linkB_of hlb
          have hln := flat_le lnkBytes 4 (L.lnks.take m) (fun x hx => by rw [lnkBytes_len]; exact Nat.le_refl _)
          have hln2 : (L.lnks.take m).length ≤ 192 := by rw [List.length_take]; omega
          have hln3 : ((L.lnks.take m).flatMap lnkBytes).length ≤ 768 := by omega
          obtain ⟨a, ae, b, be, pt, ps⟩ := s
          dsimp only at *
          obtain ⟨f0, e0⟩ := Int.eq_ofNat_of_zero_le (show 0 ≤ a * 2 + ae by omega)
          obtain ⟨f1, e1⟩ := Int.eq_ofNat_of_zero_le (show 0 ≤ b * 2 + be by omega)
          obtain ⟨f2, e2⟩ := Int.eq_ofNat_of_zero_le (show 0 ≤ pt + 1 by omega)
          obtain ⟨f3, rfl⟩ := Int.eq_ofNat_of_zero_le (show 0 ≤ ps by omega)
          have q0 := hc 0 _ rfl
          have q1 := hc 1 _ rfl
          have q2 := hc 2 _ rfl
          have q3 := hc 3 _ rfl
          have q4 := hc 4 _ rfl
          have q5 := hc 5 _ rfl
          rw [Nat.add_zero] at q0
          dsimp only at q0 q1 q2 q3 q4 q5
          obtain ⟨Q0, HQ0⟩ : ∃ Q0, Hid (P2 ++ (L.lnks.take m).flatMap lnkBytes = Q0) := ⟨_, Lib.hid rfl⟩
          have hQ : Q0.length ≤ 4000 := by rw [← HQ0.out, List.length_append]; omega
          rw [HQ0.out] at HEm
          have Hsn : Hid (P2 ++ (L.lnks.take (m + 1)).flatMap lnkBytes = Q0 ++ lnkK f0 f1 f2 f3 4) := Lib.hid (by
           rw [flat_snoc lnkBytes L.lnks m hlt, Hs.out, ← List.append_assoc, HQ0.out]
           unfold lnkBytes lnkK
           dsimp only
           rw [e0, e1, e2]
           simp [List.append_assoc])
          have hf0 : f0 ≤ 1000 := by omega
          have hf1 : f1 ≤ 1000 := by omega
          have hf2 : f2 ≤ 1000 := by omega
          have hf3 : f3 ≤ 1000 := by omega
          have hba : Below wo.heap.size wo (wo.alloc (.cells #[.int .i64 a, .int .i64 ae, .int .i64 b, .int .i64 be, .int .i64 pt, .int .i64 (f3 : Int)] 58)) := (Below.refl _ _).alloc (Nat.le_refl _) _
          have HEa := Lib.hid (HEm.out.call hba)
          have HIX2 := Lib.hid (fun k hk => index4 (f0 : Int) (f1 : Int) (f2 : Int) (f3 : Int) k hk)
          clear hc hln hln2 hln3 hlb hba Hs HQ0 HEm l13
          go_wp2
          clear q0 q1 q2 q3 q4 q5 e0 e1 e2 hbl
          go_loopw [4, 116] (fun u iv wr => ∃ (i : Nat) (v : Value), i ≤ 4 ∧ iv = .int .i64 i ∧ v = u ∧ Hid (EnI w0 wr v (Q0 ++ lnkK f0 f1 f2 f3 i))) (fun _ iv _ => 4 - (intOf iv).toNat)
          case atStart => exact ⟨0, _, by omega, rfl, rfl, by simpa [lnkK] using HEa⟩
          case round =>
           obtain ⟨i, v, hi4, rfl, rfl, HEi⟩ := hrel
           clear HEa
           by_cases hlt2 : i < 4
           ·have hx := HIX2.out i hlt2
            obtain ⟨z, Hz⟩ : ∃ z : Nat, Hid ([f0, f1, f2, f3].getD i 0 = z) := ⟨_, Lib.hid rfl⟩
            have hzi : ([(f0 : Int), (f1 : Int), (f2 : Int), (f3 : Int)].getD i 0) = (z : Int) := by
             rw [← Hz.out]
             rcases (show i = 0 ∨ i = 1 ∨ i = 2 ∨ i = 3 by omega) with rfl | rfl | rfl | rfl <;> rfl
            have hz : z ≤ 1000 := by
             rw [← Hz.out]
             rcases (show i = 0 ∨ i = 1 ∨ i = 2 ∨ i = 3 by omega) with rfl | rfl | rfl | rfl
             ·exact hf0
             ·exact hf1
             ·exact hf2
             ·exact hf3
            rw [hzi] at hx
            have Hsu : Hid (Q0 ++ lnkK f0 f1 f2 f3 (i + 1) = Q0 ++ lnkK f0 f1 f2 f3 i ++ lows z 1) := Lib.hid (by rw [lnkK_succ f0 f1 f2 f3 i hlt2, Hz.out, List.append_assoc])
            have hll : (Q0 ++ lnkK f0 f1 f2 f3 i).length ≤ 1000000 := by rw [List.length_append]; have := lnkK_len f0 f1 f2 f3 i; omega
            have Hll := Lib.hid hll
            clear hzi hll
            go_wp2_with fail
            refine (appendNumber_any w0.heap.size v (Q0 ++ lnkK f0 f1 f2 f3 i) z 1 _ HEi.out.own HEi.out.bel.size Hll.out (by omega) (by omega)).mono ?_
            rintro e w3 ⟨v', rfl, ho, hg, _⟩
            have HE1 : Hid (EnI w0 w3 v' (Q0 ++ lnkK f0 f1 f2 f3 (i + 1))) := Lib.hid (by rw [Hsu.out]; exact HEi.out.app ho hg)
            clear ho hg
            go_wp2
            go_roundw
            case rel => exact ⟨i + 1, _, by omega, by go_num, rfl, HE1⟩
            case measure => simp [intOf]; omega
           ·obtain rfl : i = 4 := by omega
            rw [← Hsn.out] at HEi
            go_wp2
            go_roundw
            case rel => exact ⟨m + 1, _, by omega, by go_num, rfl, HEi⟩
            case measure => simp [intOf]; omega
         ·obtain ⟨B, HB⟩ : ∃ B, Hid (bodyL L = B) := ⟨_, Lib.hid rfl⟩
          have HE : Hid (EnI w0 wr v B) := Lib.hid (by have := HEm.out; rw [List.take_of_length_le (by omega), ← HBL.out, HB.out] at this; exact this)
          have hBl : B.length ≤ 4000 := by
           rw [← HB.out, HBL.out, List.length_append]
           have := flat_le lnkBytes 4 L.lnks (fun x hx => by rw [lnkBytes_len]; exact Nat.le_refl _)
           omega
          have hB0 : 0 < B.length := by
           rw [← HB.out]; unfold bodyL; rw [List.length_append, List.length_append, List.length_append, List.length_append, head_len]; omega
          obtain ⟨z, Hz⟩ : ∃ z, Hid (Pl.crc B = z) := ⟨_, Lib.hid rfl⟩
          have hz : z < 4294967296 := by rw [← Hz.out]; exact crc_lt B
          have HES2 : Hid (ES = B ++ lows z 4) := Lib.hid (by rw [← HES.out]; unfold encL; rw [HB.out, Hz.out])
          have kc1 := own_string HE.out.own hB0
          have hsB : (⟨B.toArray⟩ : ByteArray).size ≤ 9223372036854775807 := by show B.toArray.size ≤ _; simp; omega
          have HcB : Hid (Pl.crc (⟨B.toArray⟩ : ByteArray).data.toList = z) := Lib.hid (by simpa using Hz.out)
          clear HEm
          go_wp2_with fail
          refine (sum_any ⟨B.toArray⟩ _ hsB).mono ?_
          rintro e w' ⟨rfl, rfl⟩
          rw [HcB.out]
          go_wp2_with fail
          refine (appendNumber_any w0.heap.size v B z 4 _ HE.out.own HE.out.bel.size (by omega) (by omega) (by omega)).mono ?_
          rintro e w3 ⟨v', rfl, ho, hg, _⟩
          have HE1 : Hid (EnI w0 w3 v' ES) := Lib.hid (by rw [HES2.out]; exact HE.out.app ho hg)
          have kc2 := own_string HE1.out.own (by rw [HES2.out, List.length_append]; omega)
          clear ho hg HE kc1
          go_wp2
          go_ret2
          exact ⟨rfl, Hb0.out.trans (HE1.out.bel.mono Hb0.out.size)⟩
end Go.Proofs.Ythnfliopmjpdmaa
namespace Go.Proofs.Ythnfliopmjpdmaa.Av
open Go.RowKit
theorem encode_okO (L : Lay) (hL : LayFits L) (h : layErr L = 0) : Ok Try.prog 10 [aLay L] [] (.tup [.c (.f (.v (.string ⟨(encL L).toArray⟩))), .c (.f (.v (.int .i64 0)))]) [] := by
 refine ok_old _ Try.func10 (by kernel_rfl) (by kernel_rfl) rfl rfl fun w κ ρ vals hs hr => ⟨_, plain_2 plain_s plain_i rfl rfl, ?_⟩
 have hs : vals.size = 1 := hs
 obtain ⟨V, hv, hR⟩ := lay_rd hL (hr 0 (by simp) (by omega) (.slot 0))
 rw [one_arg hs, hv]
 exact encode_ok V L w hR h
theorem encode_badO (L : Lay) (hL : LayFits L) (h : layErr L ≠ 0) : Ok Try.prog 10 [aLay L] [] (.tup [.c (.f (.v (.string ⟨#[]⟩))), .c (.f (.v (.int .i64 1)))]) [] := by
 refine ok_old _ Try.func10 (by kernel_rfl) (by kernel_rfl) rfl rfl fun w κ ρ vals hs hr => ⟨_, plain_2 plain_s plain_i rfl rfl, ?_⟩
 have hs : vals.size = 1 := hs
 obtain ⟨V, hv, hR⟩ := lay_rd hL (hr 0 (by simp) (by omega) (.slot 0))
 rw [one_arg hs, hv]
 exact encode_bad V L w hR h
theorem encode_okV (L : Lay) (hL : LayFits L) (h : layErr L = 0) : OkV Try.prog 10 [vLay L] [] (.tup [.c (xS ⟨(encL L).toArray⟩), .c (xI 0)]) [] := encode_okO L hL h
theorem encode_badV (L : Lay) (hL : LayFits L) (h : layErr L ≠ 0) : OkV Try.prog 10 [vLay L] [] (.tup [.c (xS ⟨#[]⟩), .c (xI 1)]) [] := encode_badO L hL h
end Go.Proofs.Ythnfliopmjpdmaa.Av
namespace Go.Proofs.Ythnfliopmjpdmaa.Av
abbrev bA (l : List UInt8) : ByteArray := ⟨l.toArray⟩
theorem bA_app (a b : List UInt8) : bA a ++ bA b = bA (a ++ b) := by
 apply ByteArray.ext
 simp [ByteArray.data_append]
theorem bA_size (a : List UInt8) : (bA a).size = a.length := by simp [ByteArray.size]
theorem wrap_u8 (x : Int) : IntKind.u8.wrap x = x % 256 := by
 simp only [IntKind.wrap]
 simp [IntKind.bits, IntKind.signed]
theorem u8_low (x : Int) (n : Nat) (h : x = n) : UInt8.ofNat (IntKind.u8.wrap x).toNat = low n 0 := by
 apply UInt8.toNat_inj.1
 unfold low
 rw [UInt8.toNat_ofNat', UInt8.toNat_ofNat', wrap_u8, h]
 simp
 omega
theorem low_shift (n i : Nat) : low (n / 2 ^ (8 * i)) 0 = low n i := by simp [low]
theorem little_ok (v n : Nat) (hv : v < 18446744073709551616) (hn : n ≤ 8) : OkV Try.prog 29 [.c (.c (.f (.v (.int .u64 v)))), vI n] [] (vS (bA (lows v n))) [] := by
 refine X_fnP mixedX Try.func29 rfl (by kernel_rfl) (Nat.le_of_ble_eq_true (by kernel_rfl)) (by kernel_rfl) rfl rfl ?_
 simp only [sl0, Nat.zero_add, Nat.reduceAdd]
 repeat' (first
  |with_reducible (first|refine WR_pp ?_|refine WR_pd ?_|refine W_seq ?_|refine seqK_n ?_|refine seqK_r ?_|refine seqK_e ?_|refine W_block ?_|refine blockK_n ?_|refine blockK_r ?_|refine LoopK_e ?_|refine LoopK_r ?_|refine LoopX_r ?_|refine W_skip ?_|refine W_exit ?_|refine W_ret ?_|refine W_region (WOps_WR ?_)|refine W_draw (WOpsD_WR ?_)|refine WR_nil ?_|refine q_and ?_ ?_|exact True.intro|assumption|refine blockK_e rfl ?_|refine blockK_o (by decide) ?_|refine LoopX_e (by decide) ?_)
  |((with_reducible apply q_WR);first|refine X_run rfl ?_ ?_|refine WR_nilD (by kernel_rfl) ?_)
  |((with_reducible apply q_cond);refine X_cond rfl ?_ ?_;all_goals (intro hbq;(try simp only [bq] at hbq);(try (exfalso;omega))))
  |((with_reducible apply q_ret);refine X_ret tabOk trivial rfl rfl ?_ ?_)
  |((with_reducible apply q_retP);refine X_retP tabOk trivial rfl rfl ?_ ?_)
  |(intro (hgq : (_ : Bool) = true);(try simp only [bq] at hgq))
  |(intro (hgq : (_ : Bool) = false);(try simp only [bq] at hgq))
  |((with_reducible apply q_VOk);exact fun _ => ⟨rfl,rfl⟩)
  |(intro _;exact rfl)
  |((with_reducible apply q_bt);simp only [bq])
  |((with_reducible apply q_eqN);rfl)
  |with_reducible exact isByte_wrap _
  |with_reducible exact isByte_nat _
  |(simp only [hgq,bq];done)
  |omega)
 refine W_loopS (fun i : Nat => SS [(0, .v (.c (.c (.f (.v (.int .u64 (v / 2 ^ (8 * i) : Nat))))))), sI 1 n, sS 5 (bA (lows v i)), sI 6 i] []) (fun i => i ≤ n) (fun i => n - i) 0 ?_ (by omega) ?_
 ·
  refine X_weak rfl rfl rfl ?_ ?_ <;> repeat' (first|with_reducible (first|exact q_AgS0|exact HLe.nil _|refine HLe.none ?_|refine HLe.cells ?_ ?_|refine HLe.els ?_ ?_|exact SLe.nil|refine SLe.cons ?_ ?_|exact ELe.refl _|refine ELe.c rfl ?_|exact CLe.refl _|exact CLe.nil_row|exact CLe.nil_rowS|exact CLe.nil_tip|exact CLe.nil_tipS|exact CLe.int (by omega)|refine CLe.tip ?_ ?_|refine CLe.tip_row ?_ ?_|refine CLe.row ?_ ?_|refine CLe.tipr_row ?_|refine CLe.rows ?_|refine CLe.tips ?_|refine CLe.int ?_|refine CLe.bool ?_|refine CLe.str ?_|refine CLe.arr ?_ ?_)|refine q_AgS rfl ?_ ?_|exact CLe.nil_tipS|exact CLe.nil_rowS|refine HLe.cells ?_ ?_|refine HLe.els ?_ ?_|refine SLe.cons ?_ ?_|with_reducible rfl|omega)
  all_goals (simp [lows]; done)
 ·intro i hi
  have hl := lows_len v i
  have hs := bA_size (lows v i)
  repeat' (first
   |with_reducible (first|refine WR_pp ?_|refine WR_pd ?_|refine W_seq ?_|refine seqK_n ?_|refine seqK_r ?_|refine seqK_e ?_|refine W_block ?_|refine blockK_n ?_|refine blockK_r ?_|refine LoopK_e ?_|refine LoopK_r ?_|refine LoopX_r ?_|refine W_skip ?_|refine W_exit ?_|refine W_ret ?_|refine W_region (WOps_WR ?_)|refine W_draw (WOpsD_WR ?_)|refine WR_nil ?_|refine q_and ?_ ?_|exact True.intro|assumption|refine blockK_e rfl ?_|refine blockK_o (by decide) ?_|refine LoopX_e (by decide) ?_)
   |((with_reducible apply q_WR);first|refine X_run rfl ?_ ?_|refine WR_nilD (by kernel_rfl) ?_)
   |((with_reducible apply q_cond);refine X_cond rfl ?_ ?_;all_goals (intro hbq;(try simp only [bq] at hbq);(try (exfalso;omega))))
   |((with_reducible apply q_ret);refine X_ret tabOk trivial rfl rfl ?_ ?_)
   |((with_reducible apply q_retP);refine X_retP tabOk trivial rfl rfl ?_ ?_)
   |(intro (hgq : (_ : Bool) = true);(try simp only [bq] at hgq))
   |(intro (hgq : (_ : Bool) = false);(try simp only [bq] at hgq))
   |((with_reducible apply q_VOk);exact fun _ => ⟨rfl,rfl⟩)
   |(intro _;exact rfl)
   |((with_reducible apply q_bt);simp only [bq])
   |((with_reducible apply q_eqN);rfl)
   |with_reducible exact isByte_wrap _
   |with_reducible exact isByte_nat _
   |(simp only [hgq,bq];done)
   |omega)
  ·have e : (⟨#[UInt8.ofNat (IntKind.u8.wrap ((v / 2 ^ (8 * i) : Nat) : Int)).toNat]⟩ : ByteArray).size = 1 := rfl
   omega
  ·have e : (⟨#[UInt8.ofNat (IntKind.u8.wrap ((v / 2 ^ (8 * i) : Nat) : Int)).toNat]⟩ : ByteArray) = bA [low v i] := by rw [u8_low _ _ rfl, low_shift]
   rw [e, bA_app, ← lows_succ]
   refine LoopK_n (i + 1) ?_ ?_ ?_
   rotate_left
   ·(try dsimp only); omega
   ·(try dsimp only); omega
   refine X_weak rfl rfl rfl ?_ ?_ <;> repeat' (first|with_reducible (first|exact q_AgS0|exact HLe.nil _|refine HLe.none ?_|refine HLe.cells ?_ ?_|refine HLe.els ?_ ?_|exact SLe.nil|refine SLe.cons ?_ ?_|exact ELe.refl _|refine ELe.c rfl ?_|exact CLe.refl _|exact CLe.nil_row|exact CLe.nil_rowS|exact CLe.nil_tip|exact CLe.nil_tipS|exact CLe.int (by omega)|refine CLe.tip ?_ ?_|refine CLe.tip_row ?_ ?_|refine CLe.row ?_ ?_|refine CLe.tipr_row ?_|refine CLe.rows ?_|refine CLe.tips ?_|refine CLe.int ?_|refine CLe.bool ?_|refine CLe.str ?_|refine CLe.arr ?_ ?_)|refine q_AgS rfl ?_ ?_|exact CLe.nil_tipS|exact CLe.nil_rowS|refine HLe.cells ?_ ?_|refine HLe.els ?_ ?_|refine SLe.cons ?_ ?_|with_reducible rfl|omega)
   show ((v / 2 ^ (8 * i) : Nat) : Int).fdiv 256 = _
   rw [Int.fdiv_eq_ediv_of_nonneg _ (by omega), show 8 * (i + 1) = 8 * i + 8 by omega, Nat.pow_add, ← Nat.div_div_eq_div_mul]
   omega
  ·have hie : i = n := by omega
   subst hie
   repeat' (first|with_reducible (first|exact TkEq.nil _|refine TkEq.none ?_|refine TkEq.cells ?_ ?_|refine TkEq.els ?_ ?_|exact SEqL.nil|refine SEqL.cons ?_ ?_|exact TEqL.nil|refine TEqL.c ?_ ?_|refine TEqL.agg ?_ ?_|exact CEq.refl _|refine CEq.int ?_|refine CEq.bool ?_|refine CEq.str ?_|refine CEq.rows ?_|refine CEq.row ?_ ?_|refine CEq.tips ?_|refine CEq.tip ?_ ?_|refine CEq.raw ?_ ?_|refine CEq.arr ?_ ?_)|refine VEq.c ?_|refine VEq.agg ?_|refine VEq.tup ?_|refine TkEq.cells ?_ ?_|refine TkEq.els ?_ ?_|refine SEqL.cons ?_ ?_|refine TEqL.agg ?_ ?_|refine CEq.rows ?_|refine CEq.int ?_|rfl|omega)
theorem short_ok (s : ByteArray) (hs : s.size ≤ 1000000) : OkV Try.prog 28 [vS s] [] (vS (bA (nameBytes s))) [] := by
 have h1 := little_ok s.size 1 (by omega) (by omega)
 have e0 : IntKind.u64.wrap (s.size : Int) = s.size := by
  simp only [IntKind.wrap]
  simp [IntKind.bits, IntKind.signed]
  omega
 rw [← e0] at h1
 have hz := bA_size (lows s.size 1)
 have hl := lows_len s.size 1
 refine X_fnP mixedX Try.func28 rfl (by kernel_rfl) (Nat.le_of_ble_eq_true (by kernel_rfl)) (by kernel_rfl) rfl rfl ?_
 simp only [sl0, Nat.zero_add, Nat.reduceAdd]
 repeat' (first
  |with_reducible (first|refine WR_pp ?_|refine WR_pd ?_|refine W_seq ?_|refine seqK_n ?_|refine seqK_r ?_|refine seqK_e ?_|refine W_block ?_|refine blockK_n ?_|refine blockK_r ?_|refine LoopK_e ?_|refine LoopK_r ?_|refine LoopX_r ?_|refine W_skip ?_|refine W_exit ?_|refine W_ret ?_|refine W_region (WOps_WR ?_)|refine W_draw (WOpsD_WR ?_)|refine WR_nil ?_|refine q_and ?_ ?_|exact True.intro|assumption|refine blockK_e rfl ?_|refine blockK_o (by decide) ?_|refine LoopX_e (by decide) ?_)
  |((with_reducible apply q_call);refine X_pure (h1) rfl ?_)
  |((with_reducible apply q_WR);first|refine X_run rfl ?_ ?_|refine WR_nilD (by kernel_rfl) ?_)
  |((with_reducible apply q_cond);refine X_cond rfl ?_ ?_;all_goals (intro hbq;(try simp only [bq] at hbq);(try (exfalso;omega))))
  |((with_reducible apply q_ret);refine X_ret tabOk trivial rfl rfl ?_ ?_)
  |((with_reducible apply q_retP);refine X_retP tabOk trivial rfl rfl ?_ ?_)
  |(intro (hgq : (_ : Bool) = true);(try simp only [bq] at hgq))
  |(intro (hgq : (_ : Bool) = false);(try simp only [bq] at hgq))
  |((with_reducible apply q_VOk);exact fun _ => ⟨rfl,rfl⟩)
  |(intro _;exact rfl)
  |((with_reducible apply q_bt);simp only [bq])
  |((with_reducible apply q_eqN);rfl)
  |with_reducible exact isByte_wrap _
  |with_reducible exact isByte_nat _
  |(simp only [hgq,bq];done)
  |omega)
 refine VEq.c (CEq.str ?_)
 unfold nameBytes
 rw [← bA_app]
theorem flat_next {α : Type} (f : α → List UInt8) (l : List α) (i : Nat) (d : α) (h : i < l.length) : (l.take (i + 1)).flatMap f = (l.take i).flatMap f ++ f (l.getD (i : Int).toNat d) := by
 rw [Int.toNat_natCast, List.take_succ_eq_append_getElem h, List.flatMap_append, List.getD_eq_getElem?_getD, List.getElem?_eq_getElem h]
 simp
theorem getD_mem {α : Type} (l : List α) (i : Nat) (d : α) (h : i < l.length) : l.getD (i : Int).toNat d ∈ l := by
 rw [Int.toNat_natCast, List.getD_eq_getElem?_getD, List.getElem?_eq_getElem h]
 exact List.getElem_mem h
theorem flat_take_le {α : Type} (f : α → List UInt8) (n m : Nat) (l : List α) (i : Nat) (h : ∀ x ∈ l, (f x).length ≤ n) (hm : l.length ≤ m) : ((l.take i).flatMap f).length ≤ m * n := by
 refine Nat.le_trans (flat_le f n _ fun x hx => h x (List.mem_of_mem_take hx)) (Nat.mul_le_mul_right _ ?_)
 rw [List.length_take]; omega
theorem u64_nat (x : Int) (h0 : 0 ≤ x) (h1 : x < 18446744073709551616) : IntKind.u64.wrap x = (x.toNat : Int) := by
 simp only [IntKind.wrap]
 simp [IntKind.bits, IntKind.signed]
 omega
theorem u64_nat' (n : Nat) (h : n < 4294967296) : IntKind.u64.wrap (n : Int) = (n : Int) := u64_nat _ (by omega) (by omega)
theorem sz2 (a b : UInt8) : (⟨#[a, b]⟩ : ByteArray).size = 2 := rfl
theorem sz4 (a b c d : UInt8) : (⟨#[a, b, c, d]⟩ : ByteArray).size = 4 := rfl
abbrev bxL (L : Lay) : SB := .cells [rStr L.sts, rStr L.pts, rSec L.secs, rLnk L.lnks]
theorem refEncode_bad (L : Lay) (hf : LayFits L) (h : layErr L ≠ 0) : OkV Try.prog 15 [vLay L] [] (.tup [.c (xS ⟨#[]⟩), .c (xI 1)]) [] := by
 have hC := refCheck_okV L hf
 refine X_fnP mixedX Try.func15 rfl (by kernel_rfl) (Nat.le_of_ble_eq_true (by kernel_rfl)) (by kernel_rfl) rfl rfl ?_
 simp only [sl0, Nat.zero_add, Nat.reduceAdd]
 repeat' (first
  |with_reducible (first|refine WR_pp ?_|refine WR_pd ?_|refine W_seq ?_|refine seqK_n ?_|refine seqK_r ?_|refine seqK_e ?_|refine W_block ?_|refine blockK_n ?_|refine blockK_r ?_|refine LoopK_e ?_|refine LoopK_r ?_|refine LoopX_r ?_|refine W_skip ?_|refine W_exit ?_|refine W_ret ?_|refine W_region (WOps_WR ?_)|refine W_draw (WOpsD_WR ?_)|refine WR_nil ?_|refine q_and ?_ ?_|exact True.intro|assumption|refine blockK_e rfl ?_|refine blockK_o (by decide) ?_|refine LoopX_e (by decide) ?_)
  |((with_reducible apply q_call);refine X_pure (hC) rfl ?_)
  |((with_reducible apply q_WR);first|refine X_run rfl ?_ ?_|refine WR_nilD (by kernel_rfl) ?_)
  |((with_reducible apply q_cond);refine X_cond rfl ?_ ?_;all_goals (intro hbq;(try simp only [bq] at hbq);(try (exfalso;omega))))
  |((with_reducible apply q_ret);refine X_ret tabOk trivial rfl rfl ?_ ?_)
  |((with_reducible apply q_retP);refine X_retP tabOk trivial rfl rfl ?_ ?_)
  |(intro (hgq : (_ : Bool) = true);(try simp only [bq] at hgq))
  |(intro (hgq : (_ : Bool) = false);(try simp only [bq] at hgq))
  |((with_reducible apply q_VOk);exact fun _ => ⟨rfl,rfl⟩)
  |(intro _;exact rfl)
  |((with_reducible apply q_bt);simp only [bq])
  |((with_reducible apply q_eqN);rfl)
  |with_reducible exact isByte_wrap _
  |with_reducible exact isByte_nat _
  |(simp only [hgq,bq];done)
  |omega)
 all_goals repeat' (first|with_reducible (first|exact TkEq.nil _|refine TkEq.none ?_|refine TkEq.cells ?_ ?_|refine TkEq.els ?_ ?_|exact SEqL.nil|refine SEqL.cons ?_ ?_|exact TEqL.nil|refine TEqL.c ?_ ?_|refine TEqL.agg ?_ ?_|exact CEq.refl _|refine CEq.int ?_|refine CEq.bool ?_|refine CEq.str ?_|refine CEq.rows ?_|refine CEq.row ?_ ?_|refine CEq.tips ?_|refine CEq.tip ?_ ?_|refine CEq.raw ?_ ?_|refine CEq.arr ?_ ?_)|refine VEq.c ?_|refine VEq.agg ?_|refine VEq.tup ?_|refine TkEq.cells ?_ ?_|refine TkEq.els ?_ ?_|refine SEqL.cons ?_ ?_|refine TEqL.agg ?_ ?_|refine CEq.rows ?_|refine CEq.int ?_|rfl|omega)
theorem refEncode_ok (L : Lay) (hf : LayFits L) (h : layErr L = 0) : OkV Try.prog 15 [vLay L] [] (.tup [.c (xS (bA (encL L))), .c (xI 0)]) [] := by
 have hC := refCheck_okV L hf
 rw [h] at hC
 obtain ⟨n1, n2, n3, n4, n5, v1, v2, v3, v4⟩ := valid_of h
 refine X_fnP mixedX Try.func15 rfl (by kernel_rfl) (Nat.le_of_ble_eq_true (by kernel_rfl)) (by kernel_rfl) rfl rfl ?_
 simp only [sl0, Nat.zero_add, Nat.reduceAdd]
 repeat' (first
  |with_reducible (first|refine WR_pp ?_|refine WR_pd ?_|refine W_seq ?_|refine seqK_n ?_|refine seqK_r ?_|refine seqK_e ?_|refine W_block ?_|refine blockK_n ?_|refine blockK_r ?_|refine LoopK_e ?_|refine LoopK_r ?_|refine LoopX_r ?_|refine W_skip ?_|refine W_exit ?_|refine W_ret ?_|refine W_region (WOps_WR ?_)|refine W_draw (WOpsD_WR ?_)|refine WR_nil ?_|refine q_and ?_ ?_|exact True.intro|assumption|refine blockK_e rfl ?_|refine blockK_o (by decide) ?_|refine LoopX_e (by decide) ?_)
  |((with_reducible apply q_call);refine X_pure (hC) rfl ?_)
  |((with_reducible apply q_WR);first|refine X_run rfl ?_ ?_|refine WR_nilD (by kernel_rfl) ?_)
  |((with_reducible apply q_cond);refine X_cond rfl ?_ ?_;all_goals (intro hbq;(try simp only [bq] at hbq);(try (exfalso;omega))))
  |((with_reducible apply q_ret);refine X_ret tabOk trivial rfl rfl ?_ ?_)
  |((with_reducible apply q_retP);refine X_retP tabOk trivial rfl rfl ?_ ?_)
  |(intro (hgq : (_ : Bool) = true);(try simp only [bq] at hgq))
  |(intro (hgq : (_ : Bool) = false);(try simp only [bq] at hgq))
  |((with_reducible apply q_VOk);exact fun _ => ⟨rfl,rfl⟩)
  |(intro _;exact rfl)
  |((with_reducible apply q_bt);simp only [bq])
  |((with_reducible apply q_eqN);rfl)
  |with_reducible exact isByte_wrap _
  |with_reducible exact isByte_nat _
  |(simp only [hgq,bq];done)
  |omega)
 ·show 4 + 4 ≤ _
  decide
 have e1 : (⟨#[82, 80, 76, 49]⟩ : ByteArray) ++ ⟨#[UInt8.ofNat (IntKind.u8.wrap L.sts.length).toNat, UInt8.ofNat (IntKind.u8.wrap L.pts.length).toNat, UInt8.ofNat (IntKind.u8.wrap L.secs.length).toNat, UInt8.ofNat (IntKind.u8.wrap L.lnks.length).toNat]⟩ = bA (headBytes L) := by
  rw [u8_low _ _ rfl, u8_low _ _ rfl, u8_low _ _ rfl, u8_low _ _ rfl]
  exact bA_app [82, 80, 76, 49] _
 rw [e1]
 have z0 : (headBytes L).length = 8 := rfl
 have z1 := fun i => flat_take_le nameBytes 13 24 L.sts i (fun x hx => nameBytes_len (v1 x hx)) n1
 have z2 := fun i => flat_take_le nameBytes 13 48 L.pts i (fun x hx => nameBytes_len (v2 x hx)) n2
 have z3 := fun i => flat_take_le secBytes 20 96 L.secs i (fun x hx => secBytes_len (v3 x hx).1) n3
 have z4 := fun i => flat_take_le lnkBytes 4 192 L.lnks i (fun x _ => Nat.le_of_eq (lnkBytes_len x)) n4
 clear hC e1
 refine W_loopS (fun i : Nat => SS [sC 1 (pB 0), sS 4 (bA (headBytes L ++ (L.sts.take i).flatMap nameBytes)), sI 5 i] [some (bxL L)]) (fun i => i ≤ L.sts.length) (fun i => L.sts.length - i) 0 ?_ (by omega) ?_
 ·
  refine X_weak rfl rfl rfl ?_ ?_ <;> repeat' (first|with_reducible (first|exact q_AgS0|exact HLe.nil _|refine HLe.none ?_|refine HLe.cells ?_ ?_|refine HLe.els ?_ ?_|exact SLe.nil|refine SLe.cons ?_ ?_|exact ELe.refl _|refine ELe.c rfl ?_|exact CLe.refl _|exact CLe.nil_row|exact CLe.nil_rowS|exact CLe.nil_tip|exact CLe.nil_tipS|exact CLe.int (by omega)|refine CLe.tip ?_ ?_|refine CLe.tip_row ?_ ?_|refine CLe.row ?_ ?_|refine CLe.tipr_row ?_|refine CLe.rows ?_|refine CLe.tips ?_|refine CLe.int ?_|refine CLe.bool ?_|refine CLe.str ?_|refine CLe.arr ?_ ?_)|refine q_AgS rfl ?_ ?_|exact CLe.nil_tipS|exact CLe.nil_rowS|refine HLe.cells ?_ ?_|refine HLe.els ?_ ?_|refine SLe.cons ?_ ?_|with_reducible rfl|omega)
  all_goals simp
 intro i hi
 have hz := bA_size (headBytes L ++ (L.sts.take i).flatMap nameBytes)
 have hz1 := z1 i
 rw [List.length_append, z0] at hz
 have hS : i < L.sts.length → OkV Try.prog 28 [vS (L.sts.getD (i : Int).toNat ⟨#[]⟩)] [] (vS (bA (nameBytes (L.sts.getD (i : Int).toNat ⟨#[]⟩)))) [] ∧ (bA (nameBytes (L.sts.getD (i : Int).toNat ⟨#[]⟩))).size ≤ 13 := fun h => by
  have hm := v1 _ (getD_mem L.sts i ⟨#[]⟩ h)
  have := nameB_size hm
  exact ⟨short_ok _ (by omega), by rw [bA_size]; exact nameBytes_len hm⟩
 by_cases hlt : i < L.sts.length
 ·obtain ⟨hS1, hS2⟩ := hS hlt
  repeat' (first
   |with_reducible (first|refine WR_pp ?_|refine WR_pd ?_|refine W_seq ?_|refine seqK_n ?_|refine seqK_r ?_|refine seqK_e ?_|refine W_block ?_|refine blockK_n ?_|refine blockK_r ?_|refine LoopK_e ?_|refine LoopK_r ?_|refine LoopX_r ?_|refine W_skip ?_|refine W_exit ?_|refine W_ret ?_|refine W_region (WOps_WR ?_)|refine W_draw (WOpsD_WR ?_)|refine WR_nil ?_|refine q_and ?_ ?_|exact True.intro|assumption|refine blockK_e rfl ?_|refine blockK_o (by decide) ?_|refine LoopX_e (by decide) ?_)
   |((with_reducible apply q_call);refine X_pure (hS1) rfl ?_)
   |((with_reducible apply q_WR);first|refine X_run rfl ?_ ?_|refine WR_nilD (by kernel_rfl) ?_)
   |((with_reducible apply q_cond);refine X_cond rfl ?_ ?_;all_goals (intro hbq;(try simp only [bq] at hbq);(try (exfalso;omega))))
   |((with_reducible apply q_ret);refine X_ret tabOk trivial rfl rfl ?_ ?_)
   |((with_reducible apply q_retP);refine X_retP tabOk trivial rfl rfl ?_ ?_)
   |(intro (hgq : (_ : Bool) = true);(try simp only [bq] at hgq))
   |(intro (hgq : (_ : Bool) = false);(try simp only [bq] at hgq))
   |((with_reducible apply q_VOk);exact fun _ => ⟨rfl,rfl⟩)
   |(intro _;exact rfl)
   |((with_reducible apply q_bt);simp only [bq])
   |((with_reducible apply q_eqN);rfl)
   |with_reducible exact isByte_wrap _
   |with_reducible exact isByte_nat _
   |(simp only [hgq,bq];done)
   |omega)
  rw [bA_app, List.append_assoc, ← flat_next nameBytes L.sts i _ hlt]
  refine LoopK_n (i + 1) ?_ ?_ ?_
  rotate_left
  ·(try dsimp only); omega
  ·(try dsimp only); omega
  refine X_weak rfl rfl rfl ?_ ?_ <;> repeat' (first|with_reducible (first|exact q_AgS0|exact HLe.nil _|refine HLe.none ?_|refine HLe.cells ?_ ?_|refine HLe.els ?_ ?_|exact SLe.nil|refine SLe.cons ?_ ?_|exact ELe.refl _|refine ELe.c rfl ?_|exact CLe.refl _|exact CLe.nil_row|exact CLe.nil_rowS|exact CLe.nil_tip|exact CLe.nil_tipS|exact CLe.int (by omega)|refine CLe.tip ?_ ?_|refine CLe.tip_row ?_ ?_|refine CLe.row ?_ ?_|refine CLe.tipr_row ?_|refine CLe.rows ?_|refine CLe.tips ?_|refine CLe.int ?_|refine CLe.bool ?_|refine CLe.str ?_|refine CLe.arr ?_ ?_)|refine q_AgS rfl ?_ ?_|exact CLe.nil_tipS|exact CLe.nil_rowS|refine HLe.cells ?_ ?_|refine HLe.els ?_ ?_|refine SLe.cons ?_ ?_|with_reducible rfl|omega)
 have hie : i = L.sts.length := by omega
 subst hie
 rw [List.take_length] at hz hz1 ⊢
 repeat' (first
  |with_reducible (first|refine WR_pp ?_|refine WR_pd ?_|refine W_seq ?_|refine seqK_n ?_|refine seqK_r ?_|refine seqK_e ?_|refine W_block ?_|refine blockK_n ?_|refine blockK_r ?_|refine LoopK_e ?_|refine LoopK_r ?_|refine LoopX_r ?_|refine W_skip ?_|refine W_exit ?_|refine W_ret ?_|refine W_region (WOps_WR ?_)|refine W_draw (WOpsD_WR ?_)|refine WR_nil ?_|refine q_and ?_ ?_|exact True.intro|assumption|refine blockK_e rfl ?_|refine blockK_o (by decide) ?_|refine LoopX_e (by decide) ?_)
  |((with_reducible apply q_WR);first|refine X_run rfl ?_ ?_|refine WR_nilD (by kernel_rfl) ?_)
  |((with_reducible apply q_cond);refine X_cond rfl ?_ ?_;all_goals (intro hbq;(try simp only [bq] at hbq);(try (exfalso;omega))))
  |((with_reducible apply q_ret);refine X_ret tabOk trivial rfl rfl ?_ ?_)
  |((with_reducible apply q_retP);refine X_retP tabOk trivial rfl rfl ?_ ?_)
  |(intro (hgq : (_ : Bool) = true);(try simp only [bq] at hgq))
  |(intro (hgq : (_ : Bool) = false);(try simp only [bq] at hgq))
  |((with_reducible apply q_VOk);exact fun _ => ⟨rfl,rfl⟩)
  |(intro _;exact rfl)
  |((with_reducible apply q_bt);simp only [bq])
  |((with_reducible apply q_eqN);rfl)
  |with_reducible exact isByte_wrap _
  |with_reducible exact isByte_nat _
  |(simp only [hgq,bq];done)
  |omega)
 clear hS hbq hlt hi
 have w1 : (headBytes L ++ L.sts.flatMap nameBytes).length ≤ 320 := by rw [List.length_append, z0]; omega
 generalize hB1 : headBytes L ++ L.sts.flatMap nameBytes = B1 at w1 ⊢
 clear hz hz1
 refine W_loopS (fun i : Nat => SS [sC 1 (pB 0), sS 4 (bA (B1 ++ (L.pts.take i).flatMap nameBytes)), sI 6 i] [some (bxL L)]) (fun i => i ≤ L.pts.length) (fun i => L.pts.length - i) 0 ?_ (by omega) ?_
 ·
  refine X_weak rfl rfl rfl ?_ ?_ <;> repeat' (first|with_reducible (first|exact q_AgS0|exact HLe.nil _|refine HLe.none ?_|refine HLe.cells ?_ ?_|refine HLe.els ?_ ?_|exact SLe.nil|refine SLe.cons ?_ ?_|exact ELe.refl _|refine ELe.c rfl ?_|exact CLe.refl _|exact CLe.nil_row|exact CLe.nil_rowS|exact CLe.nil_tip|exact CLe.nil_tipS|exact CLe.int (by omega)|refine CLe.tip ?_ ?_|refine CLe.tip_row ?_ ?_|refine CLe.row ?_ ?_|refine CLe.tipr_row ?_|refine CLe.rows ?_|refine CLe.tips ?_|refine CLe.int ?_|refine CLe.bool ?_|refine CLe.str ?_|refine CLe.arr ?_ ?_)|refine q_AgS rfl ?_ ?_|exact CLe.nil_tipS|exact CLe.nil_rowS|refine HLe.cells ?_ ?_|refine HLe.els ?_ ?_|refine SLe.cons ?_ ?_|with_reducible rfl|omega)
  all_goals simp
 intro i hi
 have hz := bA_size (B1 ++ (L.pts.take i).flatMap nameBytes)
 have hz1 := z2 i
 rw [List.length_append] at hz
 by_cases hlt : i < L.pts.length
 ·have hm := v2 _ (getD_mem L.pts i ⟨#[]⟩ hlt)
  have hm2 := nameB_size hm
  have hS1 := short_ok (L.pts.getD (i : Int).toNat ⟨#[]⟩) (by omega)
  have hS2 : (bA (nameBytes (L.pts.getD (i : Int).toNat ⟨#[]⟩))).size ≤ 13 := by rw [bA_size]; exact nameBytes_len hm
  repeat' (first
   |with_reducible (first|refine WR_pp ?_|refine WR_pd ?_|refine W_seq ?_|refine seqK_n ?_|refine seqK_r ?_|refine seqK_e ?_|refine W_block ?_|refine blockK_n ?_|refine blockK_r ?_|refine LoopK_e ?_|refine LoopK_r ?_|refine LoopX_r ?_|refine W_skip ?_|refine W_exit ?_|refine W_ret ?_|refine W_region (WOps_WR ?_)|refine W_draw (WOpsD_WR ?_)|refine WR_nil ?_|refine q_and ?_ ?_|exact True.intro|assumption|refine blockK_e rfl ?_|refine blockK_o (by decide) ?_|refine LoopX_e (by decide) ?_)
   |((with_reducible apply q_call);refine X_pure (hS1) rfl ?_)
   |((with_reducible apply q_WR);first|refine X_run rfl ?_ ?_|refine WR_nilD (by kernel_rfl) ?_)
   |((with_reducible apply q_cond);refine X_cond rfl ?_ ?_;all_goals (intro hbq;(try simp only [bq] at hbq);(try (exfalso;omega))))
   |((with_reducible apply q_ret);refine X_ret tabOk trivial rfl rfl ?_ ?_)
   |((with_reducible apply q_retP);refine X_retP tabOk trivial rfl rfl ?_ ?_)
   |(intro (hgq : (_ : Bool) = true);(try simp only [bq] at hgq))
   |(intro (hgq : (_ : Bool) = false);(try simp only [bq] at hgq))
   |((with_reducible apply q_VOk);exact fun _ => ⟨rfl,rfl⟩)
   |(intro _;exact rfl)
   |((with_reducible apply q_bt);simp only [bq])
   |((with_reducible apply q_eqN);rfl)
   |with_reducible exact isByte_wrap _
   |with_reducible exact isByte_nat _
   |(simp only [hgq,bq];done)
   |omega)
  rw [bA_app, List.append_assoc, ← flat_next nameBytes L.pts i _ hlt]
  refine LoopK_n (i + 1) ?_ ?_ ?_
  rotate_left
  ·(try dsimp only); omega
  ·(try dsimp only); omega
  refine X_weak rfl rfl rfl ?_ ?_ <;> repeat' (first|with_reducible (first|exact q_AgS0|exact HLe.nil _|refine HLe.none ?_|refine HLe.cells ?_ ?_|refine HLe.els ?_ ?_|exact SLe.nil|refine SLe.cons ?_ ?_|exact ELe.refl _|refine ELe.c rfl ?_|exact CLe.refl _|exact CLe.nil_row|exact CLe.nil_rowS|exact CLe.nil_tip|exact CLe.nil_tipS|exact CLe.int (by omega)|refine CLe.tip ?_ ?_|refine CLe.tip_row ?_ ?_|refine CLe.row ?_ ?_|refine CLe.tipr_row ?_|refine CLe.rows ?_|refine CLe.tips ?_|refine CLe.int ?_|refine CLe.bool ?_|refine CLe.str ?_|refine CLe.arr ?_ ?_)|refine q_AgS rfl ?_ ?_|exact CLe.nil_tipS|exact CLe.nil_rowS|refine HLe.cells ?_ ?_|refine HLe.els ?_ ?_|refine SLe.cons ?_ ?_|with_reducible rfl|omega)
 have hie : i = L.pts.length := by omega
 subst hie
 rw [List.take_length] at hz hz1 ⊢
 repeat' (first
  |with_reducible (first|refine WR_pp ?_|refine WR_pd ?_|refine W_seq ?_|refine seqK_n ?_|refine seqK_r ?_|refine seqK_e ?_|refine W_block ?_|refine blockK_n ?_|refine blockK_r ?_|refine LoopK_e ?_|refine LoopK_r ?_|refine LoopX_r ?_|refine W_skip ?_|refine W_exit ?_|refine W_ret ?_|refine W_region (WOps_WR ?_)|refine W_draw (WOpsD_WR ?_)|refine WR_nil ?_|refine q_and ?_ ?_|exact True.intro|assumption|refine blockK_e rfl ?_|refine blockK_o (by decide) ?_|refine LoopX_e (by decide) ?_)
  |((with_reducible apply q_WR);first|refine X_run rfl ?_ ?_|refine WR_nilD (by kernel_rfl) ?_)
  |((with_reducible apply q_cond);refine X_cond rfl ?_ ?_;all_goals (intro hbq;(try simp only [bq] at hbq);(try (exfalso;omega))))
  |((with_reducible apply q_ret);refine X_ret tabOk trivial rfl rfl ?_ ?_)
  |((with_reducible apply q_retP);refine X_retP tabOk trivial rfl rfl ?_ ?_)
  |(intro (hgq : (_ : Bool) = true);(try simp only [bq] at hgq))
  |(intro (hgq : (_ : Bool) = false);(try simp only [bq] at hgq))
  |((with_reducible apply q_VOk);exact fun _ => ⟨rfl,rfl⟩)
  |(intro _;exact rfl)
  |((with_reducible apply q_bt);simp only [bq])
  |((with_reducible apply q_eqN);rfl)
  |with_reducible exact isByte_wrap _
  |with_reducible exact isByte_nat _
  |(simp only [hgq,bq];done)
  |omega)
 clear hbq hlt hi
 have w2 : (B1 ++ L.pts.flatMap nameBytes).length ≤ 1000 := by rw [List.length_append]; omega
 generalize hB2 : B1 ++ L.pts.flatMap nameBytes = B2 at w2 ⊢
 clear hz hz1
 refine W_loopS (fun i : Nat => SS [sC 1 (pB 0), sS 4 (bA (B2 ++ (L.secs.take i).flatMap secBytes)), sI 7 i] [some (bxL L)]) (fun i => i ≤ L.secs.length) (fun i => L.secs.length - i) 0 ?_ (by omega) ?_
 ·
  refine X_weak rfl rfl rfl ?_ ?_ <;> repeat' (first|with_reducible (first|exact q_AgS0|exact HLe.nil _|refine HLe.none ?_|refine HLe.cells ?_ ?_|refine HLe.els ?_ ?_|exact SLe.nil|refine SLe.cons ?_ ?_|exact ELe.refl _|refine ELe.c rfl ?_|exact CLe.refl _|exact CLe.nil_row|exact CLe.nil_rowS|exact CLe.nil_tip|exact CLe.nil_tipS|exact CLe.int (by omega)|refine CLe.tip ?_ ?_|refine CLe.tip_row ?_ ?_|refine CLe.row ?_ ?_|refine CLe.tipr_row ?_|refine CLe.rows ?_|refine CLe.tips ?_|refine CLe.int ?_|refine CLe.bool ?_|refine CLe.str ?_|refine CLe.arr ?_ ?_)|refine q_AgS rfl ?_ ?_|exact CLe.nil_tipS|exact CLe.nil_rowS|refine HLe.cells ?_ ?_|refine HLe.els ?_ ?_|refine SLe.cons ?_ ?_|with_reducible rfl|omega)
  all_goals simp
 intro i hi
 have hz := bA_size (B2 ++ (L.secs.take i).flatMap secBytes)
 have hz1 := z3 i
 rw [List.length_append] at hz
 by_cases hlt : i < L.secs.length
 ·obtain ⟨hm, hm1⟩ := v3 _ (getD_mem L.secs i sec0 hlt)
  have hnx := flat_next secBytes L.secs i sec0 hlt
  have hm2 := nameB_size hm
  obtain ⟨q1, q2, q3, q4, q5, q6, q7, q8⟩ := secB_of hm1
  have hS1 := short_ok (L.secs.getD (i : Int).toNat sec0).nm (by omega)
  have hS2 : (bA (nameBytes (L.secs.getD (i : Int).toNat sec0).nm)).size ≤ 13 := by rw [bA_size]; exact nameBytes_len hm
  have hL1 := little_ok (L.secs.getD (i : Int).toNat sec0).len.toNat 2 (by omega) (by omega)
  have hL2 := little_ok (L.secs.getD (i : Int).toNat sec0).lim.toNat 3 (by omega) (by omega)
  rw [← u64_nat (L.secs.getD (i : Int).toNat sec0).len (by omega) (by omega)] at hL1
  rw [← u64_nat (L.secs.getD (i : Int).toNat sec0).lim (by omega) (by omega)] at hL2
  have t1 := bA_size (lows (L.secs.getD (i : Int).toNat sec0).len.toNat 2)
  have t2 := bA_size (lows (L.secs.getD (i : Int).toNat sec0).lim.toNat 3)
  rw [lows_len] at t1 t2
  repeat' (first
   |with_reducible (first|refine WR_pp ?_|refine WR_pd ?_|refine W_seq ?_|refine seqK_n ?_|refine seqK_r ?_|refine seqK_e ?_|refine W_block ?_|refine blockK_n ?_|refine blockK_r ?_|refine LoopK_e ?_|refine LoopK_r ?_|refine LoopX_r ?_|refine W_skip ?_|refine W_exit ?_|refine W_ret ?_|refine W_region (WOps_WR ?_)|refine W_draw (WOpsD_WR ?_)|refine WR_nil ?_|refine q_and ?_ ?_|exact True.intro|assumption|refine blockK_e rfl ?_|refine blockK_o (by decide) ?_|refine LoopX_e (by decide) ?_)
   |((with_reducible apply q_call);first|refine X_pure (hS1) rfl ?_|refine X_pure (hL1) rfl ?_|refine X_pure (hL2) rfl ?_)
   |((with_reducible apply q_WR);first|refine X_run rfl ?_ ?_|refine WR_nilD (by kernel_rfl) ?_)
   |((with_reducible apply q_cond);refine X_cond rfl ?_ ?_;all_goals (intro hbq;(try simp only [bq] at hbq);(try (exfalso;omega))))
   |((with_reducible apply q_ret);refine X_ret tabOk trivial rfl rfl ?_ ?_)
   |((with_reducible apply q_retP);refine X_retP tabOk trivial rfl rfl ?_ ?_)
   |(intro (hgq : (_ : Bool) = true);(try simp only [bq] at hgq))
   |(intro (hgq : (_ : Bool) = false);(try simp only [bq] at hgq))
   |((with_reducible apply q_VOk);exact fun _ => ⟨rfl,rfl⟩)
   |(intro _;exact rfl)
   |((with_reducible apply q_bt);simp only [bq])
   |((with_reducible apply q_eqN);rfl)
   |with_reducible exact isByte_wrap _
   |with_reducible exact isByte_nat _
   |(simp only [hgq,bq];done)
   |omega)
  any_goals (simp only [ByteArray.size_append, sz2]; omega)
  have e2 : (⟨#[UInt8.ofNat (IntKind.u8.wrap ((L.secs.getD (i : Int).toNat sec0).grd + 40)).toNat, UInt8.ofNat (IntKind.u8.wrap ((L.secs.getD (i : Int).toNat sec0).stn + 1)).toNat]⟩ : ByteArray) = bA (lows ((L.secs.getD (i : Int).toNat sec0).grd + 40).toNat 1 ++ lows ((L.secs.getD (i : Int).toNat sec0).stn + 1).toNat 1) := by
   rw [u8_low _ ((L.secs.getD (i : Int).toNat sec0).grd + 40).toNat (by omega), u8_low _ ((L.secs.getD (i : Int).toNat sec0).stn + 1).toNat (by omega)]
   rfl
  have e3 : bA (nameBytes (L.secs.getD (i : Int).toNat sec0).nm) ++ bA (lows (L.secs.getD (i : Int).toNat sec0).len.toNat 2) ++ bA (lows (L.secs.getD (i : Int).toNat sec0).lim.toNat 3) ++ (⟨#[UInt8.ofNat (IntKind.u8.wrap ((L.secs.getD (i : Int).toNat sec0).grd + 40)).toNat, UInt8.ofNat (IntKind.u8.wrap ((L.secs.getD (i : Int).toNat sec0).stn + 1)).toNat]⟩ : ByteArray) = bA (secBytes (L.secs.getD (i : Int).toNat sec0)) := by
   rw [e2, bA_app, bA_app, bA_app, ← List.append_assoc]
   rfl
  rw [e3, bA_app, List.append_assoc, ← hnx]
  clear e2 e3
  refine LoopK_n (i + 1) ?_ ?_ ?_
  rotate_left
  ·(try dsimp only); omega
  ·(try dsimp only); omega
  refine X_weak rfl rfl rfl ?_ ?_ <;> repeat' (first|with_reducible (first|exact q_AgS0|exact HLe.nil _|refine HLe.none ?_|refine HLe.cells ?_ ?_|refine HLe.els ?_ ?_|exact SLe.nil|refine SLe.cons ?_ ?_|exact ELe.refl _|refine ELe.c rfl ?_|exact CLe.refl _|exact CLe.nil_row|exact CLe.nil_rowS|exact CLe.nil_tip|exact CLe.nil_tipS|exact CLe.int (by omega)|refine CLe.tip ?_ ?_|refine CLe.tip_row ?_ ?_|refine CLe.row ?_ ?_|refine CLe.tipr_row ?_|refine CLe.rows ?_|refine CLe.tips ?_|refine CLe.int ?_|refine CLe.bool ?_|refine CLe.str ?_|refine CLe.arr ?_ ?_)|refine q_AgS rfl ?_ ?_|exact CLe.nil_tipS|exact CLe.nil_rowS|refine HLe.cells ?_ ?_|refine HLe.els ?_ ?_|refine SLe.cons ?_ ?_|with_reducible rfl|omega)
 have hie : i = L.secs.length := by omega
 subst hie
 rw [List.take_length] at hz hz1 ⊢
 repeat' (first
  |with_reducible (first|refine WR_pp ?_|refine WR_pd ?_|refine W_seq ?_|refine seqK_n ?_|refine seqK_r ?_|refine seqK_e ?_|refine W_block ?_|refine blockK_n ?_|refine blockK_r ?_|refine LoopK_e ?_|refine LoopK_r ?_|refine LoopX_r ?_|refine W_skip ?_|refine W_exit ?_|refine W_ret ?_|refine W_region (WOps_WR ?_)|refine W_draw (WOpsD_WR ?_)|refine WR_nil ?_|refine q_and ?_ ?_|exact True.intro|assumption|refine blockK_e rfl ?_|refine blockK_o (by decide) ?_|refine LoopX_e (by decide) ?_)
  |((with_reducible apply q_WR);first|refine X_run rfl ?_ ?_|refine WR_nilD (by kernel_rfl) ?_)
  |((with_reducible apply q_cond);refine X_cond rfl ?_ ?_;all_goals (intro hbq;(try simp only [bq] at hbq);(try (exfalso;omega))))
  |((with_reducible apply q_ret);refine X_ret tabOk trivial rfl rfl ?_ ?_)
  |((with_reducible apply q_retP);refine X_retP tabOk trivial rfl rfl ?_ ?_)
  |(intro (hgq : (_ : Bool) = true);(try simp only [bq] at hgq))
  |(intro (hgq : (_ : Bool) = false);(try simp only [bq] at hgq))
  |((with_reducible apply q_VOk);exact fun _ => ⟨rfl,rfl⟩)
  |(intro _;exact rfl)
  |((with_reducible apply q_bt);simp only [bq])
  |((with_reducible apply q_eqN);rfl)
  |with_reducible exact isByte_wrap _
  |with_reducible exact isByte_nat _
  |(simp only [hgq,bq];done)
  |omega)
 clear hbq hlt hi
 have w3 : (B2 ++ L.secs.flatMap secBytes).length ≤ 3000 := by rw [List.length_append]; omega
 generalize hB3 : B2 ++ L.secs.flatMap secBytes = B3 at w3 ⊢
 clear hz hz1
 refine W_loopS (fun i : Nat => SS [sC 1 (pB 0), sS 4 (bA (B3 ++ (L.lnks.take i).flatMap lnkBytes)), sI 9 i] [some (bxL L)]) (fun i => i ≤ L.lnks.length) (fun i => L.lnks.length - i) 0 ?_ (by omega) ?_
 ·
  refine X_weak rfl rfl rfl ?_ ?_ <;> repeat' (first|with_reducible (first|exact q_AgS0|exact HLe.nil _|refine HLe.none ?_|refine HLe.cells ?_ ?_|refine HLe.els ?_ ?_|exact SLe.nil|refine SLe.cons ?_ ?_|exact ELe.refl _|refine ELe.c rfl ?_|exact CLe.refl _|exact CLe.nil_row|exact CLe.nil_rowS|exact CLe.nil_tip|exact CLe.nil_tipS|exact CLe.int (by omega)|refine CLe.tip ?_ ?_|refine CLe.tip_row ?_ ?_|refine CLe.row ?_ ?_|refine CLe.tipr_row ?_|refine CLe.rows ?_|refine CLe.tips ?_|refine CLe.int ?_|refine CLe.bool ?_|refine CLe.str ?_|refine CLe.arr ?_ ?_)|refine q_AgS rfl ?_ ?_|exact CLe.nil_tipS|exact CLe.nil_rowS|refine HLe.cells ?_ ?_|refine HLe.els ?_ ?_|refine SLe.cons ?_ ?_|with_reducible rfl|omega)
  all_goals simp
 intro i hi
 have hz := bA_size (B3 ++ (L.lnks.take i).flatMap lnkBytes)
 have hz1 := z4 i
 rw [List.length_append] at hz
 by_cases hlt : i < L.lnks.length
 ·obtain ⟨l1, l2, l3, l4, l5, l6, l7, l8, l9, l10, l11, l12, l13⟩ := linkB_of (v4 _ (getD_mem L.lnks i lnk0 hlt))
  have hnx := flat_next lnkBytes L.lnks i lnk0 hlt
  repeat' (first
   |with_reducible (first|refine WR_pp ?_|refine WR_pd ?_|refine W_seq ?_|refine seqK_n ?_|refine seqK_r ?_|refine seqK_e ?_|refine W_block ?_|refine blockK_n ?_|refine blockK_r ?_|refine LoopK_e ?_|refine LoopK_r ?_|refine LoopX_r ?_|refine W_skip ?_|refine W_exit ?_|refine W_ret ?_|refine W_region (WOps_WR ?_)|refine W_draw (WOpsD_WR ?_)|refine WR_nil ?_|refine q_and ?_ ?_|exact True.intro|assumption|refine blockK_e rfl ?_|refine blockK_o (by decide) ?_|refine LoopX_e (by decide) ?_)
   |((with_reducible apply q_WR);first|refine X_run rfl ?_ ?_|refine WR_nilD (by kernel_rfl) ?_)
   |((with_reducible apply q_cond);refine X_cond rfl ?_ ?_;all_goals (intro hbq;(try simp only [bq] at hbq);(try (exfalso;omega))))
   |((with_reducible apply q_ret);refine X_ret tabOk trivial rfl rfl ?_ ?_)
   |((with_reducible apply q_retP);refine X_retP tabOk trivial rfl rfl ?_ ?_)
   |(intro (hgq : (_ : Bool) = true);(try simp only [bq] at hgq))
   |(intro (hgq : (_ : Bool) = false);(try simp only [bq] at hgq))
   |((with_reducible apply q_VOk);exact fun _ => ⟨rfl,rfl⟩)
   |(intro _;exact rfl)
   |((with_reducible apply q_bt);simp only [bq])
   |((with_reducible apply q_eqN);rfl)
   |with_reducible exact isByte_wrap _
   |with_reducible exact isByte_nat _
   |(simp only [hgq,bq];done)
   |omega)
  any_goals (simp only [ByteArray.size_append, sz4]; omega)
  have e3 : (⟨#[UInt8.ofNat (IntKind.u8.wrap (2 * (L.lnks.getD (i : Int).toNat lnk0).a + (L.lnks.getD (i : Int).toNat lnk0).ae)).toNat, UInt8.ofNat (IntKind.u8.wrap (2 * (L.lnks.getD (i : Int).toNat lnk0).b + (L.lnks.getD (i : Int).toNat lnk0).be)).toNat, UInt8.ofNat (IntKind.u8.wrap ((L.lnks.getD (i : Int).toNat lnk0).pt + 1)).toNat, UInt8.ofNat (IntKind.u8.wrap (L.lnks.getD (i : Int).toNat lnk0).ps).toNat]⟩ : ByteArray) = bA (lnkBytes (L.lnks.getD (i : Int).toNat lnk0)) := by
   rw [u8_low _ ((L.lnks.getD (i : Int).toNat lnk0).a * 2 + (L.lnks.getD (i : Int).toNat lnk0).ae).toNat (by omega), u8_low _ ((L.lnks.getD (i : Int).toNat lnk0).b * 2 + (L.lnks.getD (i : Int).toNat lnk0).be).toNat (by omega), u8_low _ ((L.lnks.getD (i : Int).toNat lnk0).pt + 1).toNat (by omega), u8_low _ (L.lnks.getD (i : Int).toNat lnk0).ps.toNat (by omega)]
   rfl
  rw [e3, bA_app, List.append_assoc, ← hnx]
  clear e3
  refine LoopK_n (i + 1) ?_ ?_ ?_
  rotate_left
  ·(try dsimp only); omega
  ·(try dsimp only); omega
  refine X_weak rfl rfl rfl ?_ ?_ <;> repeat' (first|with_reducible (first|exact q_AgS0|exact HLe.nil _|refine HLe.none ?_|refine HLe.cells ?_ ?_|refine HLe.els ?_ ?_|exact SLe.nil|refine SLe.cons ?_ ?_|exact ELe.refl _|refine ELe.c rfl ?_|exact CLe.refl _|exact CLe.nil_row|exact CLe.nil_rowS|exact CLe.nil_tip|exact CLe.nil_tipS|exact CLe.int (by omega)|refine CLe.tip ?_ ?_|refine CLe.tip_row ?_ ?_|refine CLe.row ?_ ?_|refine CLe.tipr_row ?_|refine CLe.rows ?_|refine CLe.tips ?_|refine CLe.int ?_|refine CLe.bool ?_|refine CLe.str ?_|refine CLe.arr ?_ ?_)|refine q_AgS rfl ?_ ?_|exact CLe.nil_tipS|exact CLe.nil_rowS|refine HLe.cells ?_ ?_|refine HLe.els ?_ ?_|refine SLe.cons ?_ ?_|with_reducible rfl|omega)
 have hie : i = L.lnks.length := by omega
 subst hie
 rw [List.take_length] at hz hz1 ⊢
 have w4 : (B3 ++ L.lnks.flatMap lnkBytes).length ≤ 4000 := by rw [List.length_append]; omega
 have hb4 : B3 ++ L.lnks.flatMap lnkBytes = bodyL L := by rw [← hB3, ← hB2, ← hB1]; rfl
 rw [hb4] at w4 hz ⊢
 have hz4 := bA_size (bodyL L)
 have hcr := refCrc_okV (bA (bodyL L)) (by omega)
 have hlt4 := Pl.crc_lt (bA (bodyL L)).data.toList
 have hli := little_ok (Pl.crc (bA (bodyL L)).data.toList) 4 (by omega) (by omega)
 rw [← u64_nat' (Pl.crc (bA (bodyL L)).data.toList) (by omega)] at hli
 have hsz := bA_size (lows (Pl.crc (bA (bodyL L)).data.toList) 4)
 rw [lows_len] at hsz
 repeat' (first
  |with_reducible (first|refine WR_pp ?_|refine WR_pd ?_|refine W_seq ?_|refine seqK_n ?_|refine seqK_r ?_|refine seqK_e ?_|refine W_block ?_|refine blockK_n ?_|refine blockK_r ?_|refine LoopK_e ?_|refine LoopK_r ?_|refine LoopX_r ?_|refine W_skip ?_|refine W_exit ?_|refine W_ret ?_|refine W_region (WOps_WR ?_)|refine W_draw (WOpsD_WR ?_)|refine WR_nil ?_|refine q_and ?_ ?_|exact True.intro|assumption|refine blockK_e rfl ?_|refine blockK_o (by decide) ?_|refine LoopX_e (by decide) ?_)
  |((with_reducible apply q_call);first|refine X_pure (hcr) rfl ?_|refine X_pure (hli) rfl ?_)
  |((with_reducible apply q_WR);first|refine X_run rfl ?_ ?_|refine WR_nilD (by kernel_rfl) ?_)
  |((with_reducible apply q_cond);refine X_cond rfl ?_ ?_;all_goals (intro hbq;(try simp only [bq] at hbq);(try (exfalso;omega))))
  |((with_reducible apply q_ret);refine X_ret tabOk trivial rfl rfl ?_ ?_)
  |((with_reducible apply q_retP);refine X_retP tabOk trivial rfl rfl ?_ ?_)
  |(intro (hgq : (_ : Bool) = true);(try simp only [bq] at hgq))
  |(intro (hgq : (_ : Bool) = false);(try simp only [bq] at hgq))
  |((with_reducible apply q_VOk);exact fun _ => ⟨rfl,rfl⟩)
  |(intro _;exact rfl)
  |((with_reducible apply q_bt);simp only [bq])
  |((with_reducible apply q_eqN);rfl)
  |with_reducible exact isByte_wrap _
  |with_reducible exact isByte_nat _
  |(simp only [hgq,bq];done)
  |omega)
 rw [bA_app]
 rfl
def iter {σ : Type} (f : Nat → σ → σ) (x : σ) : Nat → σ
 | 0 => x
 | i + 1 => f i (iter f x i)
def Bld.addSt (b : Bld) (nm : ByteArray) : Bld := { b with L := { b.L with sts := b.L.sts ++ [nm] } }
def Bld.addTr (b : Bld) (t : List Int) : Bld := { b with tracks := b.tracks ++ [t] }
def Bld.addBt (b : Bld) (t : List Int) : Bld := { b with between := b.between ++ [t] }
def Bld.zero : Bld := ⟨⟨[], [], [], []⟩, [], []⟩
structure Bld.le (b : Bld) (m : Nat) : Prop where
 s1 : b.L.sts.length ≤ m
 s2 : b.L.pts.length ≤ m
 s3 : b.L.secs.length ≤ m
 s4 : b.L.lnks.length ≤ m
 s5 : b.tracks.length ≤ m
 s6 : b.between.length ≤ m
theorem Bld.le.small {b : Bld} {m : Nat} (h : b.le m) (hm : m ≤ 900) : b.small := ⟨by have := h.s1; omega, by have := h.s2; omega, by have := h.s3; omega, by have := h.s4; omega⟩
theorem Bld.le.mono {b : Bld} {m k : Nat} (h : b.le m) (hm : m ≤ k) : b.le k := ⟨Nat.le_trans h.s1 hm, Nat.le_trans h.s2 hm, Nat.le_trans h.s3 hm, Nat.le_trans h.s4 hm, Nat.le_trans h.s5 hm, Nat.le_trans h.s6 hm⟩
abbrev TBS := List Int × Bld × Src
def secT (i k : Nat) (s : Src) : Sec := { s.sec (nameN (nameN ⟨#[84]⟩ i) k) i with len := (s.sec (nameN (nameN ⟨#[84]⟩ i) k) i).len + 2 }
def tStep (i k : Nat) (x : TBS) : TBS := (x.1 ++ [(x.2.1.L.secs.length : Int)], x.2.1.add (secT i k x.2.2), x.2.2.af.af.af)
def tLoop (i : Nat) : Nat → TBS → TBS
 | 0, x => x
 | k + 1, x => tLoop i k (tStep i (k + 1) x)
def oStep (i : Nat) (x : Bld × Src) : Bld × Src :=
 let y := tLoop i (1 + x.2.nx 2) ([], x.1.addSt (nameN ⟨#[83]⟩ i), x.2.af)
 (y.2.1.addTr y.1, y.2.2)
theorem add_le {b : Bld} {m : Nat} (h : b.le m) (x : Sec) : (b.add x).le (m + 1) := ⟨Nat.le_succ_of_le h.s1, Nat.le_succ_of_le h.s2, by have := h.s3; simp only [Bld.add, List.length_append, List.length_singleton]; omega, Nat.le_succ_of_le h.s4, Nat.le_succ_of_le h.s5, Nat.le_succ_of_le h.s6⟩
theorem tLoop_le (i : Nat) : ∀ (k : Nat) (x : TBS) (m : Nat), x.2.1.le m → x.2.2.ok → (tLoop i k x).2.1.le (m + k) ∧ (tLoop i k x).2.2.ok ∧ (tLoop i k x).1.length = x.1.length + k
 | 0, x, m, h, hs => ⟨h, hs, rfl⟩
 | k + 1, x, m, h, hs => by
  obtain ⟨h1, h2, h3⟩ := tLoop_le i k (tStep i (k + 1) x) (m + 1) (add_le h _) (Src.af_ok (Src.af_ok (Src.af_ok hs)))
  refine ⟨h1.mono (by omega), h2, ?_⟩
  simp only [tLoop]
  rw [h3]
  simp only [tStep, List.length_append, List.length_singleton]
  omega
theorem oStep_le (i : Nat) (x : Bld × Src) (m : Nat) (h : x.1.le m) (hs : x.2.ok) : (oStep i x).1.le (m + 4) ∧ (oStep i x).2.ok := by
 have hk := x.2.nx_lt (n := 2) (by omega)
 have h0 : (x.1.addSt (nameN ⟨#[83]⟩ i)).le (m + 1) := ⟨by have := h.s1; simp only [Bld.addSt, List.length_append, List.length_singleton]; omega, Nat.le_succ_of_le h.s2, Nat.le_succ_of_le h.s3, Nat.le_succ_of_le h.s4, Nat.le_succ_of_le h.s5, Nat.le_succ_of_le h.s6⟩
 obtain ⟨h1, h2, h3⟩ := tLoop_le i (1 + x.2.nx 2) ([], x.1.addSt (nameN ⟨#[83]⟩ i), x.2.af) (m + 1) h0 (Src.af_ok hs)
 have h1' := h1.mono (show m + 1 + (1 + x.2.nx 2) ≤ m + 3 by omega)
 exact ⟨⟨Nat.le_succ_of_le h1'.s1, Nat.le_succ_of_le h1'.s2, Nat.le_succ_of_le h1'.s3, Nat.le_succ_of_le h1'.s4, by have := h1'.s5; simp only [oStep, Bld.addTr, List.length_append, List.length_singleton]; omega, Nat.le_succ_of_le h1'.s6⟩, h2⟩
theorem iter_le {f : Nat → Bld × Src → Bld × Src} (c : Nat) (hf : ∀ i x m, x.1.le m → x.2.ok → (f i x).1.le (m + c) ∧ (f i x).2.ok) {x : Bld × Src} {m : Nat} (h : x.1.le m) (hs : x.2.ok) : ∀ i, (iter f x i).1.le (m + i * c) ∧ (iter f x i).2.ok
 | 0 => ⟨h.mono (by omega), hs⟩
 | i + 1 => by
  obtain ⟨h1, h2⟩ := iter_le c hf h hs i
  obtain ⟨h3, h4⟩ := hf i _ _ h1 h2
  exact ⟨h3.mono (by rw [Nat.succ_mul]; omega), h4⟩
theorem zero_le' : Bld.zero.le 0 := ⟨Nat.le_refl _, Nat.le_refl _, Nat.le_refl _, Nat.le_refl _, Nat.le_refl _, Nat.le_refl _⟩
def secL (i k : Nat) (s : Src) : Sec := s.sec (nameN (nameN ⟨#[76]⟩ i) k) (-1)
def lStep (i k : Nat) (x : TBS) : TBS := (x.1 ++ [(x.2.1.L.secs.length : Int)], x.2.1.add (secL i k x.2.2), x.2.2.af.af.af)
def lLoop (i : Nat) : Nat → TBS → TBS
 | 0, x => x
 | k + 1, x => lLoop i k (lStep i (k + 1) x)
def cLoop (b : Bld) (t : List Int) : Nat → Bld
 | 0 => b
 | k + 1 => (cLoop b t k).link ⟨t.getD k 0, 1, t.getD (k + 1) 0, 0, -1, 0⟩
def pStep (i : Nat) (x : Bld × Src) : Bld × Src :=
 let y := lLoop i (1 + x.2.nx 2) ([], x.1, x.2.af)
 let c := cLoop y.2.1 y.1 (y.1.length - 1)
 let d := c.fan (y.1.getD 0 0) (c.tracks.getD i []) false
 let e := d.fan (y.1.getD (y.1.length - 1) 0) (d.tracks.getD (i + 1) []) true
 (e.addBt y.1, y.2.2)
def rowB (s : Src) : Bld × Src := iter pStep (iter oStep (Bld.zero, s.af) (2 + s.nx 2)) (1 + s.nx 2)
def TrOk (b : Bld) (m : Nat) : Prop := b.tracks.length = m ∧ ∀ t ∈ b.tracks, 1 ≤ t.length ∧ t.length ≤ 2
theorem tLoop_tr (i : Nat) : ∀ (k : Nat) (x : TBS), (tLoop i k x).2.1.tracks = x.2.1.tracks
 | 0, x => rfl
 | k + 1, x => tLoop_tr i k (tStep i (k + 1) x)
theorem oStep_tr (i : Nat) (x : Bld × Src) (m : Nat) (hl : x.1.le 100) (hs : x.2.ok) (h : TrOk x.1 m) : TrOk (oStep i x).1 (m + 1) := by
 have hk := x.2.nx_lt (n := 2) (by omega)
 have h0 : (x.1.addSt (nameN ⟨#[83]⟩ i)).le 101 := ⟨by have := hl.s1; simp only [Bld.addSt, List.length_append, List.length_singleton]; omega, Nat.le_succ_of_le hl.s2, Nat.le_succ_of_le hl.s3, Nat.le_succ_of_le hl.s4, Nat.le_succ_of_le hl.s5, Nat.le_succ_of_le hl.s6⟩
 obtain ⟨_, _, h3⟩ := tLoop_le i (1 + x.2.nx 2) ([], x.1.addSt (nameN ⟨#[83]⟩ i), x.2.af) 101 h0 (Src.af_ok hs)
 have h4 := tLoop_tr i (1 + x.2.nx 2) ([], x.1.addSt (nameN ⟨#[83]⟩ i), x.2.af)
 simp only [List.length_nil, Nat.zero_add] at h3
 unfold TrOk
 simp only [oStep, Bld.addTr]
 rw [h4]
 refine ⟨by simp only [Bld.addSt, List.length_append, List.length_singleton]; rw [h.1], fun t ht => ?_⟩
 rcases List.mem_append.1 ht with ht | ht
 ·exact h.2 t ht
 ·rw [List.mem_singleton] at ht
  rw [ht, h3]
  omega
theorem oIter_tr {s : Src} (hs : s.ok) : ∀ i, i ≤ 3 → TrOk (iter oStep (Bld.zero, s) i).1 i
 | 0, _ => ⟨rfl, fun t ht => by cases ht⟩
 | i + 1, hi => by
  obtain ⟨h1, h2⟩ := iter_le (x := (Bld.zero, s)) (m := 0) 4 oStep_le zero_le' hs i
  exact oStep_tr i _ i (h1.mono (by omega)) h2 (oIter_tr hs i (by omega))
theorem lLoop_le (i : Nat) : ∀ (k : Nat) (x : TBS) (m : Nat), x.2.1.le m → x.2.2.ok → (lLoop i k x).2.1.le (m + k) ∧ (lLoop i k x).2.2.ok ∧ (lLoop i k x).1.length = x.1.length + k ∧ (lLoop i k x).2.1.tracks = x.2.1.tracks
 | 0, x, m, h, hs => ⟨h, hs, rfl, rfl⟩
 | k + 1, x, m, h, hs => by
  obtain ⟨h1, h2, h3, h4⟩ := lLoop_le i k (lStep i (k + 1) x) (m + 1) (add_le h _) (Src.af_ok (Src.af_ok (Src.af_ok hs)))
  refine ⟨h1.mono (by omega), h2, ?_, h4⟩
  simp only [lLoop]
  rw [h3]
  simp only [lStep, List.length_append, List.length_singleton]
  omega
theorem link_le {b : Bld} {m : Nat} (h : b.le m) (k : Lnk) : (b.link k).le (m + 1) := ⟨Nat.le_succ_of_le h.s1, Nat.le_succ_of_le h.s2, Nat.le_succ_of_le h.s3, by have := h.s4; simp only [Bld.link, List.length_append, List.length_singleton]; omega, Nat.le_succ_of_le h.s5, Nat.le_succ_of_le h.s6⟩
theorem pt_le {b : Bld} {m : Nat} (h : b.le m) : b.pt.le (m + 1) := ⟨Nat.le_succ_of_le h.s1, by have := h.s2; simp only [Bld.pt, List.length_append, List.length_singleton]; omega, Nat.le_succ_of_le h.s3, Nat.le_succ_of_le h.s4, Nat.le_succ_of_le h.s5, Nat.le_succ_of_le h.s6⟩
theorem cLoop_le {b : Bld} {m : Nat} (h : b.le m) (t : List Int) : ∀ k, (cLoop b t k).le (m + k) ∧ (cLoop b t k).tracks = b.tracks
 | 0 => ⟨h, rfl⟩
 | k + 1 => by
  obtain ⟨h1, h2⟩ := cLoop_le h t k
  exact ⟨link_le h1 _, h2⟩
theorem links_le {b : Bld} {m : Nat} (h : b.le m) (x pt : Int) (east : Bool) (ts : List Int) : ∀ k, (b.links x pt east ts k).le (m + k) ∧ (b.links x pt east ts k).tracks = b.tracks
 | 0 => ⟨h, rfl⟩
 | k + 1 => by
  obtain ⟨h1, h2⟩ := links_le h x pt east ts k
  exact ⟨link_le h1 _, h2⟩
theorem fan_le {b : Bld} {m : Nat} (h : b.le m) (x : Int) (ts : List Int) (east : Bool) (ht : ts.length ≤ 2) : (b.fan x ts east).le (m + 3) ∧ (b.fan x ts east).tracks = b.tracks := by
 unfold Bld.fan
 split
 ·obtain ⟨h1, h2⟩ := links_le (pt_le h) x b.L.pts.length east ts ts.length
  exact ⟨h1.mono (by omega), h2⟩
 ·obtain ⟨h1, h2⟩ := links_le h x (-1) east ts ts.length
  exact ⟨h1.mono (by omega), h2⟩
theorem pStep_le (i : Nat) (x : Bld × Src) (m k : Nat) (h : x.1.le m) (hs : x.2.ok) (ht : TrOk x.1 k) : (pStep i x).1.le (m + 10) ∧ (pStep i x).2.ok ∧ TrOk (pStep i x).1 k := by
 have hk := x.2.nx_lt (n := 2) (by omega)
 obtain ⟨h1, h2, h3, h4⟩ := lLoop_le i (1 + x.2.nx 2) ([], x.1, x.2.af) m h (Src.af_ok hs)
 simp only [List.length_nil, Nat.zero_add] at h3 h4
 have hlen : ∀ {b : Bld} (j : Nat), b.tracks = x.1.tracks → (b.tracks.getD j []).length ≤ 2 := fun {b} j e => by
  rw [e, List.getD_eq_getElem?_getD]
  cases hj : x.1.tracks[j]? with
  | none => simp
  | some t => exact (ht.2 t (List.mem_of_getElem? hj)).2
 unfold pStep
 simp only
 generalize lLoop i (1 + x.2.nx 2) ([], x.1, x.2.af) = y at h1 h2 h3 h4
 obtain ⟨c1, c2⟩ := cLoop_le h1 y.1 (y.1.length - 1)
 obtain ⟨d1, d2⟩ := fan_le c1 (y.1.getD 0 0) _ false (hlen (b := cLoop y.2.1 y.1 (y.1.length - 1)) i (c2.trans h4))
 obtain ⟨e1, e2⟩ := fan_le d1 (y.1.getD (y.1.length - 1) 0) _ true (hlen (i + 1) (d2.trans (c2.trans h4)))
 have e3 := e2.trans (d2.trans (c2.trans h4))
 refine ⟨?_, h2, ?_⟩
 ·have e1' := e1.mono (show m + (1 + x.2.nx 2) + (y.1.length - 1) + 3 + 3 ≤ m + 9 by omega)
  exact ⟨Nat.le_succ_of_le e1'.s1, Nat.le_succ_of_le e1'.s2, Nat.le_succ_of_le e1'.s3, Nat.le_succ_of_le e1'.s4, Nat.le_succ_of_le e1'.s5, by have := e1'.s6; simp only [Bld.addBt, List.length_append, List.length_singleton]; omega⟩
 ·unfold TrOk
  simp only [Bld.addBt]
  rw [e3]
  exact ht
theorem pIter_le {x : Bld × Src} {m k : Nat} (h : x.1.le m) (hs : x.2.ok) (ht : TrOk x.1 k) : ∀ i, (iter pStep x i).1.le (m + i * 10) ∧ (iter pStep x i).2.ok ∧ TrOk (iter pStep x i).1 k
 | 0 => ⟨h.mono (by omega), hs, ht⟩
 | i + 1 => by
  obtain ⟨h1, h2, h3⟩ := pIter_le h hs ht i
  obtain ⟨h4, h5, h6⟩ := pStep_le i _ _ k h1 h2 h3
  exact ⟨h4.mono (by rw [Nat.succ_mul]; omega), h5, h6⟩
abbrev slR (n : Nat) : SL := [sC 0 (pB 0), sC 3 (pB 1), sI 4 (2 + n)]
theorem row_ok (s : Src) (hs : s.ok) : OkV Try.prog 25 [.c (pB 0)] [some s.box] (.c (pB 1)) [some (rowB s).2.box, some (rowB s).1.box] := by
 have hk := s.nx_lt (n := 2) (by omega)
 have hN := next_ok s 2 hs (by omega) (by omega)
 unfold rowB
 obtain ⟨n, en⟩ : ∃ n, s.nx 2 = n := ⟨_, rfl⟩
 rw [en] at hN hk ⊢
 refine X_fn mixedX Try.func25 rfl (by kernel_rfl) (Nat.le_of_ble_eq_true (by kernel_rfl)) (by kernel_rfl) rfl rfl (Nat.le_of_ble_eq_true rfl) rfl rfl ?_
 simp only [sl0, Nat.zero_add, Nat.reduceAdd]
 repeat' (first|with_reducible (first|refine WR_pp ?_|refine W_seq ?_|refine seqK_n ?_|refine W_block ?_|refine W_region (WOps_WR ?_)|refine WR_nil ?_|refine q_and ?_ ?_|exact True.intro)|((with_reducible apply q_call);refine X_call [0] (hN) rfl rfl rfl rfl rfl rfl rfl rfl rfl rfl rfl rfl rfl ?_)|((with_reducible apply q_WR);refine X_run rfl ?_ ?_)|omega)
 refine W_loopS (fun i : Nat => SS (sI 5 i :: slR n) [some (iter oStep (Bld.zero, s.af) i).2.box, some (iter oStep (Bld.zero, s.af) i).1.box]) (fun i => i ≤ 2 + n) (fun i => 2 + n - i) 0 ?_ (by omega) ?_
 ·
  refine X_weak rfl rfl rfl ?_ ?_ <;> repeat' (first|with_reducible (first|exact q_AgS0|exact HLe.nil _|exact SLe.nil|refine SLe.cons ?_ ?_|exact ELe.refl _|refine ELe.c rfl ?_|exact CLe.refl _|exact CLe.int (by omega)|refine CLe.rows ?_|refine CLe.int ?_)|refine q_AgS rfl ?_ ?_|exact CLe.nil_tipS|refine HLe.cells ?_ ?_)
  all_goals rfl
 ·intro i hi
  have hin : i ≤ 3 := by omega
  obtain ⟨hle, hso⟩ := iter_le (x := (Bld.zero, s.af)) (m := 0) 4 oStep_le zero_le' (Src.af_ok hs) i
  obtain ⟨X, eX⟩ : ∃ X, iter oStep (Bld.zero, s.af) i = X := ⟨_, rfl⟩
  have eX1 : iter oStep (Bld.zero, s.af) (i + 1) = oStep i X := by rw [← eX]; rfl
  rw [eX] at hle hso
  rw [eX]
  by_cases hlt : i < 2 + n
  ·obtain ⟨b, s1⟩ := X
   dsimp only at hle hso ⊢
   have hk2 := s1.nx_lt (n := 2) (by omega)
   have hS := named_ok ⟨#[83]⟩ i (by decide) (by omega)
   have hN1 := next_ok s1 2 hso (by omega) (by omega)
   have hl1 := hle.s1
   obtain ⟨F, eF⟩ : ∃ F, tLoop i (1 + s1.nx 2) ([], b.addSt (nameN ⟨#[83]⟩ i), s1.af) = F := ⟨_, rfl⟩
   have eO : oStep i (b, s1) = (F.2.1.addTr F.1, F.2.2) := by simp only [oStep, eF]
   rw [eO] at eX1
   have h0 : (b.addSt (nameN ⟨#[83]⟩ i)).le (0 + i * 4 + 1) := ⟨by simp only [Bld.addSt, List.length_append, List.length_singleton]; omega, Nat.le_succ_of_le hle.s2, Nat.le_succ_of_le hle.s3, Nat.le_succ_of_le hle.s4, Nat.le_succ_of_le hle.s5, Nat.le_succ_of_le hle.s6⟩
   repeat' (first|with_reducible (first|refine WR_pp ?_|refine WR_pd ?_|refine W_seq ?_|refine seqK_n ?_|refine W_block ?_|refine W_skip ?_|refine W_region (WOps_WR ?_)|refine W_draw (WOpsD_WR ?_)|refine WR_nil ?_|refine q_and ?_ ?_|exact True.intro)|((with_reducible apply q_call);first|refine X_pure (hS) rfl ?_|refine X_call [0] (hN1) rfl rfl rfl rfl rfl rfl rfl rfl rfl rfl rfl rfl rfl ?_)|((with_reducible apply q_WR);first|refine X_run rfl ?_ ?_|refine WR_nilD (by kernel_rfl) ?_|fail)|((with_reducible apply q_cond);refine X_cond rfl ?_ ?_;all_goals (intro hbq;(try simp only [bq] at hbq);(try (exfalso;omega))))|((with_reducible apply q_eqN);rfl)|omega)
   refine W_loopS (fun g : Nat × TBS => SS (sI 7 g.1 :: sC 6 (tInt g.2.1) :: sI 5 i :: slR n) [some g.2.2.2.box, some g.2.2.1.box]) (fun g => tLoop i g.1 g.2 = F ∧ (∃ m, g.2.2.1.le m ∧ m + g.1 ≤ 20) ∧ g.2.2.2.ok ∧ g.2.1.length + g.1 ≤ 3) (fun g => g.1) (1 + s1.nx 2, [], b.addSt (nameN ⟨#[83]⟩ i), s1.af) ?_ ⟨eF, ⟨_, h0, by dsimp only; omega⟩, Src.af_ok hso, by simp only [List.length_nil]; omega⟩ ?_
   ·
    refine X_weak rfl rfl rfl ?_ ?_ <;> repeat' (first|with_reducible (first|exact q_AgS0|exact HLe.nil _|exact SLe.nil|refine SLe.cons ?_ ?_|exact ELe.refl _|refine ELe.c rfl ?_|exact CLe.refl _|exact CLe.nil_tipS|exact CLe.int (by omega)|refine CLe.tip ?_ ?_|refine CLe.tips ?_)|refine q_AgS rfl ?_ ?_|refine HLe.cells ?_ ?_)
    all_goals (simp [Bld.addSt, fStr, fS]; done)
   ·intro g hg
    obtain ⟨k, tt, b2, s2⟩ := g
    obtain ⟨g1, ⟨m, g2, g2'⟩, g3, g4⟩ := hg
    dsimp only at g1 g2 g2' g3 g4 ⊢
    cases k with
    | zero =>
     have hF : (tt, b2, s2) = F := g1
     subst hF
     have hl5 := g2.s5
     repeat' (first|with_reducible (first|refine W_seq ?_|refine seqK_n ?_|refine seqK_e ?_|refine blockK_n ?_|refine LoopK_e ?_|refine W_exit ?_|refine W_region (WOps_WR ?_)|refine WR_nil ?_|refine q_and ?_ ?_|exact True.intro|refine blockK_e rfl ?_)|((with_reducible apply q_WR);refine X_run rfl ?_ ?_)|((with_reducible apply q_cond);refine X_cond rfl ?_ ?_;all_goals (intro hbq;(try simp only [bq] at hbq);(try (exfalso;omega))))|((with_reducible apply q_eqN);rfl)|omega)
     refine LoopK_n (i + 1) ?_ (by omega) (by omega)
     rw [eX1]
     refine X_weak rfl rfl rfl ?_ ?_ <;> repeat' (first|with_reducible (first|exact q_AgS0|exact HLe.nil _|exact SLe.nil|refine SLe.cons ?_ ?_|exact ELe.refl _|refine ELe.c rfl ?_|exact CLe.refl _|exact CLe.int (by omega)|refine CLe.tip ?_ ?_|refine CLe.tips ?_)|refine q_AgS rfl ?_ ?_|refine HLe.cells ?_ ?_)
     all_goals (simp [Bld.addTr, fTrk]; done)
    | succ k =>
     have hT := named_ok ⟨#[84]⟩ i (by decide) (by omega)
     have hT2 := named_ok (nameN ⟨#[84]⟩ i) (k + 1) (by rw [nameN_size]; decide) (by omega)
     have hC := section_ok s2 (nameN (nameN ⟨#[84]⟩ i) (k + 1)) i g3
     have hA := add_ok b2 (secT i (k + 1) s2) (g2.small (by omega))
     have q1 := s2.nx_lt (n := 9) (by omega)
     have q2 : (s2.sec (nameN (nameN ⟨#[84]⟩ i) (k + 1)) i).len = 2 + s2.nx 9 := rfl
     repeat' (first|with_reducible (first|refine WR_pp ?_|refine W_seq ?_|refine seqK_n ?_|refine W_block ?_|refine blockK_n ?_|refine W_skip ?_|refine W_region (WOps_WR ?_)|refine WR_nil ?_|refine q_and ?_ ?_|exact True.intro)|((with_reducible apply q_call);first|refine X_pure (hT) rfl ?_|refine X_pure (hT2) rfl ?_|refine X_call [0] (hC) rfl rfl rfl rfl rfl rfl rfl rfl rfl rfl rfl rfl rfl ?_|refine X_call [1] (hA) rfl rfl rfl rfl rfl rfl rfl rfl rfl rfl rfl rfl rfl ?_)|((with_reducible apply q_WR);refine X_run rfl ?_ ?_)|((with_reducible apply q_cond);refine X_cond rfl ?_ ?_;all_goals (intro hbq;(try simp only [bq] at hbq);(try (exfalso;omega))))|((with_reducible apply q_eqN);rfl)|omega)
     refine LoopK_n (k, tStep i (k + 1) (tt, b2, s2)) ?_ ⟨g1, ⟨m + 1, add_le g2 _, by simp only; omega⟩, Src.af_ok (Src.af_ok (Src.af_ok g3)), by simp only [tStep, List.length_append, List.length_singleton]; omega⟩ (by simp only; omega)
     refine X_weak rfl rfl rfl ?_ ?_ <;> repeat' (first|with_reducible (first|exact q_AgS0|exact HLe.nil _|exact SLe.nil|refine SLe.cons ?_ ?_|exact ELe.refl _|refine ELe.c rfl ?_|exact CLe.refl _|exact CLe.int (by omega)|refine CLe.tip ?_ ?_|refine CLe.rows ?_|refine CLe.tips ?_|refine CLe.int ?_)|refine q_AgS rfl ?_ ?_|refine HLe.cells ?_ ?_)
     all_goals (simp [tStep, fInt, fI]; done)
  ·have hie : i = 2 + n := by omega
   subst hie
   clear eX1
   obtain ⟨b0, s0⟩ := X
   dsimp only at hle hso ⊢
   rw [eX]
   clear hlt hi hin
   have hTr := oIter_tr (Src.af_ok hs) (2 + n) (by omega)
   rw [eX] at hTr
   repeat' (first|with_reducible (first|refine W_seq ?_|refine seqK_n ?_|refine seqK_e ?_|refine W_block ?_|refine LoopK_e ?_|refine W_exit ?_|refine W_region (WOps_WR ?_)|refine WR_nil ?_|refine q_and ?_ ?_|exact True.intro|refine blockK_e rfl ?_)|((with_reducible apply q_WR);refine X_run rfl ?_ ?_)|((with_reducible apply q_cond);refine X_cond rfl ?_ ?_;all_goals (intro hbq;(try simp only [bq] at hbq);(try (exfalso;omega)))))
   refine W_loopS (fun i : Nat => SS (sI 9 i :: slR n) [some (iter pStep (b0, s0) i).2.box, some (iter pStep (b0, s0) i).1.box]) (fun i => i ≤ 1 + n) (fun i => 1 + n - i) 0 ?_ (by omega) ?_
   ·
    refine X_weak rfl rfl rfl ?_ ?_ <;> repeat' (first|with_reducible (first|exact q_AgS0|exact HLe.nil _|exact SLe.nil|refine SLe.cons ?_ ?_|exact ELe.refl _|refine ELe.c rfl ?_|exact CLe.refl _|exact CLe.int (by omega)|refine CLe.rows ?_|refine CLe.tips ?_|refine CLe.int ?_)|refine q_AgS rfl ?_ ?_|refine HLe.cells ?_ ?_)
    all_goals rfl
   ·intro i hi
    obtain ⟨hpl, hps, hpt⟩ := pIter_le hle hso hTr i
    obtain ⟨X, eX2⟩ : ∃ X, iter pStep (b0, s0) i = X := ⟨_, rfl⟩
    have eX1 : iter pStep (b0, s0) (i + 1) = pStep i X := by rw [← eX2]; rfl
    rw [eX2] at hpl hps hpt
    rw [eX2]
    by_cases hlt : i < 1 + n
    ·obtain ⟨b, s1⟩ := X
     dsimp only at hpl hps hpt ⊢
     have hk2 := s1.nx_lt (n := 2) (by omega)
     have hN1 := next_ok s1 2 hps (by omega) (by omega)
     have hin : i ≤ 2 := by omega
     obtain ⟨F, eF⟩ : ∃ F, lLoop i (1 + s1.nx 2) ([], b, s1.af) = F := ⟨_, rfl⟩
     obtain ⟨f1, f2, f3, f4⟩ := lLoop_le i (1 + s1.nx 2) ([], b, s1.af) _ hpl (Src.af_ok hps)
     rw [eF] at f1 f2 f3 f4
     simp only [List.length_nil, Nat.zero_add] at f3 f4
     have hTrF : TrOk F.2.1 (2 + n) := ⟨by rw [f4]; exact hpt.1, by rw [f4]; exact hpt.2⟩
     repeat' (first|with_reducible (first|refine WR_pp ?_|refine W_seq ?_|refine seqK_n ?_|refine W_block ?_|refine W_skip ?_|refine W_region (WOps_WR ?_)|refine WR_nil ?_|refine q_and ?_ ?_|exact True.intro)|((with_reducible apply q_call);refine X_call [0] (hN1) rfl rfl rfl rfl rfl rfl rfl rfl rfl rfl rfl rfl rfl ?_)|((with_reducible apply q_WR);refine X_run rfl ?_ ?_)|((with_reducible apply q_cond);refine X_cond rfl ?_ ?_;all_goals (intro hbq;(try simp only [bq] at hbq);(try (exfalso;omega))))|omega)
     refine W_loopS (fun g : Nat × TBS => SS (sI 11 g.1 :: sC 10 (tInt g.2.1) :: sI 9 i :: slR n) [some g.2.2.2.box, some g.2.2.1.box]) (fun g => lLoop i g.1 g.2 = F ∧ (∃ m, g.2.2.1.le m ∧ m + g.1 ≤ 100) ∧ g.2.2.2.ok ∧ g.2.1.length + g.1 ≤ 3) (fun g => g.1) (1 + s1.nx 2, [], b, s1.af) ?_ ⟨eF, ⟨_, hpl, by dsimp only; omega⟩, Src.af_ok hps, by simp only [List.length_nil]; omega⟩ ?_
     ·
      refine X_weak rfl rfl rfl ?_ ?_ <;> repeat' (first|with_reducible (first|exact q_AgS0|exact HLe.nil _|exact SLe.nil|refine SLe.cons ?_ ?_|exact ELe.refl _|refine ELe.c rfl ?_|exact CLe.refl _|exact CLe.nil_tipS|exact CLe.int (by omega)|fail)|refine q_AgS rfl ?_ ?_|refine HLe.cells ?_ ?_)
     ·intro g hg
      obtain ⟨k, tt, b2, s2⟩ := g
      obtain ⟨g1, ⟨m, g2, g2'⟩, g3, g4⟩ := hg
      dsimp only at g1 g2 g2' g3 g4 ⊢
      cases k with
      | succ k =>
       have hT := named_ok ⟨#[76]⟩ i (by decide) (by omega)
       have hT2 := named_ok (nameN ⟨#[76]⟩ i) (k + 1) (by rw [nameN_size]; decide) (by omega)
       have hC := section_ok s2 (nameN (nameN ⟨#[76]⟩ i) (k + 1)) (-1) g3
       have hA := add_ok b2 (secL i (k + 1) s2) (g2.small (by omega))
       repeat' (first|with_reducible (first|refine WR_pp ?_|refine W_seq ?_|refine seqK_n ?_|refine W_block ?_|refine blockK_n ?_|refine W_skip ?_|refine W_region (WOps_WR ?_)|refine WR_nil ?_|refine q_and ?_ ?_|exact True.intro)|((with_reducible apply q_call);first|refine X_pure (hT) rfl ?_|refine X_pure (hT2) rfl ?_|refine X_call [0] (hC) rfl rfl rfl rfl rfl rfl rfl rfl rfl rfl rfl rfl rfl ?_|refine X_call [1] (hA) rfl rfl rfl rfl rfl rfl rfl rfl rfl rfl rfl rfl rfl ?_)|((with_reducible apply q_WR);refine X_run rfl ?_ ?_)|((with_reducible apply q_cond);refine X_cond rfl ?_ ?_;all_goals (intro hbq;(try simp only [bq] at hbq);(try (exfalso;omega))))|((with_reducible apply q_eqN);rfl)|omega)
       refine LoopK_n (k, lStep i (k + 1) (tt, b2, s2)) ?_ ⟨g1, ⟨m + 1, add_le g2 _, by simp only; omega⟩, Src.af_ok (Src.af_ok (Src.af_ok g3)), by simp only [lStep, List.length_append, List.length_singleton]; omega⟩ (by simp only; omega)
       refine X_weak rfl rfl rfl ?_ ?_ <;> repeat' (first|with_reducible (first|exact q_AgS0|exact HLe.nil _|exact SLe.nil|refine SLe.cons ?_ ?_|exact ELe.refl _|refine ELe.c rfl ?_|exact CLe.refl _|exact CLe.int (by omega)|refine CLe.tip ?_ ?_|refine CLe.rows ?_|refine CLe.tips ?_|refine CLe.int ?_)|refine q_AgS rfl ?_ ?_|refine HLe.cells ?_ ?_)
       all_goals (simp [lStep, fInt, fI]; done)
      | zero =>
       have hF : (tt, b2, s2) = F := g1
       subst hF
       simp only at f1 f2 f3 f4 hTrF
       have hcl := fun k => cLoop_le f1 tt k
       repeat' (first|with_reducible (first|refine W_seq ?_|refine seqK_n ?_|refine seqK_e ?_|refine W_block ?_|refine LoopK_e ?_|refine W_exit ?_|refine W_region (WOps_WR ?_)|refine WR_nil ?_|refine q_and ?_ ?_|exact True.intro|refine blockK_e rfl ?_)|((with_reducible apply q_WR);refine X_run rfl ?_ ?_)|((with_reducible apply q_cond);refine X_cond rfl ?_ ?_;all_goals (intro hbq;(try simp only [bq] at hbq);(try (exfalso;omega)))))
       refine W_loopS (fun k : Nat => SS (sI 12 k :: sC 10 (tInt tt) :: sI 9 i :: slR n) [some s2.box, some (cLoop b2 tt k).box]) (fun k => k ≤ tt.length - 1) (fun k => tt.length - 1 - k) 0 ?_ (by omega) ?_
       ·
        refine X_weak rfl rfl rfl ?_ ?_ <;> repeat' (first|with_reducible (first|exact q_AgS0|exact HLe.nil _|exact SLe.nil|refine SLe.cons ?_ ?_|exact ELe.refl _|refine ELe.c rfl ?_|exact CLe.refl _|exact CLe.int (by omega)|refine CLe.tips ?_)|refine q_AgS rfl ?_ ?_|refine HLe.cells ?_ ?_)
        all_goals rfl
       ·intro k hkl
        by_cases hkt : k < tt.length - 1
        ·have hK := link_ok (cLoop b2 tt k) (tt.getD (k : Int).toNat 0) (tt.getD ((k : Int) + 1).toNat 0) (-1) 0 ((hcl k).1.small (by omega))
         repeat' (first|with_reducible (first|refine WR_pd ?_|refine W_seq ?_|refine seqK_n ?_|refine W_block ?_|refine blockK_n ?_|refine W_skip ?_|refine W_region (WOps_WR ?_)|refine W_draw (WOpsD_WR ?_)|refine WR_nil ?_|refine q_and ?_ ?_|exact True.intro|assumption)|((with_reducible apply q_call);refine X_call [1] (hK) rfl rfl rfl rfl rfl rfl rfl rfl rfl rfl rfl rfl rfl ?_)|((with_reducible apply q_WR);first|refine X_run rfl ?_ ?_|refine WR_nilD (by kernel_rfl) ?_|fail)|((with_reducible apply q_cond);refine X_cond rfl ?_ ?_;all_goals (intro hbq;(try simp only [bq] at hbq);(try (exfalso;omega))))|((with_reducible apply q_VOk);exact fun _ => ⟨rfl,rfl⟩)|omega)
         refine LoopK_n (k + 1) ?_ ?_ ?_
         rotate_left
         ·(try dsimp only); omega
         ·(try dsimp only); omega
         refine X_weak rfl rfl rfl ?_ ?_ <;> repeat' (first|with_reducible (first|exact q_AgS0|exact HLe.nil _|exact SLe.nil|refine SLe.cons ?_ ?_|exact ELe.refl _|refine ELe.c rfl ?_|exact CLe.refl _|exact CLe.int (by omega)|refine CLe.tips ?_)|refine q_AgS rfl ?_ ?_|refine HLe.cells ?_ ?_)
         all_goals (simp [cLoop]; done)
        ·have hke : k = tt.length - 1 := by omega
         obtain ⟨c1, c2⟩ := hcl k
         have hc : cLoop b2 tt k = cLoop b2 tt (tt.length - 1) := by rw [hke]
         rw [hc] at c1 c2 ⊢
         generalize eC : cLoop b2 tt (tt.length - 1) = c at c1 c2 hc ⊢
         have hTc : TrOk c (2 + n) := by rw [show TrOk c (2 + n) = (c.tracks.length = 2 + n ∧ ∀ t ∈ c.tracks, 1 ≤ t.length ∧ t.length ≤ 2) from rfl, c2]; exact hTrF
         have hlen : ∀ j, (c.tracks.getD j []).length ≤ 2 := fun j => by
          rw [List.getD_eq_getElem?_getD]
          cases hj : c.tracks[j]? with
          | none => simp
          | some t => exact (hTc.2 t (List.mem_of_getElem? hj)).2
         have l1 := hlen (i : Int).toNat
         have l2 := hlen ((i : Int) + 1).toNat
         have c4 := c1.s4
         have c3 := c1.s2
         have hF1 := fan_ok c (tt.getD (0 : Int).toNat 0) (c.tracks.getD (i : Int).toNat []) false (c1.small (by omega)) (by omega) (by omega) (by omega)
         obtain ⟨d1, d2⟩ := fan_le c1 (tt.getD (0 : Int).toNat 0) (c.tracks.getD (i : Int).toNat []) false l1
         generalize eD : c.fan (tt.getD (0 : Int).toNat 0) (c.tracks.getD (i : Int).toNat []) false = e at d1 d2 hF1
         have d3 := d1.s2
         have d4 := d1.s4
         have l2' : (e.tracks.getD ((i : Int) + 1).toNat []).length ≤ 2 := by rw [d2]; exact l2
         have hF2 := fan_ok e (tt.getD ((tt.length : Int) - 1).toNat 0) (e.tracks.getD ((i : Int) + 1).toNat []) true (d1.small (by omega)) (by omega) (by omega) (by omega)
         obtain ⟨u1, u2⟩ := fan_le d1 (tt.getD ((tt.length : Int) - 1).toNat 0) (e.tracks.getD ((i : Int) + 1).toNat []) true l2'
         generalize eE : e.fan (tt.getD ((tt.length : Int) - 1).toNat 0) (e.tracks.getD ((i : Int) + 1).toNat []) true = u at u1 u2 hF2
         have u6 := u1.s6
         have t1 := hTc.1
         have t2 : e.tracks.length = 2 + n := by rw [d2]; exact t1
         repeat' (first|with_reducible (first|refine WR_pd ?_|refine W_seq ?_|refine seqK_n ?_|refine seqK_e ?_|refine blockK_n ?_|refine LoopK_e ?_|refine W_exit ?_|refine W_region (WOps_WR ?_)|refine W_draw (WOpsD_WR ?_)|refine WR_nil ?_|refine q_and ?_ ?_|exact True.intro|refine blockK_e rfl ?_)|((with_reducible apply q_call);first|refine X_call [1] (hF1) rfl rfl rfl rfl rfl rfl rfl rfl rfl rfl rfl rfl rfl ?_|refine X_call [1] (hF2) rfl rfl rfl rfl rfl rfl rfl rfl rfl rfl rfl rfl rfl ?_)|((with_reducible apply q_WR);first|refine X_run rfl ?_ ?_|refine WR_nilD (by kernel_rfl) ?_|fail)|((with_reducible apply q_cond);refine X_cond rfl ?_ ?_;all_goals (intro hbq;(try simp only [bq] at hbq);(try (exfalso;omega))))|((with_reducible apply q_VOk);exact fun _ => ⟨rfl,rfl⟩)|((with_reducible apply q_eqN);rfl)|omega)
         have n1 : ((i : Int)).toNat = i := by omega
         have n2 : ((i : Int) + 1).toNat = i + 1 := by omega
         have n3 : ((tt.length : Int) - 1).toNat = tt.length - 1 := by omega
         have hp : pStep i (b, s1) = (u.addBt tt, s2) := by
          rw [n1, Int.toNat_zero] at eD
          rw [n2, n3] at eE
          simp only [pStep, eF, eC, eD, eE]
         refine LoopK_n (i + 1) ?_ (by omega) (by omega)
         rw [eX1, hp]
         refine X_weak rfl rfl rfl ?_ ?_ <;> repeat' (first|with_reducible (first|exact q_AgS0|exact HLe.nil _|exact SLe.nil|refine SLe.cons ?_ ?_|exact ELe.refl _|refine ELe.c rfl ?_|exact CLe.refl _|exact CLe.int (by omega)|refine CLe.tip ?_ ?_|refine CLe.tips ?_)|refine q_AgS rfl ?_ ?_|refine HLe.cells ?_ ?_)
         all_goals (simp [Bld.addBt, fTrk]; done)
    ·have hie : i = 1 + n := by omega
     subst hie
     repeat' (first|with_reducible (first|refine W_seq ?_|refine seqK_n ?_|refine seqK_e ?_|refine LoopK_e ?_|refine W_exit ?_|refine W_ret ?_|refine W_region (WOps_WR ?_)|refine WR_nil ?_|refine q_and ?_ ?_|exact True.intro|refine blockK_e rfl ?_)|((with_reducible apply q_WR);refine X_run rfl ?_ ?_)|((with_reducible apply q_cond);refine X_cond rfl ?_ ?_;all_goals (intro hbq;(try simp only [bq] at hbq);(try (exfalso;omega))))|((with_reducible apply q_ret);refine X_ret tabOk trivial rfl rfl ?_ ?_)|omega)
     repeat' (first|with_reducible (first|exact TkEq.nil _|exact SEqL.nil|refine SEqL.cons ?_ ?_|exact CEq.refl _|refine CEq.int ?_|refine CEq.rows ?_|refine CEq.tips ?_)|refine VEq.c ?_|refine TkEq.cells ?_ ?_)
     all_goals (rw [eX2])
theorem from_ok (l : List Int) : OkV Try.prog 26 [.c (rInt l)] [] (.c (pB 0)) [some (Src.box ⟨l, 0⟩)] := by
 refine X_fn mixedX Try.func26 rfl (by kernel_rfl) (Nat.le_of_ble_eq_true (by kernel_rfl)) (by kernel_rfl) rfl rfl (Nat.le_of_ble_eq_true rfl) rfl rfl ?_
 simp only [sl0, Nat.zero_add, Nat.reduceAdd]
 repeat' (first|with_reducible (first|refine W_seq ?_|refine seqK_n ?_|refine W_ret ?_|refine W_region (WOps_WR ?_)|refine WR_nil ?_|refine q_and ?_ ?_|exact True.intro)|((with_reducible apply q_WR);refine X_run rfl ?_ ?_)|((with_reducible apply q_ret);refine X_ret tabOk trivial rfl rfl ?_ ?_))
 repeat' (first|with_reducible (first|exact TkEq.nil _|exact SEqL.nil|refine SEqL.cons ?_ ?_|exact CEq.refl _|refine CEq.int ?_)|refine VEq.c ?_|refine TkEq.cells ?_ ?_|rfl)
def genL (l : List Int) : Lay := (rowB ⟨l, 0⟩).1.L
theorem layout_ok (l : List Int) (hl : l.length ≤ 9223372036854775807) : OkV Try.prog 13 [.c (rInt l)] [] (vLay (genL l)) [] := by
 have h1 := from_ok l
 have h2 := row_ok ⟨l, 0⟩ ⟨Nat.zero_le _, hl⟩
 unfold genL
 refine X_fnP mixedX Try.func13 rfl (by kernel_rfl) (Nat.le_of_ble_eq_true (by kernel_rfl)) (by kernel_rfl) rfl rfl ?_
 simp only [sl0, Nat.zero_add, Nat.reduceAdd]
 repeat' (first
  |with_reducible (first|refine WR_pp ?_|refine WR_pd ?_|refine W_seq ?_|refine seqK_n ?_|refine seqK_r ?_|refine seqK_e ?_|refine W_block ?_|refine blockK_n ?_|refine blockK_r ?_|refine LoopK_e ?_|refine LoopK_r ?_|refine LoopX_r ?_|refine W_skip ?_|refine W_exit ?_|refine W_ret ?_|refine W_region (WOps_WR ?_)|refine W_draw (WOpsD_WR ?_)|refine WR_nil ?_|refine q_and ?_ ?_|exact True.intro|assumption|refine blockK_e rfl ?_|refine blockK_o (by decide) ?_|refine LoopX_e (by decide) ?_)
  |((with_reducible apply q_call);first|refine X_call [] (h1) rfl rfl rfl rfl rfl rfl rfl rfl rfl rfl rfl rfl rfl ?_|refine X_call [1] (h2) rfl rfl rfl rfl rfl rfl rfl rfl rfl rfl rfl rfl rfl ?_)
  |((with_reducible apply q_WR);first|refine X_run rfl ?_ ?_|refine WR_nilD (by kernel_rfl) ?_)
  |((with_reducible apply q_cond);refine X_cond rfl ?_ ?_;all_goals (intro hbq;(try simp only [bq] at hbq);(try (exfalso;omega))))
  |((with_reducible apply q_ret);refine X_ret tabOk trivial rfl rfl ?_ ?_)
  |((with_reducible apply q_retP);refine X_retP tabOk trivial rfl rfl ?_ ?_)
  |(intro (hgq : (_ : Bool) = true);(try simp only [bq] at hgq))
  |(intro (hgq : (_ : Bool) = false);(try simp only [bq] at hgq))
  |((with_reducible apply q_VOk);exact fun _ => ⟨rfl,rfl⟩)
  |(intro _;exact rfl)
  |((with_reducible apply q_bt);simp only [bq])
  |((with_reducible apply q_eqN);rfl)
  |with_reducible exact isByte_wrap _
  |with_reducible exact isByte_nat _
  |(simp only [hgq,bq];done)
  |omega)
 repeat' (first|with_reducible (first|exact TkEq.nil _|refine TkEq.none ?_|refine TkEq.cells ?_ ?_|refine TkEq.els ?_ ?_|exact SEqL.nil|refine SEqL.cons ?_ ?_|exact TEqL.nil|refine TEqL.c ?_ ?_|refine TEqL.agg ?_ ?_|exact CEq.refl _|refine CEq.int ?_|refine CEq.bool ?_|refine CEq.str ?_|refine CEq.rows ?_|refine CEq.row ?_ ?_|refine CEq.tips ?_|refine CEq.tip ?_ ?_|refine CEq.raw ?_ ?_|refine CEq.arr ?_ ?_)|refine VEq.c ?_|refine VEq.agg ?_|refine VEq.tup ?_|refine TkEq.cells ?_ ?_|refine TkEq.els ?_ ?_|refine SEqL.cons ?_ ?_|refine TEqL.agg ?_ ?_|refine CEq.rows ?_|refine CEq.int ?_|rfl|omega)
def secZ (x : Sec) : Sec := ⟨x.nm, 1, 1000, 0, x.stn⟩
def layZ (L : Lay) : Lay := { L with secs := L.secs.map secZ }
def Bld.z (b : Bld) : Bld := { b with L := layZ b.L }
def goodS (x : Sec) : Prop := 1 ≤ x.len ∧ x.len ≤ 400 ∧ 1000 ≤ x.lim ∧ x.lim ≤ 100000 ∧ -40 ≤ x.grd ∧ x.grd ≤ 40
theorem secB_z (n : Nat) (x : Sec) (h : goodS x) : secB n (secZ x) = secB n x := by
 obtain ⟨h1, h2, h3, h4, h5, h6⟩ := h
 unfold secB secZ
 simp only [decide_eq_decide]
 omega
theorem secsErr_z (n : Nat) : ∀ (l : List Sec) (seen : List ByteArray), (∀ x ∈ l, goodS x) → secsErr n seen (l.map secZ) = secsErr n seen l
 | [], _, _ => rfl
 | x :: r, seen, h => by
  rw [List.map_cons, secsErr, secsErr, secB_z n x (h x (List.mem_cons_self ..)), secsErr_z n r _ (fun y hy => h y (List.mem_cons_of_mem _ hy))]
  rfl
theorem layErr_z (L : Lay) (h : ∀ x ∈ L.secs, goodS x) : layErr (layZ L) = layErr L := by
 unfold layErr layZ
 simp only [List.length_map, secsErr_z _ _ _ h]
theorem sec_good (s : Src) (nm : ByteArray) (st : Int) : goodS (s.sec nm st) ∧ goodS { s.sec nm st with len := (s.sec nm st).len + 2 } := by
 have k1 := s.nx_lt (n := 9) (by omega)
 have k2 := s.af.nx_lt (n := 7) (by omega)
 have k3 := s.af.af.nx_lt (n := 21) (by omega)
 unfold goodS Src.sec
 simp only
 omega
abbrev TBQ := List Int × Bld
def tLoopZ (i : Nat) : Nat → TBQ → TBQ
 | 0, x => x
 | k + 1, x => tLoopZ i k (x.1 ++ [(x.2.L.secs.length : Int)], x.2.add ⟨nameN (nameN ⟨#[84]⟩ i) (k + 1), 1, 1000, 0, i⟩)
def oStepZ (i c : Nat) (b : Bld) : Bld := let y := tLoopZ i c ([], b.addSt (nameN ⟨#[83]⟩ i)); y.2.addTr y.1
def lLoopZ (i : Nat) : Nat → TBQ → TBQ
 | 0, x => x
 | k + 1, x => lLoopZ i k (x.1 ++ [(x.2.L.secs.length : Int)], x.2.add ⟨nameN (nameN ⟨#[76]⟩ i) (k + 1), 1, 1000, 0, -1⟩)
def pStepZ (i n : Nat) (b : Bld) : Bld :=
 let y := lLoopZ i n ([], b)
 let c := cLoop y.2 y.1 (y.1.length - 1)
 let d := c.fan (y.1.getD 0 0) (c.tracks.getD i []) false
 let e := d.fan (y.1.getD (y.1.length - 1) 0) (d.tracks.getD (i + 1) []) true
 e.addBt y.1
theorem add_z (b : Bld) (x : Sec) : (b.add x).z = b.z.add (secZ x) := by simp [Bld.z, Bld.add, layZ]
theorem len_z (b : Bld) : b.z.L.secs.length = b.L.secs.length := by simp [Bld.z, layZ]
theorem tLoop_z (i : Nat) : ∀ (k : Nat) (x : TBS), ((tLoop i k x).1, (tLoop i k x).2.1.z) = tLoopZ i k (x.1, x.2.1.z)
 | 0, x => rfl
 | k + 1, x => by
  rw [tLoop, tLoop_z i k, tLoopZ, len_z]
  simp only [tStep, add_z]
  rfl
theorem lLoop_z (i : Nat) : ∀ (k : Nat) (x : TBS), ((lLoop i k x).1, (lLoop i k x).2.1.z) = lLoopZ i k (x.1, x.2.1.z)
 | 0, x => rfl
 | k + 1, x => by
  rw [lLoop, lLoop_z i k, lLoopZ, len_z]
  simp only [lStep, add_z]
  rfl
theorem oStep_z (i : Nat) (x : Bld × Src) : (oStep i x).1.z = oStepZ i (1 + x.2.nx 2) x.1.z := by
 have h := tLoop_z i (1 + x.2.nx 2) ([], x.1.addSt (nameN ⟨#[83]⟩ i), x.2.af)
 have h1 := congrArg Prod.fst h
 have h2 := congrArg Prod.snd h
 simp only at h1 h2
 unfold oStep oStepZ
 simp only
 rw [show (x.1.z.addSt (nameN ⟨#[83]⟩ i)) = (x.1.addSt (nameN ⟨#[83]⟩ i)).z from rfl, ← h1, ← h2]
 rfl
theorem links_z (b : Bld) (x pt : Int) (east : Bool) (ts : List Int) : ∀ i, (b.links x pt east ts i).z = b.z.links x pt east ts i
 | 0 => rfl
 | i + 1 => by
  rw [Bld.links, Bld.links, ← links_z b x pt east ts i]
  rfl
theorem fan_z (b : Bld) (x : Int) (ts : List Int) (east : Bool) : (b.fan x ts east).z = b.z.fan x ts east := by
 unfold Bld.fan
 split
 ·rw [links_z]; rfl
 ·rw [links_z]
theorem cLoop_z (b : Bld) (t : List Int) : ∀ k, (cLoop b t k).z = cLoop b.z t k
 | 0 => rfl
 | k + 1 => by
  rw [cLoop, cLoop, ← cLoop_z b t k]
  rfl
theorem tracks_z (b : Bld) : b.z.tracks = b.tracks := rfl
theorem addBt_z (b : Bld) (t : List Int) : (b.addBt t).z = b.z.addBt t := rfl
theorem pStep_z (i : Nat) (x : Bld × Src) : (pStep i x).1.z = pStepZ i (1 + x.2.nx 2) x.1.z := by
 have h := lLoop_z i (1 + x.2.nx 2) ([], x.1, x.2.af)
 have h1 := congrArg Prod.fst h
 have h2 := congrArg Prod.snd h
 simp only at h1 h2
 unfold pStep pStepZ
 generalize lLoop i (1 + x.2.nx 2) ([], x.1, x.2.af) = y at h1 h2 ⊢
 generalize lLoopZ i (1 + x.2.nx 2) ([], x.1.z) = u at h1 h2 ⊢
 obtain ⟨u1, u2⟩ := u
 obtain ⟨y1, y2, y3⟩ := y
 simp only at h1 h2 ⊢
 subst h1 h2
 simp only [← cLoop_z, tracks_z, ← fan_z, ← addBt_z]
def iterZ (f : Nat → Nat → Bld → Bld) (c : Nat → Nat) (b : Bld) : Nat → Bld
 | 0 => b
 | i + 1 => f i (c i) (iterZ f c b i)
theorem iter_z {f : Nat → Bld × Src → Bld × Src} {g : Nat → Nat → Bld → Bld} (h : ∀ i x, (f i x).1.z = g i (1 + x.2.nx 2) x.1.z) (x : Bld × Src) : ∀ i, (iter f x i).1.z = iterZ g (fun i => 1 + (iter f x i).2.nx 2) x.1.z i
 | 0 => rfl
 | i + 1 => by
  rw [iter, h, iter_z h x i]
  rfl
def shapeB (n a0 a1 a2 c0 c1 : Nat) : Bld := iterZ pStepZ (fun i => [c0, c1].getD i 1) (iterZ oStepZ (fun i => [a0, a1, a2].getD i 1) Bld.zero (2 + n)) (1 + n)
def shapesB : Bool := [0, 1].all fun n => [1, 2].all fun a0 => [1, 2].all fun a1 => [1, 2].all fun a2 => [1, 2].all fun c0 => [1, 2].all fun c1 => decide (layErr (shapeB n a0 a1 a2 c0 c1).L = 0)
set_option maxRecDepth 100000 in
theorem shapes_ok : shapesB = true := by kernel_rfl
theorem two_mem (s : Src) : 1 + s.nx 2 ∈ [1, 2] := by
 have := s.nx_lt (n := 2) (by omega)
 generalize s.nx 2 = k at this ⊢
 match k, this with
 | 0, _ => simp
 | 1, _ => simp
theorem shape_ok {n a0 a1 a2 c0 c1 : Nat} (hn : n ∈ [0, 1]) (h0 : a0 ∈ [1, 2]) (h1 : a1 ∈ [1, 2]) (h2 : a2 ∈ [1, 2]) (h3 : c0 ∈ [1, 2]) (h4 : c1 ∈ [1, 2]) : layErr (shapeB n a0 a1 a2 c0 c1).L = 0 := by
 have h := shapes_ok
 unfold shapesB at h
 have h := List.all_eq_true.1 h n hn
 have h := List.all_eq_true.1 h a0 h0
 have h := List.all_eq_true.1 h a1 h1
 have h := List.all_eq_true.1 h a2 h2
 have h := List.all_eq_true.1 h c0 h3
 have h := List.all_eq_true.1 h c1 h4
 exact of_decide_eq_true h
theorem iterZ_congr (f : Nat → Nat → Bld → Bld) (c c' : Nat → Nat) (b : Bld) : ∀ i, (∀ j, j < i → c j = c' j) → iterZ f c b i = iterZ f c' b i
 | 0, _ => rfl
 | i + 1, h => by rw [iterZ, iterZ, h i (by omega), iterZ_congr f c c' b i (fun j hj => h j (by omega))]
def GS (b : Bld) : Prop := ∀ x ∈ b.L.secs, goodS x
theorem GS.add {b : Bld} (h : GS b) {x : Sec} (hx : goodS x) : GS (b.add x) := fun y hy => by
 simp only [Bld.add, List.mem_append, List.mem_singleton] at hy
 rcases hy with hy | rfl
 ·exact h y hy
 ·exact hx
theorem GS.of {b c : Bld} (h : GS b) (e : c.L.secs = b.L.secs) : GS c := fun y hy => h y (e ▸ hy)
theorem tLoop_gs (i : Nat) : ∀ (k : Nat) (x : TBS), GS x.2.1 → GS (tLoop i k x).2.1
 | 0, x, h => h
 | k + 1, x, h => tLoop_gs i k _ (h.add (sec_good _ _ _).2)
theorem lLoop_gs (i : Nat) : ∀ (k : Nat) (x : TBS), GS x.2.1 → GS (lLoop i k x).2.1
 | 0, x, h => h
 | k + 1, x, h => lLoop_gs i k _ (h.add (sec_good _ _ _).1)
theorem oStep_gs (i : Nat) (x : Bld × Src) (h : GS x.1) : GS (oStep i x).1 :=
 (tLoop_gs i (1 + x.2.nx 2) ([], x.1.addSt (nameN ⟨#[83]⟩ i), x.2.af) (h.of rfl)).of rfl
theorem links_secs (b : Bld) (x pt : Int) (east : Bool) (ts : List Int) : ∀ i, (b.links x pt east ts i).L.secs = b.L.secs
 | 0 => rfl
 | i + 1 => links_secs b x pt east ts i
theorem fan_secs (b : Bld) (x : Int) (ts : List Int) (east : Bool) : (b.fan x ts east).L.secs = b.L.secs := by
 unfold Bld.fan
 split
 ·rw [links_secs]; rfl
 ·rw [links_secs]
theorem cLoop_secs (b : Bld) (t : List Int) : ∀ k, (cLoop b t k).L.secs = b.L.secs
 | 0 => rfl
 | k + 1 => cLoop_secs b t k
theorem pStep_gs (i : Nat) (x : Bld × Src) (h : GS x.1) : GS (pStep i x).1 := by
 have hl := lLoop_gs i (1 + x.2.nx 2) ([], x.1, x.2.af) h
 unfold pStep
 generalize lLoop i (1 + x.2.nx 2) ([], x.1, x.2.af) = y at hl ⊢
 refine hl.of ?_
 simp only
 show (Bld.fan _ _ _ _).L.secs = _
 rw [fan_secs, fan_secs, cLoop_secs]
theorem iter_gs {f : Nat → Bld × Src → Bld × Src} (hf : ∀ i x, GS x.1 → GS (f i x).1) {x : Bld × Src} (h : GS x.1) : ∀ i, GS (iter f x i).1
 | 0 => h
 | i + 1 => hf _ _ (iter_gs hf h i)
theorem shapeAny (n : Nat) (hn : n < 2) (c1 c2 : Nat → Nat) (h1 : ∀ i, c1 i ∈ [1, 2]) (h2 : ∀ i, c2 i ∈ [1, 2]) : layErr (iterZ pStepZ c2 (iterZ oStepZ c1 Bld.zero (2 + n)) (1 + n)).L = 0 := by
 rw [iterZ_congr oStepZ c1 (fun i => [c1 0, c1 1, c1 2].getD i 1) _ (2 + n) (fun j hj => by
  match j, (show j < 3 by omega) with
  | 0, _ => rfl
  | 1, _ => rfl
  | 2, _ => rfl), iterZ_congr pStepZ c2 (fun i => [c2 0, c2 1].getD i 1) _ (1 + n) (fun j hj => by
  match j, (show j < 2 by omega) with
  | 0, _ => rfl
  | 1, _ => rfl)]
 have hm : n ∈ [0, 1] := by
  match n, hn with
  | 0, _ => simp
  | 1, _ => simp
 exact shape_ok hm (h1 0) (h1 1) (h1 2) (h2 0) (h2 1)
theorem genL_ok (l : List Int) : layErr (genL l) = 0 := by
 have hk := (⟨l, 0⟩ : Src).nx_lt (n := 2) (by omega)
 have g0 : GS Bld.zero := fun x hx => by cases hx
 have g1 := iter_gs oStep_gs (x := (Bld.zero, (⟨l, 0⟩ : Src).af)) g0 (2 + (⟨l, 0⟩ : Src).nx 2)
 have g2 := iter_gs pStep_gs g1 (1 + (⟨l, 0⟩ : Src).nx 2)
 have e1 := iter_z oStep_z (Bld.zero, (⟨l, 0⟩ : Src).af) (2 + (⟨l, 0⟩ : Src).nx 2)
 have e2 := iter_z pStep_z (iter oStep (Bld.zero, (⟨l, 0⟩ : Src).af) (2 + (⟨l, 0⟩ : Src).nx 2)) (1 + (⟨l, 0⟩ : Src).nx 2)
 rw [e1, show Bld.z (Bld.zero, (⟨l, 0⟩ : Src).af).1 = Bld.zero from rfl] at e2
 have hs := shapeAny ((⟨l, 0⟩ : Src).nx 2) hk _ _ (fun i => two_mem (iter oStep (Bld.zero, (⟨l, 0⟩ : Src).af) i).2) (fun i => two_mem (iter pStep (iter oStep (Bld.zero, (⟨l, 0⟩ : Src).af) (2 + (⟨l, 0⟩ : Src).nx 2)) i).2)
 rw [← e2] at hs
 have hz := layErr_z _ g2
 unfold genL rowB
 rw [← hz]
 exact hs
theorem valid_fits {L : Lay} (h : Valid L) : LayFits L := by
 obtain ⟨n1, n2, n3, n4, n5, v1, v2, v3, v4⟩ := h
 refine ⟨fun x hx => ?_, fun x hx => ?_, fun x hx => ?_, by omega, by omega, by omega, by omega⟩
 ·have := nameB_size (v1 x hx); omega
 ·have := nameB_size (v2 x hx); omega
 ·obtain ⟨y, hy, rfl⟩ := List.mem_map.1 hx
  have := nameB_size (v3 y hy).1; omega
theorem getD_size {n : Nat} {l : List ByteArray} (h : ∀ x ∈ l, x.size ≤ n) (i : Nat) : (l.getD i ⟨#[]⟩).size ≤ n := by
 rw [List.getD_eq_getElem?_getD]
 rcases Nat.lt_or_ge i l.length with k | k
 ·rw [List.getElem?_eq_getElem k]
  exact h _ (List.getElem_mem k)
 ·rw [List.getElem?_eq_none k]
  exact Nat.zero_le _
theorem getD_secs {n : Nat} {l : List Sec} (h : ∀ x ∈ l.map Sec.nm, x.size ≤ n) (i : Nat) : (l.getD i sec0).nm.size ≤ n := by
 rw [List.getD_eq_getElem?_getD]
 rcases Nat.lt_or_ge i l.length with k | k
 ·rw [List.getElem?_eq_getElem k]
  exact h _ (List.mem_map.2 ⟨_, List.getElem_mem k, rfl⟩)
 ·rw [List.getElem?_eq_none k]
  exact Nat.zero_le _
theorem short_snoc {l : List ByteArray} {x : ByteArray} (h : Short l) (hx : x.size ≤ 9223372036854775807) : Short (l ++ [x]) := fun y hy => by
 rcases List.mem_append.1 hy with h1 | h1
 ·exact h y h1
 ·rw [List.mem_singleton.1 h1]; exact hx
theorem short_set {l : List Sec} {x : Sec} {i : Nat} (h : Short (l.map Sec.nm)) (hx : x.nm.size ≤ 9223372036854775807) : Short ((l.set i x).map Sec.nm) := fun y hy => by
 obtain ⟨z, hz, rfl⟩ := List.mem_map.1 hy
 rcases List.mem_or_eq_of_mem_set hz with h1 | h1
 ·exact h _ (List.mem_map.2 ⟨z, h1, rfl⟩)
 ·rw [h1]; exact hx
theorem other_ex (L : Lay) (hL : LayFits L) (hs : SmallL L) (how at_ v : Int) : ∃ L', LayFits L' ∧ Oth L how at_ v L' := by
 have hs' := hs
 obtain ⟨k0, k1, k2, k3⟩ := hs'
 obtain ⟨s1, s2, s3, m1, m2, m3, m4⟩ := hL
 have hset : ∀ i x, x.nm.size ≤ 9223372036854775807 → LayFits { L with secs := L.secs.set i x } := fun i x hx => ⟨s1, s2, short_set s3 hx, m1, m2, by rw [List.length_set]; exact m3, m4⟩
 have hsn := getD_secs s3
 have hlnk : ∀ l' : List Lnk, l'.length ≤ L.lnks.length + 1 → LayFits { L with lnks := l' } := fun l' hl => ⟨s1, s2, s3, m1, m2, m3, by show l'.length ≤ _; omega⟩
 by_cases h0 : L.secs.length = 0
 ·exact ⟨L, ⟨s1, s2, s3, m1, m2, m3, m4⟩, oth0' hs h0⟩
 have hb := pkI_lt how (n := 12) (by omega)
 have hcase : pkI how 12 = 0 ∨ pkI how 12 = 1 ∨ pkI how 12 = 2 ∨ pkI how 12 = 3 ∨ pkI how 12 = 4 ∨ pkI how 12 = 5 ∨ pkI how 12 = 6 ∨ pkI how 12 = 7 ∨ pkI how 12 = 8 ∨ pkI how 12 = 9 ∨ pkI how 12 = 10 ∨ pkI how 12 = 11 := by omega
 rcases hcase with h | h | h | h | h | h | h | h | h | h | h | h
 ·refine ⟨_, hset _ _ ?_, oth0 (at_ := at_) (v := v) hs h0 h⟩
  exact hsn _
 ·refine ⟨_, hset _ _ ?_, oth1 (at_ := at_) (v := v) hs h0 h⟩
  exact hsn _
 ·refine ⟨_, hset _ _ ?_, oth2 (at_ := at_) (v := v) hs h0 h⟩
  exact hsn _
 ·refine ⟨_, hset _ _ ?_, oth3 (at_ := at_) (v := v) hs h0 h⟩
  exact hsn _
 ·refine ⟨_, hset _ _ ?_, oth4 hs h0 h⟩
  exact Nat.le_trans (getD_size (n := 100) (by decide) _) (by omega)
 ·have hx : ∀ x : ByteArray, x.size ≤ 100 → LayFits { L with sts := L.sts ++ [x] } := fun x hx => ⟨short_snoc s1 (by omega), s2, s3, by show (L.sts ++ [x]).length ≤ _; rw [List.length_append]; simp; omega, m2, m3, m4⟩
  by_cases hn : L.sts.length = 0
  ·exact ⟨_, hx _ (getD_size (n := 100) (by decide) _), oth5n hs h0 h (List.eq_nil_of_length_eq_zero hn)⟩
  ·exact ⟨_, hx _ (getD_size (n := 100) (by decide) _), oth5 hs h0 h hn⟩
 ·have hx : ∀ x : ByteArray, x.size ≤ 100 → LayFits { L with pts := L.pts ++ [x] } := fun x hx => ⟨s1, short_snoc s2 (by omega), s3, m1, by show (L.pts ++ [x]).length ≤ _; rw [List.length_append]; simp; omega, m3, m4⟩
  by_cases hn : L.pts.length = 0
  ·exact ⟨_, hx _ (getD_size (n := 100) (by decide) _), oth6n hs h0 h (List.eq_nil_of_length_eq_zero hn)⟩
  ·exact ⟨_, hx _ (getD_size (n := 100) (by decide) _), oth6 hs h0 h hn⟩
 ·by_cases hn : L.lnks.length = 0
  ·exact ⟨_, hlnk _ (by simp), oth7n hs h0 h (List.eq_nil_of_length_eq_zero hn)⟩
  ·exact ⟨_, hlnk _ (by simp), oth7 hs h0 h hn⟩
 ·by_cases hn : L.lnks.length = 0
  ·exact ⟨L, ⟨s1, s2, s3, m1, m2, m3, m4⟩, othL hs h0 (.inl h) hn⟩
  ·exact ⟨_, hlnk _ (by simp), oth8 hs h0 h hn⟩
 ·by_cases hn : L.lnks.length = 0
  ·exact ⟨L, ⟨s1, s2, s3, m1, m2, m3, m4⟩, othL hs h0 (.inr (.inl h)) hn⟩
  ·exact ⟨_, hlnk _ (by simp; omega), oth9 hs h0 h hn⟩
 ·by_cases hn : L.lnks.length = 0
  ·exact ⟨L, ⟨s1, s2, s3, m1, m2, m3, m4⟩, othL hs h0 (.inr (.inr h)) hn⟩
  ·exact ⟨_, hlnk _ (by simp), oth10 hs h0 h hn⟩
 ·refine ⟨_, ?_, oth11 hs h0 h h0⟩
  refine ⟨s1, s2, ?_, m1, m2, by show (L.secs ++ [_]).length ≤ _; rw [List.length_append]; simp; omega, m4⟩
  show Short ((L.secs ++ [_]).map Sec.nm)
  rw [List.map_append]
  exact short_snoc s3 (hsn _)
def encS (L : Lay) : ByteArray := if layErr L = 0 then bA (encL L) else ⟨#[]⟩
def encE (L : Lay) : Int := if layErr L = 0 then 0 else 1
theorem enc1 (L : Lay) (hL : LayFits L) : OkV Try.prog 10 [vLay L] [] (.tup [.c (xS (encS L)), .c (xI (encE L))]) [] := by
 unfold encS encE
 by_cases h : layErr L = 0
 ·rw [if_pos h, if_pos h]
  exact encode_okV L hL h
 ·rw [if_neg h, if_neg h]
  exact encode_badV L hL h
theorem enc2 (L : Lay) (hL : LayFits L) : OkV Try.prog 15 [vLay L] [] (.tup [.c (xS (encS L)), .c (xI (encE L))]) [] := by
 unfold encS encE
 by_cases h : layErr L = 0
 ·rw [if_pos h, if_pos h]
  exact refEncode_ok L hL h
 ·rw [if_neg h, if_neg h]
  exact refEncode_bad L hL h
theorem encodes_ok (X : Lay) (hX : LayFits X) (l : List Int) (hl : l.length ≤ 9223372036854775807) (how at_ v : Int) : OkV Try.prog 4 [vLay X, .c (rInt l), vI how, vI at_, vI v] [] (vB true) [] := by
 have h0 := awake_okV
 have h1 := layout_ok l hl
 have hv := genL_ok l
 generalize genL l = Y at h1 hv
 have hV := valid_of hv
 have hF := valid_fits hV
 obtain ⟨Z, hZ, hO⟩ := other_ex Y hF (by
  obtain ⟨n1, n2, n3, n4, _⟩ := hV
  exact ⟨by omega, by omega, by omega, by omega⟩) how at_ v
 unfold Oth at hO
 refine X_fnP mixedX Try.func4 rfl (by kernel_rfl) (Nat.le_of_ble_eq_true (by kernel_rfl)) (by kernel_rfl) rfl rfl ?_
 simp only [sl0, Nat.zero_add, Nat.reduceAdd]
 repeat' (first
  |with_reducible (first|refine q_and ?_ ?_|exact True.intro|exact TkEq.nil _|refine Red.o (by constructor) ?_|refine blockK_o' rfl ?_|refine LoopX_e' rfl ?_|assumption)
  |((with_reducible apply q_call);first|refine X_pure (h1) rfl ?_|refine X_pure (hO) rfl ?_)
  |((with_reducible apply q_CI);intro hbq;(try simp only [bq] at hbq);(try (exfalso;omega)))
  |with_reducible (first|refine W_seq ?_|refine W_block ?_)
  |((with_reducible apply q_cond);refine X_cond rfl ?_ ?_;all_goals (intro hbq;(try simp only [bq] at hbq);(try (exfalso;omega))))
  |refine Rex.o (by (with_reducible constructor);apply Eq.refl) ?_
  |(intro (hgq : (_ : Bool) = true);(try simp only [bq] at hgq))
  |(intro (hgq : (_ : Bool) = false);(try simp only [bq] at hgq))
  |((with_reducible apply q_VOk);exact fun _ => ⟨rfl,rfl⟩)|(intro _;exact rfl)|((with_reducible apply q_CRB);kernel_rfl)|((with_reducible apply q_bt);simp only [bq])|((with_reducible apply q_eqN);rfl)|((with_reducible apply q_FE);exact rfl)|with_reducible (first|exact isByte_wrap _|exact isByte_nat _)|(simp only [hgq,bq];done)|omega|(dsimp only;omega))
 have hfit : ∀ i, LayFits (([X, Y, Z] : List Lay).getD i lay0) := fun i => by
  match i with
  | 0 => exact hX
  | 1 => exact hF
  | 2 => exact hZ
  | i + 3 => exact ⟨fun x hx => (by cases hx), fun x hx => (by cases hx), fun x hx => (by cases hx), Nat.zero_le _, Nat.zero_le _, Nat.zero_le _, Nat.zero_le _⟩
 have hlen : ([X, Y, Z] : List Lay).length = 3 := rfl
 refine W_loopS (fun i : Nat => SS [sC 12 (rLay [X, Y, Z]), sI 29 3, sI 30 i] []) (fun i => i ≤ 3) (fun i => 3 - i) 0 ?_ (by omega) ?_
 ·
  refine X_weak rfl rfl rfl ?_ ?_ <;> repeat' (first|with_reducible (first|refine Wk.o (by constructor) ?_|refine q_and ?_ ?_|exact True.intro)|refine q_AgS rfl ?_ ?_|exact CLe.nil_tipS|exact CLe.nil_rowS|refine HLe.cells ?_ ?_|refine HLe.els ?_ ?_|refine SLe.cons ?_ ?_|exact (rfl : known _ = _)|with_reducible rfl|omega)
  all_goals rfl
 rintro i hi
 have e1 := enc1 _ (hfit (i : Int).toNat)
 have e2 := enc2 _ (hfit (i : Int).toNat)
 clear h1 hO hfit
 generalize [X, Y, Z] = l3 at *
 repeat' (first
  |with_reducible (first|refine q_and ?_ ?_|exact True.intro|exact TkEq.nil _|refine Red.o (by constructor) ?_|refine blockK_o' rfl ?_|refine LoopX_e' rfl ?_|assumption)
  |((with_reducible apply q_call);first|refine X_pure (e1) rfl ?_|refine X_pure (e2) rfl ?_|refine X_pure (h0) rfl ?_)
  |((with_reducible apply q_callG);refine X_pureG ((fun _ => e1)) rfl ?_ ?_)
  |((with_reducible apply q_callG);refine X_pureG ((fun _ => e2)) rfl ?_ ?_)
  |((with_reducible apply q_CI);intro hbq;(try simp only [bq] at hbq);(try (exfalso;omega)))
  |with_reducible (first|refine W_seq ?_|refine W_block ?_)
  |((with_reducible apply q_cond);refine X_cond rfl ?_ ?_;all_goals (intro hbq;(try simp only [bq] at hbq);(try (exfalso;omega))))
  |refine Rex.o (by (with_reducible constructor);apply Eq.refl) ?_
  |(intro (hgq : (_ : Bool) = true);(try simp only [bq] at hgq))
  |(intro (hgq : (_ : Bool) = false);(try simp only [bq] at hgq))
  |((with_reducible apply q_VOk);exact fun _ => ⟨rfl,rfl⟩)|(intro _;exact rfl)|((with_reducible apply q_CRB);kernel_rfl)|((with_reducible apply q_bt);simp only [bq])|((with_reducible apply q_eqN);rfl)|((with_reducible apply q_FE);exact rfl)|with_reducible (first|exact isByte_wrap _|exact isByte_nat _)|(simp only [hgq,bq];done)|omega|(dsimp only;omega))
 ·exfalso
  rename_i hbq
  revert hbq
  simp
 ·
  refine LoopK_n (i + 1) ?_ (by omega) (by (try dsimp only); omega)
  refine X_weak rfl rfl rfl ?_ ?_ <;> repeat' (first|with_reducible (first|refine Wk.o (by constructor) ?_|refine q_and ?_ ?_|exact True.intro)|refine q_AgS rfl ?_ ?_|exact CLe.nil_tipS|exact CLe.nil_rowS|refine HLe.cells ?_ ?_|refine HLe.els ?_ ?_|refine SLe.cons ?_ ?_|exact (rfl : known _ = _)|with_reducible rfl|omega)
 ·rfl
open Go.RowKit
theorem okWide_spot {P : Program} {w : World} {r : Reach} {base : Nat} {t e : TypeId} {v : Value} (ht : P.underlying t = some (.slice e)) (h : Value.okWide P w r base t v) {a : Addr} {len cap : Nat} (hv : v = .slice (some a) len cap) : a.spot = none := by
 subst hv
 simp only [Value.okWide, ht, Cell.okWide, Cell.ok] at h
 exact h.2.2.2.1
abbrev IsRowI (w : World) (a : Option Addr) (len cap : Nat) (zs : List Int) : Prop :=
 (a = none ∧ len = 0 ∧ cap = 0 ∧ zs = []) ∨ ∃ x, a = some x ∧ len ≤ cap ∧ cap ≤ maxLen ∧ zs.length = cap ∧ (∀ i, i < zs.length → w.cell? (x.add i) = some (.int .i64 (zs.getD i 0))) ∧ ∀ n ∈ zs, (Lit.int .i64 n).wf = true
theorem flat_int (l : List Int) : l.flatMap fInt = l.map fI := by
 induction l with
 | nil => rfl
 | cons x r ih => rw [List.flatMap_cons, ih]; rfl
theorem rowI_rep {w : World} {a : Option Addr} {len cap : Nat} {zs : List Int} (h : IsRowI w a len cap zs) (hs : ∀ x, a = some x → x.spot = none) : (∀ l, RepA w (fun _ => .lock none) id l (SV.den (.c (rInt (zs.take len)))) (.slice a len cap)) ∧ (zs.take len).length ≤ 9223372036854775807 := by
 rcases h with ⟨rfl, rfl, rfl, rfl⟩ | ⟨x, rfl, hl, hm, hz, hc, _⟩
 ·exact ⟨fun l => .nil0, by simp⟩
 ·unfold maxLen at hm
  have hlen : (zs.take len).length = len := by rw [List.length_take]; omega
  refine ⟨fun l => ?_, by omega⟩
  obtain ⟨g, o, sp⟩ := x
  have hsp : sp = none := hs _ rfl
  subst hsp
  show RepF w _ (.row ((zs.take len).flatMap fInt) (zs.take len).length) _
  rw [hlen, flat_int]
  have hcell : ∀ i (h : i < (zs.take len).length), w.cell? ⟨g, o + i, none⟩ = some (.int .i64 (zs.take len)[i]) := fun i h => by
   have h1 := hc i (by omega)
   have e : (⟨g, o, none⟩ : Addr).add i = ⟨g, o + i, none⟩ := by
    unfold Addr.add
    split
    ·rename_i h0; subst h0; rfl
    ·rfl
   rw [e] at h1
   rw [h1, List.getElem_take, List.getD_eq_getElem?_getD, List.getElem?_eq_getElem (by omega)]
   rfl
  refine repF_rowI ⟨g, o, cap, rfl, hl, ⟨fun i hi => ?_, fun hne => ?_⟩⟩
  ·rw [List.length_map] at hi
   exact ⟨_, hcell i hi, by rw [List.getElem_map]; exact RepF.v _ rfl⟩
  ·refine ⟨?_, trivial⟩
   have h0 : 0 < (zs.take len).length := List.length_pos_iff.2 (fun e => hne (by rw [e]; rfl))
   exact World.block_lt_of_cell? w _ (hcell 0 h0)
theorem law_calls {f : FuncId} {args : List AVal} (hO : Ok Try.prog f args [] (aB true) []) (w : World) (vals : Array Value) (hs : vals.size = args.length) (hr : ∀ i (h : i < args.length) (h' : i < vals.size) l, RepA w (fun _ => .lock none) id l args[i] vals[i]) (hok : ∀ x ∈ args, x.ok 0 = true) :
  Calls Try.prog f vals w fun e w' => e = .returned (.bool true) ∧ Below w.heap.size w w' := by
 refine (hO.run w (fun _ => .lock none) id vals hs hr hok ⟨fun b cs h => by simp at h, fun b cs h => by simp at h⟩).mono ?_
 rintro e w' ⟨v, κ', ρ', rfl, hv, _, hfr, _⟩
 have hv : RepF w' κ' (.v (.bool true)) v := hv (.slot 0)
 rw [(repF_v.1 hv).1]
 exact ⟨rfl, hfr.os, hfr.tape, hfr.output, hfr.size, fun k hk => (hfr.lock k none hk rfl).2⟩
end Go.Proofs.Ythnfliopmjpdmaa.Av
namespace Go.Proofs.Ythnfliopmjpdmaa
open Go.ChangeShapes Go.WideShapes Go.Deep Go.RowKit
section
variable {H : Type} {enc : TypeId × Value → H} {P : Program} {w : World} {base : Nat} {spare : Nat → Bool} {held : Bool}
def Legible (enc : TypeId × Value → H) (P : Program) (w : World) (base : Nat) (spare : Nat → Bool) (held : Bool) (t : TypeId) (v : Value) : Prop :=
 ∃ n y, DataW.trod enc P w base spare held n t [v] = some y
theorem Legible.int {t : TypeId} {v : Value} {k : IntKind} (h : Legible enc P w base spare held t v) (ht : P.underlying t = some (.int k)) : ∃ n, v = .int k n ∧ (Lit.int k n).wf = true := by
 obtain ⟨m, y, hm⟩ := h
 obtain ⟨n, e, _, hw⟩ := DataW.trod_int ht hm
 exact ⟨n, by simpa using e, hw⟩
theorem Legible.str {t : TypeId} {v : Value} (h : Legible enc P w base spare held t v) (ht : P.underlying t = some .string) : ∃ s, v = .string s ∧ s.size ≤ maxLen := by
 obtain ⟨m, y, hm⟩ := h
 obtain ⟨s, e, _, hw⟩ := DataW.trod_string ht hm
 exact ⟨s, by simpa using e, hw⟩
theorem fields_legible {t : TypeId} {fs : Array Field} {fuel : Nat} {cs : List Value} {x : DataW H × List MemPlace} (hs : P.underlying t = some (.struct fs)) (hone : oneCellFields P fs = true) (hC : P.cellsOf t = fs.size)
  (h : DataW.trod enc P w base spare held fuel t cs = some x) : cs.length = fs.size ∧ ∀ (j : Nat) (f : Field), fs[j]? = some f → ∃ v, cs[j]? = some v ∧ Legible enc P w base spare held f.type v := by
 obtain ⟨xs, n, _, _, hl, hxl, hf⟩ := DataW.trod_struct hs h
 refine ⟨hl.trans hC, fun j f hj => ?_⟩
 have hlt : j < fs.size := (Array.getElem?_eq_some_iff.1 hj).1
 have hjc : j < cs.length := by omega
 have hjx : j < xs.length := by omega
 obtain ⟨ho, hk⟩ := hone_of hone j f hj
 have h1 := hf j f hj
 have e : (cs.drop f.offset).take (P.cellsOf f.type) = [cs[j]] := by
  rw [ho, hk, List.drop_eq_getElem_cons hjc, List.take_succ_cons, List.take_zero]
 rw [e, List.getElem?_eq_getElem hjx] at h1
 exact ⟨cs[j], List.getElem?_eq_getElem hjc, n, _, h1⟩
theorem agg_legible {r : Reach} {b0 : Nat} {t : TypeId} {fs : Array Field} {v : Value} {d : DataW H} {p : List MemPlace} (hs : P.underlying t = some (.struct fs)) (hone : oneCellFields P fs = true) (hC : P.cellsOf t = fs.size)
  (hv : Value.okWide P w r b0 t v) (h : DataW.Trod enc P w base spare held t v d p) :
  ∃ cs : List Value, v = .agg cs.toArray ∧ cs.length = fs.size ∧ ∀ (j : Nat) (f : Field), fs[j]? = some f → ∃ u, cs[j]? = some u ∧ Legible enc P w base spare held f.type u := by
 obtain ⟨⟨cs⟩, rfl, _⟩ := okWide_struct hs hv
 obtain ⟨fuel, hf⟩ := h
 obtain ⟨h1, h2⟩ := fields_legible hs hone hC hf
 exact ⟨cs, rfl, by simpa [Value.cells] using h1, fun j f hj => by simpa [Value.cells] using h2 j f hj⟩
theorem rows_legible {t e : TypeId} {fs : Array Field} {v : Value} (ht : P.underlying t = some (.slice e)) (he : P.underlying e = some (.struct fs)) (hone : oneCellFields P fs = true) (hC : P.cellsOf e = fs.size) (hpos : 0 < fs.size)
  (h : Legible enc P w base spare held t v) :
  ∃ A len cap, v = .slice A len cap ∧ len ≤ cap ∧ cap ≤ maxLen ∧ ∀ i, i < len → ∃ b off, A = some ⟨b, off, none⟩ ∧ b < w.heap.size ∧
   ∀ (j : Nat) (f : Field), fs[j]? = some f → ∃ u, w.cell? ⟨b, off + i * fs.size + j, none⟩ = some u ∧ Legible enc P w base spare held f.type u := by
 obtain ⟨fuel, y, hf⟩ := h
 rcases open_slice ht hf with ⟨h0, _⟩ | ⟨a, len, cap, m, n, D, Pl, hcs, hb, hl, hm, hmm, hx, hi⟩
 ·exact ⟨none, 0, 0, by simpa using h0, Nat.le_refl _, by simp [maxLen], fun i hi => absurd hi (Nat.not_lt_zero _)⟩
 ·refine ⟨some a, len, cap, by simpa using hcs, hl, hm, fun i him => ?_⟩
  have him' : i < m := by rw [hmm]; split <;> omega
  obtain ⟨cs', hc, ht'⟩ := hi i him'
  rw [hC] at hc
  obtain ⟨hlen, hfl⟩ := fields_legible he hone hC ht'
  obtain ⟨_, hcl, hat⟩ := World.cells?_some hc
  have h0 : w.cell? (a.add (i * fs.size)) = some (cs'[0]'(by omega)) := by
   have := hat 0 hpos
   rw [List.getElem?_eq_getElem (by omega)] at this
   simpa [Addr.add] using this
  obtain ⟨b, off, spot⟩ := a
  have hspot : spot = none := by
   by_cases hz : i * fs.size = 0
   ·rw [hz] at h0; simpa [Addr.add] using World.cell?_spot h0
   ·have h00 := (hi 0 (by omega))
    obtain ⟨cs0, hc0, ht0⟩ := h00
    rw [hC] at hc0
    obtain ⟨_, hcl0, hat0⟩ := World.cells?_some hc0
    have := hat0 0 hpos
    rw [List.getElem?_eq_getElem (by omega)] at this
    simpa [Addr.add] using World.cell?_spot this
  subst hspot
  have hlt := World.block_lt_of_cell? w _ h0
  refine ⟨b, off, rfl, by simpa [Go.WideShapes.add_plain] using hlt, fun j f hj => ?_⟩
  obtain ⟨u, hu, hleg⟩ := hfl j f hj
  have hjl : j < fs.size := (Array.getElem?_eq_some_iff.1 hj).1
  have := hat j hjl
  rw [Go.WideShapes.add_plain, Go.WideShapes.add_plain, hu] at this
  exact ⟨u, this, hleg⟩
theorem row1_legible {t e : TypeId} {v : Value} (ht : P.underlying t = some (.slice e)) (hC : P.cellsOf e = 1)
  (h : Legible enc P w base spare held t v) :
  ∃ A len cap, v = .slice A len cap ∧ len ≤ cap ∧ cap ≤ maxLen ∧ ∀ i, i < len → ∃ b off, A = some ⟨b, off, none⟩ ∧ b < w.heap.size ∧
   ∃ u, w.cell? ⟨b, off + i, none⟩ = some u ∧ Legible enc P w base spare held e u := by
 obtain ⟨fuel, y, hf⟩ := h
 rcases open_slice ht hf with ⟨h0, _⟩ | ⟨a, len, cap, m, n, D, Pl, hcs, hb, hl, hm, hmm, hx, hi⟩
 ·exact ⟨none, 0, 0, by simpa using h0, Nat.le_refl _, by simp [maxLen], fun i hi => absurd hi (Nat.not_lt_zero _)⟩
 ·refine ⟨some a, len, cap, by simpa using hcs, hl, hm, fun i him => ?_⟩
  have key : ∀ k, k < m → ∃ u, w.cell? (a.add k) = some u ∧ Legible enc P w base spare held e u := by
   intro k hk
   obtain ⟨cs', hc, ht'⟩ := hi k hk
   rw [hC, Nat.mul_one] at hc
   obtain ⟨_, hcl, hat⟩ := World.cells?_some hc
   match cs', hcl with
   | [u], _ => exact ⟨u, by simpa [Addr.add] using hat 0 (by omega), n, _, ht'⟩
  have him' : i < m := by rw [hmm]; split <;> omega
  obtain ⟨u0, h0, _⟩ := key 0 (by omega)
  obtain ⟨u, hu, hleg⟩ := key i him'
  obtain ⟨b, off, spot⟩ := a
  have hspot : spot = none := by simpa [Addr.add] using World.cell?_spot h0
  subst hspot
  rw [Go.WideShapes.add_plain] at hu
  exact ⟨b, off, rfl, World.block_lt_of_cell? w _ hu, u, hu, hleg⟩
end
theorem list_of {α : Type} {Q : Nat → α → Prop} : ∀ (n : Nat), (∀ i, i < n → ∃ a, Q i a) → ∃ l : List α, l.length = n ∧ ∀ i (h : i < l.length), Q i l[i]
 | 0, _ => ⟨[], rfl, fun i h => absurd h (Nat.not_lt_zero _)⟩
 | n + 1, h => by
  obtain ⟨l, hl, hq⟩ := list_of n (fun i hi => h i (by omega))
  obtain ⟨a, ha⟩ := h n (by omega)
  refine ⟨l ++ [a], by simp [hl], fun i hi => ?_⟩
  by_cases hin : i < l.length
  ·rw [List.getElem_append_left hin]; exact hq i hin
  ·have : i = l.length := by simp at hi; omega
   subst this
   simp [hl, ha]
end Go.Proofs.Ythnfliopmjpdmaa
namespace Go.Proofs.Ythnfliopmjpdmaa.Av
open Go.ChangeShapes Go.WideShapes Go.Deep Go.RowKit
set_option maxRecDepth 100000
theorem cell_slice {P : Program} {w : World} {r : Reach} {base : Nat} {t e : TypeId} {A : Option Addr} {len cap : Nat} (ht : P.underlying t = some (.slice e)) (h : Cell.okWide P w r base t (.slice A len cap)) : (A = none ∧ len = 0 ∧ cap = 0) ∨ ∃ b o, A = some ⟨b, o, none⟩ := by
 cases A with
 | none =>
  left
  simp only [Cell.okWide, ht, Cell.ok] at h
  split at h <;> simp_all
 | some a =>
  right
  simp only [Cell.okWide, ht, Cell.ok] at h
  obtain ⟨b, o, sp⟩ := a
  have : sp = none := h.2.2.2.1
  subst this
  exact ⟨b, o, rfl⟩
theorem field_wide {P : Program} {w : World} {r : Reach} {base : Nat} {t : TypeId} {fs : Array Field} {cs : Array Value} {ts : List TypeId} (hs : P.underlying t = some (.struct fs)) (hts : P.cellTypes P.depth t = some ts) (hv : Value.okWide P w r base t (.agg cs)) {i : Nat} {u : TypeId} {v : Value} (hi : i < ts.length) (hu : ts[i]? = some u) (h : cs[i]? = some v) : Cell.okWide P w r base u v := by
 simp only [Value.okWide, hs] at hv
 obtain ⟨cs', e, _, ts', h1, _, h2⟩ := hv
 injection e with e
 subst e
 rw [hts] at h1
 injection h1 with h1
 subst h1
 obtain ⟨u', h3, h4⟩ := h2 i v h
 rw [Nat.mod_eq_of_lt hi, hu] at h3
 injection h3 with h3
 exact h3 ▸ h4
theorem flat_idx {α β : Type} (F : α → List β) (n : Nat) (hn : ∀ x, (F x).length = n) (l : List α) {i : Nat} (h : i < (l.flatMap F).length) (h0 : 0 < n) : ∃ hk : i / n < l.length, (l.flatMap F)[i]? = (F l[i / n])[i % n]? := by
 have hl := flatMap_lenB F n hn l
 have hk : i / n < l.length := by rw [Nat.div_lt_iff_lt_mul h0]; omega
 refine ⟨hk, ?_⟩
 have := flatMap_get F n hn l (i / n) (i % n) l[i / n] (List.getElem?_eq_getElem hk) (Nat.mod_lt _ h0)
 rwa [Nat.mul_comm, Nat.div_add_mod] at this
theorem row_rep {α : Type} {F : α → List FVal} {n : Nat} (hn : ∀ x, (F x).length = n) (h0 : 0 < n) {w : World} {A : Option Addr} {cap : Nat} {l : List α} (hc : l.length ≤ cap) (hs : (A = none ∧ l.length = 0 ∧ cap = 0) ∨ ∃ b o, A = some ⟨b, o, none⟩)
  (hq : ∀ i (h : i < l.length), ∃ b off, A = some ⟨b, off, none⟩ ∧ b < w.heap.size ∧ ∀ j v, (F l[i])[j]? = some v → ∃ u, w.cell? ⟨b, off + i * n + j, none⟩ = some u ∧ RepF w (fun _ => .lock none) v u) : RepF w (fun _ => .lock none) (.row (l.flatMap F) l.length) (.slice A l.length cap) := by
 rcases hs with ⟨rfl, e, rfl⟩ | ⟨b, o, rfl⟩
 ·have : l = [] := List.eq_nil_of_length_eq_zero e
  subst this
  exact .nil0
 ·refine repF_rowI ⟨b, o, cap, rfl, hc, ⟨fun i hi => ?_, fun hne => ⟨?_, trivial⟩⟩⟩
  ·obtain ⟨hk, e⟩ := flat_idx F n hn l hi h0
   obtain ⟨b', o', e1, _, hf⟩ := hq (i / n) hk
   injection e1 with e1
   injection e1 with e2 e3
   subst e2; subst e3
   rw [List.getElem?_eq_getElem hi] at e
   obtain ⟨u, h1, h2⟩ := hf (i % n) _ e.symm
   refine ⟨u, ?_, h2⟩
   rw [Nat.add_assoc, Nat.mul_comm, Nat.div_add_mod] at h1
   exact h1
  ·have hl : 0 < l.length := List.length_pos_iff.2 fun e => hne (by rw [e]; rfl)
   obtain ⟨b', o', e1, hb, _⟩ := hq 0 hl
   injection e1 with e1
   injection e1 with e2 e3
   subst e2
   exact hb
section
variable {H : Type} {enc : TypeId × Value → H} {w : World} {base : Nat} {spare : Nat → Bool} {held : Bool} {r : Reach} {b0 : Nat}
theorem open_strsA {A : Option Addr} {len cap : Nat} (hw : Cell.okWide Try.prog w r b0 25 (.slice A len cap)) (h : Legible enc Try.prog w base spare held 25 (.slice A len cap)) : ∃ l : List ByteArray, l.length = len ∧ len ≤ 9223372036854775807 ∧ Short l ∧ RepF w (fun _ => .lock none) (.row (l.flatMap fStr) l.length) (.slice A len cap) := by
 obtain ⟨A', len', cap', e, h1, h2, h3⟩ := row1_legible Try.underlying25 (by kernel_rfl) h
 injection e with e1 e2 e3
 subst e1; subst e2; subst e3
 obtain ⟨l, hl, hq⟩ := list_of (Q := fun i (s : ByteArray) => s.size ≤ 9223372036854775807 ∧ ∃ b off, A = some ⟨b, off, none⟩ ∧ b < w.heap.size ∧ w.cell? ⟨b, off + i, none⟩ = some (.string s)) len (fun i hi => by
  obtain ⟨b, off, e, hb, u, hu, lg⟩ := h3 i hi
  obtain ⟨s, rfl, hz⟩ := lg.str Try.underlying9
  exact ⟨s, by unfold maxLen at hz; omega, b, off, e, hb, hu⟩)
 subst hl
 refine ⟨l, rfl, by unfold maxLen at h2; omega, fun s hs => ?_, row_rep (n := 1) (fun x => rfl) (by omega) h1 (cell_slice Try.underlying25 hw) fun i hi => ?_⟩
 ·obtain ⟨i, hi, rfl⟩ := List.mem_iff_getElem.1 hs
  exact (hq i hi).1
 ·obtain ⟨_, b, off, e, hb, hu⟩ := hq i hi
  refine ⟨b, off, e, hb, fun j v hv => ?_⟩
  match j, hv with
  | 0, hv =>
   injection hv with hv
   subst hv
   exact ⟨_, by rw [Nat.mul_one, Nat.add_zero]; exact hu, .v _ rfl⟩
theorem open_secsA {A : Option Addr} {len cap : Nat} (hw : Cell.okWide Try.prog w r b0 26 (.slice A len cap)) (h : Legible enc Try.prog w base spare held 26 (.slice A len cap)) : ∃ l : List Sec, l.length = len ∧ len ≤ 9223372036854775807 ∧ Short (l.map Sec.nm) ∧ RepF w (fun _ => .lock none) (.row (l.flatMap fSec) l.length) (.slice A len cap) := by
 obtain ⟨A', len', cap', e, h1, h2, h3⟩ := rows_legible Try.underlying26 Try.underlying56 (by kernel_rfl) (by kernel_rfl) (by decide) h
 injection e with e1 e2 e3
 subst e1; subst e2; subst e3
 obtain ⟨l, hl, hq⟩ := list_of (Q := fun i (s : Sec) => s.nm.size ≤ 9223372036854775807 ∧ ∃ b off, A = some ⟨b, off, none⟩ ∧ b < w.heap.size ∧ ∀ j v, (fSec s)[j]? = some v → ∃ u, w.cell? ⟨b, off + i * 5 + j, none⟩ = some u ∧ RepF w (fun _ => .lock none) v u) len (fun i hi => by
  obtain ⟨b, off, e, hb, hf⟩ := h3 i hi
  obtain ⟨u0, c0, l0⟩ := hf 0 _ rfl
  obtain ⟨u1, c1, l1⟩ := hf 1 _ rfl
  obtain ⟨u2, c2, l2⟩ := hf 2 _ rfl
  obtain ⟨u3, c3, l3⟩ := hf 3 _ rfl
  obtain ⟨u4, c4, l4⟩ := hf 4 _ rfl
  obtain ⟨s, rfl, hz⟩ := l0.str Try.underlying9
  obtain ⟨n1, rfl, _⟩ := l1.int (k := .i64) Try.underlying3
  obtain ⟨n2, rfl, _⟩ := l2.int (k := .i64) Try.underlying3
  obtain ⟨n3, rfl, _⟩ := l3.int (k := .i64) Try.underlying3
  obtain ⟨n4, rfl, _⟩ := l4.int (k := .i64) Try.underlying3
  refine ⟨⟨s, n1, n2, n3, n4⟩, by unfold maxLen at hz; simp only; omega, b, off, e, hb, fun j v hv => ?_⟩
  match j, hv with
  | 0, hv => injection hv with hv; subst hv; exact ⟨_, c0, .v _ rfl⟩
  | 1, hv => injection hv with hv; subst hv; exact ⟨_, c1, .v _ rfl⟩
  | 2, hv => injection hv with hv; subst hv; exact ⟨_, c2, .v _ rfl⟩
  | 3, hv => injection hv with hv; subst hv; exact ⟨_, c3, .v _ rfl⟩
  | 4, hv => injection hv with hv; subst hv; exact ⟨_, c4, .v _ rfl⟩)
 subst hl
 refine ⟨l, rfl, by unfold maxLen at h2; omega, fun s hs => ?_, row_rep (n := 5) (fun x => rfl) (by omega) h1 (cell_slice Try.underlying26 hw) fun i hi => (hq i hi).2⟩
 obtain ⟨x, hx, rfl⟩ := List.mem_map.1 hs
 obtain ⟨i, hi, rfl⟩ := List.mem_iff_getElem.1 hx
 exact (hq i hi).1
theorem open_lnksA {A : Option Addr} {len cap : Nat} (hw : Cell.okWide Try.prog w r b0 27 (.slice A len cap)) (h : Legible enc Try.prog w base spare held 27 (.slice A len cap)) : ∃ l : List Lnk, l.length = len ∧ len ≤ 9223372036854775807 ∧ RepF w (fun _ => .lock none) (.row (l.flatMap fLnk) l.length) (.slice A len cap) := by
 obtain ⟨A', len', cap', e, h1, h2, h3⟩ := rows_legible Try.underlying27 Try.underlying58 (by kernel_rfl) (by kernel_rfl) (by decide) h
 injection e with e1 e2 e3
 subst e1; subst e2; subst e3
 obtain ⟨l, hl, hq⟩ := list_of (Q := fun i (s : Lnk) => ∃ b off, A = some ⟨b, off, none⟩ ∧ b < w.heap.size ∧ ∀ j v, (fLnk s)[j]? = some v → ∃ u, w.cell? ⟨b, off + i * 6 + j, none⟩ = some u ∧ RepF w (fun _ => .lock none) v u) len (fun i hi => by
  obtain ⟨b, off, e, hb, hf⟩ := h3 i hi
  obtain ⟨u0, c0, l0⟩ := hf 0 _ rfl
  obtain ⟨u1, c1, l1⟩ := hf 1 _ rfl
  obtain ⟨u2, c2, l2⟩ := hf 2 _ rfl
  obtain ⟨u3, c3, l3⟩ := hf 3 _ rfl
  obtain ⟨u4, c4, l4⟩ := hf 4 _ rfl
  obtain ⟨u5, c5, l5⟩ := hf 5 _ rfl
  obtain ⟨n0, rfl, _⟩ := l0.int (k := .i64) Try.underlying3
  obtain ⟨n1, rfl, _⟩ := l1.int (k := .i64) Try.underlying3
  obtain ⟨n2, rfl, _⟩ := l2.int (k := .i64) Try.underlying3
  obtain ⟨n3, rfl, _⟩ := l3.int (k := .i64) Try.underlying3
  obtain ⟨n4, rfl, _⟩ := l4.int (k := .i64) Try.underlying3
  obtain ⟨n5, rfl, _⟩ := l5.int (k := .i64) Try.underlying3
  refine ⟨⟨n0, n1, n2, n3, n4, n5⟩, b, off, e, hb, fun j v hv => ?_⟩
  match j, hv with
  | 0, hv => injection hv with hv; subst hv; exact ⟨_, c0, .v _ rfl⟩
  | 1, hv => injection hv with hv; subst hv; exact ⟨_, c1, .v _ rfl⟩
  | 2, hv => injection hv with hv; subst hv; exact ⟨_, c2, .v _ rfl⟩
  | 3, hv => injection hv with hv; subst hv; exact ⟨_, c3, .v _ rfl⟩
  | 4, hv => injection hv with hv; subst hv; exact ⟨_, c4, .v _ rfl⟩
  | 5, hv => injection hv with hv; subst hv; exact ⟨_, c5, .v _ rfl⟩)
 subst hl
 exact ⟨l, rfl, by unfold maxLen at h2; omega, row_rep (n := 6) (fun x => rfl) (by omega) h1 (cell_slice Try.underlying27 hw) hq⟩
theorem open_layA {v : Value} {d : DataW H} {p : List MemPlace} (hv : Value.okWide Try.prog w r b0 29 v) (h : DataW.Trod enc Try.prog w base spare held 29 v d p) : ∃ L : Lay, LayFits L ∧ ∀ l, RepA w (fun _ => .lock none) id l (vLay L).den v := by
 obtain ⟨cs, rfl, hl, hf⟩ := agg_legible Try.underlying29 (by kernel_rfl) (by kernel_rfl) hv h
 have hts : Try.prog.cellTypes Try.prog.depth 29 = some [25, 25, 26, 27] := by kernel_rfl
 match cs, hl with
 | [c0, c1, c2, c3], _ =>
  obtain ⟨u0, e0, l0⟩ := hf 0 _ rfl
  obtain ⟨u1, e1, l1⟩ := hf 1 _ rfl
  obtain ⟨u2, e2, l2⟩ := hf 2 _ rfl
  obtain ⟨u3, e3, l3⟩ := hf 3 _ rfl
  obtain rfl : c0 = u0 := by simpa using e0
  obtain rfl : c1 = u1 := by simpa using e1
  obtain rfl : c2 = u2 := by simpa using e2
  obtain rfl : c3 = u3 := by simpa using e3
  have w0 := field_wide Try.underlying29 hts hv (i := 0) (by decide) rfl (v := c0) rfl
  have w1 := field_wide Try.underlying29 hts hv (i := 1) (by decide) rfl (v := c1) rfl
  have w2 := field_wide Try.underlying29 hts hv (i := 2) (by decide) rfl (v := c2) rfl
  have w3 := field_wide Try.underlying29 hts hv (i := 3) (by decide) rfl (v := c3) rfl
  obtain ⟨A0, n0, k0, rfl, _⟩ := row1_legible Try.underlying25 (by kernel_rfl) l0
  obtain ⟨A1, n1, k1, rfl, _⟩ := row1_legible Try.underlying25 (by kernel_rfl) l1
  obtain ⟨A2, n2, k2, rfl, _⟩ := rows_legible Try.underlying26 Try.underlying56 (by kernel_rfl) (by kernel_rfl) (by decide) l2
  obtain ⟨A3, n3, k3, rfl, _⟩ := rows_legible Try.underlying27 Try.underlying58 (by kernel_rfl) (by kernel_rfl) (by decide) l3
  obtain ⟨a, rfl, za, sa, ra⟩ := open_strsA w0 l0
  obtain ⟨b, rfl, zb, sb, rb⟩ := open_strsA w1 l1
  obtain ⟨c, rfl, zc, sc, rc⟩ := open_secsA w2 l2
  obtain ⟨e, rfl, ze, re⟩ := open_lnksA w3 l3
  refine ⟨⟨a, b, c, e⟩, ⟨sa, sb, sc, za, zb, zc, ze⟩, fun l => ⟨_, rfl, rfl, fun i hi hi' => ?_⟩⟩
  match i, hi' with
  | 0, _ => exact ⟨rfl, ra⟩
  | 1, _ => exact ⟨rfl, rb⟩
  | 2, _ => exact ⟨rfl, rc⟩
  | 3, _ => exact ⟨rfl, re⟩
end
end Go.Proofs.Ythnfliopmjpdmaa.Av
namespace Go.Proofs.Ythnfliopmjpdmaa
open Go.RowKit Av
theorem W.LayoutbinEncodes (v0 : Value) (a1 : Option Addr) (len1 cap1 : Nat) (z1 : List Int) (a2 a3 a4 : Int) (w : World) (L : Lay) (hL : LayFits L) (r0 : ∀ l, RepA w (fun _ => .lock none) id l (vLay L).den v0) (w1 : Av.IsRowI w a1 len1 cap1 z1) (s1 : ∀ x, a1 = some x → x.spot = none) :
  Calls Try.prog 4 #[v0, .slice a1 len1 cap1, .int .i64 a2, .int .i64 a3, .int .i64 a4] w fun e w' => e = .returned (.bool true) ∧ Below w.heap.size w w' := by
 obtain ⟨h1, b1⟩ := Av.rowI_rep w1 s1
 refine Av.law_calls (Av.encodes_ok L hL _ b1 a2 a3 a4) w _ rfl (fun i hi hi' l => ?_) (fun x hx => by
  simp at hx
  rcases hx with rfl | rfl | rfl | rfl | rfl <;> rfl)
 match i, hi with
 | 0, _ => exact r0 l
 | 1, _ => exact h1 l
 | 2, _ => exact .v _ rfl
 | 3, _ => exact .v _ rfl
 | 4, _ => exact .v _ rfl
end Go.Proofs.Ythnfliopmjpdmaa
