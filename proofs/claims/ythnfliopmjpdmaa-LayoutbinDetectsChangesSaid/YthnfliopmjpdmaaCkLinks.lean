/- Contract of checkLinks. -/
import Derived.Test.YthnfliopmjpdmaaCkI
import Derived.Test.YthnfliopmjpdmaaFits
import Derived.Test.YthnfliopmjpdmaaLinkIn
import Derived.Deep.RegionLaw
namespace Go.Proofs.Ythnfliopmjpdmaa
open Go.RowKit
set_option linter.unusedVariables false

theorem info_links : (Try.prog.info? 27).map (fun i => (i.zero, i.size, i.bytes)) = some (some (.slice none 0 0), 1, 24) := by kernel_rfl
theorem info_link : (Try.prog.info? 58).map (fun i => (i.zero, i.size, i.bytes)) = some (some (.agg #[.int .i64 0, .int .i64 0, .int .i64 0, .int .i64 0, .int .i64 0, .int .i64 0]), 6, 48) := by kernel_rfl

theorem joins_any {prev : List Lnk} {a ae b be : Int} (hne : ¬ (a = b ∧ ae = be)) : (atE prev (a, ae)).any (joinsB a ae b be) = prev.any (fun j => hasE j (a, ae) && hasE j (b, be)) := by
  have key : ∀ j : Lnk, (hasE j (a, ae) && joinsB a ae b be j) = (hasE j (a, ae) && hasE j (b, be)) := by
    intro j
    rw [Bool.eq_iff_iff]
    simp [hasE, joinsB, eqE]
    omega
  unfold atE
  rw [List.any_filter]
  congr 1
  funext j
  exact key j

/-- What a round of checkLinks keeps: the table, the link's box, the boxes of its ends. -/
structure CkR (w x : World) (n : Nat) (E : Nat → List Lnk) (Vs : Nat → Value) (p5 p6 p7 : Nat) (k : Lnk) : Prop where
  tab : CkI w x n E Vs
  b5 : BoxV x p5 [.int .i64 k.a, .int .i64 k.ae, .int .i64 k.b, .int .i64 k.be, .int .i64 k.pt, .int .i64 k.ps]
  b6 : BoxV x p6 [.int .i64 k.a, .int .i64 k.ae]
  b7 : BoxV x p7 [.int .i64 k.b, .int .i64 k.be]
theorem CkR.call {w x y : World} {n : Nat} {E : Nat → List Lnk} {Vs : Nat → Value} {p5 p6 p7 : Nat} {k : Lnk} (h : CkR w x n E Vs p5 p6 p7 k) (hb : Below x.heap.size x y) : CkR w y n E Vs p5 p6 p7 k :=
  ⟨h.tab.call hb, h.b5.below hb, h.b6.below hb, h.b7.below hb⟩
theorem CkR.drewN {w x : World} {n : Nat} {E : Nat → List Lnk} {Vs : Nat → Value} {p5 p6 p7 : Nat} {k : Lnk} (h : CkR w x n E Vs p5 p6 p7 k) (m : Nat) : CkR w (x.drewN m) n E Vs p5 p6 p7 k :=
  h.call (below_draws (Below.refl _ _) m)

theorem CkI.rdAt {w x : World} {n : Nat} {E : Nat → List Lnk} {Vs : Nat → Value} (h : CkI w x n E Vs) {i : Nat} (hi : i < n) {A : Option Addr} {c : Nat} {Ea : List Lnk} (hV : Vs i = .slice A Ea.length c) (hE : E i = Ea) : RdF 6 lnkF x A Ea := by
  have := h.own i hi
  rw [hV, hE] at this
  exact this.rd lnkF_len

set_option maxHeartbeats 1000000 in
set_option maxRecDepth 100000 in
theorem checkLinks_any (V : LayV) (L : Lay) (w : World) (hR : RdLay w V L) (hs : L.secs.length ≤ 96) (hl : L.lnks.length ≤ 192) :
    Calls Try.prog 39 #[.agg #[.slice V.A1 L.sts.length V.c1, .slice V.A2 L.pts.length V.c2, .slice V.A3 L.secs.length V.c3, .slice V.A4 L.lnks.length V.c4]] w fun e w' => e = .returned (.int .i64 (linksErr L.secs.length L.pts.length [] L.lnks)) ∧ Below w.heap.size w w' := by
  obtain ⟨A1, c1, A2, c2, A3, c3, A4, c4⟩ := V
  dsimp only
  obtain ⟨R, HE⟩ : ∃ R, Hid (linksErr L.secs.length L.pts.length [] L.lnks = R) := ⟨_, Lib.hid rfl⟩
  rw [HE.out]
  obtain ⟨n, Hn⟩ : ∃ n, Hid (2 * L.secs.length = n) := ⟨_, Lib.hid rfl⟩
  have hn : n ≤ 192 := by have := Hn.out; omega
  have hni : 2 * (L.secs.length : Int) = (n : Int) := by have := Hn.out; omega
  have hmk := run_make_row' (P := Try.prog) 97 27 (.slice none 0 0) 24 Try.underlying97 info_links rfl .i64 .i64 n (by omega) (by omega)
  obtain ⟨i0, hi, hz0, hz1, hz2⟩ := info_parts info_link
  have HB0 := Lib.hid (BoxV.new w [.slice A1 L.sts.length c1, .slice A2 L.pts.length c2, .slice A3 L.secs.length c3, .slice A4 L.lnks.length c4] 29)
  have Hb0 : Hid (Below w.heap.size w (w.alloc (.cells #[.slice A1 L.sts.length c1, .slice A2 L.pts.length c2, .slice A3 L.secs.length c3, .slice A4 L.lnks.length c4] 29))) := Lib.hid ((Below.refl _ _).alloc (Nat.le_refl _) _)
  have HR0 := Lib.hid (hR.below Hb0.out)
  have hml : L.lnks.length ≤ 9223372036854775807 := by omega
  clear hR
  have hp0 : (w.alloc (.cells #[.slice A1 L.sts.length c1, .slice A2 L.pts.length c2, .slice A3 L.secs.length c3, .slice A4 L.lnks.length c4] 29)).heap.size = w.heap.size + 1 := by simp
  go_enter Try.func39, Try.ntmps39
  go_wp2
  clear hmk
  generalize hw0 : w.alloc (.cells #[.slice A1 L.sts.length c1, .slice A2 L.pts.length c2, .slice A3 L.secs.length c3, .slice A4 L.lnks.length c4] 29) = w0 at *
  obtain ⟨p, hp⟩ : ∃ p, w.heap.size = p := ⟨_, rfl⟩
  obtain ⟨r, hr⟩ : ∃ r, p + 1 = r := ⟨_, rfl⟩
  have Hr : Hid (w0.heap.size = r) := Lib.hid (by rw [hp0, hp, hr])
  have HT : Hid (CkI w0 (w0.alloc (.cells (madeCells #[.slice none 0 0] n) 27)) n (atI []) (fun _ => .slice none 0 0)) := Lib.hid (CkI.start (World.rowIs_made w0 (.slice none 0 0) n 27) ((Below.refl _ _).alloc (Nat.le_refl _) _))
  have Hpr : Hid (p < r) := Lib.hid (by omega)
  rw [hp] at HB0
  rw [hp]
  rw [hr]
  clear hw0 hp0 hr
  have Hb0' : Hid (Below p w w0) := Lib.hid (by rw [← hp]; exact Hb0.out)
  clear hp
  generalize w0.alloc (.cells (madeCells #[.slice none 0 0] n) 27) = w1 at *
  go_loopw [18] (fun i wr => ∃ (k : Nat) (Vs : Nat → Value), k ≤ L.lnks.length ∧ i = .int .i64 k ∧ Hid (linksErr L.secs.length L.pts.length (L.lnks.take k) (L.lnks.drop k) = R) ∧ Hid (CkI w0 wr n (atI (L.lnks.take k)) Vs)) (fun i _ => L.lnks.length - (intOf i).toNat)
  case atStart => exact ⟨0, _, by omega, rfl, Lib.hid (by simpa using HE.out), HT⟩
  case round =>
    obtain ⟨k, Vs, hk, rfl, HR, HI⟩ := hrel
    clear HT
    have HB := Lib.hid (HB0.out.below HI.out.bel)
    by_cases hlt : k < L.lnks.length
    · obtain ⟨b4, o4, hA4, hbl, hc⟩ := (HR0.out.below HI.out.bel).r4 k hlt
      obtain rfl : A4 = some ⟨b4, o4, none⟩ := hA4
      obtain ⟨j, Hj⟩ : ∃ j, Hid (L.lnks[k] = j) := ⟨_, Lib.hid rfl⟩
      have HR' : Hid (linksErr L.secs.length L.pts.length (L.lnks.take k) (j :: L.lnks.drop (k + 1)) = R) := Lib.hid (by rw [← Hj.out, ← List.drop_eq_getElem_cons hlt]; exact HR.out)
      have Htk : Hid (L.lnks.take (k + 1) = L.lnks.take k ++ [j]) := Lib.hid (by rw [List.take_succ_eq_append_getElem hlt, Hj.out])
      rw [Hj.out] at hc
      have q0 := hc 0 _ rfl
      have q1 := hc 1 _ rfl
      have q2 := hc 2 _ rfl
      have q3 := hc 3 _ rfl
      have q4 := hc 4 _ rfl
      have q5 := hc 5 _ rfl
      rw [Nat.add_zero] at q0
      have s0 := HB.out.2 0 _ rfl
      have s1 := HB.out.2 1 _ rfl
      have s2 := HB.out.2 2 _ rfl
      have s3 := HB.out.2 3 _ rfl
      have s4 := HB.out.1
      clear hc HR Hj
      have hba : Below wr.heap.size wr (wr.alloc (.cells #[.int .i64 j.a, .int .i64 j.ae, .int .i64 j.b, .int .i64 j.be, .int .i64 j.pt, .int .i64 j.ps] 58)) := (Below.refl _ _).alloc (Nat.le_refl _) _
      have HI1 := Lib.hid (HI.out.call hba)
      have H5 := Lib.hid (BoxV.new wr [.int .i64 j.a, .int .i64 j.ae, .int .i64 j.b, .int .i64 j.be, .int .i64 j.pt, .int .i64 j.ps] 58)
      obtain ⟨p5, hp5⟩ : ∃ p5, wr.heap.size = p5 := ⟨_, rfl⟩
      have Hold : Hid (∀ i, i < n → ∀ q, (Vs i).ownBlock = some q → q < p5) := Lib.hid (fun i hi q hq => by rw [← hp5]; exact (HI.out.blk hi hq).2)
      have Hrp : Hid (r < p5) := Lib.hid (by rw [← hp5, ← Hr.out]; exact HI.out.row.lt)
      have Hp5 := Lib.hid hp5
      clear hp5
      go_wp2_with fail
      refine (linkInRange_any ⟨A1, c1, A2, c2, A3, c3, some ⟨b4, o4, none⟩, c4⟩ L j _).mono ?_
      rintro e w2 ⟨rfl, hb2⟩
      have HI2 := Lib.hid (HI1.out.call hb2)
      have H52 := Lib.hid (H5.out.below hb2)
      rw [Hp5.out] at H52 ⊢
      clear hb2 HI1 H5 q0 q1 q2 q3 q4 q5 s0 s1 s2 s3 s4 hba HB hbl HI
      cases hin : linkB L.secs.length L.pts.length j
      · have HF : Hid (R = 4) := Lib.hid (by rw [← HR'.out]; simp [linksErr, linkErr, hin])
        clear hin
        go_wp2
        go_ret
        exact ⟨ret_int HF.out.symm, Hb0.out.trans (HI2.out.bel.mono Hb0.out.size)⟩
      · obtain ⟨l1, l2, l3, l4, l5, l6, l7, l8, l9, l10, l11, l12, l13⟩ := linkB_of hin
        have Hin := Lib.hid hin
        have H13 := Lib.hid l13
        clear hin l13
        have t0 := H52.out.2 0 _ rfl
        have t1 := H52.out.2 1 _ rfl
        have t2 := H52.out.2 2 _ rfl
        have t3 := H52.out.2 3 _ rfl
        have t4 := H52.out.2 4 _ rfl
        have t5 := H52.out.2 5 _ rfl
        have t6 := H52.out.1
        go_wp2_with fail
        refine (ends_any j _).mono ?_
        rintro e w3 ⟨rfl, hb3⟩
        have hb4 : Below w3.heap.size w3 ((w3.alloc (.cells #[.int .i64 j.a, .int .i64 j.ae] 100)).alloc (.cells #[.int .i64 j.b, .int .i64 j.be] 100)) := ((Below.refl _ _).alloc (Nat.le_refl _) _).alloc (by simp) _
        have hb5 : Below (w3.heap.size + 1) (w3.alloc (.cells #[.int .i64 j.a, .int .i64 j.ae] 100)) ((w3.alloc (.cells #[.int .i64 j.a, .int .i64 j.ae] 100)).alloc (.cells #[.int .i64 j.b, .int .i64 j.be] 100)) := (Below.refl _ _).alloc (by simp) _
        have HC : Hid (CkR w0 ((w3.alloc (.cells #[.int .i64 j.a, .int .i64 j.ae] 100)).alloc (.cells #[.int .i64 j.b, .int .i64 j.be] 100)) n (atI (L.lnks.take k)) Vs p5 w3.heap.size (w3.heap.size + 1) j) := Lib.hid
          ⟨(HI2.out.call hb3).call hb4, (H52.out.below hb3).below hb4, (BoxV.new w3 [.int .i64 j.a, .int .i64 j.ae] 100).below (by simpa using hb5), (by have := BoxV.new (w3.alloc (.cells #[.int .i64 j.a, .int .i64 j.ae] 100)) [.int .i64 j.b, .int .i64 j.be] 100; simpa using this)⟩
        clear hb3 hb4 hb5 HI2 H52 t0 t1 t2 t3 t4 t5 t6
        go_wp2
        obtain ⟨p6, hp6⟩ : ∃ p6, w3.heap.size = p6 := ⟨_, rfl⟩
        obtain ⟨p7, hp7⟩ : ∃ p7, p6 + 1 = p7 := ⟨_, rfl⟩
        rw [hp6, hp7] at HC
        rw [hp6, hp7]
        clear hp6 hp7
        generalize (w3.alloc (.cells #[.int .i64 j.a, .int .i64 j.ae] 100)).alloc (.cells #[.int .i64 j.b, .int .i64 j.be] 100) = W3 at *
        obtain ⟨ia, hia⟩ := Int.eq_ofNat_of_zero_le (show 0 ≤ 2 * j.a + j.ae by omega)
        obtain ⟨ib, hib⟩ := Int.eq_ofNat_of_zero_le (show 0 ≤ 2 * j.b + j.be by omega)
        have ha : ia < n := by have := Hn.out; omega
        have hb : ib < n := by have := Hn.out; omega
        have Hia := Lib.hid hia
        have Hib := Lib.hid hib
        clear hia hib
        obtain ⟨Z, hZ, f, hS, hof⟩ := classOf (fun x => CkR w0 x n (atI (L.lnks.take k)) Vs p5 p6 p7 j) (HC.out.drewN 1)
        have z0 : ∀ z, (f z).cell? ⟨p6, 0, none⟩ = some (.int .i64 j.a) := fun z => (hS z).b6.2 0 _ rfl
        have z1 : ∀ z, (f z).cell? ⟨p6, 1, none⟩ = some (.int .i64 j.ae) := fun z => (hS z).b6.2 1 _ rfl
        have z2 : ∀ z, (f z).cell? ⟨p7, 0, none⟩ = some (.int .i64 j.b) := fun z => (hS z).b7.2 0 _ rfl
        have z3 : ∀ z, (f z).cell? ⟨p7, 1, none⟩ = some (.int .i64 j.be) := fun z => (hS z).b7.2 1 _ rfl
        have HS := Lib.hid hS
        have Hof := Lib.hid hof
        clear hS hof
        refine wp_region_qtail (fun w' => ∃ z : Z, w' = f z) 9 (by kernel_rfl) (by kernel_rfl) (Hof.out _ (HC.out.drewN 1)) ?_
        simp only [List.take_succ_cons, List.take_zero, List.drop_succ_cons, List.drop_zero]
        (repeat (go_big_quiet_step ((go_at_call 56; first
          | with_reducible exact (index_any j.a j.ae _ (by omega) (by omega) (by omega) (by omega)).mono fun e w'' ⟨he, hbb⟩ => ⟨he.trans (ret_int Hia.out), Hof.out _ ((HS.out _).call hbb)⟩
          | with_reducible exact (index_any j.b j.be _ (by omega) (by omega) (by omega) (by omega)).mono fun e w'' ⟨he, hbb⟩ => ⟨he.trans (ret_int Hib.out), Hof.out _ ((HS.out _).call hbb)⟩))))
        refine wpQuiet_nil ?_
        intro w4 hw4
        obtain ⟨z4, hw4⟩ := hw4
        have HC4 := Lib.hid (HS.out z4)
        rw [← hw4] at HC4
        clear hw4 z0 z1 z2 z3 HS Hof HC
        clear hZ f Z z4
        obtain ⟨Ea, HEa⟩ : ∃ Ea, Hid (atI (L.lnks.take k) ia = Ea) := ⟨_, Lib.hid rfl⟩
        obtain ⟨Eb, HEb⟩ : ∃ Eb, Hid (atI (L.lnks.take k) ib = Eb) := ⟨_, Lib.hid rfl⟩
        obtain ⟨Aa, ca, hVa, hca1, hca2⟩ := (HC4.out.tab.own ia ha).shape
        obtain ⟨Ab, cb, hVb, hcb1, hcb2⟩ := (HC4.out.tab.own ib hb).shape
        rw [HEa.out] at hVa hca1
        rw [HEb.out] at hVb hcb1
        have HVa := Lib.hid hVa
        have HVb := Lib.hid hVb
        clear hVa hVb
        have g0 := HC4.out.b6.2 0 _ rfl
        have g1 := HC4.out.b6.2 1 _ rfl
        have g2 := HC4.out.b7.2 0 _ rfl
        have g3 := HC4.out.b7.2 1 _ rfl
        have heq := eql_end
        cases hsame : eqE j.a j.ae j.b j.be
        · go_wp2
          clear g0 g1 g2 g3 heq
          have hne : ¬ (j.a = j.b ∧ j.ae = j.be) := by simpa [eqE] using hsame
          obtain ⟨J, HJ⟩ : ∃ J, Hid (Ea.any (joinsB j.a j.ae j.b j.be) = J) := ⟨_, Lib.hid rfl⟩
          have Hne := Lib.hid hne
          clear hne hsame
          obtain ⟨Z, hZ, f, hS, hof⟩ := classOf (fun x => CkR w0 x n (atI (L.lnks.take k)) Vs p5 p6 p7 j) (HC4.out.drewN 1)
          have z0 : ∀ z, (f z).cell? ⟨p6, 0, none⟩ = some (.int .i64 j.a) := fun z => (hS z).b6.2 0 _ rfl
          have z1 : ∀ z, (f z).cell? ⟨p6, 1, none⟩ = some (.int .i64 j.ae) := fun z => (hS z).b6.2 1 _ rfl
          have z2 : ∀ z, (f z).cell? ⟨p7, 0, none⟩ = some (.int .i64 j.b) := fun z => (hS z).b7.2 0 _ rfl
          have z3 : ∀ z, (f z).cell? ⟨p7, 1, none⟩ = some (.int .i64 j.be) := fun z => (hS z).b7.2 1 _ rfl
          have z4 : ∀ z, (f z).cell? ⟨p5, 0, none⟩ = some (.int .i64 j.a) := fun z => (hS z).b5.2 0 _ rfl
          have z5 : ∀ z, (f z).cell? ⟨p5, 1, none⟩ = some (.int .i64 j.ae) := fun z => (hS z).b5.2 1 _ rfl
          have z6 : ∀ z, (f z).cell? ⟨p5, 2, none⟩ = some (.int .i64 j.b) := fun z => (hS z).b5.2 2 _ rfl
          have z7 : ∀ z, (f z).cell? ⟨p5, 3, none⟩ = some (.int .i64 j.be) := fun z => (hS z).b5.2 3 _ rfl
          have z8 : ∀ z, (f z).cell? ⟨p5, 4, none⟩ = some (.int .i64 j.pt) := fun z => (hS z).b5.2 4 _ rfl
          have z9 : ∀ z, (f z).cell? ⟨p5, 5, none⟩ = some (.int .i64 j.ps) := fun z => (hS z).b5.2 5 _ rfl
          have za : ∀ z, (f z).cell? ⟨r, ia, none⟩ = some (.slice Aa Ea.length ca) := fun z => by have := (hS z).tab.row.cell (i := ia) ha; rw [HVa.out, Hr.out] at this; exact this
          have zb : ∀ z, (f z).cell? ⟨r, ib, none⟩ = some (.slice Ab Eb.length cb) := fun z => by have := (hS z).tab.row.cell (i := ib) hb; rw [HVb.out, Hr.out] at this; exact this
          have HS := Lib.hid hS
          have Hof := Lib.hid hof
          clear hS hof
          refine wp_region_qtail (fun w' => ∃ z : Z, w' = f z) 6 (by kernel_rfl) (by kernel_rfl) (Hof.out _ (HC4.out.drewN 1)) ?_
          simp only [List.take_succ_cons, List.take_zero, List.drop_succ_cons, List.drop_zero]
          (repeat (go_big_quiet_step ((go_at_call 57; with_reducible exact (joined_any Aa ca Ea j.a j.ae j.b j.be _ ((HS.out _).tab.rdAt ha HVa.out HEa.out) (by omega)).mono fun e w'' ⟨he, hbb⟩ => ⟨he.trans (ret_bool HJ.out), Hof.out _ ((HS.out _).call hbb)⟩))))
          refine wpQuiet_nil ?_
          intro w5 hw4
          obtain ⟨zz, hw4⟩ := hw4
          have HC5 := Lib.hid (HS.out zz)
          rw [← hw4] at HC5
          clear hw4 zz z0 z1 z2 z3 z4 z5 z6 z7 z8 z9 za zb HS Hof HC4 hZ f Z
          have HEa' : Hid (atE (L.lnks.take k) (j.a, j.ae) = Ea) := Lib.hid (by rw [← HEa.out]; unfold atI; rw [endOf_at l1 l5 l6 Hia.out])
          have HEb' : Hid (atE (L.lnks.take k) (j.b, j.be) = Eb) := Lib.hid (by rw [← HEb.out]; unfold atI; rw [endOf_at l3 l7 l8 Hib.out])
          have HJ' : Hid ((L.lnks.take k).any (fun i => hasE i (j.a, j.ae) && hasE i (j.b, j.be)) = J) := Lib.hid (by rw [← joins_any Hne.out, HEa'.out]; exact HJ.out)
          have Hpair : Hid ((j.a, j.ae) ≠ (j.b, j.be)) := Lib.hid (fun h => Hne.out ⟨by injection h, by injection h⟩)
          cases J
          · obtain ⟨Fa, HFa⟩ : ∃ Fa, Hid (fitB j Ea = Fa) := ⟨_, Lib.hid rfl⟩
            obtain ⟨Fb, HFb⟩ : ∃ Fb, Hid (fitB j Eb = Fb) := ⟨_, Lib.hid rfl⟩
            have HLE : Hid (linkErr L.secs.length L.pts.length (L.lnks.take k) j = if Fa = false ∨ Fb = false then 11 else 0) := Lib.hid (by
              unfold linkErr
              rw [if_neg (by rw [Hin.out]; decide), if_neg Hpair.out, if_neg (by rw [HJ'.out]; decide), HEa'.out, HEb'.out, HFa.out, HFb.out])
            go_wp2
            obtain ⟨Z, hZ, f, hS, hof⟩ := classOf (fun x => CkR w0 x n (atI (L.lnks.take k)) Vs p5 p6 p7 j) (HC5.out.drewN 1)
            have z0 : ∀ z, (f z).cell? ⟨p6, 0, none⟩ = some (.int .i64 j.a) := fun z => (hS z).b6.2 0 _ rfl
            have z1 : ∀ z, (f z).cell? ⟨p6, 1, none⟩ = some (.int .i64 j.ae) := fun z => (hS z).b6.2 1 _ rfl
            have z2 : ∀ z, (f z).cell? ⟨p7, 0, none⟩ = some (.int .i64 j.b) := fun z => (hS z).b7.2 0 _ rfl
            have z3 : ∀ z, (f z).cell? ⟨p7, 1, none⟩ = some (.int .i64 j.be) := fun z => (hS z).b7.2 1 _ rfl
            have z4 : ∀ z, (f z).cell? ⟨p5, 0, none⟩ = some (.int .i64 j.a) := fun z => (hS z).b5.2 0 _ rfl
            have z5 : ∀ z, (f z).cell? ⟨p5, 1, none⟩ = some (.int .i64 j.ae) := fun z => (hS z).b5.2 1 _ rfl
            have z6 : ∀ z, (f z).cell? ⟨p5, 2, none⟩ = some (.int .i64 j.b) := fun z => (hS z).b5.2 2 _ rfl
            have z7 : ∀ z, (f z).cell? ⟨p5, 3, none⟩ = some (.int .i64 j.be) := fun z => (hS z).b5.2 3 _ rfl
            have z8 : ∀ z, (f z).cell? ⟨p5, 4, none⟩ = some (.int .i64 j.pt) := fun z => (hS z).b5.2 4 _ rfl
            have z9 : ∀ z, (f z).cell? ⟨p5, 5, none⟩ = some (.int .i64 j.ps) := fun z => (hS z).b5.2 5 _ rfl
            have za : ∀ z, (f z).cell? ⟨r, ia, none⟩ = some (.slice Aa Ea.length ca) := fun z => by have := (hS z).tab.row.cell (i := ia) ha; rw [HVa.out, Hr.out] at this; exact this
            have zb : ∀ z, (f z).cell? ⟨r, ib, none⟩ = some (.slice Ab Eb.length cb) := fun z => by have := (hS z).tab.row.cell (i := ib) hb; rw [HVb.out, Hr.out] at this; exact this
            have HS := Lib.hid hS
            have Hof := Lib.hid hof
            clear hS hof
            refine wp_region_qtail (fun w' => ∃ z : Z, w' = f z) 6 (by kernel_rfl) (by kernel_rfl) (Hof.out _ (HC5.out.drewN 1)) ?_
            simp only [List.take_succ_cons, List.take_zero, List.drop_succ_cons, List.drop_zero]
            (repeat (go_big_quiet_step ((go_at_call 58; with_reducible exact (fits_any j Aa ca Ea _ ((HS.out _).tab.rdAt ha HVa.out HEa.out) (by omega)).mono fun e w'' ⟨he, hbb⟩ => ⟨he.trans (ret_bool HFa.out), Hof.out _ ((HS.out _).call hbb)⟩))))
            refine wpQuiet_nil ?_
            intro w6 hw4
            obtain ⟨zz, hw4⟩ := hw4
            have HC6 := Lib.hid (HS.out zz)
            rw [← hw4] at HC6
            clear hw4 zz z0 z1 z2 z3 z4 z5 z6 z7 z8 z9 za zb HS Hof HC5 hZ f Z
            cases Fa
            · have HF : Hid (R = 11) := Lib.hid (by rw [← HR'.out]; simp [linksErr, HLE.out])
              go_wp2
              go_ret
              exact ⟨ret_int HF.out.symm, Hb0.out.trans (HC6.out.tab.bel.mono Hb0.out.size)⟩
            · go_wp2
              obtain ⟨Z, hZ, f, hS, hof⟩ := classOf (fun x => CkR w0 x n (atI (L.lnks.take k)) Vs p5 p6 p7 j) (HC6.out.drewN 1)
              have z0 : ∀ z, (f z).cell? ⟨p6, 0, none⟩ = some (.int .i64 j.a) := fun z => (hS z).b6.2 0 _ rfl
              have z1 : ∀ z, (f z).cell? ⟨p6, 1, none⟩ = some (.int .i64 j.ae) := fun z => (hS z).b6.2 1 _ rfl
              have z2 : ∀ z, (f z).cell? ⟨p7, 0, none⟩ = some (.int .i64 j.b) := fun z => (hS z).b7.2 0 _ rfl
              have z3 : ∀ z, (f z).cell? ⟨p7, 1, none⟩ = some (.int .i64 j.be) := fun z => (hS z).b7.2 1 _ rfl
              have z4 : ∀ z, (f z).cell? ⟨p5, 0, none⟩ = some (.int .i64 j.a) := fun z => (hS z).b5.2 0 _ rfl
              have z5 : ∀ z, (f z).cell? ⟨p5, 1, none⟩ = some (.int .i64 j.ae) := fun z => (hS z).b5.2 1 _ rfl
              have z6 : ∀ z, (f z).cell? ⟨p5, 2, none⟩ = some (.int .i64 j.b) := fun z => (hS z).b5.2 2 _ rfl
              have z7 : ∀ z, (f z).cell? ⟨p5, 3, none⟩ = some (.int .i64 j.be) := fun z => (hS z).b5.2 3 _ rfl
              have z8 : ∀ z, (f z).cell? ⟨p5, 4, none⟩ = some (.int .i64 j.pt) := fun z => (hS z).b5.2 4 _ rfl
              have z9 : ∀ z, (f z).cell? ⟨p5, 5, none⟩ = some (.int .i64 j.ps) := fun z => (hS z).b5.2 5 _ rfl
              have za : ∀ z, (f z).cell? ⟨r, ia, none⟩ = some (.slice Aa Ea.length ca) := fun z => by have := (hS z).tab.row.cell (i := ia) ha; rw [HVa.out, Hr.out] at this; exact this
              have zb : ∀ z, (f z).cell? ⟨r, ib, none⟩ = some (.slice Ab Eb.length cb) := fun z => by have := (hS z).tab.row.cell (i := ib) hb; rw [HVb.out, Hr.out] at this; exact this
              have HS := Lib.hid hS
              have Hof := Lib.hid hof
              clear hS hof
              refine wp_region_qtail (fun w' => ∃ z : Z, w' = f z) 6 (by kernel_rfl) (by kernel_rfl) (Hof.out _ (HC6.out.drewN 1)) ?_
              simp only [List.take_succ_cons, List.take_zero, List.drop_succ_cons, List.drop_zero]
              (repeat (go_big_quiet_step ((go_at_call 58; with_reducible exact (fits_any j Ab cb Eb _ ((HS.out _).tab.rdAt hb HVb.out HEb.out) (by omega)).mono fun e w'' ⟨he, hbb⟩ => ⟨he.trans (ret_bool HFb.out), Hof.out _ ((HS.out _).call hbb)⟩))))
              refine wpQuiet_nil ?_
              intro w7 hw4
              obtain ⟨zz, hw4⟩ := hw4
              have HC7 := Lib.hid (HS.out zz)
              rw [← hw4] at HC7
              clear hw4 zz z0 z1 z2 z3 z4 z5 z6 z7 z8 z9 za zb HS Hof HC6 hZ f Z
              cases Fb
              · have HF : Hid (R = 11) := Lib.hid (by rw [← HR'.out]; simp [linksErr, HLE.out])
                go_wp2
                go_ret
                exact ⟨ret_int HF.out.symm, Hb0.out.trans (HC7.out.tab.bel.mono Hb0.out.size)⟩
              · have HR2 : Hid (linksErr L.secs.length L.pts.length (L.lnks.take (k + 1)) (L.lnks.drop (k + 1)) = R) := Lib.hid (by rw [Htk.out, ← HR'.out]; simp [linksErr, HLE.out])
                go_wp2
                have y0 := HC7.out.b5.2 0 _ rfl
                have y1 := HC7.out.b5.2 1 _ rfl
                have y2 := HC7.out.b5.2 2 _ rfl
                have y3 := HC7.out.b5.2 3 _ rfl
                have y4 := HC7.out.b5.2 4 _ rfl
                have y5 := HC7.out.b5.2 5 _ rfl
                have y6 := HC7.out.b5.1
                have ya : w7.cell? ⟨r, ia, none⟩ = some (.slice Aa Ea.length ca) := by have := HC7.out.tab.row.cell (i := ia) ha; rw [HVa.out, Hr.out] at this; exact this
                have yr : r < w7.heap.size := by have := HC7.out.tab.row.lt; rw [Hr.out] at this; exact this
                have hEa : Ea.length ≤ 192 := by rw [← HEa.out]; unfold atI atE; have := List.length_filter_le (fun k => hasE k (endOf ia)) (L.lnks.take k); rw [List.length_take] at this; omega
                have hEb : Eb.length ≤ 192 := by rw [← HEb.out]; unfold atI atE; have := List.length_filter_le (fun k => hasE k (endOf ib)) (L.lnks.take k); rw [List.length_take] at this; omega
                have HT7 : Hid (CkI w0 (w7.alloc (.cells #[.int .i64 j.a, .int .i64 j.ae, .int .i64 j.b, .int .i64 j.be, .int .i64 j.pt, .int .i64 j.ps] 58)).drew n (atI (L.lnks.take k)) Vs) := Lib.hid (HC7.out.tab.call ((Below.refl _ _).alloc (Nat.le_refl _) _).drew)
                have Hown : Hid ((w7.alloc (.cells #[.int .i64 j.a, .int .i64 j.ae, .int .i64 j.b, .int .i64 j.be, .int .i64 j.pt, .int .i64 j.ps] 58)).drew.ownsRow (w0.heap.size + 1) 58 6 (.slice Aa Ea.length ca) Ea.length (Ea.flatMap lnkF)) := Lib.hid (by have := HT7.out.own ia ha; rw [HVa.out, HEa.out] at this; exact this)
                have Hnews : Hid (∀ j' u, (lnkF j)[j']? = some u → (w7.alloc (.cells #[.int .i64 j.a, .int .i64 j.ae, .int .i64 j.b, .int .i64 j.be, .int .i64 j.pt, .int .i64 j.ps] 58)).drew.cell? ((⟨w7.heap.size, 0, none⟩ : Addr).add j') = some u) := Lib.hid (World.news_of_block (w := w7.alloc (.cells #[.int .i64 j.a, .int .i64 j.ae, .int .i64 j.b, .int .i64 j.be, .int .i64 j.pt, .int .i64 j.ps] 58)) (heap_alloc_new w7 _))
                have Hone : Hid (∀ u ∈ lnkF j, u.oneCell' = true) := Lib.hid (by intro u hu; simp [lnkF] at hu; rcases hu with rfl | rfl | rfl | rfl | rfl | rfl <;> rfl)
                have Hbase : Hid (w0.heap.size + 1 ≤ (w7.alloc (.cells #[.int .i64 j.a, .int .i64 j.ae, .int .i64 j.b, .int .i64 j.be, .int .i64 j.pt, .int .i64 j.ps] 58)).drew.heap.size) := Lib.hid (by have := HC7.out.tab.row.lt; show _ ≤ (w7.alloc _).heap.size; simp; omega)
                have Hrow : Hid (∀ w8, (w7.alloc (.cells #[.int .i64 j.a, .int .i64 j.ae, .int .i64 j.b, .int .i64 j.be, .int .i64 j.pt, .int .i64 j.ps] 58)).drew.grownBy w8 (Value.slice Aa Ea.length ca).ownBlock → w8.cell? ⟨r, ia, none⟩ = some (.slice Aa Ea.length ca) ∧ w8.frozen? ⟨r, ia, none⟩ = false) := Lib.hid (fun w8 hg => by
                  have hne : some w0.heap.size ≠ (Value.slice Aa Ea.length ca).ownBlock := fun e => by
                    rw [← HVa.out] at e
                    have := HT7.out.blk ha e.symm; omega
                  have hrow := HT7.out.row.of_block (hg.block _ HT7.out.row.lt hne)
                  have h1 := hrow.cell (i := ia) ha
                  have h2 := hrow.frozen ia
                  rw [HVa.out, Hr.out] at h1
                  rw [Hr.out] at h2
                  exact ⟨h1, h2⟩)
                go_region_law (refine step_append_lies _ (by rfl) (.tmp 66) (.tmp 68) 27 (by rfl) (w0.heap.size + 1) 58 i0 _ 6 48 Try.underlying27 hi hz0 hz1 hz2 rfl (by omega) (.slice Aa Ea.length ca) Ea.length (Ea.flatMap lnkF) (by simp [Act.eval]) Hown.out ⟨w7.heap.size, 0, none⟩ 1 1 (lnkF j) (by simp [Act.eval]) rfl Hnews.out Hone.out (by omega) (by unfold maxLen; omega) (by omega) Hbase.out (w7.heap.size + 1) (by simp) ?_; intro g8 cap8 w8 ho8 hg8 hat8 hlt8; obtain ⟨x1, x2⟩ := Hrow.out w8 hg8)
                all_goals
                  have HT8 : Hid (CkI w0 (w8.setCell ⟨r, ia, none⟩ (.slice (some ⟨g8, 0, none⟩) (Ea.length + 1) cap8)) n (fun i => if i = ia then Ea ++ [j] else atI (L.lnks.take k) i) (fun i => if i = ia then .slice (some ⟨g8, 0, none⟩) (Ea.length + 1) cap8 else Vs i)) := Lib.hid (by
                    have h := HT7.out.put ha j (g := g8) (cap := cap8) (by rw [HEa.out]; exact ho8) (by rw [HVa.out]; exact hg8) (by rw [HVa.out]; exact hat8.imp id (fun e => by rw [e]; show _ = (w7.alloc _).heap.size; simp))
                    rw [HEa.out, Hr.out] at h; exact h)
                  have H58 : Hid (BoxV (w8.setCell ⟨r, ia, none⟩ (.slice (some ⟨g8, 0, none⟩) (Ea.length + 1) cap8)) p5 [.int .i64 j.a, .int .i64 j.ae, .int .i64 j.b, .int .i64 j.be, .int .i64 j.pt, .int .i64 j.ps]) := Lib.hid (((HC7.out.b5.below ((Below.refl _ _).alloc (Nat.le_refl _) (.cells #[.int .i64 j.a, .int .i64 j.ae, .int .i64 j.b, .int .i64 j.be, .int .i64 j.pt, .int .i64 j.ps] 58)).drew).grown hg8 (fun e => by rw [← HVa.out] at e; have := Hold.out ia ha p5 e.symm; omega)).far (by have := Hrp.out; show p5 ≠ r; omega) _)
                  clear ho8 hg8 hat8 hlt8 x1 x2 HT7 Hown Hnews Hbase Hrow HC7 y0 y1 y2 y3 y4 y5 y6 ya yr
                  generalize w8.setCell ⟨r, ia, none⟩ (.slice (some ⟨g8, 0, none⟩) (Ea.length + 1) cap8) = w9 at *
                  have hab : ib ≠ ia := fun e => Hne.out (by have := Hia.out; have := Hib.out; omega)
                  have Hab := Lib.hid hab
                  clear hab
                  obtain ⟨V1, HV1⟩ : ∃ V1, Hid ((fun i => if i = ia then .slice (some ⟨g8, 0, none⟩) (Ea.length + 1) cap8 else Vs i) = V1) := ⟨_, Lib.hid rfl⟩
                  obtain ⟨E1, HE1⟩ : ∃ E1, Hid ((fun i => if i = ia then Ea ++ [j] else atI (L.lnks.take k) i) = E1) := ⟨_, Lib.hid rfl⟩
                  rw [HV1.out, HE1.out] at HT8
                  have HVb1 : Hid (V1 ib = .slice Ab Eb.length cb) := Lib.hid (by rw [← HV1.out]; simp only [if_neg Hab.out]; exact HVb.out)
                  have HEb1 : Hid (E1 ib = Eb) := Lib.hid (by rw [← HE1.out]; simp only [if_neg Hab.out]; exact HEb.out)
                  have y0 := H58.out.2 0 _ rfl
                  have y1 := H58.out.2 1 _ rfl
                  have y2 := H58.out.2 2 _ rfl
                  have y3 := H58.out.2 3 _ rfl
                  have y4 := H58.out.2 4 _ rfl
                  have y5 := H58.out.2 5 _ rfl
                  have y6 := H58.out.1
                  have ya : w9.cell? ⟨r, ib, none⟩ = some (.slice Ab Eb.length cb) := by have := HT8.out.row.cell (i := ib) hb; rw [HVb1.out, Hr.out] at this; exact this
                  have yr : r < w9.heap.size := by have := HT8.out.row.lt; rw [Hr.out] at this; exact this
                  have HT9 : Hid (CkI w0 (w9.alloc (.cells #[.int .i64 j.a, .int .i64 j.ae, .int .i64 j.b, .int .i64 j.be, .int .i64 j.pt, .int .i64 j.ps] 58)).drew n E1 V1) := Lib.hid (HT8.out.call ((Below.refl _ _).alloc (Nat.le_refl _) _).drew)
                  have Hown : Hid ((w9.alloc (.cells #[.int .i64 j.a, .int .i64 j.ae, .int .i64 j.b, .int .i64 j.be, .int .i64 j.pt, .int .i64 j.ps] 58)).drew.ownsRow (w0.heap.size + 1) 58 6 (.slice Ab Eb.length cb) Eb.length (Eb.flatMap lnkF)) := Lib.hid (by have := HT9.out.own ib hb; rw [HVb1.out, HEb1.out] at this; exact this)
                  have Hnews : Hid (∀ j' u, (lnkF j)[j']? = some u → (w9.alloc (.cells #[.int .i64 j.a, .int .i64 j.ae, .int .i64 j.b, .int .i64 j.be, .int .i64 j.pt, .int .i64 j.ps] 58)).drew.cell? ((⟨w9.heap.size, 0, none⟩ : Addr).add j') = some u) := Lib.hid (World.news_of_block (w := w9.alloc (.cells #[.int .i64 j.a, .int .i64 j.ae, .int .i64 j.b, .int .i64 j.be, .int .i64 j.pt, .int .i64 j.ps] 58)) (heap_alloc_new w9 _))
                  have Hbase : Hid (w0.heap.size + 1 ≤ (w9.alloc (.cells #[.int .i64 j.a, .int .i64 j.ae, .int .i64 j.b, .int .i64 j.be, .int .i64 j.pt, .int .i64 j.ps] 58)).drew.heap.size) := Lib.hid (by have := HT8.out.row.lt; show _ ≤ (w9.alloc _).heap.size; simp; omega)
                  have Hrow : Hid (∀ w10, (w9.alloc (.cells #[.int .i64 j.a, .int .i64 j.ae, .int .i64 j.b, .int .i64 j.be, .int .i64 j.pt, .int .i64 j.ps] 58)).drew.grownBy w10 (Value.slice Ab Eb.length cb).ownBlock → w10.cell? ⟨r, ib, none⟩ = some (.slice Ab Eb.length cb) ∧ w10.frozen? ⟨r, ib, none⟩ = false) := Lib.hid (fun w10 hg => by
                    have hne : some w0.heap.size ≠ (Value.slice Ab Eb.length cb).ownBlock := fun e => by
                      rw [← HVb1.out] at e
                      have := HT9.out.blk hb e.symm; omega
                    have hrow := HT9.out.row.of_block (hg.block _ HT9.out.row.lt hne)
                    have h1 := hrow.cell (i := ib) hb
                    have h2 := hrow.frozen ib
                    rw [HVb1.out, Hr.out] at h1
                    rw [Hr.out] at h2
                    exact ⟨h1, h2⟩)
                  go_wp2
                  go_region_law (refine step_append_lies _ (by rfl) (.tmp 74) (.tmp 76) 27 (by rfl) (w0.heap.size + 1) 58 i0 _ 6 48 Try.underlying27 hi hz0 hz1 hz2 rfl (by omega) (.slice Ab Eb.length cb) Eb.length (Eb.flatMap lnkF) (by simp [Act.eval]) Hown.out ⟨w9.heap.size, 0, none⟩ 1 1 (lnkF j) (by simp [Act.eval]) rfl Hnews.out Hone.out (by omega) (by unfold maxLen; omega) (by omega) Hbase.out (w9.heap.size + 1) (by simp) ?_; intro g10 cap10 w10 ho10 hg10 hat10 hlt10; obtain ⟨x1, x2⟩ := Hrow.out w10 hg10)
                  all_goals
                    have HT10 : Hid (∃ V2, CkI w0 (w10.setCell ⟨r, ib, none⟩ (.slice (some ⟨g10, 0, none⟩) (Eb.length + 1) cap10)) n (atI (L.lnks.take (k + 1))) V2) := Lib.hid (by
                      have h := HT9.out.put hb j (g := g10) (cap := cap10) (by rw [HEb1.out]; exact ho10) (by rw [HVb1.out]; exact hg10) (by rw [HVb1.out]; exact hat10.imp id (fun e => by rw [e]; show _ = (w9.alloc _).heap.size; simp))
                      rw [HEb1.out, Hr.out] at h
                      refine ⟨_, h.congr (fun i hi => ?_)⟩
                      have hs := atI_step (prev := L.lnks.take k) l1 l5 l6 l3 l7 l8 Hia.out Hib.out (Ne.symm Hab.out) i
                      rw [if_neg Hab.out, HEa.out, HEb.out] at hs
                      rw [Htk.out, ← hs, ← HE1.out])
                    clear ho10 hg10 hat10 hlt10 x1 x2 HT9 Hown Hnews Hbase Hrow y0 y1 y2 y3 y4 y5 y6 ya yr HT8 H58
                    generalize w10.setCell ⟨r, ib, none⟩ (.slice (some ⟨g10, 0, none⟩) (Eb.length + 1) cap10) = w11 at *
                    obtain ⟨V2, hT⟩ := HT10.out
                    have HT11 := Lib.hid hT
                    clear hT HT10
                    go_wp2
                    go_roundw
                    case rel => exact ⟨k + 1, V2, by omega, by go_num, HR2, HT11⟩
                    case measure => simp [intOf]; omega
          · have HF : Hid (R = 5) := Lib.hid (by
              have : linkErr L.secs.length L.pts.length (L.lnks.take k) j = 5 := by
                unfold linkErr
                rw [if_neg (by rw [Hin.out]; decide), if_neg Hpair.out, if_pos HJ'.out]
              rw [← HR'.out]; simp [linksErr, this])
            go_wp2
            go_ret
            exact ⟨ret_int HF.out.symm, Hb0.out.trans (HC5.out.tab.bel.mono Hb0.out.size)⟩
        · have HF : Hid (R = 1) := Lib.hid (by
            have : (j.a, j.ae) = (j.b, j.be) := by simp [eqE] at hsame; rw [hsame.1, hsame.2]
            rw [← HR'.out]; simp [linksErr, linkErr, Hin.out, this])
          go_wp2
          go_ret
          exact ⟨ret_int HF.out.symm, Hb0.out.trans (HC4.out.tab.bel.mono Hb0.out.size)⟩
    · have HF : Hid (R = 0) := Lib.hid (by rw [← HR.out, List.drop_of_length_le (by omega)]; rfl)
      go_wp2
      go_ret
      exact ⟨ret_int HF.out.symm, Hb0.out.trans (HI.out.bel.mono Hb0.out.size)⟩
end Go.Proofs.Ythnfliopmjpdmaa
