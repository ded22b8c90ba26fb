/- Contract of the reference's Speeds. -/
import Derived.Test.YtjmiddhdbimaaaaRef6b
import Derived.Test.YtjmiddhdbimaaaaRefSqrt
import Derived.Test.YtjmiddhdbimaaaaRef6Plain
import Derived.Test.YtjmiddhdbimaaaaDyn4
namespace Go.Proofs.Ytjmiddhdbimaaaa
open Go.RowKit
set_option linter.unusedVariables false

theorem refSpeeds_bad (A : Option Addr) (cap : Nat) (cs : List (Int × Int)) (start : Int) (nm : ByteArray) (l sp ac br : Int) (w : World) (hR : RdC w A cs) (hl : cs.length ≤ 9223372036854775807) (hbad : badRun cs start l sp ac br ≠ 0) :
    Calls Try.prog 29 #[.slice A cs.length cap, .int .i64 start, .agg #[.string nm, .int .i64 l, .int .i64 sp, .int .i64 ac, .int .i64 br]] w fun e w' => e = .returned (.tuple #[.slice none 0 0, .int .i64 (badRun cs start l sp ac br)]) ∧ Below w.heap.size w w' := by
  obtain ⟨z, Hz⟩ : ∃ z, Hid (badRun cs start l sp ac br = z) := ⟨_, Lib.hid rfl⟩
  have hz : (z != 0) = true := by rw [bne_iff_ne, ← Hz.out]; exact hbad
  clear hbad
  rw [Hz.out]
  have hb0 : Below w.heap.size w (w.alloc (.cells #[.string nm, .int .i64 l, .int .i64 sp, .int .i64 ac, .int .i64 br] 26)) := (Below.refl _ _).alloc (Nat.le_refl _) _
  have HR := Lib.hid (hR.below (B := 0) hb0)
  clear hR
  go_enter Try.func29, Try.ntmps29
  go_wp2_with fail
  refine (refBad_any A cap cs start nm l sp ac br _ HR.out hl).mono ?_
  rintro e w1 ⟨rfl, hb⟩
  have Hb := Lib.hid (hb0.trans (hb.mono hb0.size))
  clear hb hb0 HR
  rw [Hz.out]
  go_wp2
  go_ret2
  exact ⟨rfl, Hb.out⟩

set_option maxHeartbeats 1000000 in
set_option maxRecDepth 100000 in
theorem refSpeeds_ok (A : Option Addr) (cap : Nat) (cs : List (Int × Int)) (start l : Nat) (nm : ByteArray) (sp ac br : Int) (w : World) (hR : RdC w A cs) (hcap : cs.length ≤ cap) (hok : badRun cs start l sp ac br = 0) :
    Calls Try.prog 29 #[.slice A cs.length cap, .int .i64 start, .agg #[.string nm, .int .i64 l, .int .i64 sp, .int .i64 ac, .int .i64 br]] w (RetRow2 w (cs.length - start + 1) (fun j => (spd cs start l sp ac br j : Nat))) := by
  obtain ⟨hc, hl, hall, _, hst⟩ := bad_zero hok
  obtain ⟨k1, k2, k3, k4, k5, k6, k7, k8⟩ := chk_of hc
  have Hok := Lib.hid hok
  have Hall := Lib.hid hall
  have HR := Lib.hid hR
  obtain ⟨n, Hn⟩ : ∃ n, Hid (cs.length - start = n) := ⟨_, Lib.hid rfl⟩
  have hn : n ≤ 4000 := by have := Hn.out; omega
  have hn2 : 2 ≤ n := by have := Hn.out; omega
  have hni : (cs.length : Int) - start = (n : Int) := by have := Hn.out; omega
  obtain ⟨M, HM⟩ : ∃ M, Hid (n + 1 = M) := ⟨_, Lib.hid rfl⟩
  have hM : M ≤ 4001 := by have := HM.out; omega
  rw [Hn.out, HM.out]
  have hmk := run_make_row' (P := Try.prog) 22 3 (.int .i64 0) 8 Try.underlying22 info_int rfl .i64 .i64 M (by omega) (by omega)
  rw [show ((M : Nat) : Int) = (n : Int) + 1 by have := HM.out; omega] at hmk
  obtain ⟨b, off, rfl, hbl, hx1, hx2⟩ := hR 0 (by omega)
  clear hx1 hx2 hR hall hc hok
  have hb0 : Below w.heap.size w (w.alloc (.cells #[.string nm, .int .i64 l, .int .i64 sp, .int .i64 ac, .int .i64 br] 26)) := (Below.refl _ _).alloc (Nat.le_refl _) _
  have HB := Lib.hid (BoxS.new w nm l sp ac br 26)
  have HR0 := Lib.hid (HR.out.below (B := 0) hb0)
  go_enter Try.func29, Try.ntmps29
  go_wp2_with fail
  refine (refBad_any _ cap cs start nm l sp ac br _ HR0.out (by omega)).mono ?_
  rintro e w1 ⟨rfl, hb⟩
  rw [Hok.out]
  have HI : Hid (SqI w (w1.alloc (.cells (madeCells #[.int .i64 0] M) 3)) w.heap.size w1.heap.size b off cs nm l sp ac br M (fun _ => 0)) := by
    have h1 : Below w.heap.size w w1 := hb0.trans (hb.mono hb0.size)
    have hw1 : w.heap.size < w1.heap.size := by have := hb.size; simp at this; omega
    have h2 : Below w1.heap.size w1 (w1.alloc (.cells (madeCells #[.int .i64 0] M) 3)) := (Below.refl _ _).alloc (Nat.le_refl _) _
    exact Lib.hid ⟨(HB.out.below hb).below h2, (HR0.out.below (B := 0) hb).below (B := 0) h2, World.rowIs_made w1 (.int .i64 0) M 3, h1.trans (h2.mono h1.size), rfl, hw1, hbl⟩
  have HI1 : Hid (SqI w (w1.alloc (.cells (madeCells #[.int .i64 0] M) 3)) w.heap.size w1.heap.size b off cs nm l sp ac br M (iniW cs start l sp 1)) := Lib.hid (HI.out.congr (fun j hj => by unfold iniW; rw [if_neg (by omega)]))
  clear HI hb hb0 HB HR0 HR
  go_wp2
  clear hmk
  obtain ⟨r, hr⟩ : ∃ r, r = w1.heap.size := ⟨_, rfl⟩
  rw [← hr] at HI1 ⊢
  generalize w1.alloc (.cells (madeCells #[.int .i64 0] M) 3) = w2 at *
  clear hr
  go_loopw [11] (fun kv wr => ∃ k : Nat, 1 ≤ k ∧ k ≤ n ∧ kv = .int .i64 k ∧ Hid (SqI w wr w.heap.size r b off cs nm l sp ac br M (iniW cs start l sp k))) (fun kv _ => n - (intOf kv).toNat)
  case atStart => exact ⟨1, by omega, by omega, rfl, HI1⟩
  case round =>
    obtain ⟨k, hk1, hk2, rfl, HI2⟩ := hrel
    by_cases hlt : k < n
    · obtain ⟨i2, Hi2⟩ : ∃ i2, Hid (start + k = i2) := ⟨_, Lib.hid rfl⟩
      obtain ⟨i1, Hi1⟩ : ∃ i1, Hid (start + k - 1 = i1) := ⟨_, Lib.hid rfl⟩
      have b1 : i1 < cs.length := by have := Hi1.out; have := Hn.out; omega
      have b2 : i2 < cs.length := by have := Hi2.out; have := Hn.out; omega
      have e2 : IntKind.i64.wrap ((start : Int) + k) = (i2 : Int) := by rw [IntKind.wrap_i64]; have := Hi2.out; omega
      have e1 : IntKind.i64.wrap ((i2 : Int) - 1) = (i1 : Int) := by rw [IntKind.wrap_i64]; have := Hi2.out; have := Hi1.out; omega
      obtain ⟨x1, Hx1⟩ : ∃ x1, Hid (limitOf cs i1 l sp = x1) := ⟨_, Lib.hid rfl⟩
      obtain ⟨x2, Hx2⟩ : ∃ x2, Hid (limitOf cs i2 l sp = x2) := ⟨_, Lib.hid rfl⟩
      obtain ⟨hx1, hx1'⟩ := limit_range cs i1 l sp k3 Hall.out
      obtain ⟨hx2, hx2'⟩ := limit_range cs i2 l sp k3 Hall.out
      rw [Hx1.out] at hx1 hx1'
      rw [Hx2.out] at hx2 hx2'
      obtain ⟨q, Hq⟩ : ∃ q, Hid (lsq cs start l sp k = q) := ⟨_, Lib.hid rfl⟩
      have Hq2 : Hid (min x1 x2 * min x1 x2 = q) := Lib.hid (by have := Hq.out; unfold lsq at this; rw [Hi1.out, Hi2.out, Hx1.out, Hx2.out] at this; exact this)
      obtain ⟨hq1, hq2⟩ := lsq_range (start := start) (l := l) k3 k4 Hall.out k
      rw [Hq.out] at hq1 hq2
      have hkM : k < M := by have := HM.out; omega
      by_cases hxx : x2 < x1
      · have e5 : IntKind.i64.wrap (x2 * x2) = q := by
          have := Hq2.out; rw [show min x1 x2 = x2 by omega] at this
          rw [this, IntKind.wrap_i64]; omega
        go_wp2
        obtain ⟨Z, hZ, f, hS, hof⟩ := classOf (fun x => SqI w x w.heap.size r b off cs nm l sp ac br M (iniW cs start l sp k)) HI2.out.drew
        have hk4 : ∀ z, (f z).cell? ⟨w.heap.size, 0, none⟩ = some (.string nm) := fun z => (hS z).box.2.1
        have hk5 : ∀ z, (f z).cell? ⟨w.heap.size, 1, none⟩ = some (.int .i64 l) := fun z => (hS z).box.2.2.1
        have hk6 : ∀ z, (f z).cell? ⟨w.heap.size, 2, none⟩ = some (.int .i64 sp) := fun z => (hS z).box.2.2.2.1
        have hk7 : ∀ z, (f z).cell? ⟨w.heap.size, 3, none⟩ = some (.int .i64 ac) := fun z => (hS z).box.2.2.2.2.1
        have hk8 : ∀ z, (f z).cell? ⟨w.heap.size, 4, none⟩ = some (.int .i64 br) := fun z => (hS z).box.2.2.2.2.2
        have HS := Lib.hid hS
        have Hof := Lib.hid hof
        clear hS hof
        refine wp_region_qtail (fun w' => ∃ z : Z, w' = f z) 14 (by kernel_rfl) (by kernel_rfl) (Hof.out _ HI2.out.drew) ?_
        simp only [List.take_succ_cons, List.take_zero, List.drop_succ_cons, List.drop_zero]
        (repeat (go_big_quiet_step ((go_at_call 37; first | with_reducible exact (refLimit_any _ cap cs i1 l nm sp ac br _ (HS.out _).rd hl hcap b1 (by omega) (by omega)).mono fun e w'' ⟨he, hb⟩ => ⟨he.trans (ret_int Hx1.out), Hof.out _ ((HS.out _).call hb)⟩ | with_reducible exact (refLimit_any _ cap cs i2 l nm sp ac br _ (HS.out _).rd hl hcap b2 (by omega) (by omega)).mono fun e w'' ⟨he, hb⟩ => ⟨he.trans (ret_int Hx2.out), Hof.out _ ((HS.out _).call hb)⟩))))
        refine wpQuiet_nil ?_
        intro w4 hw4
        obtain ⟨z4, hw4⟩ := hw4
        have HI3 := Lib.hid (HS.out z4)
        rw [← hw4] at HI3
        clear hw4 hk4 hk5 hk6 hk7 hk8 HS Hof HI2
        have r3 := HI3.out.row.frozen k
        have r1 := HI3.out.row.cell (i := k) hkM
        have HI4 := Lib.hid ((HI3.out.set k q).congr (g := iniW cs start l sp (k + 1)) (fun j hj => by
          unfold iniW
          by_cases hjk : j = k
          · rw [if_pos hjk, hjk, if_pos (by omega), Hq.out]
          · rw [if_neg hjk]
            by_cases h : 0 < j ∧ j < k
            · rw [if_pos h, if_pos (by omega)]
            · rw [if_neg h, if_neg (by omega)]))
        go_wp2
        go_roundw
        case rel => exact ⟨k + 1, by omega, by omega, by go_num, HI4⟩
        case measure => simp [intOf]; omega
      · have e5 : IntKind.i64.wrap (x1 * x1) = q := by
          have := Hq2.out; rw [show min x1 x2 = x1 by omega] at this
          rw [this, IntKind.wrap_i64]; omega
        go_wp2
        obtain ⟨Z, hZ, f, hS, hof⟩ := classOf (fun x => SqI w x w.heap.size r b off cs nm l sp ac br M (iniW cs start l sp k)) HI2.out.drew
        have hk4 : ∀ z, (f z).cell? ⟨w.heap.size, 0, none⟩ = some (.string nm) := fun z => (hS z).box.2.1
        have hk5 : ∀ z, (f z).cell? ⟨w.heap.size, 1, none⟩ = some (.int .i64 l) := fun z => (hS z).box.2.2.1
        have hk6 : ∀ z, (f z).cell? ⟨w.heap.size, 2, none⟩ = some (.int .i64 sp) := fun z => (hS z).box.2.2.2.1
        have hk7 : ∀ z, (f z).cell? ⟨w.heap.size, 3, none⟩ = some (.int .i64 ac) := fun z => (hS z).box.2.2.2.2.1
        have hk8 : ∀ z, (f z).cell? ⟨w.heap.size, 4, none⟩ = some (.int .i64 br) := fun z => (hS z).box.2.2.2.2.2
        have HS := Lib.hid hS
        have Hof := Lib.hid hof
        clear hS hof
        refine wp_region_qtail (fun w' => ∃ z : Z, w' = f z) 14 (by kernel_rfl) (by kernel_rfl) (Hof.out _ HI2.out.drew) ?_
        simp only [List.take_succ_cons, List.take_zero, List.drop_succ_cons, List.drop_zero]
        (repeat (go_big_quiet_step ((go_at_call 37; first | with_reducible exact (refLimit_any _ cap cs i1 l nm sp ac br _ (HS.out _).rd hl hcap b1 (by omega) (by omega)).mono fun e w'' ⟨he, hb⟩ => ⟨he.trans (ret_int Hx1.out), Hof.out _ ((HS.out _).call hb)⟩ | with_reducible exact (refLimit_any _ cap cs i2 l nm sp ac br _ (HS.out _).rd hl hcap b2 (by omega) (by omega)).mono fun e w'' ⟨he, hb⟩ => ⟨he.trans (ret_int Hx2.out), Hof.out _ ((HS.out _).call hb)⟩))))
        refine wpQuiet_nil ?_
        intro w4 hw4
        obtain ⟨z4, hw4⟩ := hw4
        have HI3 := Lib.hid (HS.out z4)
        rw [← hw4] at HI3
        clear hw4 hk4 hk5 hk6 hk7 hk8 HS Hof HI2
        have r3 := HI3.out.row.frozen k
        have r1 := HI3.out.row.cell (i := k) hkM
        have HI4 := Lib.hid ((HI3.out.set k q).congr (g := iniW cs start l sp (k + 1)) (fun j hj => by
          unfold iniW
          by_cases hjk : j = k
          · rw [if_pos hjk, hjk, if_pos (by omega), Hq.out]
          · rw [if_neg hjk]
            by_cases h : 0 < j ∧ j < k
            · rw [if_pos h, if_pos (by omega)]
            · rw [if_neg h, if_neg (by omega)]))
        go_wp2
        go_roundw
        case rel => exact ⟨k + 1, by omega, by omega, by go_num, HI4⟩
        case measure => simp [intOf]; omega
    · obtain rfl : n = k := by omega
      have HI3 := Lib.hid (HI2.out.congr (g := fun j => if j ≤ 0 then fwW cs start l sp ac j else iniW cs start l sp n j) (fun j hj => by
        by_cases h : j ≤ 0
        · rw [if_pos h]; obtain rfl : j = 0 := by omega
          have h1 : iniW cs start l sp n 0 = 0 := if_neg (by omega)
          have h2 : fwW cs start l sp ac 0 = 0 := by unfold fwW; rw [if_pos (by have := Hn.out; omega)]; rfl
          rw [h1, h2]
        · rw [if_neg h]))
      clear HI2
      go_wp2
      go_loopw [13] (fun kv wr => ∃ k : Nat, k ≤ n ∧ kv = .int .i64 k ∧ Hid (SqI w wr w.heap.size r b off cs nm l sp ac br M (fun j => if j ≤ k then fwW cs start l sp ac j else iniW cs start l sp n j))) (fun kv _ => n - (intOf kv).toNat)
      case atStart => exact ⟨0, by omega, rfl, HI3⟩
      case round =>
        obtain ⟨k, hk1, rfl, HI4⟩ := hrel
        by_cases hlt : k < n
        · obtain ⟨x, Hx⟩ : ∃ x, Hid (iniW cs start l sp n (k + 1) = x) := ⟨_, Lib.hid rfl⟩
          obtain ⟨y, Hy⟩ : ∃ y, Hid (fwW cs start l sp ac k = y) := ⟨_, Lib.hid rfl⟩
          obtain ⟨hx1, hx2⟩ := ini_range (start := start) (l := l) k3 k4 Hall.out n (k + 1)
          obtain ⟨hy1, hy2⟩ := fwW_range (start := start) (l := l) k3 k4 k5 k6 Hall.out k
          rw [Hx.out] at hx1 hx2
          rw [Hy.out] at hy1 hy2
          obtain ⟨c, Hc⟩ : ∃ c, Hid (start + k = c) := ⟨_, Lib.hid rfl⟩
          have b3 : c < cs.length := by have := Hc.out; have := Hn.out; omega
          have b1 : k < M := by have := HM.out; omega
          have b2 : k + 1 < M := by have := HM.out; omega
          have b4 : (k : Int) + 1 < (M : Int) := by omega
          obtain ⟨gr, Hgr⟩ : ∃ gr, Hid (cs[c].2 = gr) := ⟨_, Lib.hid rfl⟩
          obtain ⟨lm, Hlm⟩ : ∃ lm, Hid (cs[c].1 = lm) := ⟨_, Lib.hid rfl⟩
          have hgr : -40 ≤ gr ∧ gr ≤ 40 := by
            have := cell_of (List.all_eq_true.1 Hall.out _ (List.getElem_mem b3))
            rw [Hgr.out] at this; omega
          obtain ⟨hg1, hg2⟩ := hgr
          obtain ⟨a, Ha⟩ : ∃ a, Hid (rate gr ac = a) := ⟨_, Lib.hid rfl⟩
          have Ha2 : Hid ((if 0 < gr then max 50 (ac - 10 * gr) else ac) = a) := Lib.hid Ha.out
          obtain ⟨g, Hg⟩ : ∃ g, Hid (gainOf gr ac = g) := ⟨_, Lib.hid rfl⟩
          obtain ⟨hg4, hg5⟩ := gain_range gr ac k5 k6
          rw [Hg.out] at hg4 hg5
          have e0 : IntKind.i64.wrap (20000 * a) = g := by rw [← Ha.out, ← gain_rate, Hg.out, IntKind.wrap_i64]; omega
          have e1 : IntKind.i64.wrap ((start : Int) + k) = (c : Int) := by rw [IntKind.wrap_i64]; have := Hc.out; omega
          have e2 : IntKind.i64.wrap ((k : Int) + 1) = ((k + 1 : Nat) : Int) := by rw [IntKind.wrap_i64]; omega
          have e4 : IntKind.i64.wrap (y + g) = y + g := by rw [IntKind.wrap_i64]; omega
          have Hnew : Hid (fwW cs start l sp ac (k + 1) = min x (y + g)) := Lib.hid (by
            have h := fwW_step (start := start) (l := l) k3 k4 k5 k6 Hall.out k (by rw [Hn.out]; omega)
            rw [Hn.out, Hx.out, Hy.out, Hc.out, getD_at _ _ b3, Hgr.out, Hg.out] at h; exact h.symm)
          go_wp2
          obtain ⟨Z, hZ, f, hS, hof⟩ := classOf (fun x => SqI w x w.heap.size r b off cs nm l sp ac br M (fun j => if j ≤ k then fwW cs start l sp ac j else iniW cs start l sp n j)) HI4.out.drew
          have hk4 : ∀ z, (f z).cell? ⟨w.heap.size, 0, none⟩ = some (.string nm) := fun z => (hS z).box.2.1
          have hk5 : ∀ z, (f z).cell? ⟨w.heap.size, 1, none⟩ = some (.int .i64 l) := fun z => (hS z).box.2.2.1
          have hk6 : ∀ z, (f z).cell? ⟨w.heap.size, 2, none⟩ = some (.int .i64 sp) := fun z => (hS z).box.2.2.2.1
          have hk7 : ∀ z, (f z).cell? ⟨w.heap.size, 3, none⟩ = some (.int .i64 ac) := fun z => (hS z).box.2.2.2.2.1
          have hk8 : ∀ z, (f z).cell? ⟨w.heap.size, 4, none⟩ = some (.int .i64 br) := fun z => (hS z).box.2.2.2.2.2
          have hk0 : ∀ z, (f z).cell? ⟨r, k + 1, none⟩ = some (.int .i64 x) := fun z => by
            have := (hS z).row.cell (i := k + 1) b2; rw [if_neg (by omega), Hx.out] at this; exact this
          have hk1' : ∀ z, (f z).cell? ⟨r, k, none⟩ = some (.int .i64 y) := fun z => by
            have := (hS z).row.cell (i := k) b1; rw [if_pos (by omega), Hy.out] at this; exact this
          have hk2 : ∀ z, (f z).cell? ⟨b, off + c * 2, none⟩ = some (.int .i64 lm) := fun z => by
            have := ((hS z).rd.at_ b3).1; rw [Hlm.out] at this; exact this
          have hk3 : ∀ z, (f z).cell? ⟨b, off + c * 2 + 1, none⟩ = some (.int .i64 gr) := fun z => by
            have := ((hS z).rd.at_ b3).2; rw [Hgr.out] at this; exact this
          have HS := Lib.hid hS
          have Hof := Lib.hid hof
          clear hS hof
          refine wp_region_qtail (fun w' => ∃ z : Z, w' = f z) 24 (by kernel_rfl) (by kernel_rfl) (Hof.out _ HI4.out.drew) ?_
          simp only [List.take_succ_cons, List.take_zero, List.drop_succ_cons, List.drop_zero]
          (repeat (go_big_quiet_step ((go_at_call 38; with_reducible exact (accel_any lm gr nm l sp ac br _ (by omega) (by omega) (by omega) (by omega)).mono fun e w'' ⟨he, hb⟩ => ⟨he.trans (ret_int Ha2.out), Hof.out _ ((HS.out _).call hb)⟩))))
          refine wpQuiet_nil ?_
          intro w4 hw4
          obtain ⟨z4, hw4⟩ := hw4
          have HI5 := Lib.hid (HS.out z4)
          rw [← hw4] at HI5
          clear hw4 hk4 hk5 hk6 hk7 hk8 HS Hof HI4
          clear hk0 hk1' hk2 hk3
          have r1 := HI5.out.row.cell (i := k + 1) b2
          have r3 := HI5.out.row.frozen (k + 1)
          have HI6 := Lib.hid ((HI5.out.set (k + 1) (if y + g < x then y + g else x)).congr (g := fun j => if j ≤ k + 1 then fwW cs start l sp ac j else iniW cs start l sp n j) (fun j hj => by
            have h2 := Hnew.out
            by_cases hji : j = k + 1
            · rw [if_pos hji, hji, if_min, if_pos (by omega), h2]
            · rw [if_neg hji]
              by_cases hj2 : j ≤ k
              · rw [if_pos hj2, if_pos (by omega)]
              · rw [if_neg hj2, if_neg (by omega)]))
          go_wp2
          go_roundw
          case rel => exact ⟨k + 1, by omega, by go_num, HI6⟩
          case measure => simp [intOf]; omega
        · obtain rfl : n = k := by omega
          have HI5 := Lib.hid (HI4.out.congr (g := fun j => if n ≤ j then sqW cs start l sp ac br j else fwW cs start l sp ac j) (fun j hj => by
            have h1 := HM.out; have h2 := Hn.out
            rw [if_pos (by omega)]
            by_cases h : n ≤ j
            · rw [if_pos h]
              obtain rfl : j = n := by omega
              have h3 : fwW cs start l sp ac j = 0 := if_neg (by omega)
              have h4 := sqW_end (cs := cs) (start := start) (l := l) (sp := sp) (ac := ac) (br := br) (by omega)
              rw [h2] at h4
              rw [h3, h4]
            · rw [if_neg h]))
          clear HI4
          go_wp2
          go_loopw [14] (fun kv wr => ∃ k : Nat, k ≤ n ∧ kv = .int .i64 k ∧ Hid (SqI w wr w.heap.size r b off cs nm l sp ac br M (fun j => if k ≤ j then sqW cs start l sp ac br j else fwW cs start l sp ac j))) (fun kv _ => (intOf kv).toNat)
          case atStart => exact ⟨n, by omega, rfl, HI5⟩
          case round =>
            obtain ⟨k', hk1, rfl, HI4⟩ := hrel
            by_cases hlt : 0 < k'
            · obtain ⟨k, rfl⟩ : ∃ k, k' = k + 1 := ⟨k' - 1, by omega⟩
              obtain ⟨x, Hx⟩ : ∃ x, Hid (fwW cs start l sp ac k = x) := ⟨_, Lib.hid rfl⟩
              obtain ⟨y, Hy⟩ : ∃ y, Hid (sqW cs start l sp ac br (k + 1) = y) := ⟨_, Lib.hid rfl⟩
              obtain ⟨hx1, hx2⟩ := fwW_range (start := start) (l := l) k3 k4 k5 k6 Hall.out k
              obtain ⟨hy1, hy2, _⟩ := sqW_range (start := start) (l := l) k3 k4 k5 k6 k7 k8 Hall.out (k + 1)
              rw [Hx.out] at hx1 hx2
              rw [Hy.out] at hy1 hy2
              obtain ⟨c, Hc⟩ : ∃ c, Hid (start + k = c) := ⟨_, Lib.hid rfl⟩
              obtain ⟨kk, Hkk⟩ : ∃ kk, Hid (k + 1 = kk) := ⟨_, Lib.hid rfl⟩
              have b3 : c < cs.length := by have := Hc.out; have := Hn.out; omega
              have b1 : k < M := by have := HM.out; omega
              have b2 : kk < M := by have := HM.out; have := Hkk.out; omega
              obtain ⟨gr, Hgr⟩ : ∃ gr, Hid (cs[c].2 = gr) := ⟨_, Lib.hid rfl⟩
              obtain ⟨lm, Hlm⟩ : ∃ lm, Hid (cs[c].1 = lm) := ⟨_, Lib.hid rfl⟩
              have hgr : -40 ≤ gr ∧ gr ≤ 40 := by
                have := cell_of (List.all_eq_true.1 Hall.out _ (List.getElem_mem b3))
                rw [Hgr.out] at this; omega
              obtain ⟨hg1, hg2⟩ := hgr
              obtain ⟨a, Ha⟩ : ∃ a, Hid (rateB gr br = a) := ⟨_, Lib.hid rfl⟩
              have Ha2 : Hid ((if gr < 0 then max 50 (br + 10 * gr) else br) = a) := Lib.hid Ha.out
              obtain ⟨g, Hg⟩ : ∃ g, Hid (lossOf gr br = g) := ⟨_, Lib.hid rfl⟩
              obtain ⟨hg4, hg5⟩ := loss_range gr br k7 k8
              rw [Hg.out] at hg4 hg5
              have e0 : IntKind.i64.wrap (20000 * a) = g := by rw [← Ha.out, ← loss_rate, Hg.out, IntKind.wrap_i64]; omega
              have e1 : IntKind.i64.wrap ((start : Int) + kk) = ((c + 1 : Nat) : Int) := by rw [IntKind.wrap_i64]; have := Hc.out; have := Hkk.out; omega
              have e2 : IntKind.i64.wrap (((c + 1 : Nat) : Int) - 1) = (c : Int) := by rw [IntKind.wrap_i64]; omega
              have e3 : IntKind.i64.wrap ((kk : Int) - 1) = (k : Int) := by rw [IntKind.wrap_i64]; have := Hkk.out; omega
              have e4 : IntKind.i64.wrap (y + g) = y + g := by rw [IntKind.wrap_i64]; omega
              have Hnew : Hid (sqW cs start l sp ac br k = min x (y + g)) := Lib.hid (by
                have h := sqW_step (start := start) (l := l) k3 k4 k5 k6 k7 k8 Hall.out k (by rw [Hn.out]; omega)
                rw [Hx.out, Hy.out, Hc.out, getD_at _ _ b3, Hgr.out, Hg.out] at h; exact h.symm)
              have HI5 : Hid (SqI w wr w.heap.size r b off cs nm l sp ac br M (fun j => if kk ≤ j then sqW cs start l sp ac br j else fwW cs start l sp ac j)) := Lib.hid (by rw [← Hkk.out]; exact HI4.out)
              have hlt' : 0 < kk := by have := Hkk.out; omega
              have hkk : kk ≤ 4000 := by have := Hkk.out; omega
              clear HI4 hlt
              rw [Hkk.out]
              go_wp2
              obtain ⟨Z, hZ, f, hS, hof⟩ := classOf (fun x => SqI w x w.heap.size r b off cs nm l sp ac br M (fun j => if kk ≤ j then sqW cs start l sp ac br j else fwW cs start l sp ac j)) HI5.out.drew
              have hk4 : ∀ z, (f z).cell? ⟨w.heap.size, 0, none⟩ = some (.string nm) := fun z => (hS z).box.2.1
              have hk5 : ∀ z, (f z).cell? ⟨w.heap.size, 1, none⟩ = some (.int .i64 l) := fun z => (hS z).box.2.2.1
              have hk6 : ∀ z, (f z).cell? ⟨w.heap.size, 2, none⟩ = some (.int .i64 sp) := fun z => (hS z).box.2.2.2.1
              have hk7 : ∀ z, (f z).cell? ⟨w.heap.size, 3, none⟩ = some (.int .i64 ac) := fun z => (hS z).box.2.2.2.2.1
              have hk8 : ∀ z, (f z).cell? ⟨w.heap.size, 4, none⟩ = some (.int .i64 br) := fun z => (hS z).box.2.2.2.2.2
              have hk0 : ∀ z, (f z).cell? ⟨r, k, none⟩ = some (.int .i64 x) := fun z => by
                have := (hS z).row.cell (i := k) b1; rw [if_neg (by have := Hkk.out; omega), Hx.out] at this; exact this
              have hk1' : ∀ z, (f z).cell? ⟨r, kk, none⟩ = some (.int .i64 y) := fun z => by
                have := (hS z).row.cell (i := kk) b2; rw [if_pos (by omega), ← Hkk.out, Hy.out] at this; rw [← Hkk.out]; exact this
              have hk2 : ∀ z, (f z).cell? ⟨b, off + c * 2, none⟩ = some (.int .i64 lm) := fun z => by
                have := ((hS z).rd.at_ b3).1; rw [Hlm.out] at this; exact this
              have hk3 : ∀ z, (f z).cell? ⟨b, off + c * 2 + 1, none⟩ = some (.int .i64 gr) := fun z => by
                have := ((hS z).rd.at_ b3).2; rw [Hgr.out] at this; exact this
              have HS := Lib.hid hS
              have Hof := Lib.hid hof
              clear hS hof
              refine wp_region_qtail (fun w' => ∃ z : Z, w' = f z) 25 (by kernel_rfl) (by kernel_rfl) (Hof.out _ HI5.out.drew) ?_
              simp only [List.take_succ_cons, List.take_zero, List.drop_succ_cons, List.drop_zero]
              (repeat (go_big_quiet_step ((go_at_call 39; with_reducible exact (brake_any lm gr nm l sp ac br _ (by omega) (by omega) (by omega) (by omega)).mono fun e w'' ⟨he, hb⟩ => ⟨he.trans (ret_int Ha2.out), Hof.out _ ((HS.out _).call hb)⟩))))
              refine wpQuiet_nil ?_
              intro w4 hw4
              obtain ⟨z4, hw4⟩ := hw4
              have HI6 := Lib.hid (HS.out z4)
              rw [← hw4] at HI6
              clear hw4 hk4 hk5 hk6 hk7 hk8 HS Hof HI5
              clear hk0 hk1' hk2 hk3
              have r1 := HI6.out.row.cell (i := k) b1
              have r3 := HI6.out.row.frozen k
              have HI7 := Lib.hid ((HI6.out.set k (if y + g < x then y + g else x)).congr (g := fun j => if k ≤ j then sqW cs start l sp ac br j else fwW cs start l sp ac j) (fun j hj => by
                have h2 := Hnew.out; have h3 := Hkk.out
                by_cases hji : j = k
                · rw [if_pos hji, hji, if_min, if_pos (by omega), h2]
                · rw [if_neg hji]
                  by_cases hj2 : kk ≤ j
                  · rw [if_pos hj2, if_pos (by omega)]
                  · rw [if_neg hj2, if_neg (by omega)]))
              go_wp2
              go_roundw
              case rel => exact ⟨k, by omega, by have := Hkk.out; go_num, HI7⟩
              case measure => simp [intOf]; have := Hkk.out; omega
            · obtain rfl : k' = 0 := by omega
              rw [show ((0 : Nat) : Int) = 0 from rfl]
              go_wp2
              go_loopw [15] (fun i wr => ∃ k : Nat, k ≤ M ∧ i = .int .i64 k ∧ Hid (SqI w wr w.heap.size r b off cs nm l sp ac br M (fun j => if j < k then ((spd cs start l sp ac br j : Nat) : Int) else sqW cs start l sp ac br j))) (fun i _ => M - (intOf i).toNat)
              case atStart => exact ⟨0, by omega, rfl, Lib.hid (HI4.out.congr (fun j hj => by rw [if_pos (by omega), if_neg (by omega)]))⟩
              case round =>
                obtain ⟨k, hk, rfl, HI5⟩ := hrel
                by_cases hlt : k < M
                · have hle : k ≤ n := by have := HM.out; omega
                  have r1 := HI5.out.row.cell (i := k) hlt
                  rw [if_neg (by omega)] at r1
                  have r3 := HI5.out.row.frozen k
                  obtain ⟨x1, x2, _⟩ := sqW_range (start := start) (l := l) k3 k4 k5 k6 k7 k8 Hall.out k
                  obtain ⟨x, hx⟩ := Int.eq_ofNat_of_zero_le x1
                  rw [hx] at r1 x2
                  have Hx : Hid (spd cs start l sp ac br k = Pl.isqrt x) := Lib.hid (by unfold spd; rw [hx]; simp)
                  have HI6 := Lib.hid ((HI5.out.set k ((Pl.isqrt x : Nat) : Int)).congr (g := fun j => if j < k + 1 then ((spd cs start l sp ac br j : Nat) : Int) else sqW cs start l sp ac br j) (fun j hj => by
                    by_cases hjk : j = k
                    · rw [if_pos hjk, hjk, if_pos (by omega), Hx.out]
                    · rw [if_neg hjk]
                      by_cases h : j < k
                      · rw [if_pos h, if_pos (by omega)]
                      · rw [if_neg h, if_neg (by omega)]))
                  clear hx x1
                  go_wp2_with fail
                  refine (refSqrt_any x _ (by omega)).mono ?_
                  rintro e w' ⟨rfl, rfl⟩
                  go_wp2
                  go_roundw
                  case rel => exact ⟨k + 1, by omega, by go_num, HI6⟩
                  case measure => simp [intOf]; omega
                · have hle : ¬ k ≤ n := by have := HM.out; omega
                  go_wp2
                  go_ret2
                  exact ⟨r, rfl, Nat.le_of_lt HI5.out.hr, HI5.out.row.congr (fun j hj => by rw [if_pos (by omega)]), HI5.out.bel⟩
end Go.Proofs.Ytjmiddhdbimaaaa
