/- Contract of squares: the squared speeds at the boundaries. -/
import Derived.Test.YtjmiddhdbimaaaaDyn2
import Derived.Deep.OwnRows
import Derived.Deep.RegionHeld3
import Derived.Deep.Draws
import Derived.Test.YtjmiddhdbimaaaaQTail
namespace Go.Proofs.Ytjmiddhdbimaaaa
open Go.RowKit
set_option linter.unusedVariables false

theorem info_int : (Try.prog.info? 3).map (fun i => (i.zero, i.size, i.bytes)) = some (some (.int .i64 0), 1, 8) := by kernel_rfl

/-- The call returns a new row of n integers f. -/
def RetRow (w : World) (n : Nat) (f : Nat → Int) (e : Ending) (w' : World) : Prop :=
  ∃ b, e = .returned (.slice (some ⟨b, 0, none⟩) n n) ∧ w.heap.size ≤ b ∧ w'.rowIs b 3 n (fun j => .int .i64 (f j)) ∧ Below w.heap.size w w'

/-- A stock in a block of its own. -/
def BoxS (w : World) (p : Nat) (nm : ByteArray) (l sp ac br : Int) : Prop :=
  p < w.heap.size ∧ w.cell? ⟨p, 0, none⟩ = some (.string nm) ∧ w.cell? ⟨p, 1, none⟩ = some (.int .i64 l) ∧ w.cell? ⟨p, 2, none⟩ = some (.int .i64 sp) ∧ w.cell? ⟨p, 3, none⟩ = some (.int .i64 ac) ∧ w.cell? ⟨p, 4, none⟩ = some (.int .i64 br)
theorem BoxS.new (w : World) (nm : ByteArray) (l sp ac br : Int) (t : TypeId) : BoxS (w.alloc (.cells #[.string nm, .int .i64 l, .int .i64 sp, .int .i64 ac, .int .i64 br] t)) w.heap.size nm l sp ac br := by
  refine ⟨by simp, ?_, ?_, ?_, ?_, ?_⟩ <;> simp
theorem BoxS.keep {w w' : World} {p : Nat} {nm : ByteArray} {l sp ac br : Int} (h : BoxS w p nm l sp ac br) (hs : p < w'.heap.size) (hc : ∀ o, w'.cell? ⟨p, o, none⟩ = w.cell? ⟨p, o, none⟩) : BoxS w' p nm l sp ac br := by
  obtain ⟨h0, h1, h2, h3, h4, h5⟩ := h
  exact ⟨hs, (hc _).trans h1, (hc _).trans h2, (hc _).trans h3, (hc _).trans h4, (hc _).trans h5⟩
theorem BoxS.below {w w' : World} {p : Nat} {nm : ByteArray} {l sp ac br : Int} (h : BoxS w p nm l sp ac br) (hb : Below w.heap.size w w') : BoxS w' p nm l sp ac br :=
  h.keep (Nat.lt_of_lt_of_le h.1 hb.size) (fun o => hb.cell (p := ⟨p, o, none⟩) h.1)

theorem RdC.keep {w w' : World} {b off : Nat} {cs : List (Int × Int)} (h : RdC w (some ⟨b, off, none⟩) cs) (hs : b < w'.heap.size) (hc : ∀ o, w'.cell? ⟨b, o, none⟩ = w.cell? ⟨b, o, none⟩) : RdC w' (some ⟨b, off, none⟩) cs := by
  intro k hk
  obtain ⟨b', off', e, hlt, h1, h2⟩ := h k hk
  obtain ⟨rfl, rfl⟩ : b = b' ∧ off = off' := by simpa using e
  exact ⟨b, off, rfl, hs, (hc _).trans h1, (hc _).trans h2⟩
theorem RdC.at_ {w : World} {b off : Nat} {cs : List (Int × Int)} (h : RdC w (some ⟨b, off, none⟩) cs) {k : Nat} (hk : k < cs.length) :
    w.cell? ⟨b, off + k * 2, none⟩ = some (.int .i64 cs[k].1) ∧ w.cell? ⟨b, off + k * 2 + 1, none⟩ = some (.int .i64 cs[k].2) := by
  obtain ⟨b', off', e, hlt, h1, h2⟩ := h k hk
  obtain ⟨rfl, rfl⟩ : b = b' ∧ off = off' := by simpa using e
  exact ⟨h1, h2⟩

/-- What a loop over the squares keeps: the stock's box p, the cells, the row r. -/
structure SqI (w wr : World) (p r b off : Nat) (cs : List (Int × Int)) (nm : ByteArray) (l sp ac br : Int) (n : Nat) (f : Nat → Int) : Prop where
  box : BoxS wr p nm l sp ac br
  rd : RdC wr (some ⟨b, off, none⟩) cs
  row : wr.rowIs r 3 n (fun j => .int .i64 (f j))
  bel : Below w.heap.size w wr
  hp : p = w.heap.size
  hr : w.heap.size < r
  hb : b < w.heap.size
theorem SqI.call {w wr w2 : World} {p r b off : Nat} {cs : List (Int × Int)} {nm : ByteArray} {l sp ac br : Int} {n : Nat} {f : Nat → Int} (h : SqI w wr p r b off cs nm l sp ac br n f) (hb : Below wr.heap.size wr w2) : SqI w w2 p r b off cs nm l sp ac br n f :=
  ⟨h.box.below hb, h.rd.below (B := 0) hb, h.row.of_block (hb.block _ h.row.lt), h.bel.trans (hb.mono h.bel.size), h.hp, h.hr, h.hb⟩
theorem SqI.drewN {w wr : World} {p r b off : Nat} {cs : List (Int × Int)} {nm : ByteArray} {l sp ac br : Int} {n : Nat} {f : Nat → Int} (h : SqI w wr p r b off cs nm l sp ac br n f) (k : Nat) : SqI w (wr.drewN k) p r b off cs nm l sp ac br n f :=
  ⟨h.box, h.rd, h.row, ⟨h.bel.os, h.bel.tape, h.bel.output, h.bel.size, h.bel.block⟩, h.hp, h.hr, h.hb⟩
theorem SqI.drew {w wr : World} {p r b off : Nat} {cs : List (Int × Int)} {nm : ByteArray} {l sp ac br : Int} {n : Nat} {f : Nat → Int} (h : SqI w wr p r b off cs nm l sp ac br n f) : SqI w wr.drew p r b off cs nm l sp ac br n f := h.drewN 1
theorem SqI.congr {w wr : World} {p r b off : Nat} {cs : List (Int × Int)} {nm : ByteArray} {l sp ac br : Int} {n : Nat} {f g : Nat → Int} (h : SqI w wr p r b off cs nm l sp ac br n f) (e : ∀ j, j < n → f j = g j) : SqI w wr p r b off cs nm l sp ac br n g :=
  ⟨h.box, h.rd, h.row.congr (fun j hj => by rw [e j hj]), h.bel, h.hp, h.hr, h.hb⟩
theorem SqI.set {w wr : World} {p r b off : Nat} {cs : List (Int × Int)} {nm : ByteArray} {l sp ac br : Int} {n : Nat} {f : Nat → Int} (h : SqI w wr p r b off cs nm l sp ac br n f) (i : Nat) (v : Int) : SqI w (wr.setCell ⟨r, i, none⟩ (.int .i64 v)) p r b off cs nm l sp ac br n (fun j => if j = i then v else f j) := by
  have hsz : (wr.setCell ⟨r, i, none⟩ (.int .i64 v)).heap.size = wr.heap.size := by simp [World.setCell]
  refine ⟨h.box.keep (by rw [hsz]; exact h.box.1) (fun o => ?_), h.rd.keep (by rw [hsz]; exact Nat.lt_of_lt_of_le h.hb h.bel.size) (fun o => ?_), (h.row.set i (.int .i64 v)).congr (fun j _ => by split <;> rfl), h.bel.setCell (by exact Nat.le_of_lt h.hr) _, h.hp, h.hr, h.hb⟩
  · exact World.cell?_setCell_other _ _ _ _ (fun e => by have h1 := congrArg Addr.block e; have h2 := h.hp; have h3 := h.hr; simp only at h1; omega)
  · exact World.cell?_setCell_other _ _ _ _ (fun e => by have h1 := congrArg Addr.block e; have h2 := h.hb; have h3 := h.hr; simp only at h1; omega)

theorem far_cell {w : World} {p q : Addr} {u v : Value} (h : w.cell? q = some v) (hne : p.block ≠ q.block ∨ p.off ≠ q.off) : (w.setCell p u).cell? q = some v := by
  rw [World.cell?_setCell_other _ _ _ _ (fun e => by subst e; rcases hne with h | h <;> exact h rfl)]; exact h

theorem if_min (a q : Int) : (if a < q then a else q) = min q a := by
  by_cases h : a < q
  · rw [if_pos h]; omega
  · rw [if_neg h]; omega

set_option maxHeartbeats 2000000 in
theorem squares_any (A : Option Addr) (cap : Nat) (cs : List (Int × Int)) (start l : Nat) (nm : ByteArray) (sp ac br : Int) (w : World) (hR : RdC w A cs) (hl : cs.length ≤ 4000) (hcap : cs.length ≤ cap)
    (hst : start + 2 ≤ cs.length) (hl1 : 1 ≤ l) (hl2 : l ≤ 40) (hsp : 1000 ≤ sp) (hsp2 : sp ≤ 100000) (hac : 100 ≤ ac) (hac2 : ac ≤ 2000) (hbr : 100 ≤ br) (hbr2 : br ≤ 2000) (hall : cs.all cellB = true) :
    Calls Try.prog 26 #[.slice A cs.length cap, .int .i64 start, .agg #[.string nm, .int .i64 l, .int .i64 sp, .int .i64 ac, .int .i64 br]] w (RetRow w (cs.length - start + 1) (sqW cs start l sp ac br)) := by
  have HR := Lib.hid hR
  have Hall := Lib.hid hall
  obtain ⟨M, HM⟩ : ∃ M, Hid (cs.length - start + 1 = M) := ⟨_, Lib.hid rfl⟩
  have hM : M ≤ 4001 := by have := HM.out; omega
  rw [HM.out]
  have hmk := run_make_row' (P := Try.prog) 22 3 (.int .i64 0) 8 Try.underlying22 info_int rfl .i64 .i64 M (by omega) (by omega)
  rw [show ((M : Nat) : Int) = (cs.length : Int) - start + 1 by have := HM.out; omega] at hmk
  obtain ⟨b, off, rfl, hbl, hx1, hx2⟩ := hR 0 (by omega)
  clear hx1 hx2 hR hall
  have HI : Hid (SqI w ((w.alloc (.cells #[.string nm, .int .i64 l, .int .i64 sp, .int .i64 ac, .int .i64 br] 26)).alloc (.cells (madeCells #[.int .i64 0] M) 3)) w.heap.size (w.heap.size + 1) b off cs nm l sp ac br M (fun _ => 0)) := by
    have h1 : Below w.heap.size w (w.alloc (.cells #[.string nm, .int .i64 l, .int .i64 sp, .int .i64 ac, .int .i64 br] 26)) := (Below.refl _ _).alloc (Nat.le_refl _) _
    have h2 := h1.alloc (by simp) (.cells (madeCells #[.int .i64 0] M) 3)
    refine Lib.hid ⟨(BoxS.new w nm l sp ac br _).below ((Below.refl _ _).alloc (Nat.le_refl _) _), HR.out.below (B := 0) h2, ?_, h2, rfl, by omega, hbl⟩
    have := World.rowIs_made (w.alloc (.cells #[.string nm, .int .i64 l, .int .i64 sp, .int .i64 ac, .int .i64 br] 26)) (.int .i64 0) M 3
    simpa using this
  have Hf := fun j => Lib.hid (fwd_range cs start l sp ac hsp hsp2 hac hac2 Hall.out j)
  have HHf := Lib.hid Hf
  clear Hf
  go_enter Try.func26, Try.ntmps26
  go_wp2_with fail
  refine (limit_any _ cap cs start l nm sp ac br _ HI.out.rd hl hcap (by omega) hl1 (by omega)).mono ?_
  rintro e w1 ⟨rfl, hb1⟩
  have HI1 := Lib.hid (HI.out.call hb1)
  clear HI hb1
  obtain ⟨z0, Hz0⟩ : ∃ z0, Hid (limitOf cs start l sp = z0) := ⟨_, Lib.hid rfl⟩
  rw [Hz0.out]
  go_wp2
  go_loopw [9, 10] (fun bf kv wr => ∃ (k : Nat) (z : Int), start + 1 ≤ k ∧ k ≤ cs.length ∧ bf = .int .i64 z ∧ kv = .int .i64 k ∧ Hid (limitOf cs (k - 1) l sp = z) ∧ Hid (SqI w wr w.heap.size (w.heap.size + 1) b off cs nm l sp ac br M (fun j => if j < k - start then fwd cs start l sp ac j else 0))) (fun _ kv _ => cs.length - (intOf kv).toNat)
  case atStart => exact ⟨start + 1, _, by omega, by omega, rfl, by go_num, Hz0, Lib.hid (HI1.out.congr (fun j hj => by
      by_cases h : j < start + 1 - start
      · rw [if_pos h]; obtain rfl : j = 0 := by omega
        rfl
      · rw [if_neg h]))⟩
  case round =>
    obtain ⟨k, z, hk1, hk2, rfl, rfl, Hz, HI2⟩ := hrel
    by_cases hlt : k < cs.length
    · obtain ⟨hps, s0, s1, s2, s3, s4⟩ := HI2.out.box
      go_wp2_with fail
      clear s0 s1 s2 s3 s4 hps
      refine (limit_any _ cap cs k l nm sp ac br _ HI2.out.rd hl hcap hlt hl1 (by omega)).mono ?_
      rintro e w3 ⟨rfl, hb3⟩
      have HI3 := Lib.hid (HI2.out.call hb3)
      clear HI2 hb3
      obtain ⟨hps, s0, s1, s2, s3, s4⟩ := HI3.out.box
      obtain ⟨i0, Hi0⟩ : ∃ i0, Hid (k - 1 - start = i0) := ⟨_, Lib.hid rfl⟩
      obtain ⟨i1, Hi1⟩ : ∃ i1, Hid (k - start = i1) := ⟨_, Lib.hid rfl⟩
      obtain ⟨k1, Hk1⟩ : ∃ k1, Hid (k - 1 = k1) := ⟨_, Lib.hid rfl⟩
      have b1 : i0 < M := by have := Hi0.out; have := HM.out; omega
      have b2 : i1 < M := by have := Hi1.out; have := HM.out; omega
      have b3 : k1 < cs.length := by have := Hk1.out; omega
      have r1 := HI3.out.row.cell (i := i0) (by omega)
      have r2 := HI3.out.row.cell (i := i1) (by omega)
      have r3 := HI3.out.row.frozen i1
      rw [if_pos (by have := Hi0.out; omega)] at r1
      rw [if_neg (by have := Hi1.out; omega)] at r2
      obtain ⟨c1, c2⟩ := HI3.out.rd.at_ (k := k1) b3
      obtain ⟨y, Hy⟩ : ∃ y, Hid (limitOf cs k l sp = y) := ⟨_, Lib.hid rfl⟩
      obtain ⟨x, Hx⟩ : ∃ x, Hid (fwd cs start l sp ac i0 = x) := ⟨_, Lib.hid rfl⟩
      obtain ⟨hy1, hy2⟩ := limit_range cs k l sp hsp Hall.out
      obtain ⟨hz1, hz2⟩ := limit_range cs (k - 1) l sp hsp Hall.out
      obtain ⟨hx1, hx2, _⟩ := (HHf.out i0).out
      rw [Hy.out] at hy1 hy2
      rw [Hz.out] at hz1 hz2
      rw [Hx.out] at hx1 hx2 r1
      rw [Hy.out]
      obtain ⟨gr, Hgr⟩ : ∃ gr, Hid (cs[k1].2 = gr) := ⟨_, Lib.hid rfl⟩
      obtain ⟨lm, Hlm⟩ : ∃ lm, Hid (cs[k1].1 = lm) := ⟨_, Lib.hid rfl⟩
      have hgr : -40 ≤ gr ∧ gr ≤ 40 := by
        have := cell_of (List.all_eq_true.1 Hall.out _ (List.getElem_mem b3))
        rw [Hgr.out] at this; omega
      obtain ⟨hg1, hg2⟩ := hgr
      rw [Hgr.out] at c2
      rw [Hlm.out] at c1
      obtain ⟨g, Hg⟩ : ∃ g, Hid (gainOf gr ac = g) := ⟨_, Lib.hid rfl⟩
      have hg3 := gain_range gr ac hac hac2
      rw [Hg.out] at hg3
      obtain ⟨hg4, hg5⟩ := hg3
      have hlr : w.heap.size + 1 < w3.heap.size := HI3.out.row.lt
      have hlb : b < w3.heap.size := Nat.lt_of_lt_of_le hbl HI3.out.bel.size
      have e1 : IntKind.i64.wrap ((k : Int) - start) = (i1 : Int) := by rw [IntKind.wrap_i64]; have := Hi1.out; omega
      have e2 : IntKind.i64.wrap ((k : Int) - 1) = (k1 : Int) := by rw [IntKind.wrap_i64]; have := Hk1.out; omega
      have e3 : IntKind.i64.wrap ((k1 : Int) - start) = (i0 : Int) := by rw [IntKind.wrap_i64]; have := Hk1.out; have := Hi0.out; omega
      have e4 : IntKind.i64.wrap (x + g) = x + g := by rw [IntKind.wrap_i64]; omega
      have n1 : i1 ≠ i0 := by have := Hi0.out; have := Hi1.out; omega
      have n2 : w.heap.size + 1 ≠ b := by omega
      have n3 : w.heap.size + 1 ≠ w.heap.size := by omega
      obtain ⟨q, Hq⟩ : ∃ q, Hid (min z y * min z y = q) := ⟨_, Lib.hid rfl⟩
      have hq := sq_range z y (by omega) (by omega) (by omega) (by omega)
      rw [Hq.out] at hq
      obtain ⟨hq1, hq2⟩ := hq
      have Hnew : Hid (fwd cs start l sp ac i1 = min q (x + g)) := Lib.hid (by
        have h1 := Hi0.out; have h2 := Hi1.out; have h3 := Hk1.out
        have h4 : i1 = i0 + 1 := by omega
        have h5 : start + i0 = k1 := by omega
        rw [h4]; simp only [fwd]
        rw [h5, show k1 + 1 = k by omega, ← h3, Hz.out, Hy.out, Hq.out, Hx.out, h3, getD_at _ _ b3, Hgr.out, Hg.out])
      have Hstep : Hid (∀ j, j < M → (fun j => if j = i1 then (if x + g < q then x + g else q) else if j < k - start then fwd cs start l sp ac j else 0) j = (fun j => if j < k + 1 - start then fwd cs start l sp ac j else 0) j) := Lib.hid (fun j hj => by
        have h1 := Hi1.out; have h2 := Hnew.out
        by_cases hji : j = i1
        · subst hji
          simp only [if_true]
          rw [if_min, if_pos (by omega), h2]
        · simp only [if_neg hji]
          by_cases hj2 : j < k - start
          · rw [if_pos hj2, if_pos (by omega)]
          · rw [if_neg hj2, if_neg (by omega)])
      by_cases hyz : y < z
      · have e5 : IntKind.i64.wrap (y * y) = q := by
          have := Hq.out; rw [show min z y = y by omega] at this
          rw [this, IntKind.wrap_i64]; omega
        go_wp2
        go_region_held3 (fun w' => w'.cell? ⟨w.heap.size + 1, i0, none⟩ = some (.int .i64 x) ∧ w'.cell? ⟨b, off + k1 * 2, none⟩ = some (.int .i64 lm) ∧ w'.cell? ⟨b, off + k1 * 2 + 1, none⟩ = some (.int .i64 gr) ∧
            w'.cell? ⟨w.heap.size, 0, none⟩ = some (.string nm) ∧ w'.cell? ⟨w.heap.size, 1, none⟩ = some (.int .i64 l) ∧ w'.cell? ⟨w.heap.size, 2, none⟩ = some (.int .i64 sp) ∧ w'.cell? ⟨w.heap.size, 3, none⟩ = some (.int .i64 ac) ∧ w'.cell? ⟨w.heap.size, 4, none⟩ = some (.int .i64 br))
          (first | (go_keep; done) | exact ⟨(hb4.cell (p := ⟨_, _, none⟩) hlr).trans r1, (hb4.cell (p := ⟨_, _, none⟩) hlb).trans c1, (hb4.cell (p := ⟨_, _, none⟩) hlb).trans c2, (hb4.cell (p := ⟨_, _, none⟩) hps).trans s0, (hb4.cell (p := ⟨_, _, none⟩) hps).trans s1, (hb4.cell (p := ⟨_, _, none⟩) hps).trans s2, (hb4.cell (p := ⟨_, _, none⟩) hps).trans s3, (hb4.cell (p := ⟨_, _, none⟩) hps).trans s4⟩ | exact ⟨far_cell ((hb4.cell (p := ⟨_, _, none⟩) hlr).trans r1) (.inr n1), far_cell ((hb4.cell (p := ⟨_, _, none⟩) hlb).trans c1) (.inl n2), far_cell ((hb4.cell (p := ⟨_, _, none⟩) hlb).trans c2) (.inl n2), far_cell ((hb4.cell (p := ⟨_, _, none⟩) hps).trans s0) (.inl n3), far_cell ((hb4.cell (p := ⟨_, _, none⟩) hps).trans s1) (.inl n3), far_cell ((hb4.cell (p := ⟨_, _, none⟩) hps).trans s2) (.inl n3), far_cell ((hb4.cell (p := ⟨_, _, none⟩) hps).trans s3) (.inl n3), far_cell ((hb4.cell (p := ⟨_, _, none⟩) hps).trans s4) (.inl n3)⟩)
          (first | (go_at_call 34; refine (gain_any lm gr nm l sp ac br _ (by omega) (by omega) (by omega) (by omega)).mono ?_; rintro e w4 ⟨rfl, hb4⟩; rw [Hg.out]; have r2' := (hb4.cell (p := ⟨_, _, none⟩) hlr).trans r2; have r3' := (hb4.frozen (p := ⟨_, _, none⟩) hlr).trans r3))
        have HI5 := Lib.hid (((HI3.out.drew.call hb4).set i1 (if x + g < q then x + g else q)).congr Hstep.out)
        clear hb4 r2' r3' HI3 s0 s1 s2 s3 s4 hps r1 r2 r3 c1 c2 hlr hlb
        generalize w4.setCell ⟨w.heap.size + 1, i1, none⟩ (.int .i64 (if x + g < q then x + g else q)) = w5 at *
        go_wp2
        go_roundw
        case rel => exact ⟨k + 1, y, by omega, by omega, rfl, by go_num, Hy, HI5⟩
        case measure => simp [intOf]; omega
      · have e5 : IntKind.i64.wrap (z * z) = q := by
          have := Hq.out; rw [show min z y = z by omega] at this
          rw [this, IntKind.wrap_i64]; omega
        go_wp2
        go_region_held3 (fun w' => w'.cell? ⟨w.heap.size + 1, i0, none⟩ = some (.int .i64 x) ∧ w'.cell? ⟨b, off + k1 * 2, none⟩ = some (.int .i64 lm) ∧ w'.cell? ⟨b, off + k1 * 2 + 1, none⟩ = some (.int .i64 gr) ∧
            w'.cell? ⟨w.heap.size, 0, none⟩ = some (.string nm) ∧ w'.cell? ⟨w.heap.size, 1, none⟩ = some (.int .i64 l) ∧ w'.cell? ⟨w.heap.size, 2, none⟩ = some (.int .i64 sp) ∧ w'.cell? ⟨w.heap.size, 3, none⟩ = some (.int .i64 ac) ∧ w'.cell? ⟨w.heap.size, 4, none⟩ = some (.int .i64 br))
          (first | (go_keep; done) | exact ⟨(hb4.cell (p := ⟨_, _, none⟩) hlr).trans r1, (hb4.cell (p := ⟨_, _, none⟩) hlb).trans c1, (hb4.cell (p := ⟨_, _, none⟩) hlb).trans c2, (hb4.cell (p := ⟨_, _, none⟩) hps).trans s0, (hb4.cell (p := ⟨_, _, none⟩) hps).trans s1, (hb4.cell (p := ⟨_, _, none⟩) hps).trans s2, (hb4.cell (p := ⟨_, _, none⟩) hps).trans s3, (hb4.cell (p := ⟨_, _, none⟩) hps).trans s4⟩ | exact ⟨far_cell ((hb4.cell (p := ⟨_, _, none⟩) hlr).trans r1) (.inr n1), far_cell ((hb4.cell (p := ⟨_, _, none⟩) hlb).trans c1) (.inl n2), far_cell ((hb4.cell (p := ⟨_, _, none⟩) hlb).trans c2) (.inl n2), far_cell ((hb4.cell (p := ⟨_, _, none⟩) hps).trans s0) (.inl n3), far_cell ((hb4.cell (p := ⟨_, _, none⟩) hps).trans s1) (.inl n3), far_cell ((hb4.cell (p := ⟨_, _, none⟩) hps).trans s2) (.inl n3), far_cell ((hb4.cell (p := ⟨_, _, none⟩) hps).trans s3) (.inl n3), far_cell ((hb4.cell (p := ⟨_, _, none⟩) hps).trans s4) (.inl n3)⟩)
          (first | (go_at_call 34; refine (gain_any lm gr nm l sp ac br _ (by omega) (by omega) (by omega) (by omega)).mono ?_; rintro e w4 ⟨rfl, hb4⟩; rw [Hg.out]; have r2' := (hb4.cell (p := ⟨_, _, none⟩) hlr).trans r2; have r3' := (hb4.frozen (p := ⟨_, _, none⟩) hlr).trans r3))
        have HI5 := Lib.hid (((HI3.out.drew.call hb4).set i1 (if x + g < q then x + g else q)).congr Hstep.out)
        clear hb4 r2' r3' HI3 s0 s1 s2 s3 s4 hps r1 r2 r3 c1 c2 hlr hlb
        generalize w4.setCell ⟨w.heap.size + 1, i1, none⟩ (.int .i64 (if x + g < q then x + g else q)) = w5 at *
        go_wp2
        go_roundw
        case rel => exact ⟨k + 1, y, by omega, by omega, rfl, by go_num, Hy, HI5⟩
        case measure => simp [intOf]; omega
    · obtain rfl : k = cs.length := by omega
      have HI3 := Lib.hid (HI2.out.congr (g := fun j => if cs.length - 1 - start < j then bwd cs start l sp ac br (cs.length - start - j) else fwd cs start l sp ac j) (fun j hj => by
        have h1 := HM.out
        by_cases h : j < cs.length - start
        · rw [if_pos h, if_neg (by omega)]
        · rw [if_neg h, if_pos (by omega), show cs.length - start - j = 0 by omega]; rfl))
      clear HI2
      go_wp2
      go_loopw [13] (fun kv wr => ∃ k : Nat, start ≤ k ∧ k ≤ cs.length - 1 ∧ kv = .int .i64 k ∧ Hid (SqI w wr w.heap.size (w.heap.size + 1) b off cs nm l sp ac br M (fun j => if k - start < j then bwd cs start l sp ac br (cs.length - start - j) else fwd cs start l sp ac j))) (fun kv _ => (intOf kv).toNat)
      case atStart => exact ⟨cs.length - 1, by omega, by omega, by go_num, HI3⟩
      case round =>
        obtain ⟨k, hk3, hk4, rfl, HI4⟩ := hrel
        by_cases hlt : start < k
        · obtain ⟨hps, s0, s1, s2, s3, s4⟩ := HI4.out.box
          obtain ⟨i0, Hi0⟩ : ∃ i0, Hid (k - start = i0) := ⟨_, Lib.hid rfl⟩
          obtain ⟨i1, Hi1⟩ : ∃ i1, Hid (k + 1 - start = i1) := ⟨_, Lib.hid rfl⟩
          have b1 : i0 < M := by have := Hi0.out; have := HM.out; omega
          have b2 : i1 < M := by have := Hi1.out; have := HM.out; omega
          have b3 : k < cs.length := by omega
          have r1 := HI4.out.row.cell (i := i0) (by omega)
          have r2 := HI4.out.row.cell (i := i1) (by omega)
          have r3 := HI4.out.row.frozen i0
          rw [if_neg (by have := Hi0.out; omega)] at r1
          rw [if_pos (by have := Hi1.out; omega)] at r2
          obtain ⟨c1, c2⟩ := HI4.out.rd.at_ (k := k) b3
          obtain ⟨y, Hy⟩ : ∃ y, Hid (bwd cs start l sp ac br (cs.length - start - i1) = y) := ⟨_, Lib.hid rfl⟩
          obtain ⟨x, Hx⟩ : ∃ x, Hid (fwd cs start l sp ac i0 = x) := ⟨_, Lib.hid rfl⟩
          obtain ⟨hx1, hx2, _⟩ := (HHf.out i0).out
          obtain ⟨hy1, hy2, _⟩ := bwd_range cs start l sp ac br hsp hsp2 hac hac2 hbr hbr2 Hall.out (cs.length - start - i1)
          rw [Hy.out] at hy1 hy2 r2
          rw [Hx.out] at hx1 hx2 r1
          obtain ⟨gr, Hgr⟩ : ∃ gr, Hid (cs[k].2 = gr) := ⟨_, Lib.hid rfl⟩
          obtain ⟨lm, Hlm⟩ : ∃ lm, Hid (cs[k].1 = lm) := ⟨_, Lib.hid rfl⟩
          have hgr : -40 ≤ gr ∧ gr ≤ 40 := by
            have := cell_of (List.all_eq_true.1 Hall.out _ (List.getElem_mem b3))
            rw [Hgr.out] at this; omega
          obtain ⟨hg1, hg2⟩ := hgr
          rw [Hgr.out] at c2
          rw [Hlm.out] at c1
          obtain ⟨g, Hg⟩ : ∃ g, Hid (lossOf gr br = g) := ⟨_, Lib.hid rfl⟩
          have hg3 := loss_range gr br hbr hbr2
          rw [Hg.out] at hg3
          obtain ⟨hg4, hg5⟩ := hg3
          have hlr : w.heap.size + 1 < wr.heap.size := HI4.out.row.lt
          have hlb : b < wr.heap.size := Nat.lt_of_lt_of_le hbl HI4.out.bel.size
          have e1 : IntKind.i64.wrap ((k : Int) - start) = (i0 : Int) := by rw [IntKind.wrap_i64]; have := Hi0.out; omega
          have e2 : IntKind.i64.wrap ((k : Int) + 1) = ((k + 1 : Nat) : Int) := by rw [IntKind.wrap_i64]; omega
          have e3 : IntKind.i64.wrap (((k + 1 : Nat) : Int) - start) = (i1 : Int) := by rw [IntKind.wrap_i64]; have := Hi1.out; omega
          have e3' : IntKind.i64.wrap ((k : Int) + 1 - start) = (i1 : Int) := by rw [IntKind.wrap_i64]; have := Hi1.out; omega
          have e4 : IntKind.i64.wrap (y + g) = y + g := by rw [IntKind.wrap_i64]; omega
          have n1 : i1 ≠ i0 := by have := Hi0.out; have := Hi1.out; omega
          have n2 : w.heap.size + 1 ≠ b := by omega
          have n3 : w.heap.size + 1 ≠ w.heap.size := by omega
          have Hnew : Hid (bwd cs start l sp ac br (cs.length - start - i0) = min x (y + g)) := Lib.hid (by
            have h1 := Hi0.out; have h2 := Hi1.out
            rw [show cs.length - start - i0 = (cs.length - start - i1) + 1 by omega]
            simp only [bwd]
            rw [show cs.length - start - (cs.length - start - i1 + 1) = i0 by omega, show cs.length - (cs.length - start - i1 + 1) = k by omega, Hx.out, Hy.out, getD_at _ _ b3, Hgr.out, Hg.out])
          go_wp2
          obtain ⟨Z, hZ, f, hS, hof⟩ := classOf (fun x => SqI w x w.heap.size (w.heap.size + 1) b off cs nm l sp ac br M (fun j => if k - start < j then bwd cs start l sp ac br (cs.length - start - j) else fwd cs start l sp ac j)) HI4.out.drew
          have hk0 : ∀ z, (f z).cell? ⟨w.heap.size + 1, i0, none⟩ = some (.int .i64 x) := fun z => by
            have := (hS z).row.cell (i := i0) b1; rw [if_neg (by have := Hi0.out; omega), Hx.out] at this; exact this
          have hk1 : ∀ z, (f z).cell? ⟨w.heap.size + 1, i1, none⟩ = some (.int .i64 y) := fun z => by
            have := (hS z).row.cell (i := i1) b2; rw [if_pos (by have := Hi1.out; omega), Hy.out] at this; exact this
          have hk2 : ∀ z, (f z).cell? ⟨b, off + k * 2, none⟩ = some (.int .i64 lm) := fun z => by
            have := ((hS z).rd.at_ b3).1; rw [Hlm.out] at this; exact this
          have hk3 : ∀ z, (f z).cell? ⟨b, off + k * 2 + 1, none⟩ = some (.int .i64 gr) := fun z => by
            have := ((hS z).rd.at_ b3).2; rw [Hgr.out] at this; exact this
          have hk4 : ∀ z, (f z).cell? ⟨w.heap.size, 0, none⟩ = some (.string nm) := fun z => (hS z).box.2.1
          have hk5 : ∀ z, (f z).cell? ⟨w.heap.size, 1, none⟩ = some (.int .i64 l) := fun z => (hS z).box.2.2.1
          have hk6 : ∀ z, (f z).cell? ⟨w.heap.size, 2, none⟩ = some (.int .i64 sp) := fun z => (hS z).box.2.2.2.1
          have hk7 : ∀ z, (f z).cell? ⟨w.heap.size, 3, none⟩ = some (.int .i64 ac) := fun z => (hS z).box.2.2.2.2.1
          have hk8 : ∀ z, (f z).cell? ⟨w.heap.size, 4, none⟩ = some (.int .i64 br) := fun z => (hS z).box.2.2.2.2.2
          have HS := Lib.hid hS
          have Hof := Lib.hid hof
          clear s0 s1 s2 s3 s4 r1 r2 r3 c1 c2 hS hof
          refine wp_region_qtail (fun w' => ∃ z : Z, w' = f z) 26 (by kernel_rfl) (by kernel_rfl) (Hof.out _ HI4.out.drew) ?_
          simp only [List.take_succ_cons, List.take_zero, List.drop_succ_cons, List.drop_zero]
          repeat (go_big_quiet_step ((go_at_call 35; exact (loss_any lm gr nm l sp ac br _ (by omega) (by omega) (by omega) (by omega)).mono fun e w'' ⟨he, hb⟩ => ⟨he.trans (ret_int Hg.out), Hof.out _ ((HS.out _).call hb)⟩)))
          refine wpQuiet_nil ?_
          intro w4 hw4
          obtain ⟨z4, hw4⟩ := hw4
          have HI5 := Lib.hid (HS.out z4)
          rw [← hw4] at HI5
          clear hw4 hk0 hk1 hk2 hk3 hk4 hk5 hk6 hk7 hk8 HS Hof HI4
          have r1 := HI5.out.row.cell (i := i0) b1
          rw [if_neg (by have := Hi0.out; omega), Hx.out] at r1
          have r3 := HI5.out.row.frozen i0
          have HI6 := Lib.hid ((HI5.out.set i0 (if y + g < x then y + g else x)).congr (g := fun j => if k - 1 - start < j then bwd cs start l sp ac br (cs.length - start - j) else fwd cs start l sp ac j) (fun j hj => by
            have h1 := Hi0.out; have h2 := Hnew.out
            by_cases hji : j = i0
            · rw [if_pos hji, hji, if_min, if_pos (by omega), h2]
            · rw [if_neg hji]
              by_cases hj2 : k - start < j
              · rw [if_pos hj2, if_pos (by omega)]
              · rw [if_neg hj2, if_neg (by omega)]))
          go_wp2
          go_roundw
          case rel => exact ⟨k - 1, by omega, by omega, by go_num, HI6⟩
          case measure => simp [intOf]; omega
        · obtain rfl : k = start := by omega
          have HI5 := Lib.hid (HI4.out.congr (g := sqW cs k l sp ac br) (fun j hj => by
            unfold sqW
            by_cases h : j = 0
            · subst h; rw [if_neg (by omega), if_pos rfl]; rfl
            · rw [if_pos (by omega), if_neg h]))
          go_wp2
          go_ret
          exact ⟨w.heap.size + 1, rfl, by omega, HI5.out.row, HI5.out.bel⟩
end Go.Proofs.Ytjmiddhdbimaaaa
