/- Contracts of the program and of the reference of dynamics for arbitrary arguments, and of agrees: it returns true. -/
import Derived.Test.YtjmiddhdbimaaaaRef6d
import Derived.Test.YtjmiddhdbimaaaaSame
namespace Go.Proofs.Ytjmiddhdbimaaaa
open Go.RowKit
set_option linter.unusedVariables false

def spdL (cs : List (Int × Int)) (start l sp ac br : Int) : List Int := if badRun cs start l sp ac br = 0 then (List.range (cs.length - start.toNat + 1)).map (fun j => ((spd cs start.toNat l.toNat sp ac br j : Nat) : Int)) else []
def timL (cs : List (Int × Int)) (start l sp ac br : Int) : List Int := if badRun cs start l sp ac br = 0 then (List.range (cs.length - start.toNat + 1)).map (tim cs start.toNat l.toNat sp ac br) else []
def runL (cs : List (Int × Int)) (start l sp ac br : Int) : Int := if badRun cs start l sp ac br = 0 then runT cs start.toNat l.toNat sp ac br else 0

theorem spdL_len (cs : List (Int × Int)) (start l sp ac br : Int) : (spdL cs start l sp ac br).length ≤ 4001 := by
  unfold spdL
  by_cases h : badRun cs start l sp ac br = 0
  · rw [if_pos h]; have := bad_zero h; simp; omega
  · rw [if_neg h]; simp
theorem timL_len (cs : List (Int × Int)) (start l sp ac br : Int) : (timL cs start l sp ac br).length ≤ 4001 := by
  unfold timL
  by_cases h : badRun cs start l sp ac br = 0
  · rw [if_pos h]; have := bad_zero h; simp; omega
  · rw [if_neg h]; simp

/-- The call returns integers xs and the number z. -/
def RetList (w : World) (xs : List Int) (z : Int) (e : Ending) (w' : World) : Prop :=
  ∃ A c, e = .returned (.tuple #[.slice A xs.length c, .int .i64 z]) ∧ RdI w' A xs ∧ Below w.heap.size w w'
theorem retList_nil {w : World} {z : Int} {e : Ending} {w' : World} (he : e = .returned (.tuple #[.slice none 0 0, .int .i64 z])) (hb : Below w.heap.size w w') : RetList w [] z e w' :=
  ⟨none, 0, he, fun k hk => absurd hk (Nat.not_lt_zero _), hb⟩
theorem retList_row {w : World} {n : Nat} {f : Nat → Int} {e : Ending} {w' : World} (h : RetRow2 w n f e w') : RetList w ((List.range n).map f) 0 e w' := by
  obtain ⟨b, he, hb, hr, hbel⟩ := h
  exact ⟨some ⟨b, 0, none⟩, n, by rw [he]; simp, rdI_of_rowIs hr, hbel⟩

theorem speeds_all (A : Option Addr) (cap : Nat) (cs : List (Int × Int)) (start : Int) (nm : ByteArray) (l sp ac br : Int) (w : World) (hR : RdC w A cs) (hl : cs.length ≤ 9223372036854775807) (hcap : cs.length ≤ cap) :
    Calls Try.prog 17 #[.slice A cs.length cap, .int .i64 start, .agg #[.string nm, .int .i64 l, .int .i64 sp, .int .i64 ac, .int .i64 br]] w (RetList w (spdL cs start l sp ac br) (badRun cs start l sp ac br)) := by
  unfold spdL
  by_cases h : badRun cs start l sp ac br = 0
  · rw [if_pos h, h]
    obtain ⟨hc, _, _, h0, _⟩ := bad_zero h
    obtain ⟨s, rfl⟩ := Int.eq_ofNat_of_zero_le h0
    obtain ⟨l, rfl⟩ := Int.eq_ofNat_of_zero_le (show 0 ≤ l by have := chk_of hc; omega)
    exact (speeds_ok A cap cs s l nm sp ac br w hR hcap h).mono fun e w' he => retList_row he
  · rw [if_neg h]
    exact (speeds_bad A cap cs start nm l sp ac br w hR hl h).mono fun e w' ⟨he, hb⟩ => retList_nil he hb
theorem refSpeeds_all (A : Option Addr) (cap : Nat) (cs : List (Int × Int)) (start : Int) (nm : ByteArray) (l sp ac br : Int) (w : World) (hR : RdC w A cs) (hl : cs.length ≤ 9223372036854775807) (hcap : cs.length ≤ cap) :
    Calls Try.prog 29 #[.slice A cs.length cap, .int .i64 start, .agg #[.string nm, .int .i64 l, .int .i64 sp, .int .i64 ac, .int .i64 br]] w (RetList w (spdL cs start l sp ac br) (badRun cs start l sp ac br)) := by
  unfold spdL
  by_cases h : badRun cs start l sp ac br = 0
  · rw [if_pos h, h]
    obtain ⟨hc, _, _, h0, _⟩ := bad_zero h
    obtain ⟨s, rfl⟩ := Int.eq_ofNat_of_zero_le h0
    obtain ⟨l, rfl⟩ := Int.eq_ofNat_of_zero_le (show 0 ≤ l by have := chk_of hc; omega)
    exact (refSpeeds_ok A cap cs s l nm sp ac br w hR hcap h).mono fun e w' he => retList_row he
  · rw [if_neg h]
    exact (refSpeeds_bad A cap cs start nm l sp ac br w hR hl h).mono fun e w' ⟨he, hb⟩ => retList_nil he hb
theorem times_all (A : Option Addr) (cap : Nat) (cs : List (Int × Int)) (start : Int) (nm : ByteArray) (l sp ac br : Int) (w : World) (hR : RdC w A cs) (hl : cs.length ≤ 9223372036854775807) (hcap : cs.length ≤ cap) :
    Calls Try.prog 19 #[.slice A cs.length cap, .int .i64 start, .agg #[.string nm, .int .i64 l, .int .i64 sp, .int .i64 ac, .int .i64 br]] w (RetList w (timL cs start l sp ac br) (badRun cs start l sp ac br)) := by
  unfold timL
  by_cases h : badRun cs start l sp ac br = 0
  · rw [if_pos h, h]
    obtain ⟨hc, _, _, h0, _⟩ := bad_zero h
    obtain ⟨s, rfl⟩ := Int.eq_ofNat_of_zero_le h0
    obtain ⟨l, rfl⟩ := Int.eq_ofNat_of_zero_le (show 0 ≤ l by have := chk_of hc; omega)
    exact (times_ok A cap cs s l nm sp ac br w hR hcap h).mono fun e w' he => retList_row he
  · rw [if_neg h]
    exact (times_bad A cap cs start nm l sp ac br w hR hl h).mono fun e w' ⟨he, hb⟩ => retList_nil he hb
theorem refTimes_all (A : Option Addr) (cap : Nat) (cs : List (Int × Int)) (start : Int) (nm : ByteArray) (l sp ac br : Int) (w : World) (hR : RdC w A cs) (hl : cs.length ≤ 9223372036854775807) (hcap : cs.length ≤ cap) :
    Calls Try.prog 30 #[.slice A cs.length cap, .int .i64 start, .agg #[.string nm, .int .i64 l, .int .i64 sp, .int .i64 ac, .int .i64 br]] w (RetList w (timL cs start l sp ac br) (badRun cs start l sp ac br)) := by
  unfold timL
  by_cases h : badRun cs start l sp ac br = 0
  · rw [if_pos h, h]
    obtain ⟨hc, _, _, h0, _⟩ := bad_zero h
    obtain ⟨s, rfl⟩ := Int.eq_ofNat_of_zero_le h0
    obtain ⟨l, rfl⟩ := Int.eq_ofNat_of_zero_le (show 0 ≤ l by have := chk_of hc; omega)
    exact (refTimes_ok A cap cs s l nm sp ac br w hR hcap h).mono fun e w' he => retList_row he
  · rw [if_neg h]
    exact (refTimes_bad A cap cs start nm l sp ac br w hR hl h).mono fun e w' ⟨he, hb⟩ => retList_nil he hb
theorem run_all (A : Option Addr) (cap : Nat) (cs : List (Int × Int)) (start : Int) (nm : ByteArray) (l sp ac br : Int) (w : World) (hR : RdC w A cs) (hl : cs.length ≤ 9223372036854775807) (hcap : cs.length ≤ cap) :
    Calls Try.prog 20 #[.slice A cs.length cap, .int .i64 start, .agg #[.string nm, .int .i64 l, .int .i64 sp, .int .i64 ac, .int .i64 br]] w fun e w' => e = .returned (.tuple #[.int .i64 (runL cs start l sp ac br), .int .i64 (badRun cs start l sp ac br)]) ∧ Below w.heap.size w w' := by
  unfold runL
  by_cases h : badRun cs start l sp ac br = 0
  · rw [if_pos h, h]
    obtain ⟨hc, _, _, h0, _⟩ := bad_zero h
    obtain ⟨s, rfl⟩ := Int.eq_ofNat_of_zero_le h0
    obtain ⟨l, rfl⟩ := Int.eq_ofNat_of_zero_le (show 0 ≤ l by have := chk_of hc; omega)
    exact (run_ok A cap cs s l nm sp ac br w hR hcap h)
  · rw [if_neg h]
    exact (run_bad A cap cs start nm l sp ac br w hR hl h)
theorem refRun_all (A : Option Addr) (cap : Nat) (cs : List (Int × Int)) (start : Int) (nm : ByteArray) (l sp ac br : Int) (w : World) (hR : RdC w A cs) (hl : cs.length ≤ 9223372036854775807) (hcap : cs.length ≤ cap) :
    Calls Try.prog 31 #[.slice A cs.length cap, .int .i64 start, .agg #[.string nm, .int .i64 l, .int .i64 sp, .int .i64 ac, .int .i64 br]] w fun e w' => e = .returned (.tuple #[.int .i64 (runL cs start l sp ac br), .int .i64 (badRun cs start l sp ac br)]) ∧ Below w.heap.size w w' := by
  unfold runL
  by_cases h : badRun cs start l sp ac br = 0
  · rw [if_pos h, h]
    obtain ⟨hc, _, _, h0, _⟩ := bad_zero h
    obtain ⟨s, rfl⟩ := Int.eq_ofNat_of_zero_le h0
    obtain ⟨l, rfl⟩ := Int.eq_ofNat_of_zero_le (show 0 ≤ l by have := chk_of hc; omega)
    exact (refRun_ok A cap cs s l nm sp ac br w hR hcap h)
  · rw [if_neg h]
    exact (refRun_bad A cap cs start nm l sp ac br w hR hl h)

/-- What agrees keeps. -/
structure AgI (w x : World) (A : Option Addr) (cs : List (Int × Int)) (nm : ByteArray) (l sp ac br : Int) : Prop where
  box : BoxS x w.heap.size nm l sp ac br
  rd : RdC x A cs
  bel : Below w.heap.size w x
theorem AgI.call {w x y : World} {A : Option Addr} {cs : List (Int × Int)} {nm : ByteArray} {l sp ac br : Int} (h : AgI w x A cs nm l sp ac br) (hb : Below x.heap.size x y) : AgI w y A cs nm l sp ac br :=
  ⟨h.box.below hb, h.rd.below (B := 0) hb, h.bel.trans (hb.mono h.bel.size)⟩
/-- .. and the four lists. -/
structure AgL (w x : World) (A : Option Addr) (cs : List (Int × Int)) (nm : ByteArray) (l sp ac br : Int) (A1 A2 A3 A4 : Option Addr) (xs ts : List Int) : Prop where
  ag : AgI w x A cs nm l sp ac br
  r1 : RdI x A1 xs
  r2 : RdI x A2 xs
  r3 : RdI x A3 ts
  r4 : RdI x A4 ts
theorem AgL.call {w x y : World} {A : Option Addr} {cs : List (Int × Int)} {nm : ByteArray} {l sp ac br : Int} {A1 A2 A3 A4 : Option Addr} {xs ts : List Int} (h : AgL w x A cs nm l sp ac br A1 A2 A3 A4 xs ts) (hb : Below x.heap.size x y) : AgL w y A cs nm l sp ac br A1 A2 A3 A4 xs ts :=
  ⟨h.ag.call hb, h.r1.below hb, h.r2.below hb, h.r3.below hb, h.r4.below hb⟩
theorem AgL.drewN {w x : World} {A : Option Addr} {cs : List (Int × Int)} {nm : ByteArray} {l sp ac br : Int} {A1 A2 A3 A4 : Option Addr} {xs ts : List Int} (h : AgL w x A cs nm l sp ac br A1 A2 A3 A4 xs ts) (n : Nat) : AgL w (x.drewN n) A cs nm l sp ac br A1 A2 A3 A4 xs ts :=
  h.call (below_draws (Below.refl _ _) n)

set_option maxRecDepth 100000 in
theorem agrees_any (A : Option Addr) (cap : Nat) (cs : List (Int × Int)) (start : Int) (nm : ByteArray) (l sp ac br : Int) (w : World) (hR : RdC w A cs) (hl : cs.length ≤ 9223372036854775807) (hcap : cs.length ≤ cap) :
    Calls Try.prog 22 #[.slice A cs.length cap, .int .i64 start, .agg #[.string nm, .int .i64 l, .int .i64 sp, .int .i64 ac, .int .i64 br]] w fun e w' => e = .returned (.bool true) ∧ Below w.heap.size w w' := by
  obtain ⟨xs, Hxs⟩ : ∃ xs, Hid (spdL cs start l sp ac br = xs) := ⟨_, Lib.hid rfl⟩
  obtain ⟨ts, Hts⟩ : ∃ ts, Hid (timL cs start l sp ac br = ts) := ⟨_, Lib.hid rfl⟩
  obtain ⟨rn, Hrn⟩ : ∃ rn, Hid (runL cs start l sp ac br = rn) := ⟨_, Lib.hid rfl⟩
  obtain ⟨z, Hz⟩ : ∃ z, Hid (badRun cs start l sp ac br = z) := ⟨_, Lib.hid rfl⟩
  obtain ⟨q, Hq⟩ : ∃ q, Hid (chkB l sp ac br = q) := ⟨_, Lib.hid rfl⟩
  have hxs : xs.length ≤ 4001 := by rw [← Hxs.out]; exact spdL_len ..
  have hts : ts.length ≤ 4001 := by rw [← Hts.out]; exact timL_len ..
  have hb0 : Below w.heap.size w (w.alloc (.cells #[.string nm, .int .i64 l, .int .i64 sp, .int .i64 ac, .int .i64 br] 26)) := (Below.refl _ _).alloc (Nat.le_refl _) _
  have HI : Hid (AgI w (w.alloc (.cells #[.string nm, .int .i64 l, .int .i64 sp, .int .i64 ac, .int .i64 br] 26)) A cs nm l sp ac br) := Lib.hid ⟨BoxS.new w nm l sp ac br 26, hR.below (B := 0) hb0, hb0⟩
  clear hR hb0
  go_enter Try.func22, Try.ntmps22
  go_wp2_with fail
  refine (speeds_all A cap cs start nm l sp ac br _ HI.out.rd hl hcap).mono ?_
  rintro e w1 ⟨A1, c1, rfl, hr, hb⟩
  rw [Hxs.out] at hr ⊢
  rw [Hz.out]
  have HR1 := Lib.hid hr
  have HI := Lib.hid (HI.out.call hb)
  have Hb1 := Lib.hid hb
  clear hr hb
  obtain ⟨hps, s0, s1, s2, s3, s4⟩ := HI.out.box
  go_wp2_with fail
  refine (refSpeeds_all A cap cs start nm l sp ac br _ HI.out.rd hl hcap).mono ?_
  rintro e w2 ⟨A2, c2, rfl, hr, hb⟩
  rw [Hxs.out] at hr ⊢
  rw [Hz.out]
  have HR2 := Lib.hid hr
  have HI := Lib.hid (HI.out.call hb)
  have Hb2 := Lib.hid hb
  clear hr hb
  obtain ⟨hps, s0, s1, s2, s3, s4⟩ := HI.out.box
  go_wp2_with fail
  refine (times_all A cap cs start nm l sp ac br _ HI.out.rd hl hcap).mono ?_
  rintro e w3 ⟨A3, c3, rfl, hr, hb⟩
  rw [Hts.out] at hr ⊢
  rw [Hz.out]
  have HR3 := Lib.hid hr
  have HI := Lib.hid (HI.out.call hb)
  have Hb3 := Lib.hid hb
  clear hr hb
  obtain ⟨hps, s0, s1, s2, s3, s4⟩ := HI.out.box
  go_wp2_with fail
  refine (refTimes_all A cap cs start nm l sp ac br _ HI.out.rd hl hcap).mono ?_
  rintro e w4 ⟨A4, c4, rfl, hr, hb⟩
  rw [Hts.out] at hr ⊢
  rw [Hz.out]
  have HR4 := Lib.hid hr
  have HI := Lib.hid (HI.out.call hb)
  have Hb4 := Lib.hid hb
  clear hr hb
  obtain ⟨hps, s0, s1, s2, s3, s4⟩ := HI.out.box
  go_wp2_with fail
  refine (run_all A cap cs start nm l sp ac br _ HI.out.rd hl hcap).mono ?_
  rintro e w5 ⟨rfl, hb⟩
  rw [Hrn.out, Hz.out]
  have HI := Lib.hid (HI.out.call hb)
  have Hb5 := Lib.hid hb
  clear hb
  obtain ⟨hps, s0, s1, s2, s3, s4⟩ := HI.out.box
  go_wp2_with fail
  refine (refRun_all A cap cs start nm l sp ac br _ HI.out.rd hl hcap).mono ?_
  rintro e w6 ⟨rfl, hb⟩
  rw [Hrn.out, Hz.out]
  have HI := Lib.hid (HI.out.call hb)
  have Hb6 := Lib.hid hb
  clear hb
  obtain ⟨hps, s0, s1, s2, s3, s4⟩ := HI.out.box
  have HL : Hid (AgL w w6 A cs nm l sp ac br A1 A2 A3 A4 xs ts) := Lib.hid ⟨HI.out, (((((HR1.out.below Hb2.out).below Hb3.out).below Hb4.out).below Hb5.out).below Hb6.out), ((((HR2.out.below Hb3.out).below Hb4.out).below Hb5.out).below Hb6.out), (((HR3.out.below Hb4.out).below Hb5.out).below Hb6.out), ((HR4.out.below Hb5.out).below Hb6.out)⟩
  go_wp2
  obtain ⟨Z, hZ, f, hS, hof⟩ := classOf (fun x => AgL w x A cs nm l sp ac br A1 A2 A3 A4 xs ts) (HL.out.drewN 1)
  have hk4 : ∀ z, (f z).cell? ⟨w.heap.size, 0, none⟩ = some (.string nm) := fun z => (hS z).ag.box.2.1
  have hk5 : ∀ z, (f z).cell? ⟨w.heap.size, 1, none⟩ = some (.int .i64 l) := fun z => (hS z).ag.box.2.2.1
  have hk6 : ∀ z, (f z).cell? ⟨w.heap.size, 2, none⟩ = some (.int .i64 sp) := fun z => (hS z).ag.box.2.2.2.1
  have hk7 : ∀ z, (f z).cell? ⟨w.heap.size, 3, none⟩ = some (.int .i64 ac) := fun z => (hS z).ag.box.2.2.2.2.1
  have hk8 : ∀ z, (f z).cell? ⟨w.heap.size, 4, none⟩ = some (.int .i64 br) := fun z => (hS z).ag.box.2.2.2.2.2
  have HS := Lib.hid hS
  have Hof := Lib.hid hof
  clear hS hof s0 s1 s2 s3 s4 hps
  refine wp_region_qtail (fun w' => ∃ z : Z, w' = f z) 35 (by kernel_rfl) (by kernel_rfl) (Hof.out _ (HL.out.drewN 1)) ?_
  simp only [List.take_succ_cons, List.take_zero, List.drop_succ_cons, List.drop_zero]
  (repeat (go_big_quiet_step ((first
    | (go_at_call 15; with_reducible exact (check_any nm l sp ac br _).mono fun e w'' ⟨he, hb⟩ => ⟨he.trans (ret_bool Hq.out), Hof.out _ ((HS.out _).call hb)⟩)
    | (go_at_call 32; with_reducible exact (refCheck_any nm l sp ac br _).mono fun e w'' ⟨he, hb⟩ => ⟨he.trans (ret_bool Hq.out), Hof.out _ ((HS.out _).call hb)⟩)
    | (go_at_call 21; with_reducible exact (same_yes A1 A2 c1 c2 xs _ (HS.out _).r1 (HS.out _).r2 (by omega)).mono fun e w'' ⟨he, n, hn⟩ => ⟨he, Hof.out _ (by rw [hn]; exact (HS.out _).drewN n)⟩)
    | (go_at_call 21; with_reducible exact (same_yes A3 A4 c3 c4 ts _ (HS.out _).r3 (HS.out _).r4 (by omega)).mono fun e w'' ⟨he, n, hn⟩ => ⟨he, Hof.out _ (by rw [hn]; exact (HS.out _).drewN n)⟩)))))
  refine wpQuiet_nil ?_
  intro w7 hw7
  obtain ⟨z7, hw7⟩ := hw7
  have HL7 := Lib.hid (HS.out z7)
  rw [← hw7] at HL7
  clear hw7 hk4 hk5 hk6 hk7 hk8 HS Hof HI
  go_wp2
  go_ret
  exact ⟨rfl, HL7.out.ag.bel⟩
end Go.Proofs.Ytjmiddhdbimaaaa
