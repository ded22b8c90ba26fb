/- DynamicsGenerated returns true, whatever its arguments: for valid cells and stocks and all starts the functions of dynamics return what the reference returns. -/
import Derived.Test.YtjmiddhdbimaaaaOpening
import Derived.Test.YtjmiddhdbimaaaaAgree
namespace Go.Proofs.Ytjmiddhdbimaaaa
open Go.RowKit
set_option linter.unusedVariables false

/-- What the statement keeps: the stock's box and the cells. -/
structure GnI (w x : World) (p : Nat) (A : Option Addr) (cs : List (Int × Int)) (nm : ByteArray) (l sp ac br : Int) : Prop where
  box : BoxS x p nm l sp ac br
  rd : RdC x A cs
  bel : Below w.heap.size w x
theorem GnI.call {w x y : World} {p : Nat} {A : Option Addr} {cs : List (Int × Int)} {nm : ByteArray} {l sp ac br : Int} (h : GnI w x p A cs nm l sp ac br) (hb : Below x.heap.size x y) : GnI w y p A cs nm l sp ac br :=
  ⟨h.box.below hb, h.rd.below (B := 0) hb, h.bel.trans (hb.mono h.bel.size)⟩
theorem GnI.drewN {w x : World} {p : Nat} {A : Option Addr} {cs : List (Int × Int)} {nm : ByteArray} {l sp ac br : Int} (h : GnI w x p A cs nm l sp ac br) (n : Nat) : GnI w (x.drewN n) p A cs nm l sp ac br :=
  h.call (below_draws (Below.refl _ _) n)

set_option maxRecDepth 100000 in
theorem W.DynamicsGenerated (a0 : Option Addr) (cap0 : Nat) (z0 : List Int) (a1 : Option Addr) (cap1 : Nat) (z1 : List Int) (a2 : Int) (w : World) (r0 : RdI w a0 z0) (l0 : z0.length ≤ 9223372036854775807) (r1 : RdI w a1 z1) (l1 : z1.length ≤ 9223372036854775807) (w2 : (Lit.int .i64 a2).wf = true) :
    Calls Try.prog 10 #[.slice a0 z0.length cap0, .slice a1 z1.length cap1, .int .i64 a2] w fun e w' => e = .returned (.bool true) ∧ Below w.heap.size w w' := by
  obtain ⟨cs, l, sp, ac, br, hall, hn1, hn2, hl1, hl2, k3, k4, k5, k6, k7, k8, hC, hS⟩ := opening a0 cap0 z0 a1 cap1 z1 w r0 l0 r1 l1
  have Hall := Lib.hid hall
  have HC := Lib.hid hC
  have HS := Lib.hid hS
  clear hall hC hS r0 r1
  obtain ⟨n2, Hn2⟩ : ∃ n2, Hid (cs.length + 2 = n2) := ⟨_, Lib.hid rfl⟩
  have hn2a : 3 ≤ n2 := by have := Hn2.out; omega
  have hn2b : n2 ≤ 58 := by have := Hn2.out; omega
  clear w2
  obtain ⟨s, hs⟩ := Int.eq_ofNat_of_zero_le (pick_range a2 (n2 : Int) (by omega)).1
  have hs2 : s < n2 := by have := (pick_range a2 (n2 : Int) (by omega)).2; omega
  have Hs := Lib.hid hs
  clear hs
  obtain ⟨st, Hst⟩ : ∃ st : Int, Hid ((s : Int) - 1 = st) := ⟨_, Lib.hid rfl⟩
  have e1 : IntKind.i64.wrap ((cs.length : Int) + 2) = (n2 : Int) := by rw [IntKind.wrap_i64]; have := Hn2.out; omega
  have e2 : IntKind.i64.wrap ((s : Int) - 1) = st := by rw [IntKind.wrap_i64]; have := Hst.out; omega
  have Hq : Hid (chkB l sp ac br = true) := Lib.hid (chk_mk (by omega) (by omega) (by omega) (by omega) (by omega) (by omega) (by omega) (by omega))
  go_enter Try.func10, Try.ntmps10
  go_wp2_with fail
  refine HC.out.mono ?_
  rintro e w1 ⟨A, c, rfl, hown, hb1⟩
  go_wp2_with fail
  refine (HS.out w1 hb1).mono ?_
  rintro e w2 ⟨rfl, hb2⟩
  have hcap : cs.length ≤ c := own_cap hown
  have Hb2 : Hid (Below w.heap.size w w2) := Lib.hid (hb1.trans (hb2.mono hb1.size))
  have Hb3 : Hid (Below w.heap.size w (w2.alloc (.cells #[.string ⟨#[88]⟩, .int .i64 l, .int .i64 sp, .int .i64 ac, .int .i64 br] 26))) := Lib.hid (Hb2.out.alloc Hb2.out.size _)
  have HX : Hid (BoxS (w2.alloc (.cells #[.string ⟨#[88]⟩, .int .i64 l, .int .i64 sp, .int .i64 ac, .int .i64 br] 26)) w2.heap.size ⟨#[88]⟩ l sp ac br) := Lib.hid (BoxS.new w2 ⟨#[88]⟩ l sp ac br 26)
  have HRC : Hid (RdC (w2.alloc (.cells #[.string ⟨#[88]⟩, .int .i64 l, .int .i64 sp, .int .i64 ac, .int .i64 br] 26)) A cs) := Lib.hid (((RdC.of_own hown rfl).below (B := 0) hb2).below (B := 0) ((Below.refl _ _).alloc (Nat.le_refl _) _))
  clear hown hb1 hb2 Hb2 HC HS
  obtain ⟨p, hp⟩ : ∃ p, p = w2.heap.size := ⟨_, rfl⟩
  rw [← hp] at HX
  go_wp2
  rw [← hp]
  generalize w2.alloc (.cells #[.string ⟨#[88]⟩, .int .i64 l, .int .i64 sp, .int .i64 ac, .int .i64 br] 26) = W at *
  clear hp
  have HL : Hid (GnI w W p A cs ⟨#[88]⟩ l sp ac br) := Lib.hid ⟨HX.out, HRC.out, Hb3.out⟩
  obtain ⟨Z, hZ, f, hS, hof⟩ := classOf (fun x => GnI w x p A cs ⟨#[88]⟩ l sp ac br) (HL.out.drewN 1)
  have hk4 : ∀ z, (f z).cell? ⟨p, 0, none⟩ = some (.string ⟨#[88]⟩) := fun z => (hS z).box.2.1
  have hk5 : ∀ z, (f z).cell? ⟨p, 1, none⟩ = some (.int .i64 l) := fun z => (hS z).box.2.2.1
  have hk6 : ∀ z, (f z).cell? ⟨p, 2, none⟩ = some (.int .i64 sp) := fun z => (hS z).box.2.2.2.1
  have hk7 : ∀ z, (f z).cell? ⟨p, 3, none⟩ = some (.int .i64 ac) := fun z => (hS z).box.2.2.2.2.1
  have hk8 : ∀ z, (f z).cell? ⟨p, 4, none⟩ = some (.int .i64 br) := fun z => (hS z).box.2.2.2.2.2
  have HS := Lib.hid hS
  have Hof := Lib.hid hof
  clear hS hof
  refine wp_region_qtail (fun w' => ∃ z : Z, w' = f z) 13 (by kernel_rfl) (by kernel_rfl) (Hof.out _ (HL.out.drewN 1)) ?_
  simp only [List.take_succ_cons, List.take_zero, List.drop_succ_cons, List.drop_zero]
  (repeat (go_big_quiet_step ((first
    | (go_at_call 16; with_reducible exact (pick_any a2 (n2 : Int) _ (by omega) (by omega)).mono fun e w'' ⟨he, hb⟩ => ⟨he.trans (ret_int Hs.out), Hof.out _ (by rw [← hb]; exact HS.out _)⟩)
    | (go_at_call 22; with_reducible exact (agrees_any A c cs st ⟨#[88]⟩ l sp ac br _ (HS.out _).rd (by omega) hcap).mono fun e w'' ⟨he, hb⟩ => ⟨he, Hof.out _ ((HS.out _).call hb)⟩)
    | (go_at_call 15; with_reducible exact (check_any ⟨#[88]⟩ l sp ac br _).mono fun e w'' ⟨he, hb⟩ => ⟨he.trans (ret_bool Hq.out), Hof.out _ ((HS.out _).call hb)⟩)))))
  refine wpQuiet_nil ?_
  intro w7 hw7
  obtain ⟨z7, hw7⟩ := hw7
  have HL7 := Lib.hid (HS.out z7)
  rw [← hw7] at HL7
  clear hw7 hk4 hk5 hk6 hk7 hk8 HS Hof
  go_wp2
  go_ret
  exact ⟨rfl, HL7.out.bel⟩
end Go.Proofs.Ytjmiddhdbimaaaa
