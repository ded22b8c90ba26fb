/- DynamicsReference returns true, whatever its arguments: the functions of dynamics return what the reference returns, results and errors, for arbitrary arguments. -/
import Derived.Test.YtjmiddhdbimaaaaOpening
import Derived.Test.YtjmiddhdbimaaaaPlainCells
import Derived.Test.YtjmiddhdbimaaaaAgree
namespace Go.Proofs.Ytjmiddhdbimaaaa
open Go.RowKit
set_option linter.unusedVariables false

set_option maxRecDepth 100000 in
theorem W.DynamicsReference (A : Option Addr) (cap : Nat) (cs : List (Int × Int)) (start : Int) (nm : ByteArray) (l sp ac br : Int) (w : World) (hR : RdC w A cs) (hl : cs.length ≤ 9223372036854775807) (hcap : cs.length ≤ cap) :
    Calls Try.prog 9 #[.slice A cs.length cap, .int .i64 start, .agg #[.string nm, .int .i64 l, .int .i64 sp, .int .i64 ac, .int .i64 br]] w fun e w' => e = .returned (.bool true) ∧ Below w.heap.size w w' := by
  have hb0 : Below w.heap.size w (w.alloc (.cells #[.string nm, .int .i64 l, .int .i64 sp, .int .i64 ac, .int .i64 br] 26)) := (Below.refl _ _).alloc (Nat.le_refl _) _
  have HR := Lib.hid (hR.below (B := 0) hb0)
  have Hb0 := Lib.hid hb0
  clear hR hb0
  have Hq : Hid (chkB 1 5000 500 500 = true) := Lib.hid (by decide)
  go_enter Try.func9, Try.ntmps9
  go_wp2_with fail
  refine (agrees_any A cap cs start nm l sp ac br _ HR.out hl hcap).mono ?_
  rintro e w1 ⟨rfl, hb1⟩
  have Hb1 := Lib.hid (Hb0.out.trans (hb1.mono Hb0.out.size))
  clear hb1 HR Hb0
  go_wp2_with fail
  obtain ⟨cs3, Hcs3⟩ : ∃ cs3 : List (Int × Int), Hid (List.replicate 3 (30000, 0) = cs3) := ⟨_, Lib.hid rfl⟩
  have hl3 : cs3.length ≤ 3 := by rw [← Hcs3.out]; simp
  have HP := Lib.hid (plain_any 3 w1 (by omega))
  rw [Hcs3.out] at HP
  refine (show Calls Try.prog 18 #[.int .i64 3] w1 _ from HP.out).mono ?_
  rintro e w2 ⟨A2, c2, rfl, hown, hb2⟩
  have HR2 := Lib.hid (RdC.of_own hown rfl)
  have hcap2 : cs3.length ≤ c2 := own_cap hown
  have Hb2 := Lib.hid (Hb1.out.trans (hb2.mono Hb1.out.size))
  clear hown hb2 Hb1 HP
  go_wp2_with fail
  refine (agrees_any A2 c2 cs3 0 _ 2 9000 300 200 _ HR2.out (by omega) hcap2).mono ?_
  rintro e w3 ⟨rfl, hb3⟩
  have Hb3 := Lib.hid (Hb2.out.trans (hb3.mono Hb2.out.size))
  clear hb3 Hb2 HR2
  go_wp2_with fail
  refine (check_any _ 1 5000 500 500 _).mono ?_
  rintro e w4 ⟨rfl, hb4⟩
  rw [Hq.out]
  have Hb4 := Lib.hid (Hb3.out.trans (hb4.mono Hb3.out.size))
  clear hb4 Hb3
  go_wp2
  go_ret
  exact ⟨rfl, Hb4.out⟩
end Go.Proofs.Ytjmiddhdbimaaaa
