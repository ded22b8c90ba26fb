/- Contracts of ends, index, joined and fits. -/
import Derived.Test.YthnfliopmjpdmaaLayRead
import Derived.Test.YthnfliopmjpdmaaQTail
import Derived.RegionTactic
import Derived.ChangeAlike
namespace Go.Proofs.Ythnfliopmjpdmaa
open Go.RowKit
set_option linter.unusedVariables false

theorem index_any (a ae : Int) (w : World) (h1 : 0 ≤ a) (h2 : a ≤ 1000000) (h3 : 0 ≤ ae) (h4 : ae ≤ 1) :
    Calls Try.prog 56 #[.agg #[.int .i64 a, .int .i64 ae]] w fun e w' => e = .returned (.int .i64 (2 * a + ae)) ∧ Below w.heap.size w w' := by
  go_enter Try.func56, Try.ntmps56
  go_wp2
  go_ret
  exact ⟨rfl, (Below.refl _ _).alloc (Nat.le_refl _) _⟩

theorem ends_any (k : Lnk) (w : World) :
    Calls Try.prog 55 #[.agg #[.int .i64 k.a, .int .i64 k.ae, .int .i64 k.b, .int .i64 k.be, .int .i64 k.pt, .int .i64 k.ps]] w fun e w' => e = .returned (.tuple #[.agg #[.int .i64 k.a, .int .i64 k.ae], .agg #[.int .i64 k.b, .int .i64 k.be]]) ∧ Below w.heap.size w w' := by
  go_enter Try.func55, Try.ntmps55
  go_wp2
  go_region
  go_wp2
  exact bodyPost_ret (v := .tuple #[.agg #[.int .i64 k.a, .int .i64 k.ae], .agg #[.int .i64 k.b, .int .i64 k.be]]) (by simp [results, Try.results55, go_sem]) rfl ⟨rfl, ((((Below.refl _ _).alloc (Nat.le_refl _) _).alloc (by simp) _).alloc (by simp; omega) _).drew⟩

/-- Two ends are the same. -/
def eqE (x y x' y' : Int) : Bool := decide (x = x' ∧ y = y')
theorem eql_end (x y x' y' : Int) (w : World) : (binOp .eql 100 (.agg #[.int .i64 x, .int .i64 y]) (.agg #[.int .i64 x', .int .i64 y'])).run Try.prog w = .ok (.bool (eqE x y x' y')) w := by
  by_cases h : x = x' <;> by_cases h2 : y = y' <;> simp [go_sem, eqE, h, h2]

/-- A link joins two ends. -/
def joinsB (a ae b be : Int) (k : Lnk) : Bool := (eqE a ae k.a k.ae && eqE b be k.b k.be) || (eqE a ae k.b k.be && eqE b be k.a k.ae)
theorem any_snoc (ls : List Lnk) (k : Nat) (h : k < ls.length) (p : Lnk → Bool) : (ls.take (k + 1)).any p = ((ls.take k).any p || p ls[k]) := by
  rw [List.take_succ_eq_append_getElem h, List.any_append]; simp

structure JnI (w x : World) (a ae b be : Int) (A : Option Addr) (ls : List Lnk) : Prop where
  ba : BoxV x w.heap.size [.int .i64 a, .int .i64 ae]
  bb : BoxV x (w.heap.size + 1) [.int .i64 b, .int .i64 be]
  rd : RdF 6 lnkF x A ls
  bel : Below w.heap.size w x
theorem JnI.call {w x y : World} {a ae b be : Int} {A : Option Addr} {ls : List Lnk} (h : JnI w x a ae b be A ls) (hb : Below x.heap.size x y) : JnI w y a ae b be A ls :=
  ⟨h.ba.below hb, h.bb.below hb, h.rd.below hb, h.bel.trans (hb.mono h.bel.size)⟩

theorem joined_any (A : Option Addr) (c : Nat) (ls : List Lnk) (a ae b be : Int) (w : World) (hR : RdF 6 lnkF w A ls) (hl : ls.length ≤ 9223372036854775807) :
    Calls Try.prog 57 #[.slice A ls.length c, .agg #[.int .i64 a, .int .i64 ae], .agg #[.int .i64 b, .int .i64 be]] w fun e w' => e = .returned (.bool (ls.any (joinsB a ae b be))) ∧ Below w.heap.size w w' := by
  have hb0 : Below w.heap.size w (w.alloc (.cells #[.int .i64 a, .int .i64 ae] 100)) := (Below.refl _ _).alloc (Nat.le_refl _) _
  have hb1 := (Below.refl _ (w.alloc (.cells #[.int .i64 a, .int .i64 ae] 100))).alloc (Nat.le_refl _) (.cells #[.int .i64 b, .int .i64 be] 100)
  have HI : Hid (JnI w ((w.alloc (.cells #[.int .i64 a, .int .i64 ae] 100)).alloc (.cells #[.int .i64 b, .int .i64 be] 100)) a ae b be A ls) := Lib.hid
    ⟨(BoxV.new w [.int .i64 a, .int .i64 ae] 100).below hb1, (by have := BoxV.new (w.alloc (.cells #[.int .i64 a, .int .i64 ae] 100)) [.int .i64 b, .int .i64 be] 100; simpa using this), (hR.below hb0).below hb1, hb0.trans (hb1.mono hb0.size)⟩
  clear hR hb0 hb1
  have heq := eql_end
  go_enter Try.func57, Try.ntmps57
  go_wp2
  go_loopw [13] (fun i wr => ∃ k : Nat, k ≤ ls.length ∧ i = .int .i64 k ∧ Hid ((ls.take k).any (joinsB a ae b be) = false) ∧ Hid (JnI w wr a ae b be A ls)) (fun i _ => ls.length - (intOf i).toNat)
  case atStart => exact ⟨0, by omega, rfl, Lib.hid rfl, HI⟩
  case round =>
    obtain ⟨k, hk, rfl, Hk, HI2⟩ := hrel
    by_cases hlt : k < ls.length
    · have Hsn := Lib.hid (any_snoc ls k hlt (joinsB a ae b be))
      obtain ⟨bb, off, rfl, hbl, hc⟩ := HI2.out.rd k hlt
      obtain ⟨j, Hj⟩ : ∃ j, Hid (ls[k] = j) := ⟨_, Lib.hid rfl⟩
      rw [Hj.out] at hc Hsn
      have q0 := hc 0 _ rfl
      have q1 := hc 1 _ rfl
      have q2 := hc 2 _ rfl
      have q3 := hc 3 _ rfl
      have q4 := hc 4 _ rfl
      have q5 := hc 5 _ rfl
      rw [Nat.add_zero] at q0
      clear hc
      have hba : Below wr.heap.size wr (wr.alloc (.cells #[.int .i64 j.a, .int .i64 j.ae, .int .i64 j.b, .int .i64 j.be, .int .i64 j.pt, .int .i64 j.ps] 58)) := (Below.refl _ _).alloc (Nat.le_refl _) _
      have HI3 := Lib.hid (HI2.out.call hba)
      clear HI2 hba
      go_wp2_with fail
      refine (ends_any j _).mono ?_
      rintro e w2 ⟨rfl, hb2⟩
      have HI4 := Lib.hid (HI3.out.call hb2)
      clear q0 q1 q2 q3 q4 q5 hb2 HI3 hbl
      have c0 := HI4.out.ba.2 0 _ rfl
      have c1 := HI4.out.ba.2 1 _ rfl
      have d0 := HI4.out.bb.2 0 _ rfl
      have d1 := HI4.out.bb.2 1 _ rfl
      have g1 := HI4.out.ba.1
      have g2 := HI4.out.bb.1
      have hbn : Below w2.heap.size w2 ((w2.alloc (.cells #[.int .i64 j.a, .int .i64 j.ae] 100)).alloc (.cells #[.int .i64 j.b, .int .i64 j.be] 100)) := ((Below.refl _ _).alloc (Nat.le_refl _) _).alloc (by simp) _
      have HI5 := Lib.hid (HI4.out.call hbn)
      clear hbn
      cases h1 : eqE a ae j.a j.ae
      · skip
        cases h3 : eqE a ae j.b j.be
        · skip
          have HJ : Hid (joinsB a ae b be j = false) := Lib.hid (by simp [joinsB, h1, h3])
          go_wp2
          go_roundw
          case rel => exact ⟨k + 1, by omega, by go_num, Lib.hid (by rw [Hsn.out, Hk.out, HJ.out]; rfl), HI5⟩
          case measure => simp [intOf]; omega
        · cases h4 : eqE b be j.a j.ae
          · skip
            have HJ : Hid (joinsB a ae b be j = false) := Lib.hid (by simp [joinsB, h1, h3, h4])
            go_wp2
            go_roundw
            case rel => exact ⟨k + 1, by omega, by go_num, Lib.hid (by rw [Hsn.out, Hk.out, HJ.out]; rfl), HI5⟩
            case measure => simp [intOf]; omega
          · skip
            have HJ : Hid (joinsB a ae b be j = true) := Lib.hid (by simp [joinsB, h1, h3, h4])
            have HA : Hid (ls.any (joinsB a ae b be) = true) := Lib.hid (List.any_eq_true.2 ⟨j, by rw [← Hj.out]; exact List.getElem_mem hlt, HJ.out⟩)
            go_wp2
            go_ret
            exact ⟨ret_bool HA.out.symm, HI5.out.bel⟩
      · cases h2 : eqE b be j.b j.be
        · skip
          cases h3 : eqE a ae j.b j.be
          · skip
            have HJ : Hid (joinsB a ae b be j = false) := Lib.hid (by simp [joinsB, h1, h2, h3])
            go_wp2
            go_roundw
            case rel => exact ⟨k + 1, by omega, by go_num, Lib.hid (by rw [Hsn.out, Hk.out, HJ.out]; rfl), HI5⟩
            case measure => simp [intOf]; omega
          · cases h4 : eqE b be j.a j.ae
            · skip
              have HJ : Hid (joinsB a ae b be j = false) := Lib.hid (by simp [joinsB, h1, h2, h3, h4])
              go_wp2
              go_roundw
              case rel => exact ⟨k + 1, by omega, by go_num, Lib.hid (by rw [Hsn.out, Hk.out, HJ.out]; rfl), HI5⟩
              case measure => simp [intOf]; omega
            · skip
              have HJ : Hid (joinsB a ae b be j = true) := Lib.hid (by simp [joinsB, h1, h2, h3, h4])
              have HA : Hid (ls.any (joinsB a ae b be) = true) := Lib.hid (List.any_eq_true.2 ⟨j, by rw [← Hj.out]; exact List.getElem_mem hlt, HJ.out⟩)
              go_wp2
              go_ret
              exact ⟨ret_bool HA.out.symm, HI5.out.bel⟩
        · skip
          have HJ : Hid (joinsB a ae b be j = true) := Lib.hid (by simp [joinsB, h1, h2])
          have HA : Hid (ls.any (joinsB a ae b be) = true) := Lib.hid (List.any_eq_true.2 ⟨j, by rw [← Hj.out]; exact List.getElem_mem hlt, HJ.out⟩)
          go_wp2
          go_ret
          exact ⟨ret_bool HA.out.symm, HI5.out.bel⟩
    · have HA : Hid (ls.any (joinsB a ae b be) = false) := Lib.hid (by have := Hk.out; rwa [List.take_of_length_le (by omega)] at this)
      go_wp2
      go_ret
      exact ⟨ret_bool HA.out.symm, HI2.out.bel⟩
end Go.Proofs.Ythnfliopmjpdmaa
