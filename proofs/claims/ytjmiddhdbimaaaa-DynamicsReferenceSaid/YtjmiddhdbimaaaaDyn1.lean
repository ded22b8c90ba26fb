/- Contracts of the small functions of package dynamics. -/
import Derived.Test.YtjmiddhdbimaaaaBase
import Derived.Test.YtjmiddhdbimaaaaDynPlain
namespace Go.Proofs.Ytjmiddhdbimaaaa
open Go.RowKit
set_option linter.unusedVariables false

theorem ret_bool {a b : Bool} (h : a = b) : Ending.returned (.bool a) = .returned (.bool b) := by rw [h]

theorem check_any (nm : ByteArray) (l sp ac br : Int) (w : World) :
    Calls Try.prog 15 #[.agg #[.string nm, .int .i64 l, .int .i64 sp, .int .i64 ac, .int .i64 br]] w fun e w' => e = .returned (.bool (chkB l sp ac br)) ∧ Below w.heap.size w w' := by
  go_enter Try.func15, Try.ntmps15
  go_wp2
  all_goals
    go_ret
    exact ⟨ret_bool (by rw [Bool.eq_iff_iff]; simp [chkB]; try omega), (Below.refl _ _).alloc (Nat.le_refl _) _⟩

theorem gain_any (lm g : Int) (nm : ByteArray) (l sp ac br : Int) (w : World) (h1 : -1000000 ≤ g) (h2 : g ≤ 1000000) (h3 : -1000000 ≤ ac) (h4 : ac ≤ 1000000) :
    Calls Try.prog 34 #[.agg #[.int .i64 lm, .int .i64 g], .agg #[.string nm, .int .i64 l, .int .i64 sp, .int .i64 ac, .int .i64 br]] w fun e w' => e = .returned (.int .i64 (gainOf g ac)) ∧ Below w.heap.size w w' := by
  by_cases hg : 0 < g
  · have H : Hid (gainOf g ac = 20000 * max 50 (ac - 10 * g)) := Lib.hid (by simp [gainOf, hg])
    go_enter Try.func34, Try.ntmps34
    go_wp2
    all_goals
      go_ret
      exact ⟨ret_int (by have := H.out; omega), ((Below.refl _ _).alloc (Nat.le_refl _) _).alloc (by simp) _⟩
  · have H : Hid (gainOf g ac = 20000 * ac) := Lib.hid (by simp [gainOf, hg])
    go_enter Try.func34, Try.ntmps34
    go_wp2
    go_ret
    exact ⟨by rw [H.out]; rfl, ((Below.refl _ _).alloc (Nat.le_refl _) _).alloc (by simp) _⟩

theorem loss_any (lm g : Int) (nm : ByteArray) (l sp ac br : Int) (w : World) (h1 : -1000000 ≤ g) (h2 : g ≤ 1000000) (h3 : -1000000 ≤ br) (h4 : br ≤ 1000000) :
    Calls Try.prog 35 #[.agg #[.int .i64 lm, .int .i64 g], .agg #[.string nm, .int .i64 l, .int .i64 sp, .int .i64 ac, .int .i64 br]] w fun e w' => e = .returned (.int .i64 (lossOf g br)) ∧ Below w.heap.size w w' := by
  by_cases hg : g < 0
  · have H : Hid (lossOf g br = 20000 * max 50 (br + 10 * g)) := Lib.hid (by simp [lossOf, hg])
    go_enter Try.func35, Try.ntmps35
    go_wp2
    all_goals
      go_ret
      exact ⟨ret_int (by have := H.out; omega), ((Below.refl _ _).alloc (Nat.le_refl _) _).alloc (by simp) _⟩
  · have H : Hid (lossOf g br = 20000 * br) := Lib.hid (by simp [lossOf, hg])
    go_enter Try.func35, Try.ntmps35
    go_wp2
    go_ret
    exact ⟨by rw [H.out]; rfl, ((Below.refl _ _).alloc (Nat.le_refl _) _).alloc (by simp) _⟩

/-- A slice of cells reads as a list. -/
def RdC (w : World) (A : Option Addr) (cs : List (Int × Int)) : Prop :=
  ∀ k (h : k < cs.length), ∃ b off, A = some ⟨b, off, none⟩ ∧ b < w.heap.size ∧ w.cell? ⟨b, off + k * 2, none⟩ = some (.int .i64 cs[k].1) ∧ w.cell? ⟨b, off + k * 2 + 1, none⟩ = some (.int .i64 cs[k].2)
theorem RdC.below {w w' : World} {B : Nat} {A : Option Addr} {cs : List (Int × Int)} (h : RdC w A cs) (hb : Below w.heap.size w w') : RdC w' A cs := by
  intro k hk
  obtain ⟨b, off, e, hlt, h1, h2⟩ := h k hk
  exact ⟨b, off, e, Nat.lt_of_lt_of_le hlt hb.size, by rw [hb.cell (p := ⟨b, _, none⟩) hlt]; exact h1, by rw [hb.cell (p := ⟨b, _, none⟩) hlt]; exact h2⟩

theorem all_snoc (cs : List (Int × Int)) (k : Nat) (h : k < cs.length) : (cs.take (k + 1)).all cellB = ((cs.take k).all cellB && cellB cs[k]) := by
  rw [List.take_succ_eq_append_getElem h, List.all_append]; simp

theorem checkRun_any (A : Option Addr) (cap : Nat) (cs : List (Int × Int)) (start : Int) (nm : ByteArray) (l sp ac br : Int) (w : World) (hR : RdC w A cs) (hl : cs.length ≤ 9223372036854775807) :
    Calls Try.prog 25 #[.slice A cs.length cap, .int .i64 start, .agg #[.string nm, .int .i64 l, .int .i64 sp, .int .i64 ac, .int .i64 br]] w fun e w' => e = .returned (.int .i64 (badRun cs start l sp ac br)) ∧ Below w.heap.size w w' := by
  by_cases hc : chkB l sp ac br = true
  · by_cases h4 : 4000 < cs.length
    · have H : Hid (badRun cs start l sp ac br = 7) := Lib.hid (by simp [badRun, hc, h4])
      have Hc := Lib.hid hc
      have HR := Lib.hid hR
      clear hc hR
      go_enter Try.func25, Try.ntmps25
      go_wp2_with fail
      refine (check_any nm l sp ac br _).mono ?_
      rintro e w1 ⟨rfl, hb⟩
      rw [Hc.out]
      go_wp2
      go_ret
      exact ⟨by rw [H.out]; rfl, ((Below.refl _ _).alloc (Nat.le_refl _) _).trans (hb.mono (by simp))⟩
    · have Hc := Lib.hid hc
      have HR := Lib.hid hR
      clear hc hR
      have hdec : decide ((4000 : Int) < (cs.length : Int)) = false := by simp; omega
      go_enter Try.func25, Try.ntmps25
      go_wp2_with fail
      refine (check_any nm l sp ac br _).mono ?_
      rintro e w1 ⟨rfl, hb⟩
      rw [Hc.out]
      have hb1 : Below w.heap.size w w1 := ((Below.refl _ _).alloc (Nat.le_refl _) _).trans (hb.mono (by simp))
      clear hb
      go_wp2
      go_loopw [19] (fun i wr => ∃ k : Nat, k ≤ cs.length ∧ i = .int .i64 k ∧ Hid ((cs.take k).all cellB = true) ∧ Below w.heap.size w wr) (fun i _ => cs.length - (intOf i).toNat)
      case atStart => exact ⟨0, by omega, rfl, Lib.hid rfl, hb1⟩
      case round =>
        obtain ⟨k, hk, rfl, Hk, hbr⟩ := hrel
        by_cases hlt : k < cs.length
        · obtain ⟨b, off, rfl, hbl, c1, c2⟩ := (HR.out.below (B := 0) hbr) k hlt
          by_cases hok : cellB cs[k] = true
          · have Hk1 : Hid ((cs.take (k + 1)).all cellB = true) := Lib.hid (by rw [all_snoc cs k hlt, Hk.out, hok]; rfl)
            obtain ⟨q1, q2, q3, q4⟩ := cell_of hok
            clear hok
            go_wp2
            go_roundw
            case rel => exact ⟨k + 1, by omega, by go_num, Hk1, hbr.alloc hbr.size _⟩
            case measure => simp [intOf]; omega
          · have H : Hid (badRun cs start l sp ac br = 4) := Lib.hid (by
              have : cs.all cellB = false := by
                rw [Bool.eq_false_iff]
                intro h
                exact hok (List.all_eq_true.1 h _ (List.getElem_mem hlt))
              simp only [badRun, Hc.out, this]
              simp [h4])
            have hno : ¬ (1000 ≤ cs[k].1 ∧ cs[k].1 ≤ 100000 ∧ -40 ≤ cs[k].2 ∧ cs[k].2 ≤ 40) := by simpa [cellB] using hok
            have Hno := Lib.hid hno
            clear hok hno
            go_wp2
            all_goals first
              | (go_ret; exact ⟨by rw [H.out]; rfl, hbr.alloc hbr.size _⟩)
              | (exfalso; have := Hno.out; omega)
        · have Hall : Hid (cs.all cellB = true) := Lib.hid (by have := Hk.out; rwa [List.take_of_length_le (by omega)] at this)
          by_cases hs : start < 0
          · have H : Hid (badRun cs start l sp ac br = 4) := Lib.hid (by simp only [badRun, Hc.out, Hall.out]; simp [h4, hs])
            go_wp2
            go_ret
            exact ⟨by rw [H.out]; rfl, hbr⟩
          · by_cases hs2 : (cs.length : Int) - 2 < start
            · have H : Hid (badRun cs start l sp ac br = 4) := Lib.hid (by simp only [badRun, Hc.out, Hall.out]; simp [h4, hs2])
              go_wp2
              go_ret
              exact ⟨by rw [H.out]; rfl, hbr⟩
            · have H : Hid (badRun cs start l sp ac br = 0) := Lib.hid (by simp only [badRun, Hc.out, Hall.out]; simp [h4, hs, hs2])
              go_wp2
              go_ret
              exact ⟨by rw [H.out]; rfl, hbr⟩
  · have H : Hid (badRun cs start l sp ac br = 1) := Lib.hid (by simp only [badRun, Bool.eq_false_iff.2 hc]; simp)
    have Hc := Lib.hid (Bool.eq_false_iff.2 hc)
    have HR := Lib.hid hR
    clear hc hR
    go_enter Try.func25, Try.ntmps25
    go_wp2_with fail
    refine (check_any nm l sp ac br _).mono ?_
    rintro e w1 ⟨rfl, hb⟩
    rw [Hc.out]
    go_wp2
    go_ret
    exact ⟨by rw [H.out]; rfl, ((Below.refl _ _).alloc (Nat.le_refl _) _).trans (hb.mono (by simp))⟩
end Go.Proofs.Ytjmiddhdbimaaaa
