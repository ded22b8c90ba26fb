/- The contract of the test of a link's numbers. -/
import Derived.Test.YthnfliopmjpdmaaLayRead
namespace Go.Proofs.Ythnfliopmjpdmaa
open Go.RowKit
set_option linter.unusedVariables false

theorem linkB_false {nsec npt : Nat} {k : Lnk} (h : ¬ (0 ≤ k.a ∧ k.a < nsec ∧ 0 ≤ k.b ∧ k.b < nsec ∧ 0 ≤ k.ae ∧ k.ae ≤ 1 ∧ 0 ≤ k.be ∧ k.be ≤ 1 ∧ -1 ≤ k.pt ∧ k.pt < npt ∧ 0 ≤ k.ps ∧ k.ps ≤ 1 ∧ (k.pt ≠ -1 ∨ k.ps = 0))) : linkB nsec npt k = false := decide_eq_false h
theorem linkB_true {nsec npt : Nat} {k : Lnk} (h : 0 ≤ k.a ∧ k.a < nsec ∧ 0 ≤ k.b ∧ k.b < nsec ∧ 0 ≤ k.ae ∧ k.ae ≤ 1 ∧ 0 ≤ k.be ∧ k.be ≤ 1 ∧ -1 ≤ k.pt ∧ k.pt < npt ∧ 0 ≤ k.ps ∧ k.ps ≤ 1 ∧ (k.pt ≠ -1 ∨ k.ps = 0)) : linkB nsec npt k = true := decide_eq_true h
theorem eq01 (n : Int) : ((n == 0) = true ∧ n = 0) ∨ ((n == 0) = false ∧ (n == 1) = true ∧ n = 1) ∨ ((n == 0) = false ∧ (n == 1) = false ∧ n ≠ 0 ∧ n ≠ 1) := by
  by_cases h : n = 0
  · left; exact ⟨by rw [h]; rfl, h⟩
  · by_cases h1 : n = 1
    · right; left; exact ⟨by simpa using h, by rw [h1]; rfl, h1⟩
    · right; right; exact ⟨by simpa using h, by simpa using h1, h, h1⟩
theorem neq1 (n : Int) : ((n != -1) = true ∧ n ≠ -1) ∨ ((n != -1) = false ∧ n = -1) := by
  by_cases h : n = -1
  · right; exact ⟨by rw [h]; rfl, h⟩
  · left; exact ⟨by simpa using h, h⟩

set_option maxHeartbeats 2000000 in
set_option maxRecDepth 100000 in
theorem linkInRange_any (V : LayV) (L : Lay) (k : Lnk) (w : World) :
    Calls Try.prog 54 #[.agg #[.slice V.A1 L.sts.length V.c1, .slice V.A2 L.pts.length V.c2, .slice V.A3 L.secs.length V.c3, .slice V.A4 L.lnks.length V.c4], .agg #[.int .i64 k.a, .int .i64 k.ae, .int .i64 k.b, .int .i64 k.be, .int .i64 k.pt, .int .i64 k.ps]] w fun e w' => e = .returned (.bool (linkB L.secs.length L.pts.length k)) ∧ Below w.heap.size w w' := by
  obtain ⟨a, ae, b, be, pt, ps⟩ := k
  dsimp only
  by_cases h1 : 0 ≤ a
  rotate_left
  · have h1' : decide (0 ≤ a) = false := decide_eq_false h1
    have HE := Lib.hid (linkB_false (nsec := L.secs.length) (npt := L.pts.length) (k := ⟨a, ae, b, be, pt, ps⟩) (by dsimp only; omega))
    (go_enter Try.func54, Try.ntmps54); simp only [List.append_eq, List.cons_append, List.nil_append]
    go_wp2
    go_ret
    exact ⟨ret_bool HE.out.symm, ((Below.refl _ _).alloc (Nat.le_refl _) _).alloc (by simp) _⟩
  · skip
    by_cases h2 : a < L.secs.length
    rotate_left
    · have h2' : decide (a < (L.secs.length : Int)) = false := decide_eq_false h2
      have HE := Lib.hid (linkB_false (nsec := L.secs.length) (npt := L.pts.length) (k := ⟨a, ae, b, be, pt, ps⟩) (by dsimp only; omega))
      (go_enter Try.func54, Try.ntmps54); simp only [List.append_eq, List.cons_append, List.nil_append]
      go_wp2
      go_ret
      exact ⟨ret_bool HE.out.symm, ((Below.refl _ _).alloc (Nat.le_refl _) _).alloc (by simp) _⟩
    · skip
      by_cases h3 : 0 ≤ b
      rotate_left
      · have h3' : decide (0 ≤ b) = false := decide_eq_false h3
        have HE := Lib.hid (linkB_false (nsec := L.secs.length) (npt := L.pts.length) (k := ⟨a, ae, b, be, pt, ps⟩) (by dsimp only; omega))
        (go_enter Try.func54, Try.ntmps54); simp only [List.append_eq, List.cons_append, List.nil_append]
        go_wp2
        go_ret
        exact ⟨ret_bool HE.out.symm, ((Below.refl _ _).alloc (Nat.le_refl _) _).alloc (by simp) _⟩
      · skip
        by_cases h4 : b < L.secs.length
        rotate_left
        · have h4' : decide (b < (L.secs.length : Int)) = false := decide_eq_false h4
          have HE := Lib.hid (linkB_false (nsec := L.secs.length) (npt := L.pts.length) (k := ⟨a, ae, b, be, pt, ps⟩) (by dsimp only; omega))
          (go_enter Try.func54, Try.ntmps54); simp only [List.append_eq, List.cons_append, List.nil_append]
          go_wp2
          go_ret
          exact ⟨ret_bool HE.out.symm, ((Below.refl _ _).alloc (Nat.le_refl _) _).alloc (by simp) _⟩
        · skip
          rcases eq01 ae with ⟨xae, eae⟩ | ⟨xae, yae, eae⟩ | ⟨xae, yae, eae, fae⟩
          · skip
            rcases eq01 be with ⟨xbe, ebe⟩ | ⟨xbe, ybe, ebe⟩ | ⟨xbe, ybe, ebe, fbe⟩
            · skip
              by_cases h7 : -1 ≤ pt
              rotate_left
              · have h7' : decide (-1 ≤ pt) = false := decide_eq_false h7
                have HE := Lib.hid (linkB_false (nsec := L.secs.length) (npt := L.pts.length) (k := ⟨a, ae, b, be, pt, ps⟩) (by dsimp only; omega))
                clear eae ebe
                (go_enter Try.func54, Try.ntmps54); simp only [List.append_eq, List.cons_append, List.nil_append]
                go_wp2
                go_ret
                exact ⟨ret_bool HE.out.symm, ((Below.refl _ _).alloc (Nat.le_refl _) _).alloc (by simp) _⟩
              · skip
                by_cases h8 : pt < L.pts.length
                rotate_left
                · have h8' : decide (pt < (L.pts.length : Int)) = false := decide_eq_false h8
                  have HE := Lib.hid (linkB_false (nsec := L.secs.length) (npt := L.pts.length) (k := ⟨a, ae, b, be, pt, ps⟩) (by dsimp only; omega))
                  clear eae ebe
                  (go_enter Try.func54, Try.ntmps54); simp only [List.append_eq, List.cons_append, List.nil_append]
                  go_wp2
                  go_ret
                  exact ⟨ret_bool HE.out.symm, ((Below.refl _ _).alloc (Nat.le_refl _) _).alloc (by simp) _⟩
                · skip
                  rcases eq01 ps with ⟨xps, eps⟩ | ⟨xps, yps, eps⟩ | ⟨xps, yps, eps, fps⟩
                  · skip
                    have HE := Lib.hid (linkB_true (nsec := L.secs.length) (npt := L.pts.length) (k := ⟨a, ae, b, be, pt, ps⟩) (by dsimp only; omega))
                    clear eae ebe eps
                    (go_enter Try.func54, Try.ntmps54); simp only [List.append_eq, List.cons_append, List.nil_append]
                    go_wp2
                    go_ret
                    exact ⟨ret_bool HE.out.symm, ((Below.refl _ _).alloc (Nat.le_refl _) _).alloc (by simp) _⟩
                  · rcases neq1 pt with ⟨xpt, ept⟩ | ⟨xpt, ept⟩
                    · skip
                      have HE := Lib.hid (linkB_true (nsec := L.secs.length) (npt := L.pts.length) (k := ⟨a, ae, b, be, pt, ps⟩) (by dsimp only; omega))
                      clear eae ebe eps ept
                      (go_enter Try.func54, Try.ntmps54); simp only [List.append_eq, List.cons_append, List.nil_append]
                      go_wp2
                      go_ret
                      exact ⟨ret_bool HE.out.symm, ((Below.refl _ _).alloc (Nat.le_refl _) _).alloc (by simp) _⟩
                    · skip
                      have HE := Lib.hid (linkB_false (nsec := L.secs.length) (npt := L.pts.length) (k := ⟨a, ae, b, be, pt, ps⟩) (by dsimp only; omega))
                      clear eae ebe eps ept
                      (go_enter Try.func54, Try.ntmps54); simp only [List.append_eq, List.cons_append, List.nil_append]
                      go_wp2
                      go_ret
                      exact ⟨ret_bool HE.out.symm, ((Below.refl _ _).alloc (Nat.le_refl _) _).alloc (by simp) _⟩
                  · skip
                    have HE := Lib.hid (linkB_false (nsec := L.secs.length) (npt := L.pts.length) (k := ⟨a, ae, b, be, pt, ps⟩) (by dsimp only; omega))
                    clear eae ebe eps fps
                    (go_enter Try.func54, Try.ntmps54); simp only [List.append_eq, List.cons_append, List.nil_append]
                    go_wp2
                    go_ret
                    exact ⟨ret_bool HE.out.symm, ((Below.refl _ _).alloc (Nat.le_refl _) _).alloc (by simp) _⟩
            · skip
              by_cases h7 : -1 ≤ pt
              rotate_left
              · have h7' : decide (-1 ≤ pt) = false := decide_eq_false h7
                have HE := Lib.hid (linkB_false (nsec := L.secs.length) (npt := L.pts.length) (k := ⟨a, ae, b, be, pt, ps⟩) (by dsimp only; omega))
                clear eae ebe
                (go_enter Try.func54, Try.ntmps54); simp only [List.append_eq, List.cons_append, List.nil_append]
                go_wp2
                go_ret
                exact ⟨ret_bool HE.out.symm, ((Below.refl _ _).alloc (Nat.le_refl _) _).alloc (by simp) _⟩
              · skip
                by_cases h8 : pt < L.pts.length
                rotate_left
                · have h8' : decide (pt < (L.pts.length : Int)) = false := decide_eq_false h8
                  have HE := Lib.hid (linkB_false (nsec := L.secs.length) (npt := L.pts.length) (k := ⟨a, ae, b, be, pt, ps⟩) (by dsimp only; omega))
                  clear eae ebe
                  (go_enter Try.func54, Try.ntmps54); simp only [List.append_eq, List.cons_append, List.nil_append]
                  go_wp2
                  go_ret
                  exact ⟨ret_bool HE.out.symm, ((Below.refl _ _).alloc (Nat.le_refl _) _).alloc (by simp) _⟩
                · skip
                  rcases eq01 ps with ⟨xps, eps⟩ | ⟨xps, yps, eps⟩ | ⟨xps, yps, eps, fps⟩
                  · skip
                    have HE := Lib.hid (linkB_true (nsec := L.secs.length) (npt := L.pts.length) (k := ⟨a, ae, b, be, pt, ps⟩) (by dsimp only; omega))
                    clear eae ebe eps
                    (go_enter Try.func54, Try.ntmps54); simp only [List.append_eq, List.cons_append, List.nil_append]
                    go_wp2
                    go_ret
                    exact ⟨ret_bool HE.out.symm, ((Below.refl _ _).alloc (Nat.le_refl _) _).alloc (by simp) _⟩
                  · rcases neq1 pt with ⟨xpt, ept⟩ | ⟨xpt, ept⟩
                    · skip
                      have HE := Lib.hid (linkB_true (nsec := L.secs.length) (npt := L.pts.length) (k := ⟨a, ae, b, be, pt, ps⟩) (by dsimp only; omega))
                      clear eae ebe eps ept
                      (go_enter Try.func54, Try.ntmps54); simp only [List.append_eq, List.cons_append, List.nil_append]
                      go_wp2
                      go_ret
                      exact ⟨ret_bool HE.out.symm, ((Below.refl _ _).alloc (Nat.le_refl _) _).alloc (by simp) _⟩
                    · skip
                      have HE := Lib.hid (linkB_false (nsec := L.secs.length) (npt := L.pts.length) (k := ⟨a, ae, b, be, pt, ps⟩) (by dsimp only; omega))
                      clear eae ebe eps ept
                      (go_enter Try.func54, Try.ntmps54); simp only [List.append_eq, List.cons_append, List.nil_append]
                      go_wp2
                      go_ret
                      exact ⟨ret_bool HE.out.symm, ((Below.refl _ _).alloc (Nat.le_refl _) _).alloc (by simp) _⟩
                  · skip
                    have HE := Lib.hid (linkB_false (nsec := L.secs.length) (npt := L.pts.length) (k := ⟨a, ae, b, be, pt, ps⟩) (by dsimp only; omega))
                    clear eae ebe eps fps
                    (go_enter Try.func54, Try.ntmps54); simp only [List.append_eq, List.cons_append, List.nil_append]
                    go_wp2
                    go_ret
                    exact ⟨ret_bool HE.out.symm, ((Below.refl _ _).alloc (Nat.le_refl _) _).alloc (by simp) _⟩
            · skip
              have HE := Lib.hid (linkB_false (nsec := L.secs.length) (npt := L.pts.length) (k := ⟨a, ae, b, be, pt, ps⟩) (by dsimp only; omega))
              clear eae ebe fbe
              (go_enter Try.func54, Try.ntmps54); simp only [List.append_eq, List.cons_append, List.nil_append]
              go_wp2
              go_ret
              exact ⟨ret_bool HE.out.symm, ((Below.refl _ _).alloc (Nat.le_refl _) _).alloc (by simp) _⟩
          · skip
            rcases eq01 be with ⟨xbe, ebe⟩ | ⟨xbe, ybe, ebe⟩ | ⟨xbe, ybe, ebe, fbe⟩
            · skip
              by_cases h7 : -1 ≤ pt
              rotate_left
              · have h7' : decide (-1 ≤ pt) = false := decide_eq_false h7
                have HE := Lib.hid (linkB_false (nsec := L.secs.length) (npt := L.pts.length) (k := ⟨a, ae, b, be, pt, ps⟩) (by dsimp only; omega))
                clear eae ebe
                (go_enter Try.func54, Try.ntmps54); simp only [List.append_eq, List.cons_append, List.nil_append]
                go_wp2
                go_ret
                exact ⟨ret_bool HE.out.symm, ((Below.refl _ _).alloc (Nat.le_refl _) _).alloc (by simp) _⟩
              · skip
                by_cases h8 : pt < L.pts.length
                rotate_left
                · have h8' : decide (pt < (L.pts.length : Int)) = false := decide_eq_false h8
                  have HE := Lib.hid (linkB_false (nsec := L.secs.length) (npt := L.pts.length) (k := ⟨a, ae, b, be, pt, ps⟩) (by dsimp only; omega))
                  clear eae ebe
                  (go_enter Try.func54, Try.ntmps54); simp only [List.append_eq, List.cons_append, List.nil_append]
                  go_wp2
                  go_ret
                  exact ⟨ret_bool HE.out.symm, ((Below.refl _ _).alloc (Nat.le_refl _) _).alloc (by simp) _⟩
                · skip
                  rcases eq01 ps with ⟨xps, eps⟩ | ⟨xps, yps, eps⟩ | ⟨xps, yps, eps, fps⟩
                  · skip
                    have HE := Lib.hid (linkB_true (nsec := L.secs.length) (npt := L.pts.length) (k := ⟨a, ae, b, be, pt, ps⟩) (by dsimp only; omega))
                    clear eae ebe eps
                    (go_enter Try.func54, Try.ntmps54); simp only [List.append_eq, List.cons_append, List.nil_append]
                    go_wp2
                    go_ret
                    exact ⟨ret_bool HE.out.symm, ((Below.refl _ _).alloc (Nat.le_refl _) _).alloc (by simp) _⟩
                  · rcases neq1 pt with ⟨xpt, ept⟩ | ⟨xpt, ept⟩
                    · skip
                      have HE := Lib.hid (linkB_true (nsec := L.secs.length) (npt := L.pts.length) (k := ⟨a, ae, b, be, pt, ps⟩) (by dsimp only; omega))
                      clear eae ebe eps ept
                      (go_enter Try.func54, Try.ntmps54); simp only [List.append_eq, List.cons_append, List.nil_append]
                      go_wp2
                      go_ret
                      exact ⟨ret_bool HE.out.symm, ((Below.refl _ _).alloc (Nat.le_refl _) _).alloc (by simp) _⟩
                    · skip
                      have HE := Lib.hid (linkB_false (nsec := L.secs.length) (npt := L.pts.length) (k := ⟨a, ae, b, be, pt, ps⟩) (by dsimp only; omega))
                      clear eae ebe eps ept
                      (go_enter Try.func54, Try.ntmps54); simp only [List.append_eq, List.cons_append, List.nil_append]
                      go_wp2
                      go_ret
                      exact ⟨ret_bool HE.out.symm, ((Below.refl _ _).alloc (Nat.le_refl _) _).alloc (by simp) _⟩
                  · skip
                    have HE := Lib.hid (linkB_false (nsec := L.secs.length) (npt := L.pts.length) (k := ⟨a, ae, b, be, pt, ps⟩) (by dsimp only; omega))
                    clear eae ebe eps fps
                    (go_enter Try.func54, Try.ntmps54); simp only [List.append_eq, List.cons_append, List.nil_append]
                    go_wp2
                    go_ret
                    exact ⟨ret_bool HE.out.symm, ((Below.refl _ _).alloc (Nat.le_refl _) _).alloc (by simp) _⟩
            · skip
              by_cases h7 : -1 ≤ pt
              rotate_left
              · have h7' : decide (-1 ≤ pt) = false := decide_eq_false h7
                have HE := Lib.hid (linkB_false (nsec := L.secs.length) (npt := L.pts.length) (k := ⟨a, ae, b, be, pt, ps⟩) (by dsimp only; omega))
                clear eae ebe
                (go_enter Try.func54, Try.ntmps54); simp only [List.append_eq, List.cons_append, List.nil_append]
                go_wp2
                go_ret
                exact ⟨ret_bool HE.out.symm, ((Below.refl _ _).alloc (Nat.le_refl _) _).alloc (by simp) _⟩
              · skip
                by_cases h8 : pt < L.pts.length
                rotate_left
                · have h8' : decide (pt < (L.pts.length : Int)) = false := decide_eq_false h8
                  have HE := Lib.hid (linkB_false (nsec := L.secs.length) (npt := L.pts.length) (k := ⟨a, ae, b, be, pt, ps⟩) (by dsimp only; omega))
                  clear eae ebe
                  (go_enter Try.func54, Try.ntmps54); simp only [List.append_eq, List.cons_append, List.nil_append]
                  go_wp2
                  go_ret
                  exact ⟨ret_bool HE.out.symm, ((Below.refl _ _).alloc (Nat.le_refl _) _).alloc (by simp) _⟩
                · skip
                  rcases eq01 ps with ⟨xps, eps⟩ | ⟨xps, yps, eps⟩ | ⟨xps, yps, eps, fps⟩
                  · skip
                    have HE := Lib.hid (linkB_true (nsec := L.secs.length) (npt := L.pts.length) (k := ⟨a, ae, b, be, pt, ps⟩) (by dsimp only; omega))
                    clear eae ebe eps
                    (go_enter Try.func54, Try.ntmps54); simp only [List.append_eq, List.cons_append, List.nil_append]
                    go_wp2
                    go_ret
                    exact ⟨ret_bool HE.out.symm, ((Below.refl _ _).alloc (Nat.le_refl _) _).alloc (by simp) _⟩
                  · rcases neq1 pt with ⟨xpt, ept⟩ | ⟨xpt, ept⟩
                    · skip
                      have HE := Lib.hid (linkB_true (nsec := L.secs.length) (npt := L.pts.length) (k := ⟨a, ae, b, be, pt, ps⟩) (by dsimp only; omega))
                      clear eae ebe eps ept
                      (go_enter Try.func54, Try.ntmps54); simp only [List.append_eq, List.cons_append, List.nil_append]
                      go_wp2
                      go_ret
                      exact ⟨ret_bool HE.out.symm, ((Below.refl _ _).alloc (Nat.le_refl _) _).alloc (by simp) _⟩
                    · skip
                      have HE := Lib.hid (linkB_false (nsec := L.secs.length) (npt := L.pts.length) (k := ⟨a, ae, b, be, pt, ps⟩) (by dsimp only; omega))
                      clear eae ebe eps ept
                      (go_enter Try.func54, Try.ntmps54); simp only [List.append_eq, List.cons_append, List.nil_append]
                      go_wp2
                      go_ret
                      exact ⟨ret_bool HE.out.symm, ((Below.refl _ _).alloc (Nat.le_refl _) _).alloc (by simp) _⟩
                  · skip
                    have HE := Lib.hid (linkB_false (nsec := L.secs.length) (npt := L.pts.length) (k := ⟨a, ae, b, be, pt, ps⟩) (by dsimp only; omega))
                    clear eae ebe eps fps
                    (go_enter Try.func54, Try.ntmps54); simp only [List.append_eq, List.cons_append, List.nil_append]
                    go_wp2
                    go_ret
                    exact ⟨ret_bool HE.out.symm, ((Below.refl _ _).alloc (Nat.le_refl _) _).alloc (by simp) _⟩
            · skip
              have HE := Lib.hid (linkB_false (nsec := L.secs.length) (npt := L.pts.length) (k := ⟨a, ae, b, be, pt, ps⟩) (by dsimp only; omega))
              clear eae ebe fbe
              (go_enter Try.func54, Try.ntmps54); simp only [List.append_eq, List.cons_append, List.nil_append]
              go_wp2
              go_ret
              exact ⟨ret_bool HE.out.symm, ((Below.refl _ _).alloc (Nat.le_refl _) _).alloc (by simp) _⟩
          · skip
            have HE := Lib.hid (linkB_false (nsec := L.secs.length) (npt := L.pts.length) (k := ⟨a, ae, b, be, pt, ps⟩) (by dsimp only; omega))
            clear eae fae
            (go_enter Try.func54, Try.ntmps54); simp only [List.append_eq, List.cons_append, List.nil_append]
            go_wp2
            go_ret
            exact ⟨ret_bool HE.out.symm, ((Below.refl _ _).alloc (Nat.le_refl _) _).alloc (by simp) _⟩
end Go.Proofs.Ythnfliopmjpdmaa
