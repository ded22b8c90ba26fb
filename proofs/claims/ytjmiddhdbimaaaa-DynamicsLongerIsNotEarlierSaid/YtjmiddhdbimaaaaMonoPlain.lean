/- Running times are monotone, plainly: whoever may run faster everywhere is nowhere later. -/
import Derived.Test.YtjmiddhdbimaaaaPermPlain
namespace Go.Proofs.Ytjmiddhdbimaaaa

theorem foldl_min_mono {L : List (Int × Int)} {s t : Int} (h : s ≤ t) : L.foldl (fun m c => min m c.1) s ≤ L.foldl (fun m c => min m c.1) t := by
  induction L generalizing s t with
  | nil => exact h
  | cons c L ih => exact ih (show min s c.1 ≤ min t c.1 by omega)
theorem limit_mono_speed (cs : List (Int × Int)) (k l : Nat) {s t : Int} (h : s ≤ t) : limitOf cs k l s ≤ limitOf cs k l t := foldl_min_mono h
theorem gain_mono (g : Int) {a b : Int} (h : a ≤ b) : gainOf g a ≤ gainOf g b := by unfold gainOf; split <;> omega
theorem loss_mono (g : Int) {a b : Int} (h : a ≤ b) : lossOf g a ≤ lossOf g b := by unfold lossOf; split <;> omega

theorem sq_mono {a b c d : Int} (ha : 0 ≤ a) (hc : 0 ≤ c) (h1 : a ≤ b) (h2 : c ≤ d) : min a c * min a c ≤ min b d * min b d := by
  apply Int.mul_le_mul <;> omega

/-- At every cell the second train may run at least as fast. -/
structure Freer (n start : Nat) (cs : List (Int × Int)) (l : Nat) (sp ac br : Int) (cs' : List (Int × Int)) (l' : Nat) (sp' ac' br' : Int) : Prop where
  lim : ∀ k, k < n → 0 ≤ limitOf cs k l sp ∧ limitOf cs k l sp ≤ limitOf cs' k l' sp'
  gain : ∀ k, k < n → gainOf (cs.getD k (0, 0)).2 ac ≤ gainOf (cs'.getD k (0, 0)).2 ac'
  loss : ∀ k, k < n → lossOf (cs.getD k (0, 0)).2 br ≤ lossOf (cs'.getD k (0, 0)).2 br'

section
variable {n start : Nat} {cs : List (Int × Int)} {l : Nat} {sp ac br : Int} {cs' : List (Int × Int)} {l' : Nat} {sp' ac' br' : Int}
theorem fwd_mono (h : Freer n start cs l sp ac br cs' l' sp' ac' br') (j : Nat) (hj : start + j < n) : fwd cs start l sp ac j ≤ fwd cs' start l' sp' ac' j := by
  induction j with
  | zero => simp [fwd]
  | succ j ih =>
    have a := h.lim (start + j) (by omega)
    have b := h.lim (start + j + 1) (by omega)
    have c := sq_mono a.1 b.1 a.2 b.2
    have d := h.gain (start + j) (by omega)
    have e := ih (by omega)
    simp only [fwd]
    omega
theorem bwd_mono (h : Freer n start cs l sp ac br cs' l' sp' ac' br') (e : cs.length = n) (e' : cs'.length = n) (d : Nat) (hd : start + d < n) : bwd cs start l sp ac br d ≤ bwd cs' start l' sp' ac' br' d := by
  induction d with
  | zero => simp [bwd]
  | succ d ih =>
    have a := fwd_mono h (n - start - (d + 1)) (by omega)
    have b := h.loss (n - (d + 1)) (by omega)
    have c := ih (by omega)
    simp only [bwd, e, e']
    omega
theorem sqW_mono (h : Freer n start cs l sp ac br cs' l' sp' ac' br') (e : cs.length = n) (e' : cs'.length = n) (hst : start < n) (j : Nat) : sqW cs start l sp ac br j ≤ sqW cs' start l' sp' ac' br' j := by
  unfold sqW
  by_cases h0 : j = 0
  · rw [if_pos h0, if_pos h0]; exact Int.le_refl _
  · rw [if_neg h0, if_neg h0, e, e']
    exact bwd_mono h e e' _ (by omega)
theorem spd_mono {i j : Nat} (h : sqW cs start l sp ac br i ≤ sqW cs' start l' sp' ac' br' j) : spd cs start l sp ac br i ≤ spd cs' start l' sp' ac' br' j :=
  Pl.isqrt_mono (by omega)
end

theorem cdiv_anti (a s t : Int) (ha : 0 ≤ a) (hs : 1 ≤ s) (h : s ≤ t) : Pl.cdiv a t ≤ Pl.cdiv a s := by
  obtain ⟨b1, b2⟩ := Pl.cdiv_bracket a s hs
  obtain ⟨c1, c2⟩ := Pl.cdiv_bracket a t (by omega)
  generalize Pl.cdiv a s = x at *
  generalize Pl.cdiv a t = y at *
  rcases Int.lt_or_le x y with hlt | hle
  · exfalso
    have hx : 0 ≤ x := by
      rcases Int.lt_or_le x 0 with h0 | h0
      · have := Int.mul_neg_of_neg_of_pos h0 (show 0 < s by omega); omega
      · exact h0
    have h1 : (x + 1) * t ≤ y * t := Int.mul_le_mul_of_nonneg_right (by omega) (by omega)
    have h2 : x * s ≤ x * t := Int.mul_le_mul_of_nonneg_left h hx
    rw [Int.add_mul] at h1
    omega
  · exact hle

/-- Whoever is nowhere slower is nowhere later. -/
theorem tim_anti {cs cs' : List (Int × Int)} {start l l' : Nat} {sp ac br sp' ac' br' : Int} (m : Nat)
    (hs : ∀ j, j ≤ m → spd cs start l sp ac br j ≤ spd cs' start l' sp' ac' br' j) (hp : ∀ j, j < m → 1 ≤ spd cs start l sp ac br j + spd cs start l sp ac br (j + 1)) (j : Nat) (hj : j ≤ m) :
    tim cs' start l' sp' ac' br' j ≤ tim cs start l sp ac br j := by
  induction j with
  | zero => simp [tim]
  | succ j ih =>
    have a := ih (by omega)
    have b := hs j (by omega)
    have c := hs (j + 1) hj
    have d := hp j (by omega)
    have e := cdiv_anti 20000000 ((spd cs start l sp ac br j : Int) + spd cs start l sp ac br (j + 1)) ((spd cs' start l' sp' ac' br' j : Int) + spd cs' start l' sp' ac' br' (j + 1)) (by omega) (by omega) (by omega)
    simp only [tim]
    omega
end Go.Proofs.Ytjmiddhdbimaaaa
