/- That the speeds are permitted, plainly. -/
import Derived.Test.YtjmiddhdbimaaaaDynPlain
namespace Go.Proofs.Ytjmiddhdbimaaaa

theorem foldl_min_le (L : List (Int × Int)) (sp : Int) : L.foldl (fun m c => min m c.1) sp ≤ sp ∧ ∀ c ∈ L, L.foldl (fun m c => min m c.1) sp ≤ c.1 := by
  induction L generalizing sp with
  | nil => simp
  | cons d L ih =>
    have h := ih (min sp d.1)
    simp only [List.foldl_cons]
    refine ⟨by omega, fun c hc => ?_⟩
    rcases List.mem_cons.1 hc with rfl | hc
    · have := h.1; omega
    · exact h.2 c hc
theorem limit_le (cs : List (Int × Int)) (k l i : Nat) (sp : Int) (h1 : k - l ≤ i) (h2 : i ≤ k) (h3 : i < cs.length) : limitOf cs k l sp ≤ (cs[i]).1 := by
  refine (foldl_min_le _ sp).2 _ ?_
  rw [List.mem_iff_getElem]
  refine ⟨i - (k - l), by simp; omega, ?_⟩
  simp only [List.getElem_drop, List.getElem_take]
  congr 1; omega

theorem gain_le (g ac : Int) (h : 50 ≤ ac) : gainOf g ac ≤ 20000 * ac := by unfold gainOf; split <;> omega
theorem loss_le (g br : Int) (h : 50 ≤ br) : lossOf g br ≤ 20000 * br := by unfold lossOf; split <;> omega

section
variable {cs : List (Int × Int)} {start l : Nat} {sp ac br : Int} (h1 : 1000 ≤ sp) (h2 : sp ≤ 100000) (h3 : 100 ≤ ac) (h4 : ac ≤ 2000) (h5 : 100 ≤ br) (h6 : br ≤ 2000) (h : cs.all cellB = true)

theorem fwd_le_lim (j : Nat) : fwd cs start l sp ac (j + 1) ≤ min (limitOf cs (start + j) l sp) (limitOf cs (start + j + 1) l sp) * min (limitOf cs (start + j) l sp) (limitOf cs (start + j + 1) l sp) := by
  simp only [fwd]; omega
theorem fwd_step (j : Nat) : fwd cs start l sp ac (j + 1) ≤ fwd cs start l sp ac j + gainOf (cs.getD (start + j) (0, 0)).2 ac := by
  simp only [fwd]; omega
theorem sqW_zero : sqW cs start l sp ac br 0 = 0 := by simp [sqW]
theorem sqW_end (hm : 0 < cs.length - start) : sqW cs start l sp ac br (cs.length - start) = 0 := by
  unfold sqW; rw [if_neg (by omega), Nat.sub_self]; rfl
theorem sqW_mid (j : Nat) (hj : 0 < j) (hj2 : j < cs.length - start) : sqW cs start l sp ac br j = min (fwd cs start l sp ac j) (sqW cs start l sp ac br (j + 1) + lossOf (cs.getD (start + j) (0, 0)).2 br) := by
  unfold sqW
  rw [if_neg (by omega), if_neg (by omega), show cs.length - start - j = (cs.length - start - (j + 1)) + 1 by omega]
  simp only [bwd]
  rw [show cs.length - start - (cs.length - start - (j + 1) + 1) = j by omega, show cs.length - (cs.length - start - (j + 1) + 1) = start + j by omega]

include h1 h2 h3 h4 h in
theorem sqW_le_fwd (j : Nat) (hj : j ≤ cs.length - start) : sqW cs start l sp ac br j ≤ fwd cs start l sp ac j := by
  have hf := (fwd_range cs start l sp ac h1 h2 h3 h4 h j).1
  by_cases h0 : j = 0
  · rw [h0, sqW_zero]; exact (fwd_range cs start l sp ac h1 h2 h3 h4 h 0).1
  · by_cases he : j = cs.length - start
    · rw [he, sqW_end (by omega), ← he]; exact hf
    · rw [sqW_mid j (by omega) (by omega)]; omega
include h1 h2 h3 h4 h5 h6 h in
/-- The squares grow by at most the acceleration, and fall by at most the braking rate. -/
theorem sqW_rates (j : Nat) (hj : j < cs.length - start) : sqW cs start l sp ac br (j + 1) - sqW cs start l sp ac br j ≤ 20000 * ac ∧ sqW cs start l sp ac br j - sqW cs start l sp ac br (j + 1) ≤ 20000 * br := by
  have g1 := gain_le (cs.getD (start + j) (0, 0)).2 ac (by omega)
  have g2 := loss_le (cs.getD (start + j) (0, 0)).2 br (by omega)
  have g3 := loss_range (cs.getD (start + j) (0, 0)).2 br h5 h6
  have f1 := sqW_le_fwd (start := start) (l := l) (br := br) h1 h2 h3 h4 h (j + 1) (by omega)
  have f2 := fwd_step (cs := cs) (start := start) (l := l) (sp := sp) (ac := ac) j
  have n1 := sqW_range (start := start) (l := l) h1 h2 h3 h4 h5 h6 h (j + 1)
  by_cases h0 : j = 0
  · subst h0
    rw [sqW_zero]
    simp only [fwd] at f2 f1
    simp only [Nat.add_zero, Nat.zero_add] at *
    omega
  · have e := sqW_mid (cs := cs) (start := start) (l := l) (sp := sp) (ac := ac) (br := br) j (by omega) hj
    omega
include h1 h2 h3 h4 h5 h6 h in
theorem spd_le_lim (j k : Nat) (hj : j ≤ cs.length - start) (hk : k = start + j ∨ k + 1 = start + j) (hkn : k < cs.length) (hk0 : start ≤ k) : (spd cs start l sp ac br j : Int) ≤ limitOf cs k l sp := by
  have hl := limit_range cs k l sp h1 h
  by_cases h0 : j = 0
  · subst h0; unfold spd; rw [sqW_zero]; simp [Pl.isqrt]; omega
  · obtain ⟨i, rfl⟩ : ∃ i, j = i + 1 := ⟨j - 1, by omega⟩
    have a := fwd_le_lim (cs := cs) (start := start) (l := l) (sp := sp) (ac := ac) i
    have b := sqW_le_fwd (start := start) (l := l) (br := br) h1 h2 h3 h4 h (i + 1) hj
    have n1 := sqW_range (start := start) (l := l) h1 h2 h3 h4 h5 h6 h (i + 1)
    have c := (Pl.isqrt_spec (sqW cs start l sp ac br (i + 1)).toNat).1
    have d1 := limit_range cs (start + i) l sp h1 h
    have d2 := limit_range cs (start + i + 1) l sp h1 h
    generalize hm : min (limitOf cs (start + i) l sp) (limitOf cs (start + i + 1) l sp) = m at a
    have hmk : m ≤ limitOf cs k l sp := by
      rcases hk with rfl | hk
      · rw [show start + (i + 1) = start + i + 1 by omega]; omega
      · rw [show k = start + i by omega]; omega
    have hm0 : 0 ≤ m := by omega
    unfold spd
    generalize Pl.isqrt (sqW cs start l sp ac br (i + 1)).toNat = v at c ⊢
    have hv : (v : Int) * v ≤ m * m := by
      have : ((v * v : Nat) : Int) ≤ sqW cs start l sp ac br (i + 1) := by omega
      rw [Int.natCast_mul] at this; omega
    rcases Int.lt_or_le m v with hlt | hle
    · have := Int.mul_le_mul (show m + 1 ≤ (v : Int) by omega) (show m + 1 ≤ (v : Int) by omega) (by omega) (by omega)
      rw [Int.add_mul, Int.mul_add] at this
      omega
    · omega
include h1 h2 h3 h4 h5 h6 h in
theorem spd_sq (j : Nat) : (spd cs start l sp ac br j : Int) * spd cs start l sp ac br j ≤ sqW cs start l sp ac br j ∧ sqW cs start l sp ac br j < ((spd cs start l sp ac br j : Int) + 1) * ((spd cs start l sp ac br j : Int) + 1) := by
  have n1 := sqW_range (start := start) (l := l) h1 h2 h3 h4 h5 h6 h j
  have c := Pl.isqrt_spec (sqW cs start l sp ac br j).toNat
  unfold spd
  generalize Pl.isqrt (sqW cs start l sp ac br j).toNat = v at c ⊢
  obtain ⟨c1, c2⟩ := c
  constructor
  · have : ((v * v : Nat) : Int) ≤ sqW cs start l sp ac br j := by omega
    rwa [Int.natCast_mul] at this
  · have : sqW cs start l sp ac br j < (((v + 1) * (v + 1) : Nat) : Int) := by omega
    rw [Int.natCast_mul] at this
    exact this
end
end Go.Proofs.Ytjmiddhdbimaaaa
