/- Running times, plainly: what the functions of package dynamics compute. -/
import Derived.Test.YtjmiddhdbimaaaaPlain
namespace Go.Proofs.Ytjmiddhdbimaaaa

def chkB (l sp ac br : Int) : Bool := decide (1 ≤ l ∧ l ≤ 40 ∧ 1000 ≤ sp ∧ sp ≤ 100000 ∧ 100 ≤ ac ∧ ac ≤ 2000 ∧ 100 ≤ br ∧ br ≤ 2000)
theorem chk_mk {l sp ac br : Int} (h1 : 1 ≤ l) (h2 : l ≤ 40) (h3 : 1000 ≤ sp) (h4 : sp ≤ 100000) (h5 : 100 ≤ ac) (h6 : ac ≤ 2000) (h7 : 100 ≤ br) (h8 : br ≤ 2000) : chkB l sp ac br = true := by
  simp [chkB]; omega
theorem chk_of {l sp ac br : Int} (h : chkB l sp ac br = true) : 1 ≤ l ∧ l ≤ 40 ∧ 1000 ≤ sp ∧ sp ≤ 100000 ∧ 100 ≤ ac ∧ ac ≤ 2000 ∧ 100 ≤ br ∧ br ≤ 2000 := by
  simpa [chkB] using h

/-- By how much the squared speed can grow, fall, in a cell of grade g. -/
def gainOf (g ac : Int) : Int := 20000 * (if 0 < g then max 50 (ac - 10 * g) else ac)
def lossOf (g br : Int) : Int := 20000 * (if g < 0 then max 50 (br + 10 * g) else br)
def cellB (c : Int × Int) : Bool := decide (1000 ≤ c.1 ∧ c.1 ≤ 100000 ∧ -40 ≤ c.2 ∧ c.2 ≤ 40)
theorem cell_of {c : Int × Int} (h : cellB c = true) : 1000 ≤ c.1 ∧ c.1 ≤ 100000 ∧ -40 ≤ c.2 ∧ c.2 ≤ 40 := by simpa [cellB] using h
theorem gain_range (g ac : Int) (h5 : 100 ≤ ac) (h6 : ac ≤ 2000) : 1000000 ≤ gainOf g ac ∧ gainOf g ac ≤ 40000000 := by unfold gainOf; split <;> omega
theorem loss_range (g br : Int) (h5 : 100 ≤ br) (h6 : br ≤ 2000) : 1000000 ≤ lossOf g br ∧ lossOf g br ≤ 40000000 := by unfold lossOf; split <;> omega

theorem getD_at {α : Type} (cs : List α) (d : α) {k : Nat} (h : k < cs.length) : cs.getD k d = cs[k] := by simp [List.getD, h]

/-- The error of the arguments of a run. -/
def badRun (cs : List (Int × Int)) (start l sp ac br : Int) : Int :=
  if chkB l sp ac br = false then 1 else if 4000 < cs.length then 7 else if cs.all cellB = false then 4 else if start < 0 ∨ (cs.length : Int) - 2 < start then 4 else 0

/-- The limit of cell k under a train of length l. -/
def limitOf (cs : List (Int × Int)) (k l : Nat) (sp : Int) : Int := ((cs.take (k + 1)).drop (k - l)).foldl (fun m c => min m c.1) sp

/-- The same, counted from the first cell under the train: the least of the speed and of the first j limits. -/
def limTo (cs : List (Int × Int)) (lo j : Nat) (sp : Int) : Int := ((cs.drop lo).take j).foldl (fun m c => min m c.1) sp
theorem limTo_zero (cs : List (Int × Int)) (lo : Nat) (sp : Int) : limTo cs lo 0 sp = sp := by simp [limTo]
theorem limTo_succ (cs : List (Int × Int)) (lo j : Nat) (sp : Int) (h : lo + j < cs.length) : limTo cs lo (j + 1) sp = min (limTo cs lo j sp) (cs[lo + j]).1 := by
  unfold limTo
  rw [List.take_succ_eq_append_getElem (by simp; omega), List.foldl_append]
  simp
theorem limTo_all (cs : List (Int × Int)) (k l : Nat) (sp : Int) : limTo cs (k - l) (k + 1 - (k - l)) sp = limitOf cs k l sp := by
  unfold limTo limitOf
  rw [List.drop_take]

/-- The forward pass: the squared speeds by the limits and the acceleration. -/
def fwd (cs : List (Int × Int)) (start l : Nat) (sp ac : Int) : Nat → Int
  | 0 => 0
  | j + 1 => min (min (limitOf cs (start + j) l sp) (limitOf cs (start + j + 1) l sp) * min (limitOf cs (start + j) l sp) (limitOf cs (start + j + 1) l sp)) (fwd cs start l sp ac j + gainOf (cs.getD (start + j) (0, 0)).2 ac)
/-- The backward pass, counted from the end: the value at boundary m - d. -/
def bwd (cs : List (Int × Int)) (start l : Nat) (sp ac br : Int) : Nat → Int
  | 0 => 0
  | d + 1 => min (fwd cs start l sp ac (cs.length - start - (d + 1))) (bwd cs start l sp ac br d + lossOf (cs.getD (cs.length - (d + 1)) (0, 0)).2 br)
/-- The squared speed at boundary j from the start on. -/
def sqW (cs : List (Int × Int)) (start l : Nat) (sp ac br : Int) (j : Nat) : Int := if j = 0 then 0 else bwd cs start l sp ac br (cs.length - start - j)

theorem foldl_min_range (L : List (Int × Int)) (sp lo hi : Int) (h1 : lo ≤ sp) (h2 : sp ≤ hi) (h : ∀ c ∈ L, lo ≤ c.1) : lo ≤ L.foldl (fun m c => min m c.1) sp ∧ L.foldl (fun m c => min m c.1) sp ≤ sp := by
  induction L generalizing sp with
  | nil => exact ⟨h1, Int.le_refl _⟩
  | cons c L ih =>
    have hc := h c (List.mem_cons_self ..)
    have := ih (min sp c.1) (by omega) (by omega) (fun d hd => h d (List.mem_cons_of_mem _ hd))
    simp only [List.foldl_cons]
    omega
theorem limit_range (cs : List (Int × Int)) (k l : Nat) (sp : Int) (h1 : 1000 ≤ sp) (h : cs.all cellB = true) : 1000 ≤ limitOf cs k l sp ∧ limitOf cs k l sp ≤ sp :=
  foldl_min_range _ sp 1000 sp h1 (Int.le_refl _) (fun c hc => (cell_of (List.all_eq_true.1 h c (List.mem_of_mem_take (List.mem_of_mem_drop hc)))).1)

theorem sq_range (x y : Int) (hx : 1000 ≤ x) (hx' : x ≤ 100000) (hy : 1000 ≤ y) (hy' : y ≤ 100000) : 1000000 ≤ min x y * min x y ∧ min x y * min x y ≤ 10000000000 := by
  have h1 : 1000 ≤ min x y := by omega
  have h2 : min x y ≤ 100000 := by omega
  have a := Int.mul_le_mul h1 h1 (by omega) (by omega)
  have b := Int.mul_le_mul h2 h2 (by omega) (by omega)
  omega
theorem fwd_range (cs : List (Int × Int)) (start l : Nat) (sp ac : Int) (h1 : 1000 ≤ sp) (h2 : sp ≤ 100000) (h3 : 100 ≤ ac) (h4 : ac ≤ 2000) (h : cs.all cellB = true) (j : Nat) :
    0 ≤ fwd cs start l sp ac j ∧ fwd cs start l sp ac j ≤ 10000000000 ∧ (0 < j → 1000000 ≤ fwd cs start l sp ac j) := by
  induction j with
  | zero => simp [fwd]
  | succ j ih =>
    have a := limit_range cs (start + j) l sp h1 h
    have b := limit_range cs (start + j + 1) l sp h1 h
    have c := sq_range (limitOf cs (start + j) l sp) (limitOf cs (start + j + 1) l sp) (by omega) (by omega) (by omega) (by omega)
    have d := gain_range (cs.getD (start + j) (0, 0)).2 ac h3 h4
    simp only [fwd]
    omega
theorem bwd_range (cs : List (Int × Int)) (start l : Nat) (sp ac br : Int) (h1 : 1000 ≤ sp) (h2 : sp ≤ 100000) (h3 : 100 ≤ ac) (h4 : ac ≤ 2000) (h5 : 100 ≤ br) (h6 : br ≤ 2000) (h : cs.all cellB = true) (d : Nat) :
    0 ≤ bwd cs start l sp ac br d ∧ bwd cs start l sp ac br d ≤ 10000000000 ∧ (0 < d → d < cs.length - start → 1000000 ≤ bwd cs start l sp ac br d) := by
  induction d with
  | zero => simp [bwd]
  | succ d ih =>
    have a := fwd_range cs start l sp ac h1 h2 h3 h4 h (cs.length - start - (d + 1))
    have c := loss_range (cs.getD (cs.length - (d + 1)) (0, 0)).2 br h5 h6
    simp only [bwd]
    refine ⟨by omega, by omega, fun _ hd => ?_⟩
    have := a.2.2 (by omega)
    omega

/-- The speed at boundary j, the time at boundary j, the running time. -/
def spd (cs : List (Int × Int)) (start l : Nat) (sp ac br : Int) (j : Nat) : Nat := Pl.isqrt (sqW cs start l sp ac br j).toNat
def tim (cs : List (Int × Int)) (start l : Nat) (sp ac br : Int) : Nat → Int
  | 0 => 0
  | j + 1 => tim cs start l sp ac br j + Pl.cdiv 20000000 ((spd cs start l sp ac br j : Int) + spd cs start l sp ac br (j + 1))
def runT (cs : List (Int × Int)) (start l : Nat) (sp ac br : Int) : Int := Pl.cdiv (tim cs start l sp ac br (cs.length - start)) 1000

theorem bad_zero {cs : List (Int × Int)} {start l sp ac br : Int} (h : badRun cs start l sp ac br = 0) :
    chkB l sp ac br = true ∧ cs.length ≤ 4000 ∧ cs.all cellB = true ∧ 0 ≤ start ∧ start + 2 ≤ cs.length := by
  unfold badRun at h
  by_cases h1 : chkB l sp ac br = false
  · rw [if_pos h1] at h; omega
  · rw [if_neg h1] at h
    by_cases h2 : 4000 < cs.length
    · rw [if_pos h2] at h; omega
    · rw [if_neg h2] at h
      by_cases h3 : cs.all cellB = false
      · rw [if_pos h3] at h; omega
      · rw [if_neg h3] at h
        by_cases h4 : start < 0 ∨ (cs.length : Int) - 2 < start
        · rw [if_pos h4] at h; omega
        · exact ⟨by simpa using h1, by omega, by simpa using h3, by omega, by omega⟩
theorem bad_range (cs : List (Int × Int)) (start l sp ac br : Int) : badRun cs start l sp ac br = 0 ∨ badRun cs start l sp ac br = 1 ∨ badRun cs start l sp ac br = 4 ∨ badRun cs start l sp ac br = 7 := by
  unfold badRun
  repeat' split
  all_goals simp

section
variable {cs : List (Int × Int)} {start l : Nat} {sp ac br : Int} (h1 : 1000 ≤ sp) (h2 : sp ≤ 100000) (h3 : 100 ≤ ac) (h4 : ac ≤ 2000) (h5 : 100 ≤ br) (h6 : br ≤ 2000) (h : cs.all cellB = true)
include h1 h2 h3 h4 h5 h6 h
theorem sqW_range (j : Nat) : 0 ≤ sqW cs start l sp ac br j ∧ sqW cs start l sp ac br j ≤ 10000000000 ∧ (0 < j → j < cs.length - start → 1000000 ≤ sqW cs start l sp ac br j) := by
  unfold sqW
  by_cases hj : j = 0
  · rw [if_pos hj]; omega
  · rw [if_neg hj]
    have := bwd_range cs start l sp ac br h1 h2 h3 h4 h5 h6 h (cs.length - start - j)
    exact ⟨this.1, this.2.1, fun _ hlt => this.2.2 (by omega) (by omega)⟩
theorem spd_range (j : Nat) : spd cs start l sp ac br j ≤ 100000 ∧ (0 < j → j < cs.length - start → 1000 ≤ spd cs start l sp ac br j) := by
  have h0 := sqW_range (start := start) (l := l) h1 h2 h3 h4 h5 h6 h j
  unfold spd
  constructor
  · have := Pl.isqrt_mono (show (sqW cs start l sp ac br j).toNat ≤ 10000000000 by omega)
    have e := Pl.isqrt_unique 10000000000 100000 (by omega) (by omega)
    omega
  · intro hj hlt
    have := Pl.isqrt_mono (show 1000000 ≤ (sqW cs start l sp ac br j).toNat by have := h0.2.2 hj hlt; omega)
    have e := Pl.isqrt_unique 1000000 1000 (by omega) (by omega)
    omega
theorem spd_sum (hst : start + 2 ≤ cs.length) (j : Nat) (hj : j < cs.length - start) : 1000 ≤ spd cs start l sp ac br j + spd cs start l sp ac br (j + 1) ∧ spd cs start l sp ac br j + spd cs start l sp ac br (j + 1) ≤ 200000 := by
  have a := spd_range (start := start) (l := l) h1 h2 h3 h4 h5 h6 h j
  have b := spd_range (start := start) (l := l) h1 h2 h3 h4 h5 h6 h (j + 1)
  refine ⟨?_, by omega⟩
  by_cases h0 : 0 < j
  · have := a.2 h0 hj; omega
  · have := b.2 (by omega) (by omega); omega
theorem step_range (hst : start + 2 ≤ cs.length) (j : Nat) (hj : j < cs.length - start) : 100 ≤ Pl.cdiv 20000000 ((spd cs start l sp ac br j : Int) + spd cs start l sp ac br (j + 1)) ∧ Pl.cdiv 20000000 ((spd cs start l sp ac br j : Int) + spd cs start l sp ac br (j + 1)) ≤ 20000 := by
  have a := spd_sum (start := start) (l := l) h1 h2 h3 h4 h5 h6 h hst j hj
  obtain ⟨b, c⟩ := Pl.cdiv_bracket 20000000 ((spd cs start l sp ac br j : Int) + spd cs start l sp ac br (j + 1)) (by omega)
  generalize Pl.cdiv 20000000 ((spd cs start l sp ac br j : Int) + spd cs start l sp ac br (j + 1)) = q at *
  generalize hs : (spd cs start l sp ac br j : Int) + spd cs start l sp ac br (j + 1) = s at *
  have hs1 : 1000 ≤ s := by omega
  have hs2 : s ≤ 200000 := by omega
  constructor
  · rcases Int.lt_or_le q 100 with hq | hq
    · rcases Int.lt_or_le q 0 with h0 | h0
      · have := Int.mul_neg_of_neg_of_pos h0 (show 0 < s by omega); omega
      · have := Int.mul_le_mul (show q ≤ 99 by omega) hs2 (by omega) (by omega); omega
    · exact hq
  · rcases Int.lt_or_le 20000 q with hq | hq
    · have : 20001 * s ≤ q * s := Int.mul_le_mul_of_nonneg_right (by omega) (by omega)
      omega
    · exact hq
theorem tim_range (hst : start + 2 ≤ cs.length) (j : Nat) (hj : j ≤ cs.length - start) : 100 * (j : Int) ≤ tim cs start l sp ac br j ∧ tim cs start l sp ac br j ≤ 20000 * (j : Int) := by
  induction j with
  | zero => simp [tim]
  | succ j ih =>
    have a := ih (by omega)
    have b := step_range (start := start) (l := l) h1 h2 h3 h4 h5 h6 h hst j (by omega)
    simp only [tim]
    omega
theorem runT_pos (hst : start + 2 ≤ cs.length) : 0 < runT cs start l sp ac br := by
  have a := tim_range (start := start) (l := l) h1 h2 h3 h4 h5 h6 h hst (cs.length - start) (Nat.le_refl _)
  unfold runT
  obtain ⟨b, c⟩ := Pl.cdiv_bracket (tim cs start l sp ac br (cs.length - start)) 1000 (by omega)
  have : (2 : Int) ≤ ((cs.length - start : Nat) : Int) := by omega
  omega
end

end Go.Proofs.Ytjmiddhdbimaaaa
