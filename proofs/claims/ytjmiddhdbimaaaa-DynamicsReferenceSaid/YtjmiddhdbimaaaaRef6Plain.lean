/- The reference's passes over the squared speeds, plainly: they come to the same squares. -/
import Derived.Test.YtjmiddhdbimaaaaPermPlain
namespace Go.Proofs.Ytjmiddhdbimaaaa

/-- What the reference lays at a boundary ahead of its passes. -/
def lsq (cs : List (Int × Int)) (start l : Nat) (sp : Int) (j : Nat) : Int :=
  min (limitOf cs (start + j - 1) l sp) (limitOf cs (start + j) l sp) * min (limitOf cs (start + j - 1) l sp) (limitOf cs (start + j) l sp)
def iniW (cs : List (Int × Int)) (start l : Nat) (sp : Int) (k j : Nat) : Int := if 0 < j ∧ j < k then lsq cs start l sp j else 0
def fwW (cs : List (Int × Int)) (start l : Nat) (sp ac : Int) (j : Nat) : Int := if j < cs.length - start then fwd cs start l sp ac j else 0
def rate (g ac : Int) : Int := if 0 < g then max 50 (ac - 10 * g) else ac
def rateB (g br : Int) : Int := if g < 0 then max 50 (br + 10 * g) else br
theorem gain_rate (g ac : Int) : gainOf g ac = 20000 * rate g ac := rfl
theorem loss_rate (g br : Int) : lossOf g br = 20000 * rateB g br := rfl

section
variable {cs : List (Int × Int)} {start l : Nat} {sp ac br : Int} (h1 : 1000 ≤ sp) (h2 : sp ≤ 100000) (h3 : 100 ≤ ac) (h4 : ac ≤ 2000) (h5 : 100 ≤ br) (h6 : br ≤ 2000) (h : cs.all cellB = true)
include h1 h2 h in
theorem lsq_range (j : Nat) : 1000000 ≤ lsq cs start l sp j ∧ lsq cs start l sp j ≤ 10000000000 := by
  have a := limit_range cs (start + j - 1) l sp h1 h
  have b := limit_range cs (start + j) l sp h1 h
  exact sq_range _ _ a.1 (by omega) b.1 (by omega)
include h1 h2 h in
theorem ini_range (k j : Nat) : 0 ≤ iniW cs start l sp k j ∧ iniW cs start l sp k j ≤ 10000000000 := by
  have := lsq_range (start := start) (l := l) h1 h2 h j
  unfold iniW
  split <;> omega
include h1 h2 h3 h4 h in
theorem fwW_range (j : Nat) : 0 ≤ fwW cs start l sp ac j ∧ fwW cs start l sp ac j ≤ 10000000000 := by
  have := fwd_range cs start l sp ac h1 h2 h3 h4 h j
  unfold fwW
  split <;> omega
include h1 h2 h3 h4 h in
theorem fwW_step (k : Nat) (hk : k < cs.length - start) : min (iniW cs start l sp (cs.length - start) (k + 1)) (fwW cs start l sp ac k + gainOf (cs.getD (start + k) (0, 0)).2 ac) = fwW cs start l sp ac (k + 1) := by
  have hf := (fwW_range (start := start) (l := l) h1 h2 h3 h4 h k).1
  have hg := (gain_range (cs.getD (start + k) (0, 0)).2 ac h3 h4).1
  by_cases e : k + 1 < cs.length - start
  · have e1 : fwW cs start l sp ac (k + 1) = fwd cs start l sp ac (k + 1) := if_pos e
    have e2 : fwW cs start l sp ac k = fwd cs start l sp ac k := if_pos hk
    have e3 : iniW cs start l sp (cs.length - start) (k + 1) = lsq cs start l sp (k + 1) := if_pos ⟨by omega, e⟩
    rw [e1, e2, e3]
    simp only [fwd, lsq]
    rw [show start + (k + 1) - 1 = start + k by omega, show start + (k + 1) = start + k + 1 by omega]
  · have e1 : fwW cs start l sp ac (k + 1) = 0 := if_neg e
    have e3 : iniW cs start l sp (cs.length - start) (k + 1) = 0 := if_neg (by omega)
    rw [e1, e3]
    omega
include h1 h2 h3 h4 h5 h6 h in
theorem sqW_step (k : Nat) (hk : k < cs.length - start) : min (fwW cs start l sp ac k) (sqW cs start l sp ac br (k + 1) + lossOf (cs.getD (start + k) (0, 0)).2 br) = sqW cs start l sp ac br k := by
  have hs := (sqW_range (start := start) (l := l) h1 h2 h3 h4 h5 h6 h (k + 1)).1
  have hg := (loss_range (cs.getD (start + k) (0, 0)).2 br h5 h6).1
  have e2 : fwW cs start l sp ac k = fwd cs start l sp ac k := if_pos hk
  by_cases h0 : k = 0
  · subst h0
    have e3 : fwd cs start l sp ac 0 = 0 := rfl
    rw [sqW_zero, e2, e3]; omega
  · rw [sqW_mid k (by omega) hk, e2]
end
end Go.Proofs.Ytjmiddhdbimaaaa
