/- A train that stops earlier is nowhere faster, plainly. -/
import Derived.Test.YtjmiddhdbimaaaaMonoPlain
namespace Go.Proofs.Ytjmiddhdbimaaaa

section
variable {cs : List (Int × Int)} {n start l : Nat} {sp ac br : Int} (hn : n ≤ cs.length)
theorem limit_take (k : Nat) (hk : k < n) : limitOf (cs.take n) k l sp = limitOf cs k l sp := by
  unfold limitOf
  rw [List.take_take, Nat.min_eq_left (by omega)]
theorem getD_take (k : Nat) (hk : k < n) : (cs.take n).getD k (0, 0) = cs.getD k (0, 0) := by
  simp [List.getD, hk]
theorem fwd_take (j : Nat) (hj : start + j < n) : fwd (cs.take n) start l sp ac j = fwd cs start l sp ac j := by
  induction j with
  | zero => rfl
  | succ j ih =>
    simp only [fwd]
    rw [limit_take _ (by omega), limit_take _ (by omega), getD_take _ (by omega), ih (by omega)]
variable (h1 : 1000 ≤ sp) (h2 : sp ≤ 100000) (h3 : 100 ≤ ac) (h4 : ac ≤ 2000) (h5 : 100 ≤ br) (h6 : br ≤ 2000) (h : cs.all cellB = true)
include hn h1 h2 h3 h4 h5 h6 h in
theorem sqW_take (d : Nat) (hs : start < n) (hd : d ≤ n - start) : sqW (cs.take n) start l sp ac br (n - start - d) ≤ sqW cs start l sp ac br (n - start - d) := by
  have hlen : (cs.take n).length = n := by simp; omega
  induction d with
  | zero =>
    have := (sqW_range (start := start) (l := l) h1 h2 h3 h4 h5 h6 h (n - start)).1
    have e := sqW_end (cs := cs.take n) (start := start) (l := l) (sp := sp) (ac := ac) (br := br) (by omega)
    rw [hlen] at e
    rw [Nat.sub_zero, e]; exact this
  | succ d ih =>
    have i := ih (by omega)
    by_cases h0 : n - start - (d + 1) = 0
    · rw [h0, sqW_zero, sqW_zero]; exact Int.le_refl _
    · have e1 := sqW_mid (cs := cs.take n) (start := start) (l := l) (sp := sp) (ac := ac) (br := br) (n - start - (d + 1)) (by omega) (by omega)
      have e2 := sqW_mid (cs := cs) (start := start) (l := l) (sp := sp) (ac := ac) (br := br) (n - start - (d + 1)) (by omega) (by omega)
      rw [getD_take _ (by omega), fwd_take _ (by omega), show n - start - (d + 1) + 1 = n - start - d by omega] at e1
      rw [show n - start - (d + 1) + 1 = n - start - d by omega] at e2
      omega
include hn h1 h2 h3 h4 h5 h6 h in
theorem tim_take (hs : start + 2 ≤ n) (j : Nat) (hj : j ≤ n - start) : tim cs start l sp ac br j ≤ tim (cs.take n) start l sp ac br j := by
  have hlen : (cs.take n).length = n := by simp; omega
  have ha : (cs.take n).all cellB = true := List.all_eq_true.2 fun x hx => List.all_eq_true.1 h x (List.mem_of_mem_take hx)
  refine tim_anti (n - start) (fun i hi => spd_mono ?_) (fun i hi => ?_) j hj
  · have := sqW_take (start := start) (l := l) hn h1 h2 h3 h4 h5 h6 h (n - start - i) (by omega) (by omega)
    rw [show n - start - (n - start - i) = i by omega] at this
    exact this
  · have := (spd_sum (start := start) (l := l) h1 h2 h3 h4 h5 h6 ha (by omega) i (by omega)).1
    omega
end
end Go.Proofs.Ytjmiddhdbimaaaa
