/- On level track with one limit and equal rates the squared speeds are the same in both directions, plainly. -/
import Derived.Test.YtjmiddhdbimaaaaPermPlain
namespace Go.Proofs.Ytjmiddhdbimaaaa

section
variable {n l : Nat} {sp ac : Int}
theorem foldl_min_rep (m : Nat) (s : Int) : (List.replicate m ((30000, 0) : Int × Int)).foldl (fun m c => min m c.1) s = if m = 0 then s else min s 30000 := by
  induction m generalizing s with
  | zero => rfl
  | succ m ih =>
    rw [List.replicate_succ, List.foldl_cons, ih]
    by_cases h : m = 0
    · rw [if_pos h, if_neg (by omega)]
    · rw [if_neg h, if_neg (by omega)]; omega
theorem limit_level (k : Nat) (hk : k < n) : limitOf (List.replicate n (30000, 0)) k l sp = min sp 30000 := by
  unfold limitOf
  rw [List.take_replicate, List.drop_replicate, foldl_min_rep, if_neg (by omega)]
theorem getD_level (k : Nat) (hk : k < n) : ((List.replicate n ((30000, 0) : Int × Int)).getD k (0, 0)).2 = 0 := by
  rw [getD_at _ _ (by simpa using hk), List.getElem_replicate]
theorem gain_level (ac : Int) : gainOf 0 ac = 20000 * ac := by simp [gainOf]
theorem loss_level (ac : Int) : lossOf 0 ac = 20000 * ac := by simp [lossOf]
theorem fwd_level (hac : 0 ≤ ac) (j : Nat) (hj : j < n) : fwd (List.replicate n (30000, 0)) 0 l sp ac j = min (min sp 30000 * min sp 30000) ((j : Int) * (20000 * ac)) := by
  have hq : 0 ≤ min sp 30000 * min sp 30000 := by
    rcases Int.lt_or_le (min sp 30000) 0 with h | h
    · have := Int.mul_pos_of_neg_of_neg h h; omega
    · exact Int.mul_nonneg h h
  induction j with
  | zero => simp only [fwd]; rw [Int.natCast_zero, Int.zero_mul]; omega
  | succ j ih =>
    have i := ih (by omega)
    simp only [fwd]
    rw [limit_level _ (by omega), limit_level _ (by omega), getD_level _ (by omega), gain_level, i, Int.min_self, Int.natCast_succ, Int.add_mul, Int.one_mul]
    generalize min sp 30000 * min sp 30000 = q at *
    generalize (j : Int) * (20000 * ac) = x at *
    omega
theorem sqW_level (hac : 0 ≤ ac) (d : Nat) (hd : d ≤ n) (hn : 0 < n) : sqW (List.replicate n (30000, 0)) 0 l sp ac ac (n - d) = min (min sp 30000 * min sp 30000) (min (((n - d : Nat) : Int) * (20000 * ac)) ((d : Int) * (20000 * ac))) := by
  have hq : 0 ≤ min sp 30000 * min sp 30000 := by
    rcases Int.lt_or_le (min sp 30000) 0 with h | h
    · have := Int.mul_pos_of_neg_of_neg h h; omega
    · exact Int.mul_nonneg h h
  have hlen : (List.replicate n ((30000, 0) : Int × Int)).length = n := List.length_replicate
  induction d with
  | zero =>
    have e := sqW_end (cs := List.replicate n (30000, 0)) (start := 0) (l := l) (sp := sp) (ac := ac) (br := ac) (by omega)
    rw [hlen] at e
    rw [e]
    have : 0 ≤ ((n - 0 : Nat) : Int) * (20000 * ac) := Int.mul_nonneg (by omega) (by omega)
    rw [Int.natCast_zero, Int.zero_mul]
    omega
  | succ d ih =>
    have i := ih (by omega)
    have hnn : 0 ≤ ((n - (d + 1) : Nat) : Int) * (20000 * ac) := Int.mul_nonneg (by omega) (by omega)
    have hdd : 0 ≤ (d : Int) * (20000 * ac) := Int.mul_nonneg (by omega) (by omega)
    by_cases h0 : n - (d + 1) = 0
    · rw [h0, sqW_zero, Int.natCast_zero, Int.zero_mul, Int.natCast_succ, Int.add_mul]; omega
    · have e := sqW_mid (cs := List.replicate n (30000, 0)) (start := 0) (l := l) (sp := sp) (ac := ac) (br := ac) (n - (d + 1)) (by omega) (by omega)
      rw [e, Nat.zero_add, getD_level _ (by omega), loss_level, fwd_level hac _ (by omega), show n - (d + 1) + 1 = n - d by omega, i, Int.natCast_succ, Int.add_mul, Int.one_mul, show ((n - d : Nat) : Int) = ((n - (d + 1) : Nat) : Int) + 1 by omega, Int.add_mul, Int.one_mul]
      generalize min sp 30000 * min sp 30000 = q at *
      generalize ((n - (d + 1) : Nat) : Int) * (20000 * ac) = x at *
      generalize (d : Int) * (20000 * ac) = y at *
      omega
theorem spd_level (hac : 0 ≤ ac) (hn : 0 < n) (j : Nat) (hj : j ≤ n) : spd (List.replicate n (30000, 0)) 0 l sp ac ac j = spd (List.replicate n (30000, 0)) 0 l sp ac ac (n - j) := by
  have a := sqW_level (l := l) (sp := sp) hac j hj hn
  have b := sqW_level (l := l) (sp := sp) hac (n - j) (by omega) hn
  rw [show n - (n - j) = j by omega] at b
  unfold spd
  rw [a, b]
  rw [Int.min_comm (((n - j : Nat) : Int) * (20000 * ac))]
end
end Go.Proofs.Ytjmiddhdbimaaaa
