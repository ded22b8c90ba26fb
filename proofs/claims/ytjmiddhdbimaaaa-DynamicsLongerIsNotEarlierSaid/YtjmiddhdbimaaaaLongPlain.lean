/- A longer train and lower limits are nowhere faster, plainly. -/
import Derived.Test.YtjmiddhdbimaaaaMonoPlain
import Derived.Test.YtjmiddhdbimaaaaOpening
namespace Go.Proofs.Ytjmiddhdbimaaaa
open Go.RowKit

theorem foldl_min_ge (L : List (Int × Int)) (s m : Int) (h0 : m ≤ s) (h : ∀ c ∈ L, m ≤ c.1) : m ≤ L.foldl (fun m c => min m c.1) s := by
  induction L generalizing s with
  | nil => exact h0
  | cons c L ih =>
    have hc := h c (by simp)
    exact ih (min s c.1) (by omega) (fun x hx => h x (by simp [hx]))
theorem limit_lower {cs cs' : List (Int × Int)} {k l l' : Nat} (sp : Int) (hlen : cs'.length = cs.length) (hl : l ≤ l') (hle : ∀ i (h : i < cs.length), (cs'[i]'(by omega)).1 ≤ (cs[i]).1) : limitOf cs' k l' sp ≤ limitOf cs k l sp := by
  have h1 : limitOf cs' k l' sp ≤ sp := (foldl_min_le _ _).1
  refine foldl_min_ge _ _ _ h1 (fun c hc => ?_)
  obtain ⟨t, ht, rfl⟩ := List.mem_iff_getElem.1 hc
  simp only [List.length_drop, List.length_take] at ht
  rw [List.getElem_drop, List.getElem_take]
  have a := limit_le cs' k l' (k - l + t) sp (by omega) (by omega) (by omega)
  have b := hle (k - l + t) (by omega)
  omega
section
variable {cs : List (Int × Int)} {k : Nat} {v : Int} (hk : k < cs.length) (hv : v ≤ (cs[k]).1) (hv0 : 1000 ≤ v) (h : cs.all cellB = true)
include hv in
theorem set_le (i : Nat) (hi : i < cs.length) : ((cs.set k (v, (cs[k]).2))[i]'(by simpa using hi)).1 ≤ (cs[i]).1 := by
  rw [List.getElem_set]
  split
  · rename_i e; subst e; exact hv
  · exact Int.le_refl _
theorem set_getD (i : Nat) : ((cs.set k (v, (cs[k]).2)).getD i (0, 0)).2 = (cs.getD i (0, 0)).2 := by
  simp only [List.getD, List.getElem?_set]
  by_cases e : k = i
  · subst e; simp [hk]
  · simp [e]
include hv hv0 h in
theorem set_all : (cs.set k (v, (cs[k]).2)).all cellB = true := by
  rw [List.all_eq_true] at h ⊢
  intro x hx
  rcases List.mem_or_eq_of_mem_set hx with h1 | h1
  · exact h x h1
  · subst h1
    have := cell_of (h _ (List.getElem_mem hk))
    simp only [cellB, decide_eq_true_eq]
    omega
include hk hv hv0 h in
theorem tim_set {s l l' : Nat} {sp ac br : Int} (hl : l ≤ l') (h1 : 1000 ≤ sp) (h2 : sp ≤ 100000) (h3 : 100 ≤ ac) (h4 : ac ≤ 2000) (h5 : 100 ≤ br) (h6 : br ≤ 2000) (hs : s + 2 ≤ cs.length) (j : Nat) (hj : j ≤ cs.length - s) :
    tim cs s l sp ac br j ≤ tim (cs.set k (v, (cs[k]).2)) s l' sp ac br j := by
  have ha := set_all hk hv hv0 h
  have hlen : (cs.set k (v, (cs[k]).2)).length = cs.length := List.length_set
  have hF : Freer cs.length s (cs.set k (v, (cs[k]).2)) l' sp ac br cs l sp ac br :=
    ⟨fun i _ => ⟨by have := (limit_range _ i l' sp h1 ha).1; omega, limit_lower sp hlen hl (set_le hk hv)⟩, fun i _ => by rw [set_getD hk]; exact Int.le_refl _, fun i _ => by rw [set_getD hk]; exact Int.le_refl _⟩
  refine tim_anti (cs.length - s) (fun i _ => spd_mono (sqW_mono hF hlen rfl (by omega) i)) (fun i hi => ?_) j hj
  have := (spd_sum (start := s) (l := l') h1 h2 h3 h4 h5 h6 ha (by omega) i (by omega)).1
  omega
end
theorem RdC.set {w : World} {b off : Nat} {cs : List (Int × Int)} (hR : RdC w (some ⟨b, off, none⟩) cs) {k : Nat} (hk : k < cs.length) (v : Int) : RdC (w.setCell ⟨b, off + k * 2, none⟩ (.int .i64 v)) (some ⟨b, off, none⟩) (cs.set k (v, (cs[k]).2)) := by
  intro i hi
  rw [List.length_set] at hi
  obtain ⟨b', off', e, hlt, h1, h2⟩ := hR i hi
  obtain ⟨rfl, rfl⟩ : b = b' ∧ off = off' := by simpa using e
  refine ⟨b, off, rfl, by rw [box_size]; exact hlt, ?_, ?_⟩
  · by_cases e : k = i
    · subst e
      rw [World.cell?_setCell_same _ _ _ h1]; simp
    · rw [far_cell h1 (.inr (by show off + k * 2 ≠ off + i * 2; omega))]
      simp [e]
  · rw [far_cell h2 (.inr (by show off + k * 2 ≠ off + i * 2 + 1; omega))]
    by_cases e : k = i
    · subst e; simp
    · simp [e]
theorem flatC_cell (cs : List (Int × Int)) : ∀ u ∈ flatC cs, u.oneCell' = true := by
  intro u hu
  simp only [flatC, List.mem_flatMap, List.mem_cons, List.not_mem_nil, or_false] at hu
  obtain ⟨c, -, rfl | rfl⟩ := hu <;> rfl
theorem RdC.news {w : World} {b off : Nat} {cs : List (Int × Int)} (hR : RdC w (some ⟨b, off, none⟩) cs) : ∀ j u, (flatC cs)[j]? = some u → w.cell? ((⟨b, off, none⟩ : Addr).add j) = some u := by
  intro j u hj
  have hlt : j < cs.length * 2 := by
    rw [← flatC_length]
    exact (List.getElem?_eq_some_iff.1 hj).1
  have e : ∀ j, ((⟨b, off, none⟩ : Addr).add j) = ⟨b, off + j, none⟩ := fun j => by unfold Addr.add; split <;> simp_all
  obtain ⟨h1, h2⟩ := hR.at_ (k := j / 2) (by omega)
  obtain ⟨f1, f2⟩ := flatC_at cs (j / 2) (by omega)
  rw [e]
  rcases Nat.mod_two_eq_zero_or_one j with hm | hm
  · have ej : j = j / 2 * 2 := by omega
    rw [ej] at hj ⊢
    rw [f1] at hj
    rw [← hj]; exact h1
  · have ej : j = j / 2 * 2 + 1 := by omega
    rw [ej] at hj ⊢
    rw [f2] at hj
    rw [← hj]; exact h2
end Go.Proofs.Ytjmiddhdbimaaaa
