/- The table of the earlier links at each end, that checkLinks keeps in memory. -/
import Derived.Test.YthnfliopmjpdmaaRowsF
namespace Go.Proofs.Ythnfliopmjpdmaa
open Go.RowKit
set_option linter.unusedVariables false

theorem lnkF_len (k : Lnk) : (lnkF k).length = 6 := rfl

/-- Block r (the first new one) is a row of n slices; slice i is the call's own and holds E i; no two share an array. -/
structure CkI (w x : World) (n : Nat) (E : Nat → List Lnk) (Vs : Nat → Value) : Prop where
  row : x.rowIs w.heap.size 27 n Vs
  own : ∀ i, i < n → OwnF x (w.heap.size + 1) 58 6 lnkF (Vs i) (E i)
  apart : ∀ i j, i < n → j < n → i ≠ j → (Vs i).ownBlock = none ∨ (Vs i).ownBlock ≠ (Vs j).ownBlock
  bel : Below w.heap.size w x
theorem CkI.call {w x y : World} {n : Nat} {E : Nat → List Lnk} {Vs : Nat → Value} (h : CkI w x n E Vs) (hb : Below x.heap.size x y) : CkI w y n E Vs :=
  ⟨h.row.of_block (hb.block _ h.row.lt), fun i hi => (h.own i hi).below hb, h.apart, h.bel.trans (hb.mono h.bel.size)⟩
theorem CkI.congr {w x : World} {n : Nat} {E E' : Nat → List Lnk} {Vs : Nat → Value} (h : CkI w x n E Vs) (e : ∀ i, i < n → E i = E' i) : CkI w x n E' Vs :=
  ⟨h.row, fun i hi => by rw [← e i hi]; exact h.own i hi, h.apart, h.bel⟩
theorem CkI.blk {w x : World} {n : Nat} {E : Nat → List Lnk} {Vs : Nat → Value} (h : CkI w x n E Vs) {i : Nat} (hi : i < n) {q : Nat} (hq : (Vs i).ownBlock = some q) : w.heap.size + 1 ≤ q ∧ q < x.heap.size :=
  World.ownsRow.lt (h.own i hi) q hq
theorem CkI.start {w x : World} {n : Nat} (hrow : x.rowIs w.heap.size 27 n (fun _ => .slice none 0 0)) (hb : Below w.heap.size w x) : CkI w x n (fun _ => []) (fun _ => .slice none 0 0) :=
  ⟨hrow, fun i hi => OwnF.nil _ _ _ _ _, fun i j _ _ _ => .inl rfl, hb⟩

/-- The slice at i has been appended to and stored back. -/
theorem CkI.put {w x w1 : World} {n : Nat} {E : Nat → List Lnk} {Vs : Nat → Value} (h : CkI w x n E Vs) {i : Nat} (hi : i < n) (k : Lnk) {g cap : Nat}
    (hown : w1.ownsRow (w.heap.size + 1) 58 6 (.slice (some ⟨g, 0, none⟩) ((E i).length + 1) cap) ((E i).length + 1) ((E i).flatMap lnkF ++ lnkF k)) (hg : x.grownBy w1 (Vs i).ownBlock) (hat : (Vs i).ownBlock = some g ∨ g = x.heap.size) :
    CkI w (w1.setCell ⟨w.heap.size, i, none⟩ (.slice (some ⟨g, 0, none⟩) ((E i).length + 1) cap)) n (fun j => if j = i then E i ++ [k] else E j) (fun j => if j = i then .slice (some ⟨g, 0, none⟩) ((E i).length + 1) cap else Vs j) := by
  have hne : some w.heap.size ≠ (Vs i).ownBlock := fun e => by have := h.blk hi e.symm; omega
  refine ⟨?_, fun j hj => ?_, fun a b ha hb hab => ?_, ?_⟩
  · exact (h.row.of_block (hg.block _ h.row.lt hne)).set i _
  · by_cases hji : j = i
    · simp only [hji, if_true]
      refine ownsRow_setCell_below (base := w.heap.size + 1) ?_ (by simp) _
      rw [List.flatMap_append, List.length_append]
      simpa using hown
    · simp only [if_neg hji]
      exact ownsRow_setCell_below (World.ownsRow.kept (h.own j hj) hg (h.apart j i hj hi hji)) (by simp) _
  · by_cases hai : a = i
    · have hbi : b ≠ i := fun e => hab (hai.trans e.symm)
      simp only [hai, if_true, if_neg hbi]
      right
      intro e
      have e' : some g = (Vs b).ownBlock := e
      rcases hat with hat | hat
      · rcases h.apart b i hb hi hbi with h1 | h1
        · rw [h1] at e'; cases e'
        · exact h1 (by rw [← e', hat])
      · have := h.blk hb e'.symm; omega
    · by_cases hbi : b = i
      · simp only [hbi, if_true, if_neg hai]
        by_cases hn : (Vs a).ownBlock = none
        · left; exact hn
        · right
          intro e
          have e' : (Vs a).ownBlock = some g := e
          rcases hat with hat | hat
          · rcases h.apart a i ha hi hai with h1 | h1
            · exact hn h1
            · exact h1 (by rw [e', hat])
          · have := h.blk ha e'; omega
      · simp only [if_neg hai, if_neg hbi]
        exact h.apart a b ha hb hab
  · exact (h.bel.grown hg h.bel.size (fun q hq => by have := h.blk hi hq; omega)).setCell (Nat.le_refl _) _
theorem BoxV.grown {w w' : World} {p : Nat} {vs : List Value} {row : Option Nat} (h : BoxV w p vs) (hg : w.grownBy w' row) (hne : some p ≠ row) : BoxV w' p vs :=
  h.of_block (Nat.lt_of_lt_of_le h.1 hg.size) (hg.block p h.1 hne)
theorem BoxV.far {w : World} {p : Nat} {vs : List Value} (h : BoxV w p vs) {a : Addr} (ha : p ≠ a.block) (v : Value) : BoxV (w.setCell a v) p vs :=
  h.of_block (by simp [World.setCell]; exact h.1) (Below.heap_setCell _ _ _ _ ha)

/-! ### the earlier links at the ends -/
def endOf (i : Nat) : Int × Int := (((i / 2 : Nat) : Int), ((i % 2 : Nat) : Int))
def atI (prev : List Lnk) (i : Nat) : List Lnk := atE prev (endOf i)
theorem endOf_at {a ae : Int} {i : Nat} (h1 : 0 ≤ a) (h2 : 0 ≤ ae) (h3 : ae ≤ 1) (hi : 2 * a + ae = i) : endOf i = (a, ae) := by
  unfold endOf
  congr 1 <;> omega
theorem atE_snoc (prev : List Lnk) (k : Lnk) (x : Int × Int) : atE (prev ++ [k]) x = if hasE k x = true then atE prev x ++ [k] else atE prev x := by
  unfold atE
  rw [List.filter_append]
  by_cases h : hasE k x = true
  · rw [if_pos h]; simp [h]
  · rw [if_neg h]; simp [h]
theorem hasE_at {k : Lnk} {ia ib : Nat} (h1 : 0 ≤ k.a) (h2 : 0 ≤ k.ae) (h3 : k.ae ≤ 1) (h4 : 0 ≤ k.b) (h5 : 0 ≤ k.be) (h6 : k.be ≤ 1) (ha : 2 * k.a + k.ae = ia) (hb : 2 * k.b + k.be = ib) (i : Nat) : hasE k (endOf i) = true ↔ i = ia ∨ i = ib := by
  unfold hasE endOf
  simp only [decide_eq_true_eq]
  omega
theorem atI_step {prev : List Lnk} {k : Lnk} {ia ib : Nat} (h1 : 0 ≤ k.a) (h2 : 0 ≤ k.ae) (h3 : k.ae ≤ 1) (h4 : 0 ≤ k.b) (h5 : 0 ≤ k.be) (h6 : k.be ≤ 1) (ha : 2 * k.a + k.ae = ia) (hb : 2 * k.b + k.be = ib) (hne : ia ≠ ib) (i : Nat) :
    (if i = ib then (if ib = ia then atI prev ia ++ [k] else atI prev ib) ++ [k] else if i = ia then atI prev ia ++ [k] else atI prev i) = atI (prev ++ [k]) i := by
  have hh := hasE_at h1 h2 h3 h4 h5 h6 ha hb
  have e : ∀ j, atI (prev ++ [k]) j = if hasE k (endOf j) = true then atI prev j ++ [k] else atI prev j := fun j => atE_snoc _ _ _
  rw [e]
  by_cases hib : i = ib
  · rw [if_pos hib, if_neg (Ne.symm hne), if_pos ((hh i).2 (.inr hib)), hib]
  · rw [if_neg hib]
    by_cases hia : i = ia
    · rw [if_pos hia, if_pos ((hh i).2 (.inl hia)), hia]
    · rw [if_neg hia, if_neg (fun h => by rcases (hh i).1 h with h | h; exact hia h; exact hib h)]
end Go.Proofs.Ythnfliopmjpdmaa
