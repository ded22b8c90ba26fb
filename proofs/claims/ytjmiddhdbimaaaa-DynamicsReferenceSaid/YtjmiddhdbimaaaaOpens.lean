/- What is known of an argument that can be read: structs of one-cell fields, slices of such structs, in the words that the walks use. -/
import Derived.Test.YtjmiddhdbimaaaaProg
import Derived.WalkKit
import Derived.ProofKit
import Derived.OpenShut
import Derived.Deep.Slices
import Derived.Deep.Fields
import Derived.ChangeSame
namespace Go.Proofs.Ytjmiddhdbimaaaa
open Go.ChangeShapes Go.WideShapes Go.Deep Go.RowKit
set_option linter.unusedVariables false

section
variable {H : Type} {enc : TypeId × Value → H} {P : Program} {w : World} {base : Nat} {spare : Nat → Bool} {held : Bool}

/-- A value of type t in one cell can be read. -/
def Legible (enc : TypeId × Value → H) (P : Program) (w : World) (base : Nat) (spare : Nat → Bool) (held : Bool) (t : TypeId) (v : Value) : Prop :=
  ∃ n y, DataW.trod enc P w base spare held n t [v] = some y
theorem Legible.int {t : TypeId} {v : Value} {k : IntKind} (h : Legible enc P w base spare held t v) (ht : P.underlying t = some (.int k)) : ∃ n, v = .int k n ∧ (Lit.int k n).wf = true := by
  obtain ⟨m, y, hm⟩ := h
  obtain ⟨n, e, _, hw⟩ := DataW.trod_int ht hm
  exact ⟨n, by simpa using e, hw⟩
theorem Legible.str {t : TypeId} {v : Value} (h : Legible enc P w base spare held t v) (ht : P.underlying t = some .string) : ∃ s, v = .string s ∧ s.size ≤ maxLen := by
  obtain ⟨m, y, hm⟩ := h
  obtain ⟨s, e, _, hw⟩ := DataW.trod_string ht hm
  exact ⟨s, by simpa using e, hw⟩

/-- The cells of a struct of one-cell fields, each legible. -/
theorem fields_legible {t : TypeId} {fs : Array Field} {fuel : Nat} {cs : List Value} {x : DataW H × List MemPlace} (hs : P.underlying t = some (.struct fs)) (hone : oneCellFields P fs = true) (hC : P.cellsOf t = fs.size)
    (h : DataW.trod enc P w base spare held fuel t cs = some x) : cs.length = fs.size ∧ ∀ (j : Nat) (f : Field), fs[j]? = some f → ∃ v, cs[j]? = some v ∧ Legible enc P w base spare held f.type v := by
  obtain ⟨xs, n, _, _, hl, hxl, hf⟩ := DataW.trod_struct hs h
  refine ⟨hl.trans hC, fun j f hj => ?_⟩
  have hlt : j < fs.size := (Array.getElem?_eq_some_iff.1 hj).1
  have hjc : j < cs.length := by omega
  have hjx : j < xs.length := by omega
  obtain ⟨ho, hk⟩ := hone_of hone j f hj
  have h1 := hf j f hj
  have e : (cs.drop f.offset).take (P.cellsOf f.type) = [cs[j]] := by
    rw [ho, hk, List.drop_eq_getElem_cons hjc, List.take_succ_cons, List.take_zero]
  rw [e, List.getElem?_eq_getElem hjx] at h1
  exact ⟨cs[j], List.getElem?_eq_getElem hjc, n, _, h1⟩

/-- A struct by value. -/
theorem agg_legible {r : Reach} {b0 : Nat} {t : TypeId} {fs : Array Field} {v : Value} {d : DataW H} {p : List MemPlace} (hs : P.underlying t = some (.struct fs)) (hone : oneCellFields P fs = true) (hC : P.cellsOf t = fs.size)
    (hv : Value.okWide P w r b0 t v) (h : DataW.Trod enc P w base spare held t v d p) :
    ∃ cs : List Value, v = .agg cs.toArray ∧ cs.length = fs.size ∧ ∀ (j : Nat) (f : Field), fs[j]? = some f → ∃ u, cs[j]? = some u ∧ Legible enc P w base spare held f.type u := by
  obtain ⟨⟨cs⟩, rfl, _⟩ := okWide_struct hs hv
  obtain ⟨fuel, hf⟩ := h
  obtain ⟨h1, h2⟩ := fields_legible hs hone hC hf
  exact ⟨cs, rfl, by simpa [Value.cells] using h1, fun j f hj => by simpa [Value.cells] using h2 j f hj⟩

/-- A slice of structs of one-cell fields, in a cell. -/
theorem rows_legible {t e : TypeId} {fs : Array Field} {v : Value} (ht : P.underlying t = some (.slice e)) (he : P.underlying e = some (.struct fs)) (hone : oneCellFields P fs = true) (hC : P.cellsOf e = fs.size) (hpos : 0 < fs.size)
    (h : Legible enc P w base spare held t v) :
    ∃ A len cap, v = .slice A len cap ∧ len ≤ cap ∧ cap ≤ maxLen ∧ ∀ i, i < len → ∃ b off, A = some ⟨b, off, none⟩ ∧ b < w.heap.size ∧
      ∀ (j : Nat) (f : Field), fs[j]? = some f → ∃ u, w.cell? ⟨b, off + i * fs.size + j, none⟩ = some u ∧ Legible enc P w base spare held f.type u := by
  obtain ⟨fuel, y, hf⟩ := h
  rcases open_slice ht hf with ⟨h0, _⟩ | ⟨a, len, cap, m, n, D, Pl, hcs, hb, hl, hm, hmm, hx, hi⟩
  · exact ⟨none, 0, 0, by simpa using h0, Nat.le_refl _, by simp [maxLen], fun i hi => absurd hi (Nat.not_lt_zero _)⟩
  · refine ⟨some a, len, cap, by simpa using hcs, hl, hm, fun i him => ?_⟩
    have him' : i < m := by rw [hmm]; split <;> omega
    obtain ⟨cs', hc, ht'⟩ := hi i him'
    rw [hC] at hc
    obtain ⟨hlen, hfl⟩ := fields_legible he hone hC ht'
    obtain ⟨_, hcl, hat⟩ := World.cells?_some hc
    have h0 : w.cell? (a.add (i * fs.size)) = some (cs'[0]'(by omega)) := by
      have := hat 0 hpos
      rw [List.getElem?_eq_getElem (by omega)] at this
      simpa [Addr.add] using this
    obtain ⟨b, off, spot⟩ := a
    have hspot : spot = none := by
      by_cases hz : i * fs.size = 0
      · rw [hz] at h0; simpa [Addr.add] using World.cell?_spot h0
      · have h00 := (hi 0 (by omega))
        obtain ⟨cs0, hc0, ht0⟩ := h00
        rw [hC] at hc0
        obtain ⟨_, hcl0, hat0⟩ := World.cells?_some hc0
        have := hat0 0 hpos
        rw [List.getElem?_eq_getElem (by omega)] at this
        simpa [Addr.add] using World.cell?_spot this
    subst hspot
    have hlt := World.block_lt_of_cell? w _ h0
    refine ⟨b, off, rfl, by simpa [Go.WideShapes.add_plain] using hlt, fun j f hj => ?_⟩
    obtain ⟨u, hu, hleg⟩ := hfl j f hj
    have hjl : j < fs.size := (Array.getElem?_eq_some_iff.1 hj).1
    have := hat j hjl
    rw [Go.WideShapes.add_plain, Go.WideShapes.add_plain, hu] at this
    exact ⟨u, this, hleg⟩

/-- A slice of one-cell elements, in a cell. -/
theorem row1_legible {t e : TypeId} {v : Value} (ht : P.underlying t = some (.slice e)) (hC : P.cellsOf e = 1)
    (h : Legible enc P w base spare held t v) :
    ∃ A len cap, v = .slice A len cap ∧ len ≤ cap ∧ cap ≤ maxLen ∧ ∀ i, i < len → ∃ b off, A = some ⟨b, off, none⟩ ∧ b < w.heap.size ∧
      ∃ u, w.cell? ⟨b, off + i, none⟩ = some u ∧ Legible enc P w base spare held e u := by
  obtain ⟨fuel, y, hf⟩ := h
  rcases open_slice ht hf with ⟨h0, _⟩ | ⟨a, len, cap, m, n, D, Pl, hcs, hb, hl, hm, hmm, hx, hi⟩
  · exact ⟨none, 0, 0, by simpa using h0, Nat.le_refl _, by simp [maxLen], fun i hi => absurd hi (Nat.not_lt_zero _)⟩
  · refine ⟨some a, len, cap, by simpa using hcs, hl, hm, fun i him => ?_⟩
    have key : ∀ k, k < m → ∃ u, w.cell? (a.add k) = some u ∧ Legible enc P w base spare held e u := by
      intro k hk
      obtain ⟨cs', hc, ht'⟩ := hi k hk
      rw [hC, Nat.mul_one] at hc
      obtain ⟨_, hcl, hat⟩ := World.cells?_some hc
      match cs', hcl with
      | [u], _ => exact ⟨u, by simpa [Addr.add] using hat 0 (by omega), n, _, ht'⟩
    have him' : i < m := by rw [hmm]; split <;> omega
    obtain ⟨u0, h0, _⟩ := key 0 (by omega)
    obtain ⟨u, hu, hleg⟩ := key i him'
    obtain ⟨b, off, spot⟩ := a
    have hspot : spot = none := by simpa [Addr.add] using World.cell?_spot h0
    subst hspot
    rw [Go.WideShapes.add_plain] at hu
    exact ⟨b, off, rfl, World.block_lt_of_cell? w _ hu, u, hu, hleg⟩
theorem trod_legible {r : Reach} {t : TypeId} {v : Value} {d : DataW H} {p : List MemPlace} (h : DataW.Trod enc P w base spare held t v d p) (hc : v.cells.toList = [v]) : Legible enc P w base spare held t v := by
  obtain ⟨fuel, hf⟩ := h
  rw [hc] at hf
  exact ⟨fuel, _, hf⟩
end

/-- A list whose elements are as asked. -/
theorem list_of {α : Type} {Q : Nat → α → Prop} : ∀ (n : Nat), (∀ i, i < n → ∃ a, Q i a) → ∃ l : List α, l.length = n ∧ ∀ i (h : i < l.length), Q i l[i]
  | 0, _ => ⟨[], rfl, fun i h => absurd h (Nat.not_lt_zero _)⟩
  | n + 1, h => by
    obtain ⟨l, hl, hq⟩ := list_of n (fun i hi => h i (by omega))
    obtain ⟨a, ha⟩ := h n (by omega)
    refine ⟨l ++ [a], by simp [hl], fun i hi => ?_⟩
    by_cases hin : i < l.length
    · rw [List.getElem_append_left hin]; exact hq i hin
    · have : i = l.length := by simp at hi; omega
      subst this
      simp [hl, ha]
end Go.Proofs.Ytjmiddhdbimaaaa
