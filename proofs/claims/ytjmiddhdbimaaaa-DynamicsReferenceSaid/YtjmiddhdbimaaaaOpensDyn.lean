/- A slice of cells and a stock that came in, opened. -/
import Derived.Test.YtjmiddhdbimaaaaOpens
import Derived.Test.YtjmiddhdbimaaaaDyn1
namespace Go.Proofs.Ytjmiddhdbimaaaa
open Go.ChangeShapes Go.WideShapes Go.Deep Go.RowKit
set_option linter.unusedVariables false
section
variable {H : Type} {enc : TypeId × Value → H} {w : World} {base : Nat} {spare : Nat → Bool} {held : Bool}
theorem open_cells {v : Value} (h : Legible enc Try.prog w base spare held 23 v) : ∃ A cap cs, v = .slice A cs.length cap ∧ RdC w A cs ∧ cs.length ≤ cap ∧ cap ≤ 9223372036854775807 := by
  obtain ⟨A, len, cap, rfl, h1, h2, h3⟩ := rows_legible Try.underlying23 Try.underlying34 (by kernel_rfl) (by kernel_rfl) (by decide) h
  obtain ⟨cs, hl, hq⟩ := list_of (Q := fun i (c : Int × Int) => ∃ b off, A = some ⟨b, off, none⟩ ∧ b < w.heap.size ∧ w.cell? ⟨b, off + i * 2, none⟩ = some (.int .i64 c.1) ∧ w.cell? ⟨b, off + i * 2 + 1, none⟩ = some (.int .i64 c.2)) len (fun i hi => by
    obtain ⟨b, off, e, hb, hf⟩ := h3 i hi
    obtain ⟨u0, c0, l0⟩ := hf 0 _ rfl
    obtain ⟨u1, c1, l1⟩ := hf 1 _ rfl
    obtain ⟨n0, rfl, _⟩ := l0.int (k := .i64) Try.underlying3
    obtain ⟨n1, rfl, _⟩ := l1.int (k := .i64) Try.underlying3
    exact ⟨(n0, n1), b, off, e, hb, c0, c1⟩)
  subst hl
  exact ⟨A, cap, cs, rfl, fun k hk => hq k hk, h1, by unfold maxLen at h2; omega⟩
theorem open_stock {r : Reach} {b0 : Nat} {v : Value} {d : DataW H} {p : List MemPlace} (hv : Value.okWide Try.prog w r b0 26 v) (h : DataW.Trod enc Try.prog w base spare held 26 v d p) :
    ∃ nm l sp ac br, v = .agg #[.string nm, .int .i64 l, .int .i64 sp, .int .i64 ac, .int .i64 br] := by
  obtain ⟨cs, rfl, hl, hf⟩ := agg_legible Try.underlying26 (by kernel_rfl) (by kernel_rfl) hv h
  match cs, hl with
  | [c0, c1, c2, c3, c4], _ =>
    obtain ⟨u0, e0, l0⟩ := hf 0 _ rfl
    obtain ⟨u1, e1, l1⟩ := hf 1 _ rfl
    obtain ⟨u2, e2, l2⟩ := hf 2 _ rfl
    obtain ⟨u3, e3, l3⟩ := hf 3 _ rfl
    obtain ⟨u4, e4, l4⟩ := hf 4 _ rfl
    obtain ⟨s, rfl, _⟩ := l0.str Try.underlying9
    obtain ⟨n1, rfl, _⟩ := l1.int (k := .i64) Try.underlying3
    obtain ⟨n2, rfl, _⟩ := l2.int (k := .i64) Try.underlying3
    obtain ⟨n3, rfl, _⟩ := l3.int (k := .i64) Try.underlying3
    obtain ⟨n4, rfl, _⟩ := l4.int (k := .i64) Try.underlying3
    simp at e0 e1 e2 e3 e4
    exact ⟨s, n1, n2, n3, n4, by rw [e0, e1, e2, e3, e4]⟩
end
end Go.Proofs.Ytjmiddhdbimaaaa
