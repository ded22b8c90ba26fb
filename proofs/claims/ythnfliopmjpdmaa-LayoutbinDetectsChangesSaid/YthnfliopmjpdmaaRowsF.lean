/- Slices that a call made, whose elements take several cells: how they read. -/
import Derived.Test.YthnfliopmjpdmaaLayRead
import Derived.Deep.OwnRows
import Derived.Deep.AppendLies
namespace Go.Proofs.Ythnfliopmjpdmaa
open Go.RowKit
set_option linter.unusedVariables false

theorem flat_at {α : Type} (f : α → List Value) (n : Nat) (hf : ∀ x, (f x).length = n) : ∀ (xs : List α) (k : Nat) (h : k < xs.length) (j : Nat), j < n → (xs.flatMap f)[k * n + j]? = (f xs[k])[j]?
  | [], k, h, _, _ => absurd h (Nat.not_lt_zero _)
  | x :: r, 0, _, j, hj => by
    rw [List.flatMap_cons, Nat.zero_mul, Nat.zero_add, List.getElem?_append_left (by rw [hf]; exact hj)]; rfl
  | x :: r, k + 1, h, j, hj => by
    have ih := flat_at f n hf r k (by simpa using h) j hj
    rw [List.flatMap_cons, show (k + 1) * n + j = k * n + j + n by rw [Nat.add_mul]; omega, List.getElem?_append_right (by rw [hf]; omega), hf, Nat.add_sub_cancel, ih]; rfl
theorem flat_len {α : Type} (f : α → List Value) (n : Nat) (hf : ∀ x, (f x).length = n) (xs : List α) : (xs.flatMap f).length = xs.length * n := by
  induction xs with
  | nil => simp
  | cons x r ih => rw [List.flatMap_cons, List.length_append, hf, ih, List.length_cons, Nat.add_mul]; omega
theorem add_row (b j : Nat) : ((⟨b, 0, none⟩ : Addr).add j) = ⟨b, j, none⟩ := by unfold Addr.add; split <;> simp_all

/-- A slice of the call's own holds a list. -/
def OwnF {α : Type} (w : World) (base : Nat) (T : TypeId) (n : Nat) (f : α → List Value) (v : Value) (xs : List α) : Prop := w.ownsRow base T n v xs.length (xs.flatMap f)
theorem OwnF.nil {α : Type} (w : World) (base : Nat) (T : TypeId) (n : Nat) (f : α → List Value) : OwnF w base T n f (.slice none 0 0) [] := World.ownsRow_nil w base T n
theorem OwnF.shape {α : Type} {w : World} {base : Nat} {T : TypeId} {n : Nat} {f : α → List Value} {v : Value} {xs : List α} (h : OwnF w base T n f v xs) : ∃ A c, v = .slice A xs.length c ∧ xs.length ≤ c ∧ c ≤ 9223372036854775807 := by
  rcases h.2 with ⟨h1, h2⟩ | ⟨g, cap, cur, h1, _, _, h3, h4, _⟩
  · exact ⟨none, 0, by rw [h1, h2], by omega, by omega⟩
  · exact ⟨_, cap, h1, h3, by unfold maxLen at h4; omega⟩
theorem OwnF.kept {α : Type} {w w' : World} {base : Nat} {T : TypeId} {n : Nat} {f : α → List Value} {v : Value} {xs : List α} {row : Option Nat} (h : OwnF w base T n f v xs) (hg : w.grownBy w' row) (hne : v.ownBlock = none ∨ v.ownBlock ≠ row) : OwnF w' base T n f v xs :=
  World.ownsRow.kept h hg hne
theorem grown_of_below {w w' : World} (hb : Below w.heap.size w w') : w.grownBy w' none := ⟨hb.os, hb.tape, hb.output, hb.size, fun k hk _ => hb.block k hk⟩
theorem OwnF.below {α : Type} {w w' : World} {base : Nat} {T : TypeId} {n : Nat} {f : α → List Value} {v : Value} {xs : List α} (h : OwnF w base T n f v xs) (hb : Below w.heap.size w w') : OwnF w' base T n f v xs :=
  h.kept (grown_of_below hb) (by cases hv : v.ownBlock <;> simp)
theorem OwnF.rd {α : Type} {w : World} {base : Nat} {T : TypeId} {n : Nat} {f : α → List Value} {A : Option Addr} {m c : Nat} {xs : List α} (hf : ∀ x, (f x).length = n) (h : OwnF w base T n f (.slice A m c) xs) : RdF n f w A xs := by
  intro k hk
  rcases h.2 with ⟨h1, h2⟩ | ⟨g, cap, cur, h1, _, hb, h3, h4, h5, h6⟩
  · omega
  · injection h1 with e1 e2 e3
    subst e1
    refine ⟨g, 0, rfl, (Array.getElem?_eq_some_iff.1 hb).1, fun j v hv => ?_⟩
    have hjn : j < n := by
      have := (List.getElem?_eq_some_iff.1 hv).1
      rw [hf] at this; exact this
    have e := flat_at f n hf xs k hk j hjn
    rw [hv] at e
    have := World.ownsRow.cells h (g := g) rfl _ _ e
    rw [add_row] at this
    rwa [Nat.zero_add]
end Go.Proofs.Ythnfliopmjpdmaa
