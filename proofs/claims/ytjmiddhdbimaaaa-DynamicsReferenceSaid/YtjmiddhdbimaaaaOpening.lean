/- The cells and the stock with which several statements begin. -/
import Derived.Test.YtjmiddhdbimaaaaDyn4
import Derived.Test.YtjmiddhdbimaaaaGenCells
namespace Go.Proofs.Ytjmiddhdbimaaaa
open Go.RowKit
set_option linter.unusedVariables false

theorem own_cap {w : World} {base : Nat} {e : TypeId} {size : Nat} {A : Option Addr} {n c : Nat} {xs : List Value} (h : w.ownsRow base e size (.slice A n c) n xs) : n ≤ c := by
  rcases h.2 with ⟨h1, h2⟩ | ⟨g, cap, cur, h1, _, _, h2, _⟩
  · injection h1 with _ _ h3; omega
  · injection h1 with _ _ h3; omega

theorem opening (a0 : Option Addr) (cap0 : Nat) (z0 : List Int) (a1 : Option Addr) (cap1 : Nat) (z1 : List Int) (w : World) (r0 : RdI w a0 z0) (l0 : z0.length ≤ 9223372036854775807) (r1 : RdI w a1 z1) (l1 : z1.length ≤ 9223372036854775807) :
    ∃ (cs : List (Int × Int)) (l : Nat) (sp ac br : Int), cs.all cellB = true ∧ cs.length ≤ 56 ∧ 1 ≤ cs.length ∧ 1 ≤ l ∧ l ≤ 4 ∧ 5000 ≤ sp ∧ sp ≤ 32500 ∧ 200 ≤ ac ∧ ac ≤ 900 ∧ 200 ≤ br ∧ br ≤ 900 ∧
      Calls Try.prog 13 #[.slice a0 z0.length cap0] w (RetCells w cs) ∧
      ∀ w1, Below w.heap.size w w1 → Calls Try.prog 14 #[.slice a1 z1.length cap1] w1 fun e w' => e = .returned (.agg #[.string ⟨#[88]⟩, .int .i64 l, .int .i64 sp, .int .i64 ac, .int .i64 br]) ∧ Below w1.heap.size w1 w' := by
  obtain ⟨h1, h2, h3⟩ := cellsOf_ok z0
  obtain ⟨s1, s2, s3, s4⟩ := stock_ranges z1
  obtain ⟨l, hl⟩ := Int.eq_ofNat_of_zero_le (show 0 ≤ stLen z1 by omega)
  refine ⟨cellsOf z0, l, stSpeed z1, stAccel z1, stBrake z1, h1, h2, h3, by omega, by omega, s2.1, s2.2, s3.1, s3.2, s4.1, s4.2, cells_any a0 cap0 z0 w r0 l0, fun w1 hb => ?_⟩
  rw [← hl]
  exact stock_any a1 cap1 z1 w1 (r1.below hb) l1
theorem ok_of {cs : List (Int × Int)} {start l : Nat} {sp ac br : Int} (hall : cs.all cellB = true) (hl : cs.length ≤ 4000) (hst : start + 2 ≤ cs.length) (k1 : 1 ≤ l) (k2 : l ≤ 40) (k3 : 1000 ≤ sp) (k4 : sp ≤ 100000) (k5 : 100 ≤ ac) (k6 : ac ≤ 2000) (k7 : 100 ≤ br) (k8 : br ≤ 2000) :
    badRun cs start l sp ac br = 0 := by
  unfold badRun
  rw [if_neg (by rw [chk_mk (by omega) (by omega) k3 k4 k5 k6 k7 k8]; decide), if_neg (by omega), if_neg (by rw [hall]; decide), if_neg (by omega)]

section
variable {w : World} {q : Nat} {nm : ByteArray} {l sp ac br : Int}
theorem box_size (w : World) (a : Addr) (v : Value) : (w.setCell a v).heap.size = w.heap.size := by simp [World.setCell]
theorem BoxS.set_len (h : BoxS w q nm l sp ac br) (v : Int) : BoxS (w.setCell ⟨q, 1, none⟩ (.int .i64 v)) q nm v sp ac br := by
  obtain ⟨h0, h1, h2, h3, h4, h5⟩ := h
  exact ⟨by rw [box_size]; exact h0, far_cell h1 (.inr (by intro h; simp at h)), World.cell?_setCell_same _ _ _ h2, far_cell h3 (.inr (by intro h; simp at h)), far_cell h4 (.inr (by intro h; simp at h)), far_cell h5 (.inr (by intro h; simp at h))⟩
theorem BoxS.set_speed (h : BoxS w q nm l sp ac br) (v : Int) : BoxS (w.setCell ⟨q, 2, none⟩ (.int .i64 v)) q nm l v ac br := by
  obtain ⟨h0, h1, h2, h3, h4, h5⟩ := h
  exact ⟨by rw [box_size]; exact h0, far_cell h1 (.inr (by intro h; simp at h)), far_cell h2 (.inr (by intro h; simp at h)), World.cell?_setCell_same _ _ _ h3, far_cell h4 (.inr (by intro h; simp at h)), far_cell h5 (.inr (by intro h; simp at h))⟩
theorem BoxS.set_accel (h : BoxS w q nm l sp ac br) (v : Int) : BoxS (w.setCell ⟨q, 3, none⟩ (.int .i64 v)) q nm l sp v br := by
  obtain ⟨h0, h1, h2, h3, h4, h5⟩ := h
  exact ⟨by rw [box_size]; exact h0, far_cell h1 (.inr (by intro h; simp at h)), far_cell h2 (.inr (by intro h; simp at h)), far_cell h3 (.inr (by intro h; simp at h)), World.cell?_setCell_same _ _ _ h4, far_cell h5 (.inr (by intro h; simp at h))⟩
theorem BoxS.set_brake (h : BoxS w q nm l sp ac br) (v : Int) : BoxS (w.setCell ⟨q, 4, none⟩ (.int .i64 v)) q nm l sp ac v := by
  obtain ⟨h0, h1, h2, h3, h4, h5⟩ := h
  exact ⟨by rw [box_size]; exact h0, far_cell h1 (.inr (by intro h; simp at h)), far_cell h2 (.inr (by intro h; simp at h)), far_cell h3 (.inr (by intro h; simp at h)), far_cell h4 (.inr (by intro h; simp at h)), World.cell?_setCell_same _ _ _ h5⟩
theorem BoxS.far (h : BoxS w q nm l sp ac br) {a : Addr} (ha : a.block ≠ q) (v : Value) : BoxS (w.setCell a v) q nm l sp ac br := by
  obtain ⟨h0, h1, h2, h3, h4, h5⟩ := h
  exact ⟨by rw [box_size]; exact h0, far_cell h1 (.inl ha), far_cell h2 (.inl ha), far_cell h3 (.inl ha), far_cell h4 (.inl ha), far_cell h5 (.inl ha)⟩
end
theorem RdC.far {w : World} {A : Option Addr} {cs : List (Int × Int)} (h : RdC w A cs) {a : Addr} (ha : ∀ b off, A = some ⟨b, off, none⟩ → 0 < cs.length → a.block ≠ b) (v : Value) : RdC (w.setCell a v) A cs := by
  intro k hk
  obtain ⟨b, off, e, hlt, h1, h2⟩ := h k hk
  have hne := ha b off e (by omega)
  exact ⟨b, off, e, by rw [box_size]; exact hlt, far_cell h1 (.inl hne), far_cell h2 (.inl hne)⟩
theorem RdC.lt {w : World} {A : Option Addr} {cs : List (Int × Int)} (h : RdC w A cs) {b off : Nat} (e : A = some ⟨b, off, none⟩) (h0 : 0 < cs.length) : b < w.heap.size := by
  obtain ⟨b', off', e', hlt, _⟩ := h 0 h0
  rw [e] at e'
  obtain ⟨rfl, rfl⟩ : b = b' ∧ off = off' := by simpa using e'
  exact hlt
theorem RdC.take {w : World} {A : Option Addr} {cs : List (Int × Int)} (h : RdC w A cs) (n : Nat) : RdC w A (cs.take n) := by
  intro k hk
  rw [List.length_take] at hk
  obtain ⟨b, off, e, hlt, h1, h2⟩ := h k (by omega)
  refine ⟨b, off, e, hlt, ?_, ?_⟩
  · rw [h1]; simp
  · rw [h2]; simp
end Go.Proofs.Ytjmiddhdbimaaaa
