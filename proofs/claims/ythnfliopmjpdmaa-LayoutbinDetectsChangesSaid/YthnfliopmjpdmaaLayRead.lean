/- How a layout lies in memory; the contracts of the tests of a section and of a link. -/
import Derived.Test.YthnfliopmjpdmaaName
import Derived.Below
import Derived.Maps.Own
namespace Go.Proofs.Ythnfliopmjpdmaa
open Go.RowKit
set_option linter.unusedVariables false

/-- A block holds these values. -/
def BoxV (w : World) (p : Nat) (vs : List Value) : Prop := p < w.heap.size ∧ ∀ (j : Nat) (v : Value), vs[j]? = some v → w.cell? ⟨p, j, none⟩ = some v
theorem BoxV.new (w : World) (vs : List Value) (t : TypeId) : BoxV (w.alloc (.cells vs.toArray t)) w.heap.size vs :=
  ⟨by simp, fun j v h => by
    have e := (MapKept.heap_alloc w (.cells vs.toArray t)).1
    show (match (w.alloc (.cells vs.toArray t)).heap[w.heap.size]? with | some (.cells c _ _) => if Option.isSome (none : Option Nat) then none else c[j]? | _ => none) = some v
    rw [e]
    simpa using h⟩
theorem BoxV.below {w w' : World} {p : Nat} {vs : List Value} (h : BoxV w p vs) (hb : Below w.heap.size w w') : BoxV w' p vs :=
  ⟨Nat.lt_of_lt_of_le h.1 hb.size, fun j v e => (hb.cell (p := ⟨p, j, none⟩) h.1).trans (h.2 j v e)⟩
theorem BoxV.of_block {w w' : World} {p : Nat} {vs : List Value} (h : BoxV w p vs) (hs : p < w'.heap.size) (e : w'.heap[p]? = w.heap[p]?) : BoxV w' p vs :=
  ⟨hs, fun j v hv => (World.cell?_of_block (w := w) (a := ⟨p, j, none⟩) e).trans (h.2 j v hv)⟩

/-- A slice whose elements take n cells each, given by a function, reads as a list. -/
def RdF {α : Type} (n : Nat) (f : α → List Value) (w : World) (A : Option Addr) (xs : List α) : Prop :=
  ∀ k (h : k < xs.length), ∃ b off, A = some ⟨b, off, none⟩ ∧ b < w.heap.size ∧ ∀ (j : Nat) (v : Value), (f xs[k])[j]? = some v → w.cell? ⟨b, off + k * n + j, none⟩ = some v
theorem RdF.below {α : Type} {n : Nat} {f : α → List Value} {w w' : World} {A : Option Addr} {xs : List α} (h : RdF n f w A xs) (hb : Below w.heap.size w w') : RdF n f w' A xs := by
  intro k hk
  obtain ⟨b, off, e, hlt, h1⟩ := h k hk
  exact ⟨b, off, e, Nat.lt_of_lt_of_le hlt hb.size, fun j v hv => (hb.cell (p := ⟨b, _, none⟩) hlt).trans (h1 j v hv)⟩
theorem RdF.grown {α : Type} {n : Nat} {f : α → List Value} {w w' : World} {A : Option Addr} {xs : List α} {s : Option Nat} (h : RdF n f w A xs) (hg : w.grownBy w' s) (hne : ∀ b off, A = some ⟨b, off, none⟩ → 0 < xs.length → some b ≠ s) : RdF n f w' A xs := by
  intro k hk
  obtain ⟨b, off, e, hlt, h1⟩ := h k hk
  exact ⟨b, off, e, Nat.lt_of_lt_of_le hlt hg.size, fun j v hv => (World.cell?_of_block (w := w) (a := ⟨b, _, none⟩) (hg.block b hlt (hne b off e (by omega)))).trans (h1 j v hv)⟩

def strF (s : ByteArray) : List Value := [.string s]
def secF (s : Sec) : List Value := [.string s.nm, .int .i64 s.len, .int .i64 s.lim, .int .i64 s.grd, .int .i64 s.stn]
def lnkF (k : Lnk) : List Value := [.int .i64 k.a, .int .i64 k.ae, .int .i64 k.b, .int .i64 k.be, .int .i64 k.pt, .int .i64 k.ps]

/-- The slices of a layout. -/
structure LayV where
  A1 : Option Addr
  c1 : Nat
  A2 : Option Addr
  c2 : Nat
  A3 : Option Addr
  c3 : Nat
  A4 : Option Addr
  c4 : Nat
/-- Strings are not longer than a string can be. -/
def Short (l : List ByteArray) : Prop := ∀ s ∈ l, s.size ≤ 9223372036854775807
structure RdLay (w : World) (V : LayV) (L : Lay) : Prop where
  r1 : RdF 1 strF w V.A1 L.sts
  r2 : RdF 1 strF w V.A2 L.pts
  r3 : RdF 5 secF w V.A3 L.secs
  r4 : RdF 6 lnkF w V.A4 L.lnks
  s1 : Short L.sts
  s2 : Short L.pts
  s3 : Short (L.secs.map Sec.nm)
  n1 : L.sts.length ≤ V.c1
  n2 : L.pts.length ≤ V.c2
  n3 : L.secs.length ≤ V.c3
  n4 : L.lnks.length ≤ V.c4
  m1 : L.sts.length ≤ 9223372036854775807
  m2 : L.pts.length ≤ 9223372036854775807
  m3 : L.secs.length ≤ 9223372036854775807
  m4 : L.lnks.length ≤ 9223372036854775807
theorem RdLay.below {w w' : World} {V : LayV} {L : Lay} (h : RdLay w V L) (hb : Below w.heap.size w w') : RdLay w' V L :=
  ⟨h.r1.below hb, h.r2.below hb, h.r3.below hb, h.r4.below hb, h.s1, h.s2, h.s3, h.n1, h.n2, h.n3, h.n4, h.m1, h.m2, h.m3, h.m4⟩

theorem sectionInRange_any (V : LayV) (L : Lay) (s : Sec) (w : World) :
    Calls Try.prog 38 #[.agg #[.slice V.A1 L.sts.length V.c1, .slice V.A2 L.pts.length V.c2, .slice V.A3 L.secs.length V.c3, .slice V.A4 L.lnks.length V.c4], .agg #[.string s.nm, .int .i64 s.len, .int .i64 s.lim, .int .i64 s.grd, .int .i64 s.stn]] w fun e w' => e = .returned (.bool (secB L.sts.length s)) ∧ Below w.heap.size w w' := by
  go_enter Try.func38, Try.ntmps38
  go_wp2
  all_goals
    go_ret
    exact ⟨ret_bool (by rw [Bool.eq_iff_iff]; simp [secB]; try omega), ((Below.refl _ _).alloc (Nat.le_refl _) _).alloc (by simp) _⟩

end Go.Proofs.Ythnfliopmjpdmaa
