/- What the claims use of their texts: OpR, Ww2. -/
import Derived.Test.YtalfibohepbhfaaPEF
set_option linter.unusedVariables false
set_option linter.unusedSimpArgs false
set_option maxRecDepth 4000
set_option maxHeartbeats 4000000
namespace Go.Proofs.Ytalfibohepbhfaa.Av
open Go.ChangeShapes Go.WideShapes Go.Deep Go.RowKit
set_option maxRecDepth 100000
theorem cell_slice {P : Program} {w : World} {r : Reach} {base : Nat} {t e : TypeId} {A : Option Addr} {len cap : Nat} (ht : P.underlying t = some (.slice e)) (h : Cell.okWide P w r base t (.slice A len cap)) : (A = none ∧ len = 0 ∧ cap = 0) ∨ ∃ b o, A = some ⟨b, o, none⟩ := by
 cases A with
 | none =>
  left
  simp only [Cell.okWide, ht, Cell.ok] at h
  split at h <;> simp_all
 | some a =>
  right
  simp only [Cell.okWide, ht, Cell.ok] at h
  obtain ⟨b, o, sp⟩ := a
  have : sp = none := h.2.2.2.1
  subst this
  exact ⟨b, o, rfl⟩
theorem field_wide {P : Program} {w : World} {r : Reach} {base : Nat} {t : TypeId} {fs : Array Field} {cs : Array Value} {ts : List TypeId} (hs : P.underlying t = some (.struct fs)) (hts : P.cellTypes P.depth t = some ts) (hv : Value.okWide P w r base t (.agg cs)) {i : Nat} {u : TypeId} {v : Value} (hi : i < ts.length) (hu : ts[i]? = some u) (h : cs[i]? = some v) : Cell.okWide P w r base u v := by
 simp only [Value.okWide, hs] at hv
 obtain ⟨cs', e, _, ts', h1, _, h2⟩ := hv
 injection e with e
 subst e
 rw [hts] at h1
 injection h1 with h1
 subst h1
 obtain ⟨u', h3, h4⟩ := h2 i v h
 rw [Nat.mod_eq_of_lt hi, hu] at h3
 injection h3 with h3
 exact h3 ▸ h4
theorem flat_idx {α β : Type} (F : α → List β) (n : Nat) (hn : ∀ x, (F x).length = n) (l : List α) {i : Nat} (h : i < (l.flatMap F).length) (h0 : 0 < n) : ∃ hk : i / n < l.length, (l.flatMap F)[i]? = (F l[i / n])[i % n]? := by
 have hl := flatMap_lenB F n hn l
 have hk : i / n < l.length := by rw [Nat.div_lt_iff_lt_mul h0]; omega
 refine ⟨hk, ?_⟩
 have := flatMap_get F n hn l (i / n) (i % n) l[i / n] (List.getElem?_eq_getElem hk) (Nat.mod_lt _ h0)
 rwa [Nat.mul_comm, Nat.div_add_mod] at this
theorem row_rep {α : Type} {F : α → List FVal} {n : Nat} (hn : ∀ x, (F x).length = n) (h0 : 0 < n) {w : World} {A : Option Addr} {cap : Nat} {l : List α} (hc : l.length ≤ cap) (hs : (A = none ∧ l.length = 0 ∧ cap = 0) ∨ ∃ b o, A = some ⟨b, o, none⟩)
  (hq : ∀ i (h : i < l.length), ∃ b off, A = some ⟨b, off, none⟩ ∧ b < w.heap.size ∧ ∀ j v, (F l[i])[j]? = some v → ∃ u, w.cell? ⟨b, off + i * n + j, none⟩ = some u ∧ RepF w (fun _ => .lock none) v u) : RepF w (fun _ => .lock none) (.row (l.flatMap F) l.length) (.slice A l.length cap) := by
 rcases hs with ⟨rfl, e, rfl⟩ | ⟨b, o, rfl⟩
 ·have : l = [] := List.eq_nil_of_length_eq_zero e
  subst this
  exact .nil0
 ·refine repF_rowI ⟨b, o, cap, rfl, hc, ⟨fun i hi => ?_, fun hne => ⟨?_, trivial⟩⟩⟩
  ·obtain ⟨hk, e⟩ := flat_idx F n hn l hi h0
   obtain ⟨b', o', e1, _, hf⟩ := hq (i / n) hk
   injection e1 with e1
   injection e1 with e2 e3
   subst e2; subst e3
   rw [List.getElem?_eq_getElem hi] at e
   obtain ⟨u, h1, h2⟩ := hf (i % n) _ e.symm
   refine ⟨u, ?_, h2⟩
   rw [Nat.add_assoc, Nat.mul_comm, Nat.div_add_mod] at h1
   exact h1
  ·have hl : 0 < l.length := List.length_pos_iff.2 fun e => hne (by rw [e]; rfl)
   obtain ⟨b', o', e1, hb, _⟩ := hq 0 hl
   injection e1 with e1
   injection e1 with e2 e3
   subst e2
   exact hb
section
variable {H : Type} {enc : TypeId × Value → H} {w : World} {base : Nat} {spare : Nat → Bool} {held : Bool} {r : Reach} {b0 : Nat}
theorem open_strsA {A : Option Addr} {len cap : Nat} (hw : Cell.okWide Try.prog w r b0 22 (.slice A len cap)) (h : Legible enc Try.prog w base spare held 22 (.slice A len cap)) : ∃ l : List ByteArray, l.length = len ∧ len ≤ 9223372036854775807 ∧ Short l ∧ RepF w (fun _ => .lock none) (.row (l.flatMap fStr) l.length) (.slice A len cap) := by
 obtain ⟨A', len', cap', e, h1, h2, h3⟩ := row1_legible Try.underlying22 (by kernel_rfl) h
 injection e with e1 e2 e3
 subst e1; subst e2; subst e3
 obtain ⟨l, hl, hq⟩ := list_of (Q := fun i (s : ByteArray) => s.size ≤ 9223372036854775807 ∧ ∃ b off, A = some ⟨b, off, none⟩ ∧ b < w.heap.size ∧ w.cell? ⟨b, off + i, none⟩ = some (.string s)) len (fun i hi => by
  obtain ⟨b, off, e, hb, u, hu, lg⟩ := h3 i hi
  obtain ⟨s, rfl, hz⟩ := lg.str Try.underlying9
  exact ⟨s, by unfold maxLen at hz; omega, b, off, e, hb, hu⟩)
 subst hl
 refine ⟨l, rfl, by unfold maxLen at h2; omega, fun s hs => ?_, row_rep (n := 1) (fun x => rfl) (by omega) h1 (cell_slice Try.underlying22 hw) fun i hi => ?_⟩
 ·obtain ⟨i, hi, rfl⟩ := List.mem_iff_getElem.1 hs
  exact (hq i hi).1
 ·obtain ⟨_, b, off, e, hb, hu⟩ := hq i hi
  refine ⟨b, off, e, hb, fun j v hv => ?_⟩
  match j, hv with
  | 0, hv =>
   injection hv with hv
   subst hv
   exact ⟨_, by rw [Nat.mul_one, Nat.add_zero]; exact hu, .v _ rfl⟩
theorem open_secsA {A : Option Addr} {len cap : Nat} (hw : Cell.okWide Try.prog w r b0 23 (.slice A len cap)) (h : Legible enc Try.prog w base spare held 23 (.slice A len cap)) : ∃ l : List Sec, l.length = len ∧ len ≤ 9223372036854775807 ∧ Short (l.map Sec.nm) ∧ RepF w (fun _ => .lock none) (.row (l.flatMap fSec) l.length) (.slice A len cap) := by
 obtain ⟨A', len', cap', e, h1, h2, h3⟩ := rows_legible Try.underlying23 Try.underlying85 (by kernel_rfl) (by kernel_rfl) (by decide) h
 injection e with e1 e2 e3
 subst e1; subst e2; subst e3
 obtain ⟨l, hl, hq⟩ := list_of (Q := fun i (s : Sec) => s.nm.size ≤ 9223372036854775807 ∧ ∃ b off, A = some ⟨b, off, none⟩ ∧ b < w.heap.size ∧ ∀ j v, (fSec s)[j]? = some v → ∃ u, w.cell? ⟨b, off + i * 5 + j, none⟩ = some u ∧ RepF w (fun _ => .lock none) v u) len (fun i hi => by
  obtain ⟨b, off, e, hb, hf⟩ := h3 i hi
  obtain ⟨u0, c0, l0⟩ := hf 0 _ rfl
  obtain ⟨u1, c1, l1⟩ := hf 1 _ rfl
  obtain ⟨u2, c2, l2⟩ := hf 2 _ rfl
  obtain ⟨u3, c3, l3⟩ := hf 3 _ rfl
  obtain ⟨u4, c4, l4⟩ := hf 4 _ rfl
  obtain ⟨s, rfl, hz⟩ := l0.str Try.underlying9
  obtain ⟨n1, rfl, _⟩ := l1.int (k := .i64) Try.underlying3
  obtain ⟨n2, rfl, _⟩ := l2.int (k := .i64) Try.underlying3
  obtain ⟨n3, rfl, _⟩ := l3.int (k := .i64) Try.underlying3
  obtain ⟨n4, rfl, _⟩ := l4.int (k := .i64) Try.underlying3
  refine ⟨⟨s, n1, n2, n3, n4⟩, by unfold maxLen at hz; simp only; omega, b, off, e, hb, fun j v hv => ?_⟩
  match j, hv with
  | 0, hv => injection hv with hv; subst hv; exact ⟨_, c0, .v _ rfl⟩
  | 1, hv => injection hv with hv; subst hv; exact ⟨_, c1, .v _ rfl⟩
  | 2, hv => injection hv with hv; subst hv; exact ⟨_, c2, .v _ rfl⟩
  | 3, hv => injection hv with hv; subst hv; exact ⟨_, c3, .v _ rfl⟩
  | 4, hv => injection hv with hv; subst hv; exact ⟨_, c4, .v _ rfl⟩)
 subst hl
 refine ⟨l, rfl, by unfold maxLen at h2; omega, fun s hs => ?_, row_rep (n := 5) (fun x => rfl) (by omega) h1 (cell_slice Try.underlying23 hw) fun i hi => (hq i hi).2⟩
 obtain ⟨x, hx, rfl⟩ := List.mem_map.1 hs
 obtain ⟨i, hi, rfl⟩ := List.mem_iff_getElem.1 hx
 exact (hq i hi).1
theorem open_lnksA {A : Option Addr} {len cap : Nat} (hw : Cell.okWide Try.prog w r b0 24 (.slice A len cap)) (h : Legible enc Try.prog w base spare held 24 (.slice A len cap)) : ∃ l : List Lnk, l.length = len ∧ len ≤ 9223372036854775807 ∧ RepF w (fun _ => .lock none) (.row (l.flatMap fLnk) l.length) (.slice A len cap) := by
 obtain ⟨A', len', cap', e, h1, h2, h3⟩ := rows_legible Try.underlying24 Try.underlying119 (by kernel_rfl) (by kernel_rfl) (by decide) h
 injection e with e1 e2 e3
 subst e1; subst e2; subst e3
 obtain ⟨l, hl, hq⟩ := list_of (Q := fun i (s : Lnk) => ∃ b off, A = some ⟨b, off, none⟩ ∧ b < w.heap.size ∧ ∀ j v, (fLnk s)[j]? = some v → ∃ u, w.cell? ⟨b, off + i * 6 + j, none⟩ = some u ∧ RepF w (fun _ => .lock none) v u) len (fun i hi => by
  obtain ⟨b, off, e, hb, hf⟩ := h3 i hi
  obtain ⟨u0, c0, l0⟩ := hf 0 _ rfl
  obtain ⟨u1, c1, l1⟩ := hf 1 _ rfl
  obtain ⟨u2, c2, l2⟩ := hf 2 _ rfl
  obtain ⟨u3, c3, l3⟩ := hf 3 _ rfl
  obtain ⟨u4, c4, l4⟩ := hf 4 _ rfl
  obtain ⟨u5, c5, l5⟩ := hf 5 _ rfl
  obtain ⟨n0, rfl, _⟩ := l0.int (k := .i64) Try.underlying3
  obtain ⟨n1, rfl, _⟩ := l1.int (k := .i64) Try.underlying3
  obtain ⟨n2, rfl, _⟩ := l2.int (k := .i64) Try.underlying3
  obtain ⟨n3, rfl, _⟩ := l3.int (k := .i64) Try.underlying3
  obtain ⟨n4, rfl, _⟩ := l4.int (k := .i64) Try.underlying3
  obtain ⟨n5, rfl, _⟩ := l5.int (k := .i64) Try.underlying3
  refine ⟨⟨n0, n1, n2, n3, n4, n5⟩, b, off, e, hb, fun j v hv => ?_⟩
  match j, hv with
  | 0, hv => injection hv with hv; subst hv; exact ⟨_, c0, .v _ rfl⟩
  | 1, hv => injection hv with hv; subst hv; exact ⟨_, c1, .v _ rfl⟩
  | 2, hv => injection hv with hv; subst hv; exact ⟨_, c2, .v _ rfl⟩
  | 3, hv => injection hv with hv; subst hv; exact ⟨_, c3, .v _ rfl⟩
  | 4, hv => injection hv with hv; subst hv; exact ⟨_, c4, .v _ rfl⟩
  | 5, hv => injection hv with hv; subst hv; exact ⟨_, c5, .v _ rfl⟩)
 subst hl
 exact ⟨l, rfl, by unfold maxLen at h2; omega, row_rep (n := 6) (fun x => rfl) (by omega) h1 (cell_slice Try.underlying24 hw) hq⟩
theorem open_layA {v : Value} {d : DataW H} {p : List MemPlace} (hv : Value.okWide Try.prog w r b0 26 v) (h : DataW.Trod enc Try.prog w base spare held 26 v d p) : ∃ L : Lay, LayFits L ∧ ∀ l, RepA w (fun _ => .lock none) id l (vLay L).den v := by
 obtain ⟨cs, rfl, hl, hf⟩ := agg_legible Try.underlying26 (by kernel_rfl) (by kernel_rfl) hv h
 have hts : Try.prog.cellTypes Try.prog.depth 26 = some [22, 22, 23, 24] := by kernel_rfl
 match cs, hl with
 | [c0, c1, c2, c3], _ =>
  obtain ⟨u0, e0, l0⟩ := hf 0 _ rfl
  obtain ⟨u1, e1, l1⟩ := hf 1 _ rfl
  obtain ⟨u2, e2, l2⟩ := hf 2 _ rfl
  obtain ⟨u3, e3, l3⟩ := hf 3 _ rfl
  obtain rfl : c0 = u0 := by simpa using e0
  obtain rfl : c1 = u1 := by simpa using e1
  obtain rfl : c2 = u2 := by simpa using e2
  obtain rfl : c3 = u3 := by simpa using e3
  have w0 := field_wide Try.underlying26 hts hv (i := 0) (by decide) rfl (v := c0) rfl
  have w1 := field_wide Try.underlying26 hts hv (i := 1) (by decide) rfl (v := c1) rfl
  have w2 := field_wide Try.underlying26 hts hv (i := 2) (by decide) rfl (v := c2) rfl
  have w3 := field_wide Try.underlying26 hts hv (i := 3) (by decide) rfl (v := c3) rfl
  obtain ⟨A0, n0, k0, rfl, _⟩ := row1_legible Try.underlying22 (by kernel_rfl) l0
  obtain ⟨A1, n1, k1, rfl, _⟩ := row1_legible Try.underlying22 (by kernel_rfl) l1
  obtain ⟨A2, n2, k2, rfl, _⟩ := rows_legible Try.underlying23 Try.underlying85 (by kernel_rfl) (by kernel_rfl) (by decide) l2
  obtain ⟨A3, n3, k3, rfl, _⟩ := rows_legible Try.underlying24 Try.underlying119 (by kernel_rfl) (by kernel_rfl) (by decide) l3
  obtain ⟨a, rfl, za, sa, ra⟩ := open_strsA w0 l0
  obtain ⟨b, rfl, zb, sb, rb⟩ := open_strsA w1 l1
  obtain ⟨c, rfl, zc, sc, rc⟩ := open_secsA w2 l2
  obtain ⟨e, rfl, ze, re⟩ := open_lnksA w3 l3
  refine ⟨⟨a, b, c, e⟩, ⟨sa, sb, sc, za, zb, zc, ze⟩, fun l => ⟨_, rfl, rfl, fun i hi hi' => ?_⟩⟩
  match i, hi' with
  | 0, _ => exact ⟨rfl, ra⟩
  | 1, _ => exact ⟨rfl, rb⟩
  | 2, _ => exact ⟨rfl, rc⟩
  | 3, _ => exact ⟨rfl, re⟩
theorem open_rteA {v : Value} {d : DataW H} {p : List MemPlace} (hv : Value.okWide Try.prog w r b0 29 v) (h : DataW.Trod enc Try.prog w base spare held 29 v d p) : ∃ (st : List Stp) (ov : Int), st.length ≤ 9223372036854775807 ∧ (-9223372036854775808 ≤ ov ∧ ov ≤ 9223372036854775807) ∧ ∀ l, RepA w (fun _ => .lock none) id l (SV.den (.agg [rStp st, xI ov])) v := by
 obtain ⟨cs, rfl, hl, hf⟩ := agg_legible Try.underlying29 (by kernel_rfl) (by kernel_rfl) hv h
 have hts : Try.prog.cellTypes Try.prog.depth 29 = some [27, 3] := by kernel_rfl
 match cs, hl with
 | [c0, c1], _ =>
  obtain ⟨u0, e0, l0⟩ := hf 0 _ rfl
  obtain ⟨u1, e1, l1⟩ := hf 1 _ rfl
  obtain rfl : c0 = u0 := by simpa using e0
  obtain rfl : c1 = u1 := by simpa using e1
  have w0 := field_wide Try.underlying29 hts hv (i := 0) (by decide) rfl (v := c0) rfl
  obtain ⟨ov, rfl, hov⟩ := l1.int (k := .i64) Try.underlying3
  obtain ⟨A, len, cap, rfl, h1, h2, h3⟩ := rows_legible Try.underlying27 Try.underlying76 (by kernel_rfl) (by kernel_rfl) (by decide) l0
  obtain ⟨st, hz, hq⟩ := list_of (Q := fun i (s : Stp) => ∃ b off, A = some ⟨b, off, none⟩ ∧ b < w.heap.size ∧ ∀ j v, (fStp s)[j]? = some v → ∃ u, w.cell? ⟨b, off + i * 2 + j, none⟩ = some u ∧ RepF w (fun _ => .lock none) v u) len (fun i hi => by
   obtain ⟨b, off, e, hb, hf⟩ := h3 i hi
   obtain ⟨u0, c0, l0⟩ := hf 0 _ rfl
   obtain ⟨u1, c1, l1⟩ := hf 1 _ rfl
   obtain ⟨n0, rfl, _⟩ := l0.int (k := .i64) Try.underlying3
   obtain ⟨n1, rfl, _⟩ := l1.int (k := .i64) Try.underlying3
   refine ⟨⟨n0, n1⟩, b, off, e, hb, fun j v hv => ?_⟩
   match j, hv with
   | 0, hv => injection hv with hv; subst hv; exact ⟨_, c0, .v _ rfl⟩
   | 1, hv => injection hv with hv; subst hv; exact ⟨_, c1, .v _ rfl⟩)
  subst hz
  have hb : -9223372036854775808 ≤ ov ∧ ov ≤ 9223372036854775807 := by simpa [Lit.wf, IntKind.min, IntKind.max, IntKind.signed, IntKind.bits] using hov
  refine ⟨st, ov, by unfold maxLen at h2; omega, hb, fun l => ⟨_, rfl, rfl, fun i hi hi' => ?_⟩⟩
  match i, hi' with
  | 0, _ => exact ⟨rfl, row_rep (n := 2) (fun x => rfl) (by omega) h1 (cell_slice Try.underlying27 w0) hq⟩
  | 1, _ => exact ⟨rfl, .v _ rfl⟩
theorem open_stkA {v : Value} {d : DataW H} {p : List MemPlace} (hv : Value.okWide Try.prog w r b0 31 v) (h : DataW.Trod enc Try.prog w base spare held 31 v d p) : ∃ (nm : ByteArray) (l sp ac br : Int), ∀ k, RepA w (fun _ => .lock none) id k (SV.den (.agg [xS nm, xI l, xI sp, xI ac, xI br])) v := by
 obtain ⟨cs, rfl, hl, hf⟩ := agg_legible Try.underlying31 (by kernel_rfl) (by kernel_rfl) hv h
 match cs, hl with
 | [c0, c1, c2, c3, c4], _ =>
  obtain ⟨u0, e0, l0⟩ := hf 0 _ rfl
  obtain ⟨u1, e1, l1⟩ := hf 1 _ rfl
  obtain ⟨u2, e2, l2⟩ := hf 2 _ rfl
  obtain ⟨u3, e3, l3⟩ := hf 3 _ rfl
  obtain ⟨u4, e4, l4⟩ := hf 4 _ rfl
  obtain ⟨s, rfl, _⟩ := l0.str Try.underlying9
  obtain ⟨n1, rfl, _⟩ := l1.int (k := .i64) Try.underlying3
  obtain ⟨n2, rfl, _⟩ := l2.int (k := .i64) Try.underlying3
  obtain ⟨n3, rfl, _⟩ := l3.int (k := .i64) Try.underlying3
  obtain ⟨n4, rfl, _⟩ := l4.int (k := .i64) Try.underlying3
  simp at e0 e1 e2 e3 e4
  subst e0; subst e1; subst e2; subst e3; subst e4
  refine ⟨s, n1, n2, n3, n4, fun k => ⟨_, rfl, rfl, fun i hi hi' => ?_⟩⟩
  match i, hi' with
  | 0, _ => exact ⟨rfl, .v _ rfl⟩
  | 1, _ => exact ⟨rfl, .v _ rfl⟩
  | 2, _ => exact ⟨rfl, .v _ rfl⟩
  | 3, _ => exact ⟨rfl, .v _ rfl⟩
  | 4, _ => exact ⟨rfl, .v _ rfl⟩
end
end Go.Proofs.Ytalfibohepbhfaa.Av
namespace Go.Proofs.Ytalfibohepbhfaa
open Go.RowKit Av
theorem W.MotionErrors (v0 v1 v2 : Value) (a3 a4 a5 : Int) (a6 : Option Addr) (len6 cap6 : Nat) (z6 : List Int) (a7 : Int) (w : World) (L : Lay) (hL : LayFits L) (r0 : ∀ l, RepA w (fun _ => .lock none) id l (vLay L).den v0) (st : List Stp) (ov : Int) (hl : st.length ≤ 9223372036854775807) (ho : -9223372036854775808 ≤ ov ∧ ov ≤ 9223372036854775807) (r1 : ∀ l, RepA w (fun _ => .lock none) id l (SV.den (.agg [rStp st, xI ov])) v1) (nm : ByteArray) (n2 sp ac br : Int) (r2 : ∀ l, RepA w (fun _ => .lock none) id l (SV.den (.agg [xS nm, xI n2, xI sp, xI ac, xI br])) v2) (w6 : Av.IsRowI w a6 len6 cap6 z6) (s6 : ∀ x, a6 = some x → x.spot = none) :
  Calls Try.prog 3 #[v0, v1, v2, .int .i64 a3, .int .i64 a4, .int .i64 a5, .slice a6 len6 cap6, .int .i64 a7] w fun e w' => e = .returned (.bool true) ∧ Below w.heap.size w w' := by
 obtain ⟨h6, b6⟩ := Av.rowI_rep w6 s6
 refine Av.law_calls (Av.errors_ok L hL st ov hl ho nm n2 sp ac br a3 a4 a5 a7 (z6.take len6) b6) w _ rfl (fun i hi hi' l => ?_) (fun x hx => by
  simp at hx
  rcases hx with rfl | rfl | rfl | rfl | rfl | rfl | rfl | rfl <;> rfl)
 match i, hi with
 | 0, _ => exact r0 l
 | 1, _ => exact r1 l
 | 2, _ => exact r2 l
 | 3, _ => exact .v _ rfl
 | 4, _ => exact .v _ rfl
 | 5, _ => exact .v _ rfl
 | 6, _ => exact h6 l
 | 7, _ => exact .v _ rfl
end Go.Proofs.Ytalfibohepbhfaa
