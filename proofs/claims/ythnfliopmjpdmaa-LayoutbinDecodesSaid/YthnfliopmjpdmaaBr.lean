/- Contracts that were proved over the memory, as contracts over values without addresses. -/
import Derived.Test.YthnfliopmjpdmaaAvLay
import Derived.Test.YthnfliopmjpdmaaCheck
import Derived.Test.YthnfliopmjpdmaaRefCheck
import Derived.Test.YthnfliopmjpdmaaCrc
namespace Go.Proofs.Ythnfliopmjpdmaa.Av
open Go.RowKit
set_option linter.unusedVariables false
set_option linter.unusedSimpArgs false

/-- The value stands for r in every world. -/
def Plain (r : AVal) (v : Value) : Prop := ∀ w κ ρ l, RepA w κ ρ l r v
theorem plain_i {n : Int} {k : IntKind} : Plain (.c (.f (.v (.int k n)))) (.int k n) := fun _ _ _ _ => RepF.v _ rfl
theorem plain_s {s : ByteArray} : Plain (aS s) (.string s) := fun _ _ _ _ => RepF.v _ rfl
theorem plain_b {b : Bool} : Plain (aB b) (.bool b) := fun _ _ _ _ => RepF.v _ rfl
theorem plain_2 {a b : CVal} {u v : Value} (ha : Plain (.c a) u) (hb : Plain (.c b) v) (fa : a.flat = true) (fb : b.flat = true) : Plain (.tup [.c a, .c b]) (.tuple #[u, v]) := fun w κ ρ l => by
  refine ⟨#[u, v], rfl, rfl, fun i h h' => ?_⟩
  match i, h with
  | 0, _ => exact ⟨fa, ha w κ ρ l⟩
  | 1, _ => exact ⟨fb, hb w κ ρ l⟩
/-- A contract over the memory: nothing that was there is changed. -/
theorem ok_old {P : Program} {f : FuncId} {args : List AVal} {r : AVal} (fn : Func) (hf : P.funcs[f]? = some fn) (hb : fn.body.isSome = true) (hn : (fn.name == "runtime.NumGoroutine") = false) (hflat : Flat r = true) (hrok : r.ok 0 = true)
    (h : ∀ (w : World) (κ : Nat → BK) (ρ : Nat → Nat) (vals : Array Value), vals.size = args.length → (∀ i (h : i < args.length) (h' : i < vals.size) l, RepA w κ ρ l args[i] vals[i]) → ∃ v, Plain r v ∧ Calls P f vals w fun e w' => e = .returned v ∧ Below w.heap.size w w') : Ok P f args [] r [] := by
  refine ⟨⟨fn, hf, hb, hn⟩, flat_dem hflat, hrok, Nat.le_refl _, fun w κ ρ vals hs hr hok hH => ?_⟩
  obtain ⟨v, hp, hc⟩ := h w κ ρ vals hs hr
  refine hc.mono ?_
  rintro e w' ⟨rfl, hB⟩
  refine ⟨v, fun g => if g < w.heap.size then κ g else .lock none, ρ, rfl, fun l => hp _ _ _ l, ⟨fun b cs h => by simp at h, fun b cs h => by simp at h⟩, ⟨hB.os, hB.tape, hB.output, hB.size, fun g n hg hl => ⟨by rw [if_pos hg]; exact hl, hB.block g hg⟩, ⟨hB.size, fun g o x hg _ hx => ?_, fun g n hg hf => by rw [if_pos hg]; exact hf⟩⟩, fun _ _ => rfl⟩
  rw [World.cell?_of_block (w := w) (a := ⟨g, o, none⟩) (hB.block g hg)]
  exact hx

theorem flatMap_at {α β : Type} (F : α → List β) (n : Nat) (hn : ∀ x, (F x).length = n) : ∀ (l : List α) (k j : Nat) (hk : k < l.length) (hj : j < n), (l.flatMap F)[k * n + j]? = (F l[k])[j]?
  | x :: l, 0, j, _, hj => by
    simp only [List.flatMap_cons, Nat.zero_mul, Nat.zero_add, List.getElem_cons_zero]
    rw [List.getElem?_append_left (by rw [hn]; exact hj)]
  | x :: l, k + 1, j, hk, hj => by
    simp only [List.flatMap_cons, List.getElem_cons_succ]
    have e : (k + 1) * n + j = n + (k * n + j) := by rw [Nat.succ_mul]; omega
    rw [e, List.getElem?_append_right (by rw [hn]; omega), hn, Nat.add_sub_cancel_left]
    exact flatMap_at F n hn l k j (by simpa using hk) hj
theorem rdf_of_row {α : Type} (n : Nat) (f : α → List Value) (F : α → List FVal) (hF : ∀ x, F x = (f x).map FVal.v) (hn : ∀ x, (f x).length = n) (hpos : 0 < n) {w : World} {κ : Nat → BK} {l : List α} {v : Value} (h : RepF w κ (.row (l.flatMap F) l.length) v) :
    ∃ A c, v = .slice A l.length c ∧ RdF n f w A l ∧ l.length ≤ c := by
  have hnF : ∀ x, (F x).length = n := fun x => by rw [hF, List.length_map, hn]
  rcases repF_row.1 h with ⟨g, o, cap, rfl, hle, hrow⟩ | ⟨h1, h2, rfl⟩
  · refine ⟨_, cap, rfl, fun k hk => ⟨g, o, rfl, ?_, fun j u hj => ?_⟩, hle⟩
    · refine (hrow.fits fun e => ?_).1
      have := flatMap_len F n hnF l
      rw [e] at this
      have h0 : 0 < l.length * n := Nat.mul_pos (by omega) hpos
      simp at this; omega
    · have hjn : j < n := by rw [← hn l[k]]; exact (List.getElem?_eq_some_iff.1 hj).1
      have hlt : k * n + j < (l.flatMap F).length := by
        rw [flatMap_len F n hnF]
        have : (k + 1) * n ≤ l.length * n := Nat.mul_le_mul_right _ (by omega)
        rw [Nat.succ_mul] at this
        omega
      obtain ⟨y, hy1, hy2⟩ := hrow.cell (k * n + j) hlt
      have e1 := flatMap_at F n hnF l k j hk hjn
      rw [List.getElem?_eq_getElem hlt, hF, List.getElem?_map, hj] at e1
      injection e1 with e1
      rw [e1] at hy2
      rw [show o + k * n + j = o + (k * n + j) by omega, hy1, (repF_v.1 hy2).1]
  · have hl : l = [] := List.eq_nil_of_length_eq_zero h2
    subst hl
    exact ⟨none, 0, rfl, fun k hk => by simp at hk, Nat.le_refl _⟩

/-- What a layout's sizes are: as a machine's. -/
structure LayFits (L : Lay) : Prop where
  s1 : Short L.sts
  s2 : Short L.pts
  s3 : Short (L.secs.map Sec.nm)
  m1 : L.sts.length ≤ 9223372036854775807
  m2 : L.pts.length ≤ 9223372036854775807
  m3 : L.secs.length ≤ 9223372036854775807
  m4 : L.lnks.length ≤ 9223372036854775807
theorem lay_rd {w : World} {κ : Nat → BK} {ρ : Nat → Nat} {l : Loc} {L : Lay} {v : Value} (hL : LayFits L) (h : RepA w κ ρ l (aLay L) v) : ∃ V : LayV, v = .agg #[.slice V.A1 L.sts.length V.c1, .slice V.A2 L.pts.length V.c2, .slice V.A3 L.secs.length V.c3, .slice V.A4 L.lnks.length V.c4] ∧ RdLay w V L := by
  obtain ⟨vs, rfl, hs, hi⟩ := h
  have hs' : vs.size = 4 := hs
  obtain ⟨A1, c1, e1, r1, n1⟩ := rdf_of_row 1 strF fStr (fun x => rfl) (fun x => rfl) (by omega) (hi 0 (by simp [cLay]) (by omega)).2
  obtain ⟨A2, c2, e2, r2, n2⟩ := rdf_of_row 1 strF fStr (fun x => rfl) (fun x => rfl) (by omega) (hi 1 (by simp [cLay]) (by omega)).2
  obtain ⟨A3, c3, e3, r3, n3⟩ := rdf_of_row 5 secF fSec (fun x => rfl) (fun x => rfl) (by omega) (hi 2 (by simp [cLay]) (by omega)).2
  obtain ⟨A4, c4, e4, r4, n4⟩ := rdf_of_row 6 lnkF fLnk (fun x => rfl) (fun x => rfl) (by omega) (hi 3 (by simp [cLay]) (by omega)).2
  refine ⟨⟨A1, c1, A2, c2, A3, c3, A4, c4⟩, ?_, r1, r2, r3, r4, hL.s1, hL.s2, hL.s3, n1, n2, n3, n4, hL.m1, hL.m2, hL.m3, hL.m4⟩
  congr 1
  apply Array.ext
  · exact hs'
  · intro i h1 h2
    match i, h2 with
    | 0, _ => exact e1
    | 1, _ => exact e2
    | 2, _ => exact e3
    | 3, _ => exact e4
theorem one_arg {vals : Array Value} (h : vals.size = 1) : vals = #[vals[0]] := by
  apply Array.ext
  · simp [h]
  · intro i h1 h2
    match i, h2 with
    | 0, _ => rfl
theorem check_ok (L : Lay) (hL : LayFits L) : Ok Try.prog 22 [aLay L] [] (i64 (layErr L)) [] := by
  refine ok_old _ Try.func22 (by kernel_rfl) (by kernel_rfl) rfl rfl fun w κ ρ vals hs hr => ⟨_, plain_i, ?_⟩
  have hs : vals.size = 1 := hs
  obtain ⟨V, hv, hR⟩ := lay_rd hL (hr 0 (by simp) (by omega) (.slot 0))
  rw [one_arg hs, hv]
  exact layCheck_any V L w hR
theorem refCheck_ok (L : Lay) (hL : LayFits L) : Ok Try.prog 27 [aLay L] [] (i64 (layErr L)) [] := by
  refine ok_old _ Try.func27 (by kernel_rfl) (by kernel_rfl) rfl rfl fun w κ ρ vals hs hr => ⟨_, plain_i, ?_⟩
  have hs : vals.size = 1 := hs
  obtain ⟨V, hv, hR⟩ := lay_rd hL (hr 0 (by simp) (by omega) (.slot 0))
  rw [one_arg hs, hv]
  exact refCheckLay_any V L w hR
theorem sum_ok (s : ByteArray) (hs : s.size ≤ 9223372036854775807) : Ok Try.prog 12 [aS s] [] (.c (.f (.v (.int .u32 (Pl.crc s.data.toList : Nat))))) [] := by
  refine ok_old _ Try.func12 (by kernel_rfl) (by kernel_rfl) rfl rfl fun w κ ρ vals hv hr => ⟨_, plain_i, ?_⟩
  have hv : vals.size = 1 := hv
  have h0 : vals[0] = .string s := (repF_v.1 (hr 0 (by simp) (by omega) (.slot 0))).1
  rw [one_arg hv, h0]
  exact (sum_any s w hs).mono fun e w' ⟨h1, h2⟩ => ⟨h1, by subst h2; exact Below.refl _ _⟩
theorem refCrc_ok (s : ByteArray) (hs : s.size ≤ 9223372036854775807) : Ok Try.prog 19 [aS s] [] (.c (.f (.v (.int .u32 (Pl.crc s.data.toList : Nat))))) [] := by
  refine ok_old _ Try.func19 (by kernel_rfl) (by kernel_rfl) rfl rfl fun w κ ρ vals hv hr => ⟨_, plain_i, ?_⟩
  have hv : vals.size = 1 := hv
  have h0 : vals[0] = .string s := (repF_v.1 (hr 0 (by simp) (by omega) (.slot 0))).1
  rw [one_arg hv, h0]
  exact (refCrc_any s w hs).mono fun e w' ⟨h1, h2⟩ => ⟨h1, by subst h2; exact Below.refl _ _⟩
theorem awake_ok : Ok Try.prog 16 [] [] (aB true) [] := by
  refine ok_old _ Try.func16 (by kernel_rfl) (by kernel_rfl) rfl rfl fun w κ ρ vals hv hr => ⟨_, plain_b, ?_⟩
  have hv : vals = #[] := Array.eq_empty_of_size_eq_zero hv
  rw [hv]
  exact (awake_any w).mono fun e w' ⟨h1, h2⟩ => ⟨h1, by subst h2; exact Below.refl _ _⟩
end Go.Proofs.Ythnfliopmjpdmaa.Av
