/- The state of a call without addresses, and what it says of the world. -/
import Derived.Test.YthnfliopmjpdmaaAv
namespace Go.Proofs.Ythnfliopmjpdmaa.Av
set_option linter.unusedVariables false

def upd {α : Type} (f : Nat → α) (i : Nat) (x : α) (j : Nat) : α := if j = i then x else f j
theorem upd_same {α : Type} (f : Nat → α) (i : Nat) (x : α) : upd f i x i = x := by unfold upd; rw [if_pos rfl]
theorem upd_other {α : Type} (f : Nat → α) {i j : Nat} (x : α) (h : j ≠ i) : upd f i x j = f j := by unfold upd; rw [if_neg h]
structure St where
  sl : Nat → AVal
  H : List (Option (List CVal))
/-- A block that may be written holds these. -/
structure Blk (w : World) (κ : Nat → BK) (ρ : Nat → Nat) (b : Nat) (cs : List CVal) : Prop where
  own : κ (ρ b) = .wr b
  lie : ∃ c e, w.heap[ρ b]? = some (.cells c e (0, 0)) ∧ c.size = cs.length ∧ ∀ i (h : i < cs.length) (h' : i < c.size), RepC w κ ρ (.cell b i) cs[i] c[i]
structure RelH (H : List (Option (List CVal))) (w : World) (κ : Nat → BK) (ρ : Nat → Nat) : Prop where
  blk : ∀ (b : Nat) (cs : List CVal), H[b]? = some (some cs) → Blk w κ ρ b cs
  ok : ∀ (b : Nat) (cs : List CVal), H[b]? = some (some cs) → ∀ x : CVal, x ∈ cs → x.ok H.length = true
structure Rel (s : St) (a : Act) (w : World) (κ : Nat → BK) (ρ : Nat → Nat) : Prop where
  defers : a.defers = []
  slot : ∀ i (h' : i < a.tmps.size), RepA w κ ρ (.slot i) (s.sl i) a.tmps[i]
  out : ∀ i, a.tmps.size ≤ i → s.sl i = .c .any
  ok : ∀ i, (s.sl i).ok s.H.length = true
  heap : RelH s.H w κ ρ
/-- What the call may not write stays. -/
structure Fr (w : World) (κ : Nat → BK) (w' : World) (κ' : Nat → BK) : Prop where
  os : w'.os = w.os
  tape : w'.tape = w.tape
  output : w'.output = w.output
  size : w.heap.size ≤ w'.heap.size
  lock : ∀ g n, g < w.heap.size → κ g = .lock n → κ' g = .lock n ∧ w'.heap[g]? = w.heap[g]?
  grow : Grow w κ w' κ'
theorem Fr.refl (w : World) (κ : Nat → BK) : Fr w κ w κ := ⟨rfl, rfl, rfl, Nat.le_refl _, fun _ _ _ h => ⟨h, rfl⟩, Grow.refl _ _⟩
theorem Fr.trans {a b c : World} {α β γ : Nat → BK} (h : Fr a α b β) (k : Fr b β c γ) : Fr a α c γ :=
  ⟨k.os.trans h.os, k.tape.trans h.tape, k.output.trans h.output, Nat.le_trans h.size k.size, fun g n hg hl => by
    obtain ⟨h1, h2⟩ := h.lock g n hg hl
    obtain ⟨h3, h4⟩ := k.lock g n (Nat.lt_of_lt_of_le hg h.size) h1
    exact ⟨h3, h4.trans h2⟩, h.grow.trans k.grow⟩

/-- A step of the world that touches only the blocks of T. -/
structure Mv (T : Nat → Prop) (n : Nat) (w : World) (κ : Nat → BK) (ρ : Nat → Nat) (w' : World) (κ' : Nat → BK) (ρ' : Nat → Nat) : Prop where
  os : w'.os = w.os
  tape : w'.tape = w.tape
  output : w'.output = w.output
  size : w.heap.size ≤ w'.heap.size
  rho : ∀ b, b < n → ρ' b = ρ b
  off : ∀ g, g < w.heap.size → ¬ T g → w'.heap[g]? = w.heap[g]? ∧ κ' g = κ g
  cell : ∀ g o x, g < w.heap.size → T g → (κ g).fits (o + 1) → w.cell? ⟨g, o, none⟩ = some x → w'.cell? ⟨g, o, none⟩ = some x
  fits : ∀ g n, g < w.heap.size → T g → (κ g).fits n → (κ' g).fits n
  free : ∀ g n, T g → κ g ≠ .lock n
theorem cell_of_heap {w w' : World} {g o : Nat} (h : w'.heap[g]? = w.heap[g]?) : w'.cell? ⟨g, o, none⟩ = w.cell? ⟨g, o, none⟩ := World.cell?_of_block (w := w) h
section
variable {T : Nat → Prop} {n : Nat} {w w' : World} {κ κ' : Nat → BK} {ρ ρ' : Nat → Nat}
theorem Mv.grow (m : Mv T n w κ ρ w' κ' ρ') : Grow w κ w' κ' := by
  refine ⟨m.size, fun g o x hg hf hx => ?_, fun g k hg hf => ?_⟩
  · by_cases h : T g
    · exact m.cell g o x hg h hf hx
    · rw [cell_of_heap (m.off g hg h).1]; exact hx
  · by_cases h : T g
    · exact m.fits g k hg h hf
    · rw [(m.off g hg h).2]; exact hf
theorem Mv.fr (m : Mv T n w κ ρ w' κ' ρ') : Fr w κ w' κ' :=
  ⟨m.os, m.tape, m.output, m.size, fun g k hg hl => by
    have hT : ¬ T g := fun h => m.free g k h hl
    exact ⟨by rw [(m.off g hg hT).2]; exact hl, (m.off g hg hT).1⟩, m.grow⟩
theorem Mv.keep (m : Mv T n w κ ρ w' κ' ρ') {l : Loc} (hl : ∀ g k, T g → κ g ≠ .tip k l) : Keep w κ w' κ' l l :=
  ⟨m.grow, fun g k hg hk => by
    have hT : ¬ T g := fun h => hl g k h hk
    exact ⟨by rw [(m.off g hg hT).2]; exact hk, (m.off g hg hT).1⟩⟩
theorem lt_of_heap {w : World} {g : Nat} {x : Obj} (h : w.heap[g]? = some x) : g < w.heap.size := by
  rcases Nat.lt_or_ge g w.heap.size with h1 | h1
  · exact h1
  · rw [Array.getElem?_eq_none h1] at h; cases h
theorem Blk.mv (m : Mv T n w κ ρ w' κ' ρ') {b : Nat} {cs : List CVal} (hb : b < n) (hok : ∀ x ∈ cs, x.ok n = true) (hT : ¬ T (ρ b)) (hl : ∀ i g k, T g → κ g ≠ .tip k (.cell b i)) (h : Blk w κ ρ b cs) : Blk w' κ' ρ' b cs := by
  obtain ⟨ho, c, e, h1, h2, h3⟩ := h
  have hlt := lt_of_heap h1
  obtain ⟨k1, k2⟩ := m.off _ hlt hT
  refine ⟨by rw [m.rho b hb, k2]; exact ho, c, e, by rw [m.rho b hb, k1]; exact h1, h2, fun i hi hi' => ?_⟩
  exact RepC.keep m.grow m.rho (hok _ (List.getElem_mem hi)) (fun _ _ _ _ => m.keep (hl i)) (h3 i hi hi')
theorem RepA.mv (m : Mv T n w κ ρ w' κ' ρ') {l : Loc} {x : AVal} {v : Value} (hok : x.ok n = true) (hl : ∀ g k, T g → κ g ≠ .tip k l) (h : RepA w κ ρ l x v) : RepA w' κ' ρ' l x v :=
  RepA.keep m.grow m.rho hok (fun _ _ _ _ => m.keep hl) h
end

def St.put (s : St) (d : Option Tmp) (x : AVal) : St :=
  match d with
  | some d => { s with sl := upd s.sl d x }
  | none => s
/-- The slice that a slot holds is handed on. -/
def St.dem (s : St) (t : Tmp) : St := { s with sl := upd s.sl t (s.sl t).dem }
theorem Rel.put {s : St} {a : Act} {w : World} {κ : Nat → BK} {ρ : Nat → Nat} (h : Rel s a w κ ρ) {d : Option Tmp} {x : AVal} {v : Value} (hd : ∀ t, d = some t → t < a.tmps.size) (hx : ∀ t, d = some t → RepA w κ ρ (.slot t) x v) (hok : x.ok s.H.length = true) :
    Rel (s.put d x) (a.put d v) w κ ρ := by
  cases d with
  | none => exact h
  | some d =>
    refine ⟨h.defers, fun i hi' => ?_, fun i hi => ?_, fun i => ?_, h.heap⟩
    · simp only [St.put, Act.put] at hi' ⊢
      rw [Array.getElem_setIfInBounds (by simpa using hi')]
      by_cases e : d = i
      · subst e
        rw [upd_same, if_pos rfl]
        exact hx _ rfl
      · rw [upd_other _ _ (fun h => e h.symm), if_neg e]
        exact h.slot i (by simpa using hi')
    · have hi2 : a.tmps.size ≤ i := by simpa [Act.put] using hi
      simp only [St.put]
      have hne : i ≠ d := by
        intro e
        subst e
        exact absurd (hd i rfl) (Nat.not_lt.2 hi2)
      rw [upd_other _ _ hne]
      exact h.out i hi2
    · simp only [St.put]
      by_cases e : i = d
      · subst e; rw [upd_same]; exact hok
      · rw [upd_other _ _ e]; exact h.ok i
/-- Nothing that the state holds is touched. -/
theorem Rel.mv {T : Nat → Prop} {s : St} {a : Act} {w w' : World} {κ κ' : Nat → BK} {ρ ρ' : Nat → Nat} (h : Rel s a w κ ρ) (m : Mv T s.H.length w κ ρ w' κ' ρ') (hT : ∀ g, T g → False) : Rel s a w' κ' ρ' :=
  ⟨h.defers, fun i hi' => RepA.mv m (h.ok i) (fun g _ hg => (hT g hg).elim) (h.slot i hi'), h.out, h.ok,
   fun b cs hb => Blk.mv m (by rcases Nat.lt_or_ge b s.H.length with k | k; exact k; rw [List.getElem?_eq_none k] at hb; cases hb) (h.heap.ok b cs hb) (fun hg => hT _ hg) (fun _ g _ hg => (hT g hg).elim) (h.heap.blk b cs hb), h.heap.ok⟩
/-- The block of a slice that a slot holds is touched: the slot keeps its data. -/
theorem Rel.mv_slot {s : St} {a : Act} {w w' : World} {κ κ' : Nat → BK} {ρ ρ' : Nat → Nat} {g0 t k0 : Nat} (h : Rel s a w κ ρ) (m : Mv (· = g0) s.H.length w κ ρ w' κ' ρ') (hg : κ g0 = .tip k0 (.slot t)) : Rel (s.dem t) a w' κ' ρ' := by
  refine ⟨h.defers, fun i hi' => ?_, fun i hi => ?_, fun i => ?_, ⟨fun b cs hb => ?_, h.heap.ok⟩⟩
  · simp only [St.dem]
    by_cases e : i = t
    · subst e
      rw [upd_same]
      have h1 := RepA.dem (l' := .slot i) (h.slot i hi')
      refine RepA.keep m.grow m.rho (AVal.dem_ok _ (h.ok i)) (fun _ _ _ e => ?_) h1
      exfalso
      revert e
      cases s.sl i with
      | c x => cases x <;> simp [AVal.dem, CVal.dem]
      | agg cs => simp [AVal.dem]
      | tup ts => simp [AVal.dem]
    · rw [upd_other _ _ e]
      refine RepA.mv m (h.ok i) (fun g k hgg => ?_) (h.slot i hi')
      subst hgg
      rw [hg]
      intro hh
      injection hh with _ hh
      injection hh with hh
      exact e hh.symm
  · simp only [St.dem]
    by_cases e : i = t
    · subst e; rw [upd_same, h.out i hi]; rfl
    · rw [upd_other _ _ e]; exact h.out i hi
  · simp only [St.dem]
    by_cases e : i = t
    · subst e; rw [upd_same]; exact AVal.dem_ok _ (h.ok i)
    · rw [upd_other _ _ e]; exact h.ok i
  · have hb' : s.H[b]? = some (some cs) := hb
    refine Blk.mv m (by rcases Nat.lt_or_ge b s.H.length with k | k; exact k; rw [List.getElem?_eq_none k] at hb'; cases hb') (h.heap.ok b cs hb') (fun e => ?_) (fun i g k hgg => ?_) (h.heap.blk b cs hb')
    · have := (h.heap.blk b cs hb').own
      rw [e, hg] at this; cases this
    · subst hgg
      rw [hg]
      intro hh
      injection hh with _ hh
      cases hh
def hset (H : List (Option (List CVal))) (b : Nat) (cs : List CVal) : List (Option (List CVal)) := H.set b (some cs)
theorem hset_get {H : List (Option (List CVal))} {b : Nat} {cs : List CVal} {b' : Nat} {cs' : List CVal} (h : (hset H b cs)[b']? = some (some cs')) : (b' = b ∧ cs' = cs) ∨ (b' ≠ b ∧ H[b']? = some (some cs')) := by
  unfold hset at h
  by_cases e : b = b'
  · subst e
    rw [List.getElem?_set] at h
    simp at h
    exact .inl ⟨rfl, h.2.symm⟩
  · rw [List.getElem?_set_ne e] at h
    exact .inr ⟨fun h => e h.symm, h⟩
/-- A block that may be written is touched: it holds new things. -/
theorem Rel.mv_blk {s : St} {a : Act} {w w' : World} {κ κ' : Nat → BK} {ρ ρ' : Nat → Nat} {b0 : Nat} {cs cs' : List CVal} (h : Rel s a w κ ρ) (hb0 : s.H[b0]? = some (some cs)) (m : Mv (· = ρ b0) s.H.length w κ ρ w' κ' ρ') (hB : Blk w' κ' ρ' b0 cs') (hok : ∀ x ∈ cs', x.ok s.H.length = true) :
    Rel { s with H := hset s.H b0 cs' } a w' κ' ρ' := by
  have hown := (h.heap.blk b0 cs hb0).own
  have hlen : (hset s.H b0 cs').length = s.H.length := by simp [hset]
  have hno : ∀ l g k, g = ρ b0 → κ g ≠ .tip k l := by intro l g k hg; subst hg; rw [hown]; intro e; cases e
  refine ⟨h.defers, fun i hi' => RepA.mv m (h.ok i) (hno _) (h.slot i hi'), h.out, fun i => by rw [hlen]; exact h.ok i, ⟨fun b ds hb => ?_, fun b ds hb => ?_⟩⟩
  · rcases hset_get hb with ⟨rfl, rfl⟩ | ⟨hne, hb⟩
    · exact hB
    · refine Blk.mv m (by rcases Nat.lt_or_ge b s.H.length with k | k; exact k; rw [List.getElem?_eq_none k] at hb; cases hb) (h.heap.ok b ds hb) (fun e => ?_) (fun i => hno _) (h.heap.blk b ds hb)
      have h1 := (h.heap.blk b ds hb).own
      rw [e, hown] at h1
      injection h1 with h1
      exact hne h1.symm
  · rw [hlen]
    rcases hset_get hb with ⟨rfl, rfl⟩ | ⟨hne, hb⟩
    · exact hok
    · exact h.heap.ok b ds hb
/-- The block that holds a slice which grows is left; the cell keeps its data. -/
theorem Rel.mv_cell {s : St} {a : Act} {w w' : World} {κ κ' : Nat → BK} {ρ ρ' : Nat → Nat} {g0 b0 i0 k0 : Nat} {cs : List CVal} (h : Rel s a w κ ρ) (hb0 : s.H[b0]? = some (some cs)) (m : Mv (· = g0) s.H.length w κ ρ w' κ' ρ') (hg : κ g0 = .tip k0 (.cell b0 i0)) :
    Rel { s with H := hset s.H b0 (cs.modify i0 CVal.dem) } a w' κ' ρ' := by
  have hlen : (hset s.H b0 (cs.modify i0 CVal.dem)).length = s.H.length := by simp [hset]
  have hlt : ∀ {b ds}, s.H[b]? = some (some ds) → b < s.H.length := fun {b ds} hb => by rcases Nat.lt_or_ge b s.H.length with k | k; exact k; rw [List.getElem?_eq_none k] at hb; cases hb
  have hne : ∀ b ds, s.H[b]? = some (some ds) → ¬ ρ b = g0 := fun b ds hb e => by
    have := (h.heap.blk b ds hb).own
    rw [e, hg] at this; cases this
  refine ⟨h.defers, fun i hi' => RepA.mv m (h.ok i) (fun g k hgg => ?_) (h.slot i hi'), h.out, fun i => by rw [hlen]; exact h.ok i, ⟨fun b ds hb => ?_, fun b ds hb => ?_⟩⟩
  · subst hgg; rw [hg]; intro hh; injection hh with _ hh; cases hh
  · rcases hset_get hb with ⟨rfl, rfl⟩ | ⟨hnb, hb⟩
    · obtain ⟨ho, c, e, h1, h2, h3⟩ := h.heap.blk b cs hb0
      have hl1 := lt_of_heap h1
      obtain ⟨k1, k2⟩ := m.off _ hl1 (hne b cs hb0)
      refine ⟨by rw [m.rho b (hlt hb0), k2]; exact ho, c, e, by rw [m.rho b (hlt hb0), k1]; exact h1, by simpa using h2, fun i hi hi' => ?_⟩
      rw [List.length_modify] at hi
      rw [List.getElem_modify]
      have hok := h.heap.ok b cs hb0 _ (List.getElem_mem hi)
      by_cases e : i0 = i
      · rw [if_pos e]
        refine RepC.keep m.grow m.rho (CVal.dem_ok _ hok) (fun _ _ _ e => ?_) (RepC.dem (l' := .cell b i) (h3 i hi hi'))
        have := CVal.dem_flat cs[i]
        rw [e] at this; cases this
      · rw [if_neg e]
        refine RepC.keep m.grow m.rho hok (fun _ _ _ _ => m.keep (fun g k hgg => ?_)) (h3 i hi hi')
        subst hgg; rw [hg]; intro hh; injection hh with _ hh; injection hh with _ hh; exact e hh
    · refine Blk.mv m (hlt hb) (h.heap.ok b ds hb) (hne b ds hb) (fun i g k hgg => ?_) (h.heap.blk b ds hb)
      subst hgg; rw [hg]; intro hh; injection hh with _ hh; injection hh with hh _; exact hnb hh.symm
  · rw [hlen]
    rcases hset_get hb with ⟨rfl, rfl⟩ | ⟨hnb, hb⟩
    · intro x hx
      obtain ⟨i, hi, rfl⟩ := List.mem_iff_getElem.1 hx
      rw [List.getElem_modify]
      rw [List.length_modify] at hi
      have hok := h.heap.ok b cs hb0 _ (List.getElem_mem hi)
      by_cases e : i0 = i
      · rw [if_pos e]; exact CVal.dem_ok _ hok
      · rw [if_neg e]; exact hok
    · exact h.heap.ok b ds hb
/-- A cell keeps its data alone. -/
theorem Rel.dem_cell {s : St} {a : Act} {w : World} {κ : Nat → BK} {ρ : Nat → Nat} {b0 i0 : Nat} {cs : List CVal} (h : Rel s a w κ ρ) (hb0 : s.H[b0]? = some (some cs)) : Rel { s with H := hset s.H b0 (cs.modify i0 CVal.dem) } a w κ ρ := by
  have hlen : (hset s.H b0 (cs.modify i0 CVal.dem)).length = s.H.length := by simp [hset]
  refine ⟨h.defers, h.slot, h.out, fun i => by rw [hlen]; exact h.ok i, ⟨fun b ds hb => ?_, fun b ds hb => ?_⟩⟩
  · rcases hset_get hb with ⟨rfl, rfl⟩ | ⟨hnb, hb⟩
    · obtain ⟨ho, c, e, h1, h2, h3⟩ := h.heap.blk b cs hb0
      refine ⟨ho, c, e, h1, by simpa using h2, fun i hi hi' => ?_⟩
      rw [List.length_modify] at hi
      rw [List.getElem_modify]
      by_cases e : i0 = i
      · rw [if_pos e]; exact RepC.dem (h3 i hi hi')
      · rw [if_neg e]; exact h3 i hi hi'
    · exact h.heap.blk b ds hb
  · rw [hlen]
    rcases hset_get hb with ⟨rfl, rfl⟩ | ⟨hnb, hb⟩
    · intro x hx
      obtain ⟨i, hi, rfl⟩ := List.mem_iff_getElem.1 hx
      rw [List.getElem_modify]
      rw [List.length_modify] at hi
      have hok := h.heap.ok b cs hb0 _ (List.getElem_mem hi)
      by_cases e : i0 = i
      · rw [if_pos e]; exact CVal.dem_ok _ hok
      · rw [if_neg e]; exact hok
    · exact h.heap.ok b ds hb
end Go.Proofs.Ythnfliopmjpdmaa.Av
