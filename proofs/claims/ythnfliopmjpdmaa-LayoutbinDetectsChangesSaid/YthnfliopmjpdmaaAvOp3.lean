/- Operations on values without addresses: new blocks and stores. -/
import Derived.Test.YthnfliopmjpdmaaAvOp2
import Derived.Laws.MakeOwn
namespace Go.Proofs.Ythnfliopmjpdmaa.Av
set_option linter.unusedVariables false

/-- It is the value of one cell. -/
def CVal.one : CVal → Bool
  | .any => false
  | .und => false
  | _ => true
theorem CVal.one_rep {w : World} {κ : Nat → BK} {ρ : Nat → Nat} {l : Loc} : ∀ {x : CVal} {v : Value}, RepC w κ ρ l x v → x.one = true → v.oneCell' = true
  | .f x, v, h, e => RepF.one h
  | .ip .., v, h, e => by obtain ⟨g, o, rfl, _⟩ := h; rfl
  | .ptr .., v, h, e => by have h : v = _ := h; rw [h]; rfl
  | .arr .., v, h, e => by have h : v = _ := h; rw [h]; rfl
  | .tip .., v, h, e => by obtain ⟨g, cap, rfl, _⟩ | ⟨_, _, rfl⟩ := h <;> rfl
  | .und, _, _, e => by cases e
  | .any, _, _, e => by cases e
def AVal.cells : AVal → Option (List CVal)
  | .c x => if x.one then some [x] else none
  | .agg cs => if cs.all CVal.one then some cs else none
  | .tup _ => none
/-- The cells of a value stand for these. -/
structure CellsRep (w : World) (κ : Nat → BK) (ρ : Nat → Nat) (cs : List CVal) (vs : Array Value) : Prop where
  size : vs.size = cs.length
  flat : ∀ x ∈ cs, x.flat = true
  rep : ∀ l i (h : i < cs.length) (h' : i < vs.size), RepC w κ ρ l cs[i] vs[i]
  one : ∀ i (h : i < vs.size), vs[i].oneCell' = true
theorem cells_one {v : Value} (h : v.oneCell' = true) : v.cells = #[v] := by cases v <;> first | rfl | cases h
theorem AVal.cells_rep {w : World} {κ : Nat → BK} {ρ : Nat → Nat} {l : Loc} {x : AVal} {v : Value} {cs : List CVal} (h : RepA w κ ρ l x.dem v) (e : x.dem.cells = some cs) : CellsRep w κ ρ cs v.cells := by
  cases x with
  | c x =>
    simp only [AVal.dem, AVal.cells] at e
    split at e
    · rename_i h1
      injection e with e
      subst e
      have h2 := CVal.one_rep h h1
      rw [cells_one h2]
      refine ⟨rfl, fun y hy => ?_, fun l' i hi hi' => ?_, fun i hi => ?_⟩
      · rw [List.mem_singleton.1 hy]; exact CVal.dem_flat x
      · have : i = 0 := by simp at hi; exact hi
        subst this
        exact RepC.loc (CVal.dem_flat x) h
      · have : i = 0 := by simp at hi; exact hi
        subst this
        exact h2
    · cases e
  | agg cs' =>
    simp only [AVal.dem, AVal.cells] at e
    split at e
    · rename_i h1
      injection e with e
      subst e
      obtain ⟨vs, rfl, hs, hr⟩ := h
      refine ⟨hs, fun y hy => ?_, fun l' i hi hi' => ?_, fun i hi => ?_⟩
      · obtain ⟨i, hi, rfl⟩ := List.mem_iff_getElem.1 hy
        exact (hr i hi (by omega)).1
      · exact (hr i hi hi').2.loc (hr i hi hi').1
      · have hi' : i < cs'.length := by have : i < vs.size := hi; omega
        exact CVal.one_rep (hr i hi' hi).2 (List.all_eq_true.1 h1 _ (List.getElem_mem hi'))
    · cases e
  | tup ts => simp [AVal.dem, AVal.cells] at e
theorem AVal.cells_ok {n : Nat} {x : AVal} {cs : List CVal} (h : x.ok n = true) (e : x.dem.cells = some cs) : ∀ y ∈ cs, y.ok n = true := by
  cases x with
  | c x =>
    simp only [AVal.dem, AVal.cells] at e
    split at e
    · injection e with e
      subst e
      intro y hy
      rw [List.mem_singleton.1 hy]
      exact CVal.dem_ok x h
    · cases e
  | agg cs' =>
    simp only [AVal.dem, AVal.cells] at e
    split at e
    · injection e with e
      subst e
      exact List.all_eq_true.1 h
    · cases e
  | tup ts => simp [AVal.dem, AVal.cells] at e

/-! ### New blocks -/
theorem alloc_heap (w : World) (o : Obj) (g : Nat) : (w.alloc o).heap[g]? = if g = w.heap.size then some o else w.heap[g]? := by
  show (w.heap.push o)[g]? = _
  rw [Array.getElem?_push]
theorem alloc_size (w : World) (o : Obj) : (w.alloc o).heap.size = w.heap.size + 1 := by show (w.heap.push o).size = _; simp
theorem mv_alloc (n : Nat) (w : World) (κ : Nat → BK) (ρ : Nat → Nat) (o : Obj) (k : BK) (ρ' : Nat → Nat) (hρ : ∀ b, b < n → ρ' b = ρ b) : Mv (fun _ => False) n w κ ρ (w.alloc o) (upd κ w.heap.size k) ρ' :=
  ⟨rfl, rfl, rfl, by rw [alloc_size]; omega, hρ, fun g hg _ => ⟨by rw [alloc_heap, if_neg (by omega)], upd_other _ _ (by omega)⟩, fun _ _ _ _ h => h.elim, fun _ _ _ h => h.elim, fun _ _ h => h.elim⟩
/-- A new block that may be written. -/
theorem Rel.new {s : St} {a : Act} {w : World} {κ : Nat → BK} {ρ : Nat → Nat} (h : Rel s a w κ ρ) {cs : List CVal} {c : Array Value} (e : TypeId) (hc : CellsRep w κ ρ cs c) (hok : ∀ x ∈ cs, x.ok s.H.length = true) :
    Rel { s with H := s.H ++ [some cs] } a (w.alloc (.cells c e)) (upd κ w.heap.size (.wr s.H.length)) (upd ρ s.H.length w.heap.size) := by
  have m := mv_alloc s.H.length w κ ρ (.cells c e) (.wr s.H.length) (upd ρ s.H.length w.heap.size) (fun b hb => upd_other _ _ (by omega))
  have hR := h.mv m (fun _ h => h)
  have hlen : (s.H ++ [some cs]).length = s.H.length + 1 := by simp
  refine ⟨hR.defers, hR.slot, hR.out, fun i => AVal.ok_le (by rw [hlen]; omega) _ (hR.ok i), ⟨fun b ds hb => ?_, fun b ds hb => ?_⟩⟩
  · rcases Nat.lt_or_ge b s.H.length with hlt | hge
    · have hb' : s.H[b]? = some (some ds) := by rwa [List.getElem?_append_left hlt] at hb
      exact hR.heap.blk b ds hb'
    · have hbe : b = s.H.length := by
        rcases Nat.lt_or_ge b (s.H ++ [some cs]).length with k | k
        · rw [hlen] at k; omega
        · rw [List.getElem?_eq_none k] at hb; cases hb
      subst hbe
      rw [List.getElem?_append_right (Nat.le_refl _)] at hb
      simp at hb
      subst hb
      refine ⟨by rw [upd_same, upd_same], c, e, by rw [upd_same, alloc_heap, if_pos rfl], hc.size, fun i hi hi' => ?_⟩
      exact RepC.keep m.grow m.rho (hok _ (List.getElem_mem hi)) (fun _ _ _ e => by have := hc.flat _ (List.getElem_mem hi); rw [e] at this; cases this) (hc.rep (.cell s.H.length i) i hi hi')
  · intro x hx
    rw [hlen]
    rcases Nat.lt_or_ge b s.H.length with hlt | hge
    · have hb' : s.H[b]? = some (some ds) := by rwa [List.getElem?_append_left hlt] at hb
      exact CVal.ok_le (by omega) _ (h.heap.ok b ds hb' x hx)
    · have hbe : b = s.H.length := by
        rcases Nat.lt_or_ge b (s.H ++ [some cs]).length with k | k
        · rw [hlen] at k; omega
        · rw [List.getElem?_eq_none k] at hb; cases hb
      subst hbe
      rw [List.getElem?_append_right (Nat.le_refl _)] at hb
      simp at hb
      subst hb
      exact CVal.ok_le (by omega) _ (hok x hx)
def zeroC (P : Program) (t : TypeId) : Option (List CVal) :=
  match P.info? t with
  | some i => match i.zero with
    | some z => if z.cells.toList.all Value.oneCell' then some (z.cells.toList.map ofC) else none
    | none => none
  | none => none
theorem zeroC_of {P : Program} {t : TypeId} {cs : List CVal} (h : zeroC P t = some cs) : ∃ i z, P.info? t = some i ∧ i.zero = some z ∧ cs = z.cells.toList.map ofC ∧ ∀ v ∈ z.cells, v.oneCell' = true := by
  unfold zeroC at h
  split at h
  · rename_i i hi
    split at h
    · rename_i z hz
      split at h
      · rename_i h1
        injection h with h
        exact ⟨i, z, hi, hz, h.symm, fun v hv => List.all_eq_true.1 h1 v (Array.mem_toList_iff.2 hv)⟩
      · cases h
    · cases h
  · cases h
theorem cellsRep_ofC {w : World} {κ : Nat → BK} {ρ : Nat → Nat} (vs : Array Value) (h1 : ∀ v ∈ vs, v.oneCell' = true) : CellsRep w κ ρ (vs.toList.map ofC) vs :=
  ⟨by simp, fun x hx => by obtain ⟨z, _, rfl⟩ := List.mem_map.1 hx; exact ofC_flat z, fun l i hi hi' => by rw [List.getElem_map, Array.getElem_toList]; exact repC_ofC _, fun i hi => h1 _ (Array.getElem_mem hi)⟩
theorem map_ofC_ok (n : Nat) (vs : List Value) : ∀ x ∈ vs.map ofC, x.ok n = true := fun x hx => by obtain ⟨z, _, rfl⟩ := List.mem_map.1 hx; exact ofC_ok n z
def aAlloc (P : Program) (s : St) (t : TypeId) : Option (AVal × Chg) :=
  match zeroC P t with
  | some cs => some (.c (.ptr s.H.length 0), { new := some cs })
  | none => none
theorem Sim.new {P : Program} {s : St} {o : Oper} {cs : List CVal}
    (h : ∀ a w κ ρ, Rel s a w κ ρ → ∃ c e, (execOp a.eval o).run P w = .ok (.value (.pointer (some ⟨w.heap.size, 0, none⟩))) (w.alloc (.cells c e)) ∧ CellsRep w κ ρ cs c ∧ ∀ x ∈ cs, x.ok s.H.length = true) : Sim P o s (.c (.ptr s.H.length 0)) { new := some cs } := by
  intro a w κ ρ hR
  obtain ⟨c, e, h1, h2, h3⟩ := h a w κ ρ hR
  refine ⟨_, _, _, _, .inl h1, hR.new e h2 h3, fun d _ => ?_, ?_, (mv_alloc s.H.length w κ ρ (.cells c e) _ ρ (fun _ _ => rfl)).fr, fun b hb => upd_other _ _ (by omega)⟩
  · show _ = _
    rw [upd_same]
  · simp [AVal.ok, CVal.ok, St.chg, St.demO, St.blkO, St.newO]
theorem aAlloc_sim {P : Program} {s : St} {o : Oper} {t : TypeId} {r : AVal} {ch : Chg} (ho : o.op = .alloc t) (h : aAlloc P s t = some (r, ch)) : Sim P o s r ch := by
  unfold aAlloc at h
  split at h
  · rename_i cs hz
    injection h with h; injection h with e1 e2; subst e1; subst e2
    obtain ⟨i, z, hi, hz2, rfl, h1⟩ := zeroC_of hz
    refine Sim.new fun a w κ ρ hR => ⟨z.cells, t, ?_, cellsRep_ofC _ h1, map_ofC_ok _ _⟩
    simp [execOp, ho, Instr.alloc, zeroValue, typeInfo, hi, hz2, newVar, newRow]
  · cases h
def aBox (s : St) (x : Operand) : Option (AVal × Chg) :=
  match (s.ev x).dem.cells with
  | some cs => some (.c (.ptr s.H.length 0), { new := some cs })
  | none => none
theorem aBox_sim {P : Program} {s : St} {o : Oper} {t : TypeId} {x : Operand} {r : AVal} {ch : Chg} (ho : o.op = .box t x) (h : aBox s x = some (r, ch)) : Sim P o s r ch := by
  unfold aBox at h
  split at h
  · rename_i cs hc
    injection h with h; injection h with e1 e2; subst e1; subst e2
    refine Sim.new fun a w κ ρ hR => ⟨(a.eval x).cells, t, ?_, AVal.cells_rep (hR.ev (l := .slot 0) x) hc, AVal.cells_ok (hR.ev_ok x) hc⟩
    simp [execOp, ho, Instr.box, newVar, newRow]
  · cases h

/-! ### Stores -/
def setAt : List CVal → Nat → List CVal → List CVal
  | cs, _, [] => cs
  | cs, o, d :: ds => setAt (cs.set o d) (o + 1) ds
theorem setAt_length : ∀ (ds cs : List CVal) (o : Nat), (setAt cs o ds).length = cs.length
  | [], _, _ => rfl
  | d :: ds, cs, o => by rw [setAt, setAt_length ds, List.length_set]
theorem setAt_get : ∀ (ds cs : List CVal) (o i : Nat) (h : i < cs.length) (h' : i < (setAt cs o ds).length), (setAt cs o ds)[i] = if hh : o ≤ i ∧ i < o + ds.length then ds[i - o]'(by omega) else cs[i]
  | [], cs, o, i, h, h' => by
    rw [dif_neg (by simp only [List.length_nil]; omega)]
    rfl
  | d :: ds, cs, o, i, h, h' => by
    have ih := setAt_get ds (cs.set o d) (o + 1) i (by simpa using h) (by simpa [setAt] using h')
    show (setAt (cs.set o d) (o + 1) ds)[i] = _
    rw [ih]
    by_cases h1 : o + 1 ≤ i ∧ i < o + 1 + ds.length
    · rw [dif_pos h1, dif_pos (by simp only [List.length_cons]; omega)]
      have : i - o = (i - (o + 1)) + 1 := by omega
      simp [this]
    · rw [dif_neg h1, List.getElem_set]
      by_cases h2 : o = i
      · rw [if_pos h2, dif_pos (by simp only [List.length_cons]; omega)]
        have : i - o = 0 := by omega
        simp [this]
      · rw [if_neg h2, dif_neg (by simp only [List.length_cons]; omega)]
theorem setCells_other : ∀ (vs : List Value) (w : World) (g o j : Nat), j ≠ g → (w.setCells g o vs).heap[j]? = w.heap[j]?
  | [], _, _, _, _, _ => rfl
  | v :: vs, w, g, o, j, h => by
    rw [World.setCells, setCells_other vs _ g (o + 1) j h, Go.RowKit.Below.heap_setCell _ _ _ _ h]
theorem setCells_same : ∀ (vs : List Value) (w : World) (g o : Nat) (c : Array Value) (e : TypeId) (f : Nat × Nat), w.heap[g]? = some (.cells c e f) →
    ∃ c' : Array Value, (w.setCells g o vs).heap[g]? = some (.cells c' e f) ∧ c'.size = c.size ∧ ∀ i (h : i < c.size) (h' : i < c'.size), c'[i] = if hh : o ≤ i ∧ i < o + vs.length then vs[i - o]'(by omega) else c[i]
  | [], w, g, o, c, e, f, h => ⟨c, h, rfl, fun i hi hi' => by rw [dif_neg (by simp only [List.length_nil]; omega)]⟩
  | v :: vs, w, g, o, c, e, f, h => by
    have h1 : (w.setCell ⟨g, o, none⟩ v).heap[g]? = some (.cells (c.setIfInBounds o v) e f) := by
      simp only [World.setCell, Array.getElem?_modify]
      simp [h]
    obtain ⟨c', h2, h3, h4⟩ := setCells_same vs _ g (o + 1) _ e f h1
    refine ⟨c', h2, by simpa using h3, fun i hi hi' => ?_⟩
    rw [h4 i (by simpa using hi) hi']
    by_cases k : o + 1 ≤ i ∧ i < o + 1 + vs.length
    · rw [dif_pos k, dif_pos (by simp only [List.length_cons]; omega)]
      have : i - o = (i - (o + 1)) + 1 := by omega
      simp [this]
    · rw [dif_neg k, Array.getElem_setIfInBounds (by simpa using hi)]
      by_cases h2 : o = i
      · rw [if_pos h2, dif_pos (by simp only [List.length_cons]; omega)]
        have : i - o = 0 := by omega
        simp [this]
      · rw [if_neg h2, dif_neg (by simp only [List.length_cons]; omega)]
theorem setCells_rest : ∀ (vs : List Value) (w : World) (g o : Nat), (w.setCells g o vs).os = w.os ∧ (w.setCells g o vs).tape = w.tape ∧ (w.setCells g o vs).output = w.output ∧ (w.setCells g o vs).heap.size = w.heap.size
  | [], _, _, _ => ⟨rfl, rfl, rfl, rfl⟩
  | v :: vs, w, g, o => by
    obtain ⟨h1, h2, h3, h4⟩ := setCells_rest vs (w.setCell ⟨g, o, none⟩ v) g (o + 1)
    exact ⟨h1, h2, h3, h4.trans (by simp [World.setCell])⟩
/-- A store into a block that may be written is a step that touches it alone. -/
theorem mv_store {n : Nat} {w : World} {κ : Nat → BK} {ρ : Nat → Nat} {g b : Nat} (hg : κ g = .wr b) (o : Nat) (vs : List Value) : Mv (· = g) n w κ ρ (w.setCells g o vs) κ ρ := by
  obtain ⟨h1, h2, h3, h4⟩ := setCells_rest vs w g o
  refine ⟨h1, h2, h3, by rw [h4]; exact Nat.le_refl _, fun _ _ => rfl, fun j _ hj => ⟨setCells_other vs w g o j hj, rfl⟩, fun j p x hj hT hf => ?_, fun _ _ _ _ h => h, fun j m hT => ?_⟩
  · subst hT; rw [hg] at hf; simp [BK.fits] at hf
  · subst hT; rw [hg]; intro e; cases e
theorem Blk.store {w : World} {κ : Nat → BK} {ρ : Nat → Nat} {b : Nat} {cs ds : List CVal} (h : Blk w κ ρ b cs) (n : Nat) (hb : b < n) (hok : ∀ x ∈ cs, x.ok n = true) (off : Nat) {vs : Array Value}
    (hs : vs.size = ds.length) (hokd : ∀ x ∈ ds, x.ok n = true) (hr : ∀ i (h : i < ds.length) (h' : i < vs.size), RepC w κ ρ (.cell b (off + i)) ds[i] vs[i]) :
    Blk (w.setCells (ρ b) off vs.toList) κ ρ b (setAt cs off ds) := by
  have hown := h.own
  have m := mv_store (n := n) (w := w) (ρ := ρ) hown off vs.toList
  obtain ⟨_, c, e, h1, h2, h3⟩ := h
  obtain ⟨c', k1, k2, k3⟩ := setCells_same vs.toList w (ρ b) off c e (0, 0) h1
  have hno : ∀ i g k, g = ρ b → κ g ≠ .tip k (.cell b i) := by intro i g k hg; subst hg; rw [hown]; intro e; cases e
  refine ⟨hown, c', e, k1, by rw [k2, h2, setAt_length], fun i hi hi' => ?_⟩
  rw [setAt_length] at hi
  rw [setAt_get ds cs off i hi, k3 i (by omega)]
  by_cases hh : off ≤ i ∧ i < off + ds.length
  · rw [dif_pos hh, dif_pos (by simp; omega)]
    have := hr (i - off) (by omega) (by omega)
    rw [show off + (i - off) = i by omega] at this
    have hx := hokd _ (List.getElem_mem (show i - off < ds.length by omega))
    rw [Array.getElem_toList]
    exact RepC.keep m.grow m.rho hx (fun _ _ _ _ => m.keep (hno i)) this
  · rw [dif_neg hh, dif_neg (by simp; omega)]
    exact RepC.keep m.grow m.rho (hok _ (List.getElem_mem hi)) (fun _ _ _ _ => m.keep (hno i)) (h3 i hi (by omega))
theorem Blk.there {w : World} {κ : Nat → BK} {ρ : Nat → Nat} {b : Nat} {cs : List CVal} (h : Blk w κ ρ b cs) (off n : Nat) (hn : off + n ≤ cs.length) : w.there (ρ b) off n := by
  obtain ⟨_, c, e, h1, h2, h3⟩ := h
  intro j hj
  have : off + j < c.size := by omega
  simp [World.cell?, World.frozen?, h1, this]
theorem run_storeAt_cells {P : Program} (w : World) (g o : Nat) (t : TypeId) {b : Bool} {n : Nat} (ht : tsz P t = some (b, n)) (v : Value) (hn : v.cells.size = n) (hth : w.there g o n) (h1 : ∀ i (h : i < v.cells.size), v.cells[i].oneCell' = true) :
    (Instr.storeAt t (.pointer (some ⟨g, o, none⟩)) v).run P w = .ok () (w.setCells g o v.cells.toList) := by
  obtain ⟨d, i, hu, hi, h3, h4⟩ := tsz_of ht
  have := run_storeCells_cells (P := P) g o v.cells.toList 0 w (fun j hj => by simpa using (hth j (by simp at hj; omega)).1) (fun j hj => by simpa using (hth j (by simp at hj; omega)).2)
    (fun u hu => by
      obtain ⟨j, hj, rfl⟩ := List.mem_iff_getElem.1 hu
      rw [Array.getElem_toList]
      exact h1 j (by simpa using hj))
  simp only [Nat.add_zero] at this
  simp [Instr.storeAt, Instr.sureAddr, storeVar, sizeOf, typeInfo, program, Sem.run, hi, h4, hn, this]
/-- The slot that holds a slice which grows. -/
def holds (s : St) : Operand → Option (Tmp × Nat × List FVal × Nat)
  | .tmp u => match s.ev (.tmp u) with
    | .c (.tip sz cs len) => some (u, sz, cs, len)
    | _ => none
  | _ => none
theorem holds_of {s : St} {y : Operand} {u sz : Nat} {cs : List FVal} {len : Nat} (h : holds s y = some (u, sz, cs, len)) : y = .tmp u ∧ s.ev (.tmp u) = .c (.tip sz cs len) := by
  unfold holds at h
  split at h
  · rename_i t
    split at h
    · rename_i sz' cs' len' he
      injection h with h; injection h with e1 e2; injection e2 with e2 e3; injection e3 with e3 e4
      subst e1; subst e2; subst e3; subst e4
      exact ⟨rfl, he⟩
    · cases h
  · cases h
def aStore (P : Program) (s : St) (t : TypeId) (x y : Operand) : Option (AVal × Chg) :=
  match tsz P t, s.ev x with
  | some (_, n), .c (.ptr b off) => match s.H[b]? with
    | some (some cells) => match holds s y with
      | some (u, sz, cs, len) => if n = 1 ∧ off < cells.length then some (.c .any, { dem := some u, blk := some (b, cells.set off (.tip sz cs len)) }) else none
      | none => match (s.ev y).dem.cells with
        | some ds => if ds.length = n ∧ off + n ≤ cells.length then some (.c .any, { blk := some (b, setAt cells off ds) }) else none
        | none => none
    | _ => none
  | _, _ => none
theorem exec_store {P : Program} {ev : Operand → Value} {o : Oper} {t : TypeId} {x y : Operand} (ho : o.op = .store t x y) {w w' : World} (h : (Instr.storeAt t (ev x) (ev y)).run P w = .ok () w') : (execOp ev o).run P w = .ok .skip w' := by
  simp [execOp, ho, h]
theorem H_lt {H : List (Option (List CVal))} {b : Nat} {cs : List CVal} (h : H[b]? = some (some cs)) : b < H.length := by
  rcases Nat.lt_or_ge b H.length with k | k
  · exact k
  · rw [List.getElem?_eq_none k] at h; cases h
theorem aStore_sim {P : Program} {s : St} {o : Oper} {t : TypeId} {x y : Operand} {r : AVal} {ch : Chg} (ho : o.op = .store t x y) (h : aStore P s t x y = some (r, ch)) : Sim P o s r ch := by
  unfold aStore at h
  split at h
  · rename_i bb n b off ht he
    split at h
    · rename_i cells hb
      split at h
      · rename_i u sz cs len hy0
        obtain ⟨rfl, hy⟩ := holds_of hy0
        split at h
        · rename_i hn
          injection h with h; injection h with e1 e2; subst e1; subst e2
          intro a w κ ρ hR
          obtain ⟨κ1, hR1, hv, hfr⟩ := hR.give hy (.cell b off)
          have hone : (a.eval (.tmp u)).oneCell' = true := CVal.one_rep hv rfl
          have hcells := cells_one hone
          have hb1 : (s.dem u).H[b]? = some (some cells) := hb
          have hB := hR1.heap.blk b cells hb1
          have hst := hB.store (ds := [.tip sz cs len]) s.H.length (H_lt hb) (hR.heap.ok b cells hb) off (vs := (a.eval (.tmp u)).cells) (by rw [hcells]; rfl) (fun z hz => by rw [List.mem_singleton.1 hz]; rfl) (fun i hi hi' => by
            have hi0 : i = 0 := by simp at hi; exact hi
            subst hi0
            simp only [hcells]
            exact hv)
          have m := mv_store (n := s.H.length) (w := w) (ρ := ρ) hB.own off (a.eval (.tmp u)).cells.toList
          have hR2 := hR1.mv_blk hb1 m hst (fun z hz => by
            rcases List.mem_or_eq_of_mem_set hz with hz | rfl
            · exact hR.heap.ok b cells hb z hz
            · rfl)
          refine ⟨undef, _, κ1, ρ, .inr ⟨exec_store ho (by rw [hR.at_ptr he]; exact run_storeAt_cells w (ρ b) off t ht _ (by rw [hcells]; exact hn.1.symm) (by rw [hn.1]; exact hB.there off 1 (by omega)) (fun i hi => by
            have hi0 : i = 0 := by rw [hcells] at hi; simpa using hi
            subst hi0
            simp only [hcells]
            exact hone)), rfl⟩, hR2, fun _ _ => trivial, rfl, hfr.trans m.fr, fun _ _ => rfl⟩
        · cases h
      · split at h
        · rename_i ds hds
          split at h
          · rename_i hn
            injection h with h; injection h with e1 e2; subst e1; subst e2
            intro a w κ ρ hR
            have hC := AVal.cells_rep (hR.ev (l := .slot 0) y) hds
            have hB := hR.heap.blk b cells hb
            have hokd := AVal.cells_ok (hR.ev_ok y) hds
            have hst := hB.store s.H.length (H_lt hb) (hR.heap.ok b cells hb) off hC.size hokd (fun i hi hi' => hC.rep _ i hi hi')
            have m := mv_store (n := s.H.length) (w := w) (ρ := ρ) hB.own off (a.eval y).cells.toList
            have hR2 := hR.mv_blk hb m hst (fun z hz => by
              obtain ⟨i, hi, rfl⟩ := List.mem_iff_getElem.1 hz
              have hi2 := hi
              rw [setAt_length] at hi2
              rw [setAt_get ds cells off i hi2]
              split
              · exact hokd _ (List.getElem_mem _)
              · exact hR.heap.ok b cells hb _ (List.getElem_mem _))
            exact ⟨undef, _, κ, ρ, .inr ⟨exec_store ho (by rw [hR.at_ptr he]; exact run_storeAt_cells w (ρ b) off t ht _ (by rw [hC.size]; exact hn.1) (hB.there off n hn.2) hC.one), rfl⟩, hR2, fun _ _ => trivial, rfl, m.fr, fun _ _ => rfl⟩
          · cases h
        · cases h
    · cases h
  · cases h
end Go.Proofs.Ythnfliopmjpdmaa.Av
