/- Operations on values without addresses: literals, append, strings of bytes. -/
import Derived.Test.YthnfliopmjpdmaaAvOp4
namespace Go.Proofs.Ythnfliopmjpdmaa.Av
set_option linter.unusedVariables false
set_option linter.unusedSimpArgs false

/-! ### Literals -/
theorem foldl_fill (off : Nat) : ∀ (l : List Value) (k : Nat) (vs : Array Value),
    ((l.zipIdx k).foldl (fun cs p => cs.setIfInBounds (off + p.2) p.1) vs).size = vs.size ∧
    ∀ i (h : i < vs.size) (h' : i < ((l.zipIdx k).foldl (fun cs p => cs.setIfInBounds (off + p.2) p.1) vs).size), ((l.zipIdx k).foldl (fun cs p => cs.setIfInBounds (off + p.2) p.1) vs)[i] = if hh : off + k ≤ i ∧ i < off + k + l.length then l[i - (off + k)]'(by omega) else vs[i]
  | [], k, vs => ⟨rfl, fun i h h' => by rw [dif_neg (by simp only [List.length_nil]; omega)]; rfl⟩
  | v :: l, k, vs => by
    obtain ⟨h1, h2⟩ := foldl_fill off l (k + 1) (vs.setIfInBounds (off + k) v)
    have hf : ((v :: l).zipIdx k).foldl (fun cs p => cs.setIfInBounds (off + p.2) p.1) vs = (l.zipIdx (k + 1)).foldl (fun cs p => cs.setIfInBounds (off + p.2) p.1) (vs.setIfInBounds (off + k) v) := rfl
    refine ⟨by rw [hf, h1]; simp, fun i hi hi' => ?_⟩
    have := h2 i (by simpa using hi) (by rw [← hf]; exact hi')
    simp only [hf, this]
    by_cases k1 : off + (k + 1) ≤ i ∧ i < off + (k + 1) + l.length
    · rw [dif_pos k1, dif_pos (by simp only [List.length_cons]; omega)]
      have e : i - (off + k) = (i - (off + (k + 1))) + 1 := by omega
      simp [e]
    · rw [dif_neg k1, Array.getElem_setIfInBounds (by simpa using hi)]
      by_cases k2 : off + k = i
      · rw [if_pos k2, dif_pos (by simp only [List.length_cons]; omega)]
        have e : i - (off + k) = 0 := by omega
        simp [e]
      · rw [if_neg k2, dif_neg (by simp only [List.length_cons]; omega)]
theorem fill_one (off : Nat) (v vs : Array Value) : v.zipIdx.foldl (fun cs (p : Value × Nat) => cs.setIfInBounds (off + p.2) p.1) vs = (v.toList.zipIdx 0).foldl (fun cs p => cs.setIfInBounds (off + p.2) p.1) vs := by
  rw [← Array.foldl_toList]
  simp
inductive Pl where
  | fields (l : List (Nat × Nat))
  | elems (z : Nat)
def Pl.at : Pl → Nat → Option (Nat × Nat)
  | .fields l, i => l[i]?
  | .elems z, i => some (i * z, z)
def aFill (p : Pl) : List CVal → List (Nat × List CVal) → Option (List CVal)
  | cells, [] => some cells
  | cells, (i, ds) :: rest => match p.at i with
    | some (off, size) => if ds.length = size ∧ off + size ≤ cells.length then aFill p (setAt cells off ds) rest else none
    | none => none
/-- Parts of a literal: what they stand for. -/
inductive PartsRep (w : World) (κ : Nat → BK) (ρ : Nat → Nat) : List (Nat × List CVal) → List (Nat × Value) → Prop
  | nil : PartsRep w κ ρ [] []
  | cons (i : Nat) (ds : List CVal) (v : Value) (rest : List (Nat × List CVal)) (vs : List (Nat × Value)) (h : CellsRep w κ ρ ds v.cells) (r : PartsRep w κ ρ rest vs) : PartsRep w κ ρ ((i, ds) :: rest) ((i, v) :: vs)
theorem fill_rep {w : World} {κ : Nat → BK} {ρ : Nat → Nat} (p : Pl) (pf : Nat → Option (Nat × Nat)) (hp : ∀ i, pf i = p.at i) {parts : List (Nat × List CVal)} {pv : List (Nat × Value)} (h : PartsRep w κ ρ parts pv) :
    ∀ (cells r : List CVal) (vs : Array Value), CellsRep w κ ρ cells vs → aFill p cells parts = some r → ∃ us, Instr.fill pf vs pv = some us ∧ CellsRep w κ ρ r us := by
  induction h with
  | nil =>
    intro cells r vs hc e
    injection e with e
    subst e
    exact ⟨vs, rfl, hc⟩
  | cons i ds v rest vs' hv _ ih =>
    intro cells r vs hc e
    unfold aFill at e
    split at e
    · rename_i off size hat
      split at e
      · rename_i hn
        obtain ⟨h1, h2⟩ := foldl_fill off v.cells.toList 0 vs
        have hsz := hc.size
        have hvs := hv.size
        have hc2 : CellsRep w κ ρ (setAt cells off ds) ((v.cells.toList.zipIdx 0).foldl (fun cs p => cs.setIfInBounds (off + p.2) p.1) vs) := by
          refine ⟨by rw [h1, setAt_length]; exact hsz, fun x hx => ?_, fun l j hj hj' => ?_, fun j hj => ?_⟩
          · obtain ⟨j, hj, rfl⟩ := List.mem_iff_getElem.1 hx
            have hj2 := hj
            rw [setAt_length] at hj2
            rw [setAt_get ds cells off j hj2]
            split
            · exact hv.flat _ (List.getElem_mem _)
            · exact hc.flat _ (List.getElem_mem _)
          · rw [setAt_length] at hj
            rw [setAt_get ds cells off j hj, h2 j (by omega)]
            by_cases hh : off ≤ j ∧ j < off + ds.length
            · rw [dif_pos hh, dif_pos (by simp; omega)]
              have := hv.rep l (j - off) (by omega) (by omega)
              simpa using this
            · rw [dif_neg hh, dif_neg (by simp; omega)]
              exact hc.rep l j hj (by omega)
          · have hj2 : j < vs.size := by rw [h1] at hj; exact hj
            rw [h2 j hj2]
            split
            · rename_i hh
              have := hv.one (j - off) (by simp at hh; omega)
              simpa using this
            · exact hc.one j hj2
        obtain ⟨us, hu1, hu2⟩ := ih _ r _ hc2 e
        refine ⟨us, ?_, hu2⟩
        have hcond : ¬ (v.cells.size ≠ size || decide (off + v.cells.size > vs.size)) = true := by
          simp
          omega
        simp only [Instr.fill, hp i, hat]
        rw [if_neg hcond, ← hu1]
        congr 1
        exact fill_one off v.cells vs
      · cases e
    · cases e
def partsC (s : St) : List (Nat × Operand) → Option (List (Nat × List CVal))
  | [] => some []
  | (i, x) :: rest => match (s.ev x).dem.cells, partsC s rest with
    | some ds, some r => some ((i, ds) :: r)
    | _, _ => none
theorem partsC_rep {s : St} {a : Act} {w : World} {κ : Nat → BK} {ρ : Nat → Nat} (hR : Rel s a w κ ρ) : ∀ (ps : List (Nat × Operand)) (r : List (Nat × List CVal)), partsC s ps = some r → PartsRep w κ ρ r (ps.map fun p => (p.1, a.eval p.2)) ∧ ∀ q ∈ r, ∀ x ∈ q.2, x.ok s.H.length = true
  | [], r, h => by injection h with h; subst h; exact ⟨.nil, fun q hq => by cases hq⟩
  | (i, x) :: rest, r, h => by
    unfold partsC at h
    split at h
    · rename_i ds r' h1 h2
      injection h with h
      subst h
      obtain ⟨k1, k2⟩ := partsC_rep hR rest r' h2
      refine ⟨.cons i ds _ _ _ (AVal.cells_rep (hR.ev (l := .slot 0) x) h1) k1, fun q hq => ?_⟩
      rcases List.mem_cons.1 hq with rfl | hq
      · exact AVal.cells_ok (hR.ev_ok x) h1
      · exact k2 q hq
    · cases h
theorem aFill_ok {n : Nat} (p : Pl) : ∀ (parts : List (Nat × List CVal)) (cells r : List CVal), (∀ q ∈ parts, ∀ x ∈ q.2, x.ok n = true) → (∀ x ∈ cells, x.ok n = true) → aFill p cells parts = some r → ∀ x ∈ r, x.ok n = true
  | [], cells, r, _, hc, e => by injection e with e; subst e; exact hc
  | (i, ds) :: rest, cells, r, hp, hc, e => by
    unfold aFill at e
    split at e
    · rename_i off size hat
      split at e
      · refine aFill_ok p rest _ r (fun q hq => hp q (List.mem_cons_of_mem _ hq)) (fun x hx => ?_) e
        obtain ⟨j, hj, rfl⟩ := List.mem_iff_getElem.1 hx
        have hj2 := hj
        rw [setAt_length] at hj2
        rw [setAt_get ds cells off j hj2]
        split
        · exact hp (i, ds) (List.mem_cons_self ..) _ (List.getElem_mem _)
        · exact hc _ (List.getElem_mem _)
      · cases e
    · cases e
def bInfo (P : Program) (t : TypeId) : Option (List CVal × Pl) :=
  match P.info? t, P.underlying t with
  | some it, some (.array _ e) => match it.zero, P.info? e with
    | some z, some ie => if z.cells.toList.all Value.oneCell' then some (z.cells.toList.map ofC, .elems ie.size) else none
    | _, _ => none
  | some it, some (.struct fields) => match it.zero, fields.toList.mapM (fun f => (P.info? f.type).map fun i => (f.offset, i.size)) with
    | some z, some places => if z.cells.toList.all Value.oneCell' then some (z.cells.toList.map ofC, .fields places) else none
    | _, _ => none
  | _, _ => none
theorem bInfo_built {P : Program} {t : TypeId} {zs : List CVal} {p : Pl} (h : bInfo P t = some (zs, p)) : ∃ (z : Array Value) (pf : Nat → Option (Nat × Nat)), zs = z.toList.map ofC ∧ (∀ v ∈ z, v.oneCell' = true) ∧ (∀ i, pf i = p.at i) ∧ ∀ parts, P.built t parts = Instr.fill pf z parts := by
  unfold bInfo at h
  split at h
  · rename_i it n e hi hu
    split at h
    · rename_i z ie hz hie
      split at h
      · rename_i h1
        injection h with h; injection h with e1 e2; subst e1; subst e2
        exact ⟨z.cells, _, rfl, fun v hv => List.all_eq_true.1 h1 v (Array.mem_toList_iff.2 hv), fun i => rfl, fun parts => by simp only [Program.built, hi, hu, hz, hie]; rfl⟩
      · cases h
    · cases h
  · rename_i it fields hi hu
    split at h
    · rename_i z places hz hpl
      split at h
      · rename_i h1
        injection h with h; injection h with e1 e2; subst e1; subst e2
        exact ⟨z.cells, fun i => places.toArray[i]?, rfl, fun v hv => List.all_eq_true.1 h1 v (Array.mem_toList_iff.2 hv), fun i => by simp [Pl.at], fun parts => by simp only [Program.built, hi, hu, hz, hpl]⟩
      · cases h
    · cases h
  · cases h
def aBuild (P : Program) (s : St) (t : TypeId) (parts : List (Nat × Operand)) : Option (AVal × Chg) :=
  match bInfo P t, partsC s parts with
  | some (zs, p), some ps => match aFill p zs ps with
    | some cs => some (.agg cs, {})
    | none => none
  | _, _ => none
theorem aBuild_sim {P : Program} {s : St} {o : Oper} {t : TypeId} {parts : Array (Nat × Operand)} {r : AVal} {ch : Chg} (ho : o.op = .build t parts) (h : aBuild P s t parts.toList = some (r, ch)) : Sim P o s r ch := by
  unfold aBuild at h
  split at h
  · rename_i zs p ps hb hp
    split at h
    · rename_i cs hf
      injection h with h; injection h with e1 e2; subst e1; subst e2
      obtain ⟨z, pf, rfl, h1, hpf, hbt⟩ := bInfo_built hb
      refine Sim.still fun a w κ ρ hR => ?_
      obtain ⟨k1, k2⟩ := partsC_rep hR parts.toList ps hp
      obtain ⟨us, hu1, hu2⟩ := fill_rep p pf hpf k1 _ cs z (cellsRep_ofC z h1) hf
      refine ⟨.agg us, ?_, fun d => ⟨us, rfl, hu2.size, fun i hi hi' => ⟨hu2.flat _ (List.getElem_mem hi), hu2.rep _ i hi hi'⟩⟩, ?_⟩
      · have := run_build (P := P) w t (parts.map fun (i, x) => (i, a.eval x)) us (by rw [hbt, Array.toList_map]; exact hu1)
        simp only [execOp, ho, Sem.run_bind, this]
        rfl
      · simp only [AVal.ok, List.all_eq_true]
        exact aFill_ok p ps _ cs k2 (map_ofC_ok _ _) hf
    · cases h
  · cases h

/-! ### Rows of data that are the call's own -/
def CVal.fz : CVal → Option FVal
  | .f .nils => some (.row [] 0)
  | .f x => some x
  | .tip _ cs len => some (.row cs len)
  | _ => none
def fzs : List CVal → Option (List FVal)
  | [] => some []
  | c :: cs => match c.fz, fzs cs with
    | some x, some xs => some (x :: xs)
    | _, _ => none
theorem CVal.fz_rep {w : World} {κ : Nat → BK} {ρ : Nat → Nat} {l : Loc} : ∀ {x : CVal} {y : FVal} {v : Value}, RepC w κ ρ l x v → x.fz = some y → RepF w κ y v
  | .f .nils, y, v, h, e => by injection e with e; subst e; rw [repF_nils.1 h]; exact .nil0
  | .f (.v _), y, v, h, e => by injection e with e; subst e; exact h
  | .f (.row ..), y, v, h, e => by injection e with e; subst e; exact h
  | .tip sz cs len, y, v, h, e => by injection e with e; subst e; exact RepC.dem (l' := l) h
  | .ip .., _, _, _, e => by cases e
  | .ptr .., _, _, _, e => by cases e
  | .arr .., _, _, _, e => by cases e
  | .und, _, _, _, e => by cases e
  | .any, _, _, _, e => by cases e
theorem fzs_rep : ∀ (cs : List CVal) (xs : List FVal), fzs cs = some xs → xs.length = cs.length ∧ ∀ i (h : i < cs.length) (h' : i < xs.length), cs[i].fz = some xs[i]
  | [], xs, h => by injection h with h; subst h; exact ⟨rfl, fun i h => by simp at h⟩
  | c :: cs, xs, h => by
    unfold fzs at h
    split at h
    · rename_i x ys e1 e2
      injection h with h
      subst h
      obtain ⟨h1, h2⟩ := fzs_rep cs ys e2
      refine ⟨by simp [h1], fun i hi hi' => ?_⟩
      cases i with
      | zero => exact e1
      | succ i => exact h2 i (by simpa using hi) (by simpa using hi')
    · cases h
/-- A new row of the call's own. -/
theorem tip_new {w : World} {κ : Nat → BK} {ρ : Nat → Nat} {n : Nat} (l : Loc) {sz len cap : Nat} {fs : List FVal} {c : Array Value} (e : TypeId) (hl : fs.length = len * sz) (hle : len ≤ cap) (hc : c.size = cap * sz)
    (hr : ∀ i (h : i < fs.length) (h' : i < c.size), RepF w κ fs[i] c[i]) : TipAt (w.alloc (.cells c e)) (upd κ w.heap.size (.tip fs.length l)) l sz fs len w.heap.size cap := by
  have m := mv_alloc n w κ ρ (.cells c e) (.tip fs.length l) ρ (fun _ _ => rfl)
  have hsz : fs.length ≤ c.size := by rw [hl, hc]; exact Nat.mul_le_mul_right _ hle
  have hh : (w.alloc (.cells c e)).heap[w.heap.size]? = some (.cells c e (0, 0)) := by rw [alloc_heap, if_pos rfl]
  refine ⟨⟨fun i hi => ?_, fun _ => ⟨by rw [alloc_size]; omega, by rw [upd_same]; simp [BK.fits]⟩⟩, by rw [alloc_size]; omega, hl, upd_same _ _ _, hle, c, e, hh, hc⟩
  have hi' : i < c.size := by omega
  exact ⟨c[i], by unfold World.cell?; rw [hh]; simp [hi'], (hr i hi hi').grow m.grow⟩
def aBuildSlice (P : Program) (s : St) (t : TypeId) (len : Nat) (parts : List (Nat × Operand)) : Option (AVal × Chg) :=
  match mkInfo P t, partsC s parts with
  | some (sz, _, zs), some ps => if len * sz ≤ 16777216 then
      match aFill (.elems sz) (repCells zs len) ps with
      | some cs => match fzs cs with
        | some fs => some (.c (.tip sz fs len), {})
        | none => none
      | none => none
    else none
  | _, _ => none
theorem aBuildSlice_sim {P : Program} {s : St} {o : Oper} {t : TypeId} {len : Nat} {parts : Array (Nat × Operand)} {r : AVal} {ch : Chg} (ho : o.op = .buildSlice t len parts) (h : aBuildSlice P s t len parts.toList = some (r, ch)) : Sim P o s r ch := by
  unfold aBuildSlice at h
  split at h
  · rename_i sz by_ zs ps hI hp
    split at h
    · rename_i hlen
      split at h
      · rename_i cs hf
        split at h
        · rename_i fs hfs
          injection h with h; injection h with e1 e2; subst e1; subst e2
          obtain ⟨e, i, z, hu, hi, hz, rfl, rfl, rfl, hsz, hpos, h1⟩ := mkInfo_of hI
          intro a w κ ρ hR
          obtain ⟨k1, k2⟩ := partsC_rep hR parts.toList ps hp
          have hm : CellsRep w κ ρ (repCells (z.cells.toList.map ofC) len) (madeCells z.cells (len * i.size)) := by rw [← hsz]; exact made_rep z.cells len (by omega) h1
          obtain ⟨us, hu1, hu2⟩ := fill_rep (.elems i.size) (fun j => some (j * i.size, i.size)) (fun _ => rfl) k1 _ cs _ hm hf
          obtain ⟨f1, f2⟩ := fzs_rep cs fs hfs
          have hcl : cs.length = len * i.size := by
            have hlen2 : ∀ (p : Pl) (parts : List (Nat × List CVal)) (cells r : List CVal), aFill p cells parts = some r → r.length = cells.length := by
              intro p parts
              induction parts with
              | nil => intro cells r e; injection e with e; subst e; rfl
              | cons q rest ih =>
                intro cells r e
                obtain ⟨j, ds⟩ := q
                unfold aFill at e
                split at e
                · split at e
                  · rw [ih _ _ e, setAt_length]
                  · cases e
                · cases e
            rw [hlen2 _ _ _ _ hf, repCells_eq]
            simp [hsz]
          have hus : us.size = len * i.size := by rw [hu2.size, hcl]
          have hT := tip_new (w := w) (κ := κ) (ρ := ρ) (n := s.H.length) (.slot (o.dst.getD 0)) (sz := i.size) (len := len) (cap := len) (fs := fs) (c := us) e (by rw [f1, hcl]) (Nat.le_refl _) hus (fun j hj hj' => CVal.fz_rep (hu2.rep (.slot 0) j (by omega) hj') (f2 j (by omega) hj))
          have m := mv_alloc s.H.length w κ ρ (.cells us e) (.tip fs.length (.slot (o.dst.getD 0))) ρ (fun _ _ => rfl)
          refine ⟨.slice (some ⟨w.heap.size, 0, none⟩) len len, _, _, ρ, .inl ?_, hR.mv m (fun _ h => h), fun d hd => ?_, rfl, m.fr, fun _ _ => rfl⟩
          · have hn : ¬ (16777216 < len * i.size) := by omega
            have hfill : Instr.fill (fun j => some (j * i.size, i.size)) (madeCells z.cells (len * i.size)) (parts.toList.map fun p => (p.1, a.eval p.2)) = some us := hu1
            by_cases hz0 : len * i.size = 0
            · have hm0 : madeCells z.cells (len * i.size) = #[] := Array.eq_empty_of_size_eq_zero (by rw [size_madeCells, hz0])
              rw [hm0] at hfill
              have hr0 : (Array.range 0).map (fun _ => (default : Value)) = #[] := Array.eq_empty_of_size_eq_zero (by simp)
              simp only [execOp, ho, Instr.buildSlice, Sem.run_bind, run_underlying hu w, Result.andThen_ok, sizeOf, typeInfo, program, Sem.run, hi]
              simp [Sem.run, hi, hn, hz0, hr0, hfill, newRow]
            · simp only [execOp, ho, Instr.buildSlice, Sem.run_bind, run_underlying hu w, Result.andThen_ok, sizeOf, typeInfo, program, Sem.run, hi]
              unfold madeCells at hfill
              simp [Sem.run, hi, hn, hz0, hz, hfill, newRow, zeroValue, typeInfo]
          · rw [hd] at hT ⊢
            exact .inl ⟨w.heap.size, len, rfl, hT⟩
        · cases h
      · cases h
    · cases h
  · cases h

/-! ### append -/
/-- What is appended: its elements and cells. -/
def srcCells (P : Program) (s : St) (sz : Nat) (tx : TypeId) (y : Operand) : Option (Nat × List FVal) :=
  match (s.ev y).dem with
  | .c (.f (.row cs n)) => match elemSz P tx with
    | some z => if z = sz ∧ cs.length = n * sz then some (n, cs) else none
    | none => none
  | .c (.f .nils) => match elemSz P tx with
    | some z => some (0, [])
    | none => none
  | .c (.arr b off n _) => match elemSz P tx, s.H[b]? with
    | some z, some (some cells) => if z = sz ∧ off + n * sz ≤ cells.length then
        match fzs ((cells.drop off).take (n * sz)) with
        | some fs => some (n, fs)
        | none => none
      else none
    | _, _ => none
  | _ => none
theorem src_slice {P : Program} (w : World) (size : Nat) (tx : TypeId) {z : Nat} (hz : elemSz P tx = some z) (g o n c : Nat) (news : List Value) (hl : news.length = n * size) (hr : w.rangeAt g o news) (h1 : ∀ u ∈ news, u.oneCell' = true) : Src P size tx (.slice (some ⟨g, o, none⟩) n c) n news w := by
  obtain ⟨e, i, hu, hi, _⟩ := elemSz_of hz
  exact Src.ofSlice w hu ⟨g, o, none⟩ n c news hl (fun j u hj => by rw [Addr.add_mid]; exact hr j u hj) h1
theorem srcCells_src {P : Program} {s : St} {sz : Nat} {tx : TypeId} {y : Operand} {n : Nat} {fs : List FVal} (h : srcCells P s sz tx y = some (n, fs)) {a : Act} {w : World} {κ : Nat → BK} {ρ : Nat → Nat} (hR : Rel s a w κ ρ) :
    ∃ news : List Value, Src P sz tx (a.eval y) n news w ∧ news.length = fs.length ∧ fs.length = n * sz ∧ ∀ i (h : i < fs.length) (h' : i < news.length), RepF w κ fs[i] news[i] := by
  unfold srcCells at h
  split at h
  · rename_i cs m he
    split at h
    · rename_i z hz
      split at h
      · rename_i hc
        injection h with h; injection h with e1 e2; subst e1; subst e2
        obtain ⟨g, oo, cap, hv, hcap, hrow⟩ | ⟨rfl, rfl, hv⟩ := hR.at_row he
        rotate_left
        · obtain ⟨e, i, hu, hi, _⟩ := elemSz_of hz
          exact ⟨[], by rw [hv]; exact Src.ofNil w hu 0, rfl, by simp, fun i h => by simp at h⟩
        obtain ⟨vs, hl, hra, hre⟩ := hrow.part 0 cs.length (by omega)
        have hre' : ∀ i (h : i < cs.length) (h' : i < vs.length), RepF w κ cs[i] vs[i] := fun i hi hi' => by
          have := hre i hi hi'
          simpa using this
        refine ⟨vs, ?_, hl, hc.2, hre'⟩
        rw [hv]
        refine src_slice w sz tx hz g oo m cap vs (by rw [hl]; exact hc.2) hra (fun u hu => ?_)
        obtain ⟨i, hi, rfl⟩ := List.mem_iff_getElem.1 hu
        exact (hre' i (by omega) hi).one
      · cases h
    · cases h
  · rename_i he
    split at h
    · rename_i z hz
      injection h with h; injection h with e1 e2; subst e1; subst e2
      have hv : a.eval y = .slice none 0 0 := by
        have := hR.ev (l := .slot 0) y
        rw [he] at this
        exact repF_nils.1 this
      obtain ⟨e, i, hu, hi, _⟩ := elemSz_of hz
      exact ⟨[], by rw [hv]; exact Src.ofNil w hu 0, rfl, by simp, fun i h => by simp at h⟩
    · cases h
  · rename_i b off m cap he
    split at h
    · rename_i z cells hz hb
      split at h
      · rename_i hc
        split at h
        · rename_i gs hgs
          injection h with h; injection h with e1 e2; subst e1; subst e2
          obtain ⟨vs, hl, hra, hre⟩ := (hR.heap.blk b cells hb).part off (m * sz) hc.2
          obtain ⟨f1, f2⟩ := fzs_rep _ gs hgs
          have f1' : gs.length = m * sz := by rw [f1]; simp; omega
          have hrep : ∀ i (h : i < gs.length) (h' : i < vs.length), RepF w κ gs[i] vs[i] := fun i hi hi' => by
            have h3 := hre i (by omega) hi'
            have h4 := f2 i (by rw [← f1]; exact hi) hi
            simp only [List.getElem_take, List.getElem_drop] at h4
            exact CVal.fz_rep h3 h4
          refine ⟨vs, ?_, by omega, f1', hrep⟩
          rw [hR.at_arr he]
          refine src_slice w sz tx hz (ρ b) off m cap vs hl hra (fun u hu => ?_)
          obtain ⟨i, hi, rfl⟩ := List.mem_iff_getElem.1 hu
          exact (hrep i (by omega) hi).one
        · cases h
      · cases h
    · cases h
  · cases h
def aAppend (P : Program) (s : St) (t tx : TypeId) (x y : Operand) : Option (AVal × Chg) :=
  match mkInfo P t with
  | some (sz, by_, _) => match srcCells P s sz tx y with
    | some (n, fs) => match holds s x with
      | some (u, z, cs, len) => if z = sz ∧ len + n ≤ 4611686018427387904 ∧ (len + n) * by_ ≤ 140737488355328 then some (.c (.tip sz (cs ++ fs) (len + n)), { dem := some u }) else none
      | none => match s.ev x with
        | .c (.f .nils) => if n ≤ 4611686018427387904 ∧ n * by_ ≤ 140737488355328 then some (.c (.tip sz fs n), {}) else none
        | _ => none
    | none => none
  | none => none
theorem exec_append {P : Program} {ev : Operand → Value} {o : Oper} {t tx : TypeId} {x y : Operand} (ho : o.op = .call { callee := .builtin .append, args := #[x, y], argTypes := #[t, tx] }) {v : Value} {w w' : World} (h : (Builtin.append_ #[t, tx] o.type #[ev x, ev y]).run P w = .ok v w') : (execOp ev o).run P w = .ok (.value v) w' := by
  simp [execOp, ho, resolve, invoke, builtin, h]
theorem mv_drew (n : Nat) (w : World) (κ : Nat → BK) (ρ : Nat → Nat) : Mv (fun _ => False) n w κ ρ w.drew κ ρ :=
  ⟨rfl, rfl, rfl, Nat.le_refl _, fun _ _ => rfl, fun _ _ _ => ⟨rfl, rfl⟩, fun _ _ _ _ h => h.elim, fun _ _ _ h => h.elim, fun _ _ h => h.elim⟩
/-- A row that has been grown into a new block. -/
theorem grown_tip {w : World} {κ : Nat → BK} {ρ : Nat → Nat} {n : Nat} (l : Loc) {sz len m cap : Nat} {cs fs : List FVal} {olds news : List Value} (e : TypeId) (z : Array Value) (hz : z.size = sz) (hcs : cs.length = len * sz) (hfs : fs.length = m * sz)
    (h1 : olds.length = cs.length) (h2 : news.length = fs.length) (hle : len + m ≤ cap) (hr1 : ∀ i (h : i < cs.length) (h' : i < olds.length), RepF w κ cs[i] olds[i]) (hr2 : ∀ i (h : i < fs.length) (h' : i < news.length), RepF w κ fs[i] news[i]) :
    TipAt (w.drew.alloc (.cells ((olds ++ news).toArray ++ Builtin.zeroCells z (cap - (len + m))) e)) (upd κ w.heap.size (.tip (cs ++ fs).length l)) l sz (cs ++ fs) (len + m) w.heap.size cap := by
  have hsz : ((olds ++ news).toArray ++ Builtin.zeroCells z (cap - (len + m))).size = cap * sz := by
    simp only [Array.size_append, List.size_toArray, List.length_append, Builtin.zeroCells, Array.size_map, Array.size_range, h1, h2, hcs, hfs, hz, ← Nat.add_mul]
    congr 1
    omega
  have := tip_new (w := w.drew) (κ := κ) (ρ := ρ) (n := n) l (sz := sz) (len := len + m) (cap := cap) (fs := cs ++ fs) (c := (olds ++ news).toArray ++ Builtin.zeroCells z (cap - (len + m))) e (by rw [List.length_append, hcs, hfs, Nat.add_mul]) hle hsz (fun i hi hi' => by
    rw [List.length_append] at hi
    rw [Array.getElem_append_left (by simp; omega), List.getElem_toArray]
    have hg := (mv_drew n w κ ρ).grow
    rcases Nat.lt_or_ge i cs.length with hlt | hge
    · rw [List.getElem_append_left hlt, List.getElem_append_left (by omega)]
      exact (hr1 i hlt (by omega)).grow hg
    · rw [List.getElem_append_right hge, List.getElem_append_right (by omega)]
      have := (hr2 (i - cs.length) (by omega) (by omega)).grow hg
      simp only [h1]
      exact this)
  exact this
theorem grownCap_ge (w : World) (need old : Nat) (e : TypeId) : need ≤ grownCap w need old e := by
  unfold grownCap Question.cut
  exact Nat.le_add_right _ _
/-- Growing out of nothing. -/
theorem append_nil {P : Program} {s : St} {o : Oper} {t tx : TypeId} {x y : Operand} (ho : o.op = .call { callee := .builtin .append, args := #[x, y], argTypes := #[t, tx] }) {sz by_ : Nat} {zs : List CVal} (hI : mkInfo P t = some (sz, by_, zs)) {n : Nat} {fs : List FVal} (hsrc : srcCells P s sz tx y = some (n, fs)) (h63 : n ≤ 4611686018427387904) (hby : n * by_ ≤ 140737488355328)
    {a : Act} {w : World} {κ : Nat → BK} {ρ : Nat → Nat} (hR : Rel s a w κ ρ) (hv : a.eval x = .slice none 0 0) (l : Loc) :
    ∃ v w' κ', (execOp a.eval o).run P w = .ok (.value v) w' ∧ Rel s a w' κ' ρ ∧ RepC w' κ' ρ l (.tip sz fs n) v ∧ Fr w κ w' κ' := by
  obtain ⟨e, i, z, hu, hi, hz, rfl, rfl, rfl, hsz, hpos, h1⟩ := mkInfo_of hI
  obtain ⟨news, hs, hn1, hn2, hn3⟩ := srcCells_src hsrc hR
  by_cases hn0 : n = 0
  · subst hn0
    have hfs : fs = [] := List.eq_nil_of_length_eq_zero (by omega)
    have hnil : news = [] := List.eq_nil_of_length_eq_zero (by omega)
    subst hnil
    exact ⟨_, w, κ, exec_append ho (by rw [hv]; exact run_append_nothing (P := P) w t tx o.type e i hu hi none 0 0 (Nat.le_refl _) _ hs), hR, .inr ⟨hfs, rfl, rfl⟩, Fr.refl _ _⟩
  · have hold2 : (Builtin.firstCells i.size 0 (.slice none 0 0)).run P w.drew = .ok ([] : List Value).toArray w.drew := rfl
    have hfit := growslice_fits (need := 0 + n) (old := 0) (bytes := i.bytes) (by omega) (by rw [Nat.zero_add]; exact hby)
    have hrun := run_append_grow_src (P := P) w t tx o.type e i z hu hi hz none 0 0 [] hold2 (a.eval y) n news hs (by omega) (by omega) hfit
    have hTn := grown_tip (w := w) (κ := κ) (ρ := ρ) (n := s.H.length) l (m := n) (len := 0) (cap := grownCap w (0 + n) 0 e) (cs := []) (olds := []) (news := news) e z.cells hsz (by simp) hn2 rfl hn1 (grownCap_ge _ _ _ _) (fun j hj => by simp at hj) hn3
    have m1 := mv_drew s.H.length w κ ρ
    have m2 := mv_alloc s.H.length w.drew κ ρ (.cells (([] ++ news).toArray ++ Builtin.zeroCells z.cells (grownCap w (0 + n) 0 e - (0 + n))) e) (.tip ([] ++ fs).length l) ρ (fun _ _ => rfl)
    refine ⟨_, _, _, exec_append ho (by rw [hv]; exact hrun), (hR.mv m1 (fun _ h => h)).mv m2 (fun _ h => h), ?_, m1.fr.trans m2.fr⟩
    rw [Nat.zero_add] at hTn ⊢
    exact .inl ⟨w.heap.size, _, rfl, hTn⟩
theorem aAppend_sim {P : Program} {s : St} {o : Oper} {t tx : TypeId} {x y : Operand} {r : AVal} {ch : Chg} (ho : o.op = .call { callee := .builtin .append, args := #[x, y], argTypes := #[t, tx] }) (h : aAppend P s t tx x y = some (r, ch)) : Sim P o s r ch := by
  unfold aAppend at h
  split at h
  · rename_i sz by_ zs hI
    obtain ⟨e, i, z, hu, hi, hz, rfl, rfl, rfl, hsz, hpos, h1⟩ := mkInfo_of hI
    split at h
    · rename_i n fs hsrc
      split at h
      · rename_i u zz cs len hy0
        obtain ⟨rfl, hx⟩ := holds_of hy0
        split at h
        · rename_i hc
          obtain ⟨rfl, h63, hby⟩ := hc
          injection h with h; injection h with e1 e2; subst e1; subst e2
          intro a w κ ρ hR
          obtain ⟨news, hs, hn1, hn2, hn3⟩ := srcCells_src hsrc hR
          have htip := hR.ev_tmp u
          rw [hx] at htip
          obtain ⟨g, cap, hv, hT⟩ | ⟨rfl, rfl, hv⟩ := htip
          rotate_left
          · rw [Nat.zero_add] at h63 hby
            obtain ⟨v, w', κ', k1, k2, k3, k4⟩ := append_nil ho hI hsrc h63 hby hR hv (.slot (o.dst.getD 0))
            refine ⟨v, w', κ', ρ, .inl k1, demote k2 u, fun d hd => ?_, rfl, k4, fun _ _ => rfl⟩
            rw [hd] at k3
            rw [Nat.zero_add, List.nil_append]
            exact k3
          have hold := hT.row.part 0 cs.length (by omega)
          obtain ⟨olds, ho1, ho2, ho3⟩ := hold
          obtain ⟨c, ec, hblk, hcsz⟩ := hT.blk
          by_cases hroom : len + n ≤ cap
          · -- there is room
            have hcell : ∀ j, j < news.length → (w.cell? ⟨g, 0 + len * i.size + j, none⟩).isSome = true ∧ w.frozen? ⟨g, 0 + len * i.size + j, none⟩ = false := by
              intro j hj
              have : (len + n) * i.size ≤ cap * i.size := Nat.mul_le_mul_right _ hroom
              rw [Nat.add_mul] at this
              have hlt : 0 + len * i.size + j < c.size := by omega
              simp [World.cell?, World.frozen?, hblk]
              simpa using hlt
            have hrun := run_append_room_src (P := P) w t tx o.type e i hu hi g 0 len cap (a.eval y) n news hs hroom (fun j hj => (hcell j hj).1) (fun j hj => (hcell j hj).2)
            have hcut := hT.cut
            have m : Mv (· = g) s.H.length w κ ρ (w.setCells g (0 + len * i.size) news) (upd κ g (.tip (cs ++ fs).length (.slot (o.dst.getD 0)))) ρ := by
              obtain ⟨q1, q2, q3, q4⟩ := setCells_rest news w g (0 + len * i.size)
              refine ⟨q1, q2, q3, by rw [q4]; exact Nat.le_refl _, fun _ _ => rfl, fun j _ hj => ⟨setCells_other news w g _ j hj, upd_other _ _ hj⟩, fun j p v hj hT' hf hv' => ?_, fun j p hj hT' hf => ?_, fun j p hT' => ?_⟩
              · subst hT'
                rw [hT.own] at hf
                simp only [BK.fits] at hf
                rw [World.cell?_setCells_out _ _ _ _ _ (fun _ _ => Or.inl (by simp only; omega))]
                exact hv'
              · subst hT'
                rw [upd_same]
                rw [hT.own] at hf
                simp only [BK.fits, List.length_append] at hf ⊢
                omega
              · subst hT'; rw [hT.own]; intro e; cases e
            have hlt' : g < (w.setCells g (0 + len * i.size) news).heap.size := by rw [(setCells_rest news w g (0 + len * i.size)).2.2.2]; exact hT.lt
            have hTn : TipAt (w.setCells g (0 + len * i.size) news) (upd κ g (.tip (cs ++ fs).length (.slot (o.dst.getD 0)))) (.slot (o.dst.getD 0)) i.size (cs ++ fs) (len + n) g cap := by
              refine ⟨⟨fun j hj => ?_, fun _ => ⟨hlt', by rw [upd_same]; simp [BK.fits]⟩⟩, hlt', by rw [List.length_append, hcut, hn2, Nat.add_mul], upd_same _ _ _, hroom, ?_⟩
              · rw [List.length_append] at hj
                rcases Nat.lt_or_ge j cs.length with hlt | hge
                · obtain ⟨v, hv1, hv2⟩ := (hT.row.grow m.grow).cell j hlt
                  exact ⟨v, hv1, by rw [List.getElem_append_left hlt]; exact hv2⟩
                · have hjn : j - cs.length < news.length := by omega
                  refine ⟨news[j - cs.length], ?_, ?_⟩
                  · have := World.cell?_setCells_in g news (0 + len * i.size) w (fun q hq => (hcell q hq).1) (j - cs.length) hjn
                    rw [show 0 + len * i.size + (j - cs.length) = 0 + j by omega] at this
                    exact this
                  · rw [List.getElem_append_right hge]
                    exact (hn3 (j - cs.length) (by omega) hjn).grow m.grow
              · obtain ⟨c', k1, k2, _⟩ := setCells_same news w g (0 + len * i.size) c ec (0, 0) hblk
                exact ⟨c', ec, k1, by rw [k2]; exact hcsz⟩
            refine ⟨_, _, _, ρ, .inl (exec_append ho (by rw [hv]; exact hrun)), hR.mv_slot m hT.own, fun d hd => ?_, rfl, m.fr, fun _ _ => rfl⟩
            rw [hd] at hTn ⊢
            exact .inl ⟨g, cap, rfl, hTn⟩
          · -- a new block
            have hold2 : (Builtin.firstCells i.size len (.slice (some ⟨g, 0, none⟩) len cap)).run P w.drew = .ok olds.toArray w.drew := by
              have := run_loadCells_list (P := P) w.drew ⟨g, 0, none⟩ olds (fun j v hj => by rw [Addr.add_mid]; simpa using ho2 j v hj)
              simp only [Builtin.firstCells]
              rw [← hT.cut, ← ho1]
              exact this
            have hfit := growslice_fits (need := len + n) (old := cap) (bytes := i.bytes) (by omega) hby
            have hrun := run_append_grow_src (P := P) w t tx o.type e i z hu hi hz (some ⟨g, 0, none⟩) len cap olds hold2 (a.eval y) n news hs (by omega) (by omega) hfit
            have hTn := grown_tip (w := w) (κ := κ) (ρ := ρ) (n := s.H.length) (.slot (o.dst.getD 0)) (m := n) (cap := grownCap w (len + n) cap e) (olds := olds) (news := news) e z.cells hsz hT.cut hn2 ho1 hn1 (grownCap_ge _ _ _ _) (fun j hj hj' => by simpa using ho3 j hj hj') hn3
            have m1 := mv_drew s.H.length w κ ρ
            have m2 := mv_alloc s.H.length w.drew κ ρ (.cells ((olds ++ news).toArray ++ Builtin.zeroCells z.cells (grownCap w (len + n) cap e - (len + n))) e) (.tip (cs ++ fs).length (.slot (o.dst.getD 0))) ρ (fun _ _ => rfl)
            refine ⟨_, _, _, ρ, .inl (exec_append ho (by rw [hv]; exact hrun)), demote ((hR.mv m1 (fun _ h => h)).mv m2 (fun _ h => h)) u, fun d hd => ?_, rfl, m1.fr.trans m2.fr, fun _ _ => rfl⟩
            rw [hd] at hTn ⊢
            exact .inl ⟨w.heap.size, _, rfl, hTn⟩
        · cases h
      · split at h
        · rename_i hx
          split at h
          · rename_i hc
            obtain ⟨h63, hby⟩ := hc
            injection h with h; injection h with e1 e2; subst e1; subst e2
            intro a w κ ρ hR
            obtain ⟨v, w', κ', k1, k2, k3, k4⟩ := append_nil ho hI hsrc h63 hby hR (hR.toV (by rw [hx]; rfl)) (.slot (o.dst.getD 0))
            exact ⟨v, w', κ', ρ, .inl k1, k2, fun d hd => by rw [hd] at k3; exact k3, rfl, k4, fun _ _ => rfl⟩
          · cases h
        · cases h
    · cases h
  · cases h

/-! ### A string of bytes -/
theorem run_conv_nil {P : Program} (w : World) (src dst e : TypeId) (hs : P.underlying src = some (.slice e)) (he : P.underlying e = some (.int .u8)) (hd : P.underlying dst = some .string) : (convert src dst (.slice none 0 0)).run P w = .ok (.string ⟨#[]⟩) w := by
  rw [run_convert_bytes_string w src dst e none 0 0 hs he hd]
  simp [Conv.bytesToString]
  rfl
def bytesOf : List FVal → Option (List UInt8)
  | [] => some []
  | .v (.int .u8 n) :: r => if ((UInt8.ofNat n.toNat).toNat : Int) = n then
      match bytesOf r with
      | some l => some (UInt8.ofNat n.toNat :: l)
      | none => none
    else none
  | _ => none
theorem bytesOf_get : ∀ (cs : List FVal) (l : List UInt8), bytesOf cs = some l → l.length = cs.length ∧ ∀ i (h : i < cs.length) (h' : i < l.length), cs[i] = .v (.int .u8 (l[i].toNat : Int))
  | [], l, h => by injection h with h; subst h; exact ⟨rfl, fun i h => by simp at h⟩
  | c :: r, l, h => by
    unfold bytesOf at h
    split at h
    · rename_i heq; cases heq
    · rename_i n r' heq
      injection heq with e1 e2; subst e1; subst e2
      split at h
      · rename_i hn
        split at h
        · rename_i l' hl'
          injection h with h; subst h
          obtain ⟨h1, h2⟩ := bytesOf_get r l' hl'
          refine ⟨by simp [h1], fun i hi hi' => ?_⟩
          cases i with
          | zero =>
            show FVal.v (.int .u8 n) = .v (.int .u8 ((UInt8.ofNat n.toNat).toNat : Int))
            rw [hn]
          | succ i => exact h2 i (by simpa using hi) (by simpa using hi')
        · cases h
      · cases h
    · cases h
def cvBytes (P : Program) (a b : TypeId) : Bool :=
  match P.underlying a, P.underlying b with
  | some (.slice e), some .string => match P.underlying e with
    | some (.int .u8) => true
    | _ => false
  | _, _ => false
def aConvert (P : Program) (s : St) (o : Oper) (t u : TypeId) (x : Operand) : Option (AVal × Chg) :=
  match (s.ev x).dem with
  | .c (.f (.row cs len)) => if cvBytes P t u && decide (cs.length = len) then
      match bytesOf cs with
      | some l => some (.c (.f (.v (.string ⟨l.toArray⟩))), {})
      | none => none
    else none
  | _ => aPlain P s o
theorem aConvert_sim {P : Program} {s : St} {o : Oper} {t u : TypeId} {x : Operand} {r : AVal} {ch : Chg} (ho : o.op = .convert t u x) (h : aConvert P s o t u x = some (r, ch)) : Sim P o s r ch := by
  unfold aConvert at h
  split at h
  · rename_i cs len he
    split at h
    · rename_i hc
      rw [Bool.and_eq_true] at hc
      split at h
      · rename_i l hl
        injection h with h; injection h with e1 e2; subst e1; subst e2
        refine Sim.still fun a w κ ρ hR => ?_
        obtain ⟨h1, h2⟩ := bytesOf_get cs l hl
        obtain ⟨g, oo, cap, hv, hcap, hrow⟩ | ⟨rfl, rfl, hv⟩ := hR.at_row he
        rotate_left
        · have hl0 : l = [] := List.eq_nil_of_length_eq_zero (by simpa using h1)
          subst hl0
          have hcv := hc.1
          unfold cvBytes at hcv
          split at hcv
          · rename_i e hs hd
            split at hcv
            · rename_i hee
              have hrun := run_conv_nil (P := P) w t u e hs hee hd
              exact ⟨_, by simp [execOp, ho, hv, hrun], fun d => RepF.v _ rfl, rfl⟩
            · cases hcv
          · cases hcv
        have hlen : cs.length = len := by simpa using hc.2
        have hcv := hc.1
        unfold cvBytes at hcv
        split at hcv
        · rename_i e hs hd
          split at hcv
          · rename_i hee
            have hrun := run_convert_bytes_back (P := P) w t u e ⟨g, oo, none⟩ cap l hs hee hd (fun j hj => by
              rw [Addr.add_mid]
              obtain ⟨v, hc1, hc2⟩ := hrow.cell j (by omega)
              rw [h2 j (by omega) hj] at hc2
              rw [hc1, (repF_v.1 hc2).1])
            rw [h1, hlen] at hrun
            exact ⟨_, by simp [execOp, ho, hv, hrun], fun d => RepF.v _ rfl, rfl⟩
          · cases hcv
        · cases hcv
      · cases h
    · cases h
  · exact aPlain_sim h
end Go.Proofs.Ythnfliopmjpdmaa.Av
