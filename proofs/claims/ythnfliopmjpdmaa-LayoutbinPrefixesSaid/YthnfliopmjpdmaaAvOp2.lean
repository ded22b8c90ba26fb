/- Operations on values without addresses: loads, places, parts, lengths, slices. -/
import Derived.Test.YthnfliopmjpdmaaAvOp
namespace Go.Proofs.Ythnfliopmjpdmaa.Av
set_option linter.unusedVariables false

/-- Of a type: is it a struct or an array, and how many cells has it? -/
def tsz (P : Program) (t : TypeId) : Option (Bool × Nat) :=
  match P.underlying t, P.info? t with
  | some d, some i => some (d.isRow, i.size)
  | _, _ => none
theorem tsz_of {P : Program} {t : TypeId} {b : Bool} {n : Nat} (h : tsz P t = some (b, n)) : ∃ d i, P.underlying t = some d ∧ P.info? t = some i ∧ d.isRow = b ∧ i.size = n := by
  unfold tsz at h
  split at h
  · rename_i d i h1 h2
    injection h with h
    injection h with h3 h4
    exact ⟨d, i, h1, h2, h3, h4⟩
  · cases h
theorem run_isAgg {P : Program} {t : TypeId} {d : TypeDesc} (h : P.underlying t = some d) (w : World) : (isAgg t).run P w = .ok d.isRow w := by
  unfold isAgg
  rw [Sem.run_bind, run_underlying h w]
  cases d <;> rfl
theorem run_loadAt_one {P : Program} (w : World) (g o : Nat) (t : TypeId) {n : Nat} (ht : tsz P t = some (false, n)) {v : Value} (hc : w.cell? ⟨g, o, none⟩ = some v) :
    (Instr.loadAt t (.pointer (some ⟨g, o, none⟩))).run P w = .ok v w := by
  obtain ⟨d, i, h1, h2, h3, h4⟩ := tsz_of ht
  have := run_isAgg h1 w
  rw [h3] at this
  simp only [Instr.loadAt, Instr.sureAddr, loadVar, Sem.run_bind, Sem.run_pure, Result.andThen_ok, this]
  simp [load, Sem.run, hc]
theorem run_loadAt_row {P : Program} (w : World) (g o : Nat) (t : TypeId) {n : Nat} (ht : tsz P t = some (true, n)) {vs : List Value} (hn : vs.length = n) (hc : w.rangeAt g o vs) :
    (Instr.loadAt t (.pointer (some ⟨g, o, none⟩))).run P w = .ok (.agg vs.toArray) w := by
  obtain ⟨d, i, h1, h2, h3, h4⟩ := tsz_of ht
  exact run_loadAt_mid w g o t vs d hc h1 h3 (by rw [h2]; simp [h4, hn])
section
variable {w w' : World} {κ κ' : Nat → BK} {ρ ρ' : Nat → Nat} {l l' : Loc} {s : St} {a : Act}
/-- The cells of a part of a row. -/
theorem RowAt.part {g o : Nat} {cs : List FVal} (h : RowAt w κ g o cs) (off n : Nat) (hn : off + n ≤ cs.length) :
    ∃ vs : List Value, vs.length = n ∧ w.rangeAt g (o + off) vs ∧ ∀ i (hi : i < n) (h' : i < vs.length), RepF w κ (cs[off + i]'(by omega)) vs[i] := by
  refine ⟨(List.range n).map fun i => if hh : off + i < cs.length then (h.cell (off + i) hh).choose else default, by simp, fun j v hv => ?_, fun i hi hi' => ?_⟩
  · rw [List.getElem?_map] at hv
    rcases Nat.lt_or_ge j n with hj | hj
    · rw [List.getElem?_range hj] at hv
      have hh : off + j < cs.length := by omega
      simp only [Option.map_some, hh, dite_true, Option.some.injEq] at hv
      rw [← hv, Nat.add_assoc]
      exact (h.cell (off + j) hh).choose_spec.1
    · rw [List.getElem?_eq_none (by simpa using hj)] at hv; cases hv
  · have hh : off + i < cs.length := by omega
    simp only [List.getElem_map, List.getElem_range, hh, dite_true]
    exact (h.cell (off + i) hh).choose_spec.2
theorem Blk.cell {b : Nat} {cs : List CVal} (h : Blk w κ ρ b cs) (i : Nat) (hi : i < cs.length) : ∃ v, w.cell? ⟨ρ b, i, none⟩ = some v ∧ RepC w κ ρ (.cell b i) cs[i] v := by
  obtain ⟨_, c, e, h1, h2, h3⟩ := h
  have hi' : i < c.size := by omega
  refine ⟨c[i], ?_, h3 i hi hi'⟩
  simp [World.cell?, h1, hi']
theorem Blk.part {b : Nat} {cs : List CVal} (h : Blk w κ ρ b cs) (off n : Nat) (hn : off + n ≤ cs.length) :
    ∃ vs : List Value, vs.length = n ∧ w.rangeAt (ρ b) off vs ∧ ∀ i (hi : i < n) (h' : i < vs.length), RepC w κ ρ (.cell b (off + i)) (cs[off + i]'(by omega)) vs[i] := by
  obtain ⟨_, c, e, h1, h2, h3⟩ := h
  refine ⟨(c.extract off (off + n)).toList, by simp; omega, fun j v hv => ?_, fun i hi hi' => ?_⟩
  · rw [Array.getElem?_toList, Array.getElem?_extract] at hv
    split at hv
    · simp only [World.cell?, h1]
      simpa using hv
    · cases hv
  · have hlt : off + i < c.size := by omega
    simp only [Array.getElem_toList, Array.getElem_extract]
    exact h3 (off + i) (by omega) hlt
theorem heap_ok {H : List (Option (List CVal))} (h : RelH H w κ ρ) {b : Nat} {cs : List CVal} (hb : H[b]? = some (some cs)) (i : Nat) (hi : i < cs.length) : cs[i].ok H.length = true := h.ok b cs hb _ (List.getElem_mem hi)
end
def aLoad (P : Program) (tr : Bool) (s : St) (t : TypeId) (x : Operand) : Option (AVal × Chg) :=
  match tsz P t, s.ev x with
  | some (false, _), .c (.ip cs off) => match cs[off]? with
    | some y => some (.c (.f y), {})
    | none => none
  | some (true, n), .c (.ip cs off) => if off + n ≤ cs.length then some (.agg (((cs.drop off).take n).map CVal.f), {}) else none
  | some (false, _), .c (.ptr b off) => match s.H[b]? with
    | some (some cells) => match cells[off]? with
      | some y => match tr, y with
        | true, .tip sz cs len => some (.c (.tip sz cs len), { blk := some (b, cells.modify off CVal.dem) })
        | _, _ => some (.c y.dem, {})
      | none => none
    | _ => none
  | some (true, n), .c (.ptr b off) => match s.H[b]? with
    | some (some cells) => if off + n ≤ cells.length then some (.agg (((cells.drop off).take n).map CVal.dem), {}) else none
    | _ => none
  | _, _ => none
theorem exec_load {P : Program} {ev : Operand → Value} {o : Oper} {t : TypeId} {x : Operand} (ho : o.op = .load t x) {v : Value} {w w' : World} (h : (Instr.loadAt t (ev x)).run P w = .ok v w') : (execOp ev o).run P w = .ok (.value v) w' := by
  simp [execOp, ho, h]
theorem Rel.at_ip {s : St} {a : Act} {w : World} {κ : Nat → BK} {ρ : Nat → Nat} (h : Rel s a w κ ρ) {x : Operand} {cs : List FVal} {off : Nat} (e : s.ev x = .c (.ip cs off)) : ∃ g o, a.eval x = .pointer (some ⟨g, o + off, none⟩) ∧ RowAt w κ g o cs := by
  have := h.ev (l := .slot 0) x
  rw [e] at this
  exact this
theorem Rel.at_ptr {s : St} {a : Act} {w : World} {κ : Nat → BK} {ρ : Nat → Nat} (h : Rel s a w κ ρ) {x : Operand} {b off : Nat} (e : s.ev x = .c (.ptr b off)) : a.eval x = .pointer (some ⟨ρ b, off, none⟩) := by
  have := h.ev (l := .slot 0) x
  rw [e] at this
  exact this
theorem Rel.at_arr {s : St} {a : Act} {w : World} {κ : Nat → BK} {ρ : Nat → Nat} (h : Rel s a w κ ρ) {x : Operand} {b off len cap : Nat} (e : (s.ev x).dem = .c (.arr b off len cap)) : a.eval x = .slice (some ⟨ρ b, off, none⟩) len cap := by
  have := h.ev (l := .slot 0) x
  rw [e] at this
  exact this
theorem Rel.at_row {s : St} {a : Act} {w : World} {κ : Nat → BK} {ρ : Nat → Nat} (h : Rel s a w κ ρ) {x : Operand} {cs : List FVal} {len : Nat} (e : (s.ev x).dem = .c (.f (.row cs len))) : (∃ g o cap, a.eval x = .slice (some ⟨g, o, none⟩) len cap ∧ len ≤ cap ∧ RowAt w κ g o cs) ∨ (cs = [] ∧ len = 0 ∧ a.eval x = .slice none 0 0) := by
  have := h.ev (l := .slot 0) x
  rw [e] at this
  exact repF_row.1 this
theorem ok_take_f (n off : Nat) (cs : List FVal) (m : Nat) : (AVal.agg (((cs.drop off).take n).map CVal.f)).ok m = true := by
  simp only [AVal.ok, List.all_eq_true]
  intro y hy
  obtain ⟨z, _, rfl⟩ := List.mem_map.1 hy
  rfl
theorem aLoad_sim {P : Program} {s : St} {o : Oper} {tr : Bool} {t : TypeId} {x : Operand} {r : AVal} {ch : Chg} (ho : o.op = .load t x) (h : aLoad P tr s t x = some (r, ch)) : Sim P o s r ch := by
  unfold aLoad at h
  split at h
  · rename_i n cs off ht he
    split at h
    · rename_i y hy
      injection h with h; injection h with h1 h2; subst h1; subst h2
      refine Sim.still fun a w κ ρ hR => ?_
      obtain ⟨g, oo, hv, hrow⟩ := hR.at_ip he
      obtain ⟨hi, hyy⟩ := List.getElem?_eq_some_iff.1 hy
      obtain ⟨v, hc, hr⟩ := hrow.cell off hi
      rw [hyy] at hr
      exact ⟨v, exec_load ho (by rw [hv]; exact run_loadAt_one w g (oo + off) t ht hc), fun d => hr, rfl⟩
    · cases h
  · rename_i n cs off ht he
    split at h
    · rename_i hn
      injection h with h; injection h with h1 h2; subst h1; subst h2
      refine Sim.still fun a w κ ρ hR => ?_
      obtain ⟨g, oo, hv, hrow⟩ := hR.at_ip he
      obtain ⟨vs, hl, hra, hre⟩ := hrow.part off n hn
      refine ⟨.agg vs.toArray, exec_load ho (by rw [hv]; exact run_loadAt_row w g (oo + off) t ht hl hra), fun d => ⟨vs.toArray, rfl, by simp; omega, fun i hi hi' => ?_⟩, ok_take_f _ _ _ _⟩
      have hi2 : i < n := by simp at hi; omega
      refine ⟨by rw [List.getElem_map]; rfl, ?_⟩
      have := hre i hi2 (by omega)
      simp only [List.getElem_map, List.getElem_take, List.getElem_drop]
      exact this
    · cases h
  · rename_i n b off ht he
    split at h
    · rename_i cells hb
      split at h
      · rename_i y hy
        obtain ⟨hi, hyy⟩ := List.getElem?_eq_some_iff.1 hy
        split at h
        · rename_i sz cs len
          injection h with h; injection h with h1 h2; subst h1; subst h2
          intro a w κ ρ hR
          obtain ⟨v, hc, hr⟩ := (hR.heap.blk b cells hb).cell off hi
          rw [hyy] at hr
          obtain ⟨g, cap, rfl, hT⟩ | hn := hr
          rotate_left
          · exact ⟨v, w, κ, ρ, .inl (exec_load ho (by rw [hR.at_ptr he]; exact run_loadAt_one w _ off t ht hc)), hR.dem_cell hb, fun d hd => .inr hn, rfl, Fr.refl _ _, fun _ _ => rfl⟩
          have m := mv_label (w := w) (ρ := ρ) (n := s.H.length) hT.own (.slot (o.dst.getD 0))
          refine ⟨_, w, _, ρ, .inl (exec_load ho (by rw [hR.at_ptr he]; exact run_loadAt_one w _ off t ht hc)), hR.mv_cell hb m hT.own, fun d hd => ?_, rfl, m.fr, fun _ _ => rfl⟩
          rw [hd]
          exact .inl ⟨g, cap, rfl, hT.label _⟩
        · injection h with h; injection h with h1 h2; subst h1; subst h2
          refine Sim.still fun a w κ ρ hR => ?_
          obtain ⟨v, hc, hr⟩ := (hR.heap.blk b cells hb).cell off hi
          rw [hyy] at hr
          exact ⟨v, exec_load ho (by rw [hR.at_ptr he]; exact run_loadAt_one w _ off t ht hc), fun d => RepC.dem hr, CVal.dem_ok _ (hyy ▸ heap_ok hR.heap hb off hi)⟩
      · cases h
    · cases h
  · rename_i n b off ht he
    split at h
    · rename_i cells hb
      split at h
      · rename_i hn
        injection h with h; injection h with h1 h2; subst h1; subst h2
        refine Sim.still fun a w κ ρ hR => ?_
        obtain ⟨vs, hl, hra, hre⟩ := (hR.heap.blk b cells hb).part off n hn
        refine ⟨.agg vs.toArray, exec_load ho (by rw [hR.at_ptr he]; exact run_loadAt_row w _ off t ht hl hra), fun d => ⟨vs.toArray, rfl, by simp; omega, fun i hi hi' => ?_⟩, ?_⟩
        · have hi2 : i < n := by simp at hi; omega
          refine ⟨by rw [List.getElem_map]; exact CVal.dem_flat _, ?_⟩
          have := hre i hi2 (by omega)
          simp only [List.getElem_map, List.getElem_take, List.getElem_drop]
          exact RepC.dem this
        · simp only [AVal.ok, List.all_eq_true]
          intro y hy
          obtain ⟨z, hz, rfl⟩ := List.mem_map.1 hy
          exact CVal.dem_ok _ (hR.heap.ok b cells hb z (List.mem_of_mem_drop (List.mem_of_mem_take hz)))
      · cases h
    · cases h
  · cases h

/-- The place of a field. -/
def fldOff (P : Program) (t : TypeId) (f : Nat) : Option Nat :=
  match P.underlying t with
  | some (.struct fields) => match fields[f]? with
    | some fd => match P.info? fd.type with
      | some i => if i.size = 0 then none else some fd.offset
      | none => none
    | none => none
  | _ => none
theorem run_fieldAt {P : Program} {t : TypeId} {f k : Nat} (h : fldOff P t f = some k) (w : World) (g o : Nat) :
    (Instr.fieldAt t (.pointer (some ⟨g, o, none⟩)) f).run P w = .ok (.pointer (some ⟨g, o + k, none⟩)) w := by
  unfold fldOff at h
  split at h
  · rename_i fields hu
    split at h
    · rename_i fd hf
      split at h
      · rename_i i hi
        split at h
        · cases h
        · rename_i hz
          injection h with h
          subst h
          simp [Instr.fieldAt, run_underlying hu w, hf, Instr.sureAddr, fieldPlace, sizeOf, typeInfo, program, Sem.run, hi, hz, Addr.add_mid]
      · cases h
    · cases h
  · cases h
def aFieldAddr (P : Program) (s : St) (t : TypeId) (x : Operand) (f : Nat) : Option (AVal × Chg) :=
  match fldOff P t f, s.ev x with
  | some k, .c (.ip cs off) => some (.c (.ip cs (off + k)), {})
  | some k, .c (.ptr b off) => some (.c (.ptr b (off + k)), {})
  | _, _ => none
theorem aFieldAddr_sim {P : Program} {s : St} {o : Oper} {t : TypeId} {x : Operand} {f : Nat} {r : AVal} {ch : Chg} (ho : o.op = .fieldAddr t x f) (h : aFieldAddr P s t x f = some (r, ch)) : Sim P o s r ch := by
  unfold aFieldAddr at h
  split at h
  · rename_i k cs off hk he
    injection h with h; injection h with h1 h2; subst h1; subst h2
    refine Sim.still fun a w κ ρ hR => ?_
    obtain ⟨g, oo, hv, hrow⟩ := hR.at_ip he
    exact ⟨.pointer (some ⟨g, oo + off + k, none⟩), by simp [execOp, ho, hv, run_fieldAt hk], fun d => ⟨g, oo, by rw [Nat.add_assoc], hrow⟩, rfl⟩
  · rename_i k b off hk he
    injection h with h; injection h with h1 h2; subst h1; subst h2
    refine Sim.still fun a w κ ρ hR => ?_
    have hv := hR.at_ptr he
    exact ⟨_, by simp [execOp, ho, hv, run_fieldAt hk], fun d => rfl, by have := hR.ev_ok x; rw [he] at this; exact this⟩
  · cases h

/-- Of a slice's type: the cells of an element; of an array's: its length too. -/
def elemSz (P : Program) (t : TypeId) : Option Nat :=
  match P.underlying t with
  | some (.slice e) => match P.info? e with
    | some i => some i.size
    | none => none
  | _ => none
def arrOf (P : Program) (t : TypeId) : Option (Nat × Nat) :=
  match P.underlying t with
  | some (.array n e) => match P.info? e with
    | some i => some (n, i.size)
    | none => none
  | _ => none
theorem elemSz_of {P : Program} {t : TypeId} {z : Nat} (h : elemSz P t = some z) : ∃ e i, P.underlying t = some (.slice e) ∧ P.info? e = some i ∧ i.size = z := by
  unfold elemSz at h
  split at h
  · rename_i e hu
    split at h
    · rename_i i hi; injection h with h; exact ⟨e, i, hu, hi, h⟩
    · cases h
  · cases h
theorem arrOf_of {P : Program} {t : TypeId} {n z : Nat} (h : arrOf P t = some (n, z)) : ∃ e i, P.underlying t = some (.array n e) ∧ P.info? e = some i ∧ i.size = z := by
  unfold arrOf at h
  split at h
  · rename_i m e hu
    split at h
    · rename_i i hi; injection h with h; injection h with h1 h2; subst h1; exact ⟨e, i, hu, hi, h2⟩
    · cases h
  · cases h
theorem run_indexAt_slice {P : Program} {t : TypeId} {z : Nat} (ht : elemSz P t = some z) (w : World) (g o len cap : Nat) (k : IntKind) (n : Int) (h0 : 0 ≤ n) (h1 : n < len) :
    (Instr.indexAt t (.slice (some ⟨g, o, none⟩) len cap) (.int k n)).run P w = .ok (.pointer (some ⟨g, o + n.toNat * z, none⟩)) w := by
  obtain ⟨e, i, hu, hi, hz⟩ := elemSz_of ht
  simp [Instr.indexAt, asIntOf, run_underlying hu w, sizeOf, typeInfo, program, Sem.run, hi, hz, h0, h1, Addr.add_mid]
theorem run_indexAt_array {P : Program} {t : TypeId} {m z : Nat} (ht : arrOf P t = some (m, z)) (w : World) (g o : Nat) (k : IntKind) (n : Int) (h0 : 0 ≤ n) (h1 : n < m) :
    (Instr.indexAt t (.pointer (some ⟨g, o, none⟩)) (.int k n)).run P w = .ok (.pointer (some ⟨g, o + n.toNat * z, none⟩)) w := by
  obtain ⟨e, i, hu, hi, hz⟩ := arrOf_of ht
  simp [Instr.indexAt, asIntOf, run_underlying hu w, Instr.sureAddr, sizeOf, typeInfo, program, Sem.run, hi, hz, h0, h1, Addr.add_mid]
/-- An index, as a number. -/
def AVal.ix : AVal → Option Int
  | .c (.f (.v (.int _ n))) => some n
  | _ => none
theorem Rel.at_ix {s : St} {a : Act} {w : World} {κ : Nat → BK} {ρ : Nat → Nat} (h : Rel s a w κ ρ) {x : Operand} {n : Int} (e : (s.ev x).ix = some n) : ∃ k, a.eval x = .int k n := by
  unfold AVal.ix at e
  split at e
  · rename_i k m he
    injection e with e
    subst e
    exact ⟨k, h.toV (by rw [he]; rfl)⟩
  · cases e
def aIndexAddr (P : Program) (s : St) (t : TypeId) (x i : Operand) : Option (AVal × Chg) :=
  match (s.ev i).ix with
  | some n => if 0 ≤ n then
      match elemSz P t, arrOf P t, (s.ev x).dem with
      | some z, _, .c (.f (.row cs len)) => if n < len then some (.c (.ip cs (n.toNat * z)), {}) else none
      | some z, _, .c (.arr b off len _) => if n < len then some (.c (.ptr b (off + n.toNat * z)), {}) else none
      | none, some (m, z), .c (.ptr b off) => if n < m then some (.c (.ptr b (off + n.toNat * z)), {}) else none
      | none, some (m, z), .c (.ip cs off) => if n < m then some (.c (.ip cs (off + n.toNat * z)), {}) else none
      | _, _, _ => none
    else none
  | none => none
theorem dem_ptr {x : AVal} {b off : Nat} (h : x.dem = .c (.ptr b off)) : x = .c (.ptr b off) := by
  cases x with
  | c x => cases x <;> first | exact h | cases h
  | agg cs => cases h
  | tup ts => cases h
theorem dem_ip {x : AVal} {cs : List FVal} {off : Nat} (h : x.dem = .c (.ip cs off)) : x = .c (.ip cs off) := by
  cases x with
  | c x => cases x <;> first | exact h | cases h
  | agg cs => cases h
  | tup ts => cases h
theorem dem_arr {x : AVal} {b off len cap : Nat} (h : x.dem = .c (.arr b off len cap)) : x = .c (.arr b off len cap) := by
  cases x with
  | c x => cases x <;> first | exact h | cases h
  | agg cs => cases h
  | tup ts => cases h
theorem aIndexAddr_sim {P : Program} {s : St} {o : Oper} {t : TypeId} {x i : Operand} {r : AVal} {ch : Chg} (ho : o.op = .indexAddr t x i) (h : aIndexAddr P s t x i = some (r, ch)) : Sim P o s r ch := by
  unfold aIndexAddr at h
  split at h
  · rename_i n hn
    split at h
    · rename_i h0
      split at h
      · rename_i _ z cs len hz he
        split at h
        · rename_i h1
          injection h with h; injection h with e1 e2; subst e1; subst e2
          refine Sim.still fun a w κ ρ hR => ?_
          obtain ⟨g, oo, cap, hv, hcap, hrow⟩ | ⟨_, hl0, _⟩ := hR.at_row he
          rotate_left
          · omega
          obtain ⟨k, hk⟩ := hR.at_ix hn
          exact ⟨_, by simp [execOp, ho, hv, hk, run_indexAt_slice hz w g oo len cap k n h0 h1], fun d => ⟨g, oo, rfl, hrow⟩, rfl⟩
        · cases h
      · rename_i _ z b off len cap hz he
        split at h
        · rename_i h1
          injection h with h; injection h with e1 e2; subst e1; subst e2
          refine Sim.still fun a w κ ρ hR => ?_
          have hv := hR.at_arr he
          obtain ⟨k, hk⟩ := hR.at_ix hn
          exact ⟨_, by simp [execOp, ho, hv, hk, run_indexAt_slice hz w _ off len cap k n h0 h1], fun d => rfl, by have := hR.ev_ok x; rw [dem_arr he] at this; exact this⟩
        · cases h
      · rename_i m z b off hz _ he
        split at h
        · rename_i h1
          injection h with h; injection h with e1 e2; subst e1; subst e2
          refine Sim.still fun a w κ ρ hR => ?_
          have hv := hR.at_ptr (dem_ptr he)
          obtain ⟨k, hk⟩ := hR.at_ix hn
          exact ⟨_, by simp [execOp, ho, hv, hk, run_indexAt_array ‹arrOf P t = some (m, z)› w _ off k n h0 h1], fun d => rfl, by have := hR.ev_ok x; rw [dem_ptr he] at this; exact this⟩
        · cases h
      · rename_i m z cs off hz _ he
        split at h
        · rename_i h1
          injection h with h; injection h with e1 e2; subst e1; subst e2
          refine Sim.still fun a w κ ρ hR => ?_
          obtain ⟨g, oo, hv, hrow⟩ := hR.at_ip (dem_ip he)
          obtain ⟨k, hk⟩ := hR.at_ix hn
          exact ⟨.pointer (some ⟨g, oo + off + n.toNat * z, none⟩), by simp [execOp, ho, hv, hk, run_indexAt_array ‹arrOf P t = some (m, z)› w g (oo + off) k n h0 h1], fun d => ⟨g, oo, by rw [Nat.add_assoc], hrow⟩, rfl⟩
        · cases h
      · cases h
    · cases h
  · cases h

def aNil (s : St) (x : Operand) : Option (AVal × Chg) :=
  match s.ev x with
  | .c (.ip cs off) => some (.c (.ip cs off), {})
  | .c (.ptr b off) => some (.c (.ptr b off), {})
  | _ => none
theorem aNil_sim {P : Program} {s : St} {o : Oper} {x : Operand} {r : AVal} {ch : Chg} (ho : o.op = .nilCheck x) (h : aNil s x = some (r, ch)) : Sim P o s r ch := by
  unfold aNil at h
  split at h
  · rename_i cs off he
    injection h with h; injection h with e1 e2; subst e1; subst e2
    refine Sim.still fun a w κ ρ hR => ?_
    obtain ⟨g, oo, hv, hrow⟩ := hR.at_ip he
    exact ⟨_, by simp only [execOp, ho, hv]; rfl, fun d => ⟨g, oo, rfl, hrow⟩, rfl⟩
  · rename_i b off he
    injection h with h; injection h with e1 e2; subst e1; subst e2
    refine Sim.still fun a w κ ρ hR => ?_
    have hv := hR.at_ptr he
    exact ⟨_, by simp only [execOp, ho, hv]; rfl, fun d => rfl, by have := hR.ev_ok x; rw [he] at this; exact this⟩
  · cases h

def TVal.a : TVal → AVal
  | .c x => .c x
  | .agg cs => .agg cs
theorem RepT.a {w : World} {κ : Nat → BK} {ρ : Nat → Nat} {l l' : Loc} : ∀ {x : TVal} {v : Value}, RepT w κ ρ l x v → RepA w κ ρ l' x.a v
  | .c x, v, h => h.2.loc h.1
  | .agg cs, v, h => RepT.loc (x := .agg cs) h
def aExtract (s : St) (x : Operand) (i : Nat) : Option (AVal × Chg) :=
  match s.ev x with
  | .tup ts => match ts[i]? with
    | some y => some (y.a, {})
    | none => none
  | _ => none
theorem aExtract_sim {P : Program} {s : St} {o : Oper} {x : Operand} {i : Nat} {r : AVal} {ch : Chg} (ho : o.op = .extract x i) (h : aExtract s x i = some (r, ch)) : Sim P o s r ch := by
  unfold aExtract at h
  split at h
  · rename_i ts he
    split at h
    · rename_i y hy
      obtain ⟨hi, hyy⟩ := List.getElem?_eq_some_iff.1 hy
      injection h with h; injection h with e1 e2; subst e1; subst e2
      refine Sim.still fun a w κ ρ hR => ?_
      have h1 := hR.ev (l := .slot 0) x
      rw [he] at h1
      obtain ⟨vs, hv, hs, hr⟩ := h1
      have hi' : i < vs.size := by omega
      refine ⟨vs[i], by simp [execOp, ho, hv, Instr.extract, hi'], fun d => ?_, ?_⟩
      · have := hr i hi hi'
        rw [hyy] at this
        exact this.a
      · have := hR.ev_ok x
        rw [he] at this
        have := List.all_eq_true.1 this y (hyy ▸ List.getElem_mem hi)
        cases y <;> exact this
    · cases h
  · cases h
/-- A part of an aggregate. -/
def aPart (cs : List CVal) (off : Nat) : Option (Bool × Nat) → Option AVal
  | some (false, _) => match cs[off]? with
    | some y => some (.c y)
    | none => none
  | some (true, n) => if off + n ≤ cs.length then some (.agg ((cs.drop off).take n)) else none
  | none => none
theorem aPart_run {P : Program} {w : World} {κ : Nat → BK} {ρ : Nat → Nat} {l l' : Loc} {cs : List CVal} {vs : Array Value} {off : Nat} {t : TypeId} {r : AVal} (hs : vs.size = cs.length) (hr : ∀ i (h : i < cs.length) (h' : i < vs.size), cs[i].flat = true ∧ RepC w κ ρ l cs[i] vs[i]) (h : aPart cs off (tsz P t) = some r) :
    ∃ v, (part t vs off).run P w = .ok v w ∧ RepA w κ ρ l' r v ∧ ∀ m, cs.all (CVal.ok m) = true → r.ok m = true := by
  cases ht : tsz P t with
  | none => rw [ht] at h; cases h
  | some bn =>
    obtain ⟨b, n⟩ := bn
    obtain ⟨d, i, h1, h2, h3, h4⟩ := tsz_of ht
    have hg := run_isAgg h1 w
    rw [h3] at hg
    rw [ht] at h
    cases b with
    | false =>
      simp only [aPart] at h
      split at h
      · rename_i y hy
        injection h with h; subst h
        obtain ⟨hi, hyy⟩ := List.getElem?_eq_some_iff.1 hy
        have hi' : off < vs.size := by omega
        refine ⟨vs[off], by simp [part, hg, hi'], ?_, fun m hm => hyy ▸ List.all_eq_true.1 hm _ (List.getElem_mem hi)⟩
        have := hr off hi hi'
        rw [hyy] at this
        exact this.2.loc this.1
      · cases h
    | true =>
      simp only [aPart] at h
      split at h
      · rename_i hn
        injection h with h; subst h
        refine ⟨.agg (vs.extract off (off + n)), by simp [part, hg, sizeOf, typeInfo, program, Sem.run, h2, h4], ⟨_, rfl, by simp; omega, fun j hj hj' => ?_⟩, fun m hm => ?_⟩
        · simp at hj
          simp only [List.getElem_take, List.getElem_drop, Array.getElem_extract]
          have := hr (off + j) (by omega) (by omega)
          exact ⟨this.1, this.2.loc this.1⟩
        · simp only [AVal.ok, List.all_eq_true] at *
          exact fun z hz => hm z (List.mem_of_mem_drop (List.mem_of_mem_take hz))
      · cases h
/-- A field of a struct's type: its place and its own type. -/
def fldAt (P : Program) (t : TypeId) (f : Nat) : Option (Nat × Option (Bool × Nat)) :=
  match P.underlying t with
  | some (.struct fields) => match fields[f]? with
    | some fd => some (fd.offset, tsz P fd.type)
    | none => none
  | _ => none
def aField (P : Program) (s : St) (t : TypeId) (x : Operand) (f : Nat) : Option (AVal × Chg) :=
  match fldAt P t f, s.ev x with
  | some (off, k), .agg cs => match aPart cs off k with
    | some r => some (r, {})
    | none => none
  | _, _ => none
theorem aField_sim {P : Program} {s : St} {o : Oper} {t : TypeId} {x : Operand} {f : Nat} {r : AVal} {ch : Chg} (ho : o.op = .field t x f) (h : aField P s t x f = some (r, ch)) : Sim P o s r ch := by
  unfold aField at h
  split at h
  · rename_i off k cs hf he
    split at h
    · rename_i r' hr'
      injection h with h; injection h with e1 e2; subst e1; subst e2
      unfold fldAt at hf
      split at hf
      · rename_i fields hu
        split at hf
        · rename_i fd hfd
          injection hf with hf; injection hf with e1 e2; subst e1; subst e2
          refine Sim.still fun a w κ ρ hR => ?_
          have h1 := hR.ev (l := .slot 0) x
          rw [he] at h1
          obtain ⟨vs, hv, hs, hr⟩ := h1
          obtain ⟨v, hrun, hrep, hok⟩ := aPart_run (l' := .slot 0) hs hr hr'
          obtain ⟨v2, hrun2, _, _⟩ := aPart_run (l' := .slot 0) hs hr hr'
          refine ⟨v, by simp [execOp, ho, hv, Instr.field, run_underlying hu w, hfd, asAgg, hrun], fun d => ?_, hok _ (by have := hR.ev_ok x; rw [he] at this; exact this)⟩
          obtain ⟨v3, hrun3, hrep3, _⟩ := aPart_run (l' := .slot d) hs hr hr'
          rw [hrun] at hrun3
          injection hrun3 with e3
          subst e3
          exact hrep3
        · cases hf
      · cases hf
    · cases h
  · cases h
def elemT (P : Program) (t : TypeId) : Option (Nat × Nat × Option (Bool × Nat)) :=
  match P.underlying t with
  | some (.array n e) => match P.info? e with
    | some i => some (n, i.size, tsz P e)
    | none => none
  | _ => none
def aIndex (P : Program) (s : St) (o : Oper) (t : TypeId) (x i : Operand) : Option (AVal × Chg) :=
  match elemT P t, s.ev x, (s.ev i).ix with
  | some (m, z, k), .agg cs, some n => if 0 ≤ n ∧ n < m then
      match aPart cs (n.toNat * z) k with
      | some r => some (r, {})
      | none => none
    else none
  | _, _, _ => aPlain P s o
theorem aIndex_sim {P : Program} {s : St} {o : Oper} {t : TypeId} {x i : Operand} {r : AVal} {ch : Chg} (ho : o.op = .index t x i) (h : aIndex P s o t x i = some (r, ch)) : Sim P o s r ch := by
  unfold aIndex at h
  split at h
  · rename_i m z k cs n hE he hn
    split at h
    · rename_i hb
      split at h
      · rename_i r' hr'
        injection h with h; injection h with e1 e2; subst e1; subst e2
        unfold elemT at hE
        split at hE
        · rename_i m' e hu
          split at hE
          · rename_i ii hi
            injection hE with hE; injection hE with e1 e2; injection e2 with e2 e3; subst e1; subst e2; subst e3
            refine Sim.still fun a w κ ρ hR => ?_
            have h1 := hR.ev (l := .slot 0) x
            rw [he] at h1
            obtain ⟨vs, hv, hs, hr⟩ := h1
            obtain ⟨kk, hk⟩ := hR.at_ix hn
            obtain ⟨v, hrun, hrep, hok⟩ := aPart_run (l' := .slot 0) hs hr hr'
            refine ⟨v, by simp [execOp, ho, hv, hk, Instr.index, asIntOf, run_underlying hu w, hb.1, hb.2, sizeOf, typeInfo, program, Sem.run, hi, hrun], fun d => ?_, hok _ (by have := hR.ev_ok x; rw [he] at this; exact this)⟩
            obtain ⟨v3, hrun3, hrep3, _⟩ := aPart_run (l' := .slot d) hs hr hr'
            rw [hrun] at hrun3
            injection hrun3 with e3
            subst e3
            exact hrep3
          · cases hE
        · cases hE
      · cases h
    · cases h
  · exact aPlain_sim h
end Go.Proofs.Ythnfliopmjpdmaa.Av
