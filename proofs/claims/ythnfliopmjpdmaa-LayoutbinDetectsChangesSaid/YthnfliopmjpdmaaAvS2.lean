/- One operation on symbolic values: what it yields, and what must hold for it. -/
import Derived.Test.YthnfliopmjpdmaaAvS1
namespace Go.Proofs.Ythnfliopmjpdmaa.Av
set_option linter.unusedVariables false
set_option linter.unusedSimpArgs false

/-- What an operation yields: the value; the slot that hands its slice on; the blocks; what it touches; what must hold. -/
structure SR : Type 1 where
  x : SV
  dm : Option (Nat × SE)
  H : Option SH
  cl : Cl
  p : Prop
def St.dmE (s : St) : Option (Nat × SE) → St
  | none => s
  | some (t, e) => s.put (some t) e.den
def St.setO (s : St) : Option SH → St
  | none => s
  | some H => s.setH (denH H)
def SR.upd (r : SR) (s : St) (d : Option Tmp) : St := ((s.dmE r.dm).setO r.H).put d r.x.den
/-- Equality of structs of numbers, strings and booleans. -/
inductive EK where
  | i
  | s
  | b
def eqVals : List EK → List Value → List Value → Option Bool
  | [], [], [] => some true
  | .i :: ks, .int .i64 a :: vs, .int .i64 b :: us => match eqVals ks vs us with
    | some r => some (decide (a = b) && r)
    | none => none
  | .s :: ks, .string a :: vs, .string b :: us => match eqVals ks vs us with
    | some r => some ((a.toList == b.toList) && r)
    | none => none
  | .b :: ks, .bool a :: vs, .bool b :: us => match eqVals ks vs us with
    | some r => some ((a == b) && r)
    | none => none
  | _, _, _ => none
theorem eqV_nil {vs us : List Value} {r : Bool} (h : eqVals [] vs us = some r) : vs = [] ∧ us = [] ∧ r = true := by
  unfold eqVals at h
  split at h <;> simp_all
theorem eqV_i {ks : List EK} {vs us : List Value} {r : Bool} (h : eqVals (.i :: ks) vs us = some r) : ∃ a vs' b us' q, vs = .int .i64 a :: vs' ∧ us = .int .i64 b :: us' ∧ eqVals ks vs' us' = some q ∧ r = (decide (a = b) && q) := by
  unfold eqVals at h
  split at h
  · rename_i h0; cases h0
  · rename_i h0
    injection h0 with _ h0; subst h0
    split at h
    · rename_i q hq
      injection h with h
      exact ⟨_, _, _, _, q, rfl, rfl, hq, h.symm⟩
    · cases h
  · rename_i h0; cases h0
  · rename_i h0; cases h0
  · cases h
theorem eqV_s {ks : List EK} {vs us : List Value} {r : Bool} (h : eqVals (.s :: ks) vs us = some r) : ∃ a vs' b us' q, vs = .string a :: vs' ∧ us = .string b :: us' ∧ eqVals ks vs' us' = some q ∧ r = ((a.toList == b.toList) && q) := by
  unfold eqVals at h
  split at h
  · rename_i h0; cases h0
  · rename_i h0; cases h0
  · rename_i h0
    injection h0 with _ h0; subst h0
    split at h
    · rename_i q hq
      injection h with h
      exact ⟨_, _, _, _, q, rfl, rfl, hq, h.symm⟩
    · cases h
  · rename_i h0; cases h0
  · cases h
theorem eqV_b {ks : List EK} {vs us : List Value} {r : Bool} (h : eqVals (.b :: ks) vs us = some r) : ∃ a vs' b us' q, vs = .bool a :: vs' ∧ us = .bool b :: us' ∧ eqVals ks vs' us' = some q ∧ r = ((a == b) && q) := by
  unfold eqVals at h
  split at h
  · rename_i h0; cases h0
  · rename_i h0; cases h0
  · rename_i h0; cases h0
  · rename_i h0
    injection h0 with _ h0; subst h0
    split at h
    · rename_i q hq
      injection h with h
      exact ⟨_, _, _, _, q, rfl, rfl, hq, h.symm⟩
    · cases h
  · cases h
def EqOk (P : Program) (t : TypeId) (ks : List EK) : Prop := P.eqGuardType P.depth t = false ∧ ∀ (vs us : List Value) (r : Bool), eqVals ks vs us = some r → ∀ w, (binOp .eql t (.agg vs.toArray) (.agg us.toArray)).run P w = .ok (.bool r) w ∧ (binOp .neq t (.agg vs.toArray) (.agg us.toArray)).run P w = .ok (.bool !r) w
def eqAll (P : Program) : List (Nat × List EK) → Prop
  | [] => True
  | p :: l => EqOk P p.1 p.2 ∧ eqAll P l
theorem eqAll_mem {P : Program} : ∀ {l : List (Nat × List EK)}, eqAll P l → ∀ p ∈ l, EqOk P p.1 p.2
  | [], _, p, hp => by cases hp
  | q :: l, h, p, hp => by
    rcases List.mem_cons.1 hp with rfl | hp
    · exact h.1
    · exact eqAll_mem h.2 p hp
/-- The table of the types. -/
structure Tb : Type 1 where
  sz : List (Nat × Bool × Nat)
  fo : List (Nat × List (Option Nat))
  fa : List (Nat × List (Nat × Option (Bool × Nat)))
  es : List (Nat × Nat)
  ms : List (Nat × Nat × Nat × List SC)
  bi : List (Nat × List SC × Pl)
  ze : List (Nat × List SC)
  st : List Nat
  it : List (Nat × IntKind)
  sl : List (Nat × Nat)
  eq : List (Nat × List EK)
  cb : List (Nat × Nat)
def lkN {β : Type _} : List (Nat × β) → Nat → Option β
  | [], _ => none
  | (d, e) :: l, t => match Nat.beq d t with
    | true => some e
    | false => lkN l t
def memN : List Nat → Nat → Bool
  | [], _ => false
  | d :: l, t => match Nat.beq d t with
    | true => true
    | false => memN l t
theorem lkN_mem {β : Type _} : ∀ {l : List (Nat × β)} {t : Nat} {r : β}, lkN l t = some r → (t, r) ∈ l
  | [], t, r, h => by cases h
  | (d, e) :: l, t, r, h => by
    unfold lkN at h
    split at h
    · rename_i hb
      injection h with h
      subst h
      rw [Nat.eq_of_beq_eq_true hb]
      exact List.mem_cons_self ..
    · exact List.mem_cons_of_mem _ (lkN_mem h)
theorem memN_mem : ∀ {l : List Nat} {t : Nat}, memN l t = true → t ∈ l
  | [], t, h => by cases h
  | d :: l, t, h => by
    unfold memN at h
    split at h
    · rename_i hb
      rw [Nat.eq_of_beq_eq_true hb]
      exact List.mem_cons_self ..
    · exact List.mem_cons_of_mem _ (memN_mem h)
/-- The table is that of the program. -/
structure Tb.Ok (T : Tb) (P : Program) : Prop where
  sz : (T.sz.map fun p => tsz P p.1) = T.sz.map fun p => some p.2
  fo : (T.fo.map fun p => (List.range p.2.length).map fun f => fldOff P p.1 f) = T.fo.map fun p => p.2
  fa : (T.fa.map fun p => (List.range p.2.length).map fun f => fldAt P p.1 f) = T.fa.map fun p => p.2.map some
  es : (T.es.map fun p => elemSz P p.1) = T.es.map fun p => some p.2
  ms : (T.ms.map fun p => mkInfo P p.1) = T.ms.map fun p => some (p.2.1, p.2.2.1, denL p.2.2.2)
  bi : (T.bi.map fun p => bInfo P p.1) = T.bi.map fun p => some (denL p.2.1, p.2.2)
  ze : (T.ze.map fun p => zeroC P p.1) = T.ze.map fun p => some (denL p.2)
  st : (T.st.map fun t => P.underlying t) = T.st.map fun _ => some .string
  it : (T.it.map fun p => P.underlying p.1) = T.it.map fun p => some (.int p.2)
  sl : (T.sl.map fun p => P.underlying p.1) = T.sl.map fun p => some (.slice p.2)
  eq : eqAll P T.eq
  cb : (T.cb.map fun p => cvBytes P p.1 p.2) = T.cb.map fun _ => true
theorem map_mem {α β : Type _} {f g : α → β} : ∀ {l : List α}, l.map f = l.map g → ∀ x ∈ l, f x = g x
  | [], _, x, h => by cases h
  | y :: l, e, x, h => by
    simp only [List.map_cons] at e
    injection e with e1 e2
    rcases List.mem_cons.1 h with rfl | h
    · exact e1
    · exact map_mem e2 x h
section
variable {T : Tb} {P : Program} (O : T.Ok P)
include O
theorem Tb.Ok.sz_of {t : Nat} {r : Bool × Nat} (h : lkN T.sz t = some r) : tsz P t = some r := map_mem O.sz _ (lkN_mem h)
theorem Tb.Ok.es_of {t : Nat} {r : Nat} (h : lkN T.es t = some r) : elemSz P t = some r := map_mem O.es _ (lkN_mem h)
theorem Tb.Ok.ms_of {t : Nat} {a b : Nat} {z : List SC} (h : lkN T.ms t = some (a, b, z)) : mkInfo P t = some (a, b, denL z) := map_mem O.ms _ (lkN_mem h)
theorem Tb.Ok.bi_of {t : Nat} {z : List SC} {p : Pl} (h : lkN T.bi t = some (z, p)) : bInfo P t = some (denL z, p) := map_mem O.bi _ (lkN_mem h)
theorem Tb.Ok.ze_of {t : Nat} {z : List SC} (h : lkN T.ze t = some z) : zeroC P t = some (denL z) := map_mem O.ze _ (lkN_mem h)
theorem Tb.Ok.st_of {t : Nat} (h : memN T.st t = true) : P.underlying t = some .string := map_mem O.st _ (memN_mem h)
theorem Tb.Ok.it_of {t : Nat} {k : IntKind} (h : lkN T.it t = some k) : P.underlying t = some (.int k) := map_mem O.it _ (lkN_mem h)
theorem Tb.Ok.sl_of {t : Nat} {e : Nat} (h : lkN T.sl t = some e) : P.underlying t = some (.slice e) := map_mem O.sl _ (lkN_mem h)
theorem Tb.Ok.eq_of {t : Nat} {ks : List EK} (h : lkN T.eq t = some ks) : EqOk P t ks := eqAll_mem O.eq _ (lkN_mem h)
theorem Tb.Ok.cb_of {t u : Nat} (h : lkN T.cb t = some u) : cvBytes P t u = true := map_mem O.cb _ (lkN_mem h)
theorem Tb.Ok.fo_of {t f k : Nat} {l : List (Option Nat)} (h : lkN T.fo t = some l) (h2 : l[f]? = some (some k)) : fldOff P t f = some k := by
  have h1 := map_mem O.fo _ (lkN_mem h)
  simp only at h1
  have h3 : ((List.range l.length).map fun f => fldOff P t f)[f]? = some (some k) := by rw [h1]; exact h2
  rw [List.getElem?_map] at h3
  obtain ⟨j, hj, e⟩ := Option.map_eq_some_iff.1 h3
  have := List.getElem?_range (n := l.length) (i := f) (by
    rcases Nat.lt_or_ge f l.length with h | h
    · exact h
    · rw [List.getElem?_eq_none h] at h2; cases h2)
  rw [this] at hj
  injection hj with hj
  subst hj
  exact e
theorem Tb.Ok.fa_of {t f : Nat} {r : Nat × Option (Bool × Nat)} {l : List (Nat × Option (Bool × Nat))} (h : lkN T.fa t = some l) (h2 : l[f]? = some r) : fldAt P t f = some r := by
  have h1 := map_mem O.fa _ (lkN_mem h)
  simp only at h1
  have h3 : ((List.range l.length).map fun f => fldAt P t f)[f]? = some (some r) := by rw [h1, List.getElem?_map, h2]; rfl
  rw [List.getElem?_map] at h3
  obtain ⟨j, hj, e⟩ := Option.map_eq_some_iff.1 h3
  have := List.getElem?_range (n := l.length) (i := f) (by
    rcases Nat.lt_or_ge f l.length with h | h
    · exact h
    · rw [List.getElem?_eq_none h] at h2; cases h2)
  rw [this] at hj
  injection hj with hj
  subst hj
  exact e
end
def nth0 {α : Type} : List α → Nat → Option α
  | [], _ => none
  | x :: _, 0 => some x
  | _ :: l, n + 1 => nth0 l n
theorem nth0_get {α : Type} : ∀ (l : List α) (n : Nat), nth0 l n = l[n]?
  | [], n => by simp [nth0]
  | x :: l, 0 => by simp [nth0]
  | x :: l, n + 1 => by simp [nth0, nth0_get l n]

/-- What an element's cells are is what they are seen as. -/
def VOk {α : Type} (z : Nat) (F : α → List FVal) (V : α → List SC) : Prop := ∀ x, (F x).length = z ∧ denL (V x) = (F x).map CVal.f
theorem VOk.nth {α : Type} {z : Nat} {F : α → List FVal} {V : α → List SC} (h : VOk z F V) {x : α} {k : Nat} {y : SC} (hy : nth (V x) k = some y) : k < z ∧ ∃ fv, (F x)[k]? = some fv ∧ y.den = .f fv := by
  obtain ⟨h1, h2⟩ := h x
  have h3 := nth_den hy
  rw [h2, List.getElem?_map] at h3
  obtain ⟨fv, h4, h5⟩ := Option.map_eq_some_iff.1 h3
  refine ⟨?_, fv, h4, h5.symm⟩
  have := (List.getElem?_eq_some_iff.1 h4).1
  omega
abbrev iV (k : IntKind) (n : Int) : SV := .c (.c (.f (.v (.int k n))))
abbrev bV (b : Bool) : SV := .c (.c (.f (.v (.bool b))))
abbrev sV (b : ByteArray) : SV := .c (.c (.f (.v (.string b))))
/-- What holds of a result. -/
def Snd (P : Program) (ops : Array Oper) (o : Oper) (s : St) (r : SR) : Prop := ∀ (rest : List Oper) (R : Rg), r.p → WR P ops rest (r.upd s o.dst) (R.push r.cl) → WR P ops (o :: rest) s R
section
variable {P : Program} {ops : Array Oper} {s : St} {d : Option Tmp} {ty : TypeId} {pos : String} {af : Array Edge} {T : Tb} {r : SR}
/-! ### Moves -/
def soMove (tr : Bool) (x : Operand) (v : SV) : Option SR :=
  match v with
  | .c (.c (.tip z cs n)) => match x with
    | .tmp t => match tr with
      | true => some ⟨.c (.c (.tip z cs n)), some (t, .v (.c (.c (.f (.row cs n))))), none, .dm, True⟩
      | false => some ⟨.c (.c (.f (.row cs n))), none, none, .q0, True⟩
    | _ => none
  | .c (.tipr z F V e l) => match x with
    | .tmp t => match tr with
      | true => some ⟨.c (.tipr z F V e l), some (t, .v (.c (.row z F V e l))), none, .dm, True⟩
      | false => some ⟨.c (.row z F V e l), none, none, .q0, True⟩
    | _ => none
  | .c x => some ⟨.c x, none, none, .q0, True⟩
  | .agg l => some ⟨.agg l, none, none, .q0, True⟩
  | .tup l => some ⟨.tup l, none, none, .q0, True⟩
def noTip : SC → Prop
  | .c (.tip ..) => False
  | .tipr .. => False
  | _ => True
theorem noTip_of {x : SC} (h : ∀ z cs n, x = .c (.tip z cs n) → False) (h2 : ∀ (α : Type) (z : Nat) (F : α → List FVal) (V : α → List SC) (d : α) (l : List α), x = .tipr z F V d l → False) : noTip x := by
  cases x with
  | c x => cases x <;> first | trivial | exact (h _ _ _ rfl).elim
  | tipr => exact (h2 _ _ _ _ _ _ rfl).elim
  | _ => trivial
theorem flat_c {x : SC} (h : noTip x) : x.den.flat = true := by
  cases x with
  | c x => cases x <;> first | rfl | exact h.elim
  | tipr => exact h.elim
  | _ => rfl
theorem soMove_ok {x : Operand} {v : SV} (hx : s.ev x = v.den) (h : soMove (feeds ops ⟨d, .move x, ty, pos, af, none⟩) x v = some r) : Snd P ops ⟨d, .move x, ty, pos, af, none⟩ s r := by
  intro rest R hp hk
  unfold soMove at h
  split at h
  · split at h
    · split at h
      · rename_i hf
        injection h with h; subst h
        exact R_move_tip hf hx hk
      · rename_i hf
        injection h with h; subst h
        exact R_move_row hf hx hk
    · cases h
  · split at h
    · split at h
      · rename_i hf
        injection h with h; subst h
        exact R_move_tip hf hx hk
      · rename_i hf
        injection h with h; subst h
        exact R_move_row hf hx hk
    · cases h
  · rename_i x' hne hne2
    injection h with h; subst h
    exact R_move hx (flat_c (noTip_of (fun z cs n e => hne z cs n (by rw [e])) (fun α z F V d l e => hne2 α z F V d l (by rw [e])))) hk
  · injection h with h; subst h
    exact R_move hx rfl hk
  · injection h with h; subst h
    exact R_move hx rfl hk
theorem soAssign_ok {x : Operand} {v : SV} (hx : s.ev x = v.den) (h : soMove true x v = some r) : Snd P ops ⟨d, .assign x, ty, pos, af, none⟩ s r := by
  intro rest R hp hk
  unfold soMove at h
  split at h
  · split at h
    · injection h with h; subst h
      exact R_assign_tip hx hk
    · cases h
  · split at h
    · injection h with h; subst h
      exact R_assign_tip hx hk
    · cases h
  · rename_i x' hne hne2
    injection h with h; subst h
    exact R_assign hx (flat_c (noTip_of (fun z cs n e => hne z cs n (by rw [e])) (fun α z F V d l e => hne2 α z F V d l (by rw [e])))) hk
  · injection h with h; subst h
    exact R_assign hx rfl hk
  · injection h with h; subst h
    exact R_assign hx rfl hk
/-! ### Places -/
def soNil (v : SV) : Option SR :=
  match v with
  | .c (.c (.ptr b off)) => some ⟨.c (.c (.ptr b off)), none, none, .q0, True⟩
  | .c (.c (.ip cs off)) => some ⟨.c (.c (.ip cs off)), none, none, .q0, True⟩
  | .c (.elt z F V d l i k) => some ⟨.c (.elt z F V d l i k), none, none, .q0, True⟩
  | .c (.pel b z i k) => some ⟨.c (.pel b z i k), none, none, .q0, True⟩
  | _ => none
theorem soNil_ok {x : Operand} {v : SV} (hx : s.ev x = v.den) (h : soNil v = some r) : Snd P ops ⟨d, .nilCheck x, ty, pos, af, none⟩ s r := by
  intro rest R hp hk
  unfold soNil at h
  split at h <;> first | (cases h; done) | (injection h with h; subst h)
  · exact R_nil_ptr hx hk
  · exact R_nil_ip hx hk
  · exact R_nil_ip hx hk
  · exact R_nil_ptr hx hk
def soFA (T : Tb) (t f : Nat) (v : SV) : Option SR :=
  match lkN T.fo t with
  | some l => match nth0 l f with
    | some (some j) => match v with
      | .c (.c (.ptr b off)) => some ⟨.c (.c (.ptr b (off + j))), none, none, .q0, True⟩
      | .c (.c (.ip cs off)) => some ⟨.c (.c (.ip cs (off + j))), none, none, .q0, True⟩
      | .c (.elt z F V d l i k) => some ⟨.c (.elt z F V d l i (k + j)), none, none, .q0, True⟩
      | .c (.pel b z i k) => some ⟨.c (.pel b z i (k + j)), none, none, .q0, True⟩
      | _ => none
    | _ => none
  | none => none
theorem soFA_ok (O : T.Ok P) {t f : Nat} {x : Operand} {v : SV} (hx : s.ev x = v.den) (h : soFA T t f v = some r) : Snd P ops ⟨d, .fieldAddr t x f, ty, pos, af, none⟩ s r := by
  intro rest R hp hk
  unfold soFA at h
  split at h
  · rename_i l hl
    split at h
    · rename_i j hj
      rw [nth0_get] at hj
      have hf := O.fo_of hl hj
      split at h <;> first | (cases h; done) | (injection h with h; subst h)
      · exact R_fa_ptr hf hx rfl hk
      · exact R_fa_ip hf hx rfl hk
      · exact R_fa_ip hf hx (Nat.add_assoc ..) hk
      · exact R_fa_ptr hf hx (Nat.add_assoc ..) hk
    · cases h
  · cases h
end
end Go.Proofs.Ythnfliopmjpdmaa.Av
