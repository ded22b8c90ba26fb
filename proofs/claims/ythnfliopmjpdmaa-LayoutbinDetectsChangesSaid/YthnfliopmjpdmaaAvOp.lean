/- The operations on values without addresses: moves, plain operations, loads and places. -/
import Derived.Test.YthnfliopmjpdmaaAvRel
import Derived.Deep.MidRow
namespace Go.Proofs.Ythnfliopmjpdmaa.Av
set_option linter.unusedVariables false

def ofC : Value → CVal
  | .slice none 0 0 => .f .nils
  | .agg _ => .any
  | .tuple _ => .any
  | x => .f (.v x)
def ofV : Value → AVal
  | .agg vs => .agg (vs.toList.map ofC)
  | x => .c (ofC x)
section
variable {w w' : World} {κ κ' : Nat → BK} {ρ ρ' : Nat → Nat} {l l' : Loc} {s : St} {a : Act}
theorem repC_ofC (x : Value) : RepC w κ ρ l (ofC x) x := by
  unfold ofC
  split
  · exact RepF.nils
  · trivial
  · trivial
  · rename_i h1 h2 h3
    refine RepF.v _ ?_
    cases x <;> first | rfl | exact absurd rfl (h2 _) | exact absurd rfl (h3 _)
theorem ofC_flat (x : Value) : (ofC x).flat = true := by unfold ofC; split <;> rfl
theorem ofC_ok (n : Nat) (x : Value) : (ofC x).ok n = true := by unfold ofC; split <;> rfl
theorem repA_ofV (x : Value) : RepA w κ ρ l (ofV x) x := by
  unfold ofV
  split
  · rename_i vs
    exact ⟨vs, rfl, by simp, fun i h h' => by
      rw [List.getElem_map, Array.getElem_toList]
      exact ⟨ofC_flat _, repC_ofC _⟩⟩
  · exact repC_ofC x
theorem ofV_ok (n : Nat) (x : Value) : (ofV x).ok n = true := by
  unfold ofV
  split
  · simp only [AVal.ok, List.all_eq_true]
    intro y hy
    obtain ⟨z, _, rfl⟩ := List.mem_map.1 hy
    exact ofC_ok n z
  · exact ofC_ok n x
theorem ofV_dem (x : Value) : (ofV x).dem = ofV x := by
  unfold ofV
  split
  · rfl
  · show AVal.c (CVal.dem _) = _
    rw [CVal.flat_dem (ofC_flat _)]

def St.ev (s : St) : Operand → AVal
  | .tmp t => s.sl t
  | .const v => ofV v
  | _ => .c .any
theorem Rel.ev_tmp (h : Rel s a w κ ρ) (t : Tmp) : RepA w κ ρ (.slot t) (s.ev (.tmp t)) (a.eval (.tmp t)) := by
  simp only [St.ev, Act.eval]
  rcases Nat.lt_or_ge t a.tmps.size with hlt | hge
  · simp only [Array.getD, hlt, dite_true]
    exact h.slot t hlt
  · rw [h.out t hge]
    trivial
theorem Rel.ev (h : Rel s a w κ ρ) (x : Operand) : RepA w κ ρ l (s.ev x).dem (a.eval x) := by
  cases x with
  | tmp t => exact RepA.dem (h.ev_tmp t)
  | const v => show RepA w κ ρ l (ofV v).dem v; rw [ofV_dem]; exact repA_ofV v
  | global g => trivial
  | func f => trivial
theorem Rel.ev_ok (h : Rel s a w κ ρ) (x : Operand) : (s.ev x).ok s.H.length = true := by
  cases x with
  | tmp t => exact h.ok t
  | const v => exact ofV_ok _ v
  | global g => rfl
  | func f => rfl
end
def FVal.toV : FVal → Option Value
  | .v x => some x
  | .nils => some (.slice none 0 0)
  | .row .. => none
def CVal.toV : CVal → Option Value
  | .f x => x.toV
  | _ => none
def toVs : List CVal → Option (List Value)
  | [] => some []
  | c :: cs => match c.toV, toVs cs with
    | some v, some vs => some (v :: vs)
    | _, _ => none
def AVal.toV : AVal → Option Value
  | .c x => x.toV
  | .agg cs => match toVs cs with
    | some vs => some (.agg vs.toArray)
    | none => none
  | .tup _ => none
section
variable {w w' : World} {κ κ' : Nat → BK} {ρ ρ' : Nat → Nat} {l l' : Loc} {s : St} {a : Act}
theorem CVal.toV_rep : ∀ {x : CVal} {v y : Value}, RepC w κ ρ l x v → x.toV = some y → v = y
  | .f (.v x), v, y, h, e => by
    have h1 := (repF_v.1 h).1
    injection e with e
    exact h1.trans e
  | .f .nils, v, y, h, e => by
    have h1 := repF_nils.1 h
    injection e with e
    exact h1.trans e
  | .f (.row ..), _, _, _, e => by cases e
  | .ip .., _, _, _, e => by cases e
  | .ptr .., _, _, _, e => by cases e
  | .arr .., _, _, _, e => by cases e
  | .tip .., _, _, _, e => by cases e
  | .und, _, _, _, e => by cases e
  | .any, _, _, _, e => by cases e
theorem toVs_rep : ∀ (cs : List CVal) (vs : List Value), toVs cs = some vs → vs.length = cs.length ∧ ∀ i (h : i < cs.length) (h' : i < vs.length), cs[i].toV = some vs[i]
  | [], vs, h => by
    injection h with h
    subst h
    exact ⟨rfl, fun i h => by simp at h⟩
  | c :: cs, vs, h => by
    unfold toVs at h
    split at h
    · rename_i v us e1 e2
      injection h with h
      subst h
      obtain ⟨h1, h2⟩ := toVs_rep cs us e2
      refine ⟨by simp [h1], fun i hi hi' => ?_⟩
      cases i with
      | zero => exact e1
      | succ i => exact h2 i (by simpa using hi) (by simpa using hi')
    · cases h
theorem AVal.toV_rep {x : AVal} {v y : Value} (h : RepA w κ ρ l x v) (e : x.toV = some y) : v = y := by
  cases x with
  | c x => exact CVal.toV_rep h e
  | agg cs =>
    obtain ⟨vs, rfl, hs, hi⟩ := h
    simp only [AVal.toV] at e
    split at e
    · rename_i us e1
      injection e with e
      subst e
      obtain ⟨h1, h2⟩ := toVs_rep cs us e1
      congr 1
      apply Array.ext
      · simp [hs, h1]
      · intro i hj hj'
        have hi1 : i < cs.length := by omega
        have hi2 : i < us.length := by omega
        have := CVal.toV_rep (hi i hi1 hj).2 (h2 i hi1 hi2)
        simpa using this
    · cases e
  | tup ts => cases e
theorem AVal.toV_dem {x : AVal} {y : Value} (e : x.toV = some y) : x.dem = x := by
  cases x with
  | c x =>
    show AVal.c (CVal.dem _) = _
    cases x <;> first | rfl | cases e
  | agg cs => rfl
  | tup ts => rfl
theorem Rel.toV (h : Rel s a w κ ρ) {x : Operand} {y : Value} (e : (s.ev x).toV = some y) : a.eval x = y := by
  have := h.ev (l := .slot 0) x
  rw [AVal.toV_dem e] at this
  exact AVal.toV_rep this e
end
/-- A run that asks nothing of the world. -/
def pureRun {α : Type} (P : Program) : Sem α → Option α
  | .pure a => some a
  | .program k => pureRun P (k P)
  | .mark _ k => pureRun P k
  | _ => none
theorem pureRun_run {α : Type} {P : Program} : ∀ {s : Sem α} {a : α}, pureRun P s = some a → ∀ w, s.run P w = .ok a w
  | .pure a, _, h, w => by injection h with h; subst h; rfl
  | .program k, _, h, w => by show (k P).run P w = _; exact pureRun_run (s := k P) h w
  | .mark _ k, _, h, w => by show k.run P w = _; exact pureRun_run (s := k) h w
  | .load .., _, h, _ => by cases h
  | .store .., _, h, _ => by cases h
  | .new .., _, h, _ => by cases h
  | .shape .., _, h, _ => by cases h
  | .freeze .., _, h, _ => by cases h
  | .frozen .., _, h, _ => by cases h
  | .getObj .., _, h, _ => by cases h
  | .setObj .., _, h, _ => by cases h
  | .choose .., _, h, _ => by cases h
  | .sys .., _, h, _ => by cases h
  | .halt .., _, h, _ => by cases h

/-- What an operation changes beside its own slot. -/
structure Chg where
  dem : Option Tmp := none
  blk : Option (Nat × List CVal) := none
  new : Option (List CVal) := none
def St.demO (s : St) : Option Tmp → St
  | some t => s.dem t
  | none => s
def St.blkO (s : St) : Option (Nat × List CVal) → St
  | some (b, cs) => { s with H := hset s.H b cs }
  | none => s
def St.newO (s : St) : Option (List CVal) → St
  | some cs => { s with H := s.H ++ [some cs] }
  | none => s
def St.chg (s : St) (c : Chg) : St := ((s.demO c.dem).blkO c.blk).newO c.new
/-- The run of an operation: a value or none. -/
def Yields (P : Program) (o : Oper) (a : Act) (w : World) (v : Value) (w' : World) : Prop :=
  (execOp a.eval o).run P w = .ok (.value v) w' ∨ ((execOp a.eval o).run P w = .ok .skip w' ∧ v = undef)
/-- The operation yields x and changes c, in every world that the state speaks of. -/
def Sim (P : Program) (o : Oper) (s : St) (x : AVal) (c : Chg) : Prop :=
  ∀ a w κ ρ, Rel s a w κ ρ → ∃ v w' κ' ρ', Yields P o a w v w' ∧ Rel (s.chg c) a w' κ' ρ' ∧ (∀ d, o.dst = some d → RepA w' κ' ρ' (.slot d) x v) ∧ x.ok (s.chg c).H.length = true ∧ Fr w κ w' κ' ∧ (∀ b, b < s.H.length → ρ' b = ρ b)
/-- An operation that leaves the world and the state. -/
theorem Sim.still {P : Program} {o : Oper} {s : St} {x : AVal}
    (h : ∀ a w κ ρ, Rel s a w κ ρ → ∃ v, (execOp a.eval o).run P w = .ok (.value v) w ∧ (∀ d, RepA w κ ρ (.slot d) x v) ∧ x.ok s.H.length = true) : Sim P o s x {} := by
  intro a w κ ρ hR
  obtain ⟨v, h1, h2, h3⟩ := h a w κ ρ hR
  exact ⟨v, w, κ, ρ, .inl h1, hR, fun d _ => h2 d, h3, Fr.refl _ _, fun _ _ => rfl⟩

/-- Operations on plain values. -/
def St.env (s : St) (x : Operand) : Value := ((s.ev x).toV).getD undef
def isSel : Op → Bool
  | .select .. => true
  | _ => false
def aPlain (P : Program) (s : St) (o : Oper) : Option (AVal × Chg) :=
  if o.op.operands.toList.all (fun x => (s.ev x).toV.isSome) && !isSel o.op then
    match pureRun P (execOp s.env o) with
    | some (.value v) => some (ofV v, {})
    | _ => none
  else none
theorem aPlain_sim {P : Program} {s : St} {o : Oper} {x : AVal} {c : Chg} (h : aPlain P s o = some (x, c)) : Sim P o s x c := by
  unfold aPlain at h
  split at h
  · rename_i hc
    rw [Bool.and_eq_true] at hc
    split at h
    · rename_i v hv
      injection h with h
      injection h with h1 h2
      subst h1; subst h2
      refine Sim.still fun a w κ ρ hR => ⟨v, ?_, fun d => repA_ofV v, ofV_ok _ v⟩
      have he : execOp a.eval o = execOp s.env o := execOp_congr o (fun cs b e => by rw [e] at hc; simp [isSel] at hc) (fun y hy => by
        have := List.all_eq_true.1 hc.1 y (Array.mem_toList_iff.2 hy)
        obtain ⟨u, hu⟩ := Option.isSome_iff_exists.1 this
        rw [hR.toV hu, St.env, hu]; rfl)
      rw [he]
      exact pureRun_run hv w
    · cases h
  · cases h

/-! ### Moves -/
section
variable {w w' : World} {κ κ' : Nat → BK} {ρ ρ' : Nat → Nat} {l l' : Loc} {s : St} {a : Act}
theorem mv_label {g k n : Nat} (h : κ g = .tip k l) (l' : Loc) : Mv (· = g) n w κ ρ w (upd κ g (.tip k l')) ρ :=
  ⟨rfl, rfl, rfl, Nat.le_refl _, fun _ _ => rfl, fun j _ hj => ⟨rfl, upd_other _ _ hj⟩, fun _ _ _ _ _ _ hx => hx,
   fun j m _ hj hf => by subst hj; rw [upd_same]; rw [h] at hf; exact hf, fun j m hj => by subst hj; rw [h]; intro e; cases e⟩
theorem TipAt.label {sz : Nat} {cs : List FVal} {len g cap : Nat} (h : TipAt w κ l sz cs len g cap) (l' : Loc) : TipAt w (upd κ g (.tip cs.length l')) l' sz cs len g cap :=
  ⟨h.row.grow (mv_label (n := 0) (ρ := id) h.own l').grow, h.lt, h.cut, upd_same _ _ _, h.le, h.blk⟩
theorem demote {s : St} {a : Act} {w : World} {κ : Nat → BK} {ρ : Nat → Nat} (h : Rel s a w κ ρ) (t : Nat) : Rel (s.dem t) a w κ ρ := by
  refine ⟨h.defers, fun i hi' => ?_, fun i hi => ?_, fun i => ?_, h.heap⟩
  · simp only [St.dem]
    by_cases e : i = t
    · subst e; rw [upd_same]; exact RepA.dem (h.slot i hi')
    · rw [upd_other _ _ e]; exact h.slot i hi'
  · simp only [St.dem]
    by_cases e : i = t
    · subst e; rw [upd_same, h.out i hi]; rfl
    · rw [upd_other _ _ e]; exact h.out i hi
  · simp only [St.dem]
    by_cases e : i = t
    · subst e; rw [upd_same]; exact AVal.dem_ok _ (h.ok i)
    · rw [upd_other _ _ e]; exact h.ok i
/-- A slice that grows goes from a slot to another place. -/
theorem Rel.give {t sz : Nat} {cs : List FVal} {len : Nat} (h : Rel s a w κ ρ) (ht : s.ev (.tmp t) = .c (.tip sz cs len)) (l' : Loc) :
    ∃ κ', Rel (s.dem t) a w κ' ρ ∧ RepC w κ' ρ l' (.tip sz cs len) (a.eval (.tmp t)) ∧ Fr w κ w κ' := by
  have h1 := h.ev_tmp t
  rw [ht] at h1
  obtain ⟨g, cap, hv, hT⟩ | hn := h1
  rotate_left
  · exact ⟨κ, demote h t, .inr hn, Fr.refl _ _⟩
  have m := mv_label (w := w) (ρ := ρ) (n := s.H.length) hT.own l'
  exact ⟨_, h.mv_slot m hT.own, .inl ⟨g, cap, hv, hT.label l'⟩, m.fr⟩
end
def aMove (tr : Bool) (s : St) (x : Operand) : AVal × Chg :=
  match tr, x, s.ev x with
  | true, .tmp t, .c (.tip sz cs len) => (.c (.tip sz cs len), { dem := some t })
  | _, _, v => (v.dem, {})
theorem aMove_sim {P : Program} {s : St} {o : Oper} {tr : Bool} {x : Operand} (ho : ∀ (ρ : Operand → Value) w, (execOp ρ o).run P w = .ok (.value (ρ x)) w) : Sim P o s (aMove tr s x).1 (aMove tr s x).2 := by
  unfold aMove
  split
  · rename_i t sz cs len he
    intro a w κ ρ hR
    cases hd : o.dst with
    | none =>
      obtain ⟨κ', h1, h2, h3⟩ := hR.give he (.slot 0)
      exact ⟨_, w, κ', ρ, .inl (ho _ _), h1, (fun d e => by cases e), rfl, h3, fun _ _ => rfl⟩
    | some d =>
      obtain ⟨κ', h1, h2, h3⟩ := hR.give he (.slot d)
      exact ⟨_, w, κ', ρ, .inl (ho _ _), h1, (fun d' e => by cases e; exact h2), rfl, h3, fun _ _ => rfl⟩
  · exact Sim.still fun a w κ ρ hR => ⟨_, ho _ _, fun d => hR.ev _, AVal.dem_ok _ (hR.ev_ok _)⟩
def aPick (s : St) (c x y : Operand) : Option (AVal × Chg) :=
  match s.ev c with
  | .c (.f (.v (.bool true))) => some ((s.ev x).dem, {})
  | .c (.f (.v (.bool false))) => some ((s.ev y).dem, {})
  | _ => none
theorem aPick_sim {P : Program} {s : St} {o : Oper} {c x y : Operand} {r : AVal} {ch : Chg} (ho : o.op = .pick c x y) (h : aPick s c x y = some (r, ch)) : Sim P o s r ch := by
  unfold aPick at h
  split at h
  · rename_i he
    injection h with h; injection h with h1 h2; subst h1; subst h2
    refine Sim.still fun a w κ ρ hR => ⟨a.eval x, ?_, fun d => hR.ev x, AVal.dem_ok _ (hR.ev_ok x)⟩
    have : a.eval c = .bool true := hR.toV (by rw [he]; rfl)
    simp [execOp, ho, this, asBool]
  · rename_i he
    injection h with h; injection h with h1 h2; subst h1; subst h2
    refine Sim.still fun a w κ ρ hR => ⟨a.eval y, ?_, fun d => hR.ev y, AVal.dem_ok _ (hR.ev_ok y)⟩
    have : a.eval c = .bool false := hR.toV (by rw [he]; rfl)
    simp [execOp, ho, this, asBool]
  · cases h
end Go.Proofs.Ythnfliopmjpdmaa.Av
