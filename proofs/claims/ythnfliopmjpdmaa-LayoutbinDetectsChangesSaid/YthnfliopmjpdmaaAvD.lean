/- A region that draws its order: the text's order speaks for all, where what is not ordered goes together. -/
import Derived.Test.YthnfliopmjpdmaaAvFn
namespace Go.Proofs.Ythnfliopmjpdmaa.Av
set_option linter.unusedVariables false
set_option linter.unusedSimpArgs false

/-! ### What an operation looks at -/
section
variable {P : Program} {ops : Array Oper} {tr : Bool} {s s' : St} {o : Oper}
theorem partsC_congr : ∀ (ps : List (Nat × Operand)), (∀ x ∈ ps.map (·.2), s.ev x = s'.ev x) → partsC s ps = partsC s' ps
  | [], _ => rfl
  | (i, x) :: rest, h => by
    have h1 := h x (by simp)
    have h2 := partsC_congr rest fun y hy => h y (by simp at hy ⊢; exact .inr hy)
    simp only [partsC, h1, h2]
theorem aPlain_congr (h : ∀ x ∈ o.op.operands, s.ev x = s'.ev x) : aPlain P s o = aPlain P s' o := by
  unfold aPlain
  have h1 : (o.op.operands.toList.all fun x => (s.ev x).toV.isSome) = o.op.operands.toList.all fun x => (s'.ev x).toV.isSome := by
    rw [Bool.eq_iff_iff, List.all_eq_true, List.all_eq_true]
    constructor
    · intro k x hx; have := k x hx; rwa [h x (by simpa using hx)] at this
    · intro k x hx; have := k x hx; rwa [← h x (by simpa using hx)] at this
  rw [h1]
  by_cases hs : isSel o.op = true
  · simp [hs]
  · rw [execOp_congr (ρ := s.env) (ρ' := s'.env) o (fun cs b e => hs (by rw [e]; rfl)) (fun x hx => by unfold St.env; rw [h x hx])]
theorem holds_congr {x : Operand} (h : s.ev x = s'.ev x) : holds s x = holds s' x := by
  unfold holds
  cases x with
  | tmp t => simp only [h]
  | _ => rfl
theorem bnd_congr {x : Option Operand} {d : Int} (h : ∀ y, x = some y → s.ev y = s'.ev y) : bnd s x d = bnd s' x d := by
  cases x with
  | none => rfl
  | some y => simp only [bnd, h y rfl]
/-- Operations that ask nothing of the blocks. -/
def blind : Op → Bool
  | .load .. => false
  | .call _ => false
  | .store .. => false
  | .alloc _ => false
  | .box .. => false
  | .makeSlice .. => false
  | _ => true
theorem aop_blind (hb : blind o.op = true) (h : ∀ x ∈ o.op.operands, s.ev x = s'.ev x) : aop P tr s o = aop P tr s' o := by
  have hp : aPlain P s o = aPlain P s' o := aPlain_congr h
  obtain ⟨dst, op, type, pos, after, guard⟩ := o
  cases op <;> simp only [blind] at hb <;> first | cases hb | skip
  all_goals simp only [Op.operands] at h
  case move x =>
    simp only [aop, aMove, h x (by simp)]
  case assign x =>
    simp only [aop, aMove, h x (by simp)]
  case pick c x y =>
    simp only [aop, aPick, h c (by simp), h x (by simp), h y (by simp)]
  case fieldAddr t x f =>
    simp only [aop, aFieldAddr, h x (by simp)]
  case indexAddr t x i =>
    simp only [aop, aIndexAddr, h x (by simp), h i (by simp)]
  case nilCheck x =>
    simp only [aop, aNil, h x (by simp)]
  case extract x i =>
    simp only [aop, aExtract, h x (by simp)]
  case field t x f =>
    simp only [aop, aField, h x (by simp)]
  case index t x i =>
    simp only [aop, aIndex, h x (by simp), h i (by simp), hp]
  case build t ps =>
    simp only [aop, aBuild, partsC_congr ps.toList (s := s) (s' := s') (fun x hx => h x (by simpa using hx))]
  case buildSlice t n ps =>
    simp only [aop, aBuildSlice, partsC_congr ps.toList (s := s) (s' := s') (fun x hx => h x (by simpa using hx))]
  case slice t x lo hi mx =>
    have h1 : ∀ d, bnd s lo d = bnd s' lo d := fun d => bnd_congr fun y e => h y (by simp [e])
    have h2 : ∀ d, bnd s hi d = bnd s' hi d := fun d => bnd_congr fun y e => h y (by simp [e])
    have h3 : ∀ d, bnd s mx d = bnd s' mx d := fun d => bnd_congr fun y e => h y (by simp [e])
    simp only [aop, aSlice, h x (by simp), h1, h2, h3, hp]
  case convert t u x =>
    simp only [aop, aConvert, h x (by simp), hp]
  all_goals exact hp
/-- Operations that make blocks. -/
def makes : Op → Bool
  | .alloc _ => true
  | .box .. => true
  | .makeSlice .. => true
  | _ => false
/-- A block's data. -/
def demH (H : List (Option (List CVal))) (b : Nat) : Option (Option (List CVal)) := (H[b]?).map (Option.map (List.map CVal.dem))
theorem demH_some {H H' : List (Option (List CVal))} {b : Nat} (h : demH H b = demH H' b) : (∃ cs ds, H[b]? = some (some cs) ∧ H'[b]? = some (some ds) ∧ cs.map CVal.dem = ds.map CVal.dem) ∨ ((∀ cs, H[b]? ≠ some (some cs)) ∧ ∀ cs, H'[b]? ≠ some (some cs)) := by
  unfold demH at h
  cases h1 : H[b]? with
  | none => cases h2 : H'[b]? with
    | none => exact .inr ⟨fun _ e => (by cases e), fun _ e => (by cases e)⟩
    | some y => rw [h1, h2] at h; cases h
  | some x => cases h2 : H'[b]? with
    | none => rw [h1, h2] at h; cases h
    | some y =>
      rw [h1, h2] at h
      cases x with
      | none => cases y with
        | none => exact .inr ⟨fun _ e => (by cases e), fun _ e => (by cases e)⟩
        | some ds => cases h
      | some cs => cases y with
        | none => cases h
        | some ds => exact .inl ⟨cs, ds, rfl, rfl, by simpa using h⟩
theorem aLoad_soft {t : TypeId} {x : Operand} (hx : s.ev x = s'.ev x) (hf : ∀ b ∈ ptrB (s.ev x), demH s.H b = demH s'.H b) : aLoad P false s t x = aLoad P false s' t x := by
  unfold aLoad
  rw [← hx]
  cases hv : s.ev x with
  | c v =>
    cases v with
    | ptr b off =>
      have e := hf b (by rw [hv]; simp [ptrB])
      cases tsz P t with
      | none => rfl
      | some q =>
        obtain ⟨q1, q2⟩ := q
        rcases demH_some e with ⟨cs, ds, e1, e2, e3⟩ | ⟨e1, e2⟩
        · have hl : cs.length = ds.length := by simpa using congrArg List.length e3
          cases q1
          · dsimp only
            rw [e1, e2]
            dsimp only
            have e4 : (cs[off]?).map CVal.dem = (ds[off]?).map CVal.dem := by rw [← List.getElem?_map, ← List.getElem?_map, e3]
            cases h1 : cs[off]? with
            | none => cases h2 : ds[off]? with
              | none => rfl
              | some z => rw [h1, h2] at e4; cases e4
            | some y => cases h2 : ds[off]? with
              | none => rw [h1, h2] at e4; cases e4
              | some z =>
                rw [h1, h2] at e4
                have e5 : y.dem = z.dem := by simpa using e4
                simp only [e5]
          · dsimp only
            rw [e1, e2]
            dsimp only
            rw [hl]
            have e4 : ((cs.drop off).take q2).map CVal.dem = ((ds.drop off).take q2).map CVal.dem := by rw [List.map_take, List.map_take, List.map_drop, List.map_drop, e3]
            rw [e4]
        · have n1 : ∀ {α : Type} (f : List CVal → α) (g : α), (match s.H[b]? with | some (some cells) => f cells | _ => g) = g := fun f g => by
            cases h1 : s.H[b]? with
            | none => rfl
            | some z => cases z with
              | none => rfl
              | some cs => exact absurd h1 (e1 cs)
          have n2 : ∀ {α : Type} (f : List CVal → α) (g : α), (match s'.H[b]? with | some (some cells) => f cells | _ => g) = g := fun f g => by
            cases h1 : s'.H[b]? with
            | none => rfl
            | some z => cases z with
              | none => rfl
              | some cs => exact absurd h1 (e2 cs)
          cases q1
          · exact (n1 _ _).trans (n2 _ _).symm
          · exact (n1 _ _).trans (n2 _ _).symm
    | _ => cases tsz P t with
      | none => rfl
      | some q => obtain ⟨q1, q2⟩ := q; cases q1 <;> rfl
  | _ => cases tsz P t with
    | none => rfl
    | some q => obtain ⟨q1, q2⟩ := q; cases q1 <;> rfl
theorem aop_loc (h : ∀ x ∈ o.op.operands, s.ev x = s'.ev x) (hf : ∀ b ∈ fpOf tr s o, s.H[b]? = s'.H[b]?) (hfr : ∀ b ∈ frOf tr s o, demH s.H b = demH s'.H b) (hl : makes o.op = true → s.H.length = s'.H.length) : aop P tr s o = aop P tr s' o := by
  by_cases hb : blind o.op = true
  · exact aop_blind hb h
  have hp : aPlain P s o = aPlain P s' o := aPlain_congr h
  obtain ⟨dst, op, type, pos, after, guard⟩ := o
  cases op <;> simp only [blind] at hb <;> first | exact absurd rfl hb | exact absurd trivial hb | skip
  all_goals simp only [Op.operands] at h
  case alloc t => simp only [aop, aAlloc, hl rfl]
  case box t x => simp only [aop, aBox, hl rfl, h x (by simp)]
  case load t x =>
    simp only [fpOf] at hf
    simp only [frOf] at hfr
    have hx := h x (by simp)
    simp only [aop]
    cases tr with
    | false =>
      simp only [Bool.false_eq_true, if_false] at hfr
      exact aLoad_soft hx hfr
    | true =>
      simp only [if_true] at hf
      simp only [aLoad, ← hx]
      cases hv : s.ev x with
      | c v =>
        cases v with
        | ptr b off =>
          have e := hf b (by rw [hv]; simp [ptrB])
          cases tsz P t with
          | none => rfl
          | some q => obtain ⟨q1, q2⟩ := q; cases q1 <;> simp only [e]
        | _ => cases tsz P t with
          | none => rfl
          | some q => obtain ⟨q1, q2⟩ := q; cases q1 <;> rfl
      | _ => cases tsz P t with
        | none => rfl
        | some q => obtain ⟨q1, q2⟩ := q; cases q1 <;> rfl
  case store t x y =>
    simp only [fpOf] at hf
    have hx := h x (by simp)
    have hy := h y (by simp)
    simp only [aop, aStore, ← hx, ← hy, ← holds_congr hy]
    cases hv : s.ev x with
    | c v =>
      cases v with
      | ptr b off =>
        have e := hf b (by rw [hv]; simp [ptrB])
        cases tsz P t with
        | none => rfl
        | some q => obtain ⟨q1, q2⟩ := q; simp only [e]
      | _ => cases tsz P t <;> rfl
    | _ => cases tsz P t <;> rfl
  case makeSlice t l c => simp only [aop, aMake, hl rfl, h l (by simp), h c (by simp)]
  case call c =>
    simp only [fpOf] at hf
    simp only [aop]
    unfold aCall
    split
    · rename_i x t h1 h2 h3
      have hx : x ∈ c.args := by rw [← Array.mem_toList_iff, h2]; simp
      simp only [aLen, h x (by simp [Call.operands, hx]), hp]
    · rename_i x y t tx h1 h2 h3
      have hx : x ∈ c.args := by rw [← Array.mem_toList_iff, h2]; simp
      have hy : y ∈ c.args := by rw [← Array.mem_toList_iff, h2]; simp
      have hx' := h x (by simp [Call.operands, hx])
      have hy' := h y (by simp [Call.operands, hy])
      rw [h2] at hf
      have hsrc : ∀ sz, srcCells P s sz tx y = srcCells P s' sz tx y := by
        intro sz
        unfold srcCells
        rw [← hy']
        cases hv : (s.ev y).dem with
        | c v =>
          cases v with
          | arr b off n cap =>
            have e := hf b (by show b ∈ arrB (s.ev y).dem; rw [hv]; simp [arrB])
            simp only [e]
          | f q => cases q <;> rfl
          | _ => rfl
        | _ => rfl
      simp only [aAppend, hsrc, ← hx', holds_congr hx']
    · exact hp
/-- A block that is written is one that was looked at. -/
theorem aop_blk {x : AVal} {c : Chg} {b : Nat} {cs : List CVal} (h : aop P tr s o = some (x, c)) (hb : c.blk = some (b, cs)) : b ∈ fpOf tr s o ∧ b < s.H.length ∧ c.new = none ∧ (isLoad o.op = true → demH (s.H.set b (some cs)) b = demH s.H b) := by
  have no : ∀ {y : AVal} {c' : Chg}, c'.blk = none → some (y, c') = some (x, c) → False := fun {y c'} hn e => by
    injection e with e; injection e with _ e; subst e; rw [hn] at hb; cases hb
  have plain : ∀ {o : Oper}, aPlain P s o = some (x, c) → False := fun {o} h => by
    unfold aPlain at h
    split at h
    · split at h
      · exact no rfl h
      · cases h
    · cases h
  have mv : ∀ {t : Bool} {y : Operand}, some (aMove t s y) = some (x, c) → False := fun {t y} h => by
    unfold aMove at h
    split at h
    · exact no rfl h
    · exact no rfl h
  have lt : ∀ {b : Nat} {cells : List CVal}, s.H[b]? = some (some cells) → b < s.H.length := fun {b cells} e => (List.getElem?_eq_some_iff.1 e).1
  obtain ⟨dst, op, type, pos, after, guard⟩ := o
  cases op <;> simp only [aop] at h
  case move y => exact (mv h).elim
  case assign y => exact (mv h).elim
  case load t y =>
    unfold aLoad at h
    split at h
    · split at h
      · exact (no rfl h).elim
      · cases h
    · split at h
      · exact (no rfl h).elim
      · cases h
    · rename_i hv
      split at h
      · rename_i cells hc
        split at h
        · split at h
          · injection h with e; injection e with _ e; subst e
            injection hb with hb; injection hb with hb hcs; subst hb; subst hcs
            refine ⟨by simp [fpOf, hv, ptrB], lt hc, rfl, fun _ => ?_⟩
            unfold demH
            rw [List.getElem?_set_self (lt hc), hc]
            simp only [Option.map_some]
            congr 2
            apply List.ext_getElem
            · simp
            · intro i h1 h2
              simp only [List.getElem_map, List.getElem_modify]
              split
              · exact CVal.flat_dem (CVal.dem_flat _)
              · rfl
          · exact (no rfl h).elim
        · cases h
      · cases h
    · split at h
      · split at h
        · exact (no rfl h).elim
        · cases h
      · cases h
    · cases h
  case store t y z =>
    unfold aStore at h
    split at h
    · rename_i hv
      split at h
      · rename_i cells hc
        split at h
        · split at h
          · injection h with e; injection e with _ e; subst e
            injection hb with hb; injection hb with hb _; subst hb
            exact ⟨by simp [fpOf, hv, ptrB], lt hc, rfl, fun e => by cases e⟩
          · cases h
        · split at h
          · split at h
            · injection h with e; injection e with _ e; subst e
              injection hb with hb; injection hb with hb _; subst hb
              exact ⟨by simp [fpOf, hv, ptrB], lt hc, rfl, fun e => by cases e⟩
            · cases h
          · cases h
      · cases h
    · cases h
  case call cl =>
    exfalso
    unfold aCall at h
    split at h
    · unfold aLen at h
      repeat' (first | exact plain h | exact no rfl h | (split at h) | (cases h; done))
    · unfold aAppend at h
      repeat' (first | exact no rfl h | (split at h) | (cases h; done))
    · exact plain h
  all_goals exfalso
  all_goals first
    | exact plain h
    | (unfold aPick at h; (repeat' (first | exact no rfl h | (split at h) | (cases h; done))); done)
    | (unfold aAlloc at h; (repeat' (first | exact no rfl h | (split at h) | (cases h; done))); done)
    | (unfold aBox at h; (repeat' (first | exact no rfl h | (split at h) | (cases h; done))); done)
    | (unfold aFieldAddr at h; (repeat' (first | exact no rfl h | (split at h) | (cases h; done))); done)
    | (unfold aIndexAddr at h; (repeat' (first | exact no rfl h | (split at h) | (cases h; done))); done)
    | (unfold aNil at h; (repeat' (first | exact no rfl h | (split at h) | (cases h; done))); done)
    | (unfold aExtract at h; (repeat' (first | exact no rfl h | (split at h) | (cases h; done))); done)
    | (unfold aField at h; (repeat' (first | exact no rfl h | (split at h) | (cases h; done))); done)
    | (unfold aIndex at h; (repeat' (first | exact plain h | exact no rfl h | (split at h) | (cases h; done))); done)
    | (unfold aBuild at h; (repeat' (first | exact no rfl h | (split at h) | (cases h; done))); done)
    | (unfold aBuildSlice at h; (repeat' (first | exact no rfl h | (split at h) | (cases h; done))); done)
    | (unfold aMake at h; (repeat' (first | exact no rfl h | (split at h) | (cases h; done))); done)
    | (unfold aSlice at h; (repeat' (first | exact plain h | exact no rfl h | (split at h) | (cases h; done))); done)
    | (unfold aConvert at h; (repeat' (first | exact plain h | exact no rfl h | (split at h) | (cases h; done))); done)
theorem aop_new {x : AVal} {c : Chg} (h : aop P tr s o = some (x, c)) (hm : makes o.op = true) : c.new.isSome = true := by
  obtain ⟨dst, op, type, pos, after, guard⟩ := o
  cases op <;> simp only [makes] at hm <;> first | (cases hm; done) | skip
  · simp only [aop, aAlloc] at h
    split at h
    · injection h with h; injection h with _ h; subst h; rfl
    · cases h
  · simp only [aop, aBox] at h
    split at h
    · injection h with h; injection h with _ h; subst h; rfl
    · cases h
  · simp only [aop, aMake] at h
    repeat' (first | (split at h) | (injection h with h; injection h with _ h; subst h; rfl) | (cases h; done))
/-- A slice that is handed on was an operand's. -/
theorem aop_dem {x : AVal} {c : Chg} {u : Tmp} (h : aop P tr s o = some (x, c)) (hu : c.dem = some u) : Operand.tmp u ∈ o.op.operands := by
  have plain : ∀ {o : Oper}, aPlain P s o = some (x, c) → False := fun {o} h => by
    unfold aPlain at h
    split at h
    · split at h
      · injection h with h; injection h with _ h2; subst h2; cases hu
      · cases h
    · cases h
  have mv : ∀ {t : Bool} {y : Operand}, aMove t s y = (x, c) → Operand.tmp u = y := fun {t y} h => by
    unfold aMove at h
    split at h
    · injection h with _ h2; subst h2; injection hu with hu; rw [hu]
    · injection h with _ h2; subst h2; cases hu
  obtain ⟨dst, op, type, pos, after, guard⟩ := o
  cases op <;> simp only [aop] at h <;> simp only [Op.operands]
  case move y => injection h with h; simp [mv h]
  case assign y => injection h with h; simp [mv h]
  case pick a b d =>
    unfold aPick at h
    split at h <;> first | (injection h with h; injection h with _ h2; subst h2; cases hu) | cases h
  case alloc t =>
    unfold aAlloc at h
    split at h <;> first | (injection h with h; injection h with _ h2; subst h2; cases hu) | cases h
  case box t y =>
    unfold aBox at h
    split at h <;> first | (injection h with h; injection h with _ h2; subst h2; cases hu) | cases h
  case load t y =>
    exfalso
    unfold aLoad at h
    repeat' (first | (split at h) | (injection h with h; injection h with _ h2; subst h2; cases hu) | cases h)
  case store t y z =>
    unfold aStore at h
    split at h
    · split at h
      · split at h
        · rename_i hh
          split at h
          · injection h with h; injection h with _ h2; subst h2; injection hu with hu
            subst hu
            unfold holds at hh
            split at hh
            · split at hh
              · injection hh with hh; injection hh with hh _; subst hh; simp
              · cases hh
            · cases hh
          · cases h
        · repeat' (first | (split at h) | (injection h with h; injection h with _ h2; subst h2; cases hu) | cases h)
      · cases h
    · cases h
  case fieldAddr t y f =>
    exfalso
    unfold aFieldAddr at h
    repeat' (first | (split at h) | (injection h with h; injection h with _ h2; subst h2; cases hu) | cases h)
  case indexAddr t y f =>
    exfalso
    unfold aIndexAddr at h
    repeat' (first | (split at h) | (injection h with h; injection h with _ h2; subst h2; cases hu) | cases h)
  case nilCheck y =>
    exfalso
    unfold aNil at h
    repeat' (first | (split at h) | (injection h with h; injection h with _ h2; subst h2; cases hu) | cases h)
  case extract y i =>
    exfalso
    unfold aExtract at h
    repeat' (first | (split at h) | (injection h with h; injection h with _ h2; subst h2; cases hu) | cases h)
  case field t y f =>
    exfalso
    unfold aField at h
    repeat' (first | (split at h) | (injection h with h; injection h with _ h2; subst h2; cases hu) | cases h)
  case index t y i =>
    exfalso
    unfold aIndex at h
    repeat' (first | exact plain h | (split at h) | (injection h with h; injection h with _ h2; subst h2; cases hu) | cases h)
  case build t ps =>
    exfalso
    unfold aBuild at h
    repeat' (first | (split at h) | (injection h with h; injection h with _ h2; subst h2; cases hu) | cases h)
  case buildSlice t n ps =>
    exfalso
    unfold aBuildSlice at h
    repeat' (first | (split at h) | (injection h with h; injection h with _ h2; subst h2; cases hu) | cases h)
  case makeSlice t l c =>
    exfalso
    unfold aMake at h
    repeat' (first | (split at h) | (injection h with h; injection h with _ h2; subst h2; cases hu) | cases h)
  case slice t y lo hi mx =>
    exfalso
    unfold aSlice at h
    repeat' (first | exact plain h | (split at h) | (injection h with h; injection h with _ h2; subst h2; cases hu) | cases h)
  case convert t u' y =>
    exfalso
    unfold aConvert at h
    repeat' (first | exact plain h | (split at h) | (injection h with h; injection h with _ h2; subst h2; cases hu) | cases h)
  case call cl =>
    unfold aCall at h
    split at h
    · exfalso
      unfold aLen at h
      repeat' (first | exact plain h | (split at h) | (injection h with h; injection h with _ h2; subst h2; cases hu) | cases h)
    · rename_i y z t tx h1 h2 h3
      unfold aAppend at h
      split at h
      · split at h
        · split at h
          · rename_i hh
            split at h
            · injection h with h; injection h with _ h2; subst h2; injection hu with hu
              subst hu
              unfold holds at hh
              split at hh
              · split at hh
                · injection hh with hh; injection hh with hh _; subst hh
                  have hx : ∀ y ∈ cl.args.toList, y ∈ cl.operands := fun y hy => by simp [Call.operands, Array.mem_toList_iff.1 hy]
                  exact hx _ (by rw [h2]; simp)
                · cases hh
              · cases hh
            · cases h
          · exfalso
            repeat' (first | (split at h) | (injection h with h; injection h with _ h2; subst h2; cases hu) | cases h)
        · cases h
      · cases h
    · exact (plain h).elim
  all_goals exact (plain h).elim
end

/-! ### Steps -/
section
variable {P : Program} {ops : Array Oper} {s s' s1 s2 : St} {o : Oper} {c : Cl}
def Step (P : Program) (ops : Array Oper) (c : Cl) (o : Oper) (s s' : St) : Prop := WOp P ops o s fun c' s2 => c' = c ∧ s2 = s'
theorem WCall_mono {f : FuncId} {xs : List Operand} {K K' : Cl → AVal → St → Prop} (h : ∀ c r s, K c r s → K' c r s) (hh : WCall P f xs s K) : WCall P f xs s K' := by
  rcases hh with ⟨r, h1, h2, h3⟩ | ⟨bs, L, args', Hs, Hs', r, hO, h1, h2, h3, h4, h5, h6, h7, h8, h9, hk⟩
  · exact .inl ⟨r, h1, h2, h _ _ _ h3⟩
  · exact .inr ⟨bs, L, args', Hs, Hs', r, hO, h1, h2, h3, h4, h5, h6, h7, h8, h9, h _ _ _ hk⟩
theorem WCall_ex {f : FuncId} {xs : List Operand} {K : Cl → AVal → St → Prop} (hh : WCall P f xs s K) : ∃ c r s', K c r s' ∧ WCall P f xs s fun c' r' s2 => c' = c ∧ r' = r ∧ s2 = s' := by
  rcases hh with ⟨r, h1, h2, h3⟩ | ⟨bs, L, args', Hs, Hs', r, hO, h1, h2, h3, h4, h5, h6, h7, h8, h9, hk⟩
  · exact ⟨_, _, _, h3, .inl ⟨r, h1, h2, rfl, rfl, rfl⟩⟩
  · exact ⟨_, _, _, hk, .inr ⟨bs, L, args', Hs, Hs', r, hO, h1, h2, h3, h4, h5, h6, h7, h8, h9, rfl, rfl, rfl⟩⟩
theorem WAop_mono {K K' : Cl → St → Prop} (h : ∀ c s, K c s → K' c s) (hh : WAop P ops o s K) : WAop P ops o s K' := by
  rcases hh with ⟨x, c, h1, h2⟩ | ⟨v, h1, h2⟩
  · exact .inl ⟨x, c, h1, h _ _ h2⟩
  · exact .inr ⟨v, h1, h _ _ h2⟩
theorem WOp_mono {K K' : Cl → St → Prop} (h : ∀ c s, K c s → K' c s) (hh : WOp P ops o s K) : WOp P ops o s K' := by
  unfold WOp at *
  cases hw : wantA ops s o with
  | none => rw [hw] at hh; exact hh
  | some t =>
    rw [hw] at hh
    dsimp only at hh ⊢
    cases t with
    | false => exact h _ _ hh
    | true =>
      simp only [if_true] at hh ⊢
      cases hc : callOf o with
      | some fx =>
        rw [hc] at hh
        dsimp only at hh ⊢
        exact WCall_mono (fun c r s k => h _ _ k) hh
      | none =>
        rw [hc] at hh
        exact WAop_mono h hh
theorem WOp_ex {K : Cl → St → Prop} (h : WOp P ops o s K) : ∃ c s', Step P ops c o s s' ∧ K c s' := by
  unfold Step
  unfold WOp at h ⊢
  cases hw : wantA ops s o with
  | none => rw [hw] at h; exact h.elim
  | some t =>
    rw [hw] at h
    dsimp only at h ⊢
    cases t with
    | false => exact ⟨_, _, ⟨rfl, rfl⟩, h⟩
    | true =>
      simp only [if_true] at h ⊢
      cases hc : callOf o with
      | some fx =>
        rw [hc] at h
        dsimp only at h ⊢
        obtain ⟨c, r, s', hk, hq⟩ := WCall_ex h
        exact ⟨_, _, WCall_mono (fun c' r' s2 ⟨e1, e2, e3⟩ => by subst e1; subst e2; subst e3; exact ⟨rfl, rfl⟩) hq, hk⟩
      | none =>
        rw [hc] at h
        dsimp only at h ⊢
        rcases h with ⟨x, c, h1, h2⟩ | ⟨v, h1, h2⟩
        · exact ⟨_, _, .inl ⟨x, c, h1, rfl, rfl⟩, h2⟩
        · exact ⟨_, _, .inr ⟨v, h1, rfl, rfl⟩, h2⟩
/-- The ways of a step. -/
inductive Way (P : Program) (ops : Array Oper) (o : Oper) (s : St) : Cl → St → Prop
  | skip (h : wantA ops s o = some false) : Way P ops o s .q0 (s.put o.dst (.c .und))
  | op (x : AVal) (c : Chg) (h : wantA ops s o = some true) (hc : callOf o = none) (ha : aop P (feeds ops o) s o = some (x, c)) : Way P ops o s (clOf (feeds ops o) s o c) ((s.chg c).put o.dst x)
  | sem (v : Value) (h : wantA ops s o = some true) (hc : callOf o = none) (hv : RunPlain P s o v) : Way P ops o s .q0 (s.put o.dst (ofV v))
  | pure (f : FuncId) (xs : List Operand) (r : AVal) (h : wantA ops s o = some true) (hc : callOf o = some (f, xs)) (h1 : (xs.all fun x => (s.ev x).h.ok 0) = true) (h2 : Ok P f (xs.map fun x => (s.ev x).h) [] r []) : Way P ops o s .q0 (s.put o.dst r)
  | call (f : FuncId) (xs : List Operand) (bs L : List Nat) (args' : List AVal) (Hs Hs' : List (Option (List CVal))) (r : AVal) (h : wantA ops s o = some true) (hc : callOf o = some (f, xs)) (hO : Ok P f args' Hs r Hs') (h1 : bs.Nodup) (h2 : ∀ b ∈ bs, b < s.H.length)
      (h3 : Hs.map (renB (sig s.H.length bs)) = (bs.map fun b => s.H.getD b none)) (h4 : ∀ x ∈ args', x.ok Hs.length = true) (h5 : Hs.all (okB Hs.length) = true) (h6 : Hs'.all (okB Hs'.length) = true)
      (h7 : args'.map (AVal.ren (sig s.H.length bs)) = (xs.map fun x => ((s.ev x).h).lend s.H L)) (h8 : ∀ b ∈ L, b ∉ bs) (h9 : L = [] ∨ (r.bare = true ∧ Hs'.all bareB = true)) :
      Way P ops o s ⟨bs ++ L, [], bs, if Hs'.length = bs.length then none else some s.H.length, false, false⟩ (({ s with H := putBack s.H bs (Hs'.map (renB (sig s.H.length bs))) } : St).put o.dst (r.ren (sig s.H.length bs)))
theorem step_way : Step P ops c o s s' ↔ Way P ops o s c s' := by
  constructor
  · intro h
    unfold Step WOp at h
    cases hw : wantA ops s o with
    | none => rw [hw] at h; exact h.elim
    | some t =>
      rw [hw] at h
      dsimp only at h
      cases t with
      | false => obtain ⟨rfl, rfl⟩ := h; exact .skip hw
      | true =>
        simp only [if_true] at h
        cases hc : callOf o with
        | some fx =>
          rw [hc] at h
          dsimp only at h
          obtain ⟨f, xs⟩ := fx
          rcases h with ⟨r, h1, h2, rfl, rfl⟩ | ⟨bs, L, args', Hs, Hs', r, hO, h1, h2, h3, h4, h5, h6, h7, h8, h9, rfl, rfl⟩
          · exact .pure f xs r hw hc h1 h2
          · exact .call f xs bs L args' Hs Hs' r hw hc hO h1 h2 h3 h4 h5 h6 h7 h8 h9
        | none =>
          rw [hc] at h
          dsimp only at h
          rcases h with ⟨x, c, h1, rfl, rfl⟩ | ⟨v, h1, rfl, rfl⟩
          · exact .op x c hw hc h1
          · exact .sem v hw hc h1
  · intro h
    unfold Step WOp
    cases h with
    | skip hw => rw [hw]; exact ⟨rfl, rfl⟩
    | op x c hw hc ha => rw [hw, hc]; exact .inl ⟨x, c, ha, rfl, rfl⟩
    | sem v hw hc hv => rw [hw, hc]; exact .inr ⟨v, hv, rfl, rfl⟩
    | pure f xs r hw hc h1 h2 => rw [hw, hc]; exact .inl ⟨r, h1, h2, rfl, rfl⟩
    | call f xs bs L args' Hs Hs' r hw hc hO h1 h2 h3 h4 h5 h6 h7 h8 h9 => rw [hw, hc]; exact .inr ⟨bs, L, args', Hs, Hs', r, hO, h1, h2, h3, h4, h5, h6, h7, h8, h9, rfl, rfl⟩

theorem wantA_congr (h : ∀ t ∈ o.looksAt ops, s.ev (.tmp t) = s'.ev (.tmp t)) : wantA ops s o = wantA ops s' o := by
  unfold wantA
  cases hg : o.guard with
  | none => rfl
  | some gw =>
    obtain ⟨j, want⟩ := gw
    dsimp only
    cases hj : ops[j]? with
    | none => rfl
    | some oj =>
      dsimp only
      cases hd : oj.dst with
      | none => rfl
      | some d =>
        dsimp only
        rw [h d (by simp [Oper.looksAt, hg, hj, hd])]
theorem ev_looks (h : ∀ t ∈ o.looksAt ops, s.ev (.tmp t) = s'.ev (.tmp t)) : ∀ x ∈ o.op.operands, s.ev x = s'.ev x := by
  intro x hx
  cases x with
  | tmp t => exact h t (List.mem_append_left _ (List.mem_filterMap.2 ⟨.tmp t, by simpa using hx, rfl⟩))
  | _ => rfl
theorem call_args {f : FuncId} {xs : List Operand} (hc : callOf o = some (f, xs)) : ∀ x ∈ xs, x ∈ o.op.operands := by
  intro x hx
  unfold callOf at hc
  split at hc
  · rename_i cl ho
    split at hc
    · injection hc with hc; injection hc with _ e; subst e
      rw [ho]
      simp [Op.operands, Call.operands, Array.mem_toList_iff.1 hx]
    · cases hc
  · cases hc
theorem frOf_congr {tr : Bool} (h : ∀ x ∈ o.op.operands, s.ev x = s'.ev x) : frOf tr s o = frOf tr s' o := by
  unfold frOf
  cases ho : o.op <;> rw [ho] at h <;> try rfl
  rename_i t x; dsimp only; rw [h x (by simp [Op.operands])]
theorem fpOf_congr {tr : Bool} (h : ∀ x ∈ o.op.operands, s.ev x = s'.ev x) : fpOf tr s o = fpOf tr s' o := by
  unfold fpOf
  cases ho : o.op <;> rw [ho] at h <;> try rfl
  · rename_i t x; dsimp only; rw [h x (by simp [Op.operands])]
  · rename_i t x y; dsimp only; rw [h x (by simp [Op.operands])]
  · rename_i c
    dsimp only
    split
    · rename_i x y hx
      have hy : y ∈ c.args := by rw [← Array.mem_toList_iff, hx]; simp
      rw [h y (by simp [Op.operands, Call.operands, hy])]
    · rfl
theorem CVal.ren_congr {σ τ : Nat → Nat} {n : Nat} (hσ : ∀ i, i < n → σ i = τ i) {x : CVal} (h : x.ok n = true) : x.ren σ = x.ren τ := by
  cases x <;> first | rfl | (simp only [CVal.ok, decide_eq_true_eq] at h; simp only [CVal.ren, hσ _ h])
theorem map_ren_congr {σ τ : Nat → Nat} {n : Nat} (hσ : ∀ i, i < n → σ i = τ i) {l : List CVal} (h : l.all (CVal.ok n) = true) : l.map (CVal.ren σ) = l.map (CVal.ren τ) :=
  List.map_congr_left fun x hx => CVal.ren_congr hσ (List.all_eq_true.1 h x hx)
theorem TVal.ren_congr {σ τ : Nat → Nat} {n : Nat} (hσ : ∀ i, i < n → σ i = τ i) {x : TVal} (h : x.ok n = true) : x.ren σ = x.ren τ := by
  cases x with
  | c x => simp only [TVal.ren, CVal.ren_congr hσ (show x.ok n = true from h)]
  | agg cs => simp only [TVal.ren, map_ren_congr hσ (show cs.all (CVal.ok n) = true from h)]
theorem AVal.ren_congr {σ τ : Nat → Nat} {n : Nat} (hσ : ∀ i, i < n → σ i = τ i) {x : AVal} (h : x.ok n = true) : x.ren σ = x.ren τ := by
  cases x with
  | c x => simp only [AVal.ren, CVal.ren_congr hσ (show x.ok n = true from h)]
  | agg cs => simp only [AVal.ren, map_ren_congr hσ (show cs.all (CVal.ok n) = true from h)]
  | tup ts => simp only [AVal.ren, List.map_congr_left fun x hx => TVal.ren_congr hσ (List.all_eq_true.1 (show ts.all (TVal.ok n) = true from h) x hx)]
theorem renB_congr {σ τ : Nat → Nat} {n : Nat} (hσ : ∀ i, i < n → σ i = τ i) {x : Option (List CVal)} (h : okB n x = true) : renB σ x = renB τ x := by
  cases x with
  | none => rfl
  | some cs => simp only [renB, map_ren_congr hσ (show cs.all (CVal.ok n) = true from h)]
theorem sig_congr {bs : List Nat} (n m : Nat) : ∀ i, i < bs.length → sig n bs i = sig m bs i := fun i hi => by
  simp [sig, List.getD_eq_getElem?_getD, List.getElem?_eq_getElem hi]
theorem CVal.lend_congr {H H' : List (Option (List CVal))} {L : List Nat} (h : ∀ b ∈ L, H[b]? = H'[b]?) (x : CVal) : x.lend H L = x.lend H' L := by
  cases x with
  | arr b off len cap =>
    unfold CVal.lend
    dsimp only
    by_cases hc : b ∈ L ∧ len ≤ cap
    · rw [if_pos hc, if_pos hc, h b hc.1]
    · rw [if_neg hc, if_neg hc]
  | _ => rfl
theorem AVal.lend_congr {H H' : List (Option (List CVal))} {L : List Nat} (h : ∀ b ∈ L, H[b]? = H'[b]?) (x : AVal) : x.lend H L = x.lend H' L := by
  have hl : ∀ cs : List CVal, cs.map (CVal.lend H L) = cs.map (CVal.lend H' L) := fun cs => List.map_congr_left fun x _ => CVal.lend_congr h x
  cases x with
  | c x => simp only [AVal.lend, CVal.lend_congr h x]
  | agg cs => simp only [AVal.lend, hl]
  | tup ts => simp only [AVal.lend, List.map_congr_left fun (x : TVal) (_ : x ∈ ts) => show x.lend H L = x.lend H' L by cases x <;> simp only [TVal.lend, hl, CVal.lend_congr h]]

/-! ### What a step does -/
structure Eff where
  x : AVal
  dem : Option Tmp := none
  wr : List (Nat × Option (List CVal)) := []
  new : List (Option (List CVal)) := []
def setL (H : List (Option (List CVal))) : List (Nat × Option (List CVal)) → List (Option (List CVal))
  | [] => H
  | (b, c) :: l => setL (H.set b c) l
def St.h (s : St) (H : List (Option (List CVal))) : St := { s with H := H }
def Eff.app (E : Eff) (d : Option Tmp) (s : St) : St := ((s.demO E.dem).h (setL s.H E.wr ++ E.new)).put d E.x
theorem setL_len : ∀ (l : List (Nat × Option (List CVal))) (H : List (Option (List CVal))), (setL H l).length = H.length
  | [], H => rfl
  | (b, c) :: l, H => by simp [setL, setL_len l]
theorem setL_get : ∀ (l : List (Nat × Option (List CVal))) (H : List (Option (List CVal))) (b : Nat), (∀ p ∈ l, p.1 ≠ b) → (setL H l)[b]? = H[b]?
  | [], H, b, _ => rfl
  | (b', c) :: l, H, b, h => by
    simp only [setL]
    rw [setL_get l _ b fun p hp => h p (by simp [hp]), List.getElem?_set_ne (h (b', c) (by simp))]
theorem setL_append : ∀ (l : List (Nat × Option (List CVal))) (H B : List (Option (List CVal))), (∀ p ∈ l, p.1 < H.length) → setL (H ++ B) l = setL H l ++ B
  | [], H, B, _ => rfl
  | (b, c) :: l, H, B, h => by
    simp only [setL]
    rw [List.set_append_left _ _ (h (b, c) (by simp)), setL_append l _ _ fun p hp => by rw [List.length_set]; exact h p (by simp [hp])]
theorem setL_set : ∀ (l : List (Nat × Option (List CVal))) (H : List (Option (List CVal))) (b : Nat) (c : Option (List CVal)), (∀ p ∈ l, p.1 ≠ b) → setL (H.set b c) l = (setL H l).set b c
  | [], H, b, c, _ => rfl
  | (b', c') :: l, H, b, c, h => by
    simp only [setL]
    rw [List.set_comm _ _ (fun e => h (b', c') (by simp) e.symm), setL_set l _ b c fun p hp => h p (by simp [hp])]
theorem setL_comm : ∀ (l m : List (Nat × Option (List CVal))) (H : List (Option (List CVal))), (∀ p ∈ l, ∀ q ∈ m, p.1 ≠ q.1) → setL (setL H l) m = setL (setL H m) l
  | [], m, H, _ => rfl
  | (b, c) :: l, m, H, h => by
    simp only [setL]
    rw [setL_comm l m _ fun p hp q hq => h p (by simp [hp]) q hq, setL_set m H b c fun q hq e => h (b, c) (by simp) q hq e.symm]
theorem putBack_setL : ∀ (bs : List Nat) (H Cs : List (Option (List CVal))), bs.length ≤ Cs.length → putBack H bs Cs = setL H (bs.zip Cs) ++ Cs.drop bs.length
  | [], H, Cs, _ => by simp [putBack, setL]
  | b :: bs, H, [], h => by simp at h
  | b :: bs, H, c :: Cs, h => by
    simp only [putBack, List.zip_cons_cons, setL, List.length_cons, List.drop_succ_cons]
    exact putBack_setL bs _ Cs (by simpa using h)
theorem app_H (E : Eff) (d : Option Tmp) : (E.app d s).H = setL s.H E.wr ++ E.new := by
  unfold Eff.app
  cases d <;> rfl
theorem app_ev {E : Eff} {d : Option Tmp} {t : Tmp} (h1 : d ≠ some t) (h2 : E.dem ≠ some t) : (E.app d s).ev (.tmp t) = s.ev (.tmp t) := by
  unfold Eff.app
  have e1 : ∀ s' : St, (s'.put d E.x).ev (.tmp t) = s'.ev (.tmp t) := fun s' => by
    cases d with
    | none => rfl
    | some d => exact upd_other _ _ (fun e => h1 (by rw [e]))
  rw [e1]
  show (s.demO E.dem).sl t = s.sl t
  cases hd : E.dem with
  | none => rfl
  | some u => exact upd_other _ _ (fun e => h2 (by rw [hd, e]))
/-- What a step does in one state it does in all that look alike to it. -/
structure HasEff (P : Program) (ops : Array Oper) (c : Cl) (o : Oper) (s s1 : St) (E : Eff) : Prop where
  eq : s1 = E.app o.dst s
  dem : ∀ u, E.dem = some u → c.dem = true ∧ Operand.tmp u ∈ o.op.operands
  wr : ∀ p ∈ E.wr, p.1 ∈ c.wr ∧ p.1 < s.H.length
  wf : ∀ b ∈ c.wr, b ∈ c.fp
  new : E.new ≠ [] → c.new = some s.H.length
  newn : ∀ n, c.new = some n → n = s.H.length
  soft : c.soft = true → ∀ b, demH (setL s.H E.wr) b = demH s.H b
  all : ∀ s', (∀ t ∈ o.looksAt ops, s.ev (.tmp t) = s'.ev (.tmp t)) → (∀ b ∈ c.fp, s.H[b]? = s'.H[b]?) → (∀ b ∈ c.fr, demH s.H b = demH s'.H b) → (c.new.isSome = true → s.H.length = s'.H.length) → Step P ops c o s' (E.app o.dst s')
theorem Step.eff (h : Step P ops c o s s1) : ∃ E, HasEff P ops c o s s1 E := by
  rw [step_way] at h
  have hz : ∀ (s : St) (d : Option Tmp) (x : AVal), s.put d x = (Eff.mk x none [] []).app d s := fun s d x => by
    simp [Eff.app, St.demO, setL, St.h]
  cases h with
  | skip hw =>
    refine ⟨⟨.c .und, none, [], []⟩, hz _ _ _, fun u e => (by cases e), fun p hp => (by cases hp), fun b hb => (by cases hb), fun e => absurd rfl e, fun n e => (by cases e), fun _ _ => rfl, fun s' hl _ _ _ => ?_⟩
    rw [← hz]
    exact step_way.2 (.skip (by rw [← wantA_congr hl]; exact hw))
  | sem v hw hcc hv =>
    refine ⟨⟨ofV v, none, [], []⟩, hz _ _ _, fun u e => (by cases e), fun p hp => (by cases hp), fun b hb => (by cases hb), fun e => absurd rfl e, fun n e => (by cases e), fun _ _ => rfl, fun s' hl _ _ _ => ?_⟩
    rw [← hz]
    have hev := ev_looks hl
    obtain ⟨b, t, x, y, u, ho⟩ := hv.op
    refine step_way.2 (.sem v (by rw [← wantA_congr hl]; exact hw) hcc ⟨hv.op, ?_, fun w => ?_⟩)
    · rw [List.all_eq_true]
      intro x hx
      rw [← hev x (by simpa using hx)]
      exact List.all_eq_true.1 hv.plain x hx
    · rw [execOp_congr (ρ := s'.env) (ρ' := s.env) o (fun cs b e => by rw [ho] at e; cases e) (fun x hx => by unfold St.env; rw [hev x hx])]
      exact hv.run w
  | pure f xs r hw hcc h1 h2 =>
    refine ⟨⟨r, none, [], []⟩, hz _ _ _, fun u e => (by cases e), fun p hp => (by cases hp), fun b hb => (by cases hb), fun e => absurd rfl e, fun n e => (by cases e), fun _ _ => rfl, fun s' hl _ _ _ => ?_⟩
    rw [← hz]
    have he : ∀ x ∈ xs, s.ev x = s'.ev x := fun x hx => ev_looks hl x (call_args hcc x hx)
    have e1 : (xs.map fun x => (s.ev x).h) = xs.map fun x => (s'.ev x).h := List.map_congr_left fun x hx => by rw [he x hx]
    refine step_way.2 (.pure f xs r (by rw [← wantA_congr hl]; exact hw) hcc ?_ (by rw [← e1]; exact h2))
    rw [List.all_eq_true] at h1 ⊢
    intro x hx
    rw [← he x hx]; exact h1 x hx
  | op x ch hw hcc ha =>
    have hE : ∀ s : St, (s.chg ch).put o.dst x = (Eff.mk x ch.dem (match ch.blk with | some (b, cs) => [(b, some cs)] | none => []) (match ch.new with | some cs => [some cs] | none => [])).app o.dst s := fun s => by
      unfold Eff.app St.chg
      obtain ⟨d, b, n⟩ := ch
      cases d <;> cases b <;> cases n <;> simp [St.demO, St.blkO, St.newO, St.h, setL, hset, St.dem]
    refine ⟨_, hE s, fun u e => ⟨?_, aop_dem ha e⟩, fun p hp => ?_, fun b hb => ?_, fun e => ?_, fun n e => ?_, fun hsf b => ?_, fun s' hl hf hfr hn => ?_⟩
    · have e : ch.dem = some u := e
      simp [clOf, e]
    · cases hb : ch.blk with
      | none => simp [hb] at hp
      | some bc =>
        obtain ⟨b, cs⟩ := bc
        simp only [hb, List.mem_singleton] at hp
        subst hp
        exact ⟨by simp [clOf, Chg.wr, hb], (aop_blk ha hb).2.1⟩
    · cases hbb : ch.blk with
      | none => simp [clOf, Chg.wr, hbb] at hb
      | some bc =>
        obtain ⟨b', cs⟩ := bc
        simp only [clOf, Chg.wr, hbb, List.mem_singleton] at hb
        subst hb
        exact (aop_blk ha hbb).1
    · cases hn : ch.new with
      | none => simp [hn] at e
      | some cs => simp [clOf, hn]
    · cases hn : ch.new with
      | none => simp [clOf, hn] at e
      | some cs => simp [clOf, hn] at e; exact e.symm
    · have hsf : isLoad o.op = true := hsf
      cases hb : ch.blk with
      | none => rfl
      | some bc =>
        obtain ⟨b', cs⟩ := bc
        obtain ⟨_, k2, _, k4⟩ := aop_blk ha hb
        show demH (s.H.set b' (some cs)) b = demH s.H b
        by_cases e : b' = b
        · subst e; exact k4 hsf
        · unfold demH; rw [List.getElem?_set_ne e]
    · rw [← hE]
      have hev := ev_looks hl
      have ha' : aop P (feeds ops o) s' o = some (x, ch) := by
        rw [← aop_loc hev hf hfr (fun hm => hn (by simp only [clOf]; rw [aop_new ha hm]; rfl))]; exact ha
      have := Way.op (P := P) (ops := ops) (o := o) (s := s') x ch (by rw [← wantA_congr hl]; exact hw) hcc ha'
      have e1 : clOf (feeds ops o) s' o ch = clOf (feeds ops o) s o ch := by
        unfold clOf
        rw [fpOf_congr hev, frOf_congr hev]
        cases hc : ch.new with
        | none => rfl
        | some cs => simp only [Option.isSome_some, if_true]; rw [hn (by simp [clOf, hc])]
      rw [e1] at this
      exact step_way.2 this
  | call f xs bs L args' Hs Hs' r hw hcc hO h1 h2 h3 h4 h5 h6 h7 h8 h9 =>
    have hlen : Hs.length = bs.length := by simpa using congrArg List.length h3
    have hle : bs.length ≤ Hs'.length := by have := hO.len; omega
    have hE : ∀ s : St, (({ s with H := putBack s.H bs (Hs'.map (renB (sig s.H.length bs))) } : St).put o.dst (r.ren (sig s.H.length bs))) = (Eff.mk (r.ren (sig s.H.length bs)) none (bs.zip (Hs'.map (renB (sig s.H.length bs)))) ((Hs'.map (renB (sig s.H.length bs))).drop bs.length)).app o.dst s := fun s => by
      simp only [Eff.app, St.demO, St.h]
      rw [putBack_setL _ _ _ (by simpa using hle)]
    refine ⟨_, hE s, fun u e => (by cases e), fun p hp => ?_, fun b hb => List.mem_append_left _ hb, fun e => ?_, fun n e => ?_, fun hsf => (by cases hsf), fun s' hl hf _ hn => ?_⟩
    · have := (List.of_mem_zip hp).1
      exact ⟨this, h2 _ this⟩
    · show (if Hs'.length = bs.length then none else some s.H.length) = _
      rw [if_neg]
      intro e2
      exact e (List.drop_eq_nil_of_le (by simp [e2]))
    · have e : (if Hs'.length = bs.length then none else some s.H.length) = some n := e
      split at e
      · cases e
      · injection e with e; exact e.symm
    · have he : ∀ x ∈ xs, s.ev x = s'.ev x := fun x hx => ev_looks hl x (call_args hcc x hx)
      have hfb : ∀ b ∈ bs, s.H[b]? = s'.H[b]? := fun b hb => hf b (List.mem_append_left _ hb)
      have hfL : ∀ b ∈ L, s.H[b]? = s'.H[b]? := fun b hb => hf b (List.mem_append_right _ hb)
      have hn' : Hs'.length = bs.length ∨ s.H.length = s'.H.length := by
        by_cases e : Hs'.length = bs.length
        · exact .inl e
        · exact .inr (hn (by show (if Hs'.length = bs.length then none else some s.H.length).isSome = true; rw [if_neg e]; rfl))
      have hs0 : ∀ i, i < Hs.length → sig s.H.length bs i = sig s'.H.length bs i := fun i hi => sig_congr _ _ i (by omega)
      have hs1 : ∀ i, i < Hs'.length → sig s.H.length bs i = sig s'.H.length bs i := fun i hi => by
        rcases hn' with e | e
        · exact sig_congr _ _ i (by omega)
        · rw [e]
      have q1 : Hs.map (renB (sig s.H.length bs)) = Hs.map (renB (sig s'.H.length bs)) := List.map_congr_left fun x hx => renB_congr hs0 (List.all_eq_true.1 h5 x hx)
      have q2 : Hs'.map (renB (sig s.H.length bs)) = Hs'.map (renB (sig s'.H.length bs)) := List.map_congr_left fun x hx => renB_congr hs1 (List.all_eq_true.1 h6 x hx)
      have q3 : args'.map (AVal.ren (sig s.H.length bs)) = args'.map (AVal.ren (sig s'.H.length bs)) := List.map_congr_left fun x hx => AVal.ren_congr hs0 (h4 x hx)
      have q4 : r.ren (sig s.H.length bs) = r.ren (sig s'.H.length bs) := AVal.ren_congr hs1 hO.rok
      have q5 : (bs.map fun b => s.H.getD b none) = bs.map fun b => s'.H.getD b none := List.map_congr_left fun b hb => by rw [List.getD_eq_getElem?_getD, List.getD_eq_getElem?_getD, hfb b hb]
      have q6 : (xs.map fun x => ((s.ev x).h).lend s.H L) = xs.map fun x => ((s'.ev x).h).lend s'.H L := List.map_congr_left fun x hx => by rw [he x hx, AVal.lend_congr hfL]
      have := Way.call (P := P) (ops := ops) (o := o) (s := s') f xs bs L args' Hs Hs' r (by rw [← wantA_congr hl]; exact hw) hcc hO h1 (fun b hb => by
        have e1 := List.getElem?_eq_getElem (h2 b hb)
        rw [hfb b hb] at e1
        exact (List.getElem?_eq_some_iff.1 e1).1) (by rw [← q1, ← q5]; exact h3) h4 h5 h6 (by rw [← q3, ← q6]; exact h7) h8 h9
      rw [hE s', ← q2, ← q4] at this
      have e2 : (if Hs'.length = bs.length then none else some s'.H.length) = (if Hs'.length = bs.length then none else some s.H.length) := by
        rcases hn' with e | e
        · rw [if_pos e, if_pos e]
        · rw [e]
      rw [e2] at this
      exact step_way.2 this
theorem upd_comm {α : Type} (f : Nat → α) {i j : Nat} (x y : α) (h : i ≠ j) : upd (upd f i x) j y = upd (upd f j y) i x := by
  funext k
  by_cases e1 : k = i
  · subst e1; rw [upd_other _ _ h, upd_same, upd_same]
  · by_cases e2 : k = j
    · subst e2; rw [upd_same, upd_other _ _ e1, upd_same]
    · rw [upd_other _ _ e2, upd_other _ _ e1, upd_other _ _ e1, upd_other _ _ e2]
theorem put_H (d : Option Tmp) (x : AVal) : (s.put d x).H = s.H := by cases d <;> rfl
theorem put_comm {d e : Option Tmp} (x y : AVal) (h : ∀ t, d = some t → e ≠ some t) : (s.put d x).put e y = (s.put e y).put d x := by
  cases d with
  | none => rfl
  | some d =>
    cases e with
    | none => rfl
    | some e =>
      have : d ≠ e := fun he => h d rfl (by rw [he])
      simp [St.put, upd_comm _ _ _ this]
theorem dem_put {u : Option Tmp} {d : Option Tmp} {x : AVal} (h : ∀ t, u = some t → d ≠ some t) : (s.put d x).demO u = (s.demO u).put d x := by
  cases u with
  | none => rfl
  | some u =>
    cases d with
    | none => rfl
    | some d =>
      have hne : d ≠ u := fun e => h u rfl (by rw [e])
      simp only [St.demO, St.dem, St.put]
      rw [upd_other _ _ (fun e => hne e.symm), upd_comm _ _ _ hne]
theorem dem_dem {u v : Option Tmp} : (s.demO u).demO v = (s.demO v).demO u := by
  cases u with
  | none => rfl
  | some u =>
    cases v with
    | none => rfl
    | some v =>
      simp only [St.demO, St.dem]
      by_cases e : u = v
      · subst e; rfl
      · rw [upd_other _ _ (fun h => e h.symm), upd_other _ _ e, upd_comm _ _ _ e]
theorem dem_h {u : Option Tmp} {H : List (Option (List CVal))} : (s.h H).demO u = (s.demO u).h H := by cases u <;> rfl
theorem put_h {d : Option Tmp} {x : AVal} {H : List (Option (List CVal))} : (s.h H).put d x = (s.put d x).h H := by cases d <;> rfl
theorem h_h {H H' : List (Option (List CVal))} : (s.h H).h H' = s.h H' := rfl
theorem app_comm {E F : Eff} {d e : Option Tmp} (h1 : ∀ t, d = some t → e ≠ some t) (h2 : ∀ t, E.dem = some t → e ≠ some t) (h3 : ∀ t, F.dem = some t → d ≠ some t)
    (hH : setL (setL s.H E.wr ++ E.new) F.wr ++ F.new = setL (setL s.H F.wr ++ F.new) E.wr ++ E.new) : F.app e (E.app d s) = E.app d (F.app e s) := by
  have key : ∀ (A B : Eff) (x y : Option Tmp), (∀ t, B.dem = some t → x ≠ some t) → B.app y (A.app x s) = (((((s.demO A.dem).demO B.dem).put x A.x).put y B.x).h (setL (setL s.H A.wr ++ A.new) B.wr ++ B.new)) := by
    intro A B x y hx
    have e1 : (A.app x s).H = setL s.H A.wr ++ A.new := app_H A x
    unfold Eff.app at e1 ⊢
    rw [e1, dem_put hx, dem_h, put_h, put_h, put_h, h_h]
  rw [key E F d e h3, key F E e d h2, hH, dem_dem, put_comm _ _ h1]
end
end Go.Proofs.Ythnfliopmjpdmaa.Av
