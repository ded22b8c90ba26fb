/- The rules of operations on strings, of conversions and of the rest of the plain ones. -/
import Derived.Test.YthnfliopmjpdmaaAvR
namespace Go.Proofs.Ythnfliopmjpdmaa.Av
set_option linter.unusedVariables false
set_option linter.unusedSimpArgs false

section
variable {P : Program}
theorem pr_bind {α β : Type} (f : α → Sem β) : ∀ (m : Sem α), pureRun P (m >>= f) = (pureRun P m).bind fun a => pureRun P (f a)
  | .pure a => rfl
  | .program k => by show pureRun P ((k P).bind f) = _; exact pr_bind f (k P)
  | .mark _ k => by show pureRun P (k.bind f) = _; exact pr_bind f k
  | .load .. => rfl
  | .store .. => rfl
  | .new .. => rfl
  | .shape .. => rfl
  | .freeze .. => rfl
  | .frozen .. => rfl
  | .getObj .. => rfl
  | .setObj .. => rfl
  | .choose .. => rfl
  | .sys .. => rfl
  | .halt .. => rfl
theorem pr_pure {α : Type} (a : α) : pureRun P (pure a : Sem α) = some a := rfl
theorem pr_map {α β : Type} (f : α → β) (m : Sem α) : pureRun P (Functor.map f m) = (pureRun P m).map f := by
  show pureRun P (m >>= fun a => pure (f a)) = _
  rw [pr_bind]
  cases pureRun P m <;> rfl
theorem pr_under {t : TypeId} {d : TypeDesc} (h : P.underlying t = some d) : pureRun P (underlying t) = some d := by
  show pureRun P (match P.underlying t with | some d => pure d | none => stuck "no such type") = _
  rw [h]; rfl
variable {ops : Array Oper} {s s' : St} {rest : List Oper} {d : Option Tmp} {ty : TypeId} {pos : String} {af : Array Edge} {g : Option (Nat × Bool)} {R : Rg}
theorem aPlain_of {o : Oper} {v : Value} (hs : isSel o.op = false) (h1 : (o.op.operands.toList.all fun x => (s.ev x).toV.isSome) = true) (h2 : pureRun P (execOp s.env o) = some (.value v)) : aPlain P s o = some (ofV v, {}) := by
  unfold aPlain
  rw [h1, hs]
  simp only [Bool.not_false, Bool.and_true, if_true]
  rw [h2]
theorem ev_some {x : Operand} {v : Value} (h : s.ev x = .c (.f (.v v))) : (s.ev x).toV.isSome = true := by rw [h]; rfl
theorem pr_v {m : Sem Value} {v : Value} (h : pureRun P m = some v) : pureRun P (do pure (Next.value (← m))) = some (.value v) := by
  rw [pr_bind, h]; rfl
/-- Strings: joined and compared. -/
def sbin (op : BinOp) (a b : ByteArray) : Option Value :=
  match op with
  | .add => if ((a.size + b.size : Nat) : Int) > 9223372036854775807 then none else some (.string (a ++ b))
  | .eql => some (.bool (a.toList == b.toList))
  | .neq => some (.bool !(a.toList == b.toList))
  | .lss => some (.bool (Op.bytesLess a.toList b.toList))
  | _ => none
theorem R_sbin {op : BinOp} {t u : TypeId} {x y : Operand} {a b : ByteArray} {v : Value} (hx : s.ev x = .c (.f (.v (.string a)))) (hy : s.ev y = .c (.f (.v (.string b)))) (hv : sbin op a b = some v) (h : WR P ops rest (s.put d (.c (.f (.v v)))) (R.push .q0)) : WR P ops (⟨d, .binOp op t x y u, ty, pos, af, none⟩ :: rest) s R := by
  have hof : ofV v = .c (.f (.v v)) := by
    cases op <;> simp only [sbin] at hv <;> first | (cases hv; done) | (injection hv with hv; subst hv; rfl) | skip
    all_goals (split at hv <;> first | (cases hv; done) | (injection hv with hv; subst hv; rfl))
  refine WR_op (wantA_none rfl) rfl ?_ (clOf0 rfl rfl rfl) h
  rw [← hof]
  show aPlain P s _ = _
  refine aPlain_of rfl ?_ ?_
  · show ([x, y].all fun x => (s.ev x).toV.isSome) = true
    simp [ev_some hx, ev_some hy]
  · show pureRun P (do pure (Next.value (← (do eqGuard op t x y (s.env x) (s.env y); binOp op t (s.env x) (s.env y))))) = _
    rw [env_of hx, env_of hy]
    have hg : eqGuard op t x y (.string a) (.string b) = pure () := by cases op <;> rfl
    rw [hg]
    refine pr_v ?_
    rw [pr_bind, pr_pure]
    show pureRun P (binOp op t (.string a) (.string b)) = _
    cases op <;> simp only [sbin] at hv <;> first | (cases hv; done) | skip
    case add =>
      split at hv
      · cases hv
      · rename_i hle
        injection hv with hv; subst hv
        show pureRun P (Op.stringOp .add a b) = _
        unfold Op.stringOp
        dsimp only
        rw [if_neg (show ¬ ((a.size + b.size : Nat) : Int) > IntKind.i64.max from hle)]
        rfl
    all_goals (injection hv with hv; subst hv; rfl)
theorem R_len_str {t : TypeId} {x : Operand} {b : ByteArray} (ht : P.underlying t = some .string) (hx : s.ev x = .c (.f (.v (.string b)))) (h : WR P ops rest (s.put d (.c (.f (.v (.int .i64 b.size))))) (R.push .q0)) :
    WR P ops (⟨d, .call { callee := .builtin .len, args := #[x], argTypes := #[t] }, ty, pos, af, none⟩ :: rest) s R := by
  refine WR_op (wantA_none rfl) rfl ?_ (clOf0 rfl rfl rfl) h
  show aLen P s _ t x = _
  unfold aLen
  have he : elemSz P t = none := by unfold elemSz; rw [ht]
  rw [he]
  refine (aPlain_of (v := .int .i64 b.size) rfl ?_ ?_).trans rfl
  · show ([x].all fun x => (s.ev x).toV.isSome) = true
    simp [ev_some hx]
  · simp only [execOp, resolve, List.map_toArray, List.map_cons, List.map_nil, pr_bind, pr_pure, Option.bind_some, invoke, builtin, env_of hx]
    show (pureRun P (underlying t >>= _)).bind _ = _
    rw [pr_bind, pr_under ht]
    rfl
theorem R_len_row {t : TypeId} {x : Operand} {v : AVal} {z : Nat} {cs : List FVal} {len : Nat} (hz : elemSz P t = some z) (hx : s.ev x = v) (hv : v.dem = .c (.f (.row cs len))) (h : WR P ops rest (s.put d (.c (.f (.v (.int .i64 len))))) (R.push .q0)) :
    WR P ops (⟨d, .call { callee := .builtin .len, args := #[x], argTypes := #[t] }, ty, pos, af, none⟩ :: rest) s R := by
  refine WR_op (wantA_none rfl) rfl ?_ (clOf0 rfl rfl rfl) h
  show aLen P s _ t x = _
  unfold aLen
  rw [hz, hx, hv]
theorem R_len_arr {t : TypeId} {x : Operand} {z b off len cap : Nat} (hz : elemSz P t = some z) (hx : s.ev x = .c (.arr b off len cap)) (h : WR P ops rest (s.put d (.c (.f (.v (.int .i64 len))))) (R.push .q0)) :
    WR P ops (⟨d, .call { callee := .builtin .len, args := #[x], argTypes := #[t] }, ty, pos, af, none⟩ :: rest) s R := by
  refine WR_op (wantA_none rfl) rfl ?_ (clOf0 rfl rfl rfl) h
  show aLen P s _ t x = _
  unfold aLen
  rw [hz, hx]
  rfl
theorem R_len_nil {t e : TypeId} {x : Operand} (ht : P.underlying t = some (.slice e)) (hx : s.ev x = .c (.f .nils)) (h : WR P ops rest (s.put d (.c (.f (.v (.int .i64 0))))) (R.push .q0)) :
    WR P ops (⟨d, .call { callee := .builtin .len, args := #[x], argTypes := #[t] }, ty, pos, af, none⟩ :: rest) s R := by
  refine WR_op (wantA_none rfl) rfl ?_ (clOf0 rfl rfl rfl) h
  show aLen P s _ t x = _
  have hp : aPlain P s ⟨d, .call { callee := .builtin .len, args := #[x], argTypes := #[t] }, ty, pos, af, none⟩ = some (ofV (.int .i64 0), {}) := by
    refine aPlain_of rfl ?_ ?_
    · show ([x].all fun x => (s.ev x).toV.isSome) = true
      simp [hx, AVal.toV, CVal.toV, FVal.toV]
    · have he : s.env x = .slice none 0 0 := by unfold St.env; rw [hx]; rfl
      simp only [execOp, resolve, List.map_toArray, List.map_cons, List.map_nil, pr_bind, pr_pure, Option.bind_some, invoke, builtin, he]
      show (pureRun P (underlying t >>= _)).bind _ = _
      rw [pr_bind, pr_under ht]
      rfl
  unfold aLen
  rw [hx]
  split
  · rename_i heq; cases heq
  · rename_i heq; cases heq
  · exact hp
theorem R_index_str {t : TypeId} {x i : Operand} {b : ByteArray} {k : IntKind} {n : Int} {c : UInt8} (ht : P.underlying t = some .string) (hx : s.ev x = .c (.f (.v (.string b)))) (hi : s.ev i = .c (.f (.v (.int k n)))) (h0 : 0 ≤ n) (hc : b[n.toNat]? = some c) (h : WR P ops rest (s.put d (.c (.f (.v (.int .u8 c.toNat))))) (R.push .q0)) :
    WR P ops (⟨d, .index t x i, ty, pos, af, none⟩ :: rest) s R := by
  refine WR_op (wantA_none rfl) rfl ?_ (clOf0 rfl rfl rfl) h
  show aIndex P s _ t x i = _
  unfold aIndex
  have he : elemT P t = none := by unfold elemT; rw [ht]
  rw [he]
  refine (aPlain_of (v := .int .u8 c.toNat) rfl ?_ ?_).trans rfl
  · show ([x, i].all fun x => (s.ev x).toV.isSome) = true
    simp [ev_some hx, ev_some hi]
  · show pureRun P (do pure (Next.value (← Instr.index t (s.env x) (s.env i)))) = _
    rw [env_of hx, env_of hi]
    refine pr_v ?_
    unfold Instr.index
    show pureRun P (underlying t >>= _) = _
    rw [pr_bind, pr_under ht]
    simp only [Option.bind_some, if_pos h0, hc]
    rfl
theorem R_index_strD {t : TypeId} {x i : Operand} {b : ByteArray} {k : IntKind} {n : Int} (ht : P.underlying t = some .string) (hx : s.ev x = .c (.f (.v (.string b)))) (hi : s.ev i = .c (.f (.v (.int k n)))) (h0 : 0 ≤ n) (h1 : n < b.size) (h : WR P ops rest (s.put d (.c (.f (.v (.int .u8 (b.data.getD n.toNat 0).toNat))))) (R.push .q0)) :
    WR P ops (⟨d, .index t x i, ty, pos, af, none⟩ :: rest) s R := by
  have hlt : n.toNat < b.size := by omega
  refine R_index_str ht hx hi h0 (c := b.data.getD n.toNat 0) ?_ h
  have hlt' : n.toNat < b.data.size := hlt
  rw [getElem?_pos b n.toNat hlt]
  simp only [Array.getD, hlt', dite_true]
  rfl
theorem pr_bound {k : IntKind} {n : Int} {y : Nat} {c : BoundsCode} (h0 : 0 ≤ n) (h1 : n ≤ y) : pureRun P (Instr.sliceBound (.int k n) y c) = some n.toNat := by
  unfold Instr.sliceBound
  simp only [asIntOf, pr_bind, pr_pure, Option.bind_some]
  rw [if_pos ⟨h0, h1⟩]
  rfl
theorem R_slice_str {t : TypeId} {x : Operand} {lo hi : Option Operand} {b : ByteArray} {l r : Int} (ht : P.underlying t = some .string) (hx : s.ev x = .c (.f (.v (.string b)))) (hl : bnd s lo 0 = some l) (hh : bnd s hi b.size = some r) (h0 : 0 ≤ l) (h1 : l ≤ r) (h2 : r ≤ b.size) (h : WR P ops rest (s.put d (.c (.f (.v (.string (b.extract l.toNat r.toNat)))))) (R.push .q0)) :
    WR P ops (⟨d, .slice t x lo hi none, ty, pos, af, none⟩ :: rest) s R := by
  refine WR_op (wantA_none rfl) rfl ?_ (clOf0 rfl rfl rfl) h
  show aSlice P s _ t x lo hi none = _
  unfold aSlice
  have he : elemSz P t = none := by unfold elemSz; rw [ht]
  rw [he]
  have key : ∀ (y : Option Operand) (n m : Int), bnd s y m = some n → (y = none ∧ n = m) ∨ ∃ o k, y = some o ∧ s.ev o = .c (.f (.v (.int k n))) := by
    intro y n m hb
    cases y with
    | none => injection hb with hb; exact .inl ⟨rfl, hb.symm⟩
    | some o =>
      simp only [bnd] at hb
      unfold AVal.ix at hb
      split at hb
      · rename_i k m heq; injection hb with hb; subst hb; exact .inr ⟨o, k, rfl, heq⟩
      · cases hb
  refine (aPlain_of (v := .string (b.extract l.toNat r.toNat)) rfl ?_ ?_).trans rfl
  · show ((#[x] ++ lo.toArray ++ hi.toArray ++ #[]).toList.all fun x => (s.ev x).toV.isSome) = true
    rcases key lo l 0 hl with ⟨rfl, _⟩ | ⟨o1, k1, rfl, e1⟩ <;> rcases key hi r _ hh with ⟨rfl, _⟩ | ⟨o2, k2, rfl, e2⟩
    · simp [ev_some hx]
    · simp [ev_some hx, ev_some e2]
    · simp [ev_some hx, ev_some e1]
    · simp [ev_some hx, ev_some e1, ev_some e2]
  · show pureRun P (do pure (Next.value (← Instr.sliceAt t (s.env x) (lo.map s.env) (hi.map s.env) (none.map s.env)))) = _
    rw [env_of hx]
    refine pr_v ?_
    unfold Instr.sliceAt
    rw [pr_bind, pr_under ht]
    show pureRun P (Instr.slice t (.string b) (lo.map s.env) (hi.map s.env) none) = _
    unfold Instr.slice
    rw [pr_bind, pr_under ht]
    show pureRun P (Instr.sliceBounds false b.size b.size (lo.map s.env) (hi.map s.env) none >>= _) = _
    have hb : pureRun P (Instr.sliceBounds false b.size b.size (lo.map s.env) (hi.map s.env) none) = some (l.toNat, r.toNat, b.size) := by
      unfold Instr.sliceBounds
      rcases key lo l 0 hl with ⟨rfl, e1⟩ | ⟨o1, k1, rfl, e1⟩ <;> rcases key hi r _ hh with ⟨rfl, e2⟩ | ⟨o2, k2, rfl, e2⟩
      · subst e1; subst e2
        simp [pr_bind, pr_pure]
      · subst e1
        have q1 : r ≤ (b.size : Int) := h2
        simp [pr_bind, pr_pure, pr_map, env_of e2, pr_bound (by omega) q1]
      · subst e2
        have q1 : l ≤ (b.size : Int) := h1
        simp [pr_bind, pr_pure, pr_map, env_of e1, pr_bound h0 q1]
      · have q1 : r ≤ (b.size : Int) := h2
        have q2 : l ≤ (r.toNat : Int) := by omega
        simp [pr_bind, pr_pure, pr_map, env_of e1, env_of e2, pr_bound (by omega) q1, pr_bound h0 q2]
    rw [pr_bind, hb]
    rfl
theorem R_conv_int {t u : TypeId} {du : TypeDesc} {x : Operand} {k j : IntKind} {n : Int} (ht : P.underlying t = some du) (hu : P.underlying u = some (.int j)) (hx : s.ev x = .c (.f (.v (.int k n)))) (h : WR P ops rest (s.put d (.c (.f (.v (.int j (j.wrap n)))))) (R.push .q0)) : WR P ops (⟨d, .convert t u x, ty, pos, af, none⟩ :: rest) s R := by
  refine WR_op (wantA_none rfl) rfl ?_ (clOf0 rfl rfl rfl) h
  show aConvert P s _ t u x = _
  unfold aConvert
  rw [hx]
  refine (aPlain_of (v := .int j (j.wrap n)) rfl ?_ ?_).trans rfl
  · show ([x].all fun x => (s.ev x).toV.isSome) = true
    simp [ev_some hx]
  · show pureRun P (do pure (Next.value (← convert t u (s.env x)))) = _
    rw [env_of hx]
    refine pr_v ?_
    unfold convert
    rw [pr_bind, pr_under ht]
    simp only [Option.bind_some]
    rw [pr_bind, pr_under hu]
    rfl
theorem R_conv64 {t u : TypeId} {du : TypeDesc} {x : Operand} {k : IntKind} {n : Int} (ht : P.underlying t = some du) (hu : P.underlying u = some (.int .i64)) (hx : s.ev x = .c (.f (.v (.int k n)))) (h1 : -9223372036854775808 ≤ n) (h2 : n ≤ 9223372036854775807) (h : WR P ops rest (s.put d (.c (.f (.v (.int .i64 n))))) (R.push .q0)) : WR P ops (⟨d, .convert t u x, ty, pos, af, none⟩ :: rest) s R :=
  R_conv_int ht hu hx (by rw [wrap64 h1 h2]; exact h)
def iun (op : UnOp) : Value → Option Value
  | .int k n => match op with
    | .neg => some (.int k (k.wrap (0 - n)))
    | _ => none
  | .bool b => match op with
    | .not => some (.bool !b)
    | _ => none
  | _ => none
theorem R_un {op : UnOp} {t : TypeId} {x : Operand} {a v : Value} (hx : s.ev x = .c (.f (.v a))) (hv : iun op a = some v) (h : WR P ops rest (s.put d (.c (.f (.v v)))) (R.push .q0)) : WR P ops (⟨d, .unOp op t x, ty, pos, af, none⟩ :: rest) s R := by
  have hof : ofV v = .c (.f (.v v)) := by
    cases a <;> simp only [iun] at hv <;> first | (cases hv; done) | skip
    all_goals (cases op <;> simp only at hv <;> first | (cases hv; done) | skip)
    all_goals (injection hv with hv; subst hv; rfl)
  refine WR_op (wantA_none rfl) rfl ?_ (clOf0 rfl rfl rfl) h
  rw [← hof]
  show aPlain P s _ = _
  refine aPlain_of rfl ?_ ?_
  · show ([x].all fun x => (s.ev x).toV.isSome) = true
    simp [ev_some hx]
  · show pureRun P (do pure (Next.value (← Op.unary op (s.env x)))) = _
    rw [env_of hx]
    refine pr_v ?_
    cases a <;> simp only [iun] at hv <;> first | (cases hv; done) | skip
    all_goals (cases op <;> simp only at hv <;> first | (cases hv; done) | skip)
    all_goals (injection hv with hv; subst hv; rfl)
theorem R_shl {t u : TypeId} {x y : Operand} {k j : IntKind} {a b : Int} (hx : s.ev x = .c (.f (.v (.int k a)))) (hy : s.ev y = .c (.f (.v (.int j b)))) (hb : 0 ≤ b) (h : WR P ops rest (s.put d (.c (.f (.v (.int k (k.wrap (a * 2 ^ (min b.toNat k.bits)))))))) (R.push .q0)) : WR P ops (⟨d, .binOp .shl t x y u, ty, pos, af, none⟩ :: rest) s R := by
  refine WR_op (wantA_none rfl) rfl ?_ (clOf0 rfl rfl rfl) h
  show aPlain P s _ = _
  refine (aPlain_of (v := .int k (k.wrap (a * 2 ^ (min b.toNat k.bits)))) rfl ?_ ?_).trans rfl
  · show ([x, y].all fun x => (s.ev x).toV.isSome) = true
    simp [ev_some hx, ev_some hy]
  · show pureRun P (do pure (Next.value (← (do eqGuard .shl t x y (s.env x) (s.env y); binOp .shl t (s.env x) (s.env y))))) = _
    rw [env_of hx, env_of hy]
    refine pr_v ?_
    show pureRun P (Op.shift .shl k a j b) = _
    unfold Op.shift
    rw [if_neg (by omega)]
    rfl
theorem R_shr {t u : TypeId} {x y : Operand} {k j : IntKind} {a b : Int} (hx : s.ev x = .c (.f (.v (.int k a)))) (hy : s.ev y = .c (.f (.v (.int j b)))) (hb : 0 ≤ b) (h : WR P ops rest (s.put d (.c (.f (.v (.int k (a.fdiv (2 ^ (min b.toNat k.bits)))))))) (R.push .q0)) : WR P ops (⟨d, .binOp .shr t x y u, ty, pos, af, none⟩ :: rest) s R := by
  refine WR_op (wantA_none rfl) rfl ?_ (clOf0 rfl rfl rfl) h
  show aPlain P s _ = _
  refine (aPlain_of (v := .int k (a.fdiv (2 ^ (min b.toNat k.bits)))) rfl ?_ ?_).trans rfl
  · show ([x, y].all fun x => (s.ev x).toV.isSome) = true
    simp [ev_some hx, ev_some hy]
  · show pureRun P (do pure (Next.value (← (do eqGuard .shr t x y (s.env x) (s.env y); binOp .shr t (s.env x) (s.env y))))) = _
    rw [env_of hx, env_of hy]
    refine pr_v ?_
    show pureRun P (Op.shift .shr k a j b) = _
    unfold Op.shift
    rw [if_neg (by omega)]
    rfl
/-- Bits. -/
def bbin (op : BinOp) (k : IntKind) (a b : Int) : Option Value :=
  match op with
  | .and => some (.int k (k.wrap ((BitVec.ofInt k.bits a &&& BitVec.ofInt k.bits b).toNat)))
  | .or => some (.int k (k.wrap ((BitVec.ofInt k.bits a ||| BitVec.ofInt k.bits b).toNat)))
  | .xor => some (.int k (k.wrap ((BitVec.ofInt k.bits a ^^^ BitVec.ofInt k.bits b).toNat)))
  | _ => none
theorem R_bbin {op : BinOp} {t u : TypeId} {x y : Operand} {k : IntKind} {a b : Int} {v : Value} (hx : s.ev x = .c (.f (.v (.int k a)))) (hy : s.ev y = .c (.f (.v (.int k b)))) (hv : bbin op k a b = some v) (h : WR P ops rest (s.put d (.c (.f (.v v)))) (R.push .q0)) : WR P ops (⟨d, .binOp op t x y u, ty, pos, af, none⟩ :: rest) s R := by
  have hof : ofV v = .c (.f (.v v)) := by
    cases op <;> simp only [bbin] at hv <;> first | (cases hv; done) | (injection hv with hv; subst hv; rfl)
  refine WR_op (wantA_none rfl) rfl ?_ (clOf0 rfl rfl rfl) h
  rw [← hof]
  show aPlain P s _ = _
  refine aPlain_of rfl ?_ ?_
  · show ([x, y].all fun x => (s.ev x).toV.isSome) = true
    simp [ev_some hx, ev_some hy]
  · show pureRun P (do pure (Next.value (← (do eqGuard op t x y (s.env x) (s.env y); binOp op t (s.env x) (s.env y))))) = _
    rw [env_of hx, env_of hy]
    refine pr_v ?_
    cases op <;> simp only [bbin] at hv <;> first | (cases hv; done) | skip
    all_goals (injection hv with hv; subst hv; simp only [binOp, ne_eq, not_true_eq_false, if_false]; rfl)
end
end Go.Proofs.Ythnfliopmjpdmaa.Av
