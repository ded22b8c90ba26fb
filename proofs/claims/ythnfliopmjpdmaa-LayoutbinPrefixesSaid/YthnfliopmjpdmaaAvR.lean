/- The rules of the operations, one for each kind. -/
import Derived.Test.YthnfliopmjpdmaaAvT
namespace Go.Proofs.Ythnfliopmjpdmaa.Av
set_option linter.unusedVariables false
set_option linter.unusedSimpArgs false

section
variable {P : Program} {ops : Array Oper} {s s' : St} {rest : List Oper} {d : Option Tmp} {ty : TypeId} {pos : String} {af : Array Edge} {g : Option (Nat × Bool)} {R : Rg}
abbrev Wt (ops : Array Oper) (s : St) (o : Oper) : Prop := wantA ops s o = some true
theorem wantA_t {o oj : Oper} {j : Nat} {want b : Bool} {d : Tmp} (h : o.guard = some (j, want)) (h1 : ops[j]? = some oj) (h2 : oj.dst = some d) (h3 : s.ev (.tmp d) = .c (.f (.v (.bool b)))) (hb : b = want) : wantA ops s o = some true := by
  rw [wantA_some h h1 h2 h3, hb]; simp
theorem wantA_f {o oj : Oper} {j : Nat} {want b : Bool} {d : Tmp} (h : o.guard = some (j, want)) (h1 : ops[j]? = some oj) (h2 : oj.dst = some d) (h3 : s.ev (.tmp d) = .c (.f (.v (.bool b)))) (hb : (b == want) = false) : wantA ops s o = some false := by
  rw [wantA_some h h1 h2 h3, hb]
/-- A guard's value is one or the other. -/
theorem WR_bool {l : List Oper} (b : Bool) (h1 : b = true → WR P ops l s R) (h2 : b = false → WR P ops l s R) : WR P ops l s R := by
  cases b with
  | true => exact h1 rfl
  | false => exact h2 rfl
abbrev Cl.dm : Cl := { dem := true }
abbrev Cl.st (b : Nat) : Cl := { fp := [b], wr := [b] }
abbrev Cl.stt (b : Nat) : Cl := { fp := [b], wr := [b], dem := true }
abbrev Cl.mk1 (n : Nat) : Cl := { new := some n }
/-- A load out of a block: as it lies, or as data. -/
def Cl.ld (tr : Bool) (b : Nat) : Cl := if tr = true then { fp := [b], soft := true } else { fr := [b], soft := true }
abbrev Cl.ip : Cl := { soft := true }
abbrev Cl.tk (b : Nat) : Cl := { fp := [b], wr := [b], soft := true }
theorem clOf0 {tr : Bool} {o : Oper} (h : fpOf tr s o = []) (h' : frOf tr s o = []) (hl : isLoad o.op = false) : clOf tr s o {} = .q0 := by unfold clOf; rw [h, h', hl]; rfl
theorem clOf_ld {tr : Bool} {t : TypeId} {x : Operand} {b off : Nat} (hx : s.ev x = .c (.ptr b off)) : clOf tr s ⟨d, .load t x, ty, pos, af, g⟩ {} = .ld tr b := by
  show (⟨if tr = true then ptrB (s.ev x) else [], if tr = true then [] else ptrB (s.ev x), [], none, false, true⟩ : Cl) = _
  rw [hx]
  cases tr <;> rfl
theorem clOf_ip {tr : Bool} {t : TypeId} {x : Operand} {cs : List FVal} {off : Nat} (hx : s.ev x = .c (.ip cs off)) : clOf tr s ⟨d, .load t x, ty, pos, af, g⟩ {} = .ip := by
  show (⟨if tr = true then ptrB (s.ev x) else [], if tr = true then [] else ptrB (s.ev x), [], none, false, true⟩ : Cl) = _
  rw [hx]
  cases tr <;> rfl
theorem R_move {x : Operand} {v : AVal} (hx : s.ev x = v) (hv : Flat v = true) (h : WR P ops rest (s.put d v) (R.push .q0)) : WR P ops (⟨d, .move x, ty, pos, af, none⟩ :: rest) s R := by
  refine WR_op (wantA_none rfl) rfl ?_ (clOf0 rfl rfl rfl) h
  show some (aMove _ s x) = _
  unfold aMove
  rw [hx]
  split
  · cases hv
  · rw [flat_dem hv]
theorem R_assign {x : Operand} {v : AVal} (hx : s.ev x = v) (hv : Flat v = true) (h : WR P ops rest (s.put d v) (R.push .q0)) : WR P ops (⟨d, .assign x, ty, pos, af, none⟩ :: rest) s R := by
  refine WR_op (wantA_none rfl) rfl ?_ (clOf0 rfl rfl rfl) h
  show some (aMove true s x) = _
  unfold aMove
  rw [hx]
  split
  · cases hv
  · rw [flat_dem hv]
theorem R_assign_tip {t : Tmp} {sz : Nat} {cs : List FVal} {len : Nat} (hx : s.ev (.tmp t) = .c (.tip sz cs len)) (h : WR P ops rest ((s.put (some t) (.c (.f (.row cs len)))).put d (.c (.tip sz cs len))) (R.push .dm)) : WR P ops (⟨d, .assign (.tmp t), ty, pos, af, none⟩ :: rest) s R := by
  have hx' : s.sl t = .c (.tip sz cs len) := hx
  refine WR_chg (x := .c (.tip sz cs len)) (c := { dem := some t }) (wantA_none rfl) rfl ?_ rfl ?_ h
  · show some (aMove true s (.tmp t)) = _
    unfold aMove
    rw [hx]
  · simp only [St.chg, St.demO, St.blkO, St.newO, St.dem, hx', AVal.dem, CVal.dem, St.put]
theorem R_move_tip {t : Tmp} {sz : Nat} {cs : List FVal} {len : Nat} (hf : feeds ops ⟨d, .move (.tmp t), ty, pos, af, none⟩ = true) (hx : s.ev (.tmp t) = .c (.tip sz cs len)) (h : WR P ops rest ((s.put (some t) (.c (.f (.row cs len)))).put d (.c (.tip sz cs len))) (R.push .dm)) : WR P ops (⟨d, .move (.tmp t), ty, pos, af, none⟩ :: rest) s R := by
  have hx' : s.sl t = .c (.tip sz cs len) := hx
  refine WR_chg (x := .c (.tip sz cs len)) (c := { dem := some t }) (wantA_none rfl) rfl ?_ rfl ?_ h
  · show some (aMove (feeds ops _) s (.tmp t)) = _
    unfold aMove
    rw [hf, hx]
  · simp only [St.chg, St.demO, St.blkO, St.newO, St.dem, hx', AVal.dem, CVal.dem, St.put]
theorem R_move_row {x : Operand} {sz : Nat} {cs : List FVal} {len : Nat} (hf : feeds ops ⟨d, .move x, ty, pos, af, none⟩ = false) (hx : s.ev x = .c (.tip sz cs len)) (h : WR P ops rest (s.put d (.c (.f (.row cs len)))) (R.push .q0)) : WR P ops (⟨d, .move x, ty, pos, af, none⟩ :: rest) s R := by
  refine WR_op (wantA_none rfl) rfl ?_ (clOf0 rfl rfl rfl) h
  show some (aMove (feeds ops _) s x) = _
  unfold aMove
  rw [hf, hx]
  rfl
theorem R_pick {c x y : Operand} {b : Bool} {v u : AVal} (hc : s.ev c = .c (.f (.v (.bool b)))) (hx : s.ev x = v) (hy : s.ev y = u) (h : WR P ops rest (s.put d (if b = true then v.dem else u.dem)) (R.push .q0)) : WR P ops (⟨d, .pick c x y, ty, pos, af, none⟩ :: rest) s R := by
  refine WR_op (wantA_none rfl) rfl ?_ (clOf0 rfl rfl rfl) h
  show aPick s c x y = _
  unfold aPick
  rw [hc]
  cases b with
  | true => simp [hx]
  | false => simp [hy]
theorem R_nil_ptr {x : Operand} {b off : Nat} (hx : s.ev x = .c (.ptr b off)) (h : WR P ops rest (s.put d (.c (.ptr b off))) (R.push .q0)) : WR P ops (⟨d, .nilCheck x, ty, pos, af, none⟩ :: rest) s R := by
  refine WR_op (wantA_none rfl) rfl ?_ (clOf0 rfl rfl rfl) h
  show aNil s x = _
  unfold aNil
  rw [hx]
theorem R_nil_ip {x : Operand} {cs : List FVal} {off : Nat} (hx : s.ev x = .c (.ip cs off)) (h : WR P ops rest (s.put d (.c (.ip cs off))) (R.push .q0)) : WR P ops (⟨d, .nilCheck x, ty, pos, af, none⟩ :: rest) s R := by
  refine WR_op (wantA_none rfl) rfl ?_ (clOf0 rfl rfl rfl) h
  show aNil s x = _
  unfold aNil
  rw [hx]
theorem R_fa_ptr {t : TypeId} {x : Operand} {f k b off off' : Nat} (hf : fldOff P t f = some k) (hx : s.ev x = .c (.ptr b off)) (ho : off + k = off') (h : WR P ops rest (s.put d (.c (.ptr b off'))) (R.push .q0)) : WR P ops (⟨d, .fieldAddr t x f, ty, pos, af, none⟩ :: rest) s R := by
  refine WR_op (wantA_none rfl) rfl ?_ (clOf0 rfl rfl rfl) h
  show aFieldAddr P s t x f = _
  unfold aFieldAddr
  rw [hf, hx, ← ho]
theorem R_fa_ip {t : TypeId} {x : Operand} {f k off off' : Nat} {cs : List FVal} (hf : fldOff P t f = some k) (hx : s.ev x = .c (.ip cs off)) (ho : off + k = off') (h : WR P ops rest (s.put d (.c (.ip cs off'))) (R.push .q0)) : WR P ops (⟨d, .fieldAddr t x f, ty, pos, af, none⟩ :: rest) s R := by
  refine WR_op (wantA_none rfl) rfl ?_ (clOf0 rfl rfl rfl) h
  show aFieldAddr P s t x f = _
  unfold aFieldAddr
  rw [hf, hx, ← ho]
theorem R_load_ptr1 {t : TypeId} {x : Operand} {n b off : Nat} {cells : List CVal} {y : CVal} (ht : tsz P t = some (false, n)) (hx : s.ev x = .c (.ptr b off)) (hb : s.H[b]? = some (some cells)) (hy : cells[off]? = some y) (hf : y.flat = true) (h : WR P ops rest (s.put d (.c y)) (R.push (.ld (feeds ops ⟨d, .load t x, ty, pos, af, none⟩) b))) : WR P ops (⟨d, .load t x, ty, pos, af, none⟩ :: rest) s R := by
  refine WR_op (wantA_none rfl) rfl ?_ (clOf_ld hx) h
  show aLoad P _ s t x = _
  unfold aLoad
  rw [ht, hx]
  dsimp only
  rw [hb]
  dsimp only
  rw [hy]
  dsimp only
  split
  · cases hf
  · rw [CVal.flat_dem hf]
theorem R_load_ptrn {t : TypeId} {x : Operand} {n b off : Nat} {cells : List CVal} {cs : List CVal} (ht : tsz P t = some (true, n)) (hx : s.ev x = .c (.ptr b off)) (hb : s.H[b]? = some (some cells)) (hy : off + n ≤ cells.length) (hc : ((cells.drop off).take n).map CVal.dem = cs) (h : WR P ops rest (s.put d (.agg cs)) (R.push (.ld (feeds ops ⟨d, .load t x, ty, pos, af, none⟩) b))) : WR P ops (⟨d, .load t x, ty, pos, af, none⟩ :: rest) s R := by
  refine WR_op (wantA_none rfl) rfl ?_ (clOf_ld hx) h
  show aLoad P _ s t x = _
  unfold aLoad
  rw [ht, hx]
  dsimp only
  rw [hb]
  dsimp only
  rw [if_pos hy, hc]
theorem R_load_ip1 {t : TypeId} {x : Operand} {n off : Nat} {cs : List FVal} {y : FVal} (ht : tsz P t = some (false, n)) (hx : s.ev x = .c (.ip cs off)) (hy : cs[off]? = some y) (h : WR P ops rest (s.put d (.c (.f y))) (R.push .ip)) : WR P ops (⟨d, .load t x, ty, pos, af, none⟩ :: rest) s R := by
  refine WR_op (wantA_none rfl) rfl ?_ (clOf_ip hx) h
  show aLoad P _ s t x = _
  unfold aLoad
  rw [ht, hx]
  dsimp only
  rw [hy]
theorem R_load_ipn {t : TypeId} {x : Operand} {n off : Nat} {cs : List FVal} {ys : List CVal} (ht : tsz P t = some (true, n)) (hx : s.ev x = .c (.ip cs off)) (hy : off + n ≤ cs.length) (hc : ((cs.drop off).take n).map CVal.f = ys) (h : WR P ops rest (s.put d (.agg ys)) (R.push .ip)) : WR P ops (⟨d, .load t x, ty, pos, af, none⟩ :: rest) s R := by
  refine WR_op (wantA_none rfl) rfl ?_ (clOf_ip hx) h
  show aLoad P _ s t x = _
  unfold aLoad
  rw [ht, hx]
  dsimp only
  rw [if_pos hy, hc]
theorem chg_blk {b : Nat} {cs : List CVal} : s.chg { blk := some (b, cs) } = s.setH (hset s.H b cs) := rfl
theorem chg_new {cs : List CVal} : s.chg { new := some cs } = s.setH (s.H ++ [some cs]) := rfl
theorem R_store {t : TypeId} {x y : Operand} {q : Bool} {n b off : Nat} {cells ds : List CVal} {v : AVal} {H' : HB} (ht : tsz P t = some (q, n)) (hx : s.ev x = .c (.ptr b off)) (hb : s.H[b]? = some (some cells)) (hy : s.ev y = v) (hv : Flat v = true) (hd : v.cells = some ds) (hl : ds.length = n ∧ off + n ≤ cells.length) (hH : hset s.H b (setAt cells off ds) = H')
    (h : WR P ops rest (s.setH H') (R.push (.st b))) : WR P ops (⟨none, .store t x y, ty, pos, af, none⟩ :: rest) s R := by
  refine WR_chg (x := .c .any) (c := { blk := some (b, setAt cells off ds) }) (wantA_none rfl) rfl ?_ (by unfold clOf; show (⟨ptrB (s.ev x), _, _, _, _, _⟩ : Cl) = _; rw [hx]; rfl) (s' := s.setH H') ?_ h
  · show aStore P s t x y = _
    unfold aStore
    rw [ht, hx]
    dsimp only
    rw [hb]
    dsimp only
    have hh : holds s y = none := by
      unfold holds
      split
      · rw [hy]
        split
        · cases hv
        · rfl
      · rfl
    rw [hh]
    dsimp only
    rw [hy, flat_dem hv, hd]
    dsimp only
    rw [if_pos hl]
  · rw [chg_blk, hH]; rfl
theorem R_ia_row {t : TypeId} {x i : Operand} {n : Int} {z len off : Nat} {k : IntKind} {cs : List FVal} {v : AVal} (hz : elemSz P t = some z) (hx : s.ev x = v) (hv : v.dem = .c (.f (.row cs len))) (hi : s.ev i = .c (.f (.v (.int k n)))) (h0 : 0 ≤ n) (h1 : n < len) (ho : n.toNat * z = off)
    (h : WR P ops rest (s.put d (.c (.ip cs off))) (R.push .q0)) : WR P ops (⟨d, .indexAddr t x i, ty, pos, af, none⟩ :: rest) s R := by
  refine WR_op (wantA_none rfl) rfl ?_ (clOf0 rfl rfl rfl) h
  show aIndexAddr P s t x i = _
  unfold aIndexAddr
  rw [hi]
  simp only [AVal.ix]
  rw [if_pos h0, hz, hx, hv]
  simp only [if_pos h1, ho]
theorem R_ia_arr {t : TypeId} {x i : Operand} {n : Int} {z b len cap off off' : Nat} {k : IntKind} (hz : elemSz P t = some z) (hx : s.ev x = .c (.arr b off len cap)) (hi : s.ev i = .c (.f (.v (.int k n)))) (h0 : 0 ≤ n) (h1 : n < len) (ho : off + n.toNat * z = off')
    (h : WR P ops rest (s.put d (.c (.ptr b off'))) (R.push .q0)) : WR P ops (⟨d, .indexAddr t x i, ty, pos, af, none⟩ :: rest) s R := by
  refine WR_op (wantA_none rfl) rfl ?_ (clOf0 rfl rfl rfl) h
  show aIndexAddr P s t x i = _
  unfold aIndexAddr
  rw [hi]
  simp only [AVal.ix]
  rw [if_pos h0, hz, hx]
  simp only [AVal.dem, CVal.dem, if_pos h1, ho]
theorem R_field {t : TypeId} {x : Operand} {f off : Nat} {q : Option (Bool × Nat)} {cs : List CVal} {r : AVal} (hf : fldAt P t f = some (off, q)) (hx : s.ev x = .agg cs) (hr : aPart cs off q = some r) (h : WR P ops rest (s.put d r) (R.push .q0)) : WR P ops (⟨d, .field t x f, ty, pos, af, none⟩ :: rest) s R := by
  refine WR_op (wantA_none rfl) rfl ?_ (clOf0 rfl rfl rfl) h
  show aField P s t x f = _
  unfold aField
  rw [hf, hx]
  dsimp only
  rw [hr]
theorem R_extract {x : Operand} {i : Nat} {ts : List TVal} {y : TVal} (hx : s.ev x = .tup ts) (hy : ts[i]? = some y) (h : WR P ops rest (s.put d y.a) (R.push .q0)) : WR P ops (⟨d, .extract x i, ty, pos, af, none⟩ :: rest) s R := by
  refine WR_op (wantA_none rfl) rfl ?_ (clOf0 rfl rfl rfl) h
  show aExtract s x i = _
  unfold aExtract
  rw [hx]
  dsimp only
  rw [hy]
/-- Operations on whole numbers. -/
def ibin (op : BinOp) (k : IntKind) (a b : Int) : Option Value :=
  match op with
  | .add => some (.int k (k.wrap (a + b)))
  | .sub => some (.int k (k.wrap (a - b)))
  | .mul => some (.int k (k.wrap (a * b)))
  | .eql => some (.bool (decide (a = b)))
  | .neq => some (.bool (!decide (a = b)))
  | .lss => some (.bool (decide (a < b)))
  | .leq => some (.bool (decide (a ≤ b)))
  | .gtr => some (.bool (decide (b < a)))
  | .geq => some (.bool (decide (b ≤ a)))
  | .quo => if b = 0 then none else some (.int k (k.wrap (a.tdiv b)))
  | .rem => if b = 0 then none else some (.int k (a.tmod b))
  | _ => none
theorem env_of {x : Operand} {v : Value} (h : s.ev x = .c (.f (.v v))) : s.env x = v := by unfold St.env; rw [h]; rfl
theorem aop_ibin {op : BinOp} {t u : TypeId} {x y : Operand} {k : IntKind} {a b : Int} {v : Value} {tr : Bool} (hx : s.ev x = .c (.f (.v (.int k a)))) (hy : s.ev y = .c (.f (.v (.int k b)))) (hv : ibin op k a b = some v) :
    aop P tr s ⟨d, .binOp op t x y u, ty, pos, af, g⟩ = some (ofV v, {}) := by
  show aPlain P s _ = _
  unfold aPlain
  have h1 : (([x, y] : List Operand).all fun x => (s.ev x).toV.isSome) = true := by simp [hx, hy, AVal.toV, CVal.toV, FVal.toV]
  have h2 : ((Oper.mk d (.binOp op t x y u) ty pos af g).op.operands.toList.all fun x => (s.ev x).toV.isSome) = true := h1
  rw [h2]
  simp only [isSel, Bool.not_false, Bool.and_true, if_true]
  have h3 : pureRun P (execOp s.env ⟨d, .binOp op t x y u, ty, pos, af, g⟩) = some (.value v) := by
    show pureRun P (do let r ← (do eqGuard op t x y (s.env x) (s.env y); binOp op t (s.env x) (s.env y)); pure (Next.value r)) = _
    rw [env_of hx, env_of hy]
    have hg : eqGuard op t x y (.int k a) (.int k b) = pure () := by cases op <;> rfl
    rw [hg]
    cases op <;> simp only [ibin] at hv <;> first | (cases hv; done) | skip
    case quo =>
      by_cases hb : b = 0
      · rw [if_pos hb] at hv; cases hv
      · rw [if_neg hb] at hv; injection hv with hv; subst hv
        simp only [binOp, ne_eq, not_true_eq_false, if_false, Op.intDiv, hb]
        rfl
    case rem =>
      by_cases hb : b = 0
      · rw [if_pos hb] at hv; cases hv
      · rw [if_neg hb] at hv; injection hv with hv; subst hv
        simp only [binOp, ne_eq, not_true_eq_false, if_false, Op.intDiv, hb]
        rfl
    all_goals (injection hv with hv; subst hv; simp only [binOp, ne_eq, not_true_eq_false, if_false]; rfl)
  rw [h3]
theorem ibin_of {op : BinOp} {k : IntKind} {a b : Int} {v : Value} (hv : ibin op k a b = some v) : ofV v = .c (.f (.v v)) := by
  cases op <;> simp only [ibin] at hv <;> first | (cases hv; done) | (injection hv with hv; subst hv; rfl) | skip
  all_goals (split at hv <;> first | (cases hv; done) | (injection hv with hv; subst hv; rfl))
theorem R_ibin {op : BinOp} {t u : TypeId} {x y : Operand} {k : IntKind} {a b : Int} {v : Value} (hx : s.ev x = .c (.f (.v (.int k a)))) (hy : s.ev y = .c (.f (.v (.int k b)))) (hv : ibin op k a b = some v) (h : WR P ops rest (s.put d (.c (.f (.v v)))) (R.push .q0)) : WR P ops (⟨d, .binOp op t x y u, ty, pos, af, none⟩ :: rest) s R :=
  WR_op (wantA_none rfl) rfl (by rw [← ibin_of hv]; exact aop_ibin hx hy hv) (clOf0 rfl rfl rfl) h
theorem wrap64 {n : Int} (h1 : -9223372036854775808 ≤ n) (h2 : n ≤ 9223372036854775807) : IntKind.i64.wrap n = n := by
  simp only [IntKind.wrap]
  simp [IntKind.bits, IntKind.signed]
  omega
theorem R_add {t u : TypeId} {x y : Operand} {a b : Int} (hx : s.ev x = .c (.f (.v (.int .i64 a)))) (hy : s.ev y = .c (.f (.v (.int .i64 b)))) (h1 : -9223372036854775808 ≤ a + b) (h2 : a + b ≤ 9223372036854775807) (h : WR P ops rest (s.put d (.c (.f (.v (.int .i64 (a + b)))))) (R.push .q0)) : WR P ops (⟨d, .binOp .add t x y u, ty, pos, af, none⟩ :: rest) s R :=
  R_ibin hx hy (by show some (Value.int .i64 (IntKind.i64.wrap (a + b))) = _; rw [wrap64 h1 h2]) h
theorem R_sub {t u : TypeId} {x y : Operand} {a b : Int} (hx : s.ev x = .c (.f (.v (.int .i64 a)))) (hy : s.ev y = .c (.f (.v (.int .i64 b)))) (h1 : -9223372036854775808 ≤ a - b) (h2 : a - b ≤ 9223372036854775807) (h : WR P ops rest (s.put d (.c (.f (.v (.int .i64 (a - b)))))) (R.push .q0)) : WR P ops (⟨d, .binOp .sub t x y u, ty, pos, af, none⟩ :: rest) s R :=
  R_ibin hx hy (by show some (Value.int .i64 (IntKind.i64.wrap (a - b))) = _; rw [wrap64 h1 h2]) h
theorem R_mul {t u : TypeId} {x y : Operand} {a b : Int} (hx : s.ev x = .c (.f (.v (.int .i64 a)))) (hy : s.ev y = .c (.f (.v (.int .i64 b)))) (h1 : -9223372036854775808 ≤ a * b) (h2 : a * b ≤ 9223372036854775807) (h : WR P ops rest (s.put d (.c (.f (.v (.int .i64 (a * b)))))) (R.push .q0)) : WR P ops (⟨d, .binOp .mul t x y u, ty, pos, af, none⟩ :: rest) s R :=
  R_ibin hx hy (by show some (Value.int .i64 (IntKind.i64.wrap (a * b))) = _; rw [wrap64 h1 h2]) h
theorem tdiv_pos {a b : Int} (h0 : 0 ≤ a) : a.tdiv b = a / b := Int.tdiv_eq_ediv_of_nonneg h0
theorem R_quo {t u : TypeId} {x y : Operand} {a b : Int} (hx : s.ev x = .c (.f (.v (.int .i64 a)))) (hy : s.ev y = .c (.f (.v (.int .i64 b)))) (h0 : 0 ≤ a) (hb : 0 < b) (h2 : a ≤ 9223372036854775807) (h : WR P ops rest (s.put d (.c (.f (.v (.int .i64 (a / b)))))) (R.push .q0)) : WR P ops (⟨d, .binOp .quo t x y u, ty, pos, af, none⟩ :: rest) s R :=
  R_ibin hx hy (by
    show (if b = 0 then none else some (Value.int .i64 (IntKind.i64.wrap (a.tdiv b)))) = _
    have k1 : 0 ≤ a / b := Int.ediv_nonneg h0 (by omega)
    have k2 : a / b ≤ a := Int.ediv_le_self b h0
    rw [if_neg (by omega), tdiv_pos h0, wrap64 (by omega) (by omega)]) h
theorem R_rem {t u : TypeId} {x y : Operand} {a b : Int} (hx : s.ev x = .c (.f (.v (.int .i64 a)))) (hy : s.ev y = .c (.f (.v (.int .i64 b)))) (h0 : 0 ≤ a) (hb : 0 < b) (h : WR P ops rest (s.put d (.c (.f (.v (.int .i64 (a % b)))))) (R.push .q0)) : WR P ops (⟨d, .binOp .rem t x y u, ty, pos, af, none⟩ :: rest) s R :=
  R_ibin hx hy (by
    show (if b = 0 then none else some (Value.int .i64 (a.tmod b))) = _
    rw [if_neg (by omega), Int.tmod_eq_emod_of_nonneg h0]) h
end
end Go.Proofs.Ythnfliopmjpdmaa.Av
