/- The walk over values without addresses: regions in the text's order, code, functions. -/
import Derived.Test.YthnfliopmjpdmaaAvC
import Derived.Tactics
namespace Go.Proofs.Ythnfliopmjpdmaa.Av
set_option linter.unusedVariables false
set_option linter.unusedSimpArgs false

def wantA (ops : Array Oper) (s : St) (o : Oper) : Option Bool :=
  match o.guard with
  | none => some true
  | some (j, want) => match ops[j]? with
    | some oj => match oj.dst with
      | some d => match s.ev (.tmp d) with
        | .c (.f (.v (.bool b))) => some (b == want)
        | .c .und => some false
        | _ => none
      | none => some false
    | none => some false
theorem wantA_of {ops : Array Oper} {s : St} {o : Oper} {t : Bool} (h : wantA ops s o = some t) {a : Act} {w : World} {κ : Nat → BK} {ρ : Nat → Nat} (hR : Rel s a w κ ρ) : Region.wanted o (yielded ops a.tmps) = t := by
  unfold wantA at h
  unfold Region.wanted
  split at h
  · rename_i hg
    injection h with h
    rw [hg]; exact h
  · rename_i j want hg
    rw [hg]
    simp only
    split at h
    · rename_i oj hj
      split at h
      · rename_i d hd
        have hval : ∀ {v}, a.eval (.tmp d) = v → v ≠ undef → a.tmps[d]? = some v := fun {v} e hne => by
          simp only [Act.eval, Array.getD] at e
          split at e
          · rename_i hlt
            rw [Array.getElem?_eq_getElem hlt]
            exact congrArg some e
          · exact absurd e.symm hne
        split at h
        · rename_i b he
          injection h with h
          have hv : a.eval (.tmp d) = .bool b := hR.toV (by rw [he]; rfl)
          have := hval hv (by intro e; cases e)
          simp [yielded, hj, hd, this, ← h]
        · rename_i he
          injection h with h
          have hv : a.eval (.tmp d) = undef := by
            have := hR.ev_tmp d
            rw [he] at this
            exact this
          rw [← h]
          have hy : yielded ops a.tmps j = none := by
            simp only [yielded, hj, hd, Option.bind_some]
            simp only [Act.eval, Array.getD] at hv
            split at hv
            · rename_i hlt
              rw [Array.getElem?_eq_getElem hlt]
              have hv' : a.tmps[d] = undef := hv
              rw [hv']; rfl
            · rename_i hge
              rw [Array.getElem?_eq_none (by omega)]
          rw [hy]; rfl
        · cases h
      · rename_i hd
        injection h with h
        rw [← h]
        simp [yielded, hj, hd]
    · rename_i hj
      injection h with h
      rw [← h]
      simp [yielded, hj]
/-- Its slot is what an append of the region grows. -/
def feeds (ops : Array Oper) (o : Oper) : Bool :=
  match o.dst with
  | some d => ops.toList.any fun p => match p.op with
    | .call c => match c.callee, c.args.toList with
      | .builtin .append, .tmp t :: _ => t == d
      | _, _ => false
    | _ => false
  | none => false
def callOf (o : Oper) : Option (FuncId × List Operand) :=
  match o.op with
  | .call c => match c.callee with
    | .value (.func f) => some (f, c.args.toList)
    | _ => none
  | _ => none
/-- What an operation does beside its own slot: the blocks that it looks at, those that it writes, whether it makes blocks (and behind which number), whether it hands on a slice that grows. -/
structure Cl where
  fp : List Nat := []
  fr : List Nat := []
  wr : List Nat := []
  new : Option Nat := none
  dem : Bool := false
  soft : Bool := false
abbrev Cl.q0 : Cl := {}
def ptrB : AVal → List Nat
  | .c (.ptr b _) => [b]
  | _ => []
def arrB : AVal → List Nat
  | .c (.arr b _ _ _) => [b]
  | _ => []
def isLoad : Op → Bool
  | .load .. => true
  | _ => false
/-- The blocks that are looked at as data. -/
def frOf (tr : Bool) (s : St) (o : Oper) : List Nat :=
  match o.op with
  | .load _ x => if tr = true then [] else ptrB (s.ev x)
  | _ => []
def fpOf (tr : Bool) (s : St) (o : Oper) : List Nat :=
  match o.op with
  | .load _ x => if tr = true then ptrB (s.ev x) else []
  | .store _ x _ => ptrB (s.ev x)
  | .call c => match c.args.toList with
    | [_, y] => arrB (s.ev y).dem
    | _ => []
  | _ => []
def Chg.wr (c : Chg) : List Nat :=
  match c.blk with
  | some (b, _) => [b]
  | none => []
def clOf (tr : Bool) (s : St) (o : Oper) (c : Chg) : Cl := ⟨fpOf tr s o, frOf tr s o, c.wr, if c.new.isSome then some s.H.length else none, c.dem.isSome, isLoad o.op⟩
def WCall (P : Program) (f : FuncId) (xs : List Operand) (s : St) (K : Cl → AVal → St → Prop) : Prop :=
  (∃ r, (xs.all fun x => (s.ev x).h.ok 0) = true ∧ Ok P f (xs.map fun x => (s.ev x).h) [] r [] ∧ K .q0 r s) ∨
  ∃ (bs L : List Nat) (args' : List AVal) (Hs Hs' : List (Option (List CVal))) (r : AVal), Ok P f args' Hs r Hs' ∧ bs.Nodup ∧ (∀ b ∈ bs, b < s.H.length) ∧ Hs.map (renB (sig s.H.length bs)) = (bs.map fun b => s.H.getD b none) ∧ (∀ x ∈ args', x.ok Hs.length = true) ∧ Hs.all (okB Hs.length) = true ∧ Hs'.all (okB Hs'.length) = true ∧
    args'.map (AVal.ren (sig s.H.length bs)) = (xs.map fun x => ((s.ev x).h).lend s.H L) ∧ (∀ b ∈ L, b ∉ bs) ∧ (L = [] ∨ (r.bare = true ∧ Hs'.all bareB = true)) ∧
    K ⟨bs ++ L, [], bs, if Hs'.length = bs.length then none else some s.H.length, false, false⟩ (r.ren (sig s.H.length bs)) { s with H := putBack s.H bs (Hs'.map (renB (sig s.H.length bs))) }
/-- An operation that asks nothing of the blocks yields a plain value, in every world. -/
structure RunPlain (P : Program) (s : St) (o : Oper) (v : Value) : Prop where
  op : ∃ b t x y u, o.op = .binOp b t x y u
  plain : (o.op.operands.toList.all fun x => (s.ev x).toV.isSome) = true
  run : ∀ w, (execOp s.env o).run P w = .ok (.value v) w
def WAop (P : Program) (ops : Array Oper) (o : Oper) (s : St) (K : Cl → St → Prop) : Prop :=
  (∃ x c, aop P (feeds ops o) s o = some (x, c) ∧ K (clOf (feeds ops o) s o c) ((s.chg c).put o.dst x)) ∨ (∃ v, RunPlain P s o v ∧ K .q0 (s.put o.dst (ofV v)))
def WOp (P : Program) (ops : Array Oper) (o : Oper) (s : St) (K : Cl → St → Prop) : Prop :=
  match wantA ops s o with
  | none => False
  | some t => if t = true then
      match callOf o with
      | some (f, xs) => WCall P f xs s fun c r s' => K c (s'.put o.dst r)
      | none => WAop P ops o s K
    else K .q0 (s.put o.dst (.c .und))
def WOps (P : Program) (ops : Array Oper) : List Oper → St → (St → Prop) → Prop
  | [], s, K => K s
  | o :: rest, s, K => WOp P ops o s fun _ s' => WOps P ops rest s' K
/-- The state speaks of the world; the world has grown out of the first one. -/
def dstOk (N : Nat) (o : Oper) : Bool :=
  match o.dst with
  | some d => decide (d < N)
  | none => true
structure In (N n0 : Nat) (w0 : World) (κ0 : Nat → BK) (ρ0 : Nat → Nat) (s : St) (a : Act) (w : World) (κ : Nat → BK) (ρ : Nat → Nat) : Prop where
  rel : Rel s a w κ ρ
  fr : Fr w0 κ0 w κ
  rho : ∀ b, b < n0 → ρ b = ρ0 b
  len : n0 ≤ s.H.length
  size : a.tmps.size = N
theorem dst_lt {N : Nat} {o : Oper} (h : dstOk N o = true) {a : Act} (hs : a.tmps.size = N) : ∀ t, o.dst = some t → t < a.tmps.size := fun t e => by
  unfold dstOk at h
  rw [e] at h
  rw [hs]
  exact of_decide_eq_true h
theorem put_size (a : Act) (d : Option Tmp) (v : Value) : (a.put d v).tmps.size = a.tmps.size := by cases d <;> simp [Act.put]
theorem chg_len (s : St) (c : Chg) : s.H.length ≤ (s.chg c).H.length := by
  unfold St.chg
  cases c.dem <;> cases c.blk <;> cases c.new <;> simp [St.demO, St.blkO, St.newO, St.dem, hset]
theorem put_len (s : St) (d : Option Tmp) (x : AVal) : (s.put d x).H.length = s.H.length := by cases d <;> rfl
section
variable {P : Program} {ops : Array Oper} {N n0 : Nat} {w0 : World} {κ0 : Nat → BK} {ρ0 : Nat → Nat}
theorem exec_call {ev : Operand → Value} {o : Oper} {f : FuncId} {xs : List Operand} (hev : ev (.func f) = .func (.func f) #[] #[]) (h : callOf o = some (f, xs)) (hf : ∃ fn, P.funcs[f]? = some fn ∧ fn.body.isSome = true ∧ (fn.name == "runtime.NumGoroutine") = false) (w : World) : (execOp ev o).run P w = .ok (.enter f (xs.map ev).toArray) w := by
  unfold callOf at h
  split at h
  · rename_i c ho
    split at h
    · rename_i g hc
      injection h with h; injection h with e1 e2; subst e1; subst e2
      obtain ⟨fn, h1, h2, h3⟩ := hf
      have hb : ¬ fn.body = none := by intro e; rw [e] at h2; cases h2
      have hn : ¬ fn.name = "runtime.NumGoroutine" := by simpa using h3
      have hmap : c.args.map ev = (c.args.toList.map ev).toArray := by rw [← Array.toList_map]
      simp only [execOp, ho, resolve, hc, hev, Deferred.ofValue, Sem.run_bind, Sem.run_pure, Result.andThen_ok, invoke, callFunc]
      simp [program, Sem.run, h1, hn, hb, hmap]
    · cases h
  · cases h
theorem WOp_sound {o : Oper} {s : St} {K : Cl → St → Prop} (hdst : dstOk N o = true) (h : WOp P ops o s K) {a : Act} {w : World} {κ : Nat → BK} {ρ : Nat → Nat} (hI : In N n0 w0 κ0 ρ0 s a w κ ρ) {next : Act → World → Prop} {Q : Exit → Act → World → Prop}
    (hK : ∀ c s a w κ ρ, K c s → In N n0 w0 κ0 ρ0 s a w κ ρ → next a w) :
    if Region.wanted o (yielded ops a.tmps) then o.wp P a w next Q ∨ (o.asks P a w ∧ LetsOut Q) else next (a.put o.dst undef) w := by
  unfold WOp at h
  split at h
  · cases h
  · rename_i t ht
    rw [wantA_of ht hI.rel]
    split at h
    · rename_i htt
      subst htt
      simp only [if_true]
      left
      split at h
      · rename_i f xs hc
        rcases h with ⟨r, hok, hO, hk⟩ | ⟨bs, L, args', Hs, Hs', r, hO, h1, h2, h3, h4, h5, h6, h7, h8, h9, hk⟩
        · unfold Oper.wp
          rw [exec_call rfl hc hO.fn]
          refine (call_pure hO rfl (by simpa using hok) hI.rel).mono ?_
          rintro e w' ⟨v, κ', rfl, hR', hr, hrok, hfr⟩
          refine hK _ _ _ _ κ' ρ hk ⟨hR'.put (dst_lt hdst hI.size) (fun t _ => hr _) hrok, hI.fr.trans hfr, hI.rho, ?_, (put_size _ _ _).trans hI.size⟩
          rw [put_len]; exact hI.len
        · unfold Oper.wp
          rw [exec_call rfl hc hO.fn]
          refine (call_frame hO h1 h2 h3 h4 h5 h6 h7 h8 h9 hI.rel).mono ?_
          rintro e w' ⟨v, κ', ρ', rfl, hR', hr, hrok, hfr, hρ⟩
          refine hK _ _ _ _ κ' ρ' hk ⟨hR'.put (dst_lt hdst hI.size) (fun t _ => hr _) hrok, hI.fr.trans hfr, fun b hb => (hρ b (Nat.lt_of_lt_of_le hb hI.len)).trans (hI.rho b hb), ?_, (put_size _ _ _).trans hI.size⟩
          rw [put_len]
          refine Nat.le_trans hI.len ?_
          have e1 : Hs.length = bs.length := by simpa using congrArg List.length h3
          have e2 := hO.len
          show s.H.length ≤ (putBack s.H bs (Hs'.map (renB (sig s.H.length bs)))).length
          rw [putBack_len _ _ _ (by simp; omega)]
          omega
      · rcases h with ⟨x, c, hx, h⟩ | ⟨v, hv, h⟩
        · obtain ⟨v, w', κ', ρ', hy, hR', hr, hrok, hfr, hρ⟩ := aop_sim hx a w κ ρ hI.rel
          have hnext : next (a.put o.dst v) w' := hK _ _ _ _ κ' ρ' h ⟨hR'.put (dst_lt hdst hI.size) (fun t ht => hr t ht) hrok, hI.fr.trans hfr, fun b hb => (hρ b (Nat.lt_of_lt_of_le hb hI.len)).trans (hI.rho b hb), by rw [put_len]; exact Nat.le_trans hI.len (chg_len _ _), (put_size _ _ _).trans hI.size⟩
          unfold Oper.wp
          rcases hy with hy | ⟨hy, rfl⟩
          · rw [hy]; exact hnext
          · rw [hy]; exact hnext
        · obtain ⟨b, t, x, y, u, ho⟩ := hv.op
          have he : execOp a.eval o = execOp s.env o := execOp_congr o (fun cs b e => by rw [ho] at e; cases e) (fun y hy => by
            have := List.all_eq_true.1 hv.plain y (Array.mem_toList_iff.2 hy)
            obtain ⟨u, hu⟩ := Option.isSome_iff_exists.1 this
            rw [hI.rel.toV hu, St.env, hu]; rfl)
          unfold Oper.wp
          rw [he, hv.run w]
          exact hK _ _ _ _ κ ρ h ⟨hI.rel.put (dst_lt hdst hI.size) (fun t _ => repA_ofV v) (ofV_ok _ v), hI.fr, hI.rho, by rw [put_len]; exact hI.len, (put_size _ _ _).trans hI.size⟩
    · rename_i htt
      have : t = false := by simpa using htt
      subst this
      simp only [Bool.false_eq_true, if_false]
      exact hK _ _ _ _ κ ρ h ⟨hI.rel.put (dst_lt hdst hI.size) (fun t _ => rfl) rfl, hI.fr, hI.rho, by rw [put_len]; exact hI.len, (put_size _ _ _).trans hI.size⟩
theorem WOps_sound {Q : Exit → Act → World → Prop} {K : St → Prop} (hK : ∀ s a w κ ρ, K s → In N n0 w0 κ0 ρ0 s a w κ ρ → Q .normal a w) :
    ∀ (l : List Oper) (s : St) (a : Act) (w : World) (κ : Nat → BK) (ρ : Nat → Nat), l.all (dstOk N) = true → WOps P ops l s K → In N n0 w0 κ0 ρ0 s a w κ ρ → wpList P ops Q l a w
  | [], s, a, w, κ, ρ, _, h, hI => hK s a w κ ρ h hI
  | o :: rest, s, a, w, κ, ρ, hd, h, hI => by
    rw [List.all_cons, Bool.and_eq_true] at hd
    exact WOp_sound hd.1 h hI fun _ s a w κ ρ hk hI => WOps_sound hK rest s a w κ ρ hd.2 hk hI
end

inductive AExit where
  | normal
  | exit (id : Nat)
  | ret
/-- The state s2 says less than s. -/
def Weak (n0 : Nat) (s s2 : St) : Prop := n0 ≤ s2.H.length ∧ ∀ a w κ ρ, Rel s a w κ ρ → Rel s2 a w κ ρ
theorem Weak.refl {n0 : Nat} {s : St} (h : n0 ≤ s.H.length) : Weak n0 s s := ⟨h, fun _ _ _ _ h => h⟩
def W (P : Program) (D : Array Oper → St → (St → Prop) → Prop) (n0 : Nat) : Code → St → (AExit → St → Prop) → Prop
  | .skip, s, K => K .normal s
  | .region _ ops false, s, K => WOps P ops ops.toList s (K .normal)
  | .region _ ops true, s, K => D ops s (K .normal)
  | .seq a b, s, K => W P D n0 a s fun e s' => match e with
    | .normal => W P D n0 b s' K ∨ ∃ s2, Weak n0 s' s2 ∧ W P D n0 b s2 K
    | .exit i => K (.exit i) s'
    | .ret => K .ret s'
  | .cond c a b, s, K => match s.ev c with
    | .c (.f (.v (.bool t))) => if t = true then W P D n0 a s K else W P D n0 b s K
    | _ => False
  | .block id c, s, K => W P D n0 c s fun e s' => match e with
    | .normal => K .normal s'
    | .exit j => if j = id then K .normal s' else K (.exit j) s'
    | .ret => K .ret s'
  | .loop c, s, K => ∃ (α : Type) (I : α → St → Prop) (μ : α → Nat) (x0 : α), (∃ s0, Weak n0 s s0 ∧ I x0 s0) ∧ ∀ x s1, I x s1 → W P D n0 c s1 fun e s' => match e with
    | .normal => ∃ y s2, Weak n0 s' s2 ∧ I y s2 ∧ μ y < μ x
    | .exit i => K (.exit i) s'
    | .ret => K .ret s'
  | .exit id, s, K => K (.exit id) s
  | .ret, s, K => K .ret s
  | _, _, _ => False
def codeOk (N : Nat) : Code → Bool
  | .region _ ops _ => ops.toList.all (dstOk N)
  | .seq a b => codeOk N a && codeOk N b
  | .cond _ a b => codeOk N a && codeOk N b
  | .block _ c => codeOk N c
  | .loop c => codeOk N c
  | _ => true
def Post (N n0 : Nat) (w0 : World) (κ0 : Nat → BK) (ρ0 : Nat → Nat) (K : AExit → St → Prop) : Exit → Act → World → Prop
  | .normal, a, w => ∃ s κ ρ, K .normal s ∧ In N n0 w0 κ0 ρ0 s a w κ ρ
  | .exit id, a, w => ∃ s κ ρ, K (.exit id) s ∧ In N n0 w0 κ0 ρ0 s a w κ ρ
  | .ret, a, w => ∃ s κ ρ, K .ret s ∧ In N n0 w0 κ0 ρ0 s a w κ ρ
  | _, _, _ => False
theorem wp_loop_ghost {P : Program} {Q : Exit → Act → World → Prop} {a : Act} {w : World} {c : Code} {α : Type} (I : α → Act → World → Prop) (μ : α → Nat) (x0 : α) (h₀ : I x0 a w)
    (round : ∀ x a w, I x a w → c.wp P (Exit.then (fun a' w' => ∃ y, I y a' w' ∧ μ y < μ x) Q) a w) : (Code.loop c).wp P Q a w := by
  intro b k cs
  have key : ∀ n x a w, μ x = n → I x a w → ∃ e a' w', Q e a' w' ∧ Arrives P (lone (b.at a (.code c :: .inLoop c :: k)) cs w) b k cs e a' w' := by
    intro n
    induction n using Nat.strongRecOn with
    | _ n ih =>
      intro x a w hn hI
      obtain ⟨e, a₁, w₁, hq, harr⟩ := round x a w hI b (.inLoop c :: k) cs
      cases e with
      | normal =>
        obtain ⟨y, hI₁, hlt⟩ := hq
        obtain ⟨e₂, a₂, w₂, hq₂, harr₂⟩ := ih (μ y) (hn ▸ hlt) y a₁ w₁ rfl hI₁
        exact ⟨e₂, a₂, w₂, hq₂, .of_steps (Steps.trans harr (.one step_inLoop)) harr₂⟩
      | exit id => exact ⟨_, a₁, w₁, hq, .pass (x := .inLoop c) rfl (fun _ _ => .inl (by simp)) harr⟩
      | goto l => exact ⟨_, a₁, w₁, hq, .pass (x := .inLoop c) rfl (fun _ _ => .inl (by simp)) harr⟩
      | ret => exact ⟨_, a₁, w₁, hq, .pass (x := .inLoop c) rfl (fun _ _ => .inl (by simp)) harr⟩
      | panic ch => exact ⟨_, a₁, w₁, hq, .pass (x := .inLoop c) rfl (fun _ _ => .inl (by simp)) harr⟩
      | outgrown => exact ⟨_, a₁, w₁, hq, .pass (x := .inLoop c) rfl (fun _ _ => .inl (by simp)) harr⟩
  obtain ⟨e, a', w', hq, harr⟩ := key _ x0 a w rfl h₀
  exact ⟨e, a', w', hq, .of_steps (.one step_loop) harr⟩
/-- The rule for regions that draw is sound. -/
def DSound (P : Program) (D : Array Oper → St → (St → Prop) → Prop) : Prop :=
  ∀ (id : Nat) (ops : Array Oper) (s : St) (K : St → Prop), D ops s K → ∀ (N n0 : Nat) (w0 : World) (κ0 : Nat → BK) (ρ0 : Nat → Nat) (a : Act) (w : World) (κ : Nat → BK) (ρ : Nat → Nat), In N n0 w0 κ0 ρ0 s a w κ ρ →
    ops.toList.all (dstOk N) = true → ∀ Q : Exit → Act → World → Prop, (∀ s a w κ ρ, K s → In N n0 w0 κ0 ρ0 s a w κ ρ → Q .normal a w) → (Code.region id ops true).wp P Q a w
theorem W_sound {P : Program} {D : Array Oper → St → (St → Prop) → Prop} (hD : DSound P D) {N n0 : Nat} {w0 : World} {κ0 : Nat → BK} {ρ0 : Nat → Nat} : ∀ (c : Code) (s : St) (K : AExit → St → Prop) (a : Act) (w : World) (κ : Nat → BK) (ρ : Nat → Nat), codeOk N c = true → W P D n0 c s K → In N n0 w0 κ0 ρ0 s a w κ ρ → c.wp P (Post N n0 w0 κ0 ρ0 K) a w
  | .skip, s, K, a, w, κ, ρ, hc0, h, hI => wp_skip ⟨s, κ, ρ, h, hI⟩
  | .region id ops false, s, K, a, w, κ, ρ, hc0, h, hI => wp_region_list (WOps_sound (fun s a w κ ρ hk hI => ⟨s, κ, ρ, hk, hI⟩) _ s a w κ ρ hc0 h hI)
  | .region id ops true, s, K, a, w, κ, ρ, hc0, h, hI => hD id ops s _ h N n0 w0 κ0 ρ0 a w κ ρ hI hc0 _ (fun s a w κ ρ hk hI => ⟨s, κ, ρ, hk, hI⟩)
  | .seq x y, s, K, a, w, κ, ρ, hc0, h, hI => by
    simp only [codeOk, Bool.and_eq_true] at hc0
    refine wp_seq (wp_mono (W_sound hD x s _ a w κ ρ hc0.1 h hI) fun e a' w' hq => ?_)
    cases e with
    | normal =>
      obtain ⟨s', κ', ρ', hk, hI'⟩ := hq
      rcases hk with hk | ⟨s2, hw, hk⟩
      · exact W_sound hD y s' K a' w' κ' ρ' hc0.2 hk hI'
      · exact W_sound hD y s2 K a' w' κ' ρ' hc0.2 hk ⟨hw.2 _ _ _ _ hI'.rel, hI'.fr, hI'.rho, hw.1, hI'.size⟩
    | exit i => exact hq
    | ret => exact hq
    | goto l => exact hq
    | panic ch => exact hq
    | outgrown => exact hq
  | .cond c x y, s, K, a, w, κ, ρ, hc0, h, hI => by
    simp only [codeOk, Bool.and_eq_true] at hc0
    unfold W at h
    split at h
    · rename_i t ht
      have hc : a.eval c = .bool t := hI.rel.toV (by rw [ht]; rfl)
      refine wp_cond hc ?_
      split at h
      · rename_i htt; rw [htt]; exact W_sound hD x s K a w κ ρ hc0.1 h hI
      · rename_i htt; rw [if_neg htt]; exact W_sound hD y s K a w κ ρ hc0.2 h hI
    · cases h
  | .block id c, s, K, a, w, κ, ρ, hc0, h, hI => by
    refine wp_block (wp_mono (W_sound hD c s _ a w κ ρ hc0 h hI) fun e a' w' hq => ?_)
    cases e with
    | normal => exact hq
    | exit i =>
      obtain ⟨s', κ', ρ', hk, hI'⟩ := hq
      simp only [Exit.inBlock]
      by_cases e : i = id
      · simp only [if_pos e] at hk ⊢
        exact ⟨s', κ', ρ', hk, hI'⟩
      · simp only [if_neg e] at hk ⊢
        exact ⟨s', κ', ρ', hk, hI'⟩
    | ret => exact hq
    | goto l => exact hq
    | panic ch => exact hq
    | outgrown => exact hq
  | .loop c, s, K, a, w, κ, ρ, hc0, h, hI => by
    obtain ⟨α, I, μ, x0, ⟨s0, hw0, h0⟩, round⟩ := h
    refine wp_loop_ghost (α := α) (fun x a w => ∃ s κ ρ, I x s ∧ In N n0 w0 κ0 ρ0 s a w κ ρ) μ x0 ⟨s0, κ, ρ, h0, hw0.2 _ _ _ _ hI.rel, hI.fr, hI.rho, hw0.1, hI.size⟩ fun x a1 w1 h1 => ?_
    obtain ⟨s1, κ1, ρ1, hI1, hIn1⟩ := h1
    refine wp_mono (W_sound hD c s1 _ a1 w1 κ1 ρ1 hc0 (round x s1 hI1) hIn1) fun e a' w' hq => ?_
    cases e with
    | normal =>
      obtain ⟨s', κ', ρ', ⟨y, s2, hw, hy, hlt⟩, hI'⟩ := hq
      exact ⟨y, ⟨s2, κ', ρ', hy, hw.2 _ _ _ _ hI'.rel, hI'.fr, hI'.rho, hw.1, hI'.size⟩, hlt⟩
    | exit i => exact hq
    | ret => exact hq
    | goto l => exact hq
    | panic ch => exact hq
    | outgrown => exact hq
  | .exit id, s, K, a, w, κ, ρ, hc0, h, hI => wp_exit ⟨s, κ, ρ, h, hI⟩
  | .ret, s, K, a, w, κ, ρ, hc0, h, hI => wp_ret ⟨s, κ, ρ, h, hI⟩
  | .rangeFunc .., _, _, _, _, _, _, _, h, _ => by cases h
  | .scope .., _, _, _, _, _, _, _, h, _ => by cases h
  | .label .., _, _, _, _, _, _, _, h, _ => by cases h
  | .goto .., _, _, _, _, _, _, _, h, _ => by cases h
  | .refuse .., _, _, _, _, _, _, _, h, _ => by cases h
end Go.Proofs.Ythnfliopmjpdmaa.Av
