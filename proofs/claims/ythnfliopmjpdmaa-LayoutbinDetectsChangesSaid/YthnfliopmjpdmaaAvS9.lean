/- Symbolic states: conditions, calls, results, what is forgotten. -/
import Derived.Test.YthnfliopmjpdmaaAvS8
namespace Go.Proofs.Ythnfliopmjpdmaa.Av
set_option linter.unusedVariables false
set_option linter.unusedSimpArgs false

/-- A function's contract on symbolic values. -/
def OkV (P : Program) (f : FuncId) (args : List SV) (H : SH) (r : SV) (H' : SH) : Prop := Ok P f (args.map SV.den) (denH H) r.den (denH H')
section
variable {P : Program} {ops : Array Oper} {D : Array Oper → St → (St → Prop) → Prop} {n0 : Nat} {H : SH} {l : SL} {K : AExit → St → Prop}
theorem X_cond {c : Operand} {a b : Code} {t : Bool} (hc : evU l c = some (.c (.c (.f (.v (.bool t)))))) (h1 : t = true → W P D n0 a (SS l H) K) (h2 : t = false → W P D n0 b (SS l H) K) : W P D n0 (.cond c a b) (SS l H) K :=
  W_cond (evU_den hc) h1 h2
/-! ### Arguments -/
def nzS : SC → SC
  | .c (.f .nils) => .c (.f (.row [] 0))
  | x => x
theorem nzS_den : ∀ x : SC, (nzS x).den = x.den.nz
  | .c x => by
    cases x with
    | f y => cases y <;> rfl
    | _ => rfl
  | .row .. => rfl
  | .elt .. => rfl
  | .pel .. => rfl
  | .tipr .. => rfl
def nzL : List SC → Option (List SC)
  | [] => some []
  | x :: l => match nzL l with
    | some r => match x with
      | .c (.f .nils) => some (.c (.f (.row [] 0)) :: r)
      | x => some (x :: r)
    | none => none
theorem nzL_eq : ∀ {l r : List SC}, nzL l = some r → (denL l).map CVal.nz = denL r
  | [], r, h => by injection h with h; subst h; rfl
  | x :: l, r, h => by
    unfold nzL at h
    split at h
    · rename_i r' hr
      have := nzL_eq hr
      split at h
      · injection h with h; subst h
        simp only [denL, List.map_cons] at *; rw [this]; rfl
      · rename_i hne
        injection h with h; subst h
        simp only [denL, List.map_cons] at *; rw [this, ← nzS_den]
        congr 1
        cases x with
        | c x =>
          cases x with
          | f y => cases y <;> first | rfl | exact (hne rfl).elim
          | _ => rfl
        | _ => rfl
    · cases h
def hS (v : SV) : Option SV :=
  match v with
  | .c (.c (.tip _ cs n)) => some (.c (.c (.f (.row cs n))))
  | .c (.tipr z F V d l) => some (.c (.row z F V d l))
  | .c (.c (.f .nils)) => some (.c (.c (.f (.row [] 0))))
  | .c x => some (.c x)
  | .agg ds => match nzL ds with
    | some r => some (.agg r)
    | none => none
  | .tup _ => none
theorem hS_den {v u : SV} (h : hS v = some u) : v.den.h = u.den := by
  unfold hS at h
  split at h
  · injection h with h; subst h; rfl
  · injection h with h; subst h; rfl
  · injection h with h; subst h; rfl
  · rename_i x h1 h2 h3
    injection h with h; subst h
    cases x with
    | c x =>
      cases x with
      | f y => cases y <;> first | rfl | exact (h3 rfl).elim
      | tip z cs n => exact (h1 z cs n rfl).elim
      | _ => rfl
    | tipr z F V d l => exact (h2 _ z F V d l rfl).elim
    | _ => rfl
  · rename_i ds
    split at h
    · rename_i r hr
      injection h with h; subst h
      show AVal.agg ((denL ds).map CVal.nz) = _
      rw [nzL_eq hr]; rfl
    · cases h
  · cases h
def argsS (ev : Operand → Option SV) : List Operand → Option (List SV)
  | [] => some []
  | x :: xs => match ev x with
    | some v => match hS v with
      | some u => match argsS ev xs with
        | some r => some (u :: r)
        | none => none
      | none => none
    | none => none
theorem argsS_eq {s : St} {ev : Operand → Option SV} : ∀ {xs : List Operand} {vs : List SV}, (∀ x ∈ xs, ∀ v, ev x = some v → s.ev x = v.den) → argsS ev xs = some vs → (xs.map fun x => (s.ev x).h) = vs.map SV.den
  | [], vs, _, h => by injection h with h; subst h; rfl
  | x :: xs, vs, hev, h => by
    unfold argsS at h
    split at h
    · rename_i v hv
      split at h
      · rename_i u hu
        split at h
        · rename_i r hr
          injection h with h; subst h
          simp only [List.map_cons]
          rw [hev x (by simp) v hv, hS_den hu, argsS_eq (fun y hy => hev y (by simp [hy])) hr]
        · cases h
      · cases h
    · cases h
def okC (n : Nat) : SC → Bool
  | .c (.ptr b _) => Nat.blt b n
  | .c (.arr b _ _ _) => Nat.blt b n
  | .pel b _ _ _ => Nat.blt b n
  | _ => true
theorem okC_den {n : Nat} : ∀ {x : SC}, okC n x = true → x.den.ok n = true
  | .c x, h => by
    cases x <;> first | rfl | (simp only [okC] at h; simp only [SC.den, CVal.ok]; simpa using h)
  | .row .., _ => rfl
  | .elt .., _ => rfl
  | .pel .., h => by simp only [okC] at h; simp only [SC.den, CVal.ok]; simpa using h
  | .tipr .., _ => rfl
def okL (n : Nat) : List SC → Bool
  | [] => true
  | x :: l => match okC n x with
    | true => okL n l
    | false => false
theorem okL_den {n : Nat} : ∀ {l : List SC}, okL n l = true → (denL l).all (CVal.ok n) = true
  | [], _ => rfl
  | x :: l, h => by
    unfold okL at h
    split at h
    · rename_i h1
      simp only [denL, List.map_cons, List.all_cons, Bool.and_eq_true]
      exact ⟨okC_den h1, okL_den h⟩
    · cases h
def okT (n : Nat) : List ST → Bool
  | [] => true
  | .c x :: l => match okC n x with
    | true => okT n l
    | false => false
  | .agg ds :: l => match okL n ds with
    | true => okT n l
    | false => false
theorem okT_den {n : Nat} : ∀ {l : List ST}, okT n l = true → (l.map ST.den).all (TVal.ok n) = true
  | [], _ => rfl
  | .c x :: l, h => by
    unfold okT at h
    split at h
    · rename_i h1
      simp only [List.map_cons, List.all_cons, Bool.and_eq_true]
      exact ⟨okC_den h1, okT_den h⟩
    · cases h
  | .agg ds :: l, h => by
    unfold okT at h
    split at h
    · rename_i h1
      simp only [List.map_cons, List.all_cons, Bool.and_eq_true]
      exact ⟨okL_den h1, okT_den h⟩
    · cases h
def okV (n : Nat) : SV → Bool
  | .c x => okC n x
  | .agg ds => okL n ds
  | .tup ts => okT n ts
theorem okV_den {n : Nat} : ∀ {v : SV}, okV n v = true → v.den.ok n = true
  | .c x, h => okC_den h
  | .agg ds, h => okL_den h
  | .tup ts, h => okT_den h
def okVs (n : Nat) : List SV → Bool
  | [] => true
  | v :: l => match okV n v with
    | true => okVs n l
    | false => false
theorem okVs_den {n : Nat} : ∀ {l : List SV}, okVs n l = true → (l.map SV.den).all (AVal.ok n) = true
  | [], _ => rfl
  | v :: l, h => by
    unfold okVs at h
    split at h
    · rename_i h1
      simp only [List.map_cons, List.all_cons, Bool.and_eq_true]
      exact ⟨okV_den h1, okVs_den h⟩
    · cases h
def okBl (n : Nat) : SH → Bool
  | [] => true
  | none :: H => okBl n H
  | some (.cells cs) :: H => match okL n cs with
    | true => okBl n H
    | false => false
  | some (.els ..) :: H => okBl n H
theorem okBl_den {n : Nat} : ∀ {H : SH}, okBl n H = true → (denH H).all (okB n) = true
  | [], _ => rfl
  | none :: H, h => by
    simp only [denH, List.map_cons, List.all_cons, Bool.and_eq_true]
    exact ⟨rfl, okBl_den (H := H) h⟩
  | some (.cells cs) :: H, h => by
    unfold okBl at h
    split at h
    · rename_i h1
      simp only [denH, List.map_cons, List.all_cons, Bool.and_eq_true]
      exact ⟨okL_den h1, okBl_den (H := H) h⟩
    · cases h
  | some (.els z F V M d l) :: H, h => by
    simp only [denH, List.map_cons, List.all_cons, Bool.and_eq_true]
    refine ⟨?_, okBl_den (H := H) h⟩
    simp only [denB, okB, SB.den, List.all_map, List.all_eq_true]
    intro x _; rfl
/-! ### A callee that is handed no blocks -/
structure CP : Type 1 where
  f : FuncId
  vs : List SV
  l : SL
def callP (l : SL) (d : Option Tmp) (c : Call) (r : SV) : Option CP :=
  match c.callee with
  | .value (.func f) => match argsS (evU l) c.args.toList with
    | some vs => match okVs 0 vs with
      | true => match d with
        | some d => some ⟨f, vs, (d, .v r) :: l⟩
        | none => some ⟨f, vs, l⟩
      | false => none
    | none => none
  | _ => none
variable {rest : List Oper} {d : Option Tmp} {ty : TypeId} {pos : String} {af : Array Edge} {R : Rg}
theorem X_pure {c : Call} {f : FuncId} {vs : List SV} {r : SV} {l' : SL} (hO : OkV P f vs [] r []) (hc : callP l d c r = some ⟨f, vs, l'⟩) (h : WR P ops rest (SS l' H) (R.push .q0)) : WR P ops (⟨d, .call c, ty, pos, af, none⟩ :: rest) (SS l H) R := by
  unfold callP at hc
  split at hc
  · rename_i f' hf
    split at hc
    · rename_i vs' hvs
      split at hc
      · rename_i hok
        have hcall : callOf ⟨d, .call c, ty, pos, af, none⟩ = some (f', c.args.toList) := by simp only [callOf, hf]
        have ha := argsS_eq (s := SS l H) (fun x _ v hv => evU_den hv) hvs
        have e : f' = f ∧ vs' = vs ∧ SS l' H = (SS l H).put d r.den := by
          split at hc <;> injection hc with hc <;> injection hc with e1 e2 e3 <;> subst e1 <;> subst e2 <;> subst e3 <;> exact ⟨rfl, rfl, rfl⟩
        obtain ⟨rfl, rfl, e3⟩ := e
        refine R_pure hcall ha (okVs_den hok) hO ?_
        rw [← e3]; exact h
      · cases hc
    · cases hc
  · cases hc
/-- The same under a guard. -/
structure CG : Type 1 where
  f : FuncId
  vs : List SV
  l : SL
  g : Bool
  q : Prop
def callG (ops : List Oper) (l : SL) (d : Option Tmp) (c : Call) (gd : Nat × Bool) (r : SV) : Option CG :=
  match c.callee with
  | .value (.func f) => match argsS (evG l) c.args.toList with
    | some vs => match okVs 0 vs with
      | true => match gd with
        | (j, want) => match wantS ops l j want with
          | some g => match d with
            | some d => gdK l c.args.toList fun q => some ⟨f, vs, (d, .g g r) :: l, g, q⟩
            | none => none
          | none => none
      | false => none
    | none => none
  | _ => none
theorem wantS_eq {j : Nat} {want g : Bool} (hg : wantS ops.toList l j want = some g) : ∃ oj dj b, ops[j]? = some oj ∧ oj.dst = some dj ∧ (((SS l H).ev (.tmp dj) = .c (.f (.v (.bool b))) ∧ g = (b == want)) ∨ ((SS l H).ev (.tmp dj) = .c .und ∧ g = false)) := by
  unfold wantS at hg
  split at hg
  · rename_i oj hoj
    rw [nth0_get, Array.getElem?_toList] at hoj
    split at hg
    · rename_i dj hdj
      refine ⟨oj, dj, ?_⟩
      split at hg
      · rename_i b hb
        refine ⟨b, hoj, hdj, .inl ⟨lk_ev hb, ?_⟩⟩
        split at hg <;> injection hg with hg <;> subst hg <;> cases b <;> rfl
      · rename_i b0 b hb
        have := lk_ev (H := H) hb
        cases b0 with
        | true =>
          refine ⟨b, hoj, hdj, .inl ⟨this, ?_⟩⟩
          split at hg <;> injection hg with hg <;> subst hg <;> cases b <;> rfl
        | false =>
          refine ⟨b, hoj, hdj, .inr ⟨this, ?_⟩⟩
          split at hg <;> injection hg with hg <;> subst hg <;> rfl
      · cases hg
    · cases hg
  · cases hg
theorem X_pureG {c : Call} {f : FuncId} {vs : List SV} {r : SV} {l' : SL} {gd : Nat × Bool} {g : Bool} {q : Prop} (hO : g = true → OkV P f vs [] r []) (hc : callG ops.toList l d c gd r = some ⟨f, vs, l', g, q⟩) (hq : g = true → q) (h : WR P ops rest (SS l' H) (R.push .q0)) : WR P ops (⟨d, .call c, ty, pos, af, some gd⟩ :: rest) (SS l H) R := by
  unfold callG at hc
  split at hc
  · rename_i f' hf
    split at hc
    · rename_i vs' hvs
      split at hc
      · rename_i hok
        obtain ⟨j, want⟩ := gd
        simp only at hc
        split at hc
        · rename_i g' hg
          split at hc
          · rename_i dd
            obtain ⟨q', hc, hq'⟩ := gdK_eq (H := H) hc
            injection hc with hc; injection hc with e1 e2 e3 e4 e5
            subst e1; subst e2; subst e3; subst e4; subst e5
            obtain ⟨oj, dj, b, w1, w2, w3⟩ := wantS_eq (H := H) hg
            cases g' with
            | true =>
              rcases w3 with ⟨w3, w4⟩ | ⟨_, w4⟩
              · refine R_want (by show wantA ops _ _ = some true; rw [wantA_some rfl w1 w2 w3, ← w4]) ?_
                have hcall : callOf ⟨some dd, .call c, ty, pos, af, none⟩ = some (f', c.args.toList) := by simp only [callOf, hf]
                exact R_pure hcall (argsS_eq (s := SS l H) (hq' (hq rfl)) hvs) (okVs_den hok) (hO rfl) h
              · cases w4
            | false =>
              have hw : wantA ops (SS l H) ⟨some dd, .call c, ty, pos, af, some (j, want)⟩ = some false := by
                rcases w3 with ⟨w3, w4⟩ | ⟨w3, _⟩
                · rw [wantA_some rfl w1 w2 w3, ← w4]
                · exact wantA_und rfl w1 w2 w3
              exact R_skip hw h
          · cases hc
        · cases hc
      · cases hc
    · cases hc
  · cases hc
/-! ### A callee that is handed blocks -/
def numsFrom : SH → List Nat → List Nat
  | _ :: H, _ :: ns => numsFrom H ns
  | [], ns => ns
  | _ :: _, [] => []
def appN : List Nat → List Nat → List Nat
  | [], r => r
  | b :: l, r => b :: appN l r
/-- How the callee's numbers of blocks are called here. -/
def sigL (H : SH) (bs : List Nat) : List Nat := appN bs (numsFrom H nums)
theorem numsFrom_get : ∀ (H : SH) (ns : List Nat) (i : Nat), (numsFrom H ns)[i]? = ns[H.length + i]?
  | [], ns, i => by simp [numsFrom]
  | x :: H, n :: ns, i => by
    simp only [numsFrom, List.length_cons]
    rw [numsFrom_get H ns i, show H.length + 1 + i = (H.length + i) + 1 by omega, List.getElem?_cons_succ]
  | x :: H, [], i => by simp [numsFrom]
theorem appN_eq : ∀ l r : List Nat, appN l r = l ++ r
  | [], _ => rfl
  | b :: l, r => by simp [appN, appN_eq l r]
theorem sigL_ok {H : SH} {bs : List Nat} {b c : Nat} (h : nth0 (sigL H bs) b = some c) : sig H.length bs b = c := by
  rw [nth0_get, sigL, appN_eq] at h
  unfold sig
  rw [List.getD_eq_getElem?_getD]
  by_cases hb : b < bs.length
  · rw [List.getElem?_append_left hb] at h
    rw [h]; rfl
  · rw [List.getElem?_append_right (by omega), numsFrom_get] at h
    rw [List.getElem?_eq_none (by omega)]
    have := nums_get h
    rw [this]; rfl
def renC (σ : List Nat) : SC → Option SC
  | .c (.ptr b off) => match nth0 σ b with
    | some c => some (.c (.ptr c off))
    | none => none
  | .c (.arr b off len cap) => match nth0 σ b with
    | some c => some (.c (.arr c off len cap))
    | none => none
  | .pel b z i k => match nth0 σ b with
    | some c => some (.pel c z i k)
    | none => none
  | .c x => some (.c x)
  | .row z F V d l => some (.row z F V d l)
  | .elt z F V d l i k => some (.elt z F V d l i k)
  | .tipr z F V d l => some (.tipr z F V d l)
theorem renC_den {H : SH} {bs : List Nat} {x y : SC} (h : renC (sigL H bs) x = some y) : x.den.ren (sig H.length bs) = y.den := by
  unfold renC at h
  split at h
  · split at h
    · rename_i hb; injection h with h; subst h; simp only [SC.den, CVal.ren, sigL_ok hb]
    · cases h
  · split at h
    · rename_i hb; injection h with h; subst h; simp only [SC.den, CVal.ren, sigL_ok hb]
    · cases h
  · split at h
    · rename_i hb; injection h with h; subst h; simp only [SC.den, CVal.ren, sigL_ok hb]
    · cases h
  · rename_i x h1 h2
    injection h with h; subst h
    cases x with
    | ptr b off => exact (h1 b off rfl).elim
    | arr b off len cap => exact (h2 b off len cap rfl).elim
    | _ => rfl
  · injection h with h; subst h; rfl
  · injection h with h; subst h; rfl
  · injection h with h; subst h; rfl
def renL (σ : List Nat) : List SC → Option (List SC)
  | [] => some []
  | x :: l => match renC σ x with
    | some y => match renL σ l with
      | some r => some (y :: r)
      | none => none
    | none => none
theorem renL_den {G : SH} {bs : List Nat} : ∀ {l r : List SC}, renL (sigL G bs) l = some r → (denL l).map (CVal.ren (sig G.length bs)) = denL r
  | [], r, h => by injection h with h; subst h; rfl
  | x :: l, r, h => by
    unfold renL at h
    split at h
    · rename_i y hy
      split at h
      · rename_i r' hr
        injection h with h; subst h
        simp only [denL, List.map_cons] at *
        rw [renC_den hy]
        have := renL_den hr
        simp only [denL] at this
        rw [this]
      · cases h
    · cases h
def renT (σ : List Nat) : List ST → Option (List ST)
  | [] => some []
  | .c x :: l => match renC σ x with
    | some y => match renT σ l with
      | some r => some (.c y :: r)
      | none => none
    | none => none
  | .agg ds :: l => match renL σ ds with
    | some y => match renT σ l with
      | some r => some (.agg y :: r)
      | none => none
    | none => none
theorem renT_den {G : SH} {bs : List Nat} : ∀ {l r : List ST}, renT (sigL G bs) l = some r → (l.map ST.den).map (TVal.ren (sig G.length bs)) = r.map ST.den
  | [], r, h => by injection h with h; subst h; rfl
  | .c x :: l, r, h => by
    unfold renT at h
    split at h
    · rename_i y hy
      split at h
      · rename_i r' hr
        injection h with h; subst h
        simp only [List.map_cons]
        rw [renT_den hr]
        show TVal.c (x.den.ren _) :: _ = _
        rw [renC_den hy]; rfl
      · cases h
    · cases h
  | .agg ds :: l, r, h => by
    unfold renT at h
    split at h
    · rename_i y hy
      split at h
      · rename_i r' hr
        injection h with h; subst h
        simp only [List.map_cons]
        rw [renT_den hr]
        show TVal.agg ((denL ds).map _) :: _ = _
        rw [renL_den hy]; rfl
      · cases h
    · cases h
def renV (σ : List Nat) : SV → Option SV
  | .c x => match renC σ x with
    | some y => some (.c y)
    | none => none
  | .agg ds => match renL σ ds with
    | some r => some (.agg r)
    | none => none
  | .tup ts => match renT σ ts with
    | some r => some (.tup r)
    | none => none
theorem renV_den {G : SH} {bs : List Nat} {x y : SV} (h : renV (sigL G bs) x = some y) : x.den.ren (sig G.length bs) = y.den := by
  unfold renV at h
  split at h
  · split at h
    · rename_i hy; injection h with h; subst h
      show AVal.c _ = _
      rw [renC_den hy]; rfl
    · cases h
  · split at h
    · rename_i hy; injection h with h; subst h
      show AVal.agg _ = _
      rw [renL_den hy]; rfl
    · cases h
  · split at h
    · rename_i hy; injection h with h; subst h
      show AVal.tup _ = _
      rw [renT_den hy]; rfl
    · cases h
def renVs (σ : List Nat) : List SV → Option (List SV)
  | [] => some []
  | x :: l => match renV σ x with
    | some y => match renVs σ l with
      | some r => some (y :: r)
      | none => none
    | none => none
theorem renVs_den {G : SH} {bs : List Nat} : ∀ {l r : List SV}, renVs (sigL G bs) l = some r → (l.map SV.den).map (AVal.ren (sig G.length bs)) = r.map SV.den
  | [], r, h => by injection h with h; subst h; rfl
  | x :: l, r, h => by
    unfold renVs at h
    split at h
    · rename_i y hy
      split at h
      · rename_i r' hr
        injection h with h; subst h
        simp only [List.map_cons]
        rw [renV_den hy, renVs_den hr]
      · cases h
    · cases h
def renHs (σ : List Nat) : SH → Option SH
  | [] => some []
  | none :: H => match renHs σ H with
    | some r => some (none :: r)
    | none => none
  | some (.cells cs) :: H => match renL σ cs with
    | some ds => match renHs σ H with
      | some r => some (some (.cells ds) :: r)
      | none => none
    | none => none
  | some (.els z F V M d l) :: H => match renHs σ H with
    | some r => some (some (.els z F V M d l) :: r)
    | none => none
theorem renHs_den {G : SH} {bs : List Nat} : ∀ {H r : SH}, renHs (sigL G bs) H = some r → (denH H).map (renB (sig G.length bs)) = denH r
  | [], r, h => by injection h with h; subst h; rfl
  | none :: H, r, h => by
    unfold renHs at h
    split at h
    · rename_i r' hr
      injection h with h; subst h
      have := renHs_den hr
      simp only [denH, List.map_cons] at *
      rw [this]; rfl
    · cases h
  | some (.cells cs) :: H, r, h => by
    unfold renHs at h
    split at h
    · rename_i ds hds
      split at h
      · rename_i r' hr
        injection h with h; subst h
        have := renHs_den hr
        simp only [denH, List.map_cons] at *
        rw [this]
        show some ((denL cs).map _) :: _ = _
        rw [renL_den hds]; rfl
      · cases h
    · cases h
  | some (.els z F V M d l) :: H, r, h => by
    unfold renHs at h
    split at h
    · rename_i r' hr
      injection h with h; subst h
      have := renHs_den hr
      simp only [denH, List.map_cons] at *
      rw [this]
      congr 1
      simp only [denB, renB, SB.den, List.map_map]
      congr 1
    · cases h
/-- The blocks of these numbers. -/
def getHs (H : SH) : List Nat → Option SH
  | [] => some []
  | b :: bs => match nth H b with
    | some x => match getHs H bs with
      | some r => some (x :: r)
      | none => none
    | none => none
theorem getHs_den {H : SH} : ∀ {bs : List Nat} {r : SH}, getHs H bs = some r → (bs.map fun b => (denH H).getD b none) = denH r ∧ ∀ b ∈ bs, b < H.length
  | [], r, h => by injection h with h; subst h; exact ⟨rfl, fun b hb => by cases hb⟩
  | b :: bs, r, h => by
    unfold getHs at h
    split at h
    · rename_i x hx
      split at h
      · rename_i r' hr
        injection h with h; subst h
        obtain ⟨h1, h2⟩ := getHs_den hr
        rw [nth_get] at hx
        simp only [List.map_cons, denH] at *
        rw [h1]
        refine ⟨?_, fun c hc => ?_⟩
        · rw [List.getD_eq_getElem?_getD, List.getElem?_map, hx]; rfl
        · rcases List.mem_cons.1 hc with rfl | hc
          · exact (List.getElem?_eq_some_iff.1 hx).1
          · exact h2 c hc
      · cases h
    · cases h
def appK : SH → SH → (SH → Option SX) → Option SX
  | [], Cs, k => k Cs
  | x :: H, Cs, k => appK H Cs fun r => k (x :: r)
def putK (H : SH) (bs : List Nat) (Cs : SH) (k : SH → Option SX) : Option SX :=
  match bs with
  | [] => appK H Cs k
  | b :: bs => match Cs with
    | c :: Cs => setK H b c fun H' => putK H' bs Cs k
    | [] => none
theorem appK_eq {x : SX} : ∀ {H Cs : SH} {k : SH → Option SX}, appK H Cs k = some x → k (H ++ Cs) = some x
  | [], Cs, k, h => h
  | y :: H, Cs, k, h => by have := appK_eq (H := H) h; simpa using this
theorem putK_eq {x : SX} : ∀ {bs : List Nat} {H Cs : SH} {k : SH → Option SX}, putK H bs Cs k = some x → ∃ H', k H' = some x ∧ denH H' = putBack (denH H) bs (denH Cs)
  | [], H, Cs, k, h => by
    have h' : appK H Cs k = some x := by unfold putK at h; exact h
    exact ⟨_, appK_eq h', by simp [denH, putBack]⟩
  | b :: bs, H, [], k, h => by unfold putK at h; cases h
  | b :: bs, H, c :: Cs, k, h => by
    unfold putK at h
    obtain ⟨h1, h2⟩ := setK_eq h
    obtain ⟨H', h3, h4⟩ := putK_eq h2
    refine ⟨H', h3, ?_⟩
    rw [h4]
    simp only [denH, List.map_cons, putBack, List.map_set]
def lenH : SH → Nat → Nat
  | [], n => n
  | _ :: H, n => lenH H (n + 1)
theorem lenH_eq : ∀ (H : SH) (n : Nat), lenH H n = n + H.length
  | [], n => rfl
  | _ :: H, n => by rw [lenH, lenH_eq H]; simp; omega
/-- What a call finds and leaves; the state behind it. -/
structure CB : Type 1 where
  f : FuncId
  vs : List SV
  Hs : SH
  x : SX
def lenN : List Nat → Nat
  | [] => 0
  | _ :: l => lenN l + 1
theorem lenN_eq : ∀ l : List Nat, lenN l = l.length
  | [] => rfl
  | _ :: l => by simp [lenN, lenN_eq l]
def nodupB : List Nat → Bool
  | [] => true
  | b :: l => match memN l b with
    | true => false
    | false => nodupB l
theorem memN_of {l : List Nat} {t : Nat} (h : t ∈ l) : memN l t = true := by
  induction l with
  | nil => cases h
  | cons d l ih =>
    unfold memN
    rcases List.mem_cons.1 h with rfl | h
    · rw [Nat.beq_refl]
    · split
      · rfl
      · exact ih h
theorem nodupB_eq : ∀ {l : List Nat}, nodupB l = true → l.Nodup
  | [], _ => List.nodup_nil
  | b :: l, h => by
    unfold nodupB at h
    split at h
    · cases h
    · rename_i hb
      exact List.nodup_cons.2 ⟨fun hm => (by rw [memN_of hm] at hb; cases hb), nodupB_eq h⟩
theorem X_call {c : Call} {f : FuncId} {vs ws : List SV} {Hs Hs' Gs Gs' : SH} {r r' : SV} {l' : SL} {H' : SH} (bs : List Nat) (hO : OkV P f vs Hs r Hs')
    (hc : callOf ⟨d, .call c, ty, pos, af, none⟩ = some (f, c.args.toList)) (ha : argsS (evU l) c.args.toList = some ws) (hv : renVs (sigL H bs) vs = some ws) (hg : getHs H bs = some Gs) (hr1 : renHs (sigL H bs) Hs = some Gs) (hr2 : renHs (sigL H bs) Hs' = some Gs') (hr3 : renV (sigL H bs) r = some r')
    (hn : nodupB bs = true) (h4 : okVs Hs.length vs = true) (h5 : okBl Hs.length Hs = true) (h6 : okBl Hs'.length Hs' = true) (hP : putK H bs Gs' (fun H' => some ⟨[], [], H', .plain (fun _ => True), True⟩) = some ⟨[], [], H', .plain (fun _ => True), True⟩)
    (hl : (match d with | some d => some ((d, SE.v r') :: l) | none => some l) = some l')
    (h : WR P ops rest (SS l' H') (R.push ⟨bs, [], bs, if Hs'.length = bs.length then none else some H.length, false, false⟩)) : WR P ops (⟨d, .call c, ty, pos, af, none⟩ :: rest) (SS l H) R := by
  obtain ⟨g1, g2⟩ := getHs_den hg
  obtain ⟨H2, hP1, hP2⟩ := putK_eq hP
  injection hP1 with hP1; injection hP1 with _ _ hP1
  subst hP1
  have hlen : ∀ X : SH, (denH X).length = X.length := denH_len
  refine R_call bs (H := denH H) (n := H.length) (Hs := denH Hs) (Hs' := denH Hs') (args := ws.map SV.den) (args' := vs.map SV.den) (r := r.den) (r2 := r'.den) (H2 := denH H2) hc (argsS_eq (s := SS l H) (fun x _ v hv => evU_den hv) ha) (SS_H _ _) hO ?_ (hlen H) ?_ (nodupB_eq hn) ?_ (by rw [hlen]; exact okVs_den h4) (by rw [hlen]; exact okBl_den h5) (by rw [hlen]; exact okBl_den h6) (renV_den hr3) ?_ rfl ?_
  · rw [hlen]; exact renVs_den hv
  · rw [renHs_den hr1]; exact g1.symm
  · rw [List.all_eq_true]; intro b hb; simpa using g2 b hb
  · rw [renHs_den hr2]; exact hP2.symm
  · rw [SS_setH, hlen]
    have : SS l' H2 = (SS l H2).put d r'.den := by
      split at hl <;> injection hl with hl <;> subst hl <;> rfl
    rw [← this]; exact h
end
end Go.Proofs.Ythnfliopmjpdmaa.Av
