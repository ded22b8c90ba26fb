/- Symbolic states: results, functions, what is forgotten. -/
import Derived.Test.YthnfliopmjpdmaaAvS9
namespace Go.Proofs.Ythnfliopmjpdmaa.Av
set_option linter.unusedVariables false
set_option linter.unusedSimpArgs false

section
variable {P : Program} {T : Tb} {H : SH} {l : SL}
/-! ### Equal values -/
def CEq (x y : SC) : Prop := x.den = y.den
theorem CEq.refl (x : SC) : CEq x x := rfl
theorem CEq.int {k : IntKind} {a b : Int} (h : a = b) : CEq (.c (.f (.v (.int k a)))) (.c (.f (.v (.int k b)))) := by subst h; rfl
theorem CEq.bool {a b : Bool} (h : a = b) : CEq (.c (.f (.v (.bool a)))) (.c (.f (.v (.bool b)))) := by subst h; rfl
theorem CEq.str {a b : ByteArray} (h : a = b) : CEq (.c (.f (.v (.string a)))) (.c (.f (.v (.string b)))) := by subst h; rfl
theorem CEq.arr {b off n n' m m' : Nat} (h : n = n') (h2 : m = m') : CEq (.c (.arr b off n m)) (.c (.arr b off n' m')) := by subst h; subst h2; rfl
theorem CEq.row {α : Type} {z n : Nat} {cs : List FVal} {F : α → List FVal} {V : α → List SC} {d : α} {l : List α} (h1 : cs = l.flatMap F) (h2 : n = l.length) : CEq (.c (.f (.row cs n))) (.row z F V d l) := by subst h1; subst h2; rfl
theorem CEq.rows {α : Type} {z : Nat} {F : α → List FVal} {V : α → List SC} {d : α} {l l' : List α} (h : l = l') : CEq (.row z F V d l) (.row z F V d l') := by subst h; rfl
theorem CEq.tip {α : Type} {z n : Nat} {cs : List FVal} {F : α → List FVal} {V : α → List SC} {d : α} {l : List α} (h1 : cs = l.flatMap F) (h2 : n = l.length) : CEq (.c (.tip z cs n)) (.tipr z F V d l) := by subst h1; subst h2; rfl
theorem CEq.tips {α : Type} {z : Nat} {F : α → List FVal} {V : α → List SC} {d : α} {l l' : List α} (h : l = l') : CEq (.tipr z F V d l) (.tipr z F V d l') := by subst h; rfl
theorem CEq.raw {cs cs' : List FVal} {n n' : Nat} (h : cs = cs') (h2 : n = n') : CEq (.c (.f (.row cs n))) (.c (.f (.row cs' n'))) := by subst h; subst h2; rfl
inductive SEqL : List SC → List SC → Prop
  | nil : SEqL [] []
  | cons {x y : SC} {l m : List SC} (h : CEq x y) (t : SEqL l m) : SEqL (x :: l) (y :: m)
theorem SEqL.den {l m : List SC} (h : SEqL l m) : denL l = denL m := by
  induction h with
  | nil => rfl
  | cons h t ih => simp only [denL, List.map_cons] at *; rw [ih]; exact congrArg (· :: _) h
inductive TEqL : List ST → List ST → Prop
  | nil : TEqL [] []
  | c {x y : SC} {l m : List ST} (h : CEq x y) (t : TEqL l m) : TEqL (.c x :: l) (.c y :: m)
  | agg {x y : List SC} {l m : List ST} (h : SEqL x y) (t : TEqL l m) : TEqL (.agg x :: l) (.agg y :: m)
theorem TEqL.den {l m : List ST} (h : TEqL l m) : l.map ST.den = m.map ST.den := by
  induction h with
  | nil => rfl
  | c h t ih => simp only [List.map_cons, ih]; exact congrArg (fun x => TVal.c x :: _) h
  | agg h t ih => simp only [List.map_cons, ih]; exact congrArg (fun x => TVal.agg x :: _) h.den
theorem VEq.c {x y : SC} (h : CEq x y) : (SV.c x).den = (SV.c y).den := congrArg AVal.c h
theorem VEq.agg {x y : List SC} (h : SEqL x y) : (SV.agg x).den = (SV.agg y).den := congrArg AVal.agg h.den
theorem VEq.tup {x y : List ST} (h : TEqL x y) : (SV.tup x).den = (SV.tup y).den := congrArg AVal.tup h.den
inductive TkEq : SH → SH → Prop
  | nil (H : SH) : TkEq H []
  | none {H G : SH} (t : TkEq H G) : TkEq (Option.none :: H) (Option.none :: G)
  | cells {cs ds : List SC} {H G : SH} (h : SEqL cs ds) (t : TkEq H G) : TkEq (some (.cells cs) :: H) (some (.cells ds) :: G)
  | els {α : Type} {z : Nat} {F : α → List FVal} {V : α → List SC} {M : List FVal → Option α} {d : α} {l l' : List α} {H G : SH} (h : l = l') (t : TkEq H G) : TkEq (some (.els z F V M d l) :: H) (some (.els z F V M d l') :: G)
theorem TkEq.den {H G : SH} (h : TkEq H G) : denH (H.take G.length) = denH G := by
  induction h with
  | nil H => simp [denH]
  | none t ih => simp only [denH, List.length_cons, List.take_succ_cons, List.map_cons] at *; rw [ih]
  | cells h t ih => simp only [denH, List.length_cons, List.take_succ_cons, List.map_cons] at *; rw [ih]; exact congrArg (fun x => some x :: _) h.den
  | els h t ih => subst h; simp only [denH, List.length_cons, List.take_succ_cons, List.map_cons] at *; rw [ih]
/-! ### Results -/
def stS (v : SV) : Option ST :=
  match v with
  | .c x => some (.c x)
  | .agg ds => some (.agg ds)
  | .tup _ => none
def cutO (cs : List SC) (off n : Nat) : Option (List SC) := cutK cs off n some
def demO (cs : List SC) : Option (List SC) := demK cs some
def resV (T : Tb) (l : SL) (H : SH) : List ResultVar → Option (List ST)
  | [] => some []
  | .tmp t :: rs => match evU l (.tmp t) with
    | some v => match hS v with
      | some u => match stS u with
        | some y => match resV T l H rs with
          | some ys => some (y :: ys)
          | none => none
        | none => none
      | none => none
    | none => none
  | .cell x t :: rs => match lkN T.sz t with
    | some (q, n) => match evU l (.tmp x) with
      | some (.c (.c (.ptr b off))) => match nth H b with
        | some (some (.cells cs)) => match q with
          | false => match nth cs off with
            | some y => match hS (.c y) with
              | some u => match stS u with
                | some z => match resV T l H rs with
                  | some ys => some (z :: ys)
                  | none => none
                | none => none
              | none => none
            | none => none
          | true => match cutO cs off n with
            | some ds => match demO ds with
              | some es => match nzL es with
                | some fs => match resV T l H rs with
                  | some ys => some (.agg fs :: ys)
                  | none => none
                | none => none
              | none => none
            | none => none
        | _ => none
      | _ => none
    | none => none
theorem hS_t {v u : SV} {y : ST} {w : AVal} (hw : w = v.den) (h : hS v = some u) (hy : stS u = some y) : (w.dem.t).map TVal.nz = some y.den := by
  have h1 := hS_den h
  subst hw
  unfold AVal.h at h1
  unfold stS at hy
  split at hy
  · injection hy with hy; subst hy
    rename_i x
    cases hd : v.den.dem with
    | c z =>
      rw [hd] at h1
      have h2 : AVal.c z.nz = AVal.c x.den := h1
      injection h2 with h2
      show some (TVal.c z.nz) = _
      rw [h2]; rfl
    | agg cs => rw [hd] at h1; cases h1
    | tup ts => rw [hd] at h1; cases h1
  · injection hy with hy; subst hy
    rename_i ds
    cases hd : v.den.dem with
    | c z => rw [hd] at h1; cases h1
    | agg cs =>
      rw [hd] at h1
      have h2 : AVal.agg (cs.map CVal.nz) = AVal.agg (denL ds) := h1
      injection h2 with h2
      show some (TVal.agg (cs.map CVal.nz)) = _
      rw [h2]; rfl
    | tup ts => rw [hd] at h1; cases h1
  · cases hy
theorem resS_eq (O : T.Ok P) : ∀ {rs : List ResultVar} {ys : List ST}, resV T l H rs = some ys → resL P (SS l H) rs = some (ys.map ST.den)
  | [], ys, h => by injection h with h; subst h; rfl
  | .tmp t :: rs, ys, h => by
    unfold resV at h
    split at h
    · rename_i v hv
      split at h
      · rename_i u hu
        split at h
        · rename_i y hy
          split at h
          · rename_i ys' hys
            injection h with h; subst h
            have h1 := hS_t (evU_den (H := H) hv) hu hy
            have h2 := resS_eq O hys
            unfold resL
            have h3 : res1 P (SS l H) (.tmp t) = some y.den := h1
            rw [h3, h2]
            rfl
          · cases h
        · cases h
      · cases h
    · cases h
  | .cell x t :: rs, ys, h => by
    unfold resV at h
    split at h
    · rename_i q n hsz
      have ht := O.sz_of hsz
      split at h
      · rename_i b off hx
        have hx' := evU_den (H := H) hx
        split at h
        · rename_i cs hb
          have hb' : (SS l H).H[b]? = some (some (denL cs)) := by rw [SS_H]; exact nth_H hb
          split at h
          · split at h
            · rename_i y hy
              split at h
              · rename_i u hu
                split at h
                · rename_i z hz
                  split at h
                  · rename_i ys' hys
                    injection h with h; subst h
                    have h1 := hS_t (v := .c y) rfl hu hz
                    have h2 : TVal.nz (.c y.den.dem) = z.den := by
                      have h3 : some (TVal.nz (.c y.den.dem)) = some z.den := h1
                      injection h3
                    exact res_cell1 ht hx' hb' (nth_den hy) h2 (resS_eq O hys)
                  · cases h
                · cases h
              · cases h
            · cases h
          · split at h
            · rename_i ds hds
              obtain ⟨h1, h2⟩ := cutK_eq hds
              injection h2 with h2; subst h2
              split at h
              · rename_i es hes
                obtain ⟨es', h3, h4⟩ := demK_eq hes
                injection h4 with h4; subst h4
                split at h
                · rename_i fs hfs
                  split at h
                  · rename_i ys' hys
                    injection h with h; subst h
                    refine res_celln (cs := denL es') ht hx' hb' (by rw [den_len]; exact h1) (by rw [cut_den, h3]) ?_ (resS_eq O hys)
                    show TVal.agg ((denL es').map CVal.nz) = _
                    rw [nzL_eq hfs]; rfl
                  · cases h
                · cases h
              · cases h
            · cases h
        · cases h
      · cases h
    · cases h
def packS : List ST → SV
  | [.c x] => .c x
  | [.agg l] => .agg l
  | l => .tup l
theorem packS_den (ys : List ST) : packT (ys.map ST.den) = (packS ys).den := by
  cases ys with
  | nil => rfl
  | cons y ys =>
    cases ys with
    | nil => cases y <;> rfl
    | cons z ys => cases y <;> rfl
theorem take_den (H : SH) (n : Nat) : (denH H).take n = denH (H.take n) := by simp [denH]
theorem X_ret (O : T.Ok P) {fn : Func} {r : SV} {H' : SH} {e : AExit} {rs : List ResultVar} {ys : List ST} (he : (match e with | .exit _ => False | _ => True)) (hr : fn.results.toList = rs) (hy : resV T l H rs = some ys) (hp : (packS ys).den = r.den) (hH : TkEq H H') : Ret P fn r.den (denH H') e (SS l H) :=
  ⟨he, ys.map ST.den, by rw [hr]; exact resS_eq O hy, by rw [packS_den]; exact hp, by rw [SS_H, denH_len, take_den]; exact hH.den⟩
/-- Blocks that are returned are data from then on. -/
def noArr : List SC → Bool
  | [] => true
  | .c (.arr ..) :: _ => false
  | _ :: l => noArr l
def fzS (H : SH) : List ST → (List ST → Prop → Option SX) → Option SX
  | [], k => k [] True
  | .c (.c (.arr b off len cap)) :: l, k => match nth H b with
    | some (some (.els z F V M d x)) => match Nat.beq off 0 with
      | true => fzS H l fun r p => k (.c (.row z F V d x) :: r) (((len = cap ∧ x.length = len) ∧ ∀ y, fzs ((F y).map CVal.f) = some (F y)) ∧ p)
      | false => none
    | _ => none
  | .c x :: l, k => fzS H l fun r p => k (.c x :: r) p
  | .agg ds :: l, k => match noArr ds with
    | true => fzS H l fun r p => k (.agg ds :: r) p
    | false => none
theorem fzs_app : ∀ (a b : List CVal) (x y : List FVal), fzs a = some x → fzs b = some y → fzs (a ++ b) = some (x ++ y)
  | [], b, x, y, h1, h2 => by injection h1 with h1; subst h1; exact h2
  | c :: a, b, x, y, h1, h2 => by
    unfold fzs at h1
    split at h1
    · rename_i u us e1 e2
      injection h1 with h1; subst h1
      show fzs (c :: (a ++ b)) = _
      unfold fzs
      rw [e1, fzs_app a b us y e2 h2]
      rfl
    · cases h1
theorem fzs_els {α : Type} {F : α → List FVal} (hF : ∀ y, fzs ((F y).map CVal.f) = some (F y)) : ∀ l : List α, fzs ((l.flatMap F).map CVal.f) = some (l.flatMap F)
  | [] => rfl
  | x :: l => by
    simp only [List.flatMap_cons, List.map_append]
    exact fzs_app _ _ _ _ (hF x) (fzs_els hF l)
theorem fzC_arr {H : HB} {b off len cap : Nat} {cells : List CVal} {fs : List FVal} (h1 : H[b]? = some (some cells)) (h2 : len = cap) (h3 : fzs (cells.drop off) = some fs) : fzC H (.arr b off len cap) = .f (.row fs len) := by
  simp only [fzC, h1, if_pos h2, h3]
theorem fzC_other {H : HB} {x : CVal} (h : ∀ b off len cap, x = .arr b off len cap → False) : fzC H x = x := by
  cases x <;> first | rfl | exact (h _ _ _ _ rfl).elim
theorem noArr_eq {H : HB} : ∀ {ds : List SC}, noArr ds = true → (denL ds).map (fzC H) = denL ds
  | [], _ => rfl
  | x :: l, h => by
    unfold noArr at h
    split at h
    · rename_i h0; cases h0
    · cases h
    · rename_i x' l' hne h0
      injection h0 with e1 e2
      subst e1; subst e2
      have := noArr_eq (H := H) h
      simp only [denL, List.map_cons] at *
      rw [this, fzC_other]
      intro b off len cap e
      cases x with
      | c y => exact hne b off len cap (by rw [show y = _ from e])
      | _ => cases e
theorem fzS_eq {x : SX} : ∀ {ys : List ST} {k : List ST → Prop → Option SX}, fzS H ys k = some x → ∃ zs p, k zs p = some x ∧ (p → (ys.map ST.den).map (fzT (denH H)) = zs.map ST.den)
  | [], k, h => ⟨[], True, h, fun _ => rfl⟩
  | y :: ys, k, h => by
    unfold fzS at h
    split at h
    · rename_i h0; cases h0
    · rename_i b off len cap l' h0
      injection h0 with e1 e2; subst e1; subst e2
      split at h
      · rename_i z F V M d x' hb
        split at h
        · rename_i hoff
          have hoff := Nat.eq_of_beq_eq_true hoff
          subst hoff
          obtain ⟨zs, p, h1, h2⟩ := fzS_eq h
          refine ⟨_, _, h1, fun ⟨⟨⟨hp1, hp2⟩, hp3⟩, hp4⟩ => ?_⟩
          simp only [List.map_cons]
          rw [h2 hp4]
          congr 1
          show TVal.c (fzC (denH H) (.arr b 0 len cap)) = _
          rw [fzC_arr (nth_H hb) hp1 (by rw [List.drop_zero]; exact fzs_els hp3 x')]
          simp only [ST.den, SC.den, hp2]
        · cases h
      · cases h
    · rename_i x' l' hne h0
      injection h0 with e1 e2; subst e1; subst e2
      obtain ⟨zs, p, h1, h2⟩ := fzS_eq h
      refine ⟨_, _, h1, fun hp => ?_⟩
      simp only [List.map_cons]
      rw [h2 hp]
      congr 1
      show TVal.c (fzC (denH H) x'.den) = _
      rw [fzC_other]
      · rfl
      · intro b off len cap e
        cases x' with
        | c y => exact hne b off len cap (by rw [show y = _ from e])
        | _ => cases e
    · rename_i ds l' h0
      injection h0 with e1 e2; subst e1; subst e2
      split at h
      · rename_i hn
        obtain ⟨zs, p, h1, h2⟩ := fzS_eq h
        refine ⟨_, _, h1, fun hp => ?_⟩
        simp only [List.map_cons]
        rw [h2 hp]
        congr 1
        show TVal.agg ((denL ds).map _) = _
        rw [noArr_eq hn]; rfl
      · cases h
def fzR (T : Tb) (l : SL) (H : SH) (rs : List ResultVar) : Option SX :=
  match resV T l H rs with
  | some ys => fzS H ys fun zs p => some ⟨[], [(0, .v (packS zs))], [], .plain (fun _ => True), p⟩
  | none => none
theorem X_retP (O : T.Ok P) {fn : Func} {r : SV} {e : AExit} {rs : List ResultVar} {v : SV} {p : Prop} (he : (match e with | .exit _ => False | _ => True)) (hr : fn.results.toList = rs) (hy : fzR T l H rs = some ⟨[], [(0, .v v)], [], .plain (fun _ => True), p⟩) (hq : p) (hp : v.den = r.den) : RetP P fn r.den e (SS l H) := by
  unfold fzR at hy
  split at hy
  · rename_i ys hys
    obtain ⟨zs, p', h1, h2⟩ := fzS_eq hy
    injection h1 with h1
    injection h1 with _ e1 _ _ e2
    injection e1 with e1 _
    injection e1 with _ e1
    injection e1 with e1
    subst e1; subst e2
    refine ⟨he, ys.map ST.den, by rw [hr]; exact resS_eq O hys, ?_⟩
    rw [SS_H, h2 hq, packS_den]
    exact hp
  · cases hy
/-! ### Functions -/
def sl0 : Nat → List SV → SL
  | _, [] => []
  | i, x :: l => (i, .v x) :: sl0 (i + 1) l
theorem sl0_eq : ∀ (args : List SV) (i : Nat), St.of (denH H) (arg0 i (args.map SV.den)) = SS (sl0 i args) H
  | [], i => rfl
  | x :: l, i => by
    show (St.of (denH H) (arg0 (i + 1) (l.map SV.den))).put (some i) x.den = _
    rw [sl0_eq l (i + 1)]
    rfl
def flatV : SV → Bool
  | .c (.c (.tip ..)) => false
  | .c (.tipr ..) => false
  | _ => true
theorem flatV_den {v : SV} (h : flatV v = true) : Flat v.den = true := by
  cases v with
  | c x => cases x with
    | c y => cases y <;> first | rfl | cases h
    | tipr => cases h
    | _ => rfl
  | agg l => rfl
  | tup l => rfl
theorem X_fn (hm : P.follows .mixedOrders = true) {f : FuncId} {fn : Func} {c : Code} {args : List SV} {H' : SH} {r : SV} (hf : P.funcs[f]? = some fn) (hb : fn.body = some c) (hn : (fn.name == "runtime.NumGoroutine") = false) (hca : args.length ≤ fn.ntmps) (hcode : codeOk fn.ntmps c = true)
    (hflat : flatV r = true) (hrok : okV H'.length r = true) (hlen : H.length ≤ H'.length) (hHok : okBl H'.length H' = true) {n0 : Nat} (h0 : H.length = n0) (h : W P (DR P) n0 c (SS (sl0 0 args) H) (Ret P fn r.den (denH H'))) : OkV P f args H r H' := by
  subst h0
  refine ok_fn hm hf hb hn (by simpa using hca) hcode (flatV_den hflat) (by rw [denH_len]; exact okV_den hrok) (by rw [denH_len, denH_len]; exact hlen) (by rw [denH_len]; exact okBl_den hHok) ?_
  rw [denH_len, sl0_eq]
  exact h
theorem X_fnP (hm : P.follows .mixedOrders = true) {f : FuncId} {fn : Func} {c : Code} {args : List SV} {r : SV} (hf : P.funcs[f]? = some fn) (hb : fn.body = some c) (hn : (fn.name == "runtime.NumGoroutine") = false) (hca : args.length ≤ fn.ntmps) (hcode : codeOk fn.ntmps c = true)
    (hflat : flatV r = true) (hrok : okV 0 r = true) (h : W P (DR P) 0 c (SS (sl0 0 args) []) (RetP P fn r.den)) : OkV P f args [] r [] := by
  refine okP_fn hm hf hb hn (by simpa using hca) hcode (flatV_den hflat) (okV_den hrok) ?_
  have := sl0_eq (H := []) args 0
  rw [show (denH [] : HB) = [] from rfl] at this
  rw [this]
  exact h
/-! ### What is forgotten -/
def CLe (x y : SC) : Prop := CVal.Le x.den y.den
theorem CLe.refl (x : SC) : CLe x x := CVal.Le.refl _
theorem CLe.any (x : SC) : CLe x (.c .any) := CVal.Le.any _
theorem CLe.nil_row : CLe (.c (.f .nils)) (.c (.f (.row [] 0))) := CVal.Le.nil_row
theorem CLe.nil_rowS {α : Type} {z : Nat} {F : α → List FVal} {V : α → List SC} {d : α} : CLe (.c (.f .nils)) (.row z F V d []) := CVal.Le.nil_row
theorem CLe.nil_tip {z : Nat} : CLe (.c (.f .nils)) (.c (.tip z [] 0)) := CVal.Le.nil_tip z
theorem CLe.nil_tipS {α : Type} {z : Nat} {F : α → List FVal} {V : α → List SC} {d : α} : CLe (.c (.f .nils)) (.tipr z F V d []) := CVal.Le.nil_tip z
theorem CLe.tip {α : Type} {z n : Nat} {cs : List FVal} {F : α → List FVal} {V : α → List SC} {d : α} {l : List α} (h1 : cs = l.flatMap F) (h2 : n = l.length) : CLe (.c (.tip z cs n)) (.tipr z F V d l) := by subst h1; subst h2; exact CVal.Le.refl _
theorem CLe.tip_row {α : Type} {z z' n : Nat} {cs : List FVal} {F : α → List FVal} {V : α → List SC} {d : α} {l : List α} (h1 : cs = l.flatMap F) (h2 : n = l.length) : CLe (.c (.tip z cs n)) (.row z' F V d l) := by subst h1; subst h2; exact CVal.Le.tip_row _ _ _
theorem CLe.row {α : Type} {z n : Nat} {cs : List FVal} {F : α → List FVal} {V : α → List SC} {d : α} {l : List α} (h1 : cs = l.flatMap F) (h2 : n = l.length) : CLe (.c (.f (.row cs n))) (.row z F V d l) := by subst h1; subst h2; exact CVal.Le.refl _
theorem CLe.tipr_row {α : Type} {z z' : Nat} {F : α → List FVal} {V V' : α → List SC} {d d' : α} {l l' : List α} (h : l = l') : CLe (.tipr z F V d l) (.row z' F V' d' l') := by subst h; exact CVal.Le.tip_row _ _ _
theorem CLe.rows {α : Type} {z : Nat} {F : α → List FVal} {V : α → List SC} {d : α} {l l' : List α} (h : l = l') : CLe (.row z F V d l) (.row z F V d l') := by subst h; exact CVal.Le.refl _
theorem CLe.tips {α : Type} {z : Nat} {F : α → List FVal} {V : α → List SC} {d : α} {l l' : List α} (h : l = l') : CLe (.tipr z F V d l) (.tipr z F V d l') := by subst h; exact CVal.Le.refl _
theorem CLe.int {k : IntKind} {a b : Int} (h : a = b) : CLe (.c (.f (.v (.int k a)))) (.c (.f (.v (.int k b)))) := by subst h; exact CVal.Le.refl _
theorem CLe.bool {a b : Bool} (h : a = b) : CLe (.c (.f (.v (.bool a)))) (.c (.f (.v (.bool b)))) := by subst h; exact CVal.Le.refl _
theorem CLe.str {a b : ByteArray} (h : a = b) : CLe (.c (.f (.v (.string a)))) (.c (.f (.v (.string b)))) := by subst h; exact CVal.Le.refl _
theorem CLe.arr {b off n n' m m' : Nat} (h : n = n') (h2 : m = m') : CLe (.c (.arr b off n m)) (.c (.arr b off n' m')) := by subst h; subst h2; exact CVal.Le.refl _
theorem CLe.of_eq {x y : SC} (h : x.den = y.den) : CLe x y := by unfold CLe; rw [h]; exact CVal.Le.refl _
inductive SLe : List SC → List SC → Prop
  | nil : SLe [] []
  | cons {x y : SC} {l m : List SC} (h : CLe x y) (t : SLe l m) : SLe (x :: l) (y :: m)
theorem SLe.den {l m : List SC} (h : SLe l m) : LeL (denL l) (denL m) := by
  induction h with
  | nil => exact .nil
  | cons h t ih => exact .cons h ih
inductive HLe : SH → SH → Prop
  | nil (H : SH) : HLe H []
  | none {x : Option SB} {H G : SH} (t : HLe H G) : HLe (x :: H) (Option.none :: G)
  | cells {cs ds : List SC} {H G : SH} (h : SLe cs ds) (t : HLe H G) : HLe (some (.cells cs) :: H) (some (.cells ds) :: G)
  | els {α : Type} {z : Nat} {F : α → List FVal} {V : α → List SC} {M : List FVal → Option α} {d : α} {l l' : List α} {H G : SH} (h : l = l') (t : HLe H G) : HLe (some (.els z F V M d l) :: H) (some (.els z F V M d l') :: G)
  | open_ {α : Type} {z : Nat} {F : α → List FVal} {V : α → List SC} {M : List FVal → Option α} {d : α} {cs : List SC} {l' : List α} {H G : SH} (h : denL cs = (l'.flatMap F).map CVal.f) (t : HLe H G) : HLe (some (.cells cs) :: H) (some (.els z F V M d l') :: G)
theorem HLe.den {H G : SH} (h : HLe H G) : G.length ≤ H.length ∧ LeH ((denH H).take G.length) (denH G) := by
  induction h with
  | nil H => exact ⟨Nat.zero_le _, by simp [denH]; exact .nil⟩
  | none t ih => exact ⟨by simp; exact ih.1, by simp only [denH, List.map_cons, List.length_cons, List.take_succ_cons] at *; exact .none ih.2⟩
  | cells h t ih => exact ⟨by simp; exact ih.1, by simp only [denH, List.map_cons, List.length_cons, List.take_succ_cons] at *; exact .some h.den ih.2⟩
  | els h t ih => subst h; exact ⟨by simp; exact ih.1, by simp only [denH, List.map_cons, List.length_cons, List.take_succ_cons] at *; exact .some (LeL.refl _) ih.2⟩
  | open_ h t ih => exact ⟨by simp; exact ih.1, by simp only [denH, List.map_cons, List.length_cons, List.take_succ_cons] at *; exact .some (by rw [SB.den, h]; exact LeL.refl _) ih.2⟩
/-- A slot says less. -/
def ELe (x y : SE) : Prop := LeS x.den y.den
theorem ELe.refl (x : SE) : ELe x x := LeS.refl _
theorem LeS_of {x y : CVal} (h : CVal.Le x y) (hne : y ≠ .any) : LeS (.c x) (.c y) := by
  cases h with
  | refl => exact .refl _
  | any => exact absurd rfl hne
  | nil_row => exact .nil_row
  | nil_tip sz => exact .nil_tip sz
  | tip_row sz cs len => exact .tip_row sz cs len
def known : SC → Bool
  | .c .any => false
  | _ => true
theorem ELe.c {x y : SC} (hk : known y = true) (h : CLe x y) : ELe (.v (.c x)) (.v (.c y)) := LeS_of h (by
  cases y with
  | c y => intro e; have : y = .any := e; subst this; cases hk
  | _ => intro e; cases e)
theorem ELe.of_eq {x y : SE} (h : x.den = y.den) : ELe x y := by unfold ELe; rw [h]; exact LeS.refl _
def AgS (l : SL) : SL → Prop
  | [] => True
  | (d, x) :: r => (∃ e, lk l d = some e ∧ ELe e x) ∧ AgS l r
theorem AgS.den {l : SL} : ∀ {r : SL}, AgS l r → AgreeL (SS l H) (denE r)
  | [], _ => trivial
  | (d, x) :: r, h => ⟨by obtain ⟨e, h1, h2⟩ := h.1; exact ⟨_, lk_ev h1, h2⟩, AgS.den h.2⟩
def okE (n : Nat) : SL → Bool
  | [] => true
  | (_, .v x) :: l => match okV n x with
    | true => okE n l
    | false => false
  | (_, .g _ x) :: l => match okV n x with
    | true => okE n l
    | false => false
  | (_, .u) :: l => okE n l
theorem okE_den {n : Nat} : ∀ {l : SL}, okE n l = true → ((denE l).all fun p => p.2.ok n) = true
  | [], _ => rfl
  | (d, .v x) :: l, h => by
    unfold okE at h
    split at h
    · rename_i h1
      simp only [denE, List.map_cons, List.all_cons, Bool.and_eq_true]
      exact ⟨okV_den h1, okE_den (l := l) h⟩
    · cases h
  | (d, .g b x) :: l, h => by
    unfold okE at h
    split at h
    · rename_i h1
      simp only [denE, List.map_cons, List.all_cons, Bool.and_eq_true]
      refine ⟨?_, okE_den (l := l) h⟩
      cases b
      · rfl
      · exact okV_den h1
    · cases h
  | (d, .u) :: l, h => by
    simp only [denE, List.map_cons, List.all_cons, Bool.and_eq_true]
    exact ⟨rfl, okE_den (l := l) h⟩
def takeB : SH → Nat → Bool → SH
  | _, 0, _ => []
  | [], _, _ => []
  | x :: H, n + 1, b => x :: takeB H n b
theorem takeB_eq : ∀ (H : SH) (n : Nat) (b : Bool), takeB H n b = H.take n
  | _, 0, _ => by simp [takeB]
  | [], n + 1, _ => by simp [takeB]
  | x :: H, n + 1, b => by simp [takeB, takeB_eq H n b]
theorem X_weak {n0 : Nat} {l l' : SL} {H H' : SH} (h0 : Nat.ble n0 H'.length = true) (hg : okBl H'.length (takeB H H'.length true) = true) (hl : okE H'.length l' = true) (hH : HLe H H') (h : AgS l l') : Weak n0 (SS l H) (SS l' H') := by
  obtain ⟨h1, h2⟩ := hH.den
  refine weak_agG (SS_H l H) (by rw [denH_len]; exact Nat.le_of_ble_eq_true h0) (by rw [denH_len, denH_len]; exact h1) ?_ (by rw [denH_len]; exact okE_den hl) (by rw [denH_len]; exact h2) h.den
  rw [denH_len, take_den, ← takeB_eq H H'.length true]
  exact okBl_den hg
end
end Go.Proofs.Ythnfliopmjpdmaa.Av
