/- The steps of a walk over values without addresses. -/
import Derived.Test.YthnfliopmjpdmaaAvD2
namespace Go.Proofs.Ythnfliopmjpdmaa.Av
set_option linter.unusedVariables false
set_option linter.unusedSimpArgs false

abbrev HB := List (Option (List CVal))
def i64 (n : Int) : AVal := .c (.f (.v (.int .i64 n)))
def aB (b : Bool) : AVal := .c (.f (.v (.bool b)))
def aS (b : ByteArray) : AVal := .c (.f (.v (.string b)))
/-- A state by the slots that are known. -/
def St.bare (H : HB) : St := ⟨fun _ => .c .any, H⟩
def St.of (H : HB) : List (Nat × AVal) → St
  | [] => St.bare H
  | (d, x) :: l => (St.of H l).put (some d) x
section
variable {s : St} {H : HB}
theorem ev_same {d : Nat} {x : AVal} : (s.put (some d) x).ev (.tmp d) = x := upd_same _ _ _
theorem ev_other {d t : Nat} {x : AVal} (h : t ≠ d) : (s.put (some d) x).ev (.tmp t) = s.ev (.tmp t) := upd_other _ _ h
theorem ev_none {x : AVal} {y : Operand} : (s.put none x).ev y = s.ev y := rfl
theorem ev_const {v : Value} : s.ev (.const v) = ofV v := rfl
theorem ev_of_same {d : Nat} {x : AVal} {l : List (Nat × AVal)} : (St.of H ((d, x) :: l)).ev (.tmp d) = x := upd_same _ _ _
theorem ev_of_other {d t : Nat} {x : AVal} {l : List (Nat × AVal)} (h : t ≠ d) : (St.of H ((d, x) :: l)).ev (.tmp t) = (St.of H l).ev (.tmp t) := upd_other _ _ h
theorem H_put {d : Option Tmp} {x : AVal} : (s.put d x).H = s.H := put_H d x
theorem H_of {l : List (Nat × AVal)} : (St.of H l).H = H := by
  induction l with
  | nil => rfl
  | cons a l ih => obtain ⟨d, x⟩ := a; exact ih
def St.setH (s : St) (H : HB) : St := { s with H := H }
theorem ev_setH {x : Operand} : (s.setH H).ev x = s.ev x := by cases x <;> rfl
theorem H_setH : (s.setH H).H = H := rfl
theorem put_setH {d : Option Tmp} {x : AVal} : (s.setH H).put d x = (s.put d x).setH H := by cases d <;> rfl
theorem setH_setH {H' : HB} : (s.setH H).setH H' = s.setH H' := rfl
theorem ev_dem_same {t : Nat} : (s.dem t).ev (.tmp t) = (s.ev (.tmp t)).dem := upd_same _ _ _
theorem ev_dem_other {t u : Nat} (h : u ≠ t) : (s.dem t).ev (.tmp u) = s.ev (.tmp u) := upd_other _ _ h
theorem H_dem {t : Nat} : (s.dem t).H = s.H := rfl
theorem put_sl_same {d : Nat} {x : AVal} : (s.put (some d) x).sl d = x := upd_same _ _ _
theorem put_sl_other {d t : Nat} {x : AVal} (h : t ≠ d) : (s.put (some d) x).sl t = s.sl t := upd_other _ _ h
end
/-- What is forgotten: all but the slots of a list, which may say less. -/
theorem weak_ofL {n0 : Nat} {s : St} {H : HB} {l : List (Nat × AVal)} (h0 : n0 ≤ s.H.length) (hH : LeH s.H H) (h : ∀ p ∈ l, AVal.Le (s.sl p.1) p.2 ∧ (s.sl p.1 = .c .any → p.2 = .c .any)) : Weak n0 s (St.of H l) := by
  refine weak_le h0 (by rw [H_of]; exact hH) (fun i => ?_) (fun i hi => ?_)
  · induction l with
    | nil => exact .any _
    | cons a l ih =>
      obtain ⟨d, x⟩ := a
      by_cases e : i = d
      · subst e
        have e1 : (St.of H ((i, x) :: l)).sl i = x := upd_same _ _ _
        rw [e1]; exact (h (i, x) (by simp)).1
      · have e1 : (St.of H ((d, x) :: l)).sl i = (St.of H l).sl i := upd_other _ _ e
        rw [e1]
        exact ih fun p hp => h p (by simp [hp])
  · induction l with
    | nil => rfl
    | cons a l ih =>
      obtain ⟨d, x⟩ := a
      by_cases e : i = d
      · subst e
        have e1 : (St.of H ((i, x) :: l)).sl i = x := upd_same _ _ _
        rw [e1]; exact (h (i, x) (by simp)).2 hi
      · have e1 : (St.of H ((d, x) :: l)).sl i = (St.of H l).sl i := upd_other _ _ e
        rw [e1]
        exact ih fun p hp => h p (by simp [hp])
/-- What is forgotten: all but the slots of a list. -/
theorem weak_of {n0 : Nat} {s : St} {H : HB} {l : List (Nat × AVal)} (h0 : n0 ≤ H.length) (hH : s.H = H) (h : ∀ p ∈ l, s.sl p.1 = p.2) : Weak n0 s (St.of H l) := by
  refine weak_slots (by rw [hH]; exact h0) (by rw [H_of, hH]) fun i => ?_
  induction l with
  | nil => exact .inr rfl
  | cons a l ih =>
    obtain ⟨d, x⟩ := a
    by_cases e : i = d
    · subst e
      left
      show upd (St.of H l).sl i x i = _
      rw [upd_same]
      exact (h (i, x) (by simp)).symm
    · have e1 : (St.of H ((d, x) :: l)).sl i = (St.of H l).sl i := upd_other _ _ e
      rw [e1]
      exact ih fun p hp => h p (by simp [hp])

/-- What a function begins with. -/
def arg0 : Nat → List AVal → List (Nat × AVal)
  | _, [] => []
  | i, x :: l => (i, x) :: arg0 (i + 1) l
theorem arg0_get : ∀ (l : List AVal) (i : Nat) (p : Nat × AVal), p ∈ arg0 i l → i ≤ p.1 ∧ l[p.1 - i]? = some p.2
  | [], i, p, h => by cases h
  | x :: l, i, p, h => by
    rcases List.mem_cons.1 h with rfl | h
    · simp
    · obtain ⟨h1, h2⟩ := arg0_get l (i + 1) p h
      refine ⟨by omega, ?_⟩
      rw [show p.1 - i = (p.1 - (i + 1)) + 1 by omega, List.getElem?_cons_succ]
      exact h2
theorem weak_entry {fn : Func} {args : List AVal} {H : HB} : Weak H.length (entry fn args H) (St.of H (arg0 0 args)) := by
  refine weak_of (Nat.le_refl _) rfl fun p hp => ?_
  obtain ⟨_, h⟩ := arg0_get args 0 p hp
  show args.getD p.1 _ = _
  rw [List.getD_eq_getElem?_getD]
  rw [Nat.sub_zero] at h
  rw [h]; rfl
/-- A function by its walk. -/
theorem ok_fn {P : Program} (hm : P.follows .mixedOrders = true) {f : FuncId} {fn : Func} {c : Code} {args : List AVal} {H H' : HB} {r : AVal} (hf : P.funcs[f]? = some fn) (hb : fn.body = some c) (hn : (fn.name == "runtime.NumGoroutine") = false) (hca : args.length ≤ fn.ntmps) (hcode : codeOk fn.ntmps c = true)
    (hflat : Flat r = true) (hrok : r.ok H'.length = true) (hlen : H.length ≤ H'.length) (hHok : H'.all (okB H'.length) = true) (h : W P (DR P) H.length c (St.of H (arg0 0 args)) (Ret P fn r H')) : Ok P f args H r H' :=
  ok_of_W (DR_sound hm) hf hb hn hca hcode hflat hrok hlen hHok weak_entry h
theorem okP_fn {P : Program} (hm : P.follows .mixedOrders = true) {f : FuncId} {fn : Func} {c : Code} {args : List AVal} {r : AVal} (hf : P.funcs[f]? = some fn) (hb : fn.body = some c) (hn : (fn.name == "runtime.NumGoroutine") = false) (hca : args.length ≤ fn.ntmps) (hcode : codeOk fn.ntmps c = true)
    (hflat : Flat r = true) (hrok : r.ok 0 = true) (h : W P (DR P) 0 c (St.of [] (arg0 0 args)) (RetP P fn r)) : Ok P f args [] r [] :=
  okP_of_W (DR_sound hm) hf hb hn hca hcode hflat hrok (weak_entry (H := [])) h
theorem Ret_i {P : Program} {fn : Func} {r : AVal} {H' : HB} {e : AExit} {s : St} {rs : List ResultVar} {ys : List TVal} (he : (match e with | .exit _ => False | _ => True)) (hr : fn.results.toList = rs) (hy : resL P s rs = some ys) (hp : packT ys = r) (hH : s.H.take H'.length = H') : Ret P fn r H' e s := ⟨he, ys, by rw [hr]; exact hy, hp, hH⟩
theorem RetP_i {P : Program} {fn : Func} {r : AVal} {e : AExit} {s : St} {rs : List ResultVar} {ys : List TVal} (he : (match e with | .exit _ => False | _ => True)) (hr : fn.results.toList = rs) (hy : resL P s rs = some ys) {H0 : HB} (hH : s.H = H0) (hp : packT (ys.map (fzT H0)) = r) : RetP P fn r e s := ⟨he, ys, by rw [hr]; exact hy, by rw [hH]; exact hp⟩
theorem fzC_f {H : HB} {x : FVal} : fzC H (.f x) = .f x := rfl

/-! ### Code -/
section
variable {P : Program} {D : Array Oper → St → (St → Prop) → Prop} {n0 : Nat} {s : St} {K : AExit → St → Prop}
def seqK (P : Program) (D : Array Oper → St → (St → Prop) → Prop) (n0 : Nat) (b : Code) (K : AExit → St → Prop) : AExit → St → Prop := fun e s' => match e with
  | .normal => W P D n0 b s' K ∨ ∃ s2, Weak n0 s' s2 ∧ W P D n0 b s2 K
  | .exit i => K (.exit i) s'
  | .ret => K .ret s'
def blockK (id : Nat) (K : AExit → St → Prop) : AExit → St → Prop := fun e s' => match e with
  | .normal => K .normal s'
  | .exit j => if j = id then K .normal s' else K (.exit j) s'
  | .ret => K .ret s'
def loopK (n0 : Nat) {α : Type} (I : α → St → Prop) (μ : α → Nat) (x : α) (K : AExit → St → Prop) : AExit → St → Prop := fun e s' => match e with
  | .normal => ∃ y s2, Weak n0 s' s2 ∧ I y s2 ∧ μ y < μ x
  | .exit i => K (.exit i) s'
  | .ret => K .ret s'
theorem W_seq {a b : Code} (h : W P D n0 a s (seqK P D n0 b K)) : W P D n0 (.seq a b) s K := h
theorem seqK_n {b : Code} (h : W P D n0 b s K) : seqK P D n0 b K .normal s := .inl h
theorem seqK_w {b : Code} (s2 : St) (hw : Weak n0 s s2) (h : W P D n0 b s2 K) : seqK P D n0 b K .normal s := .inr ⟨s2, hw, h⟩
theorem seqK_e {b : Code} {i : Nat} (h : K (.exit i) s) : seqK P D n0 b K (.exit i) s := h
theorem seqK_r {b : Code} (h : K .ret s) : seqK P D n0 b K .ret s := h
theorem W_block {id : Nat} {c : Code} (h : W P D n0 c s (blockK id K)) : W P D n0 (.block id c) s K := h
theorem blockK_n {id : Nat} (h : K .normal s) : blockK id K .normal s := h
theorem blockK_e {id j : Nat} (e : j = id) (h : K .normal s) : blockK id K (.exit j) s := by subst e; show (if j = j then _ else _); rw [if_pos rfl]; exact h
theorem blockK_o {id j : Nat} (e : j ≠ id) (h : K (.exit j) s) : blockK id K (.exit j) s := by show (if j = id then _ else _); rw [if_neg e]; exact h
theorem blockK_r {id : Nat} (h : K .ret s) : blockK id K .ret s := h
theorem W_skip (h : K .normal s) : W P D n0 .skip s K := h
theorem W_exit {id : Nat} (h : K (.exit id) s) : W P D n0 (.exit id) s K := h
theorem W_ret (h : K .ret s) : W P D n0 .ret s K := h
theorem W_cond {c : Operand} {a b : Code} {t : Bool} (hc : s.ev c = .c (.f (.v (.bool t)))) (h1 : t = true → W P D n0 a s K) (h2 : t = false → W P D n0 b s K) : W P D n0 (.cond c a b) s K := by
  unfold W
  rw [hc]
  cases t with
  | true => exact h1 rfl
  | false => exact h2 rfl
theorem W_loop {c : Code} {α : Type} (I : α → St → Prop) (μ : α → Nat) (x0 : α) (s0 : St) (hw : Weak n0 s s0) (h0 : I x0 s0) (h : ∀ x s1, I x s1 → W P D n0 c s1 (loopK n0 I μ x K)) : W P D n0 (.loop c) s K := ⟨α, I, μ, x0, ⟨s0, hw, h0⟩, h⟩
/-- A loop whose states are known at its head. -/
structure LoopK (n0 : Nat) {α : Type} (st : α → St) (Inv : α → Prop) (μ : α → Nat) (x : α) (K : AExit → St → Prop) (e : AExit) (s' : St) : Prop where
  out : match e with
    | .normal => ∃ y, Weak n0 s' (st y) ∧ Inv y ∧ μ y < μ x
    | .exit i => K (.exit i) s'
    | .ret => K .ret s'
theorem W_mono {K K' : AExit → St → Prop} : ∀ (c : Code) (s : St) (K K' : AExit → St → Prop), (∀ e s, K e s → K' e s) → W P D n0 c s K → (∀ ops s K K', (∀ s, K s → K' s) → D ops s K → D ops s K') → W P D n0 c s K'
  | .skip, s, K, K', h, hh, hD => h _ _ hh
  | .region _ ops false, s, K, K', h, hh, hD => by
    have key : ∀ (l : List Oper) (s : St), WOps P ops l s (K .normal) → WOps P ops l s (K' .normal) := by
      intro l
      induction l with
      | nil => intro s k; exact h _ _ k
      | cons o l ih =>
        intro s k
        exact WOp_mono (fun c' s2 k => ih s2 k) k
    exact key _ _ hh
  | .region _ ops true, s, K, K', h, hh, hD => hD _ _ _ _ (fun s k => h _ _ k) hh
  | .seq a b, s, K, K', h, hh, hD => by
    refine W_mono (K := K) (K' := K') a s _ _ (fun e s k => ?_) hh hD
    cases e with
    | normal =>
      rcases k with k | ⟨s2, hw, k⟩
      · exact .inl (W_mono (K := K) (K' := K') b s _ _ h k hD)
      · exact .inr ⟨s2, hw, W_mono (K := K) (K' := K') b s2 _ _ h k hD⟩
    | exit i => exact h _ _ k
    | ret => exact h _ _ k
  | .cond c a b, s, K, K', h, hh, hD => by
    unfold W at hh
    split at hh
    · rename_i t ht
      refine W_cond ht (fun e => ?_) (fun e => ?_)
      · rw [e, if_pos rfl] at hh; exact W_mono (K := K) (K' := K') a s _ _ h hh hD
      · rw [e, if_neg (by decide)] at hh; exact W_mono (K := K) (K' := K') b s _ _ h hh hD
    · cases hh
  | .block id c, s, K, K', h, hh, hD => by
    refine W_mono (K := K) (K' := K') c s _ _ (fun e s k => ?_) hh hD
    cases e with
    | normal => exact h _ _ k
    | exit i =>
      dsimp only at k ⊢
      split at k
      · rename_i e; rw [if_pos e]; exact h _ _ k
      · rename_i e; rw [if_neg e]; exact h _ _ k
    | ret => exact h _ _ k
  | .loop c, s, K, K', h, hh, hD => by
    obtain ⟨α, I, μ, x0, h0, round⟩ := hh
    refine ⟨α, I, μ, x0, h0, fun x s1 hi => W_mono (K := K) (K' := K') c s1 _ _ (fun e s k => ?_) (round x s1 hi) hD⟩
    cases e with
    | normal => exact k
    | exit i => exact h _ _ k
    | ret => exact h _ _ k
  | .exit id, s, K, K', h, hh, hD => h _ _ hh
  | .ret, s, K, K', h, hh, hD => h _ _ hh
  | .rangeFunc .., _, _, _, _, hh, _ => by cases hh
  | .scope .., _, _, _, _, hh, _ => by cases hh
  | .label .., _, _, _, _, hh, _ => by cases hh
  | .goto .., _, _, _, _, hh, _ => by cases hh
  | .refuse .., _, _, _, _, hh, _ => by cases hh
theorem DR_mono : ∀ ops s (K K' : St → Prop), (∀ s, K s → K' s) → DR P ops s K → DR P ops s K' := by
  intro ops s K K' h hh
  have key : ∀ (l : List Oper) (s : St) (acc : List Cl), WOpsD P ops l s acc K → WOpsD P ops l s acc K' := by
    intro l
    induction l with
    | nil => intro s acc k; exact ⟨k.1, h _ k.2⟩
    | cons o l ih =>
      intro s acc k
      exact WOp_mono (fun c' s2 k => ih s2 _ k) k
  exact key _ _ _ hh
theorem W_loopS {c : Code} {α : Type} (st : α → St) (Inv : α → Prop) (μ : α → Nat) (x0 : α) (hw : Weak n0 s (st x0)) (h0 : Inv x0) (h : ∀ x, Inv x → W P (DR P) n0 c (st x) (LoopK n0 st Inv μ x K)) : W P (DR P) n0 (.loop c) s K := by
  refine W_loop (fun x s1 => Inv x ∧ s1 = st x) μ x0 _ hw ⟨h0, rfl⟩ fun x s1 hi => ?_
  obtain ⟨h1, rfl⟩ := hi
  refine W_mono (K := K) (K' := K) c _ _ _ (fun e s k => ?_) (h x h1) DR_mono
  have k := k.out
  cases e with
  | normal => obtain ⟨y, k1, k2, k3⟩ := k; exact ⟨y, st y, k1, ⟨k2, rfl⟩, k3⟩
  | exit i => exact k
  | ret => exact k
/-- What is said of a state is said of all that say more. -/
def KCl (n0 : Nat) (K : AExit → St → Prop) (e : AExit) : Prop := ∀ s s2, Weak n0 s s2 → K e s2 → K e s
theorem KCl_seq {b : Code} {K : AExit → St → Prop} : KCl n0 (seqK P D n0 b K) .normal := fun s s2 hw hk => by
  rcases hk with hk | ⟨s3, hw3, hk⟩
  · exact .inr ⟨s2, hw, hk⟩
  · exact .inr ⟨s3, ⟨hw3.1, fun a w κ ρ hR => hw3.2 a w κ ρ (hw.2 a w κ ρ hR)⟩, hk⟩
theorem KCl_block {id : Nat} {K : AExit → St → Prop} (h : KCl n0 K .normal) : KCl n0 (blockK id K) (.exit id) := fun s s2 hw hk => by
  have hk : (if id = id then K .normal s2 else K (.exit id) s2) := hk
  rw [if_pos rfl] at hk
  show (if id = id then K .normal s else K (.exit id) s)
  rw [if_pos rfl]
  exact h s s2 hw hk
/-- A loop whose states are known at its head and behind it. -/
structure LoopX (n0 : Nat) {α β : Type} (st : α → St) (Inv : α → Prop) (μ : α → Nat) (x : α) (id : Nat) (stX : β → St) (InvX : β → Prop) (K : AExit → St → Prop) (e : AExit) (s' : St) : Prop where
  out : match e with
    | .normal => ∃ y, Weak n0 s' (st y) ∧ Inv y ∧ μ y < μ x
    | .exit i => (i = id ∧ ∃ y, Weak n0 s' (stX y) ∧ InvX y) ∨ (i ≠ id ∧ K (.exit i) s')
    | .ret => K .ret s'
theorem W_loopX {c : Code} {α β : Type} (st : α → St) (Inv : α → Prop) (μ : α → Nat) (x0 : α) (id : Nat) (stX : β → St) (InvX : β → Prop) (hw : Weak n0 s (st x0)) (h0 : Inv x0) (hK : KCl n0 K (.exit id)) (h : ∀ x, Inv x → W P (DR P) n0 c (st x) (LoopX n0 st Inv μ x id stX InvX K)) (hX : ∀ y, InvX y → K (.exit id) (stX y)) : W P (DR P) n0 (.loop c) s K := by
  refine W_loopS st Inv μ x0 hw h0 fun x hx => W_mono (K := K) (K' := K) c _ _ _ (fun e s k => ?_) (h x hx) DR_mono
  have k := k.out
  cases e with
  | normal => exact ⟨k⟩
  | exit i =>
    rcases k with ⟨rfl, y, k1, k2⟩ | ⟨_, k⟩
    · exact ⟨hK _ _ k1 (hX y k2)⟩
    · exact ⟨k⟩
  | ret => exact ⟨k⟩
theorem LoopX_n {α β : Type} {st : α → St} {Inv : α → Prop} {μ : α → Nat} {x : α} {id : Nat} {stX : β → St} {InvX : β → Prop} (y : α) (hw : Weak n0 s (st y)) (h1 : Inv y) (h2 : μ y < μ x) : LoopX n0 st Inv μ x id stX InvX K .normal s := ⟨y, hw, h1, h2⟩
theorem LoopX_x {α β : Type} {st : α → St} {Inv : α → Prop} {μ : α → Nat} {x : α} {id i : Nat} {stX : β → St} {InvX : β → Prop} (y : β) (e : i = id) (hw : Weak n0 s (stX y)) (h1 : InvX y) : LoopX n0 st Inv μ x id stX InvX K (.exit i) s := ⟨.inl ⟨e, y, hw, h1⟩⟩
theorem LoopX_e {α β : Type} {st : α → St} {Inv : α → Prop} {μ : α → Nat} {x : α} {id i : Nat} {stX : β → St} {InvX : β → Prop} (e : i ≠ id) (h : K (.exit i) s) : LoopX n0 st Inv μ x id stX InvX K (.exit i) s := ⟨.inr ⟨e, h⟩⟩
theorem LoopX_r {α β : Type} {st : α → St} {Inv : α → Prop} {μ : α → Nat} {x : α} {id : Nat} {stX : β → St} {InvX : β → Prop} (h : K .ret s) : LoopX n0 st Inv μ x id stX InvX K .ret s := ⟨h⟩
theorem LoopK_n {α : Type} {st : α → St} {Inv : α → Prop} {μ : α → Nat} {x : α} (y : α) (hw : Weak n0 s (st y)) (h1 : Inv y) (h2 : μ y < μ x) : LoopK n0 st Inv μ x K .normal s := ⟨y, hw, h1, h2⟩
theorem LoopK_e {α : Type} {st : α → St} {Inv : α → Prop} {μ : α → Nat} {x : α} {i : Nat} (h : K (.exit i) s) : LoopK n0 st Inv μ x K (.exit i) s := ⟨h⟩
theorem LoopK_r {α : Type} {st : α → St} {Inv : α → Prop} {μ : α → Nat} {x : α} (h : K .ret s) : LoopK n0 st Inv μ x K .ret s := ⟨h⟩
def Agree (s : St) : List (Nat × AVal) → Prop
  | [] => True
  | (d, x) :: l => s.ev (.tmp d) = x ∧ Agree s l
theorem weak_ag {H : HB} {l : List (Nat × AVal)} (h0 : n0 ≤ H.length) (hH : s.H = H) (h : Agree s l) : Weak n0 s (St.of H l) := by
  refine weak_of h0 hH ?_
  induction l with
  | nil => intro p hp; cases hp
  | cons a l ih =>
    obtain ⟨d, x⟩ := a
    intro p hp
    rcases List.mem_cons.1 hp with rfl | hp
    · exact h.1
    · exact ih h.2 p hp
/-- One slot says less. -/
inductive LeS : AVal → AVal → Prop
  | refl (x : AVal) : LeS x x
  | nil_row : LeS (.c (.f .nils)) (.c (.f (.row [] 0)))
  | nil_tip (sz : Nat) : LeS (.c (.f .nils)) (.c (.tip sz [] 0))
  | tip_row (sz : Nat) (cs : List FVal) (len : Nat) : LeS (.c (.tip sz cs len)) (.c (.f (.row cs len)))
theorem LeS.le {x y : AVal} (h : LeS x y) : AVal.Le x y ∧ (x = .c .any → y = .c .any) := by
  cases h with
  | refl => exact ⟨.refl _, id⟩
  | nil_row => exact ⟨.c .nil_row, fun e => by cases e⟩
  | nil_tip => exact ⟨.c (.nil_tip _), fun e => by cases e⟩
  | tip_row => exact ⟨.c (.tip_row _ _ _), fun e => by cases e⟩
theorem LeS.of_eq {x y : AVal} (h : x = y) : LeS x y := h ▸ .refl x
def AgreeL (s : St) : List (Nat × AVal) → Prop
  | [] => True
  | (d, x) :: l => (∃ y, s.ev (.tmp d) = y ∧ LeS y x) ∧ AgreeL s l
theorem weak_agL {H : HB} {l : List (Nat × AVal)} {H0 : HB} (hH0 : s.H = H0) (h0 : n0 ≤ H0.length) (hH : LeH H0 H) (h : AgreeL s l) : Weak n0 s (St.of H l) := by
  subst hH0
  refine weak_ofL h0 hH ?_
  induction l with
  | nil => intro p hp; cases hp
  | cons a l ih =>
    obtain ⟨d, x⟩ := a
    intro p hp
    rcases List.mem_cons.1 hp with rfl | hp
    · obtain ⟨y, h1, h2⟩ := h.1
      have h1 : s.sl d = y := h1
      rw [h1]
      exact h2.le
    · exact ih h.2 p hp
theorem loopK_n {α : Type} {I : α → St → Prop} {μ : α → Nat} {x : α} (y : α) (s2 : St) (hw : Weak n0 s s2) (h1 : I y s2) (h2 : μ y < μ x) : loopK n0 I μ x K .normal s := ⟨y, s2, hw, h1, h2⟩
theorem loopK_e {α : Type} {I : α → St → Prop} {μ : α → Nat} {x : α} {i : Nat} (h : K (.exit i) s) : loopK n0 I μ x K (.exit i) s := h
theorem loopK_r {α : Type} {I : α → St → Prop} {μ : α → Nat} {x : α} (h : K .ret s) : loopK n0 I μ x K .ret s := h
theorem W_region {id : Nat} {l : List Oper} (h : WOps P l.toArray l s (K .normal)) : W P D n0 (.region id l.toArray false) s K := h
theorem W_draw {id : Nat} {l : List Oper} (h : WOpsD P l.toArray l s [] (K .normal)) : W P (DR P) n0 (.region id l.toArray true) s K := h
end

/-! ### Operations: one rule for both kinds of region -/
section
variable {P : Program} {ops : Array Oper} {s s' : St} {rest : List Oper} {d : Option Tmp} {ty : TypeId} {pos : String} {af : Array Edge} {g : Option (Nat × Bool)}
/-- The rest of a region. -/
inductive Rg where
  | plain (K : St → Prop)
  | drawn (acc : List Cl) (K : St → Prop)
def Rg.push (c : Cl) : Rg → Rg
  | .plain K => .plain K
  | .drawn acc K => .drawn (c :: acc) K
def WR0 (P : Program) (ops : Array Oper) (l : List Oper) (s : St) : Rg → Prop
  | .plain K => WOps P ops l s K
  | .drawn acc K => WOpsD P ops l s acc K
structure WR (P : Program) (ops : Array Oper) (l : List Oper) (s : St) (R : Rg) : Prop where
  out : WR0 P ops l s R
theorem WOps_WR {l : List Oper} {K : St → Prop} (h : WR P ops l s (.plain K)) : WOps P ops l s K := h.out
theorem WOpsD_WR {l : List Oper} {acc : List Cl} {K : St → Prop} (h : WR P ops l s (.drawn acc K)) : WOpsD P ops l s acc K := h.out
theorem WR_pp {l : List Oper} {c : Cl} {K : St → Prop} (h : WR P ops l s (.plain K)) : WR P ops l s ((Rg.plain K).push c) := h
theorem WR_pd {l : List Oper} {c : Cl} {acc : List Cl} {K : St → Prop} (h : WR P ops l s (.drawn (c :: acc) K)) : WR P ops l s ((Rg.drawn acc K).push c) := h
theorem WR_nil {K : St → Prop} (h : K s) : WR P ops [] s (.plain K) := ⟨h⟩
theorem WR_nilD {acc : List Cl} {K : St → Prop} (hc : critB ops acc.reverse = true) (h : K s) : WR P ops [] s (.drawn acc K) := ⟨⟨hc, h⟩⟩
theorem WOps_mono' {o : Oper} {K K' : Cl → St → Prop} (h : ∀ c s, K c s → K' c s) (hh : WOp P ops o s K) : WOp P ops o s K' := WOp_mono h hh
theorem WR_cons {o : Oper} {R : Rg} (h : WOp P ops o s fun c s' => WR P ops rest s' (R.push c)) : WR P ops (o :: rest) s R := by
  refine ⟨?_⟩
  cases R with
  | plain K => exact WOps_mono' (fun c s k => k.out) h
  | drawn acc K => exact WOps_mono' (fun c s k => k.out) h
theorem WOp_true {o : Oper} {K : Cl → St → Prop} {x : AVal} {c : Chg} (hw : wantA ops s o = some true) (hc : callOf o = none) (ha : aop P (feeds ops o) s o = some (x, c)) (h : K (clOf (feeds ops o) s o c) ((s.chg c).put o.dst x)) : WOp P ops o s K := by
  unfold WOp
  rw [hw, hc]
  dsimp only
  rw [if_pos rfl]
  exact .inl ⟨x, c, ha, h⟩
theorem WOp_skip {o : Oper} {K : Cl → St → Prop} (hw : wantA ops s o = some false) (h : K .q0 (s.put o.dst (.c .und))) : WOp P ops o s K := by
  unfold WOp
  rw [hw]
  exact h
/-- An operation that does nothing beside its slot. -/
theorem WR_op {o : Oper} {R : Rg} {x : AVal} {c : Cl} (hw : wantA ops s o = some true) (hc : callOf o = none) (ha : aop P (feeds ops o) s o = some (x, {})) (hcl : clOf (feeds ops o) s o {} = c) (h : WR P ops rest (s.put o.dst x) (R.push c)) : WR P ops (o :: rest) s R :=
  WR_cons (WOp_true hw hc ha (by rw [hcl]; exact h))
theorem WR_chg {o : Oper} {R : Rg} {x : AVal} {c : Chg} {q : Cl} (hw : wantA ops s o = some true) (hc : callOf o = none) (ha : aop P (feeds ops o) s o = some (x, c)) (hcl : clOf (feeds ops o) s o c = q) {s' : St} (hs : (s.chg c).put o.dst x = s') (h : WR P ops rest s' (R.push q)) : WR P ops (o :: rest) s R :=
  WR_cons (WOp_true hw hc ha (by rw [hcl, hs]; exact h))
theorem WR_sem {o : Oper} {R : Rg} {v : Value} (hw : wantA ops s o = some true) (hc : callOf o = none) (hv : RunPlain P s o v) (h : WR P ops rest (s.put o.dst (ofV v)) (R.push .q0)) : WR P ops (o :: rest) s R := by
  refine WR_cons ?_
  unfold WOp
  rw [hw, hc]
  dsimp only
  rw [if_pos rfl]
  exact .inr ⟨v, hv, h⟩
theorem WR_skip {o : Oper} {R : Rg} (hw : wantA ops s o = some false) (h : WR P ops rest (s.put o.dst (.c .und)) (R.push .q0)) : WR P ops (o :: rest) s R :=
  WR_cons (WOp_skip hw h)
theorem WR_pure {o : Oper} {R : Rg} {f : FuncId} {xs : List Operand} {args : List AVal} {r : AVal} (hw : wantA ops s o = some true) (hc : callOf o = some (f, xs)) (ha : (xs.map fun x => (s.ev x).h) = args) (hok : (args.all (AVal.ok 0)) = true) (hO : Ok P f args [] r []) (h : WR P ops rest (s.put o.dst r) (R.push .q0)) : WR P ops (o :: rest) s R := by
  refine WR_cons ?_
  unfold WOp
  rw [hw, hc]
  dsimp only
  rw [if_pos rfl]
  subst ha
  exact .inl ⟨r, by simpa using hok, hO, h⟩
theorem wantA_none {o : Oper} (h : o.guard = none) : wantA ops s o = some true := by unfold wantA; rw [h]
theorem wantA_some {o oj : Oper} {j : Nat} {want b : Bool} {d : Tmp} (h : o.guard = some (j, want)) (h1 : ops[j]? = some oj) (h2 : oj.dst = some d) (h3 : s.ev (.tmp d) = .c (.f (.v (.bool b)))) : wantA ops s o = some (b == want) := by
  unfold wantA; rw [h]; simp only [h1, h2, h3]
theorem wantA_und {o oj : Oper} {j : Nat} {want : Bool} {d : Tmp} (h : o.guard = some (j, want)) (h1 : ops[j]? = some oj) (h2 : oj.dst = some d) (h3 : s.ev (.tmp d) = .c .und) : wantA ops s o = some false := by
  unfold wantA; rw [h]; simp only [h1, h2, h3]
end
end Go.Proofs.Ythnfliopmjpdmaa.Av
