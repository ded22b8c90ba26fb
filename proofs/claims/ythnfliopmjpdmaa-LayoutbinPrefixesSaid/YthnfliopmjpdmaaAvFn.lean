/- The walk over values without addresses: functions and their results. -/
import Derived.Test.YthnfliopmjpdmaaAvW2
namespace Go.Proofs.Ythnfliopmjpdmaa.Av
set_option linter.unusedVariables false
set_option linter.unusedSimpArgs false

/-! ### Forgetting -/
def gcA (n : Nat) (x : AVal) : AVal := if x.ok n then x else .c .any
def gc (n : Nat) (s : St) : St := ⟨fun i => gcA n (s.sl i), s.H.take n⟩
def gcOk (n : Nat) (s : St) : Bool := (s.H.take n).all (okB n)
theorem weak_gc {n0 n : Nat} {s : St} (h0 : n0 ≤ n) (h1 : n ≤ s.H.length) (h : gcOk n s = true) : Weak n0 s (gc n s) := by
  have hlen : (s.H.take n).length = n := by rw [List.length_take]; omega
  refine ⟨by show n0 ≤ (s.H.take n).length; omega, fun a w κ ρ hR => ⟨hR.defers, fun i hi' => ?_, fun i hi => ?_, fun i => ?_, ⟨fun b cs hb => ?_, fun b cs hb x hx => ?_⟩⟩⟩
  · simp only [gc]
    unfold gcA
    split
    · exact hR.slot i hi'
    · trivial
  · simp only [gc, gcA]
    rw [hR.out i hi]
    rfl
  · simp only [gc]
    rw [hlen]
    unfold gcA
    split
    · rename_i hy; exact hy
    · rfl
  · simp only [gc] at hb
    rw [List.getElem?_take] at hb
    split at hb
    · exact hR.heap.blk b cs hb
    · cases hb
  · simp only [gc] at hb ⊢
    rw [hlen]
    have := List.all_eq_true.1 h (some cs) (List.mem_of_getElem? hb)
    exact List.all_eq_true.1 this x hx
/-- Slots are forgotten. -/
theorem weak_slots {n0 : Nat} {s s2 : St} (h0 : n0 ≤ s.H.length) (hH : s2.H = s.H) (h : ∀ i, s2.sl i = s.sl i ∨ s2.sl i = .c .any) : Weak n0 s s2 := by
  refine ⟨by rw [hH]; exact h0, fun a w κ ρ hR => ⟨hR.defers, fun i hi' => ?_, fun i hi => ?_, fun i => ?_, by rw [hH]; exact hR.heap⟩⟩
  · rcases h i with e | e
    · rw [e]; exact hR.slot i hi'
    · rw [e]; trivial
  · rcases h i with e | e
    · rw [e]; exact hR.out i hi
    · exact e
  · rw [hH]
    rcases h i with e | e
    · rw [e]; exact hR.ok i
    · rw [e]; rfl

/-! ### Results -/
def AVal.t : AVal → Option TVal
  | .c x => some (.c x)
  | .agg cs => some (.agg cs)
  | .tup _ => none
theorem AVal.t_rep {w : World} {κ : Nat → BK} {ρ : Nat → Nat} {l : Loc} {x : AVal} {y : TVal} {v : Value} (h : RepA w κ ρ l x.dem v) (e : x.dem.t = some y) : RepT w κ ρ l y v := by
  cases x with
  | c x => injection e with e; subst e; exact ⟨CVal.dem_flat x, h⟩
  | agg cs => injection e with e; subst e; exact h
  | tup ts => cases e
theorem aLoad_still {P : Program} {s : St} {t : TypeId} {x : Operand} {r : AVal} {ch : Chg} (h : aLoad P false s t x = some (r, ch)) {a : Act} {w : World} {κ : Nat → BK} {ρ : Nat → Nat} (hR : Rel s a w κ ρ) :
    ∃ p v, a.eval x = .pointer (some p) ∧ (loadVar t p).run P w = .ok v w ∧ (∀ l, RepA w κ ρ l r v) ∧ r.ok s.H.length = true ∧ r.dem = r := by
  have key : ∀ {p v}, (Instr.loadAt t (.pointer (some p))).run P w = .ok v w → (loadVar t p).run P w = .ok v w := fun {p v} hh => by
    simpa [Instr.loadAt, Instr.sureAddr] using hh
  unfold aLoad at h
  split at h
  · rename_i n cs off ht he
    split at h
    · rename_i y hy
      injection h with h; injection h with h1 h2; subst h1; subst h2
      obtain ⟨g, oo, hv, hrow⟩ := hR.at_ip he
      obtain ⟨hi, hyy⟩ := List.getElem?_eq_some_iff.1 hy
      obtain ⟨v, hc, hr⟩ := hrow.cell off hi
      rw [hyy] at hr
      exact ⟨_, v, hv, key (run_loadAt_one w g (oo + off) t ht hc), fun l => hr, rfl, rfl⟩
    · cases h
  · rename_i n cs off ht he
    split at h
    · rename_i hn
      injection h with h; injection h with h1 h2; subst h1; subst h2
      obtain ⟨g, oo, hv, hrow⟩ := hR.at_ip he
      obtain ⟨vs, hl, hra, hre⟩ := hrow.part off n hn
      refine ⟨_, .agg vs.toArray, hv, key (run_loadAt_row w g (oo + off) t ht hl hra), fun l => ⟨vs.toArray, rfl, by simp; omega, fun i hi hi' => ?_⟩, ok_take_f _ _ _ _, rfl⟩
      have hi2 : i < n := by simp at hi; omega
      refine ⟨by rw [List.getElem_map]; rfl, ?_⟩
      have := hre i hi2 (by omega)
      simp only [List.getElem_map, List.getElem_take, List.getElem_drop]
      exact this
    · cases h
  · rename_i n b off ht he
    split at h
    · rename_i cells hb
      split at h
      · rename_i y hy
        obtain ⟨hi, hyy⟩ := List.getElem?_eq_some_iff.1 hy
        split at h
        · rename_i heq; cases heq
        · injection h with h; injection h with h1 h2; subst h1; subst h2
          obtain ⟨v, hc, hr⟩ := (hR.heap.blk b cells hb).cell off hi
          rw [hyy] at hr
          exact ⟨_, v, hR.at_ptr he, key (run_loadAt_one w _ off t ht hc), fun l => RepC.dem hr, CVal.dem_ok _ (hyy ▸ heap_ok hR.heap hb off hi), by show AVal.c (CVal.dem _) = _; rw [CVal.flat_dem (CVal.dem_flat _)]⟩
      · cases h
    · cases h
  · rename_i n b off ht he
    split at h
    · rename_i cells hb
      split at h
      · rename_i hn
        injection h with h; injection h with h1 h2; subst h1; subst h2
        obtain ⟨vs, hl, hra, hre⟩ := (hR.heap.blk b cells hb).part off n hn
        refine ⟨_, .agg vs.toArray, hR.at_ptr he, key (run_loadAt_row w _ off t ht hl hra), fun l => ⟨vs.toArray, rfl, by simp; omega, fun i hi hi' => ?_⟩, ?_, rfl⟩
        · have hi2 : i < n := by simp at hi; omega
          refine ⟨by rw [List.getElem_map]; exact CVal.dem_flat _, ?_⟩
          have := hre i hi2 (by omega)
          simp only [List.getElem_map, List.getElem_take, List.getElem_drop]
          exact RepC.dem this
        · simp only [AVal.ok, List.all_eq_true]
          intro y hy
          obtain ⟨z, hz, rfl⟩ := List.mem_map.1 hy
          exact CVal.dem_ok _ (hR.heap.ok b cells hb z (List.mem_of_mem_drop (List.mem_of_mem_take hz)))
      · cases h
    · cases h
  · cases h
def res1 (P : Program) (s : St) : ResultVar → Option TVal
  | .tmp t => ((s.ev (.tmp t)).dem.t).map TVal.nz
  | .cell x t => match aLoad P false s t (.tmp x) with
    | some (y, _) => y.t.map TVal.nz
    | none => none
def resL (P : Program) (s : St) : List ResultVar → Option (List TVal)
  | [] => some []
  | x :: r => match res1 P s x, resL P s r with
    | some y, some ys => some (y :: ys)
    | _, _ => none
def packT : List TVal → AVal
  | [x] => x.a
  | l => .tup l
theorem TVal.ok_a {n : Nat} {y : TVal} : y.a.ok n = y.ok n := by cases y <;> rfl
theorem t_ok {n : Nat} {x : AVal} {y : TVal} (h : x.ok n = true) (e : x.t = some y) : y.ok n = true := by
  cases x with
  | c x => injection e with e; subst e; exact h
  | agg cs => injection e with e; subst e; exact h
  | tup ts => cases e
/-- What a result's variable is read by. -/
def resS (tmps : Array Value) : ResultVar → Sem Value
  | .tmp t => pure (tmps.getD t undef)
  | .cell a t => do loadVar t (← asAddr (tmps.getD a undef))
theorem results_eq (fn : Func) (tmps : Array Value) : results fn tmps = (fn.results.mapM (resS tmps) >>= fun vs => pure (if h : vs.size = 1 then vs[0] else .tuple vs)) := by
  unfold results
  congr 1
theorem res1_run {P : Program} {s : St} {a : Act} {w : World} {κ : Nat → BK} {ρ : Nat → Nat} (hR : Rel s a w κ ρ) (x : ResultVar) {y : TVal} (h : res1 P s x = some y) :
    ∃ v, (resS a.tmps x).run P w = .ok v w ∧ (∀ l, RepT w κ ρ l y v) ∧ y.ok s.H.length = true := by
  cases x with
  | tmp t =>
    simp only [res1, Option.map_eq_some_iff] at h
    obtain ⟨y0, h, rfl⟩ := h
    exact ⟨a.tmps.getD t undef, rfl, fun l => (AVal.t_rep (hR.ev (l := l) (.tmp t)) h).nz, by rw [TVal.nz_ok]; exact t_ok (AVal.dem_ok _ (hR.ev_ok (.tmp t))) h⟩
  | cell x t =>
    simp only [res1] at h
    split at h
    · rename_i z ch hz
      obtain ⟨p, v, h1, h2, h3, h4, h5⟩ := aLoad_still hz hR
      have h1' : a.tmps.getD x undef = .pointer (some p) := h1
      simp only [Option.map_eq_some_iff] at h
      obtain ⟨y0, h, rfl⟩ := h
      refine ⟨v, by simp [resS, h1', asAddr, h2], fun l => ?_, by rw [TVal.nz_ok]; exact t_ok h4 h⟩
      have := h3 l
      rw [← h5] at this h
      exact (AVal.t_rep this h).nz
    · cases h
theorem resL_run {P : Program} {s : St} {a : Act} {w : World} {κ : Nat → BK} {ρ : Nat → Nat} (hR : Rel s a w κ ρ) : ∀ (l : List ResultVar) (ys : List TVal), resL P s l = some ys →
    ∃ vs : List Value, (l.mapM (resS a.tmps)).run P w = .ok vs w ∧ vs.length = ys.length ∧ (∀ i (h : i < ys.length) (h' : i < vs.length) l, RepT w κ ρ l ys[i] vs[i]) ∧ ∀ y ∈ ys, y.ok s.H.length = true
  | [], ys, h => by injection h with h; subst h; exact ⟨[], by simp, rfl, fun i h => by simp at h, fun y hy => by cases hy⟩
  | x :: r, ys, h => by
    unfold resL at h
    split at h
    · rename_i y zs h1 h2
      injection h with h; subst h
      obtain ⟨v, k1, k2, k3⟩ := res1_run hR x h1
      obtain ⟨vs, j1, j2, j3, j4⟩ := resL_run hR r zs h2
      refine ⟨v :: vs, ?_, by simp [j2], fun i hi hi' l => ?_, fun z hz => ?_⟩
      · rw [List.mapM_cons]
        simp only [Sem.run_bind, Sem.run_pure]
        rw [k1]
        simp only [Result.andThen_ok]
        rw [j1]
        rfl
      · cases i with
        | zero => exact k2 l
        | succ i => exact j3 i (by simpa using hi) (by simpa using hi') l
      · rcases List.mem_cons.1 hz with rfl | hz
        · exact k3
        · exact j4 z hz
    · cases h
theorem results_run {P : Program} {fn : Func} {s : St} {a : Act} {w : World} {κ : Nat → BK} {ρ : Nat → Nat} (hR : Rel s a w κ ρ) {ys : List TVal} (h : resL P s fn.results.toList = some ys) :
    ∃ v vs, (results fn a.tmps).run P w = .ok v w ∧ v = (if h : vs.size = 1 then vs[0] else .tuple vs) ∧ vs.size = ys.length ∧ (∀ i (h : i < ys.length) (h' : i < vs.size) l, RepT w κ ρ l ys[i] vs[i]) ∧ ∀ y ∈ ys, y.ok s.H.length = true := by
  obtain ⟨vs, h1, h2, h3, h4⟩ := resL_run hR _ _ h
  refine ⟨_, vs.toArray, ?_, rfl, by simpa using h2, fun i hi hi' l => by simpa using h3 i hi (by simpa using hi') l, h4⟩
  rw [results_eq, Array.mapM_eq_mapM_toList]
  simp only [Sem.run_bind, Sem.run_map, h1, Result.andThen_ok, Sem.run_pure]
theorem pack_rep {w : World} {κ : Nat → BK} {ρ : Nat → Nat} {ys : List TVal} {vs : Array Value} (h1 : vs.size = ys.length) (h2 : ∀ i (h : i < ys.length) (h' : i < vs.size) l, RepT w κ ρ l ys[i] vs[i]) (l : Loc) : RepA w κ ρ l (packT ys) (if h : vs.size = 1 then vs[0] else .tuple vs) := by
  unfold packT
  split
  · rename_i y
    have hs : vs.size = 1 := by simpa using h1
    rw [dif_pos hs]
    exact (h2 0 (by simp) (by omega) l).a
  · rename_i hne
    have hs : ¬ vs.size = 1 := fun hs => by
      rw [h1] at hs
      match ys, hs with
      | [y], _ => exact hne y rfl
    rw [dif_neg hs]
    exact ⟨vs, rfl, h1, fun i hi hi' => h2 i hi hi' l⟩
theorem pack_ok {n : Nat} {ys : List TVal} (h : ∀ y ∈ ys, y.ok n = true) : (packT ys).ok n = true := by
  unfold packT
  split
  · rename_i y; rw [TVal.ok_a]; exact h y (by simp)
  · exact List.all_eq_true.2 h

/-! ### Functions -/
/-- The state at a function's head. -/
def entry (fn : Func) (args : List AVal) (H : List (Option (List CVal))) : St := ⟨fun i => args.getD i (if i < fn.ntmps then .c .und else .c .any), H⟩
def FlatT : TVal → Bool
  | .c x => x.flat
  | .agg _ => true
def Flat : AVal → Bool
  | .c x => x.flat
  | _ => true
theorem flat_dem {x : AVal} (h : Flat x = true) : x.dem = x := by
  cases x with
  | c x => show AVal.c (CVal.dem _) = _; rw [CVal.flat_dem h]
  | agg cs => rfl
  | tup ts => rfl
/-- It returns r, and its blocks are H'. -/
def Ret (P : Program) (fn : Func) (r : AVal) (H' : List (Option (List CVal))) (e : AExit) (s : St) : Prop :=
  (match e with | .exit _ => False | _ => True) ∧ ∃ ys, resL P s fn.results.toList = some ys ∧ packT ys = r ∧ s.H.take H'.length = H'
theorem entry_rel {fn : Func} {args : List AVal} {H : List (Option (List CVal))} {w : World} {κ : Nat → BK} {ρ : Nat → Nat} {vals : Array Value} (hn : args.length ≤ fn.ntmps) (hs : vals.size = args.length) (hr : ∀ i (h : i < args.length) (h' : i < vals.size) l, RepA w κ ρ l args[i] vals[i]) (hok : ∀ x ∈ args, x.ok H.length = true) (hH : RelH H w κ ρ) :
    Rel (entry fn args H) { tmps := vals ++ Array.replicate (fn.ntmps - vals.size) undef, defers := [] } w κ ρ := by
  have hsz : (vals ++ Array.replicate (fn.ntmps - vals.size) undef).size = fn.ntmps := by simp; omega
  refine ⟨rfl, fun i hi' => ?_, fun i hi => ?_, fun i => ?_, hH⟩
  · have hi2 : i < fn.ntmps := by rw [← hsz]; exact hi'
    simp only [entry]
    rcases Nat.lt_or_ge i args.length with hlt | hge
    · rw [List.getD_eq_getElem?_getD, List.getElem?_eq_getElem hlt, Array.getElem_append_left (by omega)]
      exact hr i hlt (by omega) _
    · rw [List.getD_eq_getElem?_getD, List.getElem?_eq_none hge, Array.getElem_append_right (by omega), if_pos hi2]
      simp only [Array.getElem_replicate]
      rfl
  · have hi2 : fn.ntmps ≤ i := by rw [← hsz]; exact hi
    simp only [entry]
    rw [List.getD_eq_getElem?_getD, List.getElem?_eq_none (by omega), if_neg (by omega)]
    rfl
  · simp only [entry]
    rcases Nat.lt_or_ge i args.length with hlt | hge
    · rw [List.getD_eq_getElem?_getD, List.getElem?_eq_getElem hlt]
      exact hok _ (List.getElem_mem hlt)
    · rw [List.getD_eq_getElem?_getD, List.getElem?_eq_none hge]
      simp only [Option.getD_none]
      split <;> rfl
theorem entry_size {fn : Func} {args : List AVal} {vals : Array Value} (hn : args.length ≤ fn.ntmps) (hs : vals.size = args.length) : (vals ++ Array.replicate (fn.ntmps - vals.size) undef).size = fn.ntmps := by simp; omega
theorem ok_of_W {P : Program} {D : Array Oper → St → (St → Prop) → Prop} (hD : DSound P D) {f : FuncId} {fn : Func} {c : Code} {args : List AVal} {H H' : List (Option (List CVal))} {r : AVal} (hf : P.funcs[f]? = some fn) (hb : fn.body = some c) (hn : (fn.name == "runtime.NumGoroutine") = false) (hca : args.length ≤ fn.ntmps) (hcode : codeOk fn.ntmps c = true)
    (hflat : Flat r = true) (hrok : r.ok H'.length = true) (hlen : H.length ≤ H'.length) (hHok : H'.all (okB H'.length) = true) {s0 : St} (hs0 : Weak H.length (entry fn args H) s0) (h : W P D H.length c s0 (Ret P fn r H')) : Ok P f args H r H' := by
  refine ⟨⟨fn, hf, by rw [hb]; rfl, hn⟩, flat_dem hflat, hrok, hlen, fun w κ ρ vals hs hr hok hH => ?_⟩
  refine calls_of_wp hf hb (wp_mono (W_sound (N := fn.ntmps) hD c _ _ _ w κ ρ hcode h ⟨hs0.2 _ _ _ _ (entry_rel hca hs hr hok hH), Fr.refl _ _, fun _ _ => rfl, hs0.1, entry_size hca hs⟩) fun e a' w' hq => ?_)
  have key : ∀ {ex : AExit} {s : St} {κ' : Nat → BK} {ρ' : Nat → Nat}, Ret P fn r H' ex s → In fn.ntmps H.length w κ ρ s a' w' κ' ρ' → a'.defers = [] ∧ ∃ v, (results fn a'.tmps).run P w' = .ok v w' ∧ ∃ v' κ'' ρ'', Ending.returned v = .returned v' ∧ (∀ l, RepA w' κ'' ρ'' l r v') ∧ RelH H' w' κ'' ρ'' ∧ Fr w κ w' κ'' ∧ ∀ b, b < H.length → ρ'' b = ρ b := by
    rintro ex s κ' ρ' ⟨_, ys, h1, h2, h3⟩ hI
    obtain ⟨v, vs, k1, k2, k3, k4, k5⟩ := results_run hI.rel h1
    refine ⟨hI.rel.defers, v, k1, v, κ', ρ', rfl, fun l => ?_, ⟨fun b cs hb' => ?_, fun b cs hb' x hx => ?_⟩, hI.fr, hI.rho⟩
    · rw [k2, ← h2]; exact pack_rep k3 k4 l
    · rw [← h3, List.getElem?_take] at hb'
      split at hb'
      · exact hI.rel.heap.blk b cs hb'
      · cases hb'
    · have := List.all_eq_true.1 hHok (some cs) (List.mem_of_getElem? hb')
      exact List.all_eq_true.1 this x hx
  cases e with
  | normal => obtain ⟨s, κ', ρ', hk, hI⟩ := hq; exact key hk hI
  | ret => obtain ⟨s, κ', ρ', hk, hI⟩ := hq; exact key hk hI
  | exit id => obtain ⟨s, κ', ρ', hk, hI⟩ := hq; exact hk.1.elim
  | goto l => exact hq
  | panic ch => exact False.elim hq
  | outgrown => exact False.elim hq

/-! ### Functions that keep nothing: what they made is data from then on -/
def fzC (H : List (Option (List CVal))) : CVal → CVal
  | .arr b off len cap => match H[b]? with
    | some (some cells) => if len = cap then
        match fzs (cells.drop off) with
        | some fs => .f (.row fs len)
        | none => .any
      else .any
    | _ => .any
  | x => x
def fzT (H : List (Option (List CVal))) : TVal → TVal
  | .c x => .c (fzC H x)
  | .agg cs => .agg (cs.map (fzC H))
def RetP (P : Program) (fn : Func) (r : AVal) (e : AExit) (s : St) : Prop :=
  (match e with | .exit _ => False | _ => True) ∧ ∃ ys, resL P s fn.results.toList = some ys ∧ packT (ys.map (fzT s.H)) = r
def frozenK (κ : Nat → BK) (g : Nat) : BK :=
  match κ g with
  | .wr _ => .lock none
  | k => k
theorem fzC_flat {H : List (Option (List CVal))} {x : CVal} (h : x.flat = true) : (fzC H x).flat = true := by
  unfold fzC
  split
  · split
    · split
      · split <;> rfl
      · rfl
    · rfl
  · exact h
theorem fzC_rep {s : St} {a : Act} {w : World} {κ : Nat → BK} {ρ : Nat → Nat} (hR : Rel s a w κ ρ) {l : Loc} {x : CVal} {v : Value} (hx : x.flat = true) (hok : x.ok s.H.length = true) (h : RepC w κ ρ l x v) : RepC w (frozenK κ) ρ l (fzC s.H x) v := by
  have hg : Grow w κ w (frozenK κ) := grow_fits fun g n hf => by
    unfold frozenK
    split
    · trivial
    · exact hf
  have keep : RepC w (frozenK κ) ρ l x v := RepC.keep (n := s.H.length) hg (fun _ _ => rfl) hok (fun _ _ _ e => by rw [e] at hx; cases hx) h
  unfold fzC
  split
  · rename_i b off len cap
    split
    · rename_i cells hb
      split
      · rename_i hlc
        split
        · rename_i fs hfs
          have hB := hR.heap.blk b cells hb
          obtain ⟨f1, f2⟩ := fzs_rep _ fs hfs
          have hv : v = .slice (some ⟨ρ b, off, none⟩) len cap := h
          rw [hv]
          refine repF_rowI ⟨ρ b, off, cap, rfl, by omega, ⟨fun i hi => ?_, fun hne => ⟨?_, ?_⟩⟩⟩
          · have hi2 : off + i < cells.length := by rw [f1, List.length_drop] at hi; omega
            obtain ⟨u, hu1, hu2⟩ := hB.cell (off + i) hi2
            refine ⟨u, hu1, ?_⟩
            have := f2 i (by rw [← f1]; exact hi) hi
            rw [List.getElem_drop] at this
            exact (CVal.fz_rep hu2 this).grow hg
          · obtain ⟨c, e, h1, _⟩ := hB.lie
            exact lt_of_heap h1
          · unfold frozenK; rw [hB.own]; trivial
        · trivial
      · trivial
    · trivial
  · exact keep
theorem fzT_rep {s : St} {a : Act} {w : World} {κ : Nat → BK} {ρ : Nat → Nat} (hR : Rel s a w κ ρ) {l : Loc} {x : TVal} {v : Value} (hok : x.ok s.H.length = true) (h : RepT w κ ρ l x v) : RepT w (frozenK κ) ρ l (fzT s.H x) v := by
  cases x with
  | c x => exact ⟨fzC_flat h.1, fzC_rep hR h.1 hok h.2⟩
  | agg cs =>
    obtain ⟨vs, rfl, hs, hr⟩ := h
    refine ⟨vs, rfl, by simpa using hs, fun i hi hi' => ?_⟩
    have hi2 : i < cs.length := by simpa using hi
    rw [List.getElem_map]
    exact ⟨fzC_flat (hr i hi2 hi').1, fzC_rep hR (hr i hi2 hi').1 (List.all_eq_true.1 hok _ (List.getElem_mem hi2)) (hr i hi2 hi').2⟩
theorem okP_of_W {P : Program} {D : Array Oper → St → (St → Prop) → Prop} (hD : DSound P D) {f : FuncId} {fn : Func} {c : Code} {args : List AVal} {r : AVal} (hf : P.funcs[f]? = some fn) (hb : fn.body = some c) (hn : (fn.name == "runtime.NumGoroutine") = false) (hca : args.length ≤ fn.ntmps) (hcode : codeOk fn.ntmps c = true)
    (hflat : Flat r = true) (hrok : r.ok 0 = true) {s0 : St} (hs0 : Weak 0 (entry fn args []) s0) (h : W P D 0 c s0 (RetP P fn r)) : Ok P f args [] r [] := by
  refine ⟨⟨fn, hf, by rw [hb]; rfl, hn⟩, flat_dem hflat, hrok, Nat.le_refl _, fun w κ ρ vals hs hr hok hH => ?_⟩
  refine calls_of_wp hf hb (wp_mono (W_sound (N := fn.ntmps) hD c _ _ _ w κ ρ hcode h ⟨hs0.2 _ _ _ _ (entry_rel hca hs hr hok hH), Fr.refl _ _, fun _ _ => rfl, hs0.1, entry_size hca hs⟩) fun e a' w' hq => ?_)
  have key : ∀ {ex : AExit} {s : St} {κ' : Nat → BK} {ρ' : Nat → Nat}, RetP P fn r ex s → In fn.ntmps 0 w κ ρ s a' w' κ' ρ' → a'.defers = [] ∧ ∃ v, (results fn a'.tmps).run P w' = .ok v w' ∧ ∃ v' κ'' ρ'', Ending.returned v = .returned v' ∧ (∀ l, RepA w' κ'' ρ'' l r v') ∧ RelH [] w' κ'' ρ'' ∧ Fr w κ w' κ'' ∧ ∀ b, b < 0 → ρ'' b = ρ b := by
    rintro ex s κ' ρ' ⟨_, ys, h1, h2⟩ hI
    obtain ⟨v, vs, k1, k2, k3, k4, k5⟩ := results_run hI.rel h1
    have hg : Grow w' κ' w' (frozenK κ') := grow_fits fun g n hf => by
      unfold frozenK
      split
      · trivial
      · exact hf
    refine ⟨hI.rel.defers, v, k1, v, frozenK κ', ρ', rfl, fun l => ?_, ⟨fun b cs h => by simp at h, fun b cs h => by simp at h⟩, hI.fr.trans ⟨rfl, rfl, rfl, Nat.le_refl _, fun g n _ hl => ⟨by unfold frozenK; rw [hl], rfl⟩, hg⟩, fun b hb => by omega⟩
    rw [k2, ← h2]
    refine pack_rep (by simpa using k3) (fun i hi hi' l => ?_) l
    have hi2 : i < ys.length := by simpa using hi
    rw [List.getElem_map]
    exact fzT_rep hI.rel (k5 _ (List.getElem_mem hi2)) (k4 i hi2 hi' l)
  cases e with
  | normal => obtain ⟨s, κ', ρ', hk, hI⟩ := hq; exact key hk hI
  | ret => obtain ⟨s, κ', ρ', hk, hI⟩ := hq; exact key hk hI
  | exit id => obtain ⟨s, κ', ρ', hk, hI⟩ := hq; exact hk.1.elim
  | goto l => exact hq
  | panic ch => exact False.elim hq
  | outgrown => exact False.elim hq

/-! ### A state that says less -/
inductive CVal.Le : CVal → CVal → Prop
  | refl (x : CVal) : Le x x
  | any (x : CVal) : Le x .any
  | nil_row : Le (.f .nils) (.f (.row [] 0))
  | nil_tip (sz : Nat) : Le (.f .nils) (.tip sz [] 0)
  | tip_row (sz : Nat) (cs : List FVal) (len : Nat) : Le (.tip sz cs len) (.f (.row cs len))
theorem CVal.Le.rep {x y : CVal} (h : CVal.Le x y) {w : World} {κ : Nat → BK} {ρ : Nat → Nat} {l : Loc} {v : Value} (hx : RepC w κ ρ l x v) : RepC w κ ρ l y v := by
  cases h with
  | refl => exact hx
  | any => trivial
  | nil_row => exact RepC.nz (x := .f .nils) hx
  | nil_tip sz => exact .inr ⟨rfl, rfl, repF_nils.1 hx⟩
  | tip_row sz cs len => exact RepC.dem (x := .tip sz cs len) hx
theorem CVal.Le.ok {x y : CVal} (h : CVal.Le x y) {n : Nat} (hx : x.ok n = true) : y.ok n = true := by
  cases h with
  | refl => exact hx
  | _ => rfl
inductive LeL : List CVal → List CVal → Prop
  | nil : LeL [] []
  | cons {x y : CVal} {l m : List CVal} (h : CVal.Le x y) (t : LeL l m) : LeL (x :: l) (y :: m)
theorem LeL.refl : ∀ l, LeL l l
  | [] => .nil
  | x :: l => .cons (.refl x) (LeL.refl l)
theorem LeL.get : ∀ {l m : List CVal}, LeL l m → l.length = m.length ∧ ∀ i (h : i < l.length) (h' : i < m.length), CVal.Le l[i] m[i]
  | _, _, .nil => ⟨rfl, fun i h => by simp at h⟩
  | _, _, .cons h t => ⟨by simp [(LeL.get t).1], fun i hi hi' => by
    cases i with
    | zero => exact h
    | succ i => exact (LeL.get t).2 i (by simpa using hi) (by simpa using hi')⟩
inductive LeH : List (Option (List CVal)) → List (Option (List CVal)) → Prop
  | nil : LeH [] []
  | none {x : Option (List CVal)} {l m : List (Option (List CVal))} (t : LeH l m) : LeH (x :: l) (Option.none :: m)
  | some {x y : List CVal} {l m : List (Option (List CVal))} (h : LeL x y) (t : LeH l m) : LeH (Option.some x :: l) (Option.some y :: m)
theorem LeH.refl : ∀ l, LeH l l
  | [] => .nil
  | Option.none :: l => .none (LeH.refl l)
  | Option.some x :: l => .some (LeL.refl x) (LeH.refl l)
theorem LeH.get : ∀ {l m : List (Option (List CVal))}, LeH l m → l.length = m.length ∧ ∀ (b : Nat) (cs : List CVal), m[b]? = Option.some (Option.some cs) → ∃ ds, l[b]? = Option.some (Option.some ds) ∧ LeL ds cs
  | _, _, .nil => ⟨rfl, fun b cs h => by simp at h⟩
  | _, _, .none t => ⟨by simp [(LeH.get t).1], fun b cs h => by
    cases b with
    | zero => simp at h
    | succ b => exact (LeH.get t).2 b cs (by simpa using h)⟩
  | _, _, .some hh t => ⟨by simp [(LeH.get t).1], fun b cs h => by
    cases b with
    | zero => simp at h; subst h; exact ⟨_, rfl, hh⟩
    | succ b => exact (LeH.get t).2 b cs (by simpa using h)⟩
inductive AVal.Le : AVal → AVal → Prop
  | refl (x : AVal) : Le x x
  | any (x : AVal) : Le x (.c .any)
  | c {x y : CVal} (h : CVal.Le x y) : Le (.c x) (.c y)
theorem AVal.Le.rep {x y : AVal} (h : AVal.Le x y) {w : World} {κ : Nat → BK} {ρ : Nat → Nat} {l : Loc} {v : Value} (hx : RepA w κ ρ l x v) : RepA w κ ρ l y v := by
  cases h with
  | refl => exact hx
  | any => trivial
  | c h => exact CVal.Le.rep h hx
theorem AVal.Le.ok {x y : AVal} (h : AVal.Le x y) {n : Nat} (hx : x.ok n = true) : y.ok n = true := by
  cases h with
  | refl => exact hx
  | any => rfl
  | c h => exact CVal.Le.ok h hx
theorem weak_le {n0 : Nat} {s s2 : St} (h0 : n0 ≤ s.H.length) (hH : LeH s.H s2.H) (h : ∀ i, AVal.Le (s.sl i) (s2.sl i)) (ho : ∀ i, s.sl i = .c .any → s2.sl i = .c .any) : Weak n0 s s2 := by
  obtain ⟨hl, hg⟩ := hH.get
  refine ⟨by rw [← hl]; exact h0, fun a w κ ρ hR => ⟨hR.defers, fun i hi' => (h i).rep (hR.slot i hi'), fun i hi => ho i (hR.out i hi), fun i => by rw [← hl]; exact (h i).ok (hR.ok i), ⟨fun b cs hb => ?_, fun b cs hb x hx => ?_⟩⟩⟩
  · obtain ⟨ds, h1, h2⟩ := hg b cs hb
    obtain ⟨k1, k2⟩ := h2.get
    obtain ⟨ho, c, e, b1, b2, b3⟩ := hR.heap.blk b ds h1
    exact ⟨ho, c, e, b1, by omega, fun i hi hi' => (k2 i (by omega) hi).rep (b3 i (by omega) hi')⟩
  · obtain ⟨ds, h1, h2⟩ := hg b cs hb
    obtain ⟨k1, k2⟩ := h2.get
    obtain ⟨i, hi, rfl⟩ := List.mem_iff_getElem.1 hx
    rw [← hl]
    exact (k2 i (by omega) hi).ok (hR.heap.ok b ds h1 _ (List.getElem_mem (by omega)))
end Go.Proofs.Ythnfliopmjpdmaa.Av
