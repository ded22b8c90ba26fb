/- The walk over values without addresses: operations, calls, regions in the text's order, code. -/
import Derived.Test.YthnfliopmjpdmaaAvOp5
namespace Go.Proofs.Ythnfliopmjpdmaa.Av
set_option linter.unusedVariables false
set_option linter.unusedSimpArgs false

/-! ### One operation -/
def aCall (P : Program) (s : St) (o : Oper) (c : Call) : Option (AVal × Chg) :=
  match c.callee, c.args.toList, c.argTypes.toList with
  | .builtin .len, [x], [t] => aLen P s o t x
  | .builtin .append, [x, y], [t, tx] => aAppend P s t tx x y
  | _, _, _ => aPlain P s o
def aop (P : Program) (tr : Bool) (s : St) (o : Oper) : Option (AVal × Chg) :=
  match o.op with
  | .move x => some (aMove tr s x)
  | .assign x => some (aMove true s x)
  | .pick c x y => aPick s c x y
  | .alloc t => aAlloc P s t
  | .box _ x => aBox s x
  | .load t x => aLoad P tr s t x
  | .store t x y => aStore P s t x y
  | .fieldAddr t x f => aFieldAddr P s t x f
  | .indexAddr t x i => aIndexAddr P s t x i
  | .nilCheck x => aNil s x
  | .extract x i => aExtract s x i
  | .field t x f => aField P s t x f
  | .index t x i => aIndex P s o t x i
  | .build t ps => aBuild P s t ps.toList
  | .buildSlice t n ps => aBuildSlice P s t n ps.toList
  | .makeSlice t l c => aMake P s t l c
  | .slice t x lo hi mx => aSlice P s o t x lo hi mx
  | .convert t u x => aConvert P s o t u x
  | .call c => aCall P s o c
  | _ => aPlain P s o
theorem call_eta (c : Call) {b : Builtin} {xs : List Operand} {ts : List TypeId} (h1 : c.callee = .builtin b) (h2 : c.args.toList = xs) (h3 : c.argTypes.toList = ts) : c = { callee := .builtin b, args := xs.toArray, argTypes := ts.toArray } := by
  obtain ⟨a1, a2, a3⟩ := c
  simp only at h1 h2 h3
  subst h1; subst h2; subst h3
  simp
theorem aop_sim {P : Program} {tr : Bool} {s : St} {o : Oper} {x : AVal} {c : Chg} (h : aop P tr s o = some (x, c)) : Sim P o s x c := by
  unfold aop at h
  split at h
  · rename_i y ho
    injection h with h
    have := aMove_sim (P := P) (s := s) (o := o) (tr := tr) (x := y) (fun ρ w => by simp [execOp, ho])
    rw [h] at this
    exact this
  · rename_i y ho
    injection h with h
    have := aMove_sim (P := P) (s := s) (o := o) (tr := true) (x := y) (fun ρ w => by simp [execOp, ho])
    rw [h] at this
    exact this
  · rename_i ho; exact aPick_sim ho h
  · rename_i ho; exact aAlloc_sim ho h
  · rename_i ho; exact aBox_sim ho h
  · rename_i ho; exact aLoad_sim ho h
  · rename_i ho; exact aStore_sim ho h
  · rename_i ho; exact aFieldAddr_sim ho h
  · rename_i ho; exact aIndexAddr_sim ho h
  · rename_i ho; exact aNil_sim ho h
  · rename_i ho; exact aExtract_sim ho h
  · rename_i ho; exact aField_sim ho h
  · rename_i ho; exact aIndex_sim ho h
  · rename_i ho; exact aBuild_sim ho h
  · rename_i ho; exact aBuildSlice_sim ho h
  · rename_i ho; exact aMake_sim ho h
  · rename_i ho; exact aSlice_sim ho h
  · rename_i ho; exact aConvert_sim ho h
  · rename_i cl ho
    unfold aCall at h
    split at h
    · rename_i y t h1 h2 h3
      rw [call_eta cl h1 h2 h3] at ho
      exact aLen_sim ho h
    · rename_i y z t tx h1 h2 h3
      rw [call_eta cl h1 h2 h3] at ho
      exact aAppend_sim ho h
    · exact aPlain_sim h
  · exact aPlain_sim h

/-! ### Calls -/
/-- The call returns r, and what it may write is H'. -/
structure Ok (P : Program) (f : FuncId) (args : List AVal) (H : List (Option (List CVal))) (r : AVal) (H' : List (Option (List CVal))) : Prop where
  fn : ∃ fn, P.funcs[f]? = some fn ∧ fn.body.isSome = true ∧ (fn.name == "runtime.NumGoroutine") = false
  flat : r.dem = r
  rok : r.ok H'.length = true
  len : H.length ≤ H'.length
  run : ∀ (w : World) (κ : Nat → BK) (ρ : Nat → Nat) (vals : Array Value), vals.size = args.length → (∀ i (h : i < args.length) (h' : i < vals.size) l, RepA w κ ρ l args[i] vals[i]) → (∀ x ∈ args, x.ok H.length = true) → RelH H w κ ρ →
    Calls P f vals w fun e w' => ∃ v κ' ρ', e = .returned v ∧ (∀ l, RepA w' κ' ρ' l r v) ∧ RelH H' w' κ' ρ' ∧ Fr w κ w' κ' ∧ ∀ b, b < H.length → ρ' b = ρ b
def lockAll (κ : Nat → BK) (g : Nat) : BK :=
  match κ g with
  | .lock n => .lock n
  | .tip n _ => .lock (some n)
  | .wr _ => .lock (some 0)
theorem lockAll_fits (κ : Nat → BK) (g n : Nat) : (lockAll κ g).fits n ↔ (κ g).fits n := by
  unfold lockAll
  cases κ g <;> simp [BK.fits]
theorem lockAll_lock (κ : Nat → BK) (g : Nat) : ∃ n, lockAll κ g = .lock n := by
  unfold lockAll
  cases κ g <;> exact ⟨_, rfl⟩
theorem grow_fits {w : World} {κ κ' : Nat → BK} (h : ∀ g n, (κ g).fits n → (κ' g).fits n) : Grow w κ w κ' := ⟨Nat.le_refl _, fun _ _ _ _ _ hx => hx, fun g n _ hf => h g n hf⟩
theorem RepA.flatten {w : World} {κ : Nat → BK} {ρ : Nat → Nat} {l l' : Loc} {x : AVal} {v : Value} (hx : x.dem = x) (h : RepA w κ ρ l x v) : RepA w κ ρ l' x v := by
  have := RepA.dem (l' := l') h
  rwa [hx] at this
theorem flat_no_tip {x : AVal} (hx : x.dem = x) (sz : Nat) (cs : List FVal) (len : Nat) : x ≠ .c (.tip sz cs len) := by
  intro e
  rw [e] at hx
  simp [AVal.dem, CVal.dem] at hx
/-- A callee that knows nothing of the caller's blocks. -/
theorem call_pure {P : Program} {f : FuncId} {args : List AVal} {r : AVal} {s : St} {a : Act} {w : World} {κ : Nat → BK} {ρ : Nat → Nat} {xs : List Operand} (hO : Ok P f args [] r []) (hargs : args = xs.map fun x => (s.ev x).h) (hok : args.all (AVal.ok 0) = true) (hR : Rel s a w κ ρ) :
    Calls P f (xs.map a.eval).toArray w fun e w' => ∃ v κ' , e = .returned v ∧ Rel s a w' κ' ρ ∧ (∀ l, RepA w' κ' ρ l r v) ∧ r.ok s.H.length = true ∧ Fr w κ w' κ' := by
  subst hargs
  refine (hO.run w (lockAll κ) ρ _ (by simp) (fun i hi hi' l => ?_) (List.all_eq_true.1 hok) ⟨fun b cs h => by simp at h, fun b cs h => by simp at h⟩).mono ?_
  · simp only [List.getElem_map, List.getElem_toArray]
    simp only [List.length_map] at hi
    refine RepA.keep (n := 0) (grow_fits fun g n h => (lockAll_fits κ g n).2 h) (fun b hb => by omega) (List.all_eq_true.1 hok _ (by rw [← List.getElem_map (fun x => (s.ev x).h) (l := xs) (i := i) (h := by simpa using hi)]; exact List.getElem_mem _)) (fun sz cs len e => ?_) (hR.ev (l := l) (xs[i])).nz
    exact absurd e (flat_no_tip (AVal.h_dem _) sz cs len)
  · rintro e w' ⟨v, κ', ρ', rfl, hr, hH, hfr, _⟩
    have hsame : ∀ g, g < w.heap.size → κ' g = lockAll κ g ∧ w'.heap[g]? = w.heap[g]? := fun g hg => by
      obtain ⟨n, hn⟩ := lockAll_lock κ g
      obtain ⟨h1, h2⟩ := hfr.lock g n hg hn
      exact ⟨h1.trans hn.symm, h2⟩
    have hrok : r.ok s.H.length = true := AVal.ok_le (Nat.zero_le _) r hO.rok
    have m : Mv (fun _ => False) s.H.length w κ ρ w' (fun g => if g < w.heap.size then κ g else κ' g) ρ :=
      ⟨hfr.os, hfr.tape, hfr.output, hfr.size, fun _ _ => rfl, fun g hg _ => ⟨(hsame g hg).2, if_pos hg⟩, fun _ _ _ _ h => h.elim, fun _ _ _ h => h.elim, fun _ _ h => h.elim⟩
    refine ⟨v, fun g => if g < w.heap.size then κ g else κ' g, rfl, hR.mv m (fun _ h => h), fun l => ?_, hrok, m.fr⟩
    refine RepA.keep (n := 0) (grow_fits fun g n h => ?_) (fun b hb => by omega) hO.rok (fun sz cs len e => absurd e (flat_no_tip hO.flat sz cs len)) (hr l)
    by_cases hg : g < w.heap.size
    · simp only [hg, if_true]
      rw [(hsame g hg).1] at h
      exact (lockAll_fits κ g n).1 h
    · simp only [hg, if_false]; exact h
end Go.Proofs.Ythnfliopmjpdmaa.Av
