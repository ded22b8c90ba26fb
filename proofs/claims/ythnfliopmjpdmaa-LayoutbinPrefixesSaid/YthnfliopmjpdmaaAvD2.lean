/- A region that draws its order: its rule and its soundness. -/
import Derived.Test.YthnfliopmjpdmaaAvD
namespace Go.Proofs.Ythnfliopmjpdmaa.Av
set_option linter.unusedVariables false
set_option linter.unusedSimpArgs false

section
variable {P : Program} {ops : Array Oper} {s s' s1 s2 : St} {o : Oper} {c : Cl}
def noShare (ops : Array Oper) (x y : Oper) : Bool := (x.op.operands.toList.all fun a => match a with | .tmp t => !(y.looksAt ops).contains t | _ => true)
/-- Two operations that may change places. -/
def below : Option Nat → List Nat → Bool
  | some n, l => l.all fun b => decide (b < n)
  | none, _ => true
def noMeet (l m : List Nat) : Bool := l.all fun b => !m.contains b
def compat (ops : Array Oper) (ci cj : Cl) (oi oj : Oper) : Bool :=
  oi.apart ops oj && noMeet ci.wr cj.fp && noMeet cj.wr ci.fp && !(ci.new.isSome && cj.new.isSome) && below ci.new cj.fp && below cj.new ci.fp && (!ci.dem || noShare ops oi oj) && (!cj.dem || noShare ops oj oi) && (ci.soft || noMeet ci.wr cj.fr) && (cj.soft || noMeet cj.wr ci.fr) && below ci.new cj.fr && below cj.new ci.fr
theorem noShare_of {x y : Oper} (h : noShare ops x y = true) {t : Tmp} (ht : t ∈ y.looksAt ops) : Operand.tmp t ∉ x.op.operands := fun hm => by
  have := List.all_eq_true.1 h (.tmp t) (by simpa using hm)
  simp [ht] at this
theorem noMeet_of {l m : List Nat} (h : noMeet l m = true) {b : Nat} (h1 : b ∈ l) : b ∉ m := fun h2 => by
  have := List.all_eq_true.1 h b h1
  simp [h2] at this
theorem setL_same : ∀ (l : List (Nat × Option (List CVal))) (A B : List (Option (List CVal))) (b : Nat), A[b]? = B[b]? → b < A.length → b < B.length → (setL A l)[b]? = (setL B l)[b]?
  | [], A, B, b, h, _, _ => h
  | (c, x) :: l, A, B, b, h, ha, hb => by
    simp only [setL]
    refine setL_same l _ _ b ?_ (by simpa using ha) (by simpa using hb)
    by_cases e : c = b
    · subst e; rw [List.getElem?_set_self ha, List.getElem?_set_self hb]
    · rw [List.getElem?_set_ne e, List.getElem?_set_ne e]; exact h
theorem swap {ci cj : Cl} {oi oj : Oper} (hc : compat ops ci cj oi oj = true) (h1 : Step P ops ci oi s s1) (h2 : Step P ops cj oj s1 s2) : ∃ s', Step P ops cj oj s s' ∧ Step P ops ci oi s' s2 := by
  simp only [compat, Bool.and_eq_true, Bool.or_eq_true, Bool.not_eq_true'] at hc
  obtain ⟨⟨⟨⟨⟨⟨⟨⟨⟨⟨⟨hap, hm1⟩, hm2⟩, hnn⟩, hb1⟩, hb2⟩, hd1⟩, hd2⟩, hs1⟩, hs2⟩, hb3⟩, hb4⟩ := hc
  obtain ⟨a1, a2, a3⟩ := Oper.apart_spec hap
  obtain ⟨E, hE⟩ := h1.eff
  obtain ⟨F, hF⟩ := h2.eff
  have hEd : ∀ t ∈ oj.looksAt ops, E.dem ≠ some t := fun t ht e => by
    obtain ⟨k1, k2⟩ := hE.dem t e
    rcases hd1 with hd | hd
    · rw [hd] at k1; cases k1
    · exact noShare_of hd ht k2
  have hFd : ∀ t ∈ oi.looksAt ops, F.dem ≠ some t := fun t ht e => by
    obtain ⟨k1, k2⟩ := hF.dem t e
    rcases hd2 with hd | hd
    · rw [hd] at k1; cases k1
    · exact noShare_of hd ht k2
  have e1 := hE.eq
  have H1 : s1.H = setL s.H E.wr ++ E.new := by rw [e1, app_H]
  have nE : ci.new = none → E.new = [] := fun e => by
    by_cases hn : E.new = []
    · exact hn
    · rw [hE.new hn] at e; cases e
  have nF : cj.new = none → F.new = [] := fun e => by
    by_cases hn : F.new = []
    · exact hn
    · rw [hF.new hn] at e; cases e
  have one : E.new = [] ∨ F.new = [] := by
    cases hi : ci.new with
    | none => exact .inl (nE hi)
    | some n =>
      cases hj : cj.new with
      | none => exact .inr (nF hj)
      | some m => rw [hi, hj] at hnn; cases hnn
  have len1 : ci.new = none → s1.H.length = s.H.length := fun e => by rw [H1, nE e, List.append_nil, setL_len]
  -- the blocks that oj looks at
  have fj : ∀ b ∈ cj.fp, s1.H[b]? = s.H[b]? := fun b hb => by
    rw [H1]
    have hk : ∀ p ∈ E.wr, p.1 ≠ b := fun p hp e => noMeet_of hm1 (hE.wr p hp).1 (by rw [e]; exact hb)
    cases hi : ci.new with
    | none => rw [nE hi, List.append_nil, setL_get _ _ _ hk]
    | some n =>
      rw [hi] at hb1
      have hlt : b < n := by simpa using List.all_eq_true.1 hb1 b hb
      rw [hE.newn n hi] at hlt
      rw [List.getElem?_append_left (by rw [setL_len]; exact hlt), setL_get _ _ _ hk]
  have soft1 : ∀ b ∈ cj.fr, demH (setL s.H E.wr) b = demH s.H b := fun b hb => by
    rcases hs1 with hs | hs
    · exact hE.soft hs b
    · unfold demH; rw [setL_get _ _ _ (fun p hp e => noMeet_of hs (hE.wr p hp).1 (by rw [e]; exact hb))]
  have fjr : ∀ b ∈ cj.fr, demH s1.H b = demH s.H b := fun b hb => by
    rw [H1]
    cases hi : ci.new with
    | none => rw [nE hi, List.append_nil]; exact soft1 b hb
    | some n =>
      rw [hi] at hb3
      have hlt : b < n := by simpa using List.all_eq_true.1 hb3 b hb
      rw [hE.newn n hi] at hlt
      rw [← soft1 b hb]
      unfold demH
      rw [List.getElem?_append_left (by rw [setL_len]; exact hlt)]
  have sj := hF.all s (fun t ht => by rw [e1]; exact app_ev (fun e => a1 t e ht) (hEd t ht)) fj fjr (fun hn => by
    refine len1 ?_
    cases hi : ci.new with
    | none => rfl
    | some n => rw [hi, hn] at hnn; cases hnn)
  refine ⟨_, sj, ?_⟩
  have H2 : (F.app oj.dst s).H = setL s.H F.wr ++ F.new := app_H F _
  have fi : ∀ b ∈ ci.fp, s.H[b]? = (F.app oj.dst s).H[b]? := fun b hb => by
    rw [H2]
    have hk : ∀ p ∈ F.wr, p.1 ≠ b := fun p hp e => noMeet_of hm2 (hF.wr p hp).1 (by rw [e]; exact hb)
    cases hj : cj.new with
    | none => rw [nF hj, List.append_nil, setL_get _ _ _ hk]
    | some n =>
      have hi : ci.new = none := by
        cases hi : ci.new with
        | none => rfl
        | some m => rw [hi, hj] at hnn; cases hnn
      rw [hj] at hb2
      have hlt : b < n := by simpa using List.all_eq_true.1 hb2 b hb
      rw [hF.newn n hj, len1 hi] at hlt
      rw [List.getElem?_append_left (by rw [setL_len]; exact hlt), setL_get _ _ _ hk]
  have soft2 : ∀ b ∈ ci.fr, demH (setL s.H F.wr) b = demH s.H b := fun b hb => by
    rcases hs2 with hs | hs
    · have k := hF.soft hs
      -- the blocks that oj writes are the same in s1 and in s
      by_cases hbw : ∃ p ∈ F.wr, p.1 = b
      · obtain ⟨p, hp, rfl⟩ := hbw
        have q1 : demH (setL s1.H F.wr) p.1 = demH (setL s.H F.wr) p.1 := by
          unfold demH
          have hlt1 : p.1 < s1.H.length := (hF.wr p hp).2
          have hfp := hF.wf _ (hF.wr p hp).1
          have e3 := fj p.1 hfp
          have hlt : p.1 < s.H.length := by
            rcases Nat.lt_or_ge p.1 s.H.length with h | h
            · exact h
            · rw [List.getElem?_eq_none h, List.getElem?_eq_getElem hlt1] at e3; cases e3
          rw [setL_same F.wr s1.H s.H p.1 e3 hlt1 hlt]
        rw [← q1, k p.1]
        unfold demH
        rw [fj p.1 (hF.wf _ (hF.wr p hp).1)]
      · unfold demH; rw [setL_get _ _ _ (fun p hp e => hbw ⟨p, hp, e⟩)]
    · unfold demH; rw [setL_get _ _ _ (fun p hp e => noMeet_of hs (hF.wr p hp).1 (by rw [e]; exact hb))]
  have fir : ∀ b ∈ ci.fr, demH s.H b = demH (F.app oj.dst s).H b := fun b hb => by
    rw [H2]
    cases hj : cj.new with
    | none => rw [nF hj, List.append_nil]; exact (soft2 b hb).symm
    | some n =>
      have hi : ci.new = none := by
        cases hi : ci.new with
        | none => rfl
        | some m => rw [hi, hj] at hnn; cases hnn
      rw [hj] at hb4
      have hlt : b < n := by simpa using List.all_eq_true.1 hb4 b hb
      rw [hF.newn n hj, len1 hi] at hlt
      rw [← soft2 b hb]
      unfold demH
      rw [List.getElem?_append_left (by rw [setL_len]; exact hlt)]
  have si := hE.all (F.app oj.dst s) (fun t ht => (app_ev (fun e => a3 t e ht) (hFd t ht)).symm) fi fir (fun hn => by
    have hj : cj.new = none := by
      cases hj : cj.new with
      | none => rfl
      | some m => rw [hj, hn] at hnn; cases hnn
    rw [H2, nF hj, List.append_nil, setL_len])
  have mem : ∀ {o : Oper} {t : Tmp}, Operand.tmp t ∈ o.op.operands → t ∈ o.looksAt ops := fun {o t} hm => List.mem_append_left _ (List.mem_filterMap.2 ⟨.tmp t, by simpa using hm, rfl⟩)
  have hcm : F.app oj.dst (E.app oi.dst s) = E.app oi.dst (F.app oj.dst s) := by
    refine app_comm (fun t e => a2 t e) (fun t e e2 => a3 t e2 (mem (hE.dem t e).2)) (fun t e e2 => a1 t e2 (mem (hF.dem t e).2)) ?_
    have kE : ∀ p ∈ E.wr, p.1 < s.H.length := fun p hp => (hE.wr p hp).2
    have kF : ∀ p ∈ F.wr, p.1 < s.H.length := fun p hp => by
      cases hi : ci.new with
      | none => rw [← len1 hi]; exact (hF.wr p hp).2
      | some n =>
        rw [hi] at hb1
        have hlt : p.1 < n := by simpa using List.all_eq_true.1 hb1 p.1 (hF.wf _ (hF.wr p hp).1)
        rw [hE.newn n hi] at hlt
        exact hlt
    rw [setL_append _ _ _ (by rw [setL_len]; exact kF), setL_append _ _ _ (by rw [setL_len]; exact kE), setL_comm E.wr F.wr s.H (fun p hp q hq e => noMeet_of hm1 (hE.wr p hp).1 (by rw [e]; exact hF.wf _ (hF.wr q hq).1))]
    rcases one with e | e <;> simp [e]
  have e2 := hF.eq
  rw [e1] at e2
  rw [e2, hcm]
  exact si

/-! ### Runs -/
def Run (P : Program) (ops : Array Oper) : List (Nat × Cl) → St → St → Prop
  | [], s, s' => s = s'
  | (i, c) :: rest, s, s' => ∃ o s1, ops[i]? = some o ∧ Step P ops c o s s1 ∧ Run P ops rest s1 s'
theorem bubble : ∀ (pre : List (Nat × Cl)) (j : Nat) (cj : Cl) (post : List (Nat × Cl)) (s s' : St) (oj : Oper), ops[j]? = some oj → (∀ p ∈ pre, ∀ oi, ops[p.1]? = some oi → compat ops p.2 cj oi oj = true) → Run P ops (pre ++ (j, cj) :: post) s s' →
    ∃ s1, Step P ops cj oj s s1 ∧ Run P ops (pre ++ post) s1 s'
  | [], j, cj, post, s, s', oj, hj, _, h => by
    obtain ⟨o, s1, ho, h1, h2⟩ := h
    rw [hj] at ho; injection ho with ho; subst ho
    exact ⟨s1, h1, h2⟩
  | (i, ci) :: pre, j, cj, post, s, s', oj, hj, hc, h => by
    obtain ⟨o, s1, ho, h1, h2⟩ := h
    obtain ⟨t, h3, h4⟩ := bubble pre j cj post s1 s' oj hj (fun p hp => hc p (List.mem_cons_of_mem _ hp)) h2
    obtain ⟨t', h5, h6⟩ := swap (hc (i, ci) (by simp) o ho) h1 h3
    exact ⟨t', h5, o, t, ho, h6, h4⟩

/-! ### The order that the edges ask -/
def mask (acc : List Nat) (o : Oper) : Nat := o.after.toList.foldl (fun m e => if Region.binds .any e then m ||| (2 ^ e.on ||| acc.getD e.on 0) else m) 0
def befL : List Oper → List Nat → List Nat
  | [], acc => acc
  | o :: rest, acc => befL rest (acc ++ [mask acc o])
theorem mask_bit {acc : List Nat} {o : Oper} {k : Nat} (h : (mask acc o).testBit k = true) : ∃ e ∈ o.after, Region.binds .any e = true ∧ (k = e.on ∨ (acc.getD e.on 0).testBit k = true) := by
  have key : ∀ (l : List Edge) (m : Nat), (l.foldl (fun m e => if Region.binds .any e then m ||| (2 ^ e.on ||| acc.getD e.on 0) else m) m).testBit k = true → m.testBit k = true ∨ ∃ e ∈ l, Region.binds .any e = true ∧ (k = e.on ∨ (acc.getD e.on 0).testBit k = true) := by
    intro l
    induction l with
    | nil => intro m h; exact .inl h
    | cons e l ih =>
      intro m h
      rw [List.foldl_cons] at h
      rcases ih _ h with h1 | ⟨e', he', h2⟩
      · by_cases hb : Region.binds .any e = true
        · rw [if_pos hb] at h1
          rw [Nat.testBit_or, Nat.testBit_or, Bool.or_eq_true, Bool.or_eq_true] at h1
          rcases h1 with h1 | h1 | h1
          · exact .inl h1
          · rw [Nat.testBit_two_pow] at h1
            exact .inr ⟨e, by simp, hb, .inl (by simpa using (of_decide_eq_true h1).symm)⟩
          · exact .inr ⟨e, by simp, hb, .inr h1⟩
        · rw [if_neg hb] at h1
          exact .inl h1
      · exact .inr ⟨e', by simp [he'], h2⟩
  rcases key _ 0 h with h1 | ⟨e, he, h2⟩
  · simp at h1
  · exact ⟨e, Array.mem_toList_iff.1 he, h2⟩
theorem befL_get : ∀ (l : List Oper) (acc : List Nat) (j : Nat), (j < acc.length → (befL l acc)[j]? = acc[j]?) ∧ (∀ o, l[j - acc.length]? = some o → acc.length ≤ j → ∃ acc', (befL l acc)[j]? = some (mask acc' o) ∧ acc'.length = j ∧ ∀ i, i < j → (befL l acc)[i]? = acc'[i]?)
  | [], acc, j => ⟨fun _ => rfl, fun o h => by simp at h⟩
  | p :: rest, acc, j => by
    have ih := fun j => befL_get rest (acc ++ [mask acc p]) j
    refine ⟨fun hj => ?_, fun o h hj => ?_⟩
    · simp only [befL]
      rw [(ih j).1 (by simp; omega), List.getElem?_append_left hj]
    · simp only [befL]
      rcases Nat.eq_or_lt_of_le hj with e | hlt
      · rw [show j - acc.length = 0 by omega] at h
        have hp : p = o := by simpa using h
        subst hp
        refine ⟨acc, ?_, e, fun i hi => ?_⟩
        · rw [(ih j).1 (by simp; omega), ← e]; simp
        · rw [(ih i).1 (by simp; omega), List.getElem?_append_left (by omega)]
      · have h' : rest[j - (acc ++ [mask acc p]).length]? = some o := by
          rw [show j - acc.length = (j - (acc.length + 1)) + 1 by omega, List.getElem?_cons_succ] at h
          simpa using h
        exact (ih j).2 o h' (by simp; omega)
/-- What is ahead of a ready operation is listed. -/
theorem bef_listed {l : List Oper} {listed : Nat → Bool} (hcl : ∀ j o, l[j]? = some o → listed j = true → ∀ e ∈ o.after, Region.binds .any e = true → listed e.on = true) :
    ∀ (j : Nat) (o : Oper), l[j]? = some o → (∀ e ∈ o.after, Region.binds .any e = true → listed e.on = true) → ∀ k, ((befL l []).getD j 0).testBit k = true → listed k = true := by
  intro j
  induction j using Nat.strongRecOn with
  | _ j ih =>
    intro o ho he k hk
    obtain ⟨acc', h1, h2, h3⟩ := (befL_get l [] j).2 o (by simpa using ho) (by simp)
    rw [List.getD_eq_getElem?_getD, h1] at hk
    obtain ⟨e, hm, hb, hh⟩ := mask_bit (by simpa using hk)
    rcases hh with rfl | hh
    · exact he e hm hb
    · have hon : listed e.on = true := he e hm hb
      rcases Nat.lt_or_ge e.on j with hlt | hge
      · have hl : e.on < l.length := by
          have := (List.getElem?_eq_some_iff.1 ho).1
          omega
        have := h3 e.on hlt
        refine ih e.on hlt l[e.on] (List.getElem?_eq_getElem hl) (fun e' he' hb' => hcl e.on _ (List.getElem?_eq_getElem hl) hon e' he' hb') k ?_
        rw [List.getD_eq_getElem?_getD, this, ← List.getD_eq_getElem?_getD]
        exact hh
      · rw [List.getD_eq_getElem?_getD, List.getElem?_eq_none (by omega)] at hh
        simp at hh
def critB (ops : Array Oper) (cl : List Cl) : Bool :=
  decide (cl.length = ops.size) && (List.range ops.size).all fun j => ((ops.toList.getD j default).after.toList.all fun e => !Region.binds .any e || decide (e.on < j)) &&
    (List.range j).all fun i => ((befL ops.toList []).getD j 0).testBit i || compat ops (cl.getD i .q0) (cl.getD j .q0) (ops.toList.getD i default) (ops.toList.getD j default)
def WOpsD (P : Program) (ops : Array Oper) : List Oper → St → List Cl → (St → Prop) → Prop
  | [], s, acc, K => critB ops acc.reverse = true ∧ K s
  | o :: rest, s, acc, K => WOp P ops o s fun c s' => WOpsD P ops rest s' (c :: acc) K
def DR (P : Program) (ops : Array Oper) (s : St) (K : St → Prop) : Prop := WOpsD P ops ops.toList s [] K
theorem WOpsD_run {K : St → Prop} : ∀ (l : List Oper) (k : Nat) (s : St) (acc : List Cl), (∀ j, l[j]? = ops[k + j]?) → acc.length = k → WOpsD P ops l s acc K → ∃ (cl : List Cl) (s' : St), cl.length = k + l.length ∧ cl.take k = acc.reverse ∧ critB ops cl = true ∧ K s' ∧ Run P ops ((List.range' k l.length).map fun i => (i, cl.getD i .q0)) s s'
  | [], k, s, acc, _, hk, h => ⟨acc.reverse, s, by simpa using hk, by rw [List.take_of_length_le (by simp [hk])], h.1, h.2, rfl⟩
  | o :: rest, k, s, acc, hl, hk, h => by
    obtain ⟨c, s1, h1, h2⟩ := WOp_ex h
    obtain ⟨cl, s', e1, e2, e3, e4, e5⟩ := WOpsD_run rest (k + 1) s1 (c :: acc) (fun j => by rw [show k + 1 + j = k + (j + 1) by omega, ← hl]; simp) (by simp [hk]) h2
    have hc : cl.getD k .q0 = c := by
      have : (cl.take (k + 1))[k]? = some c := by rw [e2]; simp [hk]
      rw [List.getElem?_take_of_lt (by omega)] at this
      rw [List.getD_eq_getElem?_getD, this]; rfl
    refine ⟨cl, s', by simp [e1]; omega, ?_, e3, e4, ?_⟩
    · have : (cl.take (k + 1)).take k = acc.reverse := by rw [e2, List.reverse_cons, List.take_append_of_le_length (by simp [hk]), List.take_of_length_le (by simp [hk])]
      rwa [List.take_take, Nat.min_eq_left (by omega)] at this
    · simp only [List.length_cons, List.range'_succ, List.map_cons]
      refine ⟨o, s1, by simpa using (hl 0).symm, by rw [hc]; exact h1, e5⟩
theorem DR_sound (hm : P.follows .mixedOrders = true) : DSound P (DR P) := by
  intro id ops s K h N n0 w0 κ0 ρ0 a w κ ρ hI hdst Q hQ
  rw [List.all_eq_true] at hdst
  refine wp_region_any hm ?_
  obtain ⟨cl, sE, hlen, _, hcrit, hK, hrun⟩ := WOpsD_run ops.toList 0 s [] (fun j => by simp) rfl h
  simp only [critB, Bool.and_eq_true, decide_eq_true_eq, List.all_eq_true, List.mem_range] at hcrit
  obtain ⟨hcl, hcrit⟩ := hcrit
  have hget : ∀ {j : Nat} {oj : Oper}, ops[j]? = some oj → ops.toList.getD j default = oj := fun {j oj} hj => by simp [List.getD_eq_getElem?_getD, hj]
  have main : ∀ (fuel : Nat) (rem : List Nat) (listed : Array Bool) (s : St) (a : Act) (w : World) (κ : Nat → BK) (ρ : Nat → Nat), rem.length = fuel → rem.Pairwise (· < ·) → (∀ i, i ∈ rem ↔ i < ops.size ∧ listed.getD i true = false) → listed.size = ops.size →
      (∀ j o, ops.toList[j]? = some o → listed.getD j false = true → ∀ e ∈ o.after, Region.binds .any e = true → listed.getD e.on false = true) → Run P ops (rem.map fun i => (i, cl.getD i .q0)) s sE → In N n0 w0 κ0 ρ0 s a w κ ρ → wpAny P .any ops Q fuel listed a w := by
    intro fuel
    induction fuel with
    | zero =>
      intro rem listed s a w κ ρ hl hp hr hsz hcls hrun hI
      have : rem = [] := List.eq_nil_of_length_eq_zero hl
      subst this
      refine ⟨?_, hQ s a w κ ρ (by rw [show s = sE from hrun]; exact hK) hI⟩
      apply List.eq_nil_iff_forall_not_mem.2
      intro i hi
      obtain ⟨h1, o, ho, _⟩ := mem_ready.1 hi
      have := (hr i).2 ⟨(Array.getElem?_eq_some_iff.1 ho).1, h1⟩
      cases this
    | succ fuel ih =>
      intro rem listed s a w κ ρ hl hp hr hsz hcls hrun hI
      have hlist : ∀ i, i < ops.size → i ∉ rem → listed.getD i false = true := fun i hi hn => by
        have h2 : i < listed.size := by omega
        cases hx : listed.getD i true with
        | false => exact absurd ((hr i).2 ⟨hi, hx⟩) hn
        | true => simp [Array.getD, h2] at hx ⊢; exact hx
      constructor
      · intro hnil
        exfalso
        cases rem with
        | nil => simp at hl
        | cons i rest =>
          obtain ⟨hi1, hi2⟩ := (hr i).1 (by simp)
          have : i ∈ Region.ready .any ops listed := mem_ready.2 ⟨hi2, ops[i], Array.getElem?_eq_getElem hi1, fun e he hb => ?_⟩
          · rw [hnil] at this; cases this
          · have h3 := (hcrit i hi1).1 e (by rw [hget (Array.getElem?_eq_getElem hi1)]; exact Array.mem_toList_iff.2 he)
            rw [hb] at h3
            have h4 : e.on < i := by simpa using h3
            refine hlist e.on (by omega) (fun hm => ?_)
            rcases List.mem_cons.1 hm with h5 | h5
            · omega
            · have := (List.pairwise_cons.1 hp).1 _ h5; omega
      · intro i hi
        obtain ⟨h1, o, ho, hready⟩ := mem_ready.1 hi
        have hi1 : i < ops.size := (Array.getElem?_eq_some_iff.1 ho).1
        have hmem : i ∈ rem := (hr i).2 ⟨hi1, h1⟩
        obtain ⟨pre, post, rfl⟩ := List.append_of_mem hmem
        rw [List.map_append, List.map_cons] at hrun
        rw [List.pairwise_append] at hp
        obtain ⟨hp1, hp2, hp3⟩ := hp
        have hp4 := List.pairwise_cons.1 hp2
        obtain ⟨s1, hst, hrun1⟩ := bubble _ i _ _ s sE o ho (fun p hpm oi hoi => by
          obtain ⟨k, hk, rfl⟩ := List.mem_map.1 hpm
          have hki : k < i := hp3 k hk i (by simp)
          have hcr := (hcrit i hi1).2 k hki
          rw [Bool.or_eq_true] at hcr
          rcases hcr with hcr | hcr
          · exfalso
            have hkl := bef_listed (l := ops.toList) (listed := fun j => listed.getD j false) hcls i o (by simpa using ho) hready k hcr
            have hkr := (hr k).1 (by simp [hk])
            have h2 : k < listed.size := by omega
            have hk2 := hkr.2
            simp only [Array.getD, h2, dite_true] at hkl hk2
            rw [hk2] at hkl; cases hkl
          · rw [hget hoi, hget ho] at hcr
            exact hcr) hrun
        unfold wpOp
        simp only [ho]
        refine WOp_sound (hdst o (Array.mem_toList_iff.2 (Array.mem_of_getElem? ho))) hst hI fun c s2 a2 w2 κ2 ρ2 hk2 hI2 => ?_
        obtain ⟨_, rfl⟩ := hk2
        have hnot : i ∉ pre ++ post := fun hm => by
          rcases List.mem_append.1 hm with hm | hm
          · have := hp3 i hm i (by simp); omega
          · have := hp4.1 i hm; omega
        refine ih (pre ++ post) (listed.setIfInBounds i true) s2 a2 w2 κ2 ρ2 (by simp at hl ⊢; omega) (List.pairwise_append.2 ⟨hp1, hp4.2, fun x hx y hy => hp3 x hx y (List.mem_cons_of_mem _ hy)⟩) (fun j => ?_) (by simpa using hsz) (fun j o' ho' hj e he hb => ?_) (by rw [List.map_append]; exact hrun1) hI2
        · by_cases e : i = j
          · subst e
            constructor
            · intro hm; exact absurd hm hnot
            · rintro ⟨_, hf⟩
              have : i < listed.size := by omega
              simp [Array.getD, this] at hf
          · rw [getD_set_ne true e, ← hr j]
            constructor
            · intro hm; simp at hm ⊢; rcases hm with h | h <;> simp [h]
            · intro hm; simp at hm ⊢; rcases hm with h | h | h
              · exact .inl h
              · exact absurd h.symm e
              · exact .inr h
        · by_cases e2 : i = j
          · subst e2
            have : o' = o := by rw [Array.getElem?_toList, ho] at ho'; injection ho' with h; exact h.symm
            subst this
            exact getD_set_true (hready e he hb)
          · rw [getD_set_ne false e2] at hj
            exact getD_set_true (hcls j o' ho' hj e he hb)
  have hs0 : ∀ i (d : Bool), i < ops.size → (Array.replicate ops.size false).getD i d = false := fun i d hi => by simp [Array.getD, hi]
  refine main ops.size (List.range' 0 ops.size) (Array.replicate ops.size false) s a { w with drawn := w.drawn + 1 } κ ρ (by simp) (by rw [← List.range_eq_range']; exact List.pairwise_lt_range) (fun i => ?_) (by simp) (fun j o ho hj => ?_) (by simpa using hrun) ?_
  · simp only [List.mem_range'_1]
    constructor
    · rintro ⟨_, h⟩; exact ⟨by omega, hs0 i true (by omega)⟩
    · rintro ⟨h, _⟩; exact ⟨by omega, by omega⟩
  · exfalso
    rcases Nat.lt_or_ge j ops.size with h1 | h1
    · rw [hs0 j false h1] at hj; cases hj
    · simp [Array.getD, show ¬ j < ops.size by omega] at hj
  · obtain ⟨h1, h2, h3, h4, h5⟩ := hI
    have m : Mv (fun _ => False) s.H.length w κ ρ w.drew κ ρ := mv_drew _ _ _ _
    exact ⟨h1.mv m (fun _ h => h), h2.trans m.fr, h3, h4, h5⟩
end
end Go.Proofs.Ythnfliopmjpdmaa.Av
