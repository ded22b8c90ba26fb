/- A region that draws its order, in three parts: operations that only read or call in a class of worlds; operations in one forced order, that may write or make memory; operations that only read in the world behind them. -/
import Derived.Test.YtjmiddhdbimaaaaQTail
import Derived.BigQuiet
namespace Go.Proofs.Ytjmiddhdbimaaaa
section
variable {P : Program} {ops oh : Array Oper} {md : Region.Mode} {C : World → Prop} {n : Nat}

/-- Whatever comes behind number n waits for something from n on. -/
def laterB (md : Region.Mode) (ops : Array Oper) (n : Nat) : Bool :=
  (List.range ops.size).all fun t => decide (t ≤ n) || (List.range t).any fun j => decide (n ≤ j) && Region.waitsFor md ops t j

theorem tail_waits2 {listed : Array Bool} (hs : Region.sinkB md ops n = true) (hc : laterB md ops n = true) (hn : n < ops.size) (inv : HeadInv md ops n listed) :
    ∀ (d i : Nat), n - i = d → i < n → listed.getD i true = false → ∀ t, n ≤ t → t ∉ Region.ready md ops listed := by
  intro d
  induction d using Nat.strongRecOn with
  | _ d ih =>
    intro i hd hi hun t ht hr
    obtain ⟨_, ot, hot, hall⟩ := mem_ready.1 hr
    have htlt : t < ops.size := (Array.getElem?_eq_some_iff.1 hot).1
    by_cases htn : t = n
    · subst htn
      have h1 := List.all_eq_true.1 hs i (List.mem_range.2 hi)
      obtain ⟨j, hj, hj2⟩ := List.any_eq_true.1 h1
      simp only [Bool.and_eq_true, decide_eq_true_eq] at hj2
      obtain ⟨oj, hoj, e, he, hb, hon⟩ := Region.waitsFor_spec hj2.2
      have hjle : j ≤ t := by have := List.mem_range.1 hj; omega
      by_cases hjt : j = t
      · subst hjt
        have : oj = ot := Option.some.inj (hoj.symm.trans hot)
        subst this
        have h2 := hall e he hb
        rw [hon, getD_both hun] at h2
        cases h2
      · cases hl : listed.getD j false with
        | true =>
          have h2 := inv.closed j oj hoj hl e he hb
          rw [hon, getD_both hun] at h2
          cases h2
        | false =>
          have hjs : j < listed.size := by rw [inv.size]; omega
          exact ih (t - j) (by omega) j rfl (by omega) (getD_in hjs hl) t (Nat.le_refl _) hr
    · have h1 := List.all_eq_true.1 hc t (List.mem_range.2 htlt)
      simp only [Bool.or_eq_true, decide_eq_true_eq] at h1
      rcases h1 with h1 | h1
      · omega
      · obtain ⟨j, hj, hj2⟩ := List.any_eq_true.1 h1
        simp only [Bool.and_eq_true, decide_eq_true_eq] at hj2
        have hjt := List.mem_range.1 hj
        obtain ⟨o', ho', e, he, hb, hon⟩ := Region.waitsFor_spec hj2.2
        have : o' = ot := Option.some.inj (ho'.symm.trans hot)
        subst this
        have h2 := hall e he hb
        rw [hon, getD_both (inv.tail j hj2.1 (by omega))] at h2
        cases h2

theorem wpAny_of_qhead2 {Q : Exit → Act → World → Prop} {Q0 : Act → Prop} {g : Nat} (hB : headB md ops n = true) (hoh : ∀ j, j < n → oh[j]? = ops[j]?) (hon : oh.size = n) (hn : n < ops.size)
    (hs : Region.sinkB md ops n = true) (hc : laterB md ops n = true)
    (htail : ∀ a w, C w → Q0 a → wpAny P md ops Q g (headL n ops.size) a w) :
    ∀ (f : Nat) (lh listed : Array Bool) (a : Act) (w : World), C w → (∀ j d, j < n → lh.getD j d = listed.getD j d) → HeadInv md ops n listed →
      wpAnyQ P md oh C Q0 f lh a → wpAny P md ops Q (f + g) listed a w := by
  have done : ∀ (lh listed : Array Bool) (a : Act) (w : World), C w → (∀ j d, j < n → lh.getD j d = listed.getD j d) → HeadInv md ops n listed → Region.ready md oh lh = [] → Q0 a → wpAny P md ops Q g listed a w := by
    intro lh listed a w hC hag inv hr hq
    have hall : ∀ j, j < n → listed.getD j false = true := by
      intro j hj
      cases hl : listed.getD j false with
      | true => rfl
      | false =>
        obtain ⟨i, hi, hin⟩ := some_ready hB (by rw [inv.size]; omega) j hj (getD_in (by rw [inv.size]; omega) hl)
        rw [ready_head hB hoh hag hin, hr] at hi
        cases hi
    rw [eq_headL inv.size hall inv.tail]
    exact htail a w hC hq
  intro f
  induction f with
  | zero =>
    intro lh listed a w hC hag inv h
    rw [Nat.zero_add]
    exact done lh listed a w hC hag inv h.1 h.2
  | succ f ih =>
    intro lh listed a w hC hag inv h
    by_cases hr : Region.ready md oh lh = []
    · exact wpAny_more_n g (f + 1) _ _ _ (done lh listed a w hC hag inv hr (h.1 hr))
    · obtain ⟨i0, hi0⟩ := List.exists_mem_of_ne_nil _ hr
      have hi0n : i0 < n := by
        obtain ⟨_, o, ho, _⟩ := mem_ready.1 hi0
        rw [← hon]; exact (Array.getElem?_eq_some_iff.1 ho).1
      have hun : listed.getD i0 true = false := by rw [← hag i0 true hi0n]; exact (mem_ready.1 hi0).1
      rw [show f + 1 + g = (f + g) + 1 by omega]
      refine ⟨fun h0 => ?_, fun i hi => ?_⟩
      · have := (ready_head hB hoh hag hi0n).2 hi0
        rw [h0] at this
        cases this
      · have hin : i < n := by
          rcases Nat.lt_or_ge i n with h' | h'
          · exact h'
          · exact absurd hi (tail_waits2 hs hc hn inv _ i0 rfl hi0n hun i h')
        have h2 := h.2 i ((ready_head hB hoh hag hin).1 hi)
        refine wpOp_head hB hoh hin (wpOp_of_qOp hC (fun a' w' hC' hK => ih _ _ a' w' hC' (fun j d hj => ?_) (inv.set hi hin) hK) h2)
        by_cases hij : i = j
        · subst hij
          have h3 : i < listed.size := by rw [inv.size]; omega
          have h4 : i < lh.size := by
            have := (mem_ready.1 ((ready_head hB hoh hag hin).1 hi)).1
            rcases Nat.lt_or_ge i lh.size with h' | h'
            · exact h'
            · simp [Array.getElem?_eq_none h'] at this
          simp [h3, h4]
        · rw [getD_set_ne d hij, getD_set_ne d hij]; exact hag j d hj

/-- From number k on, g operations come in one order only; the Bool of what has come up then. -/
def forcedB (md : Region.Mode) (ops : Array Oper) : Nat → Nat → Array Bool → Bool
  | 0, _, _ => true
  | g + 1, k, listed => decide (Region.ready md ops listed = [k]) && forcedB md ops g (k + 1) (listed.setIfInBounds k true)
def afterL : Nat → Nat → Array Bool → Array Bool
  | 0, _, listed => listed
  | g + 1, k, listed => afterL g (k + 1) (listed.setIfInBounds k true)

theorem oper_then {Q : Exit → Act → World → Prop} {K K' : Act → World → Prop} {o : Oper} {a : Act} {w : World} (hh : o.wp P a w K' (Exit.then K Q)) : o.wp P a w K' Q := by
  unfold Oper.wp at *
  generalize (execOp a.eval o).run P w = r at *
  cases r with
  | ok n w' =>
    cases n <;> simp only [Oper.upon] at hh ⊢ <;>
      first
        | exact hh
        | exact Calls.mono hh (fun e w'' he => by cases e <;> exact he)
  | halt x w' => cases x <;> simp only [Oper.upon] at hh ⊢ <;> exact hh

theorem wpAny_of_forced {Q : Exit → Act → World → Prop} {f : Nat} {K : Act → World → Prop} : ∀ (l : List Oper) (k : Nat) (listed : Array Bool) (a : Act) (w : World), (∀ j, j < l.length → l[j]? = ops[k + j]?) →
    forcedB md ops l.length k listed = true → (∀ a' w', K a' w' → wpAny P md ops Q f (afterL l.length k listed) a' w') → wpList P ops (Exit.then K Q) l a w → wpAny P md ops Q (f + l.length) listed a w
  | [], _, _, _, _, _, _, hK, h => hK _ _ h
  | o :: l, k, listed, a, w, hl, hB, hK, h => by
    have h0 : ops[k]? = some o := by simpa using (hl 0 (by simp)).symm
    simp only [List.length_cons, forcedB, Bool.and_eq_true, decide_eq_true_eq] at hB
    refine ⟨fun h1 => (by rw [hB.1] at h1; cases h1), fun i hi => ?_⟩
    rw [hB.1] at hi
    have hik : i = k := by simpa using hi
    subst hik
    have hw : wpOp P ops (Exit.then K Q) i (wpList P ops (Exit.then K Q) l) a w := by unfold wpOp; simp only [h0]; exact h
    have hw2 : wpOp P ops Q i (wpList P ops (Exit.then K Q) l) a w := by
      unfold wpOp at hw ⊢
      simp only [h0] at hw ⊢
      split
      · rename_i hc
        rw [if_pos hc] at hw
        exact hw.imp oper_then id
      · rename_i hc
        rw [if_neg hc] at hw
        exact hw
    exact wpOp_mono (fun a' w' h' => wpAny_of_forced l (i + 1) _ a' w' (fun j hj => by have := hl (j + 1) (by simp; omega); simpa [Nat.add_assoc, Nat.add_comm 1 j] using this) hB.2 hK h') hw2

/-- What is asked of a region with n quiet operations, m in one order behind them, and the others quiet in the world that these leave. -/
def qqB (md : Region.Mode) (ops : Array Oper) (n m : Nat) : Bool :=
  Region.noSelect ops && headB md ops n && decide (n < ops.size) && decide (n + m ≤ ops.size) && Region.sinkB md ops n && laterB md ops n && Region.lexB md (ops.extract 0 n) && forcedB md ops m n (headL n ops.size) && Region.lexFrom md ops (ops.size - n - m) (n + m) (afterL m n (headL n ops.size))

theorem wp_region_qq {id : Nat} {Q : Exit → Act → World → Prop} {a : Act} {w : World} {l : List Oper} (C : World → Prop) (n m : Nat) (hm : P.follows .mixedOrders = true) (hB : qqB .any l.toArray n m = true) (hC : C { w with drawn := w.drawn + 1 })
    (h : wpQuiet P (l.take n).toArray C (fun a' => ∀ w', C w' → ∀ K : Act → World → Prop, (∀ a2 w2, wpQuiet P l.toArray (fun w3 => ∃ k, w3 = w2.drewN k) (fun a3 => ∀ w3, (∃ k, w3 = w2.drewN k) → Q .normal a3 w3) (l.drop (n + m)) a2 → K a2 w2) → wpList P l.toArray (Exit.then K Q) ((l.drop n).take m) a' w') (l.take n) a) : (Code.region id l.toArray true).wp P Q a w := by
  simp only [qqB, Bool.and_eq_true, decide_eq_true_eq] at hB
  obtain ⟨⟨⟨⟨⟨⟨⟨⟨hns, hb⟩, hn⟩, hnm⟩, hs⟩, hc⟩, hlex⟩, hf⟩, hlt⟩ := hB
  have hn' : n < l.length := by simpa using hn
  have hnm' : n + m ≤ l.length := by simpa using hnm
  have he : l.toArray.extract 0 n = (l.take n).toArray := by simp
  rw [he] at hlex
  simp only [Region.lexB, Bool.and_eq_true] at hlex
  have hsz : (l.take n).toArray.size = n := by simp; omega
  have hoh : ∀ j, j < n → (l.take n).toArray[j]? = l.toArray[j]? := fun j hj => by simp [hj]
  have hml : ((l.drop n).take m).length = m := by simp; omega
  have hdl : (l.drop (n + m)).length = l.toArray.size - n - m := by simp; omega
  have inv0 : HeadInv .any l.toArray n (Array.replicate l.toArray.size false) :=
    ⟨by simp, fun j oj _ hl => (by rw [getD_replicate_false] at hl; cases hl), fun t _ ht => getD_in (by simpa using ht) (getD_replicate_false _ _)⟩
  have hq := wpAnyQ_lex (C := C) (md := .any) hlex.1 (l.take n) 0 (Array.replicate (l.take n).toArray.size false) a (by simp) (by simpa using hlex.2) h
  refine wp_region_any hm ?_
  have := wpAny_of_qhead2 (Q := Q) (g := (l.toArray.size - n - m) + m) hb hoh hsz hn hs hc (fun a' w' hC' hQ => by
    have hh := hQ w' hC' (fun a2 w2 => wpQuiet P l.toArray (fun w3 => ∃ k, w3 = w2.drewN k) (fun a3 => ∀ w3, (∃ k, w3 = w2.drewN k) → Q .normal a3 w3) (l.drop (n + m)) a2) (fun _ _ h => h)
    have := wpAny_of_forced (md := .any) (Q := Q) (f := l.toArray.size - n - m) ((l.drop n).take m) n (headL n l.toArray.size) a' w' (fun j hj => by
      rw [hml] at hj
      simp [hj, List.getElem?_drop]) (by rw [hml]; exact hf) (fun a2 w2 h2 => by
        rw [hml]
        refine wpAny_of_quiet (C := fun w3 => ∃ k, w3 = w2.drewN k) (Q := fun a3 => ∀ w3, (∃ k, w3 = w2.drewN k) → Q .normal a3 w3) (fun _ w3 hw3 h => h w3 hw3) _ _ _ _ ⟨0, rfl⟩ ?_
        have hx := wpAnyQ_lex (C := fun w3 => ∃ k, w3 = w2.drewN k) (md := .any) hns (l.drop (n + m)) (n + m) (afterL m n (headL n l.toArray.size)) a2 (fun j => by simp [List.getElem?_drop]) (by rw [hdl]; exact hlt) h2
        rwa [hdl] at hx) hh
    rwa [hml] at this) _ _ _ a _ hC (fun j d hj => by
      have h1 : j < l.length := by omega
      rw [hsz]
      simp [hj, h1]) inv0 hq
  have e : (l.take n).length + ((l.toArray.size - n - m) + m) = l.toArray.size := by simp; omega
  rw [e] at this
  exact this
end
end Go.Proofs.Ytjmiddhdbimaaaa
