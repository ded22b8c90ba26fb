/- A region that draws its order, whose first n operations only read or call in a class of worlds, and whose last operations come in one forced order: one walk of the first n in the text's order, then the last ones, serves every order. -/
import Derived.StillTail
import Derived.Deep.Quiet
namespace Go.Proofs.Ythnfliopmjpdmaa
section
variable {P : Program} {ops oh : Array Oper} {md : Region.Mode} {C : World → Prop} {n : Nat}

theorem wpAny_more {Q : Exit → Act → World → Prop} : ∀ (f : Nat) (listed : Array Bool) (a : Act) (w : World), wpAny P md ops Q f listed a w → wpAny P md ops Q (f + 1) listed a w
  | 0, _, _, _, h => ⟨fun _ => h.2, fun i hi => by rw [h.1] at hi; cases hi⟩
  | f + 1, _, _, _, h => ⟨h.1, fun i hi => wpOp_mono (fun a' w' h' => wpAny_more f _ a' w' h') (h.2 i hi)⟩
theorem wpAny_more_n {Q : Exit → Act → World → Prop} (f g : Nat) (listed : Array Bool) (a : Act) (w : World) (h : wpAny P md ops Q f listed a w) : wpAny P md ops Q (g + f) listed a w := by
  induction g with
  | zero => rw [Nat.zero_add]; exact h
  | succ g ih => rw [show g + 1 + f = g + f + 1 by omega]; exact wpAny_more _ _ _ _ ih

/-- The head's edges go back, its guards lie in the head. -/
def headB (md : Region.Mode) (ops : Array Oper) (n : Nat) : Bool :=
  (List.range n).all fun j => match ops[j]? with
    | some o => (o.after.all fun e => !Region.binds md e || decide (e.on < j)) && (match o.guard with | none => true | some (i, _) => decide (i < n))
    | none => false
theorem headB_spec (h : headB md ops n = true) {j : Nat} (hj : j < n) :
    ∃ o, ops[j]? = some o ∧ (∀ e ∈ o.after, Region.binds md e = true → e.on < j) ∧ (∀ i b, o.guard = some (i, b) → i < n) := by
  have h1 := List.all_eq_true.1 h j (List.mem_range.2 hj)
  cases ho : ops[j]? with
  | none => rw [ho] at h1; cases h1
  | some o =>
    rw [ho] at h1
    simp only [Bool.and_eq_true] at h1
    refine ⟨o, rfl, fun e he hb => ?_, fun i b hg => ?_⟩
    · have := (Array.all_eq_true'.1 h1.1) e he
      rw [hb] at this
      simpa using this
    · have := h1.2
      rw [hg] at this
      simpa using this

theorem some_ready {listed : Array Bool} (hB : headB md ops n = true) (hsz : n ≤ listed.size) : ∀ j, j < n → listed.getD j true = false → ∃ i ∈ Region.ready md ops listed, i < n := by
  intro j
  induction j using Nat.strongRecOn with
  | _ j ih =>
    intro hj hun
    obtain ⟨o, ho, hback, _⟩ := headB_spec hB hj
    by_cases hall : ∀ e ∈ o.after, Region.binds md e = true → listed.getD e.on false = true
    · exact ⟨j, mem_ready.2 ⟨hun, o, ho, hall⟩, hj⟩
    · obtain ⟨e, he⟩ := Classical.not_forall.1 hall
      obtain ⟨hm, he2⟩ := Classical.not_imp.1 he
      obtain ⟨hb, hl⟩ := Classical.not_imp.1 he2
      have hlt := hback e hm hb
      exact ih e.on hlt (by omega) (getD_in (by omega) (by simpa using hl))

theorem yielded_head (hoh : ∀ j, j < n → oh[j]? = ops[j]?) (t : Array Value) {j : Nat} (hj : j < n) : yielded oh t j = yielded ops t j := by
  unfold yielded
  rw [hoh j hj]
theorem wanted_head (hoh : ∀ j, j < n → oh[j]? = ops[j]?) (t : Array Value) {o : Oper} (hg : ∀ i b, o.guard = some (i, b) → i < n) : Region.wanted o (yielded oh t) = Region.wanted o (yielded ops t) := by
  unfold Region.wanted
  cases ho : o.guard with
  | none => rfl
  | some x =>
    obtain ⟨i, b⟩ := x
    simp only
    rw [yielded_head hoh t (hg i b ho)]

theorem ready_head {lh listed : Array Bool} (hB : headB md ops n = true) (hoh : ∀ j, j < n → oh[j]? = ops[j]?) (hag : ∀ j d, j < n → lh.getD j d = listed.getD j d) {j : Nat} (hj : j < n) :
    j ∈ Region.ready md ops listed ↔ j ∈ Region.ready md oh lh := by
  obtain ⟨o, ho, hback, _⟩ := headB_spec hB hj
  rw [mem_ready, mem_ready, hag j true hj, hoh j hj]
  constructor
  · rintro ⟨h0, o', ho', h1⟩
    refine ⟨h0, o', ho', fun e he hb => ?_⟩
    rw [ho] at ho'; injection ho' with ho'; subst ho'
    rw [hag _ _ (by have := hback e he hb; omega)]; exact h1 e he hb
  · rintro ⟨h0, o', ho', h1⟩
    refine ⟨h0, o', ho', fun e he hb => ?_⟩
    rw [ho] at ho'; injection ho' with ho'; subst ho'
    rw [← hag _ _ (by have := hback e he hb; omega)]; exact h1 e he hb

/-- The first n of N have come up. -/
def headL (n N : Nat) : Array Bool := ((List.range N).map fun i => decide (i < n)).toArray
theorem eq_headL {listed : Array Bool} (hs : listed.size = ops.size) (h1 : ∀ j, j < n → listed.getD j false = true) (h2 : ∀ t, n ≤ t → t < ops.size → listed.getD t true = false) : listed = headL n ops.size := by
  apply Array.ext
  · simp [headL, hs]
  · intro i hi _
    simp only [headL, List.getElem_toArray, List.getElem_map, List.getElem_range]
    rcases Nat.lt_or_ge i n with h | h
    · have := h1 i h
      simp [hi] at this
      simp [h, this]
    · have := h2 i h (by omega)
      simp [hi] at this
      simp [show ¬ i < n by omega, this]

theorem wpOp_head {Q : Exit → Act → World → Prop} {K : Act → World → Prop} {a : Act} {w : World} (hB : headB md ops n = true) (hoh : ∀ j, j < n → oh[j]? = ops[j]?) {i : Nat} (hi : i < n) (h : wpOp P oh Q i K a w) : wpOp P ops Q i K a w := by
  obtain ⟨o, ho, _, hg⟩ := headB_spec hB hi
  unfold wpOp at *
  rw [hoh i hi, ho] at h
  rw [ho]
  simp only at h ⊢
  rw [wanted_head hoh a.tmps hg] at h
  exact h

theorem wpAny_of_qhead {Q : Exit → Act → World → Prop} {Q0 : Act → Prop} {g : Nat} (hB : headB md ops n = true) (hoh : ∀ j, j < n → oh[j]? = ops[j]?) (hon : oh.size = n) (hn : n < ops.size)
    (hs : Region.sinkB md ops n = true) (hc : Region.chainB md ops n = true)
    (htail : ∀ a w, C w → Q0 a → wpAny P md ops Q g (headL n ops.size) a w) :
    ∀ (f : Nat) (lh listed : Array Bool) (a : Act) (w : World), C w → (∀ j d, j < n → lh.getD j d = listed.getD j d) → HeadInv md ops n listed →
      wpAnyQ P md oh C Q0 f lh a → wpAny P md ops Q (f + g) listed a w := by
  have done : ∀ (lh listed : Array Bool) (a : Act) (w : World), C w → (∀ j d, j < n → lh.getD j d = listed.getD j d) → HeadInv md ops n listed → Region.ready md oh lh = [] → Q0 a → wpAny P md ops Q g listed a w := by
    intro lh listed a w hC hag inv hr hq
    have hall : ∀ j, j < n → listed.getD j false = true := by
      intro j hj
      cases hl : listed.getD j false with
      | true => rfl
      | false =>
        obtain ⟨i, hi, hin⟩ := some_ready hB (by rw [inv.size]; omega) j hj (getD_in (by rw [inv.size]; omega) hl)
        rw [ready_head hB hoh hag hin, hr] at hi
        cases hi
    rw [eq_headL inv.size hall inv.tail]
    exact htail a w hC hq
  intro f
  induction f with
  | zero =>
    intro lh listed a w hC hag inv h
    rw [Nat.zero_add]
    exact done lh listed a w hC hag inv h.1 h.2
  | succ f ih =>
    intro lh listed a w hC hag inv h
    by_cases hr : Region.ready md oh lh = []
    · exact wpAny_more_n g (f + 1) _ _ _ (done lh listed a w hC hag inv hr (h.1 hr))
    · obtain ⟨i0, hi0⟩ := List.exists_mem_of_ne_nil _ hr
      have hi0n : i0 < n := by
        obtain ⟨_, o, ho, _⟩ := mem_ready.1 hi0
        rw [← hon]; exact (Array.getElem?_eq_some_iff.1 ho).1
      have hun : listed.getD i0 true = false := by rw [← hag i0 true hi0n]; exact (mem_ready.1 hi0).1
      rw [show f + 1 + g = (f + g) + 1 by omega]
      refine ⟨fun h0 => ?_, fun i hi => ?_⟩
      · have := (ready_head hB hoh hag hi0n).2 hi0
        rw [h0] at this
        cases this
      · have hin : i < n := by
          rcases Nat.lt_or_ge i n with h' | h'
          · exact h'
          · exact absurd hi (tail_waits hs hc hn inv _ i0 rfl hi0n hun i h')
        have h2 := h.2 i ((ready_head hB hoh hag hin).1 hi)
        refine wpOp_head hB hoh hin (wpOp_of_qOp hC (fun a' w' hC' hK => ih _ _ a' w' hC' (fun j d hj => ?_) (inv.set hi hin) hK) h2)
        by_cases hij : i = j
        · subst hij
          have h3 : i < listed.size := by rw [inv.size]; omega
          have h4 : i < lh.size := by
            have := (mem_ready.1 ((ready_head hB hoh hag hin).1 hi)).1
            rcases Nat.lt_or_ge i lh.size with h' | h'
            · exact h'
            · simp [Array.getElem?_eq_none h'] at this
          simp [h3, h4]
        · rw [getD_set_ne d hij, getD_set_ne d hij]; exact hag j d hj

/-- A class of worlds as the values of a function on a type of which nothing else is known: so that the walk's simp takes the worlds' facts as rules. -/
theorem classOf (S : World → Prop) {w0 : World} (h : S w0) : ∃ (Z : Type) (_ : Nonempty Z) (f : Z → World), (∀ z, S (f z)) ∧ ∀ w', S w' → ∃ z, w' = f z :=
  ⟨{x : World // S x}, ⟨⟨w0, h⟩⟩, Subtype.val, fun z => z.2, fun w' hw => ⟨⟨w', hw⟩, rfl⟩⟩

/-- What is asked of a region with n quiet operations ahead of its tail. -/
def qtailB (md : Region.Mode) (ops : Array Oper) (n : Nat) : Bool :=
  headB md ops n && decide (n < ops.size) && Region.sinkB md ops n && Region.chainB md ops n && Region.seqB md ops (ops.size - n) n (headL n ops.size) && Region.lexB md (ops.extract 0 n)

theorem wp_region_qtail {id : Nat} {Q : Exit → Act → World → Prop} {a : Act} {w : World} {l : List Oper} (C : World → Prop) (n : Nat) (hm : P.follows .mixedOrders = true) (hB : qtailB .any l.toArray n = true) (hC : C { w with drawn := w.drawn + 1 })
    (h : wpQuiet P (l.take n).toArray C (fun a' => ∀ w', C w' → wpList P l.toArray Q (l.drop n) a' w') (l.take n) a) : (Code.region id l.toArray true).wp P Q a w := by
  simp only [qtailB, Bool.and_eq_true, decide_eq_true_eq] at hB
  obtain ⟨⟨⟨⟨⟨hb, hn⟩, hs⟩, hc⟩, hseq⟩, hlex⟩ := hB
  have hn' : n < l.length := by simpa using hn
  have he : l.toArray.extract 0 n = (l.take n).toArray := by simp
  rw [he] at hlex
  simp only [Region.lexB, Bool.and_eq_true] at hlex
  have hdl : (l.drop n).length = l.toArray.size - n := by simp
  have hsz : (l.take n).toArray.size = n := by simp; omega
  have hoh : ∀ j, j < n → (l.take n).toArray[j]? = l.toArray[j]? := fun j hj => by simp [hj]
  have inv0 : HeadInv .any l.toArray n (Array.replicate l.toArray.size false) :=
    ⟨by simp, fun j oj _ hl => (by rw [getD_replicate_false] at hl; cases hl), fun t _ ht => getD_in (by simpa using ht) (getD_replicate_false _ _)⟩
  have hq := wpAnyQ_lex (C := C) (md := .any) hlex.1 (l.take n) 0 (Array.replicate (l.take n).toArray.size false) a (by simp) (by simpa using hlex.2) h
  refine wp_region_any hm ?_
  have := wpAny_of_qhead (Q := Q) (g := l.toArray.size - n) hb hoh hsz hn hs hc (fun a' w' hC' hQ => by
    have := wpAny_of_seq (md := .any) (Q' := Q) (l.drop n) n (headL n l.toArray.size) a' w' (fun j => by simp [List.getElem?_drop]) (by rw [hdl]; exact hseq) (hQ w' hC')
    rwa [hdl] at this) _ _ _ a _ hC (fun j d hj => by
      have h1 : j < l.length := by omega
      rw [hsz]
      simp [hj, h1]) inv0 hq
  have e : (l.take n).length + (l.toArray.size - n) = l.toArray.size := by simp; omega
  rw [e] at this
  exact this
end
end Go.Proofs.Ythnfliopmjpdmaa
