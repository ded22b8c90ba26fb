/- Calls over values without addresses: the callee sees the caller's blocks that it is handed under numbers of its own; some may be lent as data. -/
import Derived.Test.YthnfliopmjpdmaaAvW
namespace Go.Proofs.Ythnfliopmjpdmaa.Av
set_option linter.unusedVariables false
set_option linter.unusedSimpArgs false

def CVal.ren (σ : Nat → Nat) : CVal → CVal
  | .ptr b off => .ptr (σ b) off
  | .arr b off len cap => .arr (σ b) off len cap
  | x => x
def TVal.ren (σ : Nat → Nat) : TVal → TVal
  | .c x => .c (x.ren σ)
  | .agg cs => .agg (cs.map (CVal.ren σ))
def AVal.ren (σ : Nat → Nat) : AVal → AVal
  | .c x => .c (x.ren σ)
  | .agg cs => .agg (cs.map (CVal.ren σ))
  | .tup ts => .tup (ts.map (TVal.ren σ))
def sig (n : Nat) (bs : List Nat) (i : Nat) : Nat := bs.getD i (n + (i - bs.length))
def putBack (H : List (Option (List CVal))) : List Nat → List (Option (List CVal)) → List (Option (List CVal))
  | [], cs => H ++ cs
  | b :: bs, c :: cs => putBack (H.set b c) bs cs
  | _ :: _, [] => H
/-- A block of the caller's as data. -/
def CVal.lend (H : List (Option (List CVal))) (L : List Nat) : CVal → CVal
  | .arr b off len cap => if b ∈ L ∧ len ≤ cap then
      match H[b]? with
      | some (some cells) => match fzs (cells.drop off) with
        | some fs => .f (.row fs len)
        | none => .arr b off len cap
      | _ => .arr b off len cap
    else .arr b off len cap
  | x => x
def TVal.lend (H : List (Option (List CVal))) (L : List Nat) : TVal → TVal
  | .c x => .c (x.lend H L)
  | .agg cs => .agg (cs.map (CVal.lend H L))
def AVal.lend (H : List (Option (List CVal))) (L : List Nat) : AVal → AVal
  | .c x => .c (x.lend H L)
  | .agg cs => .agg (cs.map (CVal.lend H L))
  | .tup ts => .tup (ts.map (TVal.lend H L))
/-- It names no data in memory. -/
def CVal.bare : CVal → Bool
  | .f (.row ..) => false
  | .ip .. => false
  | .tip .. => false
  | _ => true
def TVal.bare : TVal → Bool
  | .c x => x.bare
  | .agg cs => cs.all CVal.bare
def AVal.bare : AVal → Bool
  | .c x => x.bare
  | .agg cs => cs.all CVal.bare
  | .tup ts => ts.all TVal.bare
def bareB : Option (List CVal) → Bool
  | some cs => cs.all CVal.bare
  | none => true

theorem putBack_len : ∀ (bs : List Nat) (H Cs : List (Option (List CVal))), bs.length ≤ Cs.length → (putBack H bs Cs).length = H.length + (Cs.length - bs.length)
  | [], H, Cs, _ => by simp [putBack]
  | b :: bs, H, [], h => by simp at h
  | b :: bs, H, c :: cs, h => by
    have := putBack_len bs (H.set b c) cs (by simpa using h)
    simp only [putBack, this, List.length_set, List.length_cons]
    omega
theorem putBack_get : ∀ (bs : List Nat) (H Cs : List (Option (List CVal))), bs.Nodup → (∀ b ∈ bs, b < H.length) → bs.length ≤ Cs.length → ∀ (b : Nat) (x : Option (List CVal)), (putBack H bs Cs)[b]? = some x →
    (∃ i : Nat, bs[i]? = some b ∧ Cs[i]? = some x) ∨ (b ∉ bs ∧ H[b]? = some x) ∨ (H.length ≤ b ∧ Cs[bs.length + (b - H.length)]? = some x)
  | [], H, Cs, _, _, _, b, x, h => by
    simp only [putBack] at h
    rcases Nat.lt_or_ge b H.length with k | k
    · rw [List.getElem?_append_left k] at h
      exact .inr (.inl ⟨by simp, h⟩)
    · rw [List.getElem?_append_right k] at h
      exact .inr (.inr ⟨k, by simpa using h⟩)
  | c :: bs, H, [], _, _, hl, b, x, h => by simp at hl
  | c :: bs, H, y :: Cs, hn, hb, hl, b, x, h => by
    simp only [putBack] at h
    have hn' := List.nodup_cons.1 hn
    rcases putBack_get bs (H.set c y) Cs hn'.2 (fun b hb' => by simpa using hb b (List.mem_cons_of_mem _ hb')) (by simpa using hl) b x h with ⟨i, h1, h2⟩ | ⟨h1, h2⟩ | ⟨h1, h2⟩
    · exact .inl ⟨i + 1, by simpa using h1, by simpa using h2⟩
    · by_cases e : c = b
      · subst e
        rw [List.getElem?_set_self (hb c (by simp))] at h2
        exact .inl ⟨0, by simp, by simpa using h2⟩
      · rw [List.getElem?_set_ne e] at h2
        exact .inr (.inl ⟨by simp [h1]; exact fun h => e h.symm, h2⟩)
    · rw [List.length_set] at h1 h2
      refine .inr (.inr ⟨h1, ?_⟩)
      rw [show (c :: bs).length + (b - H.length) = (bs.length + (b - H.length)) + 1 by simp; omega, List.getElem?_cons_succ]
      exact h2

/-- What the caller's marks are to the callee. -/
def BK.cl (bs L : List Nat) : BK → BK
  | .lock n => .lock n
  | .wr b => if b ∈ bs then .wr (bs.idxOf b) else if b ∈ L then .lock none else .lock (some 0)
  | .tip n (.cell b j) => if b ∈ bs then .tip n (.cell (bs.idxOf b) j) else .lock (some n)
  | .tip n (.slot _) => .lock (some n)
def BK.isLock : BK → Bool
  | .lock _ => true
  | _ => false
def BK.bk (σ : Nat → Nat) : BK → BK
  | .wr i => .wr (σ i)
  | .tip n (.cell i j) => .tip n (.cell (σ i) j)
  | .tip n (.slot _) => .lock (some n)
  | .lock n => .lock n
theorem BK.cl_fits {bs L : List Nat} {k : BK} {n : Nat} (h : k.fits n) : (k.cl bs L).fits n := by
  cases k with
  | lock m => exact h
  | wr b =>
    have hn : n = 0 := by simpa [BK.fits] using h
    subst hn
    unfold BK.cl
    dsimp only
    split
    · simp [BK.fits]
    · split <;> simp [BK.fits]
  | tip m l =>
    cases l with
    | slot i => exact h
    | cell b j =>
      unfold BK.cl
      dsimp only
      split <;> exact h
theorem BK.fits_cl {bs : List Nat} {k : BK} {n : Nat} (h : (k.cl bs []).fits n) : k.fits n := by
  cases k with
  | lock m => exact h
  | wr b =>
    unfold BK.cl at h
    dsimp only at h
    split at h
    · exact h
    · simpa [BK.fits] using h
  | tip m l =>
    cases l with
    | slot i => exact h
    | cell b j =>
      unfold BK.cl at h
      dsimp only at h
      split at h <;> exact h
theorem BK.bk_fits {σ : Nat → Nat} {k : BK} {n : Nat} : (k.bk σ).fits n ↔ k.fits n := by
  cases k with
  | lock m => exact Iff.rfl
  | wr b => exact Iff.rfl
  | tip m l => cases l <;> exact Iff.rfl

section
variable {w w' : World} {κ κ' : Nat → BK} {ρ ρ' : Nat → Nat} {σ : Nat → Nat}
/-- A bare value asks nothing of the memory. -/
theorem RepC.bare {n : Nat} {l l' : Loc} (hρ : ∀ b, b < n → ρ' (σ b) = ρ b) : ∀ {x : CVal} {v : Value}, x.bare = true → x.ok n = true → RepC w κ ρ l x v → RepC w' κ' ρ' l' (x.ren σ) v
  | .f (.v x), v, _, _, h => repF_v.2 (repF_v.1 h)
  | .f .nils, v, _, _, h => repF_nils.2 (repF_nils.1 h)
  | .f (.row ..), _, hb, _, _ => by cases hb
  | .ip .., _, hb, _, _ => by cases hb
  | .ptr b off, v, _, hn, h => by
    show v = .pointer (some ⟨ρ' (σ b), off, none⟩)
    rw [hρ b (by simpa [CVal.ok] using hn)]; exact h
  | .arr b off len cap, v, _, hn, h => by
    show v = .slice (some ⟨ρ' (σ b), off, none⟩) len cap
    rw [hρ b (by simpa [CVal.ok] using hn)]; exact h
  | .tip .., _, hb, _, _ => by cases hb
  | .und, _, _, _, h => h
  | .any, _, _, _, _ => trivial
/-- Numbers are changed; the memory grows. -/
theorem RepC.ren {n : Nat} {l l' : Loc} (G : Grow w κ w' κ') (hρ : ∀ b, b < n → ρ' (σ b) = ρ b) : ∀ {x : CVal} {v : Value}, x.ok n = true → (∀ sz cs len, x = .tip sz cs len → Keep w κ w' κ' l l') → RepC w κ ρ l x v → RepC w' κ' ρ' l' (x.ren σ) v
  | .f x, v, _, _, h => RepF.grow G h
  | .ip cs off, v, _, _, h => by obtain ⟨g, o, rfl, hr⟩ := h; exact ⟨g, o, rfl, hr.grow G⟩
  | .ptr b off, v, hn, _, h => by
    show v = .pointer (some ⟨ρ' (σ b), off, none⟩)
    rw [hρ b (by simpa [CVal.ok] using hn)]; exact h
  | .arr b off len cap, v, hn, _, h => by
    show v = .slice (some ⟨ρ' (σ b), off, none⟩) len cap
    rw [hρ b (by simpa [CVal.ok] using hn)]; exact h
  | .tip sz cs len, v, _, ht, h => by
    obtain ⟨g, cap, rfl, hT⟩ | h := h
    rotate_left
    · exact .inr h
    left
    obtain ⟨h1, h2⟩ := (ht _ _ _ rfl).tip g _ hT.lt hT.own
    exact ⟨g, cap, rfl, hT.row.grow G, Nat.lt_of_lt_of_le hT.lt G.size, hT.cut, h1, hT.le, by rw [h2]; exact hT.blk⟩
  | .und, _, _, _, h => h
  | .any, _, _, _, _ => trivial
theorem CVal.ren_flat (x : CVal) : (x.ren σ).flat = x.flat := by cases x <;> rfl
/-- The numbers are changed back. -/
theorem RepC.unren {n : Nat} {l l' : Loc} (G : Grow w κ w' κ') (hρ : ∀ b, b < n → ρ' b = ρ (σ b)) : ∀ {x : CVal} {v : Value}, x.ok n = true → (∀ sz cs len, x = .tip sz cs len → Keep w κ w' κ' l l') → RepC w κ ρ l (x.ren σ) v → RepC w' κ' ρ' l' x v
  | .f x, v, _, _, h => RepF.grow G h
  | .ip cs off, v, _, _, h => by obtain ⟨g, o, rfl, hr⟩ := h; exact ⟨g, o, rfl, hr.grow G⟩
  | .ptr b off, v, hn, _, h => by
    show v = .pointer (some ⟨ρ' b, off, none⟩)
    rw [hρ b (by simpa [CVal.ok] using hn)]; exact h
  | .arr b off len cap, v, hn, _, h => by
    show v = .slice (some ⟨ρ' b, off, none⟩) len cap
    rw [hρ b (by simpa [CVal.ok] using hn)]; exact h
  | .tip sz cs len, v, _, ht, h => by
    obtain ⟨g, cap, rfl, hT⟩ | h := h
    rotate_left
    · exact .inr h
    left
    obtain ⟨h1, h2⟩ := (ht _ _ _ rfl).tip g _ hT.lt hT.own
    exact ⟨g, cap, rfl, hT.row.grow G, Nat.lt_of_lt_of_le hT.lt G.size, hT.cut, h1, hT.le, by rw [h2]; exact hT.blk⟩
  | .und, _, _, _, h => h
  | .any, _, _, _, _ => trivial
theorem RepT.unren {n : Nat} {l l' : Loc} (G : Grow w κ w' κ') (hρ : ∀ b, b < n → ρ' b = ρ (σ b)) : ∀ {x : TVal} {v : Value}, x.ok n = true → RepT w κ ρ l (x.ren σ) v → RepT w' κ' ρ' l' x v
  | .c x, v, hn, h => by
    have hf : x.flat = true := by rw [← CVal.ren_flat (σ := σ)]; exact h.1
    exact ⟨hf, RepC.unren G hρ hn (fun _ _ _ e => by rw [e] at hf; cases hf) h.2⟩
  | .agg cs, v, hn, h => by
    obtain ⟨vs, rfl, hs, hi⟩ := h
    refine ⟨vs, rfl, by simpa using hs, fun i h h' => ?_⟩
    have h1 := hi i (by simpa using h) h'
    simp only [List.getElem_map] at h1
    rw [CVal.ren_flat] at h1
    exact ⟨h1.1, RepC.unren G hρ (List.all_eq_true.1 hn _ (List.getElem_mem h)) (fun _ _ _ e => by have := h1.1; rw [e] at this; cases this) h1.2⟩
theorem RepA.unren {n : Nat} {l l' : Loc} (G : Grow w κ w' κ') (hρ : ∀ b, b < n → ρ' b = ρ (σ b)) {x : AVal} {v : Value} (hn : x.ok n = true) (hx : x.dem = x) (h : RepA w κ ρ l (x.ren σ) v) : RepA w' κ' ρ' l' x v := by
  cases x with
  | c x => exact RepC.unren G hρ hn (fun sz cs len e => absurd (by rw [e]) (flat_no_tip hx sz cs len)) h
  | agg cs => exact RepT.unren (x := .agg cs) G hρ hn h
  | tup ts =>
    obtain ⟨vs, rfl, hs, hi⟩ := h
    refine ⟨vs, rfl, by simpa using hs, fun i h h' => ?_⟩
    have h1 := hi i (by simpa using h) h'
    simp only [List.getElem_map] at h1
    exact RepT.unren G hρ (List.all_eq_true.1 hn _ (List.getElem_mem h)) h1
/-- A result, in the caller's numbers. -/
theorem RepC.back {n : Nat} {l l' : Loc} (hρ : ∀ b, b < n → ρ' (σ b) = ρ b) {x : CVal} {v : Value} (hf : x.flat = true) (hx : x.ok n = true) (hc : Grow w κ w' κ' ∨ x.bare = true) (h : RepC w κ ρ l x v) : RepC w' κ' ρ' l' (x.ren σ) v := by
  rcases hc with G | hb
  · exact RepC.ren G hρ hx (fun _ _ _ e => by rw [e] at hf; cases hf) h
  · exact RepC.bare hρ hb hx h
theorem RepT.back {n : Nat} {l l' : Loc} (hρ : ∀ b, b < n → ρ' (σ b) = ρ b) {x : TVal} {v : Value} (hx : x.ok n = true) (hc : Grow w κ w' κ' ∨ x.bare = true) (h : RepT w κ ρ l x v) : RepT w' κ' ρ' l' (x.ren σ) v := by
  cases x with
  | c x => exact ⟨by rw [CVal.ren_flat]; exact h.1, RepC.back hρ h.1 hx hc h.2⟩
  | agg cs =>
    obtain ⟨vs, rfl, hs, hi⟩ := h
    refine ⟨vs, rfl, by simpa using hs, fun i h h' => ?_⟩
    have hi2 : i < cs.length := by simpa using h
    simp only [List.getElem_map]
    rw [CVal.ren_flat]
    exact ⟨(hi i hi2 h').1, RepC.back hρ (hi i hi2 h').1 (List.all_eq_true.1 hx _ (List.getElem_mem hi2)) (hc.imp id fun hb => List.all_eq_true.1 hb _ (List.getElem_mem hi2)) (hi i hi2 h').2⟩
theorem RepA.back {n : Nat} {l l' : Loc} (hρ : ∀ b, b < n → ρ' (σ b) = ρ b) {x : AVal} {v : Value} (hd : x.dem = x) (hx : x.ok n = true) (hc : Grow w κ w' κ' ∨ x.bare = true) (h : RepA w κ ρ l x v) : RepA w' κ' ρ' l' (x.ren σ) v := by
  cases x with
  | c x =>
    refine RepC.back hρ ?_ hx hc h
    cases x <;> first | rfl | (simp [AVal.dem, CVal.dem] at hd)
  | agg cs => exact RepT.back (x := .agg cs) hρ hx hc h
  | tup ts =>
    obtain ⟨vs, rfl, hs, hi⟩ := h
    refine ⟨vs, rfl, by simpa using hs, fun i h h' => ?_⟩
    have hi2 : i < ts.length := by simpa using h
    simp only [List.getElem_map]
    exact RepT.back hρ (List.all_eq_true.1 hx _ (List.getElem_mem hi2)) (hc.imp id fun hb => List.all_eq_true.1 hb _ (List.getElem_mem hi2)) (hi i hi2 h')
theorem CVal.ren_ok {n m : Nat} (hσ : ∀ b, b < n → σ b < m) {x : CVal} (h : x.ok n = true) : (x.ren σ).ok m = true := by
  cases x <;> simp [CVal.ren, CVal.ok] at * <;> exact hσ _ h
theorem TVal.ren_ok {n m : Nat} (hσ : ∀ b, b < n → σ b < m) {x : TVal} (h : x.ok n = true) : (x.ren σ).ok m = true := by
  cases x with
  | c x => exact CVal.ren_ok hσ h
  | agg cs =>
    simp only [TVal.ren, TVal.ok, List.all_eq_true] at *
    intro y hy
    obtain ⟨z, hz, rfl⟩ := List.mem_map.1 hy
    exact CVal.ren_ok hσ (h z hz)
theorem AVal.ren_ok {n m : Nat} (hσ : ∀ b, b < n → σ b < m) {x : AVal} (h : x.ok n = true) : (x.ren σ).ok m = true := by
  cases x with
  | c x => exact CVal.ren_ok hσ h
  | agg cs =>
    simp only [AVal.ren, AVal.ok, List.all_eq_true] at *
    intro y hy
    obtain ⟨z, hz, rfl⟩ := List.mem_map.1 hy
    exact CVal.ren_ok hσ (h z hz)
  | tup ts =>
    simp only [AVal.ren, AVal.ok, List.all_eq_true] at *
    intro y hy
    obtain ⟨z, hz, rfl⟩ := List.mem_map.1 hy
    exact TVal.ren_ok hσ (h z hz)
end
def okB (n : Nat) : Option (List CVal) → Bool
  | some cs => cs.all (CVal.ok n)
  | none => true
theorem okB_mem {n i : Nat} {H : List (Option (List CVal))} {cs : List CVal} {x : CVal} (h : H.all (okB n) = true) (hi : H[i]? = some (some cs)) (hx : x ∈ cs) : x.ok n = true :=
  List.all_eq_true.1 (show cs.all (CVal.ok n) = true from List.all_eq_true.1 h _ (List.mem_of_getElem? hi)) x hx

/-! ### The rule -/
section
variable {w w' : World} {κ κ' : Nat → BK} {ρ ρ' : Nat → Nat}
theorem idxOf_get {bs : List Nat} (hn : bs.Nodup) {i b : Nat} (h : bs[i]? = some b) : bs.idxOf b = i := by
  obtain ⟨hi, rfl⟩ := List.getElem?_eq_some_iff.1 h
  exact hn.idxOf_getElem i hi
/-- What is lent is data to the callee. -/
theorem RepC.lend {s : St} {a : Act} {bs L : List Nat} (hR : Rel s a w κ ρ) (hdis : ∀ b ∈ L, b ∉ bs) {l : Loc} {x : CVal} {v : Value} (hx : x.flat = true) (h : RepC w κ ρ l x v) : RepC w (fun g => (κ g).cl bs L) ρ l (x.lend s.H L) v := by
  have G : Grow w κ w (fun g => (κ g).cl bs L) := grow_fits fun g n hf => BK.cl_fits hf
  have keep : x.ok s.H.length = true → RepC w (fun g => (κ g).cl bs L) ρ l x v := fun hok => RepC.keep (n := s.H.length) G (fun _ _ => rfl) hok (fun _ _ _ e => by rw [e] at hx; cases hx) h
  cases x with
  | arr b off len cap =>
    have keep2 : RepC w (fun g => (κ g).cl bs L) ρ l (.arr b off len cap) v := h
    unfold CVal.lend
    dsimp only
    split
    · rename_i hc
      split
      · rename_i cells hb
        split
        · rename_i fs hfs
          have hB := hR.heap.blk b cells hb
          obtain ⟨f1, f2⟩ := fzs_rep _ fs hfs
          have hv : v = .slice (some ⟨ρ b, off, none⟩) len cap := h
          rw [hv]
          refine repF_rowI ⟨ρ b, off, cap, rfl, hc.2, ⟨fun i hi => ?_, fun hne => ⟨?_, ?_⟩⟩⟩
          · have hi2 : off + i < cells.length := by rw [f1, List.length_drop] at hi; omega
            obtain ⟨u, hu1, hu2⟩ := hB.cell (off + i) hi2
            refine ⟨u, hu1, ?_⟩
            have := f2 i (by rw [← f1]; exact hi) hi
            rw [List.getElem_drop] at this
            exact (CVal.fz_rep hu2 this).grow G
          · obtain ⟨c, e, h1, _⟩ := hB.lie
            exact lt_of_heap h1
          · show ((κ (ρ b)).cl bs L).fits _
            rw [hB.own]
            simp only [BK.cl, hdis b hc.1, hc.1, if_true, if_false]
            trivial
        · exact keep2
      · exact keep2
    · exact keep2
  | f y => exact RepF.grow G h
  | ip cs off => obtain ⟨g, o, rfl, hr⟩ := h; exact ⟨g, o, rfl, hr.grow G⟩
  | ptr b off => exact h
  | tip sz cs len => cases hx
  | und => exact h
  | any => trivial
theorem CVal.lend_flat {H : List (Option (List CVal))} {L : List Nat} {x : CVal} (h : x.flat = true) : (x.lend H L).flat = true := by
  cases x with
  | arr b off len cap =>
    unfold CVal.lend
    dsimp only
    split
    · split
      · split <;> rfl
      · rfl
    · rfl
  | _ => exact h
theorem RepT.lend {s : St} {a : Act} {bs L : List Nat} (hR : Rel s a w κ ρ) (hdis : ∀ b ∈ L, b ∉ bs) {l : Loc} {x : TVal} {v : Value} (h : RepT w κ ρ l x v) : RepT w (fun g => (κ g).cl bs L) ρ l (x.lend s.H L) v := by
  cases x with
  | c x => exact ⟨CVal.lend_flat h.1, RepC.lend hR hdis h.1 h.2⟩
  | agg cs =>
    obtain ⟨vs, rfl, hs, hi⟩ := h
    refine ⟨vs, rfl, by simpa using hs, fun i h h' => ?_⟩
    have hi2 : i < cs.length := by simpa using h
    simp only [List.getElem_map]
    exact ⟨CVal.lend_flat (hi i hi2 h').1, RepC.lend hR hdis (hi i hi2 h').1 (hi i hi2 h').2⟩
theorem RepA.lend {s : St} {a : Act} {bs L : List Nat} (hR : Rel s a w κ ρ) (hdis : ∀ b ∈ L, b ∉ bs) {l : Loc} {x : AVal} {v : Value} (hd : x.dem = x) (h : RepA w κ ρ l x v) : RepA w (fun g => (κ g).cl bs L) ρ l (x.lend s.H L) v := by
  cases x with
  | c x =>
    refine RepC.lend hR hdis ?_ h
    cases x <;> first | rfl | (simp [AVal.dem, CVal.dem] at hd)
  | agg cs => exact RepT.lend (x := .agg cs) hR hdis h
  | tup ts =>
    obtain ⟨vs, rfl, hs, hi⟩ := h
    refine ⟨vs, rfl, by simpa using hs, fun i h h' => ?_⟩
    have hi2 : i < ts.length := by simpa using h
    simp only [List.getElem_map]
    exact RepT.lend hR hdis (hi i hi2 h')
theorem AVal.dem_dem (x : AVal) : x.dem.dem = x.dem := by
  cases x with
  | c x => cases x <;> rfl
  | agg cs => rfl
  | tup ts => rfl
theorem AVal.lend_dem {H : List (Option (List CVal))} {L : List Nat} {x : AVal} (h : x.dem = x) : (x.lend H L).dem = x.lend H L := by
  cases x with
  | c x =>
    have hx : x.flat = true := by cases x <;> first | rfl | (simp [AVal.dem, CVal.dem] at h)
    show AVal.c (CVal.dem _) = _
    rw [CVal.flat_dem (CVal.lend_flat hx)]; rfl
  | agg cs => rfl
  | tup ts => rfl
theorem AVal.ren_dem_inv {σ : Nat → Nat} {x : AVal} (h : (x.ren σ).dem = x.ren σ) : x.dem = x := by
  cases x with
  | c x => cases x <;> first | rfl | (simp [AVal.ren, CVal.ren, AVal.dem, CVal.dem] at h)
  | agg cs => rfl
  | tup ts => rfl
def renB (σ : Nat → Nat) : Option (List CVal) → Option (List CVal)
  | some cs => some (cs.map (CVal.ren σ))
  | none => none
theorem call_frame {P : Program} {f : FuncId} {args' : List AVal} {Hs Hs' : List (Option (List CVal))} {r : AVal} {s : St} {a : Act} {xs : List Operand} {bs L : List Nat} (hO : Ok P f args' Hs r Hs')
    (hnd : bs.Nodup) (hlt : ∀ b ∈ bs, b < s.H.length) (hHs : Hs.map (renB (sig s.H.length bs)) = bs.map fun b => s.H.getD b none) (hok : ∀ x ∈ args', x.ok Hs.length = true) (hHok : Hs.all (okB Hs.length) = true) (hHok' : Hs'.all (okB Hs'.length) = true)
    (hargs : args'.map (AVal.ren (sig s.H.length bs)) = xs.map fun x => ((s.ev x).h).lend s.H L) (hdis : ∀ b ∈ L, b ∉ bs) (hbare : L = [] ∨ (r.bare = true ∧ Hs'.all bareB = true)) (hR : Rel s a w κ ρ) :
    Calls P f (xs.map a.eval).toArray w fun e w' => ∃ v κ' ρ', e = .returned v ∧ Rel { s with H := putBack s.H bs (Hs'.map (renB (sig s.H.length bs))) } a w' κ' ρ' ∧ (∀ l, RepA w' κ' ρ' l (r.ren (sig s.H.length bs)) v) ∧ (r.ren (sig s.H.length bs)).ok (putBack s.H bs (Hs'.map (renB (sig s.H.length bs)))).length = true ∧ Fr w κ w' κ' ∧ ∀ b, b < s.H.length → ρ' b = ρ b := by
  generalize hn : s.H.length = n at *
  have hHl : Hs.length = bs.length := by simpa using congrArg List.length hHs
  have hsigb : ∀ i (h : i < bs.length), sig n bs i = bs[i] := fun i h => by simp [sig, h]
  have hxl : args'.length = xs.length := by simpa using congrArg List.length hargs
  -- the callee's world
  refine (hO.run w (fun g => (κ g).cl bs L) (fun i => ρ (sig n bs i)) (xs.map a.eval).toArray (by simpa using hxl.symm) (fun i hi hi' l => ?_) hok ⟨fun i cs hi => ?_, fun i cs hi => ?_⟩).mono ?_
  · have hix : i < xs.length := by omega
    have e1 : (args'[i]).ren (sig n bs) = ((s.ev xs[i]).h).lend s.H L := by
      have : (args'.map (AVal.ren (sig n bs)))[i]'(by simpa using hi) = (xs.map fun x => ((s.ev x).h).lend s.H L)[i]'(by simpa using hix) := by simp only [hargs]
      simpa using this
    have h1 := RepA.lend (bs := bs) (L := L) hR hdis (AVal.h_dem _) (hR.ev (l := l) xs[i]).nz
    rw [← e1] at h1
    simp only [List.getElem_map, List.getElem_toArray]
    refine RepA.unren (σ := sig n bs) (ρ := ρ) (Grow.refl _ _) (n := Hs.length) (fun b _ => rfl) (hok _ (List.getElem_mem hi)) ?_ h1
    refine AVal.ren_dem_inv (σ := sig n bs) ?_
    rw [e1]
    exact AVal.lend_dem (AVal.h_dem _)
  · -- the blocks that it is handed
    obtain ⟨hi1, hi2⟩ := List.getElem?_eq_some_iff.1 hi
    have hib : i < bs.length := by omega
    have hb : s.H[bs[i]]? = some (some (cs.map (CVal.ren (sig n bs)))) := by
      have : (Hs.map (renB (sig n bs)))[i]'(by simpa using hi1) = (bs.map fun b => s.H.getD b none)[i]'(by simpa using hib) := by simp only [hHs]
      simp only [List.getElem_map, hi2, renB] at this
      have hl := hlt _ (List.getElem_mem hib)
      rw [← hn] at hl
      rw [List.getD_eq_getElem?_getD, List.getElem?_eq_getElem hl] at this
      rw [List.getElem?_eq_getElem hl]
      simpa using this.symm
    obtain ⟨ho, c, e, h1, h2, h3⟩ := hR.heap.blk _ _ hb
    have hmem : bs[i] ∈ bs := List.getElem_mem hib
    have hidx : bs.idxOf bs[i] = i := hnd.idxOf_getElem i hib
    refine ⟨?_, c, e, ?_, by simpa using h2, fun j hj hj' => ?_⟩
    · show (κ (ρ (sig n bs i))).cl bs L = .wr i
      rw [hsigb i hib, ho]
      simp [BK.cl, hmem, hidx]
    · show w.heap[ρ (sig n bs i)]? = _
      rw [hsigb i hib]; exact h1
    · have h4 := h3 j (by simpa using hj) hj'
      simp only [List.getElem_map] at h4
      refine RepC.unren (σ := sig n bs) (ρ := ρ) (n := Hs.length) (grow_fits fun g m hf => BK.cl_fits hf) (fun b _ => rfl) (okB_mem hHok hi (List.getElem_mem hj)) (fun _ _ _ _ => ⟨grow_fits fun g m hf => BK.cl_fits hf, fun g m hg hk => ⟨?_, rfl⟩⟩) h4
      show (κ g).cl bs L = _
      rw [hk]
      simp [BK.cl, hmem, hidx]
  · obtain ⟨hi1, hi2⟩ := List.getElem?_eq_some_iff.1 hi
    intro x hx
    exact okB_mem hHok hi hx
  rintro e w' ⟨v, κ', ρ', rfl, hr, hH, hfr, hρ⟩
  -- the caller's marks come back
  let κ2 : Nat → BK := fun g => if g < w.heap.size ∧ ((κ g).cl bs L).isLock = true then κ g else (κ' g).bk (sig n bs)
  let ρ2 : Nat → Nat := fun b => if b < n then ρ b else ρ' (bs.length + (b - n))
  have hmask : ∀ g, g < w.heap.size → ((κ g).cl bs L).isLock = true → κ2 g = κ g ∧ κ' g = (κ g).cl bs L ∧ w'.heap[g]? = w.heap[g]? := fun g hg hm => by
    refine ⟨if_pos ⟨hg, hm⟩, ?_⟩
    cases hk : (κ g).cl bs L with
    | lock m => exact hfr.lock g m hg hk
    | wr b => rw [hk] at hm; cases hm
    | tip m l => rw [hk] at hm; cases hm
  have hopen : ∀ g, (∀ m, κ' g ≠ .lock m) → κ2 g = (κ' g).bk (sig n bs) := fun g hno => by
    refine if_neg fun ⟨hg, hm⟩ => ?_
    obtain ⟨_, h1, _⟩ := hmask g hg hm
    cases hk : (κ g).cl bs L with
    | lock m => exact hno m (h1.trans hk)
    | wr b => rw [hk] at hm; cases hm
    | tip m l => rw [hk] at hm; cases hm
  have hgr : Grow w κ w' κ2 := by
    refine ⟨hfr.size, fun g o x hg hf hx => hfr.grow.cell g o x hg (BK.cl_fits hf) hx, fun g m hg hf => ?_⟩
    by_cases hm : ((κ g).cl bs L).isLock = true
    · rw [(hmask g hg hm).1]; exact hf
    · show (if g < w.heap.size ∧ ((κ g).cl bs L).isLock = true then κ g else (κ' g).bk (sig n bs)).fits m
      rw [if_neg (fun h => hm h.2)]
      exact BK.bk_fits.2 (hfr.grow.fits g m hg (BK.cl_fits hf))
  have hgr2 : L = [] → Grow w' κ' w' κ2 := fun hL => grow_fits fun g m hf => by
    by_cases hm : g < w.heap.size ∧ ((κ g).cl bs L).isLock = true
    · obtain ⟨h1, h2, _⟩ := hmask g hm.1 hm.2
      rw [h1]
      rw [h2, hL] at hf
      exact BK.fits_cl hf
    · show (if g < w.heap.size ∧ ((κ g).cl bs L).isLock = true then κ g else (κ' g).bk (sig n bs)).fits m
      rw [if_neg hm]
      exact BK.bk_fits.2 hf
  have hlen := hO.len
  have hHl' : bs.length ≤ Hs'.length := by omega
  have hpl : (putBack s.H bs (Hs'.map (renB (sig n bs)))).length = n + (Hs'.length - bs.length) := by
    rw [putBack_len _ _ _ (by simpa using hHl'), hn]; simp
  have hrho : ∀ b, b < Hs'.length → ρ2 (sig n bs b) = ρ' b := fun b hb => by
    by_cases h : b < bs.length
    · rw [hsigb b h]
      have h1 := hlt _ (List.getElem_mem h)
      show (if bs[b] < n then ρ bs[b] else _) = _
      rw [if_pos h1, hρ b (by omega), hsigb b h]
    · have e1 : sig n bs b = n + (b - bs.length) := by simp [sig, show ¬ b < bs.length from h]
      rw [e1]
      show (if n + (b - bs.length) < n then _ else ρ' (bs.length + (n + (b - bs.length) - n))) = _
      rw [if_neg (by omega)]
      congr 1; omega
  have hsig : ∀ b, b < Hs'.length → sig n bs b < n + (Hs'.length - bs.length) := fun b hb => by
    by_cases h : b < bs.length
    · rw [hsigb b h]
      have h1 := hlt _ (List.getElem_mem h)
      omega
    · simp only [sig, List.getD_eq_getElem?_getD, List.getElem?_eq_none (Nat.le_of_not_lt h), Option.getD_none]; omega
  have hrk : (r.ren (sig n bs)).ok (putBack s.H bs (Hs'.map (renB (sig n bs)))).length = true := by
    rw [hpl]; exact AVal.ren_ok hsig hO.rok
  have hbr : Grow w' κ' w' κ2 ∨ r.bare = true := hbare.imp hgr2 (·.1)
  refine ⟨v, κ2, ρ2, rfl, ⟨hR.defers, fun i hi' => ?_, hR.out, fun i => ?_, ⟨fun b cs hb => ?_, fun b cs hb x hx => ?_⟩⟩, fun l => RepA.back hrho hO.flat hO.rok hbr (hr l), hrk, ⟨hfr.os, hfr.tape, hfr.output, hfr.size, fun g m hg hk => ?_, hgr⟩, fun b hb => if_pos hb⟩
  · refine RepA.keep (n := n) hgr (fun b hb => if_pos hb) (hn ▸ hR.ok i) (fun _ _ _ _ => ⟨hgr, fun g m hg hk => ?_⟩) (hR.slot i hi')
    obtain ⟨h1, _, h3⟩ := hmask g hg (by rw [hk]; rfl)
    exact ⟨h1.trans hk, h3⟩
  · show (s.sl i).ok (putBack s.H bs (Hs'.map (renB (sig n bs)))).length = true
    rw [hpl]
    exact AVal.ok_le (by omega) _ (hn ▸ hR.ok i)
  · rcases putBack_get bs s.H _ hnd (fun b hb => hn ▸ hlt b hb) (by simpa using hHl') b _ hb with ⟨i, h1, h2⟩ | ⟨h1, h2⟩ | ⟨h1, h2⟩
    · -- a block that was handed over
      rw [List.getElem?_map] at h2
      obtain ⟨y, hy, hy2⟩ := Option.map_eq_some_iff.1 h2
      cases y with
      | none => cases hy2
      | some ds =>
        injection hy2 with hy2
        obtain ⟨hib, hbi⟩ := List.getElem?_eq_some_iff.1 h1
        obtain ⟨ho, c, e, k1, k2, k3⟩ := hH.blk i ds hy
        have hi' : i < Hs'.length := by omega
        have hrb : ρ2 b = ρ' i := by rw [← hbi, ← hsigb i hib]; exact hrho i hi'
        refine ⟨?_, c, e, by rw [hrb]; exact k1, by rw [← hy2]; simpa using k2, fun j hj hj' => ?_⟩
        · rw [hrb, hopen _ (fun m => by rw [ho]; intro e; cases e), ho]
          simp [BK.bk, hsigb i hib, hbi]
        · subst hy2
          have hj2 : j < ds.length := by simpa using hj
          simp only [List.getElem_map]
          have hok2 := okB_mem hHok' hy (List.getElem_mem hj2)
          rcases hbare with hL | hL
          · refine RepC.ren (hgr2 hL) hrho hok2 (fun _ _ _ _ => ⟨hgr2 hL, fun g m hg hk => ⟨?_, rfl⟩⟩) (k3 j hj2 hj')
            rw [hopen g (fun m => by rw [hk]; intro e; cases e), hk]
            simp [BK.bk, hsigb i hib, hbi]
          · exact RepC.bare hrho (List.all_eq_true.1 (show ds.all CVal.bare = true from List.all_eq_true.1 hL.2 _ (List.mem_of_getElem? hy)) _ (List.getElem_mem hj2)) hok2 (k3 j hj2 hj')
    · -- a block of the caller's own
      obtain ⟨ho, c, e, k1, k2, k3⟩ := hR.heap.blk b cs h2
      have hbn : b < n := by rw [← hn]; exact (List.getElem?_eq_some_iff.1 h2).1
      have hrb : ρ2 b = ρ b := if_pos hbn
      have hl1 := lt_of_heap k1
      obtain ⟨m1, _, m3⟩ := hmask (ρ b) hl1 (by rw [ho]; simp only [BK.cl, h1, if_false]; split <;> rfl)
      refine ⟨by rw [hrb, m1]; exact ho, c, e, by rw [hrb, m3]; exact k1, k2, fun j hj hj' => ?_⟩
      refine RepC.keep (n := n) hgr (fun b hb => if_pos hb) (hn ▸ hR.heap.ok b cs h2 _ (List.getElem_mem hj)) (fun _ _ _ _ => ⟨hgr, fun g m hg hk => ?_⟩) (k3 j hj hj')
      obtain ⟨q1, _, q3⟩ := hmask g hg (by rw [hk]; simp [BK.cl, h1, BK.isLock])
      exact ⟨q1.trans hk, q3⟩
    · -- a new block
      rw [List.getElem?_map] at h2
      obtain ⟨y, hy, hy2⟩ := Option.map_eq_some_iff.1 h2
      cases y with
      | none => cases hy2
      | some ds =>
        injection hy2 with hy2
        rw [hn] at h1 hy
        obtain ⟨ho, c, e, k1, k2, k3⟩ := hH.blk _ ds hy
        have hi' : bs.length + (b - n) < Hs'.length := (List.getElem?_eq_some_iff.1 hy).1
        have hsb : sig n bs (bs.length + (b - n)) = b := by
          simp only [sig, List.getD_eq_getElem?_getD, List.getElem?_eq_none (Nat.le_add_right _ _), Option.getD_none]; omega
        have hrb : ρ2 b = ρ' (bs.length + (b - n)) := if_neg (by omega)
        refine ⟨?_, c, e, by rw [hrb]; exact k1, by rw [← hy2]; simpa using k2, fun j hj hj' => ?_⟩
        · rw [hrb, hopen _ (fun m => by rw [ho]; intro e; cases e), ho]
          simp [BK.bk, hsb]
        · subst hy2
          have hj2 : j < ds.length := by simpa using hj
          simp only [List.getElem_map]
          have hok2 := okB_mem hHok' hy (List.getElem_mem hj2)
          rcases hbare with hL | hL
          · refine RepC.ren (hgr2 hL) hrho hok2 (fun _ _ _ _ => ⟨hgr2 hL, fun g m hg hk => ⟨?_, rfl⟩⟩) (k3 j hj2 hj')
            rw [hopen g (fun m => by rw [hk]; intro e; cases e), hk]
            simp [BK.bk, hsb]
          · exact RepC.bare hrho (List.all_eq_true.1 (show ds.all CVal.bare = true from List.all_eq_true.1 hL.2 _ (List.mem_of_getElem? hy)) _ (List.getElem_mem hj2)) hok2 (k3 j hj2 hj')
  · rw [show ({ s with H := putBack s.H bs (Hs'.map (renB (sig n bs))) } : St).H.length = n + (Hs'.length - bs.length) from hpl]
    rcases putBack_get bs s.H _ hnd (fun b hb => hn ▸ hlt b hb) (by simpa using hHl') b _ hb with ⟨i, h1, h2⟩ | ⟨h1, h2⟩ | ⟨h1, h2⟩
    · rw [List.getElem?_map] at h2
      obtain ⟨y, hy, hy2⟩ := Option.map_eq_some_iff.1 h2
      cases y with
      | none => cases hy2
      | some ds =>
        injection hy2 with hy2
        subst hy2
        obtain ⟨z, hz, rfl⟩ := List.mem_map.1 hx
        exact CVal.ren_ok hsig (okB_mem hHok' hy hz)
    · exact CVal.ok_le (by omega) x (hn ▸ hR.heap.ok b cs h2 x hx)
    · rw [List.getElem?_map] at h2
      obtain ⟨y, hy, hy2⟩ := Option.map_eq_some_iff.1 h2
      cases y with
      | none => cases hy2
      | some ds =>
        injection hy2 with hy2
        subst hy2
        obtain ⟨z, hz, rfl⟩ := List.mem_map.1 hx
        exact CVal.ren_ok hsig (okB_mem hHok' hy hz)
  · obtain ⟨h1, _, h3⟩ := hmask g hg (by rw [hk]; rfl)
    exact ⟨h1.trans hk, h3⟩
end
end Go.Proofs.Ythnfliopmjpdmaa.Av
