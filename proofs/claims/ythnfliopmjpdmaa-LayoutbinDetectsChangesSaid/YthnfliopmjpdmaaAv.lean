/- Values without addresses: what a value of the program stands for, in a world in which some blocks are locked, some grow at their end and some are written. -/
import Derived.Test.YthnfliopmjpdmaaProg
import Derived.WalkKit
import Derived.Below
import Derived.Orders
namespace Go.Proofs.Ythnfliopmjpdmaa.Av
set_option linter.unusedVariables false

/-- Data that nobody writes any more. -/
inductive FVal where
  | v (x : Value)
  | nils
  | row (cs : List FVal) (len : Nat)
/-- What one cell holds: data; a place in a row of data; a place in a block that may be written; a slice of such a block; a slice that grows at its end, with one holder. -/
inductive CVal where
  | f (x : FVal)
  | ip (cs : List FVal) (off : Nat)
  | ptr (b off : Nat)
  | arr (b off len cap : Nat)
  | tip (sz : Nat) (cs : List FVal) (len : Nat)
  | und
  | any
inductive TVal where
  | c (x : CVal)
  | agg (cs : List CVal)
inductive AVal where
  | c (x : CVal)
  | agg (cs : List CVal)
  | tup (l : List TVal)
/-- Where a slice that grows is held. -/
inductive Loc where
  | slot (i : Nat)
  | cell (b i : Nat)
/-- What a block of the world is to the call: locked (up to some length), growing, or written. -/
inductive BK where
  | lock (n : Option Nat)
  | tip (n : Nat) (l : Loc)
  | wr (b : Nat)
def BK.fits : BK → Nat → Prop
  | .lock none, _ => True
  | .lock (some m), n => n ≤ m
  | .tip m _, n => n ≤ m
  | .wr _, n => n ≤ 0
theorem BK.fits_le {k : BK} {m n : Nat} (h : k.fits n) (hm : m ≤ n) : k.fits m := by
  cases k with
  | lock o => cases o <;> simp [BK.fits] at *; omega
  | tip a l => simp [BK.fits] at *; omega
  | wr b => simp [BK.fits] at *; omega

inductive RepF (w : World) (κ : Nat → BK) : FVal → Value → Prop
  | v (x : Value) (h : x.oneCell' = true) : RepF w κ (.v x) x
  | nils : RepF w κ .nils (.slice none 0 0)
  | row (cs : List FVal) (len g o cap : Nat) (xs : Nat → Value) (hc : ∀ i, i < cs.length → w.cell? ⟨g, o + i, none⟩ = some (xs i))
      (hr : ∀ i (h : i < cs.length), RepF w κ cs[i] (xs i)) (hf : cs ≠ [] → g < w.heap.size ∧ (κ g).fits (o + cs.length)) (hl : len ≤ cap) :
      RepF w κ (.row cs len) (.slice (some ⟨g, o, none⟩) len cap)
  | nil0 : RepF w κ (.row [] 0) (.slice none 0 0)
/-- A row of data lies there. -/
structure RowAt (w : World) (κ : Nat → BK) (g o : Nat) (cs : List FVal) : Prop where
  cell : ∀ i (h : i < cs.length), ∃ x, w.cell? ⟨g, o + i, none⟩ = some x ∧ RepF w κ cs[i] x
  fits : cs ≠ [] → g < w.heap.size ∧ (κ g).fits (o + cs.length)
theorem repF_row {w : World} {κ : Nat → BK} {cs : List FVal} {len : Nat} {v : Value} : RepF w κ (.row cs len) v ↔ (∃ g o cap, v = .slice (some ⟨g, o, none⟩) len cap ∧ len ≤ cap ∧ RowAt w κ g o cs) ∨ (cs = [] ∧ len = 0 ∧ v = .slice none 0 0) := by
  constructor
  · intro h
    cases h with
    | row _ _ g o cap xs hc hr hf hl => exact .inl ⟨g, o, cap, rfl, hl, fun i h => ⟨xs i, hc i h, hr i h⟩, hf⟩
    | nil0 => exact .inr ⟨rfl, rfl, rfl⟩
  · rintro (⟨g, o, cap, rfl, hl, hc, hf⟩ | ⟨rfl, rfl, rfl⟩)
    rotate_left
    · exact .nil0
    refine .row cs len g o cap (fun i => if h : i < cs.length then (hc i h).choose else default) (fun i h => ?_) (fun i h => ?_) hf hl
    · simp only [h, dite_true]; exact (hc i h).choose_spec.1
    · simp only [h, dite_true]; exact (hc i h).choose_spec.2
theorem repF_rowI {w : World} {κ : Nat → BK} {cs : List FVal} {len : Nat} {v : Value} (h : ∃ g o cap, v = .slice (some ⟨g, o, none⟩) len cap ∧ len ≤ cap ∧ RowAt w κ g o cs) : RepF w κ (.row cs len) v := repF_row.2 (.inl h)
theorem repF_v {w : World} {κ : Nat → BK} {x v : Value} : RepF w κ (.v x) v ↔ v = x ∧ x.oneCell' = true := ⟨fun h => by cases h; exact ⟨rfl, ‹_›⟩, fun h => h.1 ▸ .v _ (h.1 ▸ h.2)⟩
theorem repF_nils {w : World} {κ : Nat → BK} {v : Value} : RepF w κ .nils v ↔ v = .slice none 0 0 := ⟨fun h => by cases h; rfl, fun h => h ▸ .nils⟩

/-- The world grows: what is data stays. -/
structure Grow (w : World) (κ : Nat → BK) (w' : World) (κ' : Nat → BK) : Prop where
  size : w.heap.size ≤ w'.heap.size
  cell : ∀ g o x, g < w.heap.size → (κ g).fits (o + 1) → w.cell? ⟨g, o, none⟩ = some x → w'.cell? ⟨g, o, none⟩ = some x
  fits : ∀ g n, g < w.heap.size → (κ g).fits n → (κ' g).fits n
theorem Grow.refl (w : World) (κ : Nat → BK) : Grow w κ w κ := ⟨Nat.le_refl _, fun _ _ _ _ _ h => h, fun _ _ _ h => h⟩
theorem Grow.trans {a b c : World} {α β γ : Nat → BK} (h : Grow a α b β) (k : Grow b β c γ) : Grow a α c γ :=
  ⟨Nat.le_trans h.size k.size, fun g o x hg hf hx => k.cell g o x (Nat.lt_of_lt_of_le hg h.size) (h.fits g _ hg hf) (h.cell g o x hg hf hx),
   fun g n hg hf => k.fits g n (Nat.lt_of_lt_of_le hg h.size) (h.fits g n hg hf)⟩
theorem RepF.grow {w w' : World} {κ κ' : Nat → BK} (G : Grow w κ w' κ') {x : FVal} {v : Value} (h : RepF w κ x v) : RepF w' κ' x v := by
  induction h with
  | v x hx => exact .v x hx
  | nils => exact .nils
  | nil0 => exact .nil0
  | row cs len g o cap xs hc hr hf hl ih =>
    refine .row cs len g o cap xs (fun i hi => ?_) ih (fun hne => ?_) hl
    · obtain ⟨hg, hfit⟩ := hf (by intro e; rw [e] at hi; simp at hi)
      exact G.cell g (o + i) _ hg (BK.fits_le hfit (by omega)) (hc i hi)
    · obtain ⟨hg, hfit⟩ := hf hne
      exact ⟨Nat.lt_of_lt_of_le hg G.size, G.fits g _ hg hfit⟩
theorem RepF.one {w : World} {κ : Nat → BK} {x : FVal} {v : Value} (h : RepF w κ x v) : v.oneCell' = true := by
  cases h with
  | v x hx => exact hx
  | nils => rfl
  | row => rfl
  | nil0 => rfl
theorem RowAt.grow {w w' : World} {κ κ' : Nat → BK} (G : Grow w κ w' κ') {g o : Nat} {cs : List FVal} (h : RowAt w κ g o cs) : RowAt w' κ' g o cs := by
  refine ⟨fun i hi => ?_, fun hne => ?_⟩
  · obtain ⟨hg, hfit⟩ := h.fits (by intro e; rw [e] at hi; simp at hi)
    obtain ⟨x, hx, hr⟩ := h.cell i hi
    exact ⟨x, G.cell g (o + i) _ hg (BK.fits_le hfit (by omega)) hx, hr.grow G⟩
  · obtain ⟨hg, hfit⟩ := h.fits hne
    exact ⟨Nat.lt_of_lt_of_le hg G.size, G.fits g _ hg hfit⟩
theorem RowAt.take {w : World} {κ : Nat → BK} {g o : Nat} {cs : List FVal} (h : RowAt w κ g o cs) (n : Nat) : RowAt w κ g o (cs.take n) := by
  refine ⟨fun i hi => ?_, fun hne => ?_⟩
  · rw [List.length_take] at hi
    obtain ⟨x, hx, hr⟩ := h.cell i (by omega)
    exact ⟨x, hx, by rw [List.getElem_take]; exact hr⟩
  · obtain ⟨hg, hfit⟩ := h.fits (by intro e; rw [e] at hne; simp at hne)
    exact ⟨hg, BK.fits_le hfit (by rw [List.length_take]; omega)⟩
theorem RowAt.drop {w : World} {κ : Nat → BK} {g o : Nat} {cs : List FVal} (h : RowAt w κ g o cs) (n : Nat) (hn : n ≤ cs.length) : RowAt w κ g (o + n) (cs.drop n) := by
  refine ⟨fun i hi => ?_, fun hne => ?_⟩
  · rw [List.length_drop] at hi
    obtain ⟨x, hx, hr⟩ := h.cell (n + i) (by omega)
    exact ⟨x, by rw [show o + n + i = o + (n + i) by omega]; exact hx, by rw [List.getElem_drop]; exact hr⟩
  · obtain ⟨hg, hfit⟩ := h.fits (by intro e; rw [e] at hne; simp at hne)
    exact ⟨hg, BK.fits_le hfit (by rw [List.length_drop]; omega)⟩

/-- The slice that grows, held at l: its block is the holder's own. -/
structure TipAt (w : World) (κ : Nat → BK) (l : Loc) (sz : Nat) (cs : List FVal) (len : Nat) (g cap : Nat) : Prop where
  row : RowAt w κ g 0 cs
  lt : g < w.heap.size
  cut : cs.length = len * sz
  own : κ g = .tip cs.length l
  le : len ≤ cap
  blk : ∃ c e, w.heap[g]? = some (.cells c e (0, 0)) ∧ c.size = cap * sz
def RepC (w : World) (κ : Nat → BK) (ρ : Nat → Nat) (l : Loc) : CVal → Value → Prop
  | .f x, v => RepF w κ x v
  | .ip cs off, v => ∃ g o, v = .pointer (some ⟨g, o + off, none⟩) ∧ RowAt w κ g o cs
  | .ptr b off, v => v = .pointer (some ⟨ρ b, off, none⟩)
  | .arr b off len cap, v => v = .slice (some ⟨ρ b, off, none⟩) len cap
  | .tip sz cs len, v => (∃ g cap, v = .slice (some ⟨g, 0, none⟩) len cap ∧ TipAt w κ l sz cs len g cap) ∨ (cs = [] ∧ len = 0 ∧ v = .slice none 0 0)
  | .und, v => v = undef
  | .any, _ => True
/-- No slice that grows. -/
def CVal.flat : CVal → Bool
  | .tip .. => false
  | _ => true
def RepT (w : World) (κ : Nat → BK) (ρ : Nat → Nat) (l : Loc) : TVal → Value → Prop
  | .c x, v => x.flat = true ∧ RepC w κ ρ l x v
  | .agg cs, v => ∃ vs : Array Value, v = .agg vs ∧ vs.size = cs.length ∧ ∀ i (h : i < cs.length) (h' : i < vs.size), cs[i].flat = true ∧ RepC w κ ρ l cs[i] vs[i]
def RepA (w : World) (κ : Nat → BK) (ρ : Nat → Nat) (l : Loc) : AVal → Value → Prop
  | .c x, v => RepC w κ ρ l x v
  | .agg cs, v => RepT w κ ρ l (.agg cs) v
  | .tup ts, v => ∃ vs : Array Value, v = .tuple vs ∧ vs.size = ts.length ∧ ∀ i (h : i < ts.length) (h' : i < vs.size), RepT w κ ρ l ts[i] vs[i]
/-- The numbers of blocks that a value names lie below n. -/
def CVal.ok (n : Nat) : CVal → Bool
  | .ptr b _ => decide (b < n)
  | .arr b _ _ _ => decide (b < n)
  | _ => true
def TVal.ok (n : Nat) : TVal → Bool
  | .c x => x.ok n
  | .agg cs => cs.all (CVal.ok n)
def AVal.ok (n : Nat) : AVal → Bool
  | .c x => x.ok n
  | .agg cs => cs.all (CVal.ok n)
  | .tup ts => ts.all (TVal.ok n)
theorem CVal.ok_le {n m : Nat} (h : n ≤ m) : ∀ x : CVal, x.ok n = true → x.ok m = true
  | .ptr b _, k => by simp [CVal.ok] at *; omega
  | .arr b _ _ _, k => by simp [CVal.ok] at *; omega
  | .f _, _ => rfl
  | .ip _ _, _ => rfl
  | .tip _ _ _, _ => rfl
  | .und, _ => rfl
  | .any, _ => rfl
theorem TVal.ok_le {n m : Nat} (h : n ≤ m) : ∀ x : TVal, x.ok n = true → x.ok m = true
  | .c x, k => x.ok_le h k
  | .agg cs, k => by simp only [TVal.ok, List.all_eq_true] at *; exact fun x hx => x.ok_le h (k x hx)
theorem AVal.ok_le {n m : Nat} (h : n ≤ m) : ∀ x : AVal, x.ok n = true → x.ok m = true
  | .c x, k => x.ok_le h k
  | .agg cs, k => by simp only [AVal.ok, List.all_eq_true] at *; exact fun x hx => x.ok_le h (k x hx)
  | .tup cs, k => by simp only [AVal.ok, List.all_eq_true] at *; exact fun x hx => x.ok_le h (k x hx)

/-- What was held at l stays held at l. -/
structure Keep (w : World) (κ : Nat → BK) (w' : World) (κ' : Nat → BK) (l l' : Loc) : Prop where
  grow : Grow w κ w' κ'
  tip : ∀ g n, g < w.heap.size → κ g = .tip n l → κ' g = .tip n l' ∧ w'.heap[g]? = w.heap[g]?
theorem RepC.keep {w w' : World} {κ κ' : Nat → BK} {ρ ρ' : Nat → Nat} {l l' : Loc} {n : Nat} (K : Grow w κ w' κ') (hρ : ∀ b, b < n → ρ' b = ρ b) :
    ∀ {x : CVal} {v : Value}, x.ok n = true → (∀ sz cs len, x = .tip sz cs len → Keep w κ w' κ' l l') → RepC w κ ρ l x v → RepC w' κ' ρ' l' x v
  | .f x, v, _, _, h => RepF.grow K h
  | .ip cs off, v, _, _, h => by obtain ⟨g, o, rfl, hr⟩ := h; exact ⟨g, o, rfl, hr.grow K⟩
  | .ptr b off, v, hn, _, h => by
    have hb : b < n := by simpa [CVal.ok] using hn
    show v = _
    rw [hρ b hb]; exact h
  | .arr b off len cap, v, hn, _, h => by
    have hb : b < n := by simpa [CVal.ok] using hn
    show v = _
    rw [hρ b hb]; exact h
  | .tip sz cs len, v, _, ht, h => by
    obtain ⟨g, cap, rfl, hT⟩ | h := h
    rotate_left
    · exact .inr h
    left
    have hk := (ht _ _ _ rfl)
    obtain ⟨h1, h2⟩ := hk.tip g _ hT.lt hT.own
    exact ⟨g, cap, rfl, hT.row.grow K, Nat.lt_of_lt_of_le hT.lt K.size, hT.cut, h1, hT.le, by rw [h2]; exact hT.blk⟩
  | .und, _, _, _, h => h
  | .any, _, _, _, _ => trivial
theorem RepT.keep {w w' : World} {κ κ' : Nat → BK} {ρ ρ' : Nat → Nat} {l l' : Loc} {n : Nat} (K : Grow w κ w' κ') (hρ : ∀ b, b < n → ρ' b = ρ b) :
    ∀ {x : TVal} {v : Value}, x.ok n = true → RepT w κ ρ l x v → RepT w' κ' ρ' l' x v
  | .c x, v, hn, h => ⟨h.1, RepC.keep K hρ hn (fun _ _ _ e => by rw [e] at h; cases h.1) h.2⟩
  | .agg cs, v, hn, h => by
    obtain ⟨vs, rfl, hs, hi⟩ := h
    refine ⟨vs, rfl, hs, fun i h h' => ⟨(hi i h h').1, RepC.keep K hρ (List.all_eq_true.1 hn _ (List.getElem_mem h)) (fun _ _ _ e => ?_) (hi i h h').2⟩⟩
    have := (hi i h h').1
    rw [e] at this; cases this
theorem RepA.keep {w w' : World} {κ κ' : Nat → BK} {ρ ρ' : Nat → Nat} {l l' : Loc} {n : Nat} (K : Grow w κ w' κ') (hρ : ∀ b, b < n → ρ' b = ρ b) :
    ∀ {x : AVal} {v : Value}, x.ok n = true → (∀ sz cs len, x = .c (.tip sz cs len) → Keep w κ w' κ' l l') → RepA w κ ρ l x v → RepA w' κ' ρ' l' x v
  | .c x, v, hn, ht, h => RepC.keep K hρ hn (fun sz cs len e => ht sz cs len (by rw [e])) h
  | .agg cs, v, hn, _, h => RepT.keep (x := .agg cs) K hρ hn h
  | .tup ts, v, hn, _, h => by
    obtain ⟨vs, rfl, hs, hi⟩ := h
    exact ⟨vs, rfl, hs, fun i h h' => RepT.keep K hρ (List.all_eq_true.1 hn _ (List.getElem_mem h)) (hi i h h')⟩
/-- The slice that grows, taken as data. -/
def CVal.dem : CVal → CVal
  | .tip _ cs len => .f (.row cs len)
  | x => x
def AVal.dem : AVal → AVal
  | .c x => .c x.dem
  | x => x
theorem RepC.dem {w : World} {κ : Nat → BK} {ρ : Nat → Nat} {l l' : Loc} : ∀ {x : CVal} {v : Value}, RepC w κ ρ l x v → RepC w κ ρ l' x.dem v
  | .f x, v, h => h
  | .ip cs off, v, h => h
  | .ptr b off, v, h => h
  | .arr b off len cap, v, h => h
  | .tip sz cs len, v, h => by
    obtain ⟨g, cap, rfl, hT⟩ | ⟨rfl, rfl, rfl⟩ := h
    · exact repF_rowI ⟨g, 0, cap, rfl, hT.le, hT.row⟩
    · exact .nil0
  | .und, _, h => h
  | .any, _, _ => trivial
theorem CVal.dem_flat (x : CVal) : x.dem.flat = true := by cases x <;> rfl
theorem CVal.dem_ok {n : Nat} (x : CVal) (h : x.ok n = true) : x.dem.ok n = true := by cases x <;> first | exact h | rfl
theorem CVal.flat_dem {x : CVal} (h : x.flat = true) : x.dem = x := by cases x <;> first | rfl | cases h
theorem RepC.loc {w : World} {κ : Nat → BK} {ρ : Nat → Nat} {l l' : Loc} {x : CVal} {v : Value} (hx : x.flat = true) (h : RepC w κ ρ l x v) : RepC w κ ρ l' x v := by
  have := RepC.dem (l' := l') h
  rwa [CVal.flat_dem hx] at this
theorem RepT.loc {w : World} {κ : Nat → BK} {ρ : Nat → Nat} {l l' : Loc} : ∀ {x : TVal} {v : Value}, RepT w κ ρ l x v → RepT w κ ρ l' x v
  | .c x, v, h => ⟨h.1, h.2.loc h.1⟩
  | .agg cs, v, h => by
    obtain ⟨vs, rfl, hs, hi⟩ := h
    exact ⟨vs, rfl, hs, fun i h h' => ⟨(hi i h h').1, (hi i h h').2.loc (hi i h h').1⟩⟩
theorem RepA.dem {w : World} {κ : Nat → BK} {ρ : Nat → Nat} {l l' : Loc} : ∀ {x : AVal} {v : Value}, RepA w κ ρ l x v → RepA w κ ρ l' x.dem v
  | .c x, v, h => RepC.dem (l := l) (l' := l') (x := x) h
  | .agg cs, v, h => RepT.loc (x := .agg cs) h
  | .tup ts, v, h => by
    obtain ⟨vs, rfl, hs, hi⟩ := h
    exact ⟨vs, rfl, hs, fun i h h' => (hi i h h').loc⟩
theorem AVal.dem_ok {n : Nat} (x : AVal) (h : x.ok n = true) : x.dem.ok n = true := by
  cases x with
  | c x => exact x.dem_ok h
  | agg cs => exact h
  | tup ts => exact h
/-- Nothing is an empty row. -/
def CVal.nz : CVal → CVal
  | .f .nils => .f (.row [] 0)
  | x => x
def TVal.nz : TVal → TVal
  | .c x => .c x.nz
  | .agg cs => .agg (cs.map CVal.nz)
def AVal.nz : AVal → AVal
  | .c x => .c x.nz
  | .agg cs => .agg (cs.map CVal.nz)
  | .tup ts => .tup (ts.map TVal.nz)
theorem CVal.nz_flat (x : CVal) : x.nz.flat = x.flat := by
  cases x with
  | f y => cases y <;> rfl
  | _ => rfl
theorem CVal.nz_ok {n : Nat} (x : CVal) : x.nz.ok n = x.ok n := by
  cases x with
  | f y => cases y <;> rfl
  | _ => rfl
theorem map_nz_ok {n : Nat} (l : List CVal) : (l.map CVal.nz).all (CVal.ok n) = l.all (CVal.ok n) := by
  induction l with
  | nil => rfl
  | cons x l ih => simp only [List.map_cons, List.all_cons, ih, CVal.nz_ok]
theorem TVal.nz_ok {n : Nat} (x : TVal) : x.nz.ok n = x.ok n := by
  cases x with
  | c x => exact x.nz_ok
  | agg cs => exact map_nz_ok cs
theorem AVal.nz_ok {n : Nat} (x : AVal) : x.nz.ok n = x.ok n := by
  cases x with
  | c x => exact x.nz_ok
  | agg cs => exact map_nz_ok cs
  | tup ts =>
    simp only [AVal.nz, AVal.ok]
    induction ts with
    | nil => rfl
    | cons x l ih => simp only [List.map_cons, List.all_cons, ih, TVal.nz_ok]
theorem RepC.nz {w : World} {κ : Nat → BK} {ρ : Nat → Nat} {l : Loc} {x : CVal} {v : Value} (h : RepC w κ ρ l x v) : RepC w κ ρ l x.nz v := by
  cases x with
  | f y =>
    cases y with
    | nils => have h : RepF w κ .nils v := h; show RepF w κ (.row [] 0) v; rw [repF_nils.1 h]; exact .nil0
    | _ => exact h
  | _ => exact h
theorem RepT.nz {w : World} {κ : Nat → BK} {ρ : Nat → Nat} {l : Loc} {x : TVal} {v : Value} (h : RepT w κ ρ l x v) : RepT w κ ρ l x.nz v := by
  cases x with
  | c x => exact ⟨by rw [CVal.nz_flat]; exact h.1, h.2.nz⟩
  | agg cs =>
    obtain ⟨vs, rfl, hs, hi⟩ := h
    refine ⟨vs, rfl, by simpa using hs, fun i h h' => ?_⟩
    have hi2 : i < cs.length := by simpa using h
    rw [List.getElem_map, CVal.nz_flat]
    exact ⟨(hi i hi2 h').1, (hi i hi2 h').2.nz⟩
theorem RepA.nz {w : World} {κ : Nat → BK} {ρ : Nat → Nat} {l : Loc} {x : AVal} {v : Value} (h : RepA w κ ρ l x v) : RepA w κ ρ l x.nz v := by
  cases x with
  | c x => exact RepC.nz (x := x) h
  | agg cs => exact RepT.nz (x := .agg cs) h
  | tup ts =>
    obtain ⟨vs, rfl, hs, hi⟩ := h
    refine ⟨vs, rfl, by simpa using hs, fun i h h' => ?_⟩
    have hi2 : i < ts.length := by simpa using h
    rw [List.getElem_map]
    exact (hi i hi2 h').nz
theorem AVal.nz_dem (x : AVal) : x.dem.nz.dem = x.dem.nz := by
  cases x with
  | c x =>
    show AVal.c _ = AVal.c _
    rw [CVal.flat_dem (by rw [CVal.nz_flat]; exact CVal.dem_flat x)]
  | agg cs => rfl
  | tup ts => rfl
/-- What is handed to a callee. -/
def AVal.h (x : AVal) : AVal := x.dem.nz
theorem AVal.h_dem (x : AVal) : x.h.dem = x.h := x.nz_dem
theorem AVal.h_ok {n : Nat} (x : AVal) (h : x.ok n = true) : x.h.ok n = true := by unfold AVal.h; rw [AVal.nz_ok]; exact x.dem_ok h
end Go.Proofs.Ythnfliopmjpdmaa.Av
