/- What the claims use of their texts: Av, AvRel, AvOp, AvOp2, AvOp3, AvOp4, AvOp5, AvOp6, AvW, AvC, AvO, AvW2, AvFn. -/
import Derived.Test.YthnfliopmjpdmaaProg
import Derived.WalkKit
import Derived.Below
import Derived.Orders
import Derived.Deep.MidRow
import Derived.Laws.MakeOwn
import Derived.Deep.AppendSrc
import Derived.Deep.Upon
import Derived.Laws.Tables
import Derived.Laws.IdiomStrings
import Derived.Tactics
import Derived.Lib.Hide
import Derived.Outline
import Derived.LoopTactic
import Derived.RowKit3
import Derived.Deep.QuietTactic
import Derived.BigQuiet
import Derived.Maps.Own
import Derived.Deep.OwnRows
import Derived.Deep.AppendLies
import Derived.StillTail
import Derived.Deep.Quiet
import Derived.RegionTactic
import Derived.ChangeAlike
import Derived.Deep.RegionLaw
import Derived.Maps.OwnOps
import Derived.Maps.Views
import Derived.StringKeys
import Derived.WalkLawsBesides
import Derived.Laws.BitsAllLaws
import Derived.Lib.AppendStr
import Derived.Lib.SlBytesConst
import Derived.WideShapes
import Derived.OpenShut
import Derived.ProofKit
import Derived.Deep.Slices
import Derived.Deep.Fields
import Derived.ChangeSame
set_option linter.unusedVariables false
set_option linter.unusedSimpArgs false
set_option maxRecDepth 4000
set_option maxHeartbeats 4000000
namespace Go.Proofs.Ythnfliopmjpdmaa.Av
inductive FVal where
 | v (x : Value)
 | nils
 | row (cs : List FVal) (len : Nat)
inductive CVal where
 | f (x : FVal)
 | ip (cs : List FVal) (off : Nat)
 | ptr (b off : Nat)
 | arr (b off len cap : Nat)
 | tip (sz : Nat) (cs : List FVal) (len : Nat)
 | und
 | any
inductive TVal where
 | c (x : CVal)
 | agg (cs : List CVal)
inductive AVal where
 | c (x : CVal)
 | agg (cs : List CVal)
 | tup (l : List TVal)
inductive Loc where
 | slot (i : Nat)
 | cell (b i : Nat)
inductive BK where
 | lock (n : Option Nat)
 | tip (n : Nat) (l : Loc)
 | wr (b : Nat)
def BK.fits : BK → Nat → Prop
 | .lock none, _ => True
 | .lock (some m), n => n ≤ m
 | .tip m _, n => n ≤ m
 | .wr _, n => n ≤ 0
theorem BK.fits_le {k : BK} {m n : Nat} (h : k.fits n) (hm : m ≤ n) : k.fits m := by
 cases k with
 | lock o => cases o <;> simp [BK.fits] at *; omega
 | tip a l => simp [BK.fits] at *; omega
 | wr b => simp [BK.fits] at *; omega
inductive RepF (w : World) (κ : Nat → BK) : FVal → Value → Prop
 | v (x : Value) (h : x.oneCell' = true) : RepF w κ (.v x) x
 | nils : RepF w κ .nils (.slice none 0 0)
 | row (cs : List FVal) (len g o cap : Nat) (xs : Nat → Value) (hc : ∀ i, i < cs.length → w.cell? ⟨g, o + i, none⟩ = some (xs i))
   (hr : ∀ i (h : i < cs.length), RepF w κ cs[i] (xs i)) (hf : cs ≠ [] → g < w.heap.size ∧ (κ g).fits (o + cs.length)) (hl : len ≤ cap) :
   RepF w κ (.row cs len) (.slice (some ⟨g, o, none⟩) len cap)
 | nil0 : RepF w κ (.row [] 0) (.slice none 0 0)
structure RowAt (w : World) (κ : Nat → BK) (g o : Nat) (cs : List FVal) : Prop where
 cell : ∀ i (h : i < cs.length), ∃ x, w.cell? ⟨g, o + i, none⟩ = some x ∧ RepF w κ cs[i] x
 fits : cs ≠ [] → g < w.heap.size ∧ (κ g).fits (o + cs.length)
theorem repF_row {w : World} {κ : Nat → BK} {cs : List FVal} {len : Nat} {v : Value} : RepF w κ (.row cs len) v ↔ (∃ g o cap, v = .slice (some ⟨g, o, none⟩) len cap ∧ len ≤ cap ∧ RowAt w κ g o cs) ∨ (cs = [] ∧ len = 0 ∧ v = .slice none 0 0) := by
 constructor
 ·intro h
  cases h with
  | row _ _ g o cap xs hc hr hf hl => exact .inl ⟨g, o, cap, rfl, hl, fun i h => ⟨xs i, hc i h, hr i h⟩, hf⟩
  | nil0 => exact .inr ⟨rfl, rfl, rfl⟩
 ·rintro (⟨g, o, cap, rfl, hl, hc, hf⟩ | ⟨rfl, rfl, rfl⟩)
  rotate_left
  ·exact .nil0
  refine .row cs len g o cap (fun i => if h : i < cs.length then (hc i h).choose else default) (fun i h => ?_) (fun i h => ?_) hf hl
  ·simp only [h, dite_true]; exact (hc i h).choose_spec.1
  ·simp only [h, dite_true]; exact (hc i h).choose_spec.2
theorem repF_rowI {w : World} {κ : Nat → BK} {cs : List FVal} {len : Nat} {v : Value} (h : ∃ g o cap, v = .slice (some ⟨g, o, none⟩) len cap ∧ len ≤ cap ∧ RowAt w κ g o cs) : RepF w κ (.row cs len) v := repF_row.2 (.inl h)
theorem repF_v {w : World} {κ : Nat → BK} {x v : Value} : RepF w κ (.v x) v ↔ v = x ∧ x.oneCell' = true := ⟨fun h => by cases h; exact ⟨rfl, ‹_›⟩, fun h => h.1 ▸ .v _ (h.1 ▸ h.2)⟩
theorem repF_nils {w : World} {κ : Nat → BK} {v : Value} : RepF w κ .nils v ↔ v = .slice none 0 0 := ⟨fun h => by cases h; rfl, fun h => h ▸ .nils⟩
structure Grow (w : World) (κ : Nat → BK) (w' : World) (κ' : Nat → BK) : Prop where
 size : w.heap.size ≤ w'.heap.size
 cell : ∀ g o x, g < w.heap.size → (κ g).fits (o + 1) → w.cell? ⟨g, o, none⟩ = some x → w'.cell? ⟨g, o, none⟩ = some x
 fits : ∀ g n, g < w.heap.size → (κ g).fits n → (κ' g).fits n
theorem Grow.refl (w : World) (κ : Nat → BK) : Grow w κ w κ := ⟨Nat.le_refl _, fun _ _ _ _ _ h => h, fun _ _ _ h => h⟩
theorem Grow.trans {a b c : World} {α β γ : Nat → BK} (h : Grow a α b β) (k : Grow b β c γ) : Grow a α c γ :=
  ⟨Nat.le_trans h.size k.size, fun g o x hg hf hx => k.cell g o x (Nat.lt_of_lt_of_le hg h.size) (h.fits g _ hg hf) (h.cell g o x hg hf hx),
   fun g n hg hf => k.fits g n (Nat.lt_of_lt_of_le hg h.size) (h.fits g n hg hf)⟩
theorem RepF.grow {w w' : World} {κ κ' : Nat → BK} (G : Grow w κ w' κ') {x : FVal} {v : Value} (h : RepF w κ x v) : RepF w' κ' x v := by
 induction h with
 | v x hx => exact .v x hx
 | nils => exact .nils
 | nil0 => exact .nil0
 | row cs len g o cap xs hc hr hf hl ih =>
  refine .row cs len g o cap xs (fun i hi => ?_) ih (fun hne => ?_) hl
  ·obtain ⟨hg, hfit⟩ := hf (by intro e; rw [e] at hi; simp at hi)
   exact G.cell g (o + i) _ hg (BK.fits_le hfit (by omega)) (hc i hi)
  ·obtain ⟨hg, hfit⟩ := hf hne
   exact ⟨Nat.lt_of_lt_of_le hg G.size, G.fits g _ hg hfit⟩
theorem RepF.one {w : World} {κ : Nat → BK} {x : FVal} {v : Value} (h : RepF w κ x v) : v.oneCell' = true := by
 cases h with
 | v x hx => exact hx
 | nils => rfl
 | row => rfl
 | nil0 => rfl
theorem RowAt.grow {w w' : World} {κ κ' : Nat → BK} (G : Grow w κ w' κ') {g o : Nat} {cs : List FVal} (h : RowAt w κ g o cs) : RowAt w' κ' g o cs := by
 refine ⟨fun i hi => ?_, fun hne => ?_⟩
 ·obtain ⟨hg, hfit⟩ := h.fits (by intro e; rw [e] at hi; simp at hi)
  obtain ⟨x, hx, hr⟩ := h.cell i hi
  exact ⟨x, G.cell g (o + i) _ hg (BK.fits_le hfit (by omega)) hx, hr.grow G⟩
 ·obtain ⟨hg, hfit⟩ := h.fits hne
  exact ⟨Nat.lt_of_lt_of_le hg G.size, G.fits g _ hg hfit⟩
theorem RowAt.take {w : World} {κ : Nat → BK} {g o : Nat} {cs : List FVal} (h : RowAt w κ g o cs) (n : Nat) : RowAt w κ g o (cs.take n) := by
 refine ⟨fun i hi => ?_, fun hne => ?_⟩
 ·rw [List.length_take] at hi
  obtain ⟨x, hx, hr⟩ := h.cell i (by omega)
  exact ⟨x, hx, by rw [List.getElem_take]; exact hr⟩
 ·obtain ⟨hg, hfit⟩ := h.fits (by intro e; rw [e] at hne; simp at hne)
  exact ⟨hg, BK.fits_le hfit (by rw [List.length_take]; omega)⟩
theorem RowAt.drop {w : World} {κ : Nat → BK} {g o : Nat} {cs : List FVal} (h : RowAt w κ g o cs) (n : Nat) (hn : n ≤ cs.length) : RowAt w κ g (o + n) (cs.drop n) := by
 refine ⟨fun i hi => ?_, fun hne => ?_⟩
 ·rw [List.length_drop] at hi
  obtain ⟨x, hx, hr⟩ := h.cell (n + i) (by omega)
  exact ⟨x, by rw [show o + n + i = o + (n + i) by omega]; exact hx, by rw [List.getElem_drop]; exact hr⟩
 ·obtain ⟨hg, hfit⟩ := h.fits (by intro e; rw [e] at hne; simp at hne)
  exact ⟨hg, BK.fits_le hfit (by rw [List.length_drop]; omega)⟩
structure TipAt (w : World) (κ : Nat → BK) (l : Loc) (sz : Nat) (cs : List FVal) (len : Nat) (g cap : Nat) : Prop where
 row : RowAt w κ g 0 cs
 lt : g < w.heap.size
 cut : cs.length = len * sz
 own : κ g = .tip cs.length l
 le : len ≤ cap
 blk : ∃ c e, w.heap[g]? = some (.cells c e (0, 0)) ∧ c.size = cap * sz
def RepC (w : World) (κ : Nat → BK) (ρ : Nat → Nat) (l : Loc) : CVal → Value → Prop
 | .f x, v => RepF w κ x v
 | .ip cs off, v => ∃ g o, v = .pointer (some ⟨g, o + off, none⟩) ∧ RowAt w κ g o cs
 | .ptr b off, v => v = .pointer (some ⟨ρ b, off, none⟩)
 | .arr b off len cap, v => v = .slice (some ⟨ρ b, off, none⟩) len cap
 | .tip sz cs len, v => (∃ g cap, v = .slice (some ⟨g, 0, none⟩) len cap ∧ TipAt w κ l sz cs len g cap) ∨ (cs = [] ∧ len = 0 ∧ v = .slice none 0 0)
 | .und, v => v = undef
 | .any, _ => True
def CVal.flat : CVal → Bool
 | .tip .. => false
 | _ => true
def RepT (w : World) (κ : Nat → BK) (ρ : Nat → Nat) (l : Loc) : TVal → Value → Prop
 | .c x, v => x.flat = true ∧ RepC w κ ρ l x v
 | .agg cs, v => ∃ vs : Array Value, v = .agg vs ∧ vs.size = cs.length ∧ ∀ i (h : i < cs.length) (h' : i < vs.size), cs[i].flat = true ∧ RepC w κ ρ l cs[i] vs[i]
def RepA (w : World) (κ : Nat → BK) (ρ : Nat → Nat) (l : Loc) : AVal → Value → Prop
 | .c x, v => RepC w κ ρ l x v
 | .agg cs, v => RepT w κ ρ l (.agg cs) v
 | .tup ts, v => ∃ vs : Array Value, v = .tuple vs ∧ vs.size = ts.length ∧ ∀ i (h : i < ts.length) (h' : i < vs.size), RepT w κ ρ l ts[i] vs[i]
def CVal.ok (n : Nat) : CVal → Bool
 | .ptr b _ => decide (b < n)
 | .arr b _ _ _ => decide (b < n)
 | _ => true
def TVal.ok (n : Nat) : TVal → Bool
 | .c x => x.ok n
 | .agg cs => cs.all (CVal.ok n)
def AVal.ok (n : Nat) : AVal → Bool
 | .c x => x.ok n
 | .agg cs => cs.all (CVal.ok n)
 | .tup ts => ts.all (TVal.ok n)
theorem CVal.ok_le {n m : Nat} (h : n ≤ m) : ∀ x : CVal, x.ok n = true → x.ok m = true
 | .ptr b _, k => by simp [CVal.ok] at *; omega
 | .arr b _ _ _, k => by simp [CVal.ok] at *; omega
 | .f _, _ => rfl
 | .ip _ _, _ => rfl
 | .tip _ _ _, _ => rfl
 | .und, _ => rfl
 | .any, _ => rfl
theorem TVal.ok_le {n m : Nat} (h : n ≤ m) : ∀ x : TVal, x.ok n = true → x.ok m = true
 | .c x, k => x.ok_le h k
 | .agg cs, k => by simp only [TVal.ok, List.all_eq_true] at *; exact fun x hx => x.ok_le h (k x hx)
theorem AVal.ok_le {n m : Nat} (h : n ≤ m) : ∀ x : AVal, x.ok n = true → x.ok m = true
 | .c x, k => x.ok_le h k
 | .agg cs, k => by simp only [AVal.ok, List.all_eq_true] at *; exact fun x hx => x.ok_le h (k x hx)
 | .tup cs, k => by simp only [AVal.ok, List.all_eq_true] at *; exact fun x hx => x.ok_le h (k x hx)
structure Keep (w : World) (κ : Nat → BK) (w' : World) (κ' : Nat → BK) (l l' : Loc) : Prop where
 grow : Grow w κ w' κ'
 tip : ∀ g n, g < w.heap.size → κ g = .tip n l → κ' g = .tip n l' ∧ w'.heap[g]? = w.heap[g]?
theorem RepC.keep {w w' : World} {κ κ' : Nat → BK} {ρ ρ' : Nat → Nat} {l l' : Loc} {n : Nat} (K : Grow w κ w' κ') (hρ : ∀ b, b < n → ρ' b = ρ b) :
  ∀ {x : CVal} {v : Value}, x.ok n = true → (∀ sz cs len, x = .tip sz cs len → Keep w κ w' κ' l l') → RepC w κ ρ l x v → RepC w' κ' ρ' l' x v
 | .f x, v, _, _, h => RepF.grow K h
 | .ip cs off, v, _, _, h => by obtain ⟨g, o, rfl, hr⟩ := h; exact ⟨g, o, rfl, hr.grow K⟩
 | .ptr b off, v, hn, _, h => by
  have hb : b < n := by simpa [CVal.ok] using hn
  show v = _
  rw [hρ b hb]; exact h
 | .arr b off len cap, v, hn, _, h => by
  have hb : b < n := by simpa [CVal.ok] using hn
  show v = _
  rw [hρ b hb]; exact h
 | .tip sz cs len, v, _, ht, h => by
  obtain ⟨g, cap, rfl, hT⟩ | h := h
  rotate_left
  ·exact .inr h
  left
  have hk := (ht _ _ _ rfl)
  obtain ⟨h1, h2⟩ := hk.tip g _ hT.lt hT.own
  exact ⟨g, cap, rfl, hT.row.grow K, Nat.lt_of_lt_of_le hT.lt K.size, hT.cut, h1, hT.le, by rw [h2]; exact hT.blk⟩
 | .und, _, _, _, h => h
 | .any, _, _, _, _ => trivial
theorem RepT.keep {w w' : World} {κ κ' : Nat → BK} {ρ ρ' : Nat → Nat} {l l' : Loc} {n : Nat} (K : Grow w κ w' κ') (hρ : ∀ b, b < n → ρ' b = ρ b) :
  ∀ {x : TVal} {v : Value}, x.ok n = true → RepT w κ ρ l x v → RepT w' κ' ρ' l' x v
 | .c x, v, hn, h => ⟨h.1, RepC.keep K hρ hn (fun _ _ _ e => by rw [e] at h; cases h.1) h.2⟩
 | .agg cs, v, hn, h => by
  obtain ⟨vs, rfl, hs, hi⟩ := h
  refine ⟨vs, rfl, hs, fun i h h' => ⟨(hi i h h').1, RepC.keep K hρ (List.all_eq_true.1 hn _ (List.getElem_mem h)) (fun _ _ _ e => ?_) (hi i h h').2⟩⟩
  have := (hi i h h').1
  rw [e] at this; cases this
theorem RepA.keep {w w' : World} {κ κ' : Nat → BK} {ρ ρ' : Nat → Nat} {l l' : Loc} {n : Nat} (K : Grow w κ w' κ') (hρ : ∀ b, b < n → ρ' b = ρ b) :
  ∀ {x : AVal} {v : Value}, x.ok n = true → (∀ sz cs len, x = .c (.tip sz cs len) → Keep w κ w' κ' l l') → RepA w κ ρ l x v → RepA w' κ' ρ' l' x v
 | .c x, v, hn, ht, h => RepC.keep K hρ hn (fun sz cs len e => ht sz cs len (by rw [e])) h
 | .agg cs, v, hn, _, h => RepT.keep (x := .agg cs) K hρ hn h
 | .tup ts, v, hn, _, h => by
  obtain ⟨vs, rfl, hs, hi⟩ := h
  exact ⟨vs, rfl, hs, fun i h h' => RepT.keep K hρ (List.all_eq_true.1 hn _ (List.getElem_mem h)) (hi i h h')⟩
def CVal.dem : CVal → CVal
 | .tip _ cs len => .f (.row cs len)
 | x => x
def AVal.dem : AVal → AVal
 | .c x => .c x.dem
 | x => x
theorem RepC.dem {w : World} {κ : Nat → BK} {ρ : Nat → Nat} {l l' : Loc} : ∀ {x : CVal} {v : Value}, RepC w κ ρ l x v → RepC w κ ρ l' x.dem v
 | .f x, v, h => h
 | .ip cs off, v, h => h
 | .ptr b off, v, h => h
 | .arr b off len cap, v, h => h
 | .tip sz cs len, v, h => by
  obtain ⟨g, cap, rfl, hT⟩ | ⟨rfl, rfl, rfl⟩ := h
  ·exact repF_rowI ⟨g, 0, cap, rfl, hT.le, hT.row⟩
  ·exact .nil0
 | .und, _, h => h
 | .any, _, _ => trivial
theorem CVal.dem_flat (x : CVal) : x.dem.flat = true := by cases x <;> rfl
theorem CVal.dem_ok {n : Nat} (x : CVal) (h : x.ok n = true) : x.dem.ok n = true := by cases x <;> first | exact h | rfl
theorem CVal.flat_dem {x : CVal} (h : x.flat = true) : x.dem = x := by cases x <;> first | rfl | cases h
theorem RepC.loc {w : World} {κ : Nat → BK} {ρ : Nat → Nat} {l l' : Loc} {x : CVal} {v : Value} (hx : x.flat = true) (h : RepC w κ ρ l x v) : RepC w κ ρ l' x v := by
 have := RepC.dem (l' := l') h
 rwa [CVal.flat_dem hx] at this
theorem RepT.loc {w : World} {κ : Nat → BK} {ρ : Nat → Nat} {l l' : Loc} : ∀ {x : TVal} {v : Value}, RepT w κ ρ l x v → RepT w κ ρ l' x v
 | .c x, v, h => ⟨h.1, h.2.loc h.1⟩
 | .agg cs, v, h => by
  obtain ⟨vs, rfl, hs, hi⟩ := h
  exact ⟨vs, rfl, hs, fun i h h' => ⟨(hi i h h').1, (hi i h h').2.loc (hi i h h').1⟩⟩
theorem RepA.dem {w : World} {κ : Nat → BK} {ρ : Nat → Nat} {l l' : Loc} : ∀ {x : AVal} {v : Value}, RepA w κ ρ l x v → RepA w κ ρ l' x.dem v
 | .c x, v, h => RepC.dem (l := l) (l' := l') (x := x) h
 | .agg cs, v, h => RepT.loc (x := .agg cs) h
 | .tup ts, v, h => by
  obtain ⟨vs, rfl, hs, hi⟩ := h
  exact ⟨vs, rfl, hs, fun i h h' => (hi i h h').loc⟩
theorem AVal.dem_ok {n : Nat} (x : AVal) (h : x.ok n = true) : x.dem.ok n = true := by
 cases x with
 | c x => exact x.dem_ok h
 | agg cs => exact h
 | tup ts => exact h
def CVal.nz : CVal → CVal
 | .f .nils => .f (.row [] 0)
 | x => x
def TVal.nz : TVal → TVal
 | .c x => .c x.nz
 | .agg cs => .agg (cs.map CVal.nz)
def AVal.nz : AVal → AVal
 | .c x => .c x.nz
 | .agg cs => .agg (cs.map CVal.nz)
 | .tup ts => .tup (ts.map TVal.nz)
theorem CVal.nz_flat (x : CVal) : x.nz.flat = x.flat := by
 cases x with
 | f y => cases y <;> rfl
 | _ => rfl
theorem CVal.nz_ok {n : Nat} (x : CVal) : x.nz.ok n = x.ok n := by
 cases x with
 | f y => cases y <;> rfl
 | _ => rfl
theorem map_nz_ok {n : Nat} (l : List CVal) : (l.map CVal.nz).all (CVal.ok n) = l.all (CVal.ok n) := by
 induction l with
 | nil => rfl
 | cons x l ih => simp only [List.map_cons, List.all_cons, ih, CVal.nz_ok]
theorem TVal.nz_ok {n : Nat} (x : TVal) : x.nz.ok n = x.ok n := by
 cases x with
 | c x => exact x.nz_ok
 | agg cs => exact map_nz_ok cs
theorem RepC.nz {w : World} {κ : Nat → BK} {ρ : Nat → Nat} {l : Loc} {x : CVal} {v : Value} (h : RepC w κ ρ l x v) : RepC w κ ρ l x.nz v := by
 cases x with
 | f y =>
  cases y with
  | nils => have h : RepF w κ .nils v := h; show RepF w κ (.row [] 0) v; rw [repF_nils.1 h]; exact .nil0
  | _ => exact h
 | _ => exact h
theorem RepT.nz {w : World} {κ : Nat → BK} {ρ : Nat → Nat} {l : Loc} {x : TVal} {v : Value} (h : RepT w κ ρ l x v) : RepT w κ ρ l x.nz v := by
 cases x with
 | c x => exact ⟨by rw [CVal.nz_flat]; exact h.1, h.2.nz⟩
 | agg cs =>
  obtain ⟨vs, rfl, hs, hi⟩ := h
  refine ⟨vs, rfl, by simpa using hs, fun i h h' => ?_⟩
  have hi2 : i < cs.length := by simpa using h
  rw [List.getElem_map, CVal.nz_flat]
  exact ⟨(hi i hi2 h').1, (hi i hi2 h').2.nz⟩
theorem RepA.nz {w : World} {κ : Nat → BK} {ρ : Nat → Nat} {l : Loc} {x : AVal} {v : Value} (h : RepA w κ ρ l x v) : RepA w κ ρ l x.nz v := by
 cases x with
 | c x => exact RepC.nz (x := x) h
 | agg cs => exact RepT.nz (x := .agg cs) h
 | tup ts =>
  obtain ⟨vs, rfl, hs, hi⟩ := h
  refine ⟨vs, rfl, by simpa using hs, fun i h h' => ?_⟩
  have hi2 : i < ts.length := by simpa using h
  rw [List.getElem_map]
  exact (hi i hi2 h').nz
theorem AVal.nz_dem (x : AVal) : x.dem.nz.dem = x.dem.nz := by
 cases x with
 | c x =>
  show AVal.c _ = AVal.c _
  rw [CVal.flat_dem (by rw [CVal.nz_flat]; exact CVal.dem_flat x)]
 | agg cs => rfl
 | tup ts => rfl
def AVal.h (x : AVal) : AVal := x.dem.nz
theorem AVal.h_dem (x : AVal) : x.h.dem = x.h := x.nz_dem
def upd {α : Type} (f : Nat → α) (i : Nat) (x : α) (j : Nat) : α := if j = i then x else f j
theorem upd_same {α : Type} (f : Nat → α) (i : Nat) (x : α) : upd f i x i = x := by unfold upd; rw [if_pos rfl]
theorem upd_other {α : Type} (f : Nat → α) {i j : Nat} (x : α) (h : j ≠ i) : upd f i x j = f j := by unfold upd; rw [if_neg h]
structure St where
 sl : Nat → AVal
 H : List (Option (List CVal))
structure Blk (w : World) (κ : Nat → BK) (ρ : Nat → Nat) (b : Nat) (cs : List CVal) : Prop where
 own : κ (ρ b) = .wr b
 lie : ∃ c e, w.heap[ρ b]? = some (.cells c e (0, 0)) ∧ c.size = cs.length ∧ ∀ i (h : i < cs.length) (h' : i < c.size), RepC w κ ρ (.cell b i) cs[i] c[i]
structure RelH (H : List (Option (List CVal))) (w : World) (κ : Nat → BK) (ρ : Nat → Nat) : Prop where
 blk : ∀ (b : Nat) (cs : List CVal), H[b]? = some (some cs) → Blk w κ ρ b cs
 ok : ∀ (b : Nat) (cs : List CVal), H[b]? = some (some cs) → ∀ x : CVal, x ∈ cs → x.ok H.length = true
structure Rel (s : St) (a : Act) (w : World) (κ : Nat → BK) (ρ : Nat → Nat) : Prop where
 defers : a.defers = []
 slot : ∀ i (h' : i < a.tmps.size), RepA w κ ρ (.slot i) (s.sl i) a.tmps[i]
 out : ∀ i, a.tmps.size ≤ i → s.sl i = .c .any
 ok : ∀ i, (s.sl i).ok s.H.length = true
 heap : RelH s.H w κ ρ
structure Fr (w : World) (κ : Nat → BK) (w' : World) (κ' : Nat → BK) : Prop where
 os : w'.os = w.os
 tape : w'.tape = w.tape
 output : w'.output = w.output
 size : w.heap.size ≤ w'.heap.size
 lock : ∀ g n, g < w.heap.size → κ g = .lock n → κ' g = .lock n ∧ w'.heap[g]? = w.heap[g]?
 grow : Grow w κ w' κ'
theorem Fr.refl (w : World) (κ : Nat → BK) : Fr w κ w κ := ⟨rfl, rfl, rfl, Nat.le_refl _, fun _ _ _ h => ⟨h, rfl⟩, Grow.refl _ _⟩
theorem Fr.trans {a b c : World} {α β γ : Nat → BK} (h : Fr a α b β) (k : Fr b β c γ) : Fr a α c γ :=
 ⟨k.os.trans h.os, k.tape.trans h.tape, k.output.trans h.output, Nat.le_trans h.size k.size, fun g n hg hl => by
  obtain ⟨h1, h2⟩ := h.lock g n hg hl
  obtain ⟨h3, h4⟩ := k.lock g n (Nat.lt_of_lt_of_le hg h.size) h1
  exact ⟨h3, h4.trans h2⟩, h.grow.trans k.grow⟩
structure Mv (T : Nat → Prop) (n : Nat) (w : World) (κ : Nat → BK) (ρ : Nat → Nat) (w' : World) (κ' : Nat → BK) (ρ' : Nat → Nat) : Prop where
 os : w'.os = w.os
 tape : w'.tape = w.tape
 output : w'.output = w.output
 size : w.heap.size ≤ w'.heap.size
 rho : ∀ b, b < n → ρ' b = ρ b
 off : ∀ g, g < w.heap.size → ¬ T g → w'.heap[g]? = w.heap[g]? ∧ κ' g = κ g
 cell : ∀ g o x, g < w.heap.size → T g → (κ g).fits (o + 1) → w.cell? ⟨g, o, none⟩ = some x → w'.cell? ⟨g, o, none⟩ = some x
 fits : ∀ g n, g < w.heap.size → T g → (κ g).fits n → (κ' g).fits n
 free : ∀ g n, T g → κ g ≠ .lock n
theorem cell_of_heap {w w' : World} {g o : Nat} (h : w'.heap[g]? = w.heap[g]?) : w'.cell? ⟨g, o, none⟩ = w.cell? ⟨g, o, none⟩ := World.cell?_of_block (w := w) h
section
variable {T : Nat → Prop} {n : Nat} {w w' : World} {κ κ' : Nat → BK} {ρ ρ' : Nat → Nat}
theorem Mv.grow (m : Mv T n w κ ρ w' κ' ρ') : Grow w κ w' κ' := by
 refine ⟨m.size, fun g o x hg hf hx => ?_, fun g k hg hf => ?_⟩
 ·by_cases h : T g
  ·exact m.cell g o x hg h hf hx
  ·rw [cell_of_heap (m.off g hg h).1]; exact hx
 ·by_cases h : T g
  ·exact m.fits g k hg h hf
  ·rw [(m.off g hg h).2]; exact hf
theorem Mv.fr (m : Mv T n w κ ρ w' κ' ρ') : Fr w κ w' κ' :=
 ⟨m.os, m.tape, m.output, m.size, fun g k hg hl => by
  have hT : ¬ T g := fun h => m.free g k h hl
  exact ⟨by rw [(m.off g hg hT).2]; exact hl, (m.off g hg hT).1⟩, m.grow⟩
theorem Mv.keep (m : Mv T n w κ ρ w' κ' ρ') {l : Loc} (hl : ∀ g k, T g → κ g ≠ .tip k l) : Keep w κ w' κ' l l :=
 ⟨m.grow, fun g k hg hk => by
  have hT : ¬ T g := fun h => hl g k h hk
  exact ⟨by rw [(m.off g hg hT).2]; exact hk, (m.off g hg hT).1⟩⟩
theorem lt_of_heap {w : World} {g : Nat} {x : Obj} (h : w.heap[g]? = some x) : g < w.heap.size := by
 rcases Nat.lt_or_ge g w.heap.size with h1 | h1
 ·exact h1
 ·rw [Array.getElem?_eq_none h1] at h; cases h
theorem Blk.mv (m : Mv T n w κ ρ w' κ' ρ') {b : Nat} {cs : List CVal} (hb : b < n) (hok : ∀ x ∈ cs, x.ok n = true) (hT : ¬ T (ρ b)) (hl : ∀ i g k, T g → κ g ≠ .tip k (.cell b i)) (h : Blk w κ ρ b cs) : Blk w' κ' ρ' b cs := by
 obtain ⟨ho, c, e, h1, h2, h3⟩ := h
 have hlt := lt_of_heap h1
 obtain ⟨k1, k2⟩ := m.off _ hlt hT
 refine ⟨by rw [m.rho b hb, k2]; exact ho, c, e, by rw [m.rho b hb, k1]; exact h1, h2, fun i hi hi' => ?_⟩
 exact RepC.keep m.grow m.rho (hok _ (List.getElem_mem hi)) (fun _ _ _ _ => m.keep (hl i)) (h3 i hi hi')
theorem RepA.mv (m : Mv T n w κ ρ w' κ' ρ') {l : Loc} {x : AVal} {v : Value} (hok : x.ok n = true) (hl : ∀ g k, T g → κ g ≠ .tip k l) (h : RepA w κ ρ l x v) : RepA w' κ' ρ' l x v :=
 RepA.keep m.grow m.rho hok (fun _ _ _ _ => m.keep hl) h
end
def St.put (s : St) (d : Option Tmp) (x : AVal) : St :=
 match d with
 | some d => { s with sl := upd s.sl d x }
 | none => s
def St.dem (s : St) (t : Tmp) : St := { s with sl := upd s.sl t (s.sl t).dem }
theorem Rel.put {s : St} {a : Act} {w : World} {κ : Nat → BK} {ρ : Nat → Nat} (h : Rel s a w κ ρ) {d : Option Tmp} {x : AVal} {v : Value} (hd : ∀ t, d = some t → t < a.tmps.size) (hx : ∀ t, d = some t → RepA w κ ρ (.slot t) x v) (hok : x.ok s.H.length = true) :
  Rel (s.put d x) (a.put d v) w κ ρ := by
 cases d with
 | none => exact h
 | some d =>
  refine ⟨h.defers, fun i hi' => ?_, fun i hi => ?_, fun i => ?_, h.heap⟩
  ·simp only [St.put, Act.put] at hi' ⊢
   rw [Array.getElem_setIfInBounds (by simpa using hi')]
   by_cases e : d = i
   ·subst e
    rw [upd_same, if_pos rfl]
    exact hx _ rfl
   ·rw [upd_other _ _ (fun h => e h.symm), if_neg e]
    exact h.slot i (by simpa using hi')
  ·have hi2 : a.tmps.size ≤ i := by simpa [Act.put] using hi
   simp only [St.put]
   have hne : i ≠ d := by
    intro e
    subst e
    exact absurd (hd i rfl) (Nat.not_lt.2 hi2)
   rw [upd_other _ _ hne]
   exact h.out i hi2
  ·simp only [St.put]
   by_cases e : i = d
   ·subst e; rw [upd_same]; exact hok
   ·rw [upd_other _ _ e]; exact h.ok i
theorem Rel.mv {T : Nat → Prop} {s : St} {a : Act} {w w' : World} {κ κ' : Nat → BK} {ρ ρ' : Nat → Nat} (h : Rel s a w κ ρ) (m : Mv T s.H.length w κ ρ w' κ' ρ') (hT : ∀ g, T g → False) : Rel s a w' κ' ρ' :=
  ⟨h.defers, fun i hi' => RepA.mv m (h.ok i) (fun g _ hg => (hT g hg).elim) (h.slot i hi'), h.out, h.ok,
   fun b cs hb => Blk.mv m (by rcases Nat.lt_or_ge b s.H.length with k | k; exact k; rw [List.getElem?_eq_none k] at hb; cases hb) (h.heap.ok b cs hb) (fun hg => hT _ hg) (fun _ g _ hg => (hT g hg).elim) (h.heap.blk b cs hb), h.heap.ok⟩
theorem Rel.mv_slot {s : St} {a : Act} {w w' : World} {κ κ' : Nat → BK} {ρ ρ' : Nat → Nat} {g0 t k0 : Nat} (h : Rel s a w κ ρ) (m : Mv (· = g0) s.H.length w κ ρ w' κ' ρ') (hg : κ g0 = .tip k0 (.slot t)) : Rel (s.dem t) a w' κ' ρ' := by
  refine ⟨h.defers, fun i hi' => ?_, fun i hi => ?_, fun i => ?_, ⟨fun b cs hb => ?_, h.heap.ok⟩⟩
  · simp only [St.dem]
    by_cases e : i = t
    · subst e
      rw [upd_same]
      have h1 := RepA.dem (l' := .slot i) (h.slot i hi')
      refine RepA.keep m.grow m.rho (AVal.dem_ok _ (h.ok i)) (fun _ _ _ e => ?_) h1
      exfalso
      revert e
      cases s.sl i with
      | c x => cases x <;> simp [AVal.dem, CVal.dem]
      | agg cs => simp [AVal.dem]
      | tup ts => simp [AVal.dem]
    · rw [upd_other _ _ e]
      refine RepA.mv m (h.ok i) (fun g k hgg => ?_) (h.slot i hi')
      subst hgg
      rw [hg]
      intro hh
      injection hh with _ hh
      injection hh with hh
      exact e hh.symm
  · simp only [St.dem]
    by_cases e : i = t
    · subst e; rw [upd_same, h.out i hi]; rfl
    · rw [upd_other _ _ e]; exact h.out i hi
  · simp only [St.dem]
    by_cases e : i = t
    · subst e; rw [upd_same]; exact AVal.dem_ok _ (h.ok i)
    · rw [upd_other _ _ e]; exact h.ok i
  · have hb' : s.H[b]? = some (some cs) := hb
    refine Blk.mv m (by rcases Nat.lt_or_ge b s.H.length with k | k; exact k; rw [List.getElem?_eq_none k] at hb'; cases hb') (h.heap.ok b cs hb') (fun e => ?_) (fun i g k hgg => ?_) (h.heap.blk b cs hb')
    · have := (h.heap.blk b cs hb').own
      rw [e, hg] at this; cases this
    · subst hgg
      rw [hg]
      intro hh
      injection hh with _ hh
      cases hh
def hset (H : List (Option (List CVal))) (b : Nat) (cs : List CVal) : List (Option (List CVal)) := H.set b (some cs)
theorem hset_get {H : List (Option (List CVal))} {b : Nat} {cs : List CVal} {b' : Nat} {cs' : List CVal} (h : (hset H b cs)[b']? = some (some cs')) : (b' = b ∧ cs' = cs) ∨ (b' ≠ b ∧ H[b']? = some (some cs')) := by
 unfold hset at h
 by_cases e : b = b'
 ·subst e
  rw [List.getElem?_set] at h
  simp at h
  exact .inl ⟨rfl, h.2.symm⟩
 ·rw [List.getElem?_set_ne e] at h
  exact .inr ⟨fun h => e h.symm, h⟩
theorem Rel.mv_blk {s : St} {a : Act} {w w' : World} {κ κ' : Nat → BK} {ρ ρ' : Nat → Nat} {b0 : Nat} {cs cs' : List CVal} (h : Rel s a w κ ρ) (hb0 : s.H[b0]? = some (some cs)) (m : Mv (· = ρ b0) s.H.length w κ ρ w' κ' ρ') (hB : Blk w' κ' ρ' b0 cs') (hok : ∀ x ∈ cs', x.ok s.H.length = true) :
    Rel { s with H := hset s.H b0 cs' } a w' κ' ρ' := by
  have hown := (h.heap.blk b0 cs hb0).own
  have hlen : (hset s.H b0 cs').length = s.H.length := by simp [hset]
  have hno : ∀ l g k, g = ρ b0 → κ g ≠ .tip k l := by intro l g k hg; subst hg; rw [hown]; intro e; cases e
  refine ⟨h.defers, fun i hi' => RepA.mv m (h.ok i) (hno _) (h.slot i hi'), h.out, fun i => by rw [hlen]; exact h.ok i, ⟨fun b ds hb => ?_, fun b ds hb => ?_⟩⟩
  · rcases hset_get hb with ⟨rfl, rfl⟩ | ⟨hne, hb⟩
    · exact hB
    · refine Blk.mv m (by rcases Nat.lt_or_ge b s.H.length with k | k; exact k; rw [List.getElem?_eq_none k] at hb; cases hb) (h.heap.ok b ds hb) (fun e => ?_) (fun i => hno _) (h.heap.blk b ds hb)
      have h1 := (h.heap.blk b ds hb).own
      rw [e, hown] at h1
      injection h1 with h1
      exact hne h1.symm
  · rw [hlen]
    rcases hset_get hb with ⟨rfl, rfl⟩ | ⟨hne, hb⟩
    · exact hok
    · exact h.heap.ok b ds hb
theorem Rel.mv_cell {s : St} {a : Act} {w w' : World} {κ κ' : Nat → BK} {ρ ρ' : Nat → Nat} {g0 b0 i0 k0 : Nat} {cs : List CVal} (h : Rel s a w κ ρ) (hb0 : s.H[b0]? = some (some cs)) (m : Mv (· = g0) s.H.length w κ ρ w' κ' ρ') (hg : κ g0 = .tip k0 (.cell b0 i0)) :
    Rel { s with H := hset s.H b0 (cs.modify i0 CVal.dem) } a w' κ' ρ' := by
  have hlen : (hset s.H b0 (cs.modify i0 CVal.dem)).length = s.H.length := by simp [hset]
  have hlt : ∀ {b ds}, s.H[b]? = some (some ds) → b < s.H.length := fun {b ds} hb => by rcases Nat.lt_or_ge b s.H.length with k | k; exact k; rw [List.getElem?_eq_none k] at hb; cases hb
  have hne : ∀ b ds, s.H[b]? = some (some ds) → ¬ ρ b = g0 := fun b ds hb e => by
    have := (h.heap.blk b ds hb).own
    rw [e, hg] at this; cases this
  refine ⟨h.defers, fun i hi' => RepA.mv m (h.ok i) (fun g k hgg => ?_) (h.slot i hi'), h.out, fun i => by rw [hlen]; exact h.ok i, ⟨fun b ds hb => ?_, fun b ds hb => ?_⟩⟩
  · subst hgg; rw [hg]; intro hh; injection hh with _ hh; cases hh
  · rcases hset_get hb with ⟨rfl, rfl⟩ | ⟨hnb, hb⟩
    · obtain ⟨ho, c, e, h1, h2, h3⟩ := h.heap.blk b cs hb0
      have hl1 := lt_of_heap h1
      obtain ⟨k1, k2⟩ := m.off _ hl1 (hne b cs hb0)
      refine ⟨by rw [m.rho b (hlt hb0), k2]; exact ho, c, e, by rw [m.rho b (hlt hb0), k1]; exact h1, by simpa using h2, fun i hi hi' => ?_⟩
      rw [List.length_modify] at hi
      rw [List.getElem_modify]
      have hok := h.heap.ok b cs hb0 _ (List.getElem_mem hi)
      by_cases e : i0 = i
      · rw [if_pos e]
        refine RepC.keep m.grow m.rho (CVal.dem_ok _ hok) (fun _ _ _ e => ?_) (RepC.dem (l' := .cell b i) (h3 i hi hi'))
        have := CVal.dem_flat cs[i]
        rw [e] at this; cases this
      · rw [if_neg e]
        refine RepC.keep m.grow m.rho hok (fun _ _ _ _ => m.keep (fun g k hgg => ?_)) (h3 i hi hi')
        subst hgg; rw [hg]; intro hh; injection hh with _ hh; injection hh with _ hh; exact e hh
    · refine Blk.mv m (hlt hb) (h.heap.ok b ds hb) (hne b ds hb) (fun i g k hgg => ?_) (h.heap.blk b ds hb)
      subst hgg; rw [hg]; intro hh; injection hh with _ hh; injection hh with hh _; exact hnb hh.symm
  · rw [hlen]
    rcases hset_get hb with ⟨rfl, rfl⟩ | ⟨hnb, hb⟩
    · intro x hx
      obtain ⟨i, hi, rfl⟩ := List.mem_iff_getElem.1 hx
      rw [List.getElem_modify]
      rw [List.length_modify] at hi
      have hok := h.heap.ok b cs hb0 _ (List.getElem_mem hi)
      by_cases e : i0 = i
      · rw [if_pos e]; exact CVal.dem_ok _ hok
      · rw [if_neg e]; exact hok
    · exact h.heap.ok b ds hb
theorem Rel.dem_cell {s : St} {a : Act} {w : World} {κ : Nat → BK} {ρ : Nat → Nat} {b0 i0 : Nat} {cs : List CVal} (h : Rel s a w κ ρ) (hb0 : s.H[b0]? = some (some cs)) : Rel { s with H := hset s.H b0 (cs.modify i0 CVal.dem) } a w κ ρ := by
 have hlen : (hset s.H b0 (cs.modify i0 CVal.dem)).length = s.H.length := by simp [hset]
 refine ⟨h.defers, h.slot, h.out, fun i => by rw [hlen]; exact h.ok i, ⟨fun b ds hb => ?_, fun b ds hb => ?_⟩⟩
 ·rcases hset_get hb with ⟨rfl, rfl⟩ | ⟨hnb, hb⟩
  ·obtain ⟨ho, c, e, h1, h2, h3⟩ := h.heap.blk b cs hb0
   refine ⟨ho, c, e, h1, by simpa using h2, fun i hi hi' => ?_⟩
   rw [List.length_modify] at hi
   rw [List.getElem_modify]
   by_cases e : i0 = i
   ·rw [if_pos e]; exact RepC.dem (h3 i hi hi')
   ·rw [if_neg e]; exact h3 i hi hi'
  ·exact h.heap.blk b ds hb
 ·rw [hlen]
  rcases hset_get hb with ⟨rfl, rfl⟩ | ⟨hnb, hb⟩
  ·intro x hx
   obtain ⟨i, hi, rfl⟩ := List.mem_iff_getElem.1 hx
   rw [List.getElem_modify]
   rw [List.length_modify] at hi
   have hok := h.heap.ok b cs hb0 _ (List.getElem_mem hi)
   by_cases e : i0 = i
   ·rw [if_pos e]; exact CVal.dem_ok _ hok
   ·rw [if_neg e]; exact hok
  ·exact h.heap.ok b ds hb
def ofC : Value → CVal
 | .slice none 0 0 => .f .nils
 | .agg _ => .any
 | .tuple _ => .any
 | x => .f (.v x)
def ofV : Value → AVal
 | .agg vs => .agg (vs.toList.map ofC)
 | x => .c (ofC x)
section
variable {w w' : World} {κ κ' : Nat → BK} {ρ ρ' : Nat → Nat} {l l' : Loc} {s : St} {a : Act}
theorem repC_ofC (x : Value) : RepC w κ ρ l (ofC x) x := by
 unfold ofC
 split
 ·exact RepF.nils
 ·trivial
 ·trivial
 ·rename_i h1 h2 h3
  refine RepF.v _ ?_
  cases x <;> first | rfl | exact absurd rfl (h2 _) | exact absurd rfl (h3 _)
theorem ofC_flat (x : Value) : (ofC x).flat = true := by unfold ofC; split <;> rfl
theorem ofC_ok (n : Nat) (x : Value) : (ofC x).ok n = true := by unfold ofC; split <;> rfl
theorem repA_ofV (x : Value) : RepA w κ ρ l (ofV x) x := by
 unfold ofV
 split
 ·rename_i vs
  exact ⟨vs, rfl, by simp, fun i h h' => by
   rw [List.getElem_map, Array.getElem_toList]
   exact ⟨ofC_flat _, repC_ofC _⟩⟩
 ·exact repC_ofC x
theorem ofV_ok (n : Nat) (x : Value) : (ofV x).ok n = true := by
 unfold ofV
 split
 ·simp only [AVal.ok, List.all_eq_true]
  intro y hy
  obtain ⟨z, _, rfl⟩ := List.mem_map.1 hy
  exact ofC_ok n z
 ·exact ofC_ok n x
theorem ofV_dem (x : Value) : (ofV x).dem = ofV x := by
 unfold ofV
 split
 ·rfl
 ·show AVal.c (CVal.dem _) = _
  rw [CVal.flat_dem (ofC_flat _)]
def St.ev (s : St) : Operand → AVal
 | .tmp t => s.sl t
 | .const v => ofV v
 | _ => .c .any
theorem Rel.ev_tmp (h : Rel s a w κ ρ) (t : Tmp) : RepA w κ ρ (.slot t) (s.ev (.tmp t)) (a.eval (.tmp t)) := by
 simp only [St.ev, Act.eval]
 rcases Nat.lt_or_ge t a.tmps.size with hlt | hge
 ·simp only [Array.getD, hlt, dite_true]
  exact h.slot t hlt
 ·rw [h.out t hge]
  trivial
theorem Rel.ev (h : Rel s a w κ ρ) (x : Operand) : RepA w κ ρ l (s.ev x).dem (a.eval x) := by
 cases x with
 | tmp t => exact RepA.dem (h.ev_tmp t)
 | const v => show RepA w κ ρ l (ofV v).dem v; rw [ofV_dem]; exact repA_ofV v
 | global g => trivial
 | func f => trivial
theorem Rel.ev_ok (h : Rel s a w κ ρ) (x : Operand) : (s.ev x).ok s.H.length = true := by
 cases x with
 | tmp t => exact h.ok t
 | const v => exact ofV_ok _ v
 | global g => rfl
 | func f => rfl
end
def FVal.toV : FVal → Option Value
 | .v x => some x
 | .nils => some (.slice none 0 0)
 | .row .. => none
def CVal.toV : CVal → Option Value
 | .f x => x.toV
 | _ => none
def toVs : List CVal → Option (List Value)
 | [] => some []
 | c :: cs => match c.toV, toVs cs with
  | some v, some vs => some (v :: vs)
  | _, _ => none
def AVal.toV : AVal → Option Value
 | .c x => x.toV
 | .agg cs => match toVs cs with
  | some vs => some (.agg vs.toArray)
  | none => none
 | .tup _ => none
section
variable {w w' : World} {κ κ' : Nat → BK} {ρ ρ' : Nat → Nat} {l l' : Loc} {s : St} {a : Act}
theorem CVal.toV_rep : ∀ {x : CVal} {v y : Value}, RepC w κ ρ l x v → x.toV = some y → v = y
 | .f (.v x), v, y, h, e => by
  have h1 := (repF_v.1 h).1
  injection e with e
  exact h1.trans e
 | .f .nils, v, y, h, e => by
  have h1 := repF_nils.1 h
  injection e with e
  exact h1.trans e
 | .f (.row ..), _, _, _, e => by cases e
 | .ip .., _, _, _, e => by cases e
 | .ptr .., _, _, _, e => by cases e
 | .arr .., _, _, _, e => by cases e
 | .tip .., _, _, _, e => by cases e
 | .und, _, _, _, e => by cases e
 | .any, _, _, _, e => by cases e
theorem toVs_rep : ∀ (cs : List CVal) (vs : List Value), toVs cs = some vs → vs.length = cs.length ∧ ∀ i (h : i < cs.length) (h' : i < vs.length), cs[i].toV = some vs[i]
 | [], vs, h => by
  injection h with h
  subst h
  exact ⟨rfl, fun i h => by simp at h⟩
 | c :: cs, vs, h => by
  unfold toVs at h
  split at h
  ·rename_i v us e1 e2
   injection h with h
   subst h
   obtain ⟨h1, h2⟩ := toVs_rep cs us e2
   refine ⟨by simp [h1], fun i hi hi' => ?_⟩
   cases i with
   | zero => exact e1
   | succ i => exact h2 i (by simpa using hi) (by simpa using hi')
  ·cases h
theorem AVal.toV_rep {x : AVal} {v y : Value} (h : RepA w κ ρ l x v) (e : x.toV = some y) : v = y := by
 cases x with
 | c x => exact CVal.toV_rep h e
 | agg cs =>
  obtain ⟨vs, rfl, hs, hi⟩ := h
  simp only [AVal.toV] at e
  split at e
  ·rename_i us e1
   injection e with e
   subst e
   obtain ⟨h1, h2⟩ := toVs_rep cs us e1
   congr 1
   apply Array.ext
   ·simp [hs, h1]
   ·intro i hj hj'
    have hi1 : i < cs.length := by omega
    have hi2 : i < us.length := by omega
    have := CVal.toV_rep (hi i hi1 hj).2 (h2 i hi1 hi2)
    simpa using this
  ·cases e
 | tup ts => cases e
theorem AVal.toV_dem {x : AVal} {y : Value} (e : x.toV = some y) : x.dem = x := by
 cases x with
 | c x =>
  show AVal.c (CVal.dem _) = _
  cases x <;> first | rfl | cases e
 | agg cs => rfl
 | tup ts => rfl
theorem Rel.toV (h : Rel s a w κ ρ) {x : Operand} {y : Value} (e : (s.ev x).toV = some y) : a.eval x = y := by
 have := h.ev (l := .slot 0) x
 rw [AVal.toV_dem e] at this
 exact AVal.toV_rep this e
end
def pureRun {α : Type} (P : Program) : Sem α → Option α
 | .pure a => some a
 | .program k => pureRun P (k P)
 | .mark _ k => pureRun P k
 | _ => none
theorem pureRun_run {α : Type} {P : Program} : ∀ {s : Sem α} {a : α}, pureRun P s = some a → ∀ w, s.run P w = .ok a w
 | .pure a, _, h, w => by injection h with h; subst h; rfl
 | .program k, _, h, w => by show (k P).run P w = _; exact pureRun_run (s := k P) h w
 | .mark _ k, _, h, w => by show k.run P w = _; exact pureRun_run (s := k) h w
 | .load .., _, h, _ => by cases h
 | .store .., _, h, _ => by cases h
 | .new .., _, h, _ => by cases h
 | .shape .., _, h, _ => by cases h
 | .freeze .., _, h, _ => by cases h
 | .frozen .., _, h, _ => by cases h
 | .getObj .., _, h, _ => by cases h
 | .setObj .., _, h, _ => by cases h
 | .choose .., _, h, _ => by cases h
 | .sys .., _, h, _ => by cases h
 | .halt .., _, h, _ => by cases h
structure Chg where
 dem : Option Tmp := none
 blk : Option (Nat × List CVal) := none
 new : Option (List CVal) := none
def St.demO (s : St) : Option Tmp → St
 | some t => s.dem t
 | none => s
def St.blkO (s : St) : Option (Nat × List CVal) → St
 | some (b, cs) => { s with H := hset s.H b cs }
 | none => s
def St.newO (s : St) : Option (List CVal) → St
 | some cs => { s with H := s.H ++ [some cs] }
 | none => s
def St.chg (s : St) (c : Chg) : St := ((s.demO c.dem).blkO c.blk).newO c.new
def Yields (P : Program) (o : Oper) (a : Act) (w : World) (v : Value) (w' : World) : Prop :=
 (execOp a.eval o).run P w = .ok (.value v) w' ∨ ((execOp a.eval o).run P w = .ok .skip w' ∧ v = undef)
def Sim (P : Program) (o : Oper) (s : St) (x : AVal) (c : Chg) : Prop :=
 ∀ a w κ ρ, Rel s a w κ ρ → ∃ v w' κ' ρ', Yields P o a w v w' ∧ Rel (s.chg c) a w' κ' ρ' ∧ (∀ d, o.dst = some d → RepA w' κ' ρ' (.slot d) x v) ∧ x.ok (s.chg c).H.length = true ∧ Fr w κ w' κ' ∧ (∀ b, b < s.H.length → ρ' b = ρ b)
theorem Sim.still {P : Program} {o : Oper} {s : St} {x : AVal}
  (h : ∀ a w κ ρ, Rel s a w κ ρ → ∃ v, (execOp a.eval o).run P w = .ok (.value v) w ∧ (∀ d, RepA w κ ρ (.slot d) x v) ∧ x.ok s.H.length = true) : Sim P o s x {} := by
 intro a w κ ρ hR
 obtain ⟨v, h1, h2, h3⟩ := h a w κ ρ hR
 exact ⟨v, w, κ, ρ, .inl h1, hR, fun d _ => h2 d, h3, Fr.refl _ _, fun _ _ => rfl⟩
def St.env (s : St) (x : Operand) : Value := ((s.ev x).toV).getD undef
def isSel : Op → Bool
 | .select .. => true
 | _ => false
def aPlain (P : Program) (s : St) (o : Oper) : Option (AVal × Chg) :=
 if o.op.operands.toList.all (fun x => (s.ev x).toV.isSome) && !isSel o.op then
  match pureRun P (execOp s.env o) with
  | some (.value v) => some (ofV v, {})
  | _ => none
 else none
theorem aPlain_sim {P : Program} {s : St} {o : Oper} {x : AVal} {c : Chg} (h : aPlain P s o = some (x, c)) : Sim P o s x c := by
 unfold aPlain at h
 split at h
 ·rename_i hc
  rw [Bool.and_eq_true] at hc
  split at h
  ·rename_i v hv
   injection h with h
   injection h with h1 h2
   subst h1; subst h2
   refine Sim.still fun a w κ ρ hR => ⟨v, ?_, fun d => repA_ofV v, ofV_ok _ v⟩
   have he : execOp a.eval o = execOp s.env o := execOp_congr o (fun cs b e => by rw [e] at hc; simp [isSel] at hc) (fun y hy => by
    have := List.all_eq_true.1 hc.1 y (Array.mem_toList_iff.2 hy)
    obtain ⟨u, hu⟩ := Option.isSome_iff_exists.1 this
    rw [hR.toV hu, St.env, hu]; rfl)
   rw [he]
   exact pureRun_run hv w
  ·cases h
 ·cases h
section
variable {w w' : World} {κ κ' : Nat → BK} {ρ ρ' : Nat → Nat} {l l' : Loc} {s : St} {a : Act}
theorem mv_label {g k n : Nat} (h : κ g = .tip k l) (l' : Loc) : Mv (· = g) n w κ ρ w (upd κ g (.tip k l')) ρ :=
  ⟨rfl, rfl, rfl, Nat.le_refl _, fun _ _ => rfl, fun j _ hj => ⟨rfl, upd_other _ _ hj⟩, fun _ _ _ _ _ _ hx => hx,
   fun j m _ hj hf => by subst hj; rw [upd_same]; rw [h] at hf; exact hf, fun j m hj => by subst hj; rw [h]; intro e; cases e⟩
theorem TipAt.label {sz : Nat} {cs : List FVal} {len g cap : Nat} (h : TipAt w κ l sz cs len g cap) (l' : Loc) : TipAt w (upd κ g (.tip cs.length l')) l' sz cs len g cap :=
 ⟨h.row.grow (mv_label (n := 0) (ρ := id) h.own l').grow, h.lt, h.cut, upd_same _ _ _, h.le, h.blk⟩
theorem demote {s : St} {a : Act} {w : World} {κ : Nat → BK} {ρ : Nat → Nat} (h : Rel s a w κ ρ) (t : Nat) : Rel (s.dem t) a w κ ρ := by
 refine ⟨h.defers, fun i hi' => ?_, fun i hi => ?_, fun i => ?_, h.heap⟩
 ·simp only [St.dem]
  by_cases e : i = t
  ·subst e; rw [upd_same]; exact RepA.dem (h.slot i hi')
  ·rw [upd_other _ _ e]; exact h.slot i hi'
 ·simp only [St.dem]
  by_cases e : i = t
  ·subst e; rw [upd_same, h.out i hi]; rfl
  ·rw [upd_other _ _ e]; exact h.out i hi
 ·simp only [St.dem]
  by_cases e : i = t
  ·subst e; rw [upd_same]; exact AVal.dem_ok _ (h.ok i)
  ·rw [upd_other _ _ e]; exact h.ok i
theorem Rel.give {t sz : Nat} {cs : List FVal} {len : Nat} (h : Rel s a w κ ρ) (ht : s.ev (.tmp t) = .c (.tip sz cs len)) (l' : Loc) :
  ∃ κ', Rel (s.dem t) a w κ' ρ ∧ RepC w κ' ρ l' (.tip sz cs len) (a.eval (.tmp t)) ∧ Fr w κ w κ' := by
 have h1 := h.ev_tmp t
 rw [ht] at h1
 obtain ⟨g, cap, hv, hT⟩ | hn := h1
 rotate_left
 ·exact ⟨κ, demote h t, .inr hn, Fr.refl _ _⟩
 have m := mv_label (w := w) (ρ := ρ) (n := s.H.length) hT.own l'
 exact ⟨_, h.mv_slot m hT.own, .inl ⟨g, cap, hv, hT.label l'⟩, m.fr⟩
end
def aMove (tr : Bool) (s : St) (x : Operand) : AVal × Chg :=
 match tr, x, s.ev x with
 | true, .tmp t, .c (.tip sz cs len) => (.c (.tip sz cs len), { dem := some t })
 | _, _, v => (v.dem, {})
theorem aMove_sim {P : Program} {s : St} {o : Oper} {tr : Bool} {x : Operand} (ho : ∀ (ρ : Operand → Value) w, (execOp ρ o).run P w = .ok (.value (ρ x)) w) : Sim P o s (aMove tr s x).1 (aMove tr s x).2 := by
 unfold aMove
 split
 ·rename_i t sz cs len he
  intro a w κ ρ hR
  cases hd : o.dst with
  | none =>
   obtain ⟨κ', h1, h2, h3⟩ := hR.give he (.slot 0)
   exact ⟨_, w, κ', ρ, .inl (ho _ _), h1, (fun d e => by cases e), rfl, h3, fun _ _ => rfl⟩
  | some d =>
   obtain ⟨κ', h1, h2, h3⟩ := hR.give he (.slot d)
   exact ⟨_, w, κ', ρ, .inl (ho _ _), h1, (fun d' e => by cases e; exact h2), rfl, h3, fun _ _ => rfl⟩
 ·exact Sim.still fun a w κ ρ hR => ⟨_, ho _ _, fun d => hR.ev _, AVal.dem_ok _ (hR.ev_ok _)⟩
def aPick (s : St) (c x y : Operand) : Option (AVal × Chg) :=
 match s.ev c with
 | .c (.f (.v (.bool true))) => some ((s.ev x).dem, {})
 | .c (.f (.v (.bool false))) => some ((s.ev y).dem, {})
 | _ => none
theorem aPick_sim {P : Program} {s : St} {o : Oper} {c x y : Operand} {r : AVal} {ch : Chg} (ho : o.op = .pick c x y) (h : aPick s c x y = some (r, ch)) : Sim P o s r ch := by
 unfold aPick at h
 split at h
 ·rename_i he
  injection h with h; injection h with h1 h2; subst h1; subst h2
  refine Sim.still fun a w κ ρ hR => ⟨a.eval x, ?_, fun d => hR.ev x, AVal.dem_ok _ (hR.ev_ok x)⟩
  have : a.eval c = .bool true := hR.toV (by rw [he]; rfl)
  simp [execOp, ho, this, asBool]
 ·rename_i he
  injection h with h; injection h with h1 h2; subst h1; subst h2
  refine Sim.still fun a w κ ρ hR => ⟨a.eval y, ?_, fun d => hR.ev y, AVal.dem_ok _ (hR.ev_ok y)⟩
  have : a.eval c = .bool false := hR.toV (by rw [he]; rfl)
  simp [execOp, ho, this, asBool]
 ·cases h
def tsz (P : Program) (t : TypeId) : Option (Bool × Nat) :=
 match P.underlying t, P.info? t with
 | some d, some i => some (d.isRow, i.size)
 | _, _ => none
theorem tsz_of {P : Program} {t : TypeId} {b : Bool} {n : Nat} (h : tsz P t = some (b, n)) : ∃ d i, P.underlying t = some d ∧ P.info? t = some i ∧ d.isRow = b ∧ i.size = n := by
 unfold tsz at h
 split at h
 ·rename_i d i h1 h2
  injection h with h
  injection h with h3 h4
  exact ⟨d, i, h1, h2, h3, h4⟩
 ·cases h
theorem run_isAgg {P : Program} {t : TypeId} {d : TypeDesc} (h : P.underlying t = some d) (w : World) : (isAgg t).run P w = .ok d.isRow w := by
 unfold isAgg
 rw [Sem.run_bind, run_underlying h w]
 cases d <;> rfl
theorem run_loadAt_one {P : Program} (w : World) (g o : Nat) (t : TypeId) {n : Nat} (ht : tsz P t = some (false, n)) {v : Value} (hc : w.cell? ⟨g, o, none⟩ = some v) :
  (Instr.loadAt t (.pointer (some ⟨g, o, none⟩))).run P w = .ok v w := by
 obtain ⟨d, i, h1, h2, h3, h4⟩ := tsz_of ht
 have := run_isAgg h1 w
 rw [h3] at this
 simp only [Instr.loadAt, Instr.sureAddr, loadVar, Sem.run_bind, Sem.run_pure, Result.andThen_ok, this]
 simp [load, Sem.run, hc]
theorem run_loadAt_row {P : Program} (w : World) (g o : Nat) (t : TypeId) {n : Nat} (ht : tsz P t = some (true, n)) {vs : List Value} (hn : vs.length = n) (hc : w.rangeAt g o vs) :
  (Instr.loadAt t (.pointer (some ⟨g, o, none⟩))).run P w = .ok (.agg vs.toArray) w := by
 obtain ⟨d, i, h1, h2, h3, h4⟩ := tsz_of ht
 exact run_loadAt_mid w g o t vs d hc h1 h3 (by rw [h2]; simp [h4, hn])
section
variable {w w' : World} {κ κ' : Nat → BK} {ρ ρ' : Nat → Nat} {l l' : Loc} {s : St} {a : Act}
theorem RowAt.part {g o : Nat} {cs : List FVal} (h : RowAt w κ g o cs) (off n : Nat) (hn : off + n ≤ cs.length) :
  ∃ vs : List Value, vs.length = n ∧ w.rangeAt g (o + off) vs ∧ ∀ i (hi : i < n) (h' : i < vs.length), RepF w κ (cs[off + i]'(by omega)) vs[i] := by
 refine ⟨(List.range n).map fun i => if hh : off + i < cs.length then (h.cell (off + i) hh).choose else default, by simp, fun j v hv => ?_, fun i hi hi' => ?_⟩
 ·rw [List.getElem?_map] at hv
  rcases Nat.lt_or_ge j n with hj | hj
  ·rw [List.getElem?_range hj] at hv
   have hh : off + j < cs.length := by omega
   simp only [Option.map_some, hh, dite_true, Option.some.injEq] at hv
   rw [← hv, Nat.add_assoc]
   exact (h.cell (off + j) hh).choose_spec.1
  ·rw [List.getElem?_eq_none (by simpa using hj)] at hv; cases hv
 ·have hh : off + i < cs.length := by omega
  simp only [List.getElem_map, List.getElem_range, hh, dite_true]
  exact (h.cell (off + i) hh).choose_spec.2
theorem Blk.cell {b : Nat} {cs : List CVal} (h : Blk w κ ρ b cs) (i : Nat) (hi : i < cs.length) : ∃ v, w.cell? ⟨ρ b, i, none⟩ = some v ∧ RepC w κ ρ (.cell b i) cs[i] v := by
 obtain ⟨_, c, e, h1, h2, h3⟩ := h
 have hi' : i < c.size := by omega
 refine ⟨c[i], ?_, h3 i hi hi'⟩
 simp [World.cell?, h1, hi']
theorem Blk.part {b : Nat} {cs : List CVal} (h : Blk w κ ρ b cs) (off n : Nat) (hn : off + n ≤ cs.length) :
  ∃ vs : List Value, vs.length = n ∧ w.rangeAt (ρ b) off vs ∧ ∀ i (hi : i < n) (h' : i < vs.length), RepC w κ ρ (.cell b (off + i)) (cs[off + i]'(by omega)) vs[i] := by
 obtain ⟨_, c, e, h1, h2, h3⟩ := h
 refine ⟨(c.extract off (off + n)).toList, by simp; omega, fun j v hv => ?_, fun i hi hi' => ?_⟩
 ·rw [Array.getElem?_toList, Array.getElem?_extract] at hv
  split at hv
  ·simp only [World.cell?, h1]
   simpa using hv
  ·cases hv
 ·have hlt : off + i < c.size := by omega
  simp only [Array.getElem_toList, Array.getElem_extract]
  exact h3 (off + i) (by omega) hlt
theorem heap_ok {H : List (Option (List CVal))} (h : RelH H w κ ρ) {b : Nat} {cs : List CVal} (hb : H[b]? = some (some cs)) (i : Nat) (hi : i < cs.length) : cs[i].ok H.length = true := h.ok b cs hb _ (List.getElem_mem hi)
end
def aLoad (P : Program) (tr : Bool) (s : St) (t : TypeId) (x : Operand) : Option (AVal × Chg) :=
 match tsz P t, s.ev x with
 | some (false, _), .c (.ip cs off) => match cs[off]? with
  | some y => some (.c (.f y), {})
  | none => none
 | some (true, n), .c (.ip cs off) => if off + n ≤ cs.length then some (.agg (((cs.drop off).take n).map CVal.f), {}) else none
 | some (false, _), .c (.ptr b off) => match s.H[b]? with
  | some (some cells) => match cells[off]? with
   | some y => match tr, y with
    | true, .tip sz cs len => some (.c (.tip sz cs len), { blk := some (b, cells.modify off CVal.dem) })
    | _, _ => some (.c y.dem, {})
   | none => none
  | _ => none
 | some (true, n), .c (.ptr b off) => match s.H[b]? with
  | some (some cells) => if off + n ≤ cells.length then some (.agg (((cells.drop off).take n).map CVal.dem), {}) else none
  | _ => none
 | _, _ => none
theorem exec_load {P : Program} {ev : Operand → Value} {o : Oper} {t : TypeId} {x : Operand} (ho : o.op = .load t x) {v : Value} {w w' : World} (h : (Instr.loadAt t (ev x)).run P w = .ok v w') : (execOp ev o).run P w = .ok (.value v) w' := by
 simp [execOp, ho, h]
theorem Rel.at_ip {s : St} {a : Act} {w : World} {κ : Nat → BK} {ρ : Nat → Nat} (h : Rel s a w κ ρ) {x : Operand} {cs : List FVal} {off : Nat} (e : s.ev x = .c (.ip cs off)) : ∃ g o, a.eval x = .pointer (some ⟨g, o + off, none⟩) ∧ RowAt w κ g o cs := by
 have := h.ev (l := .slot 0) x
 rw [e] at this
 exact this
theorem Rel.at_ptr {s : St} {a : Act} {w : World} {κ : Nat → BK} {ρ : Nat → Nat} (h : Rel s a w κ ρ) {x : Operand} {b off : Nat} (e : s.ev x = .c (.ptr b off)) : a.eval x = .pointer (some ⟨ρ b, off, none⟩) := by
 have := h.ev (l := .slot 0) x
 rw [e] at this
 exact this
theorem Rel.at_arr {s : St} {a : Act} {w : World} {κ : Nat → BK} {ρ : Nat → Nat} (h : Rel s a w κ ρ) {x : Operand} {b off len cap : Nat} (e : (s.ev x).dem = .c (.arr b off len cap)) : a.eval x = .slice (some ⟨ρ b, off, none⟩) len cap := by
 have := h.ev (l := .slot 0) x
 rw [e] at this
 exact this
theorem Rel.at_row {s : St} {a : Act} {w : World} {κ : Nat → BK} {ρ : Nat → Nat} (h : Rel s a w κ ρ) {x : Operand} {cs : List FVal} {len : Nat} (e : (s.ev x).dem = .c (.f (.row cs len))) : (∃ g o cap, a.eval x = .slice (some ⟨g, o, none⟩) len cap ∧ len ≤ cap ∧ RowAt w κ g o cs) ∨ (cs = [] ∧ len = 0 ∧ a.eval x = .slice none 0 0) := by
 have := h.ev (l := .slot 0) x
 rw [e] at this
 exact repF_row.1 this
theorem ok_take_f (n off : Nat) (cs : List FVal) (m : Nat) : (AVal.agg (((cs.drop off).take n).map CVal.f)).ok m = true := by
 simp only [AVal.ok, List.all_eq_true]
 intro y hy
 obtain ⟨z, _, rfl⟩ := List.mem_map.1 hy
 rfl
theorem aLoad_sim {P : Program} {s : St} {o : Oper} {tr : Bool} {t : TypeId} {x : Operand} {r : AVal} {ch : Chg} (ho : o.op = .load t x) (h : aLoad P tr s t x = some (r, ch)) : Sim P o s r ch := by
 unfold aLoad at h
 split at h
 ·rename_i n cs off ht he
  split at h
  ·rename_i y hy
   injection h with h; injection h with h1 h2; subst h1; subst h2
   refine Sim.still fun a w κ ρ hR => ?_
   obtain ⟨g, oo, hv, hrow⟩ := hR.at_ip he
   obtain ⟨hi, hyy⟩ := List.getElem?_eq_some_iff.1 hy
   obtain ⟨v, hc, hr⟩ := hrow.cell off hi
   rw [hyy] at hr
   exact ⟨v, exec_load ho (by rw [hv]; exact run_loadAt_one w g (oo + off) t ht hc), fun d => hr, rfl⟩
  ·cases h
 ·rename_i n cs off ht he
  split at h
  ·rename_i hn
   injection h with h; injection h with h1 h2; subst h1; subst h2
   refine Sim.still fun a w κ ρ hR => ?_
   obtain ⟨g, oo, hv, hrow⟩ := hR.at_ip he
   obtain ⟨vs, hl, hra, hre⟩ := hrow.part off n hn
   refine ⟨.agg vs.toArray, exec_load ho (by rw [hv]; exact run_loadAt_row w g (oo + off) t ht hl hra), fun d => ⟨vs.toArray, rfl, by simp; omega, fun i hi hi' => ?_⟩, ok_take_f _ _ _ _⟩
   have hi2 : i < n := by simp at hi; omega
   refine ⟨by rw [List.getElem_map]; rfl, ?_⟩
   have := hre i hi2 (by omega)
   simp only [List.getElem_map, List.getElem_take, List.getElem_drop]
   exact this
  ·cases h
 ·rename_i n b off ht he
  split at h
  ·rename_i cells hb
   split at h
   ·rename_i y hy
    obtain ⟨hi, hyy⟩ := List.getElem?_eq_some_iff.1 hy
    split at h
    ·rename_i sz cs len
     injection h with h; injection h with h1 h2; subst h1; subst h2
     intro a w κ ρ hR
     obtain ⟨v, hc, hr⟩ := (hR.heap.blk b cells hb).cell off hi
     rw [hyy] at hr
     obtain ⟨g, cap, rfl, hT⟩ | hn := hr
     rotate_left
     ·exact ⟨v, w, κ, ρ, .inl (exec_load ho (by rw [hR.at_ptr he]; exact run_loadAt_one w _ off t ht hc)), hR.dem_cell hb, fun d hd => .inr hn, rfl, Fr.refl _ _, fun _ _ => rfl⟩
     have m := mv_label (w := w) (ρ := ρ) (n := s.H.length) hT.own (.slot (o.dst.getD 0))
     refine ⟨_, w, _, ρ, .inl (exec_load ho (by rw [hR.at_ptr he]; exact run_loadAt_one w _ off t ht hc)), hR.mv_cell hb m hT.own, fun d hd => ?_, rfl, m.fr, fun _ _ => rfl⟩
     rw [hd]
     exact .inl ⟨g, cap, rfl, hT.label _⟩
    ·injection h with h; injection h with h1 h2; subst h1; subst h2
     refine Sim.still fun a w κ ρ hR => ?_
     obtain ⟨v, hc, hr⟩ := (hR.heap.blk b cells hb).cell off hi
     rw [hyy] at hr
     exact ⟨v, exec_load ho (by rw [hR.at_ptr he]; exact run_loadAt_one w _ off t ht hc), fun d => RepC.dem hr, CVal.dem_ok _ (hyy ▸ heap_ok hR.heap hb off hi)⟩
   ·cases h
  ·cases h
 ·rename_i n b off ht he
  split at h
  ·rename_i cells hb
   split at h
   ·rename_i hn
    injection h with h; injection h with h1 h2; subst h1; subst h2
    refine Sim.still fun a w κ ρ hR => ?_
    obtain ⟨vs, hl, hra, hre⟩ := (hR.heap.blk b cells hb).part off n hn
    refine ⟨.agg vs.toArray, exec_load ho (by rw [hR.at_ptr he]; exact run_loadAt_row w _ off t ht hl hra), fun d => ⟨vs.toArray, rfl, by simp; omega, fun i hi hi' => ?_⟩, ?_⟩
    ·have hi2 : i < n := by simp at hi; omega
     refine ⟨by rw [List.getElem_map]; exact CVal.dem_flat _, ?_⟩
     have := hre i hi2 (by omega)
     simp only [List.getElem_map, List.getElem_take, List.getElem_drop]
     exact RepC.dem this
    ·simp only [AVal.ok, List.all_eq_true]
     intro y hy
     obtain ⟨z, hz, rfl⟩ := List.mem_map.1 hy
     exact CVal.dem_ok _ (hR.heap.ok b cells hb z (List.mem_of_mem_drop (List.mem_of_mem_take hz)))
   ·cases h
  ·cases h
 ·cases h
def fldOff (P : Program) (t : TypeId) (f : Nat) : Option Nat :=
 match P.underlying t with
 | some (.struct fields) => match fields[f]? with
  | some fd => match P.info? fd.type with
   | some i => if i.size = 0 then none else some fd.offset
   | none => none
  | none => none
 | _ => none
theorem run_fieldAt {P : Program} {t : TypeId} {f k : Nat} (h : fldOff P t f = some k) (w : World) (g o : Nat) :
  (Instr.fieldAt t (.pointer (some ⟨g, o, none⟩)) f).run P w = .ok (.pointer (some ⟨g, o + k, none⟩)) w := by
 unfold fldOff at h
 split at h
 ·rename_i fields hu
  split at h
  ·rename_i fd hf
   split at h
   ·rename_i i hi
    split at h
    ·cases h
    ·rename_i hz
     injection h with h
     subst h
     simp [Instr.fieldAt, run_underlying hu w, hf, Instr.sureAddr, fieldPlace, sizeOf, typeInfo, program, Sem.run, hi, hz, Addr.add_mid]
   ·cases h
  ·cases h
 ·cases h
def aFieldAddr (P : Program) (s : St) (t : TypeId) (x : Operand) (f : Nat) : Option (AVal × Chg) :=
 match fldOff P t f, s.ev x with
 | some k, .c (.ip cs off) => some (.c (.ip cs (off + k)), {})
 | some k, .c (.ptr b off) => some (.c (.ptr b (off + k)), {})
 | _, _ => none
theorem aFieldAddr_sim {P : Program} {s : St} {o : Oper} {t : TypeId} {x : Operand} {f : Nat} {r : AVal} {ch : Chg} (ho : o.op = .fieldAddr t x f) (h : aFieldAddr P s t x f = some (r, ch)) : Sim P o s r ch := by
 unfold aFieldAddr at h
 split at h
 ·rename_i k cs off hk he
  injection h with h; injection h with h1 h2; subst h1; subst h2
  refine Sim.still fun a w κ ρ hR => ?_
  obtain ⟨g, oo, hv, hrow⟩ := hR.at_ip he
  exact ⟨.pointer (some ⟨g, oo + off + k, none⟩), by simp [execOp, ho, hv, run_fieldAt hk], fun d => ⟨g, oo, by rw [Nat.add_assoc], hrow⟩, rfl⟩
 ·rename_i k b off hk he
  injection h with h; injection h with h1 h2; subst h1; subst h2
  refine Sim.still fun a w κ ρ hR => ?_
  have hv := hR.at_ptr he
  exact ⟨_, by simp [execOp, ho, hv, run_fieldAt hk], fun d => rfl, by have := hR.ev_ok x; rw [he] at this; exact this⟩
 ·cases h
def elemSz (P : Program) (t : TypeId) : Option Nat :=
 match P.underlying t with
 | some (.slice e) => match P.info? e with
  | some i => some i.size
  | none => none
 | _ => none
def arrOf (P : Program) (t : TypeId) : Option (Nat × Nat) :=
 match P.underlying t with
 | some (.array n e) => match P.info? e with
  | some i => some (n, i.size)
  | none => none
 | _ => none
theorem elemSz_of {P : Program} {t : TypeId} {z : Nat} (h : elemSz P t = some z) : ∃ e i, P.underlying t = some (.slice e) ∧ P.info? e = some i ∧ i.size = z := by
 unfold elemSz at h
 split at h
 ·rename_i e hu
  split at h
  ·rename_i i hi; injection h with h; exact ⟨e, i, hu, hi, h⟩
  ·cases h
 ·cases h
theorem arrOf_of {P : Program} {t : TypeId} {n z : Nat} (h : arrOf P t = some (n, z)) : ∃ e i, P.underlying t = some (.array n e) ∧ P.info? e = some i ∧ i.size = z := by
 unfold arrOf at h
 split at h
 ·rename_i m e hu
  split at h
  ·rename_i i hi; injection h with h; injection h with h1 h2; subst h1; exact ⟨e, i, hu, hi, h2⟩
  ·cases h
 ·cases h
theorem run_indexAt_slice {P : Program} {t : TypeId} {z : Nat} (ht : elemSz P t = some z) (w : World) (g o len cap : Nat) (k : IntKind) (n : Int) (h0 : 0 ≤ n) (h1 : n < len) :
  (Instr.indexAt t (.slice (some ⟨g, o, none⟩) len cap) (.int k n)).run P w = .ok (.pointer (some ⟨g, o + n.toNat * z, none⟩)) w := by
 obtain ⟨e, i, hu, hi, hz⟩ := elemSz_of ht
 simp [Instr.indexAt, asIntOf, run_underlying hu w, sizeOf, typeInfo, program, Sem.run, hi, hz, h0, h1, Addr.add_mid]
theorem run_indexAt_array {P : Program} {t : TypeId} {m z : Nat} (ht : arrOf P t = some (m, z)) (w : World) (g o : Nat) (k : IntKind) (n : Int) (h0 : 0 ≤ n) (h1 : n < m) :
  (Instr.indexAt t (.pointer (some ⟨g, o, none⟩)) (.int k n)).run P w = .ok (.pointer (some ⟨g, o + n.toNat * z, none⟩)) w := by
 obtain ⟨e, i, hu, hi, hz⟩ := arrOf_of ht
 simp [Instr.indexAt, asIntOf, run_underlying hu w, Instr.sureAddr, sizeOf, typeInfo, program, Sem.run, hi, hz, h0, h1, Addr.add_mid]
def AVal.ix : AVal → Option Int
 | .c (.f (.v (.int _ n))) => some n
 | _ => none
theorem Rel.at_ix {s : St} {a : Act} {w : World} {κ : Nat → BK} {ρ : Nat → Nat} (h : Rel s a w κ ρ) {x : Operand} {n : Int} (e : (s.ev x).ix = some n) : ∃ k, a.eval x = .int k n := by
 unfold AVal.ix at e
 split at e
 ·rename_i k m he
  injection e with e
  subst e
  exact ⟨k, h.toV (by rw [he]; rfl)⟩
 ·cases e
def aIndexAddr (P : Program) (s : St) (t : TypeId) (x i : Operand) : Option (AVal × Chg) :=
 match (s.ev i).ix with
 | some n => if 0 ≤ n then
   match elemSz P t, arrOf P t, (s.ev x).dem with
   | some z, _, .c (.f (.row cs len)) => if n < len then some (.c (.ip cs (n.toNat * z)), {}) else none
   | some z, _, .c (.arr b off len _) => if n < len then some (.c (.ptr b (off + n.toNat * z)), {}) else none
   | none, some (m, z), .c (.ptr b off) => if n < m then some (.c (.ptr b (off + n.toNat * z)), {}) else none
   | none, some (m, z), .c (.ip cs off) => if n < m then some (.c (.ip cs (off + n.toNat * z)), {}) else none
   | _, _, _ => none
  else none
 | none => none
theorem dem_ptr {x : AVal} {b off : Nat} (h : x.dem = .c (.ptr b off)) : x = .c (.ptr b off) := by
 cases x with
 | c x => cases x <;> first | exact h | cases h
 | agg cs => cases h
 | tup ts => cases h
theorem dem_ip {x : AVal} {cs : List FVal} {off : Nat} (h : x.dem = .c (.ip cs off)) : x = .c (.ip cs off) := by
 cases x with
 | c x => cases x <;> first | exact h | cases h
 | agg cs => cases h
 | tup ts => cases h
theorem dem_arr {x : AVal} {b off len cap : Nat} (h : x.dem = .c (.arr b off len cap)) : x = .c (.arr b off len cap) := by
 cases x with
 | c x => cases x <;> first | exact h | cases h
 | agg cs => cases h
 | tup ts => cases h
theorem aIndexAddr_sim {P : Program} {s : St} {o : Oper} {t : TypeId} {x i : Operand} {r : AVal} {ch : Chg} (ho : o.op = .indexAddr t x i) (h : aIndexAddr P s t x i = some (r, ch)) : Sim P o s r ch := by
 unfold aIndexAddr at h
 split at h
 ·rename_i n hn
  split at h
  ·rename_i h0
   split at h
   ·rename_i _ z cs len hz he
    split at h
    ·rename_i h1
     injection h with h; injection h with e1 e2; subst e1; subst e2
     refine Sim.still fun a w κ ρ hR => ?_
     obtain ⟨g, oo, cap, hv, hcap, hrow⟩ | ⟨_, hl0, _⟩ := hR.at_row he
     rotate_left
     ·omega
     obtain ⟨k, hk⟩ := hR.at_ix hn
     exact ⟨_, by simp [execOp, ho, hv, hk, run_indexAt_slice hz w g oo len cap k n h0 h1], fun d => ⟨g, oo, rfl, hrow⟩, rfl⟩
    ·cases h
   ·rename_i _ z b off len cap hz he
    split at h
    ·rename_i h1
     injection h with h; injection h with e1 e2; subst e1; subst e2
     refine Sim.still fun a w κ ρ hR => ?_
     have hv := hR.at_arr he
     obtain ⟨k, hk⟩ := hR.at_ix hn
     exact ⟨_, by simp [execOp, ho, hv, hk, run_indexAt_slice hz w _ off len cap k n h0 h1], fun d => rfl, by have := hR.ev_ok x; rw [dem_arr he] at this; exact this⟩
    ·cases h
   ·rename_i m z b off hz _ he
    split at h
    ·rename_i h1
     injection h with h; injection h with e1 e2; subst e1; subst e2
     refine Sim.still fun a w κ ρ hR => ?_
     have hv := hR.at_ptr (dem_ptr he)
     obtain ⟨k, hk⟩ := hR.at_ix hn
     exact ⟨_, by simp [execOp, ho, hv, hk, run_indexAt_array ‹arrOf P t = some (m, z)› w _ off k n h0 h1], fun d => rfl, by have := hR.ev_ok x; rw [dem_ptr he] at this; exact this⟩
    ·cases h
   ·rename_i m z cs off hz _ he
    split at h
    ·rename_i h1
     injection h with h; injection h with e1 e2; subst e1; subst e2
     refine Sim.still fun a w κ ρ hR => ?_
     obtain ⟨g, oo, hv, hrow⟩ := hR.at_ip (dem_ip he)
     obtain ⟨k, hk⟩ := hR.at_ix hn
     exact ⟨.pointer (some ⟨g, oo + off + n.toNat * z, none⟩), by simp [execOp, ho, hv, hk, run_indexAt_array ‹arrOf P t = some (m, z)› w g (oo + off) k n h0 h1], fun d => ⟨g, oo, by rw [Nat.add_assoc], hrow⟩, rfl⟩
    ·cases h
   ·cases h
  ·cases h
 ·cases h
def aNil (s : St) (x : Operand) : Option (AVal × Chg) :=
 match s.ev x with
 | .c (.ip cs off) => some (.c (.ip cs off), {})
 | .c (.ptr b off) => some (.c (.ptr b off), {})
 | _ => none
theorem aNil_sim {P : Program} {s : St} {o : Oper} {x : Operand} {r : AVal} {ch : Chg} (ho : o.op = .nilCheck x) (h : aNil s x = some (r, ch)) : Sim P o s r ch := by
 unfold aNil at h
 split at h
 ·rename_i cs off he
  injection h with h; injection h with e1 e2; subst e1; subst e2
  refine Sim.still fun a w κ ρ hR => ?_
  obtain ⟨g, oo, hv, hrow⟩ := hR.at_ip he
  exact ⟨_, by simp only [execOp, ho, hv]; rfl, fun d => ⟨g, oo, rfl, hrow⟩, rfl⟩
 ·rename_i b off he
  injection h with h; injection h with e1 e2; subst e1; subst e2
  refine Sim.still fun a w κ ρ hR => ?_
  have hv := hR.at_ptr he
  exact ⟨_, by simp only [execOp, ho, hv]; rfl, fun d => rfl, by have := hR.ev_ok x; rw [he] at this; exact this⟩
 ·cases h
def TVal.a : TVal → AVal
 | .c x => .c x
 | .agg cs => .agg cs
theorem RepT.a {w : World} {κ : Nat → BK} {ρ : Nat → Nat} {l l' : Loc} : ∀ {x : TVal} {v : Value}, RepT w κ ρ l x v → RepA w κ ρ l' x.a v
 | .c x, v, h => h.2.loc h.1
 | .agg cs, v, h => RepT.loc (x := .agg cs) h
def aExtract (s : St) (x : Operand) (i : Nat) : Option (AVal × Chg) :=
 match s.ev x with
 | .tup ts => match ts[i]? with
  | some y => some (y.a, {})
  | none => none
 | _ => none
theorem aExtract_sim {P : Program} {s : St} {o : Oper} {x : Operand} {i : Nat} {r : AVal} {ch : Chg} (ho : o.op = .extract x i) (h : aExtract s x i = some (r, ch)) : Sim P o s r ch := by
 unfold aExtract at h
 split at h
 ·rename_i ts he
  split at h
  ·rename_i y hy
   obtain ⟨hi, hyy⟩ := List.getElem?_eq_some_iff.1 hy
   injection h with h; injection h with e1 e2; subst e1; subst e2
   refine Sim.still fun a w κ ρ hR => ?_
   have h1 := hR.ev (l := .slot 0) x
   rw [he] at h1
   obtain ⟨vs, hv, hs, hr⟩ := h1
   have hi' : i < vs.size := by omega
   refine ⟨vs[i], by simp [execOp, ho, hv, Instr.extract, hi'], fun d => ?_, ?_⟩
   ·have := hr i hi hi'
    rw [hyy] at this
    exact this.a
   ·have := hR.ev_ok x
    rw [he] at this
    have := List.all_eq_true.1 this y (hyy ▸ List.getElem_mem hi)
    cases y <;> exact this
  ·cases h
 ·cases h
def aPart (cs : List CVal) (off : Nat) : Option (Bool × Nat) → Option AVal
 | some (false, _) => match cs[off]? with
  | some y => some (.c y)
  | none => none
 | some (true, n) => if off + n ≤ cs.length then some (.agg ((cs.drop off).take n)) else none
 | none => none
theorem aPart_run {P : Program} {w : World} {κ : Nat → BK} {ρ : Nat → Nat} {l l' : Loc} {cs : List CVal} {vs : Array Value} {off : Nat} {t : TypeId} {r : AVal} (hs : vs.size = cs.length) (hr : ∀ i (h : i < cs.length) (h' : i < vs.size), cs[i].flat = true ∧ RepC w κ ρ l cs[i] vs[i]) (h : aPart cs off (tsz P t) = some r) :
  ∃ v, (part t vs off).run P w = .ok v w ∧ RepA w κ ρ l' r v ∧ ∀ m, cs.all (CVal.ok m) = true → r.ok m = true := by
 cases ht : tsz P t with
 | none => rw [ht] at h; cases h
 | some bn =>
  obtain ⟨b, n⟩ := bn
  obtain ⟨d, i, h1, h2, h3, h4⟩ := tsz_of ht
  have hg := run_isAgg h1 w
  rw [h3] at hg
  rw [ht] at h
  cases b with
  | false =>
   simp only [aPart] at h
   split at h
   ·rename_i y hy
    injection h with h; subst h
    obtain ⟨hi, hyy⟩ := List.getElem?_eq_some_iff.1 hy
    have hi' : off < vs.size := by omega
    refine ⟨vs[off], by simp [part, hg, hi'], ?_, fun m hm => hyy ▸ List.all_eq_true.1 hm _ (List.getElem_mem hi)⟩
    have := hr off hi hi'
    rw [hyy] at this
    exact this.2.loc this.1
   ·cases h
  | true =>
   simp only [aPart] at h
   split at h
   ·rename_i hn
    injection h with h; subst h
    refine ⟨.agg (vs.extract off (off + n)), by simp [part, hg, sizeOf, typeInfo, program, Sem.run, h2, h4], ⟨_, rfl, by simp; omega, fun j hj hj' => ?_⟩, fun m hm => ?_⟩
    ·simp at hj
     simp only [List.getElem_take, List.getElem_drop, Array.getElem_extract]
     have := hr (off + j) (by omega) (by omega)
     exact ⟨this.1, this.2.loc this.1⟩
    ·simp only [AVal.ok, List.all_eq_true] at *
     exact fun z hz => hm z (List.mem_of_mem_drop (List.mem_of_mem_take hz))
   ·cases h
def fldAt (P : Program) (t : TypeId) (f : Nat) : Option (Nat × Option (Bool × Nat)) :=
 match P.underlying t with
 | some (.struct fields) => match fields[f]? with
  | some fd => some (fd.offset, tsz P fd.type)
  | none => none
 | _ => none
def aField (P : Program) (s : St) (t : TypeId) (x : Operand) (f : Nat) : Option (AVal × Chg) :=
 match fldAt P t f, s.ev x with
 | some (off, k), .agg cs => match aPart cs off k with
  | some r => some (r, {})
  | none => none
 | _, _ => none
theorem aField_sim {P : Program} {s : St} {o : Oper} {t : TypeId} {x : Operand} {f : Nat} {r : AVal} {ch : Chg} (ho : o.op = .field t x f) (h : aField P s t x f = some (r, ch)) : Sim P o s r ch := by
 unfold aField at h
 split at h
 ·rename_i off k cs hf he
  split at h
  ·rename_i r' hr'
   injection h with h; injection h with e1 e2; subst e1; subst e2
   unfold fldAt at hf
   split at hf
   ·rename_i fields hu
    split at hf
    ·rename_i fd hfd
     injection hf with hf; injection hf with e1 e2; subst e1; subst e2
     refine Sim.still fun a w κ ρ hR => ?_
     have h1 := hR.ev (l := .slot 0) x
     rw [he] at h1
     obtain ⟨vs, hv, hs, hr⟩ := h1
     obtain ⟨v, hrun, hrep, hok⟩ := aPart_run (l' := .slot 0) hs hr hr'
     obtain ⟨v2, hrun2, _, _⟩ := aPart_run (l' := .slot 0) hs hr hr'
     refine ⟨v, by simp [execOp, ho, hv, Instr.field, run_underlying hu w, hfd, asAgg, hrun], fun d => ?_, hok _ (by have := hR.ev_ok x; rw [he] at this; exact this)⟩
     obtain ⟨v3, hrun3, hrep3, _⟩ := aPart_run (l' := .slot d) hs hr hr'
     rw [hrun] at hrun3
     injection hrun3 with e3
     subst e3
     exact hrep3
    ·cases hf
   ·cases hf
  ·cases h
 ·cases h
def elemT (P : Program) (t : TypeId) : Option (Nat × Nat × Option (Bool × Nat)) :=
 match P.underlying t with
 | some (.array n e) => match P.info? e with
  | some i => some (n, i.size, tsz P e)
  | none => none
 | _ => none
def aIndex (P : Program) (s : St) (o : Oper) (t : TypeId) (x i : Operand) : Option (AVal × Chg) :=
 match elemT P t, s.ev x, (s.ev i).ix with
 | some (m, z, k), .agg cs, some n => if 0 ≤ n ∧ n < m then
   match aPart cs (n.toNat * z) k with
   | some r => some (r, {})
   | none => none
  else none
 | _, _, _ => aPlain P s o
theorem aIndex_sim {P : Program} {s : St} {o : Oper} {t : TypeId} {x i : Operand} {r : AVal} {ch : Chg} (ho : o.op = .index t x i) (h : aIndex P s o t x i = some (r, ch)) : Sim P o s r ch := by
 unfold aIndex at h
 split at h
 ·rename_i m z k cs n hE he hn
  split at h
  ·rename_i hb
   split at h
   ·rename_i r' hr'
    injection h with h; injection h with e1 e2; subst e1; subst e2
    unfold elemT at hE
    split at hE
    ·rename_i m' e hu
     split at hE
     ·rename_i ii hi
      injection hE with hE; injection hE with e1 e2; injection e2 with e2 e3; subst e1; subst e2; subst e3
      refine Sim.still fun a w κ ρ hR => ?_
      have h1 := hR.ev (l := .slot 0) x
      rw [he] at h1
      obtain ⟨vs, hv, hs, hr⟩ := h1
      obtain ⟨kk, hk⟩ := hR.at_ix hn
      obtain ⟨v, hrun, hrep, hok⟩ := aPart_run (l' := .slot 0) hs hr hr'
      refine ⟨v, by simp [execOp, ho, hv, hk, Instr.index, asIntOf, run_underlying hu w, hb.1, hb.2, sizeOf, typeInfo, program, Sem.run, hi, hrun], fun d => ?_, hok _ (by have := hR.ev_ok x; rw [he] at this; exact this)⟩
      obtain ⟨v3, hrun3, hrep3, _⟩ := aPart_run (l' := .slot d) hs hr hr'
      rw [hrun] at hrun3
      injection hrun3 with e3
      subst e3
      exact hrep3
     ·cases hE
    ·cases hE
   ·cases h
  ·cases h
 ·exact aPlain_sim h
def CVal.one : CVal → Bool
 | .any => false
 | .und => false
 | _ => true
theorem CVal.one_rep {w : World} {κ : Nat → BK} {ρ : Nat → Nat} {l : Loc} : ∀ {x : CVal} {v : Value}, RepC w κ ρ l x v → x.one = true → v.oneCell' = true
 | .f x, v, h, e => RepF.one h
 | .ip .., v, h, e => by obtain ⟨g, o, rfl, _⟩ := h; rfl
 | .ptr .., v, h, e => by have h : v = _ := h; rw [h]; rfl
 | .arr .., v, h, e => by have h : v = _ := h; rw [h]; rfl
 | .tip .., v, h, e => by obtain ⟨g, cap, rfl, _⟩ | ⟨_, _, rfl⟩ := h <;> rfl
 | .und, _, _, e => by cases e
 | .any, _, _, e => by cases e
def AVal.cells : AVal → Option (List CVal)
 | .c x => if x.one then some [x] else none
 | .agg cs => if cs.all CVal.one then some cs else none
 | .tup _ => none
structure CellsRep (w : World) (κ : Nat → BK) (ρ : Nat → Nat) (cs : List CVal) (vs : Array Value) : Prop where
 size : vs.size = cs.length
 flat : ∀ x ∈ cs, x.flat = true
 rep : ∀ l i (h : i < cs.length) (h' : i < vs.size), RepC w κ ρ l cs[i] vs[i]
 one : ∀ i (h : i < vs.size), vs[i].oneCell' = true
theorem cells_one {v : Value} (h : v.oneCell' = true) : v.cells = #[v] := by cases v <;> first | rfl | cases h
theorem AVal.cells_rep {w : World} {κ : Nat → BK} {ρ : Nat → Nat} {l : Loc} {x : AVal} {v : Value} {cs : List CVal} (h : RepA w κ ρ l x.dem v) (e : x.dem.cells = some cs) : CellsRep w κ ρ cs v.cells := by
 cases x with
 | c x =>
  simp only [AVal.dem, AVal.cells] at e
  split at e
  ·rename_i h1
   injection e with e
   subst e
   have h2 := CVal.one_rep h h1
   rw [cells_one h2]
   refine ⟨rfl, fun y hy => ?_, fun l' i hi hi' => ?_, fun i hi => ?_⟩
   ·rw [List.mem_singleton.1 hy]; exact CVal.dem_flat x
   ·have : i = 0 := by simp at hi; exact hi
    subst this
    exact RepC.loc (CVal.dem_flat x) h
   ·have : i = 0 := by simp at hi; exact hi
    subst this
    exact h2
  ·cases e
 | agg cs' =>
  simp only [AVal.dem, AVal.cells] at e
  split at e
  ·rename_i h1
   injection e with e
   subst e
   obtain ⟨vs, rfl, hs, hr⟩ := h
   refine ⟨hs, fun y hy => ?_, fun l' i hi hi' => ?_, fun i hi => ?_⟩
   ·obtain ⟨i, hi, rfl⟩ := List.mem_iff_getElem.1 hy
    exact (hr i hi (by omega)).1
   ·exact (hr i hi hi').2.loc (hr i hi hi').1
   ·have hi' : i < cs'.length := by have : i < vs.size := hi; omega
    exact CVal.one_rep (hr i hi' hi).2 (List.all_eq_true.1 h1 _ (List.getElem_mem hi'))
  ·cases e
 | tup ts => simp [AVal.dem, AVal.cells] at e
theorem AVal.cells_ok {n : Nat} {x : AVal} {cs : List CVal} (h : x.ok n = true) (e : x.dem.cells = some cs) : ∀ y ∈ cs, y.ok n = true := by
 cases x with
 | c x =>
  simp only [AVal.dem, AVal.cells] at e
  split at e
  ·injection e with e
   subst e
   intro y hy
   rw [List.mem_singleton.1 hy]
   exact CVal.dem_ok x h
  ·cases e
 | agg cs' =>
  simp only [AVal.dem, AVal.cells] at e
  split at e
  ·injection e with e
   subst e
   exact List.all_eq_true.1 h
  ·cases e
 | tup ts => simp [AVal.dem, AVal.cells] at e
theorem alloc_heap (w : World) (o : Obj) (g : Nat) : (w.alloc o).heap[g]? = if g = w.heap.size then some o else w.heap[g]? := by
 show (w.heap.push o)[g]? = _
 rw [Array.getElem?_push]
theorem alloc_size (w : World) (o : Obj) : (w.alloc o).heap.size = w.heap.size + 1 := by show (w.heap.push o).size = _; simp
theorem mv_alloc (n : Nat) (w : World) (κ : Nat → BK) (ρ : Nat → Nat) (o : Obj) (k : BK) (ρ' : Nat → Nat) (hρ : ∀ b, b < n → ρ' b = ρ b) : Mv (fun _ => False) n w κ ρ (w.alloc o) (upd κ w.heap.size k) ρ' :=
 ⟨rfl, rfl, rfl, by rw [alloc_size]; omega, hρ, fun g hg _ => ⟨by rw [alloc_heap, if_neg (by omega)], upd_other _ _ (by omega)⟩, fun _ _ _ _ h => h.elim, fun _ _ _ h => h.elim, fun _ _ h => h.elim⟩
theorem Rel.new {s : St} {a : Act} {w : World} {κ : Nat → BK} {ρ : Nat → Nat} (h : Rel s a w κ ρ) {cs : List CVal} {c : Array Value} (e : TypeId) (hc : CellsRep w κ ρ cs c) (hok : ∀ x ∈ cs, x.ok s.H.length = true) :
  Rel { s with H := s.H ++ [some cs] } a (w.alloc (.cells c e)) (upd κ w.heap.size (.wr s.H.length)) (upd ρ s.H.length w.heap.size) := by
 have m := mv_alloc s.H.length w κ ρ (.cells c e) (.wr s.H.length) (upd ρ s.H.length w.heap.size) (fun b hb => upd_other _ _ (by omega))
 have hR := h.mv m (fun _ h => h)
 have hlen : (s.H ++ [some cs]).length = s.H.length + 1 := by simp
 refine ⟨hR.defers, hR.slot, hR.out, fun i => AVal.ok_le (by rw [hlen]; omega) _ (hR.ok i), ⟨fun b ds hb => ?_, fun b ds hb => ?_⟩⟩
 ·rcases Nat.lt_or_ge b s.H.length with hlt | hge
  ·have hb' : s.H[b]? = some (some ds) := by rwa [List.getElem?_append_left hlt] at hb
   exact hR.heap.blk b ds hb'
  ·have hbe : b = s.H.length := by
    rcases Nat.lt_or_ge b (s.H ++ [some cs]).length with k | k
    ·rw [hlen] at k; omega
    ·rw [List.getElem?_eq_none k] at hb; cases hb
   subst hbe
   rw [List.getElem?_append_right (Nat.le_refl _)] at hb
   simp at hb
   subst hb
   refine ⟨by rw [upd_same, upd_same], c, e, by rw [upd_same, alloc_heap, if_pos rfl], hc.size, fun i hi hi' => ?_⟩
   exact RepC.keep m.grow m.rho (hok _ (List.getElem_mem hi)) (fun _ _ _ e => by have := hc.flat _ (List.getElem_mem hi); rw [e] at this; cases this) (hc.rep (.cell s.H.length i) i hi hi')
 ·intro x hx
  rw [hlen]
  rcases Nat.lt_or_ge b s.H.length with hlt | hge
  ·have hb' : s.H[b]? = some (some ds) := by rwa [List.getElem?_append_left hlt] at hb
   exact CVal.ok_le (by omega) _ (h.heap.ok b ds hb' x hx)
  ·have hbe : b = s.H.length := by
    rcases Nat.lt_or_ge b (s.H ++ [some cs]).length with k | k
    ·rw [hlen] at k; omega
    ·rw [List.getElem?_eq_none k] at hb; cases hb
   subst hbe
   rw [List.getElem?_append_right (Nat.le_refl _)] at hb
   simp at hb
   subst hb
   exact CVal.ok_le (by omega) _ (hok x hx)
def zeroC (P : Program) (t : TypeId) : Option (List CVal) :=
 match P.info? t with
 | some i => match i.zero with
  | some z => if z.cells.toList.all Value.oneCell' then some (z.cells.toList.map ofC) else none
  | none => none
 | none => none
theorem zeroC_of {P : Program} {t : TypeId} {cs : List CVal} (h : zeroC P t = some cs) : ∃ i z, P.info? t = some i ∧ i.zero = some z ∧ cs = z.cells.toList.map ofC ∧ ∀ v ∈ z.cells, v.oneCell' = true := by
 unfold zeroC at h
 split at h
 ·rename_i i hi
  split at h
  ·rename_i z hz
   split at h
   ·rename_i h1
    injection h with h
    exact ⟨i, z, hi, hz, h.symm, fun v hv => List.all_eq_true.1 h1 v (Array.mem_toList_iff.2 hv)⟩
   ·cases h
  ·cases h
 ·cases h
theorem cellsRep_ofC {w : World} {κ : Nat → BK} {ρ : Nat → Nat} (vs : Array Value) (h1 : ∀ v ∈ vs, v.oneCell' = true) : CellsRep w κ ρ (vs.toList.map ofC) vs :=
 ⟨by simp, fun x hx => by obtain ⟨z, _, rfl⟩ := List.mem_map.1 hx; exact ofC_flat z, fun l i hi hi' => by rw [List.getElem_map, Array.getElem_toList]; exact repC_ofC _, fun i hi => h1 _ (Array.getElem_mem hi)⟩
theorem map_ofC_ok (n : Nat) (vs : List Value) : ∀ x ∈ vs.map ofC, x.ok n = true := fun x hx => by obtain ⟨z, _, rfl⟩ := List.mem_map.1 hx; exact ofC_ok n z
def aAlloc (P : Program) (s : St) (t : TypeId) : Option (AVal × Chg) :=
 match zeroC P t with
 | some cs => some (.c (.ptr s.H.length 0), { new := some cs })
 | none => none
theorem Sim.new {P : Program} {s : St} {o : Oper} {cs : List CVal}
  (h : ∀ a w κ ρ, Rel s a w κ ρ → ∃ c e, (execOp a.eval o).run P w = .ok (.value (.pointer (some ⟨w.heap.size, 0, none⟩))) (w.alloc (.cells c e)) ∧ CellsRep w κ ρ cs c ∧ ∀ x ∈ cs, x.ok s.H.length = true) : Sim P o s (.c (.ptr s.H.length 0)) { new := some cs } := by
 intro a w κ ρ hR
 obtain ⟨c, e, h1, h2, h3⟩ := h a w κ ρ hR
 refine ⟨_, _, _, _, .inl h1, hR.new e h2 h3, fun d _ => ?_, ?_, (mv_alloc s.H.length w κ ρ (.cells c e) _ ρ (fun _ _ => rfl)).fr, fun b hb => upd_other _ _ (by omega)⟩
 ·show _ = _
  rw [upd_same]
 ·simp [AVal.ok, CVal.ok, St.chg, St.demO, St.blkO, St.newO]
theorem aAlloc_sim {P : Program} {s : St} {o : Oper} {t : TypeId} {r : AVal} {ch : Chg} (ho : o.op = .alloc t) (h : aAlloc P s t = some (r, ch)) : Sim P o s r ch := by
 unfold aAlloc at h
 split at h
 ·rename_i cs hz
  injection h with h; injection h with e1 e2; subst e1; subst e2
  obtain ⟨i, z, hi, hz2, rfl, h1⟩ := zeroC_of hz
  refine Sim.new fun a w κ ρ hR => ⟨z.cells, t, ?_, cellsRep_ofC _ h1, map_ofC_ok _ _⟩
  simp [execOp, ho, Instr.alloc, zeroValue, typeInfo, hi, hz2, newVar, newRow]
 ·cases h
def aBox (s : St) (x : Operand) : Option (AVal × Chg) :=
 match (s.ev x).dem.cells with
 | some cs => some (.c (.ptr s.H.length 0), { new := some cs })
 | none => none
theorem aBox_sim {P : Program} {s : St} {o : Oper} {t : TypeId} {x : Operand} {r : AVal} {ch : Chg} (ho : o.op = .box t x) (h : aBox s x = some (r, ch)) : Sim P o s r ch := by
 unfold aBox at h
 split at h
 ·rename_i cs hc
  injection h with h; injection h with e1 e2; subst e1; subst e2
  refine Sim.new fun a w κ ρ hR => ⟨(a.eval x).cells, t, ?_, AVal.cells_rep (hR.ev (l := .slot 0) x) hc, AVal.cells_ok (hR.ev_ok x) hc⟩
  simp [execOp, ho, Instr.box, newVar, newRow]
 ·cases h
def setAt : List CVal → Nat → List CVal → List CVal
 | cs, _, [] => cs
 | cs, o, d :: ds => setAt (cs.set o d) (o + 1) ds
theorem setAt_length : ∀ (ds cs : List CVal) (o : Nat), (setAt cs o ds).length = cs.length
 | [], _, _ => rfl
 | d :: ds, cs, o => by rw [setAt, setAt_length ds, List.length_set]
theorem setAt_get : ∀ (ds cs : List CVal) (o i : Nat) (h : i < cs.length) (h' : i < (setAt cs o ds).length), (setAt cs o ds)[i] = if hh : o ≤ i ∧ i < o + ds.length then ds[i - o]'(by omega) else cs[i]
 | [], cs, o, i, h, h' => by
  rw [dif_neg (by simp only [List.length_nil]; omega)]
  rfl
 | d :: ds, cs, o, i, h, h' => by
  have ih := setAt_get ds (cs.set o d) (o + 1) i (by simpa using h) (by simpa [setAt] using h')
  show (setAt (cs.set o d) (o + 1) ds)[i] = _
  rw [ih]
  by_cases h1 : o + 1 ≤ i ∧ i < o + 1 + ds.length
  ·rw [dif_pos h1, dif_pos (by simp only [List.length_cons]; omega)]
   have : i - o = (i - (o + 1)) + 1 := by omega
   simp [this]
  ·rw [dif_neg h1, List.getElem_set]
   by_cases h2 : o = i
   ·rw [if_pos h2, dif_pos (by simp only [List.length_cons]; omega)]
    have : i - o = 0 := by omega
    simp [this]
   ·rw [if_neg h2, dif_neg (by simp only [List.length_cons]; omega)]
theorem setCells_other : ∀ (vs : List Value) (w : World) (g o j : Nat), j ≠ g → (w.setCells g o vs).heap[j]? = w.heap[j]?
 | [], _, _, _, _, _ => rfl
 | v :: vs, w, g, o, j, h => by
  rw [World.setCells, setCells_other vs _ g (o + 1) j h, Go.RowKit.Below.heap_setCell _ _ _ _ h]
theorem setCells_same : ∀ (vs : List Value) (w : World) (g o : Nat) (c : Array Value) (e : TypeId) (f : Nat × Nat), w.heap[g]? = some (.cells c e f) →
  ∃ c' : Array Value, (w.setCells g o vs).heap[g]? = some (.cells c' e f) ∧ c'.size = c.size ∧ ∀ i (h : i < c.size) (h' : i < c'.size), c'[i] = if hh : o ≤ i ∧ i < o + vs.length then vs[i - o]'(by omega) else c[i]
 | [], w, g, o, c, e, f, h => ⟨c, h, rfl, fun i hi hi' => by rw [dif_neg (by simp only [List.length_nil]; omega)]⟩
 | v :: vs, w, g, o, c, e, f, h => by
  have h1 : (w.setCell ⟨g, o, none⟩ v).heap[g]? = some (.cells (c.setIfInBounds o v) e f) := by
   simp only [World.setCell, Array.getElem?_modify]
   simp [h]
  obtain ⟨c', h2, h3, h4⟩ := setCells_same vs _ g (o + 1) _ e f h1
  refine ⟨c', h2, by simpa using h3, fun i hi hi' => ?_⟩
  rw [h4 i (by simpa using hi) hi']
  by_cases k : o + 1 ≤ i ∧ i < o + 1 + vs.length
  ·rw [dif_pos k, dif_pos (by simp only [List.length_cons]; omega)]
   have : i - o = (i - (o + 1)) + 1 := by omega
   simp [this]
  ·rw [dif_neg k, Array.getElem_setIfInBounds (by simpa using hi)]
   by_cases h2 : o = i
   ·rw [if_pos h2, dif_pos (by simp only [List.length_cons]; omega)]
    have : i - o = 0 := by omega
    simp [this]
   ·rw [if_neg h2, dif_neg (by simp only [List.length_cons]; omega)]
theorem setCells_rest : ∀ (vs : List Value) (w : World) (g o : Nat), (w.setCells g o vs).os = w.os ∧ (w.setCells g o vs).tape = w.tape ∧ (w.setCells g o vs).output = w.output ∧ (w.setCells g o vs).heap.size = w.heap.size
 | [], _, _, _ => ⟨rfl, rfl, rfl, rfl⟩
 | v :: vs, w, g, o => by
  obtain ⟨h1, h2, h3, h4⟩ := setCells_rest vs (w.setCell ⟨g, o, none⟩ v) g (o + 1)
  exact ⟨h1, h2, h3, h4.trans (by simp [World.setCell])⟩
theorem mv_store {n : Nat} {w : World} {κ : Nat → BK} {ρ : Nat → Nat} {g b : Nat} (hg : κ g = .wr b) (o : Nat) (vs : List Value) : Mv (· = g) n w κ ρ (w.setCells g o vs) κ ρ := by
  obtain ⟨h1, h2, h3, h4⟩ := setCells_rest vs w g o
  refine ⟨h1, h2, h3, by rw [h4]; exact Nat.le_refl _, fun _ _ => rfl, fun j _ hj => ⟨setCells_other vs w g o j hj, rfl⟩, fun j p x hj hT hf => ?_, fun _ _ _ _ h => h, fun j m hT => ?_⟩
  · subst hT; rw [hg] at hf; simp [BK.fits] at hf
  · subst hT; rw [hg]; intro e; cases e
theorem Blk.store {w : World} {κ : Nat → BK} {ρ : Nat → Nat} {b : Nat} {cs ds : List CVal} (h : Blk w κ ρ b cs) (n : Nat) (hb : b < n) (hok : ∀ x ∈ cs, x.ok n = true) (off : Nat) {vs : Array Value}
  (hs : vs.size = ds.length) (hokd : ∀ x ∈ ds, x.ok n = true) (hr : ∀ i (h : i < ds.length) (h' : i < vs.size), RepC w κ ρ (.cell b (off + i)) ds[i] vs[i]) :
  Blk (w.setCells (ρ b) off vs.toList) κ ρ b (setAt cs off ds) := by
 have hown := h.own
 have m := mv_store (n := n) (w := w) (ρ := ρ) hown off vs.toList
 obtain ⟨_, c, e, h1, h2, h3⟩ := h
 obtain ⟨c', k1, k2, k3⟩ := setCells_same vs.toList w (ρ b) off c e (0, 0) h1
 have hno : ∀ i g k, g = ρ b → κ g ≠ .tip k (.cell b i) := by intro i g k hg; subst hg; rw [hown]; intro e; cases e
 refine ⟨hown, c', e, k1, by rw [k2, h2, setAt_length], fun i hi hi' => ?_⟩
 rw [setAt_length] at hi
 rw [setAt_get ds cs off i hi, k3 i (by omega)]
 by_cases hh : off ≤ i ∧ i < off + ds.length
 ·rw [dif_pos hh, dif_pos (by simp; omega)]
  have := hr (i - off) (by omega) (by omega)
  rw [show off + (i - off) = i by omega] at this
  have hx := hokd _ (List.getElem_mem (show i - off < ds.length by omega))
  rw [Array.getElem_toList]
  exact RepC.keep m.grow m.rho hx (fun _ _ _ _ => m.keep (hno i)) this
 ·rw [dif_neg hh, dif_neg (by simp; omega)]
  exact RepC.keep m.grow m.rho (hok _ (List.getElem_mem hi)) (fun _ _ _ _ => m.keep (hno i)) (h3 i hi (by omega))
theorem Blk.there {w : World} {κ : Nat → BK} {ρ : Nat → Nat} {b : Nat} {cs : List CVal} (h : Blk w κ ρ b cs) (off n : Nat) (hn : off + n ≤ cs.length) : w.there (ρ b) off n := by
 obtain ⟨_, c, e, h1, h2, h3⟩ := h
 intro j hj
 have : off + j < c.size := by omega
 simp [World.cell?, World.frozen?, h1, this]
theorem run_storeAt_cells {P : Program} (w : World) (g o : Nat) (t : TypeId) {b : Bool} {n : Nat} (ht : tsz P t = some (b, n)) (v : Value) (hn : v.cells.size = n) (hth : w.there g o n) (h1 : ∀ i (h : i < v.cells.size), v.cells[i].oneCell' = true) :
  (Instr.storeAt t (.pointer (some ⟨g, o, none⟩)) v).run P w = .ok () (w.setCells g o v.cells.toList) := by
 obtain ⟨d, i, hu, hi, h3, h4⟩ := tsz_of ht
 have := run_storeCells_cells (P := P) g o v.cells.toList 0 w (fun j hj => by simpa using (hth j (by simp at hj; omega)).1) (fun j hj => by simpa using (hth j (by simp at hj; omega)).2)
  (fun u hu => by
   obtain ⟨j, hj, rfl⟩ := List.mem_iff_getElem.1 hu
   rw [Array.getElem_toList]
   exact h1 j (by simpa using hj))
 simp only [Nat.add_zero] at this
 simp [Instr.storeAt, Instr.sureAddr, storeVar, sizeOf, typeInfo, program, Sem.run, hi, h4, hn, this]
def holds (s : St) : Operand → Option (Tmp × Nat × List FVal × Nat)
 | .tmp u => match s.ev (.tmp u) with
  | .c (.tip sz cs len) => some (u, sz, cs, len)
  | _ => none
 | _ => none
theorem holds_of {s : St} {y : Operand} {u sz : Nat} {cs : List FVal} {len : Nat} (h : holds s y = some (u, sz, cs, len)) : y = .tmp u ∧ s.ev (.tmp u) = .c (.tip sz cs len) := by
 unfold holds at h
 split at h
 ·rename_i t
  split at h
  ·rename_i sz' cs' len' he
   injection h with h; injection h with e1 e2; injection e2 with e2 e3; injection e3 with e3 e4
   subst e1; subst e2; subst e3; subst e4
   exact ⟨rfl, he⟩
  ·cases h
 ·cases h
def aStore (P : Program) (s : St) (t : TypeId) (x y : Operand) : Option (AVal × Chg) :=
 match tsz P t, s.ev x with
 | some (_, n), .c (.ptr b off) => match s.H[b]? with
  | some (some cells) => match holds s y with
   | some (u, sz, cs, len) => if n = 1 ∧ off < cells.length then some (.c .any, { dem := some u, blk := some (b, cells.set off (.tip sz cs len)) }) else none
   | none => match (s.ev y).dem.cells with
    | some ds => if ds.length = n ∧ off + n ≤ cells.length then some (.c .any, { blk := some (b, setAt cells off ds) }) else none
    | none => none
  | _ => none
 | _, _ => none
theorem exec_store {P : Program} {ev : Operand → Value} {o : Oper} {t : TypeId} {x y : Operand} (ho : o.op = .store t x y) {w w' : World} (h : (Instr.storeAt t (ev x) (ev y)).run P w = .ok () w') : (execOp ev o).run P w = .ok .skip w' := by
 simp [execOp, ho, h]
theorem H_lt {H : List (Option (List CVal))} {b : Nat} {cs : List CVal} (h : H[b]? = some (some cs)) : b < H.length := by
 rcases Nat.lt_or_ge b H.length with k | k
 ·exact k
 ·rw [List.getElem?_eq_none k] at h; cases h
theorem aStore_sim {P : Program} {s : St} {o : Oper} {t : TypeId} {x y : Operand} {r : AVal} {ch : Chg} (ho : o.op = .store t x y) (h : aStore P s t x y = some (r, ch)) : Sim P o s r ch := by
 unfold aStore at h
 split at h
 ·rename_i bb n b off ht he
  split at h
  ·rename_i cells hb
   split at h
   ·rename_i u sz cs len hy0
    obtain ⟨rfl, hy⟩ := holds_of hy0
    split at h
    ·rename_i hn
     injection h with h; injection h with e1 e2; subst e1; subst e2
     intro a w κ ρ hR
     obtain ⟨κ1, hR1, hv, hfr⟩ := hR.give hy (.cell b off)
     have hone : (a.eval (.tmp u)).oneCell' = true := CVal.one_rep hv rfl
     have hcells := cells_one hone
     have hb1 : (s.dem u).H[b]? = some (some cells) := hb
     have hB := hR1.heap.blk b cells hb1
     have hst := hB.store (ds := [.tip sz cs len]) s.H.length (H_lt hb) (hR.heap.ok b cells hb) off (vs := (a.eval (.tmp u)).cells) (by rw [hcells]; rfl) (fun z hz => by rw [List.mem_singleton.1 hz]; rfl) (fun i hi hi' => by
      have hi0 : i = 0 := by simp at hi; exact hi
      subst hi0
      simp only [hcells]
      exact hv)
     have m := mv_store (n := s.H.length) (w := w) (ρ := ρ) hB.own off (a.eval (.tmp u)).cells.toList
     have hR2 := hR1.mv_blk hb1 m hst (fun z hz => by
      rcases List.mem_or_eq_of_mem_set hz with hz | rfl
      ·exact hR.heap.ok b cells hb z hz
      ·rfl)
     refine ⟨undef, _, κ1, ρ, .inr ⟨exec_store ho (by rw [hR.at_ptr he]; exact run_storeAt_cells w (ρ b) off t ht _ (by rw [hcells]; exact hn.1.symm) (by rw [hn.1]; exact hB.there off 1 (by omega)) (fun i hi => by
      have hi0 : i = 0 := by rw [hcells] at hi; simpa using hi
      subst hi0
      simp only [hcells]
      exact hone)), rfl⟩, hR2, fun _ _ => trivial, rfl, hfr.trans m.fr, fun _ _ => rfl⟩
    ·cases h
   ·split at h
    ·rename_i ds hds
     split at h
     ·rename_i hn
      injection h with h; injection h with e1 e2; subst e1; subst e2
      intro a w κ ρ hR
      have hC := AVal.cells_rep (hR.ev (l := .slot 0) y) hds
      have hB := hR.heap.blk b cells hb
      have hokd := AVal.cells_ok (hR.ev_ok y) hds
      have hst := hB.store s.H.length (H_lt hb) (hR.heap.ok b cells hb) off hC.size hokd (fun i hi hi' => hC.rep _ i hi hi')
      have m := mv_store (n := s.H.length) (w := w) (ρ := ρ) hB.own off (a.eval y).cells.toList
      have hR2 := hR.mv_blk hb m hst (fun z hz => by
       obtain ⟨i, hi, rfl⟩ := List.mem_iff_getElem.1 hz
       have hi2 := hi
       rw [setAt_length] at hi2
       rw [setAt_get ds cells off i hi2]
       split
       ·exact hokd _ (List.getElem_mem _)
       ·exact hR.heap.ok b cells hb _ (List.getElem_mem _))
      exact ⟨undef, _, κ, ρ, .inr ⟨exec_store ho (by rw [hR.at_ptr he]; exact run_storeAt_cells w (ρ b) off t ht _ (by rw [hC.size]; exact hn.1) (hB.there off n hn.2) hC.one), rfl⟩, hR2, fun _ _ => trivial, rfl, m.fr, fun _ _ => rfl⟩
     ·cases h
    ·cases h
  ·cases h
 ·cases h
def repCells : List CVal → Nat → List CVal
 | [z], n => List.replicate n z
 | zs, n => (List.range (n * zs.length)).map fun j => zs.getD (j % zs.length) .any
theorem repCells_eq (zs : List CVal) (n : Nat) : repCells zs n = (List.range (n * zs.length)).map fun j => zs.getD (j % zs.length) .any := by
 unfold repCells
 split
 ·rename_i z
  apply List.ext_getElem
  ·simp
  ·intro i h1 h2
   simp [Nat.mod_one]
 ·rfl
def mkInfo (P : Program) (t : TypeId) : Option (Nat × Nat × List CVal) :=
 match P.underlying t with
 | some (.slice e) => match P.info? e, zeroC P e with
  | some i, some zs => if zs.length = i.size ∧ 0 < i.size then some (i.size, i.bytes, zs) else none
  | _, _ => none
 | _ => none
theorem mkInfo_of {P : Program} {t : TypeId} {sz by_ : Nat} {zs : List CVal} (h : mkInfo P t = some (sz, by_, zs)) :
  ∃ e i z, P.underlying t = some (.slice e) ∧ P.info? e = some i ∧ i.zero = some z ∧ i.size = sz ∧ i.bytes = by_ ∧ zs = z.cells.toList.map ofC ∧ z.cells.size = sz ∧ 0 < sz ∧ ∀ v ∈ z.cells, v.oneCell' = true := by
 unfold mkInfo at h
 split at h
 ·rename_i e hu
  split at h
  ·rename_i i zs' hi hz
   split at h
   ·rename_i hc
    injection h with h; injection h with e1 e2; injection e2 with e2 e3
    subst e1; subst e2; subst e3
    obtain ⟨i', z, hi', hz', rfl, h1⟩ := zeroC_of hz
    rw [hi] at hi'
    injection hi' with hi'
    subst hi'
    exact ⟨e, i, z, hu, hi, hz', rfl, rfl, rfl, by simpa using hc.1, hc.2, h1⟩
   ·cases h
  ·cases h
 ·cases h
theorem made_rep {w : World} {κ : Nat → BK} {ρ : Nat → Nat} (z : Array Value) (n : Nat) (hz : 0 < z.size) (h1 : ∀ v ∈ z, v.oneCell' = true) : CellsRep w κ ρ (repCells (z.toList.map ofC) n) (madeCells z (n * z.size)) := by
 rw [repCells_eq]
 refine ⟨by simp [size_madeCells], fun x hx => ?_, fun l i hi hi' => ?_, fun i hi => ?_⟩
 ·obtain ⟨j, _, rfl⟩ := List.mem_map.1 hx
  have : j % z.size < z.size := Nat.mod_lt _ hz
  simp [this, ofC_flat]
 ·have hm : i % z.size < z.size := Nat.mod_lt _ hz
  simp [madeCells, hm]
  exact repC_ofC _
 ·have hm : i % z.size < z.size := Nat.mod_lt _ hz
  simp only [madeCells, Array.getElem_map, Array.getElem_range]
  rw [getElem!_pos z (i % z.size) hm]
  exact h1 _ (Array.getElem_mem hm)
theorem repCells_ok (n m : Nat) (vs : List Value) : ∀ x ∈ repCells (vs.map ofC) m, x.ok n = true := by
 rw [repCells_eq]
 intro x hx
 obtain ⟨j, _, rfl⟩ := List.mem_map.1 hx
 rw [List.getD_eq_getElem?_getD]
 cases h : (vs.map ofC)[j % (vs.map ofC).length]? with
 | none => rfl
 | some y =>
  have := List.mem_of_getElem? h
  exact map_ofC_ok n vs y this
def aMake (P : Program) (s : St) (t : TypeId) (l c : Operand) : Option (AVal × Chg) :=
 match mkInfo P t, (s.ev l).ix, (s.ev c).ix with
 | some (sz, by_, zs), some n, some m => if n = m ∧ 0 ≤ n ∧ n ≤ 4611686018427387904 ∧ (by_ : Int) * n ≤ 281474976710656 then some (.c (.arr s.H.length 0 n.toNat n.toNat), { new := some (repCells zs n.toNat) }) else none
 | _, _, _ => none
theorem aMake_sim {P : Program} {s : St} {o : Oper} {t : TypeId} {l c : Operand} {r : AVal} {ch : Chg} (ho : o.op = .makeSlice t l c) (h : aMake P s t l c = some (r, ch)) : Sim P o s r ch := by
 unfold aMake at h
 split at h
 ·rename_i sz by_ zs n m hI hn hm
  split at h
  ·rename_i hc
   injection h with h; injection h with e1 e2; subst e1; subst e2
   obtain ⟨rfl, h0, h63, hb⟩ := hc
   obtain ⟨e, i, z, hu, hi, hz, rfl, rfl, rfl, hsz, hpos, h1⟩ := mkInfo_of hI
   intro a w κ ρ hR
   obtain ⟨kl, hl⟩ := hR.at_ix hn
   obtain ⟨kc, hcc⟩ := hR.at_ix hm
   have hrun := run_make (P := P) w t e i z hu hi hz kl kc n n h0 (Int.le_refl _) hb (by omega)
   have hC : CellsRep w κ ρ (repCells (z.cells.toList.map ofC) n.toNat) (madeCells z.cells (n.toNat * i.size)) := by rw [← hsz]; exact made_rep z.cells n.toNat (by omega) h1
   refine ⟨_, _, _, _, .inl (by simp only [execOp, ho, hl, hcc, Sem.run_bind, hrun]; rfl), hR.new e hC (repCells_ok _ _ _), fun d _ => ?_, ?_, (mv_alloc s.H.length w κ ρ (.cells _ e) _ ρ (fun _ _ => rfl)).fr, fun b hb => upd_other _ _ (by omega)⟩
   ·show _ = _
    rw [upd_same]
   ·simp [AVal.ok, CVal.ok, St.chg, St.demO, St.blkO, St.newO]
  ·cases h
 ·cases h
def aLen (P : Program) (s : St) (o : Oper) (t : TypeId) (x : Operand) : Option (AVal × Chg) :=
 match elemSz P t, (s.ev x).dem with
 | some _, .c (.f (.row _ len)) => some (.c (.f (.v (.int .i64 len))), {})
 | some _, .c (.arr _ _ len _) => some (.c (.f (.v (.int .i64 len))), {})
 | _, _ => aPlain P s o
theorem exec_len {P : Program} {ev : Operand → Value} {o : Oper} {t : TypeId} {x : Operand} (ho : o.op = .call { callee := .builtin .len, args := #[x], argTypes := #[t] }) {z : Nat} (hz : elemSz P t = some z) {a : Option Addr} {len cap : Nat} (hv : ev x = .slice a len cap) (w : World) : (execOp ev o).run P w = .ok (.value (.int .i64 len)) w := by
 obtain ⟨e, i, hu, hi, _⟩ := elemSz_of hz
 simp [execOp, ho, resolve, invoke, builtin, Builtin.len_, run_underlying hu w, hv, goInt]
theorem aLen_sim {P : Program} {s : St} {o : Oper} {t : TypeId} {x : Operand} {r : AVal} {ch : Chg} (ho : o.op = .call { callee := .builtin .len, args := #[x], argTypes := #[t] }) (h : aLen P s o t x = some (r, ch)) : Sim P o s r ch := by
 unfold aLen at h
 split at h
 ·rename_i z cs len hz he
  injection h with h; injection h with e1 e2; subst e1; subst e2
  refine Sim.still fun a w κ ρ hR => ?_
  obtain ⟨g, oo, cap, hv, hcap, hrow⟩ | ⟨_, rfl, hv⟩ := hR.at_row he
  ·exact ⟨_, exec_len ho hz hv w, fun d => RepF.v _ rfl, rfl⟩
  ·exact ⟨_, exec_len ho hz hv w, fun d => RepF.v _ rfl, rfl⟩
 ·rename_i z b off len cap hz he
  injection h with h; injection h with e1 e2; subst e1; subst e2
  refine Sim.still fun a w κ ρ hR => ?_
  exact ⟨_, exec_len ho hz (hR.at_arr he) w, fun d => RepF.v _ rfl, rfl⟩
 ·exact aPlain_sim h
def bnd (s : St) : Option Operand → Int → Option Int
 | none, d => some d
 | some x, _ => (s.ev x).ix
def aSlice (P : Program) (s : St) (o : Oper) (t : TypeId) (x : Operand) (lo hi mx : Option Operand) : Option (AVal × Chg) :=
 match elemSz P t, (s.ev x).dem with
 | some z, .c (.f (.row cs len)) => match bnd s lo 0, bnd s hi len, bnd s mx len, mx.isSome && hi.isNone with
  | some l, some h, some m, false => if 0 ≤ l ∧ l ≤ h ∧ h ≤ m ∧ m ≤ len then some (.c (.f (.row ((cs.drop (l.toNat * z)).take ((h - l).toNat * z)) (h - l).toNat)), {}) else none
  | _, _, _, _ => none
 | some z, .c (.f .nils) => match bnd s lo 0, bnd s hi 0, mx with
  | some 0, some 0, none => some (.c (.f .nils), {})
  | _, _, _ => none
 | some z, .c (.arr b off len cap) => match bnd s lo 0, bnd s hi len, mx with
  | some l, some h, none => if 0 ≤ l ∧ l ≤ h ∧ h ≤ cap then some (.c (.arr b (if (cap : Int) = l then off else off + l.toNat * z) (h - l).toNat (cap - l.toNat)), {}) else none
  | _, _, _ => none
 | _, _ => aPlain P s o
theorem Rel.bnd {s : St} {a : Act} {w : World} {κ : Nat → BK} {ρ : Nat → Nat} (h : Rel s a w κ ρ) {x : Option Operand} {d n : Int} (e : bnd s x d = some n) : (x = none ∧ n = d) ∨ ∃ y k, x = some y ∧ a.eval y = .int k n := by
 cases x with
 | none => injection e with e; exact .inl ⟨rfl, e.symm⟩
 | some y => obtain ⟨k, hk⟩ := h.at_ix e; exact .inr ⟨y, k, rfl, hk⟩
theorem run_sliceBound {P : Program} (w : World) (k : IntKind) (n : Int) (y : Nat) (c : BoundsCode) (h0 : 0 ≤ n) (h1 : n ≤ y) : (Instr.sliceBound (.int k n) y c).run P w = .ok n.toNat w := by
 simp [Instr.sliceBound, asIntOf, h0, h1]
theorem run_sliceBounds {P : Program} {s : St} {a : Act} {w : World} {κ : Nat → BK} {ρ : Nat → Nat} (hR : Rel s a w κ ρ) {lo hi mx : Option Operand} {l h m : Int} {len cap : Nat} (b : Bool) (hl : Av.bnd s lo 0 = some l) (hh : Av.bnd s hi len = some h) (hm : mx = none ∨ (Av.bnd s mx len = some m ∧ hi.isSome = true ∧ h ≤ m ∧ m ≤ cap))
  (h0 : 0 ≤ l) (h1 : l ≤ h) (h2 : h ≤ cap) : (Instr.sliceBounds b len cap (lo.map a.eval) (hi.map a.eval) (mx.map a.eval)).run P w = .ok (l.toNat, h.toNat, if mx = none then cap else m.toNat) w := by
 have key : ∀ (x : Option Operand) (n : Int) (d : Int), Av.bnd s x d = some n → (x = none ∧ n = d) ∨ ∃ y k, x = some y ∧ a.eval y = .int k n := fun x n d e => hR.bnd e
 have b1 : ∀ k (n : Int) (y : Nat) (c : BoundsCode), 0 ≤ n → n ≤ y → (Instr.sliceBound (.int k n) y c).run P w = .ok n.toNat w := fun k n y c p q => run_sliceBound w k n y c p q
 have hm' : mx = none ∨ ∃ y k, mx = some y ∧ a.eval y = .int k m ∧ hi.isSome = true ∧ h ≤ m ∧ m ≤ cap := by
  rcases hm with rfl | ⟨hm, hs, hhm, hmc⟩
  ·exact .inl rfl
  ·rcases key _ _ _ hm with ⟨rfl, _⟩ | ⟨y, k, rfl, hy⟩
   ·exact .inl rfl
   ·exact .inr ⟨y, k, rfl, hy, hs, hhm, hmc⟩
 rcases hm' with rfl | ⟨y, ky, rfl, hy, hs, hhm, hmc⟩
 ·rcases key _ _ _ hl with ⟨rfl, rfl⟩ | ⟨u, k, rfl, hu⟩ <;> rcases key _ _ _ hh with ⟨rfl, rfl⟩ | ⟨u2, k2, rfl, hu2⟩
  ·simp [Instr.sliceBounds]
  ·simp [Instr.sliceBounds, hu2, b1 k2 h cap _ (by omega) h2]
  ·simp [Instr.sliceBounds, hu, b1 k l len _ h0 h1]
  ·simp [Instr.sliceBounds, hu, hu2, b1 k2 h cap _ (by omega) h2, b1 k l h.toNat _ h0 (by omega)]
 ·rcases key _ _ _ hl with ⟨rfl, rfl⟩ | ⟨u, k, rfl, hu⟩ <;> rcases key _ _ _ hh with ⟨rfl, rfl⟩ | ⟨u2, k2, rfl, hu2⟩
  ·cases hs
  ·simp [Instr.sliceBounds, hy, hu2, b1 ky m cap _ (by omega) hmc, b1 k2 h m.toNat _ (by omega) (by omega)]
  ·cases hs
  ·simp [Instr.sliceBounds, hy, hu, hu2, b1 ky m cap _ (by omega) hmc, b1 k2 h m.toNat _ (by omega) (by omega), b1 k l h.toNat _ h0 (by omega)]
theorem RowAt.nil {w : World} {κ : Nat → BK} (g o : Nat) : RowAt w κ g o [] := ⟨fun i h => by simp at h, fun h => absurd rfl h⟩
theorem RowAt.drop' {w : World} {κ : Nat → BK} {g o : Nat} {cs : List FVal} (h : RowAt w κ g o cs) (n : Nat) : RowAt w κ g (o + n) (cs.drop n) := by
 rcases Nat.lt_or_ge cs.length n with hn | hn
 ·rw [List.drop_eq_nil_of_le (by omega)]; exact .nil _ _
 ·exact h.drop n hn
theorem aSlice_sim {P : Program} {s : St} {o : Oper} {t : TypeId} {x : Operand} {lo hi mx : Option Operand} {r : AVal} {ch : Chg} (ho : o.op = .slice t x lo hi mx) (h : aSlice P s o t x lo hi mx = some (r, ch)) : Sim P o s r ch := by
 unfold aSlice at h
 split at h
 ·rename_i z cs len hz he
  split at h
  ·rename_i l hh m hl hhi hm hms
   split at h
   ·rename_i hc
    obtain ⟨h0, h1, h2, h3⟩ := hc
    injection h with h; injection h with e1 e2; subst e1; subst e2
    refine Sim.still fun a w κ ρ hR => ?_
    obtain ⟨g, oo, cap, hv, hcap, hrow⟩ | ⟨rfl, rfl, hv⟩ := hR.at_row he
    rotate_left
    ·obtain ⟨e, i, hu, hi', hzz⟩ := elemSz_of hz
     have e1 : m = 0 := by omega
     have e2 : hh = 0 := by omega
     have e3 : l = 0 := by omega
     subst e1; subst e2; subst e3
     have hmm : mx = none ∨ (Av.bnd s mx ((0 : Nat) : Int) = some 0 ∧ hi.isSome = true ∧ (0 : Int) ≤ 0 ∧ (0 : Int) ≤ ((0 : Nat) : Int)) := by
      cases mx with
      | none => exact .inl rfl
      | some y => cases hi with
       | none => cases hms
       | some u => exact .inr ⟨hm, rfl, h2, by omega⟩
     have hb := run_sliceBounds (P := P) hR (len := 0) (cap := 0) (m := 0) (mx := mx) true hl hhi hmm (Int.le_refl _) (Int.le_refl _) (Int.le_refl _)
     refine ⟨.slice none 0 0, ?_, fun d => by simp only [List.drop_nil, List.take_nil]; exact RepF.nil0, rfl⟩
     simp only [execOp, ho, hv, Instr.sliceAt, Sem.run_bind, run_underlying hu w, Result.andThen_ok, Instr.slice, hb, sizeOf, typeInfo, program, Sem.run, hi', hzz]
     simp [Sem.run, hi']
    obtain ⟨e, i, hu, hi', hzz⟩ := elemSz_of hz
    have hmm : mx = none ∨ (Av.bnd s mx len = some m ∧ hi.isSome = true ∧ hh ≤ m ∧ m ≤ cap) := by
     cases mx with
     | none => exact .inl rfl
     | some y => cases hi with
      | none => cases hms
      | some u => exact .inr ⟨hm, rfl, h2, by omega⟩
    have hb := run_sliceBounds (P := P) hR (cap := cap) (m := m) (mx := mx) true hl hhi hmm h0 h1 (by omega)
    have hM : ∃ M, (if mx = none then cap else m.toNat) = M ∧ hh.toNat ≤ M := by
     refine ⟨_, rfl, ?_⟩
     split <;> omega
    obtain ⟨M, hM, hle⟩ := hM
    rw [hM] at hb
    refine ⟨.slice (if M = l.toNat then some ⟨g, oo, none⟩ else some ⟨g, oo + l.toNat * z, none⟩) (hh.toNat - l.toNat) (M - l.toNat), ?_, fun d => ?_, rfl⟩
    ·simp only [execOp, ho, hv, Instr.sliceAt, Sem.run_bind, run_underlying hu w, Result.andThen_ok, Instr.slice, hb, sizeOf, typeInfo, program, Sem.run, hi', hzz]
     simp [Addr.add_mid, Sem.run, hi', hzz]
    ·have hlen : (hh - l).toNat = hh.toNat - l.toNat := by omega
     rw [hlen]
     by_cases hMl : M = l.toNat
     ·rw [if_pos hMl]
      have hz0 : hh.toNat - l.toNat = 0 := by omega
      rw [hz0]
      simp only [Nat.zero_mul, List.take_zero]
      exact repF_rowI ⟨g, oo, _, rfl, by omega, .nil _ _⟩
     ·rw [if_neg hMl]
      exact repF_rowI ⟨g, oo + l.toNat * z, _, rfl, by omega, (hrow.drop' _).take _⟩
   ·cases h
  ·cases h
 ·rename_i z hz he
  split at h
  ·rename_i hl hhi
   injection h with h; injection h with e1 e2; subst e1; subst e2
   refine Sim.still fun a w κ ρ hR => ?_
   have hv : a.eval x = .slice none 0 0 := by
    have := hR.ev (l := .slot 0) x
    rw [he] at this
    exact repF_nils.1 this
   obtain ⟨e, i, hu, hi', hzz⟩ := elemSz_of hz
   have hb := run_sliceBounds (P := P) hR (len := 0) (cap := 0) (m := 0) true hl hhi (.inl rfl) (Int.le_refl _) (Int.le_refl _) (Int.le_refl _)
   refine ⟨.slice none 0 0, ?_, fun d => RepF.nils, rfl⟩
   simp only [execOp, ho, hv, Instr.sliceAt, Sem.run_bind, run_underlying hu w, Result.andThen_ok, Instr.slice, hb, sizeOf, typeInfo, program, Sem.run, hi', hzz]
   simp [Sem.run, hi']
  ·cases h
 ·rename_i z b off len cap hz he
  split at h
  ·rename_i l hh hl hhi
   split at h
   ·rename_i hc
    obtain ⟨h0, h1, h2⟩ := hc
    injection h with h; injection h with e1 e2; subst e1; subst e2
    refine Sim.still fun a w κ ρ hR => ?_
    have hv := hR.at_arr he
    obtain ⟨e, i, hu, hi', hzz⟩ := elemSz_of hz
    have hb := run_sliceBounds (P := P) hR (cap := cap) (m := 0) true hl hhi (.inl rfl) h0 h1 h2
    simp only [if_pos] at hb
    refine ⟨.slice (if cap = l.toNat then some ⟨ρ b, off, none⟩ else some ⟨ρ b, off + l.toNat * z, none⟩) (hh.toNat - l.toNat) (cap - l.toNat), ?_, fun d => ?_, by have := hR.ev_ok x; rw [dem_arr he] at this; exact this⟩
    ·simp only [execOp, ho, hv, Instr.sliceAt, Sem.run_bind, run_underlying hu w, Result.andThen_ok, Instr.slice, hb, sizeOf, typeInfo, program, Sem.run, hi', hzz]
     simp [Addr.add_mid, Sem.run, hi', hzz]
    ·show _ = _
     rw [show (hh - l).toNat = hh.toNat - l.toNat by omega]
     by_cases hk : cap = l.toNat
     ·rw [if_pos hk, if_pos (by omega)]
     ·rw [if_neg hk, if_neg (by omega)]
   ·cases h
  ·cases h
 ·exact aPlain_sim h
theorem foldl_fill (off : Nat) : ∀ (l : List Value) (k : Nat) (vs : Array Value),
  ((l.zipIdx k).foldl (fun cs p => cs.setIfInBounds (off + p.2) p.1) vs).size = vs.size ∧
  ∀ i (h : i < vs.size) (h' : i < ((l.zipIdx k).foldl (fun cs p => cs.setIfInBounds (off + p.2) p.1) vs).size), ((l.zipIdx k).foldl (fun cs p => cs.setIfInBounds (off + p.2) p.1) vs)[i] = if hh : off + k ≤ i ∧ i < off + k + l.length then l[i - (off + k)]'(by omega) else vs[i]
 | [], k, vs => ⟨rfl, fun i h h' => by rw [dif_neg (by simp only [List.length_nil]; omega)]; rfl⟩
 | v :: l, k, vs => by
  obtain ⟨h1, h2⟩ := foldl_fill off l (k + 1) (vs.setIfInBounds (off + k) v)
  have hf : ((v :: l).zipIdx k).foldl (fun cs p => cs.setIfInBounds (off + p.2) p.1) vs = (l.zipIdx (k + 1)).foldl (fun cs p => cs.setIfInBounds (off + p.2) p.1) (vs.setIfInBounds (off + k) v) := rfl
  refine ⟨by rw [hf, h1]; simp, fun i hi hi' => ?_⟩
  have := h2 i (by simpa using hi) (by rw [← hf]; exact hi')
  simp only [hf, this]
  by_cases k1 : off + (k + 1) ≤ i ∧ i < off + (k + 1) + l.length
  ·rw [dif_pos k1, dif_pos (by simp only [List.length_cons]; omega)]
   have e : i - (off + k) = (i - (off + (k + 1))) + 1 := by omega
   simp [e]
  ·rw [dif_neg k1, Array.getElem_setIfInBounds (by simpa using hi)]
   by_cases k2 : off + k = i
   ·rw [if_pos k2, dif_pos (by simp only [List.length_cons]; omega)]
    have e : i - (off + k) = 0 := by omega
    simp [e]
   ·rw [if_neg k2, dif_neg (by simp only [List.length_cons]; omega)]
theorem fill_one (off : Nat) (v vs : Array Value) : v.zipIdx.foldl (fun cs (p : Value × Nat) => cs.setIfInBounds (off + p.2) p.1) vs = (v.toList.zipIdx 0).foldl (fun cs p => cs.setIfInBounds (off + p.2) p.1) vs := by
 rw [← Array.foldl_toList]
 simp
inductive Pl where
 | fields (l : List (Nat × Nat))
 | elems (z : Nat)
def Pl.at : Pl → Nat → Option (Nat × Nat)
 | .fields l, i => l[i]?
 | .elems z, i => some (i * z, z)
def aFill (p : Pl) : List CVal → List (Nat × List CVal) → Option (List CVal)
 | cells, [] => some cells
 | cells, (i, ds) :: rest => match p.at i with
  | some (off, size) => if ds.length = size ∧ off + size ≤ cells.length then aFill p (setAt cells off ds) rest else none
  | none => none
inductive PartsRep (w : World) (κ : Nat → BK) (ρ : Nat → Nat) : List (Nat × List CVal) → List (Nat × Value) → Prop
 | nil : PartsRep w κ ρ [] []
 | cons (i : Nat) (ds : List CVal) (v : Value) (rest : List (Nat × List CVal)) (vs : List (Nat × Value)) (h : CellsRep w κ ρ ds v.cells) (r : PartsRep w κ ρ rest vs) : PartsRep w κ ρ ((i, ds) :: rest) ((i, v) :: vs)
theorem fill_rep {w : World} {κ : Nat → BK} {ρ : Nat → Nat} (p : Pl) (pf : Nat → Option (Nat × Nat)) (hp : ∀ i, pf i = p.at i) {parts : List (Nat × List CVal)} {pv : List (Nat × Value)} (h : PartsRep w κ ρ parts pv) :
  ∀ (cells r : List CVal) (vs : Array Value), CellsRep w κ ρ cells vs → aFill p cells parts = some r → ∃ us, Instr.fill pf vs pv = some us ∧ CellsRep w κ ρ r us := by
 induction h with
 | nil =>
  intro cells r vs hc e
  injection e with e
  subst e
  exact ⟨vs, rfl, hc⟩
 | cons i ds v rest vs' hv _ ih =>
  intro cells r vs hc e
  unfold aFill at e
  split at e
  ·rename_i off size hat
   split at e
   ·rename_i hn
    obtain ⟨h1, h2⟩ := foldl_fill off v.cells.toList 0 vs
    have hsz := hc.size
    have hvs := hv.size
    have hc2 : CellsRep w κ ρ (setAt cells off ds) ((v.cells.toList.zipIdx 0).foldl (fun cs p => cs.setIfInBounds (off + p.2) p.1) vs) := by
     refine ⟨by rw [h1, setAt_length]; exact hsz, fun x hx => ?_, fun l j hj hj' => ?_, fun j hj => ?_⟩
     ·obtain ⟨j, hj, rfl⟩ := List.mem_iff_getElem.1 hx
      have hj2 := hj
      rw [setAt_length] at hj2
      rw [setAt_get ds cells off j hj2]
      split
      ·exact hv.flat _ (List.getElem_mem _)
      ·exact hc.flat _ (List.getElem_mem _)
     ·rw [setAt_length] at hj
      rw [setAt_get ds cells off j hj, h2 j (by omega)]
      by_cases hh : off ≤ j ∧ j < off + ds.length
      ·rw [dif_pos hh, dif_pos (by simp; omega)]
       have := hv.rep l (j - off) (by omega) (by omega)
       simpa using this
      ·rw [dif_neg hh, dif_neg (by simp; omega)]
       exact hc.rep l j hj (by omega)
     ·have hj2 : j < vs.size := by rw [h1] at hj; exact hj
      rw [h2 j hj2]
      split
      ·rename_i hh
       have := hv.one (j - off) (by simp at hh; omega)
       simpa using this
      ·exact hc.one j hj2
    obtain ⟨us, hu1, hu2⟩ := ih _ r _ hc2 e
    refine ⟨us, ?_, hu2⟩
    have hcond : ¬ (v.cells.size ≠ size || decide (off + v.cells.size > vs.size)) = true := by
     simp
     omega
    simp only [Instr.fill, hp i, hat]
    rw [if_neg hcond, ← hu1]
    congr 1
    exact fill_one off v.cells vs
   ·cases e
  ·cases e
def partsC (s : St) : List (Nat × Operand) → Option (List (Nat × List CVal))
 | [] => some []
 | (i, x) :: rest => match (s.ev x).dem.cells, partsC s rest with
  | some ds, some r => some ((i, ds) :: r)
  | _, _ => none
theorem partsC_rep {s : St} {a : Act} {w : World} {κ : Nat → BK} {ρ : Nat → Nat} (hR : Rel s a w κ ρ) : ∀ (ps : List (Nat × Operand)) (r : List (Nat × List CVal)), partsC s ps = some r → PartsRep w κ ρ r (ps.map fun p => (p.1, a.eval p.2)) ∧ ∀ q ∈ r, ∀ x ∈ q.2, x.ok s.H.length = true
 | [], r, h => by injection h with h; subst h; exact ⟨.nil, fun q hq => by cases hq⟩
 | (i, x) :: rest, r, h => by
  unfold partsC at h
  split at h
  ·rename_i ds r' h1 h2
   injection h with h
   subst h
   obtain ⟨k1, k2⟩ := partsC_rep hR rest r' h2
   refine ⟨.cons i ds _ _ _ (AVal.cells_rep (hR.ev (l := .slot 0) x) h1) k1, fun q hq => ?_⟩
   rcases List.mem_cons.1 hq with rfl | hq
   ·exact AVal.cells_ok (hR.ev_ok x) h1
   ·exact k2 q hq
  ·cases h
theorem aFill_ok {n : Nat} (p : Pl) : ∀ (parts : List (Nat × List CVal)) (cells r : List CVal), (∀ q ∈ parts, ∀ x ∈ q.2, x.ok n = true) → (∀ x ∈ cells, x.ok n = true) → aFill p cells parts = some r → ∀ x ∈ r, x.ok n = true
 | [], cells, r, _, hc, e => by injection e with e; subst e; exact hc
 | (i, ds) :: rest, cells, r, hp, hc, e => by
  unfold aFill at e
  split at e
  ·rename_i off size hat
   split at e
   ·refine aFill_ok p rest _ r (fun q hq => hp q (List.mem_cons_of_mem _ hq)) (fun x hx => ?_) e
    obtain ⟨j, hj, rfl⟩ := List.mem_iff_getElem.1 hx
    have hj2 := hj
    rw [setAt_length] at hj2
    rw [setAt_get ds cells off j hj2]
    split
    ·exact hp (i, ds) (List.mem_cons_self ..) _ (List.getElem_mem _)
    ·exact hc _ (List.getElem_mem _)
   ·cases e
  ·cases e
def bInfo (P : Program) (t : TypeId) : Option (List CVal × Pl) :=
 match P.info? t, P.underlying t with
 | some it, some (.array _ e) => match it.zero, P.info? e with
  | some z, some ie => if z.cells.toList.all Value.oneCell' then some (z.cells.toList.map ofC, .elems ie.size) else none
  | _, _ => none
 | some it, some (.struct fields) => match it.zero, fields.toList.mapM (fun f => (P.info? f.type).map fun i => (f.offset, i.size)) with
  | some z, some places => if z.cells.toList.all Value.oneCell' then some (z.cells.toList.map ofC, .fields places) else none
  | _, _ => none
 | _, _ => none
theorem bInfo_built {P : Program} {t : TypeId} {zs : List CVal} {p : Pl} (h : bInfo P t = some (zs, p)) : ∃ (z : Array Value) (pf : Nat → Option (Nat × Nat)), zs = z.toList.map ofC ∧ (∀ v ∈ z, v.oneCell' = true) ∧ (∀ i, pf i = p.at i) ∧ ∀ parts, P.built t parts = Instr.fill pf z parts := by
 unfold bInfo at h
 split at h
 ·rename_i it n e hi hu
  split at h
  ·rename_i z ie hz hie
   split at h
   ·rename_i h1
    injection h with h; injection h with e1 e2; subst e1; subst e2
    exact ⟨z.cells, _, rfl, fun v hv => List.all_eq_true.1 h1 v (Array.mem_toList_iff.2 hv), fun i => rfl, fun parts => by simp only [Program.built, hi, hu, hz, hie]; rfl⟩
   ·cases h
  ·cases h
 ·rename_i it fields hi hu
  split at h
  ·rename_i z places hz hpl
   split at h
   ·rename_i h1
    injection h with h; injection h with e1 e2; subst e1; subst e2
    exact ⟨z.cells, fun i => places.toArray[i]?, rfl, fun v hv => List.all_eq_true.1 h1 v (Array.mem_toList_iff.2 hv), fun i => by simp [Pl.at], fun parts => by simp only [Program.built, hi, hu, hz, hpl]⟩
   ·cases h
  ·cases h
 ·cases h
def aBuild (P : Program) (s : St) (t : TypeId) (parts : List (Nat × Operand)) : Option (AVal × Chg) :=
 match bInfo P t, partsC s parts with
 | some (zs, p), some ps => match aFill p zs ps with
  | some cs => some (.agg cs, {})
  | none => none
 | _, _ => none
theorem aBuild_sim {P : Program} {s : St} {o : Oper} {t : TypeId} {parts : Array (Nat × Operand)} {r : AVal} {ch : Chg} (ho : o.op = .build t parts) (h : aBuild P s t parts.toList = some (r, ch)) : Sim P o s r ch := by
 unfold aBuild at h
 split at h
 ·rename_i zs p ps hb hp
  split at h
  ·rename_i cs hf
   injection h with h; injection h with e1 e2; subst e1; subst e2
   obtain ⟨z, pf, rfl, h1, hpf, hbt⟩ := bInfo_built hb
   refine Sim.still fun a w κ ρ hR => ?_
   obtain ⟨k1, k2⟩ := partsC_rep hR parts.toList ps hp
   obtain ⟨us, hu1, hu2⟩ := fill_rep p pf hpf k1 _ cs z (cellsRep_ofC z h1) hf
   refine ⟨.agg us, ?_, fun d => ⟨us, rfl, hu2.size, fun i hi hi' => ⟨hu2.flat _ (List.getElem_mem hi), hu2.rep _ i hi hi'⟩⟩, ?_⟩
   ·have := run_build (P := P) w t (parts.map fun (i, x) => (i, a.eval x)) us (by rw [hbt, Array.toList_map]; exact hu1)
    simp only [execOp, ho, Sem.run_bind, this]
    rfl
   ·simp only [AVal.ok, List.all_eq_true]
    exact aFill_ok p ps _ cs k2 (map_ofC_ok _ _) hf
  ·cases h
 ·cases h
def CVal.fz : CVal → Option FVal
 | .f .nils => some (.row [] 0)
 | .f x => some x
 | .tip _ cs len => some (.row cs len)
 | _ => none
def fzs : List CVal → Option (List FVal)
 | [] => some []
 | c :: cs => match c.fz, fzs cs with
  | some x, some xs => some (x :: xs)
  | _, _ => none
theorem CVal.fz_rep {w : World} {κ : Nat → BK} {ρ : Nat → Nat} {l : Loc} : ∀ {x : CVal} {y : FVal} {v : Value}, RepC w κ ρ l x v → x.fz = some y → RepF w κ y v
 | .f .nils, y, v, h, e => by injection e with e; subst e; rw [repF_nils.1 h]; exact .nil0
 | .f (.v _), y, v, h, e => by injection e with e; subst e; exact h
 | .f (.row ..), y, v, h, e => by injection e with e; subst e; exact h
 | .tip sz cs len, y, v, h, e => by injection e with e; subst e; exact RepC.dem (l' := l) h
 | .ip .., _, _, _, e => by cases e
 | .ptr .., _, _, _, e => by cases e
 | .arr .., _, _, _, e => by cases e
 | .und, _, _, _, e => by cases e
 | .any, _, _, _, e => by cases e
theorem fzs_rep : ∀ (cs : List CVal) (xs : List FVal), fzs cs = some xs → xs.length = cs.length ∧ ∀ i (h : i < cs.length) (h' : i < xs.length), cs[i].fz = some xs[i]
 | [], xs, h => by injection h with h; subst h; exact ⟨rfl, fun i h => by simp at h⟩
 | c :: cs, xs, h => by
  unfold fzs at h
  split at h
  ·rename_i x ys e1 e2
   injection h with h
   subst h
   obtain ⟨h1, h2⟩ := fzs_rep cs ys e2
   refine ⟨by simp [h1], fun i hi hi' => ?_⟩
   cases i with
   | zero => exact e1
   | succ i => exact h2 i (by simpa using hi) (by simpa using hi')
  ·cases h
theorem tip_new {w : World} {κ : Nat → BK} {ρ : Nat → Nat} {n : Nat} (l : Loc) {sz len cap : Nat} {fs : List FVal} {c : Array Value} (e : TypeId) (hl : fs.length = len * sz) (hle : len ≤ cap) (hc : c.size = cap * sz)
  (hr : ∀ i (h : i < fs.length) (h' : i < c.size), RepF w κ fs[i] c[i]) : TipAt (w.alloc (.cells c e)) (upd κ w.heap.size (.tip fs.length l)) l sz fs len w.heap.size cap := by
 have m := mv_alloc n w κ ρ (.cells c e) (.tip fs.length l) ρ (fun _ _ => rfl)
 have hsz : fs.length ≤ c.size := by rw [hl, hc]; exact Nat.mul_le_mul_right _ hle
 have hh : (w.alloc (.cells c e)).heap[w.heap.size]? = some (.cells c e (0, 0)) := by rw [alloc_heap, if_pos rfl]
 refine ⟨⟨fun i hi => ?_, fun _ => ⟨by rw [alloc_size]; omega, by rw [upd_same]; simp [BK.fits]⟩⟩, by rw [alloc_size]; omega, hl, upd_same _ _ _, hle, c, e, hh, hc⟩
 have hi' : i < c.size := by omega
 exact ⟨c[i], by unfold World.cell?; rw [hh]; simp [hi'], (hr i hi hi').grow m.grow⟩
def aBuildSlice (P : Program) (s : St) (t : TypeId) (len : Nat) (parts : List (Nat × Operand)) : Option (AVal × Chg) :=
 match mkInfo P t, partsC s parts with
 | some (sz, _, zs), some ps => if len * sz ≤ 16777216 then
   match aFill (.elems sz) (repCells zs len) ps with
   | some cs => match fzs cs with
    | some fs => some (.c (.tip sz fs len), {})
    | none => none
   | none => none
  else none
 | _, _ => none
theorem aBuildSlice_sim {P : Program} {s : St} {o : Oper} {t : TypeId} {len : Nat} {parts : Array (Nat × Operand)} {r : AVal} {ch : Chg} (ho : o.op = .buildSlice t len parts) (h : aBuildSlice P s t len parts.toList = some (r, ch)) : Sim P o s r ch := by
 unfold aBuildSlice at h
 split at h
 ·rename_i sz by_ zs ps hI hp
  split at h
  ·rename_i hlen
   split at h
   ·rename_i cs hf
    split at h
    ·rename_i fs hfs
     injection h with h; injection h with e1 e2; subst e1; subst e2
     obtain ⟨e, i, z, hu, hi, hz, rfl, rfl, rfl, hsz, hpos, h1⟩ := mkInfo_of hI
     intro a w κ ρ hR
     obtain ⟨k1, k2⟩ := partsC_rep hR parts.toList ps hp
     have hm : CellsRep w κ ρ (repCells (z.cells.toList.map ofC) len) (madeCells z.cells (len * i.size)) := by rw [← hsz]; exact made_rep z.cells len (by omega) h1
     obtain ⟨us, hu1, hu2⟩ := fill_rep (.elems i.size) (fun j => some (j * i.size, i.size)) (fun _ => rfl) k1 _ cs _ hm hf
     obtain ⟨f1, f2⟩ := fzs_rep cs fs hfs
     have hcl : cs.length = len * i.size := by
      have hlen2 : ∀ (p : Pl) (parts : List (Nat × List CVal)) (cells r : List CVal), aFill p cells parts = some r → r.length = cells.length := by
       intro p parts
       induction parts with
       | nil => intro cells r e; injection e with e; subst e; rfl
       | cons q rest ih =>
        intro cells r e
        obtain ⟨j, ds⟩ := q
        unfold aFill at e
        split at e
        ·split at e
         ·rw [ih _ _ e, setAt_length]
         ·cases e
        ·cases e
      rw [hlen2 _ _ _ _ hf, repCells_eq]
      simp [hsz]
     have hus : us.size = len * i.size := by rw [hu2.size, hcl]
     have hT := tip_new (w := w) (κ := κ) (ρ := ρ) (n := s.H.length) (.slot (o.dst.getD 0)) (sz := i.size) (len := len) (cap := len) (fs := fs) (c := us) e (by rw [f1, hcl]) (Nat.le_refl _) hus (fun j hj hj' => CVal.fz_rep (hu2.rep (.slot 0) j (by omega) hj') (f2 j (by omega) hj))
     have m := mv_alloc s.H.length w κ ρ (.cells us e) (.tip fs.length (.slot (o.dst.getD 0))) ρ (fun _ _ => rfl)
     refine ⟨.slice (some ⟨w.heap.size, 0, none⟩) len len, _, _, ρ, .inl ?_, hR.mv m (fun _ h => h), fun d hd => ?_, rfl, m.fr, fun _ _ => rfl⟩
     ·have hn : ¬ (16777216 < len * i.size) := by omega
      have hfill : Instr.fill (fun j => some (j * i.size, i.size)) (madeCells z.cells (len * i.size)) (parts.toList.map fun p => (p.1, a.eval p.2)) = some us := hu1
      by_cases hz0 : len * i.size = 0
      ·have hm0 : madeCells z.cells (len * i.size) = #[] := Array.eq_empty_of_size_eq_zero (by rw [size_madeCells, hz0])
       rw [hm0] at hfill
       have hr0 : (Array.range 0).map (fun _ => (default : Value)) = #[] := Array.eq_empty_of_size_eq_zero (by simp)
       simp only [execOp, ho, Instr.buildSlice, Sem.run_bind, run_underlying hu w, Result.andThen_ok, sizeOf, typeInfo, program, Sem.run, hi]
       simp [Sem.run, hi, hn, hz0, hr0, hfill, newRow]
      ·simp only [execOp, ho, Instr.buildSlice, Sem.run_bind, run_underlying hu w, Result.andThen_ok, sizeOf, typeInfo, program, Sem.run, hi]
       unfold madeCells at hfill
       simp [Sem.run, hi, hn, hz0, hz, hfill, newRow, zeroValue, typeInfo]
     ·rw [hd] at hT ⊢
      exact .inl ⟨w.heap.size, len, rfl, hT⟩
    ·cases h
   ·cases h
  ·cases h
 ·cases h
def srcCells (P : Program) (s : St) (sz : Nat) (tx : TypeId) (y : Operand) : Option (Nat × List FVal) :=
 match (s.ev y).dem with
 | .c (.f (.row cs n)) => match elemSz P tx with
  | some z => if z = sz ∧ cs.length = n * sz then some (n, cs) else none
  | none => none
 | .c (.f .nils) => match elemSz P tx with
  | some z => some (0, [])
  | none => none
 | .c (.arr b off n _) => match elemSz P tx, s.H[b]? with
  | some z, some (some cells) => if z = sz ∧ off + n * sz ≤ cells.length then
    match fzs ((cells.drop off).take (n * sz)) with
    | some fs => some (n, fs)
    | none => none
   else none
  | _, _ => none
 | _ => none
theorem src_slice {P : Program} (w : World) (size : Nat) (tx : TypeId) {z : Nat} (hz : elemSz P tx = some z) (g o n c : Nat) (news : List Value) (hl : news.length = n * size) (hr : w.rangeAt g o news) (h1 : ∀ u ∈ news, u.oneCell' = true) : Src P size tx (.slice (some ⟨g, o, none⟩) n c) n news w := by
 obtain ⟨e, i, hu, hi, _⟩ := elemSz_of hz
 exact Src.ofSlice w hu ⟨g, o, none⟩ n c news hl (fun j u hj => by rw [Addr.add_mid]; exact hr j u hj) h1
theorem srcCells_src {P : Program} {s : St} {sz : Nat} {tx : TypeId} {y : Operand} {n : Nat} {fs : List FVal} (h : srcCells P s sz tx y = some (n, fs)) {a : Act} {w : World} {κ : Nat → BK} {ρ : Nat → Nat} (hR : Rel s a w κ ρ) :
  ∃ news : List Value, Src P sz tx (a.eval y) n news w ∧ news.length = fs.length ∧ fs.length = n * sz ∧ ∀ i (h : i < fs.length) (h' : i < news.length), RepF w κ fs[i] news[i] := by
 unfold srcCells at h
 split at h
 ·rename_i cs m he
  split at h
  ·rename_i z hz
   split at h
   ·rename_i hc
    injection h with h; injection h with e1 e2; subst e1; subst e2
    obtain ⟨g, oo, cap, hv, hcap, hrow⟩ | ⟨rfl, rfl, hv⟩ := hR.at_row he
    rotate_left
    ·obtain ⟨e, i, hu, hi, _⟩ := elemSz_of hz
     exact ⟨[], by rw [hv]; exact Src.ofNil w hu 0, rfl, by simp, fun i h => by simp at h⟩
    obtain ⟨vs, hl, hra, hre⟩ := hrow.part 0 cs.length (by omega)
    have hre' : ∀ i (h : i < cs.length) (h' : i < vs.length), RepF w κ cs[i] vs[i] := fun i hi hi' => by
     have := hre i hi hi'
     simpa using this
    refine ⟨vs, ?_, hl, hc.2, hre'⟩
    rw [hv]
    refine src_slice w sz tx hz g oo m cap vs (by rw [hl]; exact hc.2) hra (fun u hu => ?_)
    obtain ⟨i, hi, rfl⟩ := List.mem_iff_getElem.1 hu
    exact (hre' i (by omega) hi).one
   ·cases h
  ·cases h
 ·rename_i he
  split at h
  ·rename_i z hz
   injection h with h; injection h with e1 e2; subst e1; subst e2
   have hv : a.eval y = .slice none 0 0 := by
    have := hR.ev (l := .slot 0) y
    rw [he] at this
    exact repF_nils.1 this
   obtain ⟨e, i, hu, hi, _⟩ := elemSz_of hz
   exact ⟨[], by rw [hv]; exact Src.ofNil w hu 0, rfl, by simp, fun i h => by simp at h⟩
  ·cases h
 ·rename_i b off m cap he
  split at h
  ·rename_i z cells hz hb
   split at h
   ·rename_i hc
    split at h
    ·rename_i gs hgs
     injection h with h; injection h with e1 e2; subst e1; subst e2
     obtain ⟨vs, hl, hra, hre⟩ := (hR.heap.blk b cells hb).part off (m * sz) hc.2
     obtain ⟨f1, f2⟩ := fzs_rep _ gs hgs
     have f1' : gs.length = m * sz := by rw [f1]; simp; omega
     have hrep : ∀ i (h : i < gs.length) (h' : i < vs.length), RepF w κ gs[i] vs[i] := fun i hi hi' => by
      have h3 := hre i (by omega) hi'
      have h4 := f2 i (by rw [← f1]; exact hi) hi
      simp only [List.getElem_take, List.getElem_drop] at h4
      exact CVal.fz_rep h3 h4
     refine ⟨vs, ?_, by omega, f1', hrep⟩
     rw [hR.at_arr he]
     refine src_slice w sz tx hz (ρ b) off m cap vs hl hra (fun u hu => ?_)
     obtain ⟨i, hi, rfl⟩ := List.mem_iff_getElem.1 hu
     exact (hrep i (by omega) hi).one
    ·cases h
   ·cases h
  ·cases h
 ·cases h
def aAppend (P : Program) (s : St) (t tx : TypeId) (x y : Operand) : Option (AVal × Chg) :=
 match mkInfo P t with
 | some (sz, by_, _) => match srcCells P s sz tx y with
  | some (n, fs) => match holds s x with
   | some (u, z, cs, len) => if z = sz ∧ len + n ≤ 4611686018427387904 ∧ (len + n) * by_ ≤ 140737488355328 then some (.c (.tip sz (cs ++ fs) (len + n)), { dem := some u }) else none
   | none => match s.ev x with
    | .c (.f .nils) => if n ≤ 4611686018427387904 ∧ n * by_ ≤ 140737488355328 then some (.c (.tip sz fs n), {}) else none
    | _ => none
  | none => none
 | none => none
theorem exec_append {P : Program} {ev : Operand → Value} {o : Oper} {t tx : TypeId} {x y : Operand} (ho : o.op = .call { callee := .builtin .append, args := #[x, y], argTypes := #[t, tx] }) {v : Value} {w w' : World} (h : (Builtin.append_ #[t, tx] o.type #[ev x, ev y]).run P w = .ok v w') : (execOp ev o).run P w = .ok (.value v) w' := by
 simp [execOp, ho, resolve, invoke, builtin, h]
theorem mv_drew (n : Nat) (w : World) (κ : Nat → BK) (ρ : Nat → Nat) : Mv (fun _ => False) n w κ ρ w.drew κ ρ :=
 ⟨rfl, rfl, rfl, Nat.le_refl _, fun _ _ => rfl, fun _ _ _ => ⟨rfl, rfl⟩, fun _ _ _ _ h => h.elim, fun _ _ _ h => h.elim, fun _ _ h => h.elim⟩
theorem grown_tip {w : World} {κ : Nat → BK} {ρ : Nat → Nat} {n : Nat} (l : Loc) {sz len m cap : Nat} {cs fs : List FVal} {olds news : List Value} (e : TypeId) (z : Array Value) (hz : z.size = sz) (hcs : cs.length = len * sz) (hfs : fs.length = m * sz)
  (h1 : olds.length = cs.length) (h2 : news.length = fs.length) (hle : len + m ≤ cap) (hr1 : ∀ i (h : i < cs.length) (h' : i < olds.length), RepF w κ cs[i] olds[i]) (hr2 : ∀ i (h : i < fs.length) (h' : i < news.length), RepF w κ fs[i] news[i]) :
  TipAt (w.drew.alloc (.cells ((olds ++ news).toArray ++ Builtin.zeroCells z (cap - (len + m))) e)) (upd κ w.heap.size (.tip (cs ++ fs).length l)) l sz (cs ++ fs) (len + m) w.heap.size cap := by
 have hsz : ((olds ++ news).toArray ++ Builtin.zeroCells z (cap - (len + m))).size = cap * sz := by
  simp only [Array.size_append, List.size_toArray, List.length_append, Builtin.zeroCells, Array.size_map, Array.size_range, h1, h2, hcs, hfs, hz, ← Nat.add_mul]
  congr 1
  omega
 have := tip_new (w := w.drew) (κ := κ) (ρ := ρ) (n := n) l (sz := sz) (len := len + m) (cap := cap) (fs := cs ++ fs) (c := (olds ++ news).toArray ++ Builtin.zeroCells z (cap - (len + m))) e (by rw [List.length_append, hcs, hfs, Nat.add_mul]) hle hsz (fun i hi hi' => by
  rw [List.length_append] at hi
  rw [Array.getElem_append_left (by simp; omega), List.getElem_toArray]
  have hg := (mv_drew n w κ ρ).grow
  rcases Nat.lt_or_ge i cs.length with hlt | hge
  ·rw [List.getElem_append_left hlt, List.getElem_append_left (by omega)]
   exact (hr1 i hlt (by omega)).grow hg
  ·rw [List.getElem_append_right hge, List.getElem_append_right (by omega)]
   have := (hr2 (i - cs.length) (by omega) (by omega)).grow hg
   simp only [h1]
   exact this)
 exact this
theorem grownCap_ge (w : World) (need old : Nat) (e : TypeId) : need ≤ grownCap w need old e := by
 unfold grownCap Question.cut
 exact Nat.le_add_right _ _
theorem append_nil {P : Program} {s : St} {o : Oper} {t tx : TypeId} {x y : Operand} (ho : o.op = .call { callee := .builtin .append, args := #[x, y], argTypes := #[t, tx] }) {sz by_ : Nat} {zs : List CVal} (hI : mkInfo P t = some (sz, by_, zs)) {n : Nat} {fs : List FVal} (hsrc : srcCells P s sz tx y = some (n, fs)) (h63 : n ≤ 4611686018427387904) (hby : n * by_ ≤ 140737488355328)
  {a : Act} {w : World} {κ : Nat → BK} {ρ : Nat → Nat} (hR : Rel s a w κ ρ) (hv : a.eval x = .slice none 0 0) (l : Loc) :
  ∃ v w' κ', (execOp a.eval o).run P w = .ok (.value v) w' ∧ Rel s a w' κ' ρ ∧ RepC w' κ' ρ l (.tip sz fs n) v ∧ Fr w κ w' κ' := by
 obtain ⟨e, i, z, hu, hi, hz, rfl, rfl, rfl, hsz, hpos, h1⟩ := mkInfo_of hI
 obtain ⟨news, hs, hn1, hn2, hn3⟩ := srcCells_src hsrc hR
 by_cases hn0 : n = 0
 ·subst hn0
  have hfs : fs = [] := List.eq_nil_of_length_eq_zero (by omega)
  have hnil : news = [] := List.eq_nil_of_length_eq_zero (by omega)
  subst hnil
  exact ⟨_, w, κ, exec_append ho (by rw [hv]; exact run_append_nothing (P := P) w t tx o.type e i hu hi none 0 0 (Nat.le_refl _) _ hs), hR, .inr ⟨hfs, rfl, rfl⟩, Fr.refl _ _⟩
 ·have hold2 : (Builtin.firstCells i.size 0 (.slice none 0 0)).run P w.drew = .ok ([] : List Value).toArray w.drew := rfl
  have hfit := growslice_fits (need := 0 + n) (old := 0) (bytes := i.bytes) (by omega) (by rw [Nat.zero_add]; exact hby)
  have hrun := run_append_grow_src (P := P) w t tx o.type e i z hu hi hz none 0 0 [] hold2 (a.eval y) n news hs (by omega) (by omega) hfit
  have hTn := grown_tip (w := w) (κ := κ) (ρ := ρ) (n := s.H.length) l (m := n) (len := 0) (cap := grownCap w (0 + n) 0 e) (cs := []) (olds := []) (news := news) e z.cells hsz (by simp) hn2 rfl hn1 (grownCap_ge _ _ _ _) (fun j hj => by simp at hj) hn3
  have m1 := mv_drew s.H.length w κ ρ
  have m2 := mv_alloc s.H.length w.drew κ ρ (.cells (([] ++ news).toArray ++ Builtin.zeroCells z.cells (grownCap w (0 + n) 0 e - (0 + n))) e) (.tip ([] ++ fs).length l) ρ (fun _ _ => rfl)
  refine ⟨_, _, _, exec_append ho (by rw [hv]; exact hrun), (hR.mv m1 (fun _ h => h)).mv m2 (fun _ h => h), ?_, m1.fr.trans m2.fr⟩
  rw [Nat.zero_add] at hTn ⊢
  exact .inl ⟨w.heap.size, _, rfl, hTn⟩
theorem aAppend_sim {P : Program} {s : St} {o : Oper} {t tx : TypeId} {x y : Operand} {r : AVal} {ch : Chg} (ho : o.op = .call { callee := .builtin .append, args := #[x, y], argTypes := #[t, tx] }) (h : aAppend P s t tx x y = some (r, ch)) : Sim P o s r ch := by
  unfold aAppend at h
  split at h
  · rename_i sz by_ zs hI
    obtain ⟨e, i, z, hu, hi, hz, rfl, rfl, rfl, hsz, hpos, h1⟩ := mkInfo_of hI
    split at h
    · rename_i n fs hsrc
      split at h
      · rename_i u zz cs len hy0
        obtain ⟨rfl, hx⟩ := holds_of hy0
        split at h
        · rename_i hc
          obtain ⟨rfl, h63, hby⟩ := hc
          injection h with h; injection h with e1 e2; subst e1; subst e2
          intro a w κ ρ hR
          obtain ⟨news, hs, hn1, hn2, hn3⟩ := srcCells_src hsrc hR
          have htip := hR.ev_tmp u
          rw [hx] at htip
          obtain ⟨g, cap, hv, hT⟩ | ⟨rfl, rfl, hv⟩ := htip
          rotate_left
          · rw [Nat.zero_add] at h63 hby
            obtain ⟨v, w', κ', k1, k2, k3, k4⟩ := append_nil ho hI hsrc h63 hby hR hv (.slot (o.dst.getD 0))
            refine ⟨v, w', κ', ρ, .inl k1, demote k2 u, fun d hd => ?_, rfl, k4, fun _ _ => rfl⟩
            rw [hd] at k3
            rw [Nat.zero_add, List.nil_append]
            exact k3
          have hold := hT.row.part 0 cs.length (by omega)
          obtain ⟨olds, ho1, ho2, ho3⟩ := hold
          obtain ⟨c, ec, hblk, hcsz⟩ := hT.blk
          by_cases hroom : len + n ≤ cap
          · -- there is room
            have hcell : ∀ j, j < news.length → (w.cell? ⟨g, 0 + len * i.size + j, none⟩).isSome = true ∧ w.frozen? ⟨g, 0 + len * i.size + j, none⟩ = false := by
              intro j hj
              have : (len + n) * i.size ≤ cap * i.size := Nat.mul_le_mul_right _ hroom
              rw [Nat.add_mul] at this
              have hlt : 0 + len * i.size + j < c.size := by omega
              simp [World.cell?, World.frozen?, hblk]
              simpa using hlt
            have hrun := run_append_room_src (P := P) w t tx o.type e i hu hi g 0 len cap (a.eval y) n news hs hroom (fun j hj => (hcell j hj).1) (fun j hj => (hcell j hj).2)
            have hcut := hT.cut
            have m : Mv (· = g) s.H.length w κ ρ (w.setCells g (0 + len * i.size) news) (upd κ g (.tip (cs ++ fs).length (.slot (o.dst.getD 0)))) ρ := by
              obtain ⟨q1, q2, q3, q4⟩ := setCells_rest news w g (0 + len * i.size)
              refine ⟨q1, q2, q3, by rw [q4]; exact Nat.le_refl _, fun _ _ => rfl, fun j _ hj => ⟨setCells_other news w g _ j hj, upd_other _ _ hj⟩, fun j p v hj hT' hf hv' => ?_, fun j p hj hT' hf => ?_, fun j p hT' => ?_⟩
              · subst hT'
                rw [hT.own] at hf
                simp only [BK.fits] at hf
                rw [World.cell?_setCells_out _ _ _ _ _ (fun _ _ => Or.inl (by simp only; omega))]
                exact hv'
              · subst hT'
                rw [upd_same]
                rw [hT.own] at hf
                simp only [BK.fits, List.length_append] at hf ⊢
                omega
              · subst hT'; rw [hT.own]; intro e; cases e
            have hlt' : g < (w.setCells g (0 + len * i.size) news).heap.size := by rw [(setCells_rest news w g (0 + len * i.size)).2.2.2]; exact hT.lt
            have hTn : TipAt (w.setCells g (0 + len * i.size) news) (upd κ g (.tip (cs ++ fs).length (.slot (o.dst.getD 0)))) (.slot (o.dst.getD 0)) i.size (cs ++ fs) (len + n) g cap := by
              refine ⟨⟨fun j hj => ?_, fun _ => ⟨hlt', by rw [upd_same]; simp [BK.fits]⟩⟩, hlt', by rw [List.length_append, hcut, hn2, Nat.add_mul], upd_same _ _ _, hroom, ?_⟩
              · rw [List.length_append] at hj
                rcases Nat.lt_or_ge j cs.length with hlt | hge
                · obtain ⟨v, hv1, hv2⟩ := (hT.row.grow m.grow).cell j hlt
                  exact ⟨v, hv1, by rw [List.getElem_append_left hlt]; exact hv2⟩
                · have hjn : j - cs.length < news.length := by omega
                  refine ⟨news[j - cs.length], ?_, ?_⟩
                  · have := World.cell?_setCells_in g news (0 + len * i.size) w (fun q hq => (hcell q hq).1) (j - cs.length) hjn
                    rw [show 0 + len * i.size + (j - cs.length) = 0 + j by omega] at this
                    exact this
                  · rw [List.getElem_append_right hge]
                    exact (hn3 (j - cs.length) (by omega) hjn).grow m.grow
              · obtain ⟨c', k1, k2, _⟩ := setCells_same news w g (0 + len * i.size) c ec (0, 0) hblk
                exact ⟨c', ec, k1, by rw [k2]; exact hcsz⟩
            refine ⟨_, _, _, ρ, .inl (exec_append ho (by rw [hv]; exact hrun)), hR.mv_slot m hT.own, fun d hd => ?_, rfl, m.fr, fun _ _ => rfl⟩
            rw [hd] at hTn ⊢
            exact .inl ⟨g, cap, rfl, hTn⟩
          · -- a new block
            have hold2 : (Builtin.firstCells i.size len (.slice (some ⟨g, 0, none⟩) len cap)).run P w.drew = .ok olds.toArray w.drew := by
              have := run_loadCells_list (P := P) w.drew ⟨g, 0, none⟩ olds (fun j v hj => by rw [Addr.add_mid]; simpa using ho2 j v hj)
              simp only [Builtin.firstCells]
              rw [← hT.cut, ← ho1]
              exact this
            have hfit := growslice_fits (need := len + n) (old := cap) (bytes := i.bytes) (by omega) hby
            have hrun := run_append_grow_src (P := P) w t tx o.type e i z hu hi hz (some ⟨g, 0, none⟩) len cap olds hold2 (a.eval y) n news hs (by omega) (by omega) hfit
            have hTn := grown_tip (w := w) (κ := κ) (ρ := ρ) (n := s.H.length) (.slot (o.dst.getD 0)) (m := n) (cap := grownCap w (len + n) cap e) (olds := olds) (news := news) e z.cells hsz hT.cut hn2 ho1 hn1 (grownCap_ge _ _ _ _) (fun j hj hj' => by simpa using ho3 j hj hj') hn3
            have m1 := mv_drew s.H.length w κ ρ
            have m2 := mv_alloc s.H.length w.drew κ ρ (.cells ((olds ++ news).toArray ++ Builtin.zeroCells z.cells (grownCap w (len + n) cap e - (len + n))) e) (.tip (cs ++ fs).length (.slot (o.dst.getD 0))) ρ (fun _ _ => rfl)
            refine ⟨_, _, _, ρ, .inl (exec_append ho (by rw [hv]; exact hrun)), demote ((hR.mv m1 (fun _ h => h)).mv m2 (fun _ h => h)) u, fun d hd => ?_, rfl, m1.fr.trans m2.fr, fun _ _ => rfl⟩
            rw [hd] at hTn ⊢
            exact .inl ⟨w.heap.size, _, rfl, hTn⟩
        · cases h
      · split at h
        · rename_i hx
          split at h
          · rename_i hc
            obtain ⟨h63, hby⟩ := hc
            injection h with h; injection h with e1 e2; subst e1; subst e2
            intro a w κ ρ hR
            obtain ⟨v, w', κ', k1, k2, k3, k4⟩ := append_nil ho hI hsrc h63 hby hR (hR.toV (by rw [hx]; rfl)) (.slot (o.dst.getD 0))
            exact ⟨v, w', κ', ρ, .inl k1, k2, fun d hd => by rw [hd] at k3; exact k3, rfl, k4, fun _ _ => rfl⟩
          · cases h
        · cases h
    · cases h
  · cases h
theorem run_conv_nil {P : Program} (w : World) (src dst e : TypeId) (hs : P.underlying src = some (.slice e)) (he : P.underlying e = some (.int .u8)) (hd : P.underlying dst = some .string) : (convert src dst (.slice none 0 0)).run P w = .ok (.string ⟨#[]⟩) w := by
 rw [run_convert_bytes_string w src dst e none 0 0 hs he hd]
 simp [Conv.bytesToString]
 rfl
def bytesOf : List FVal → Option (List UInt8)
 | [] => some []
 | .v (.int .u8 n) :: r => if ((UInt8.ofNat n.toNat).toNat : Int) = n then
   match bytesOf r with
   | some l => some (UInt8.ofNat n.toNat :: l)
   | none => none
  else none
 | _ => none
theorem bytesOf_get : ∀ (cs : List FVal) (l : List UInt8), bytesOf cs = some l → l.length = cs.length ∧ ∀ i (h : i < cs.length) (h' : i < l.length), cs[i] = .v (.int .u8 (l[i].toNat : Int))
 | [], l, h => by injection h with h; subst h; exact ⟨rfl, fun i h => by simp at h⟩
 | c :: r, l, h => by
  unfold bytesOf at h
  split at h
  ·rename_i heq; cases heq
  ·rename_i n r' heq
   injection heq with e1 e2; subst e1; subst e2
   split at h
   ·rename_i hn
    split at h
    ·rename_i l' hl'
     injection h with h; subst h
     obtain ⟨h1, h2⟩ := bytesOf_get r l' hl'
     refine ⟨by simp [h1], fun i hi hi' => ?_⟩
     cases i with
     | zero =>
      show FVal.v (.int .u8 n) = .v (.int .u8 ((UInt8.ofNat n.toNat).toNat : Int))
      rw [hn]
     | succ i => exact h2 i (by simpa using hi) (by simpa using hi')
    ·cases h
   ·cases h
  ·cases h
def cvBytes (P : Program) (a b : TypeId) : Bool :=
 match P.underlying a, P.underlying b with
 | some (.slice e), some .string => match P.underlying e with
  | some (.int .u8) => true
  | _ => false
 | _, _ => false
def aConvert (P : Program) (s : St) (o : Oper) (t u : TypeId) (x : Operand) : Option (AVal × Chg) :=
 match (s.ev x).dem with
 | .c (.f (.row cs len)) => if cvBytes P t u && decide (cs.length = len) then
   match bytesOf cs with
   | some l => some (.c (.f (.v (.string ⟨l.toArray⟩))), {})
   | none => none
  else none
 | _ => aPlain P s o
theorem aConvert_sim {P : Program} {s : St} {o : Oper} {t u : TypeId} {x : Operand} {r : AVal} {ch : Chg} (ho : o.op = .convert t u x) (h : aConvert P s o t u x = some (r, ch)) : Sim P o s r ch := by
 unfold aConvert at h
 split at h
 ·rename_i cs len he
  split at h
  ·rename_i hc
   rw [Bool.and_eq_true] at hc
   split at h
   ·rename_i l hl
    injection h with h; injection h with e1 e2; subst e1; subst e2
    refine Sim.still fun a w κ ρ hR => ?_
    obtain ⟨h1, h2⟩ := bytesOf_get cs l hl
    obtain ⟨g, oo, cap, hv, hcap, hrow⟩ | ⟨rfl, rfl, hv⟩ := hR.at_row he
    rotate_left
    ·have hl0 : l = [] := List.eq_nil_of_length_eq_zero (by simpa using h1)
     subst hl0
     have hcv := hc.1
     unfold cvBytes at hcv
     split at hcv
     ·rename_i e hs hd
      split at hcv
      ·rename_i hee
       have hrun := run_conv_nil (P := P) w t u e hs hee hd
       exact ⟨_, by simp [execOp, ho, hv, hrun], fun d => RepF.v _ rfl, rfl⟩
      ·cases hcv
     ·cases hcv
    have hlen : cs.length = len := by simpa using hc.2
    have hcv := hc.1
    unfold cvBytes at hcv
    split at hcv
    ·rename_i e hs hd
     split at hcv
     ·rename_i hee
      have hrun := run_convert_bytes_back (P := P) w t u e ⟨g, oo, none⟩ cap l hs hee hd (fun j hj => by
       rw [Addr.add_mid]
       obtain ⟨v, hc1, hc2⟩ := hrow.cell j (by omega)
       rw [h2 j (by omega) hj] at hc2
       rw [hc1, (repF_v.1 hc2).1])
      rw [h1, hlen] at hrun
      exact ⟨_, by simp [execOp, ho, hv, hrun], fun d => RepF.v _ rfl, rfl⟩
     ·cases hcv
    ·cases hcv
   ·cases h
  ·cases h
 ·exact aPlain_sim h
theorem first_list {P : Program} (w : World) (size : Nat) (g o n c m : Nat) (news : List Value) (hr : w.rangeAt g o news) (hm : m * size ≤ news.length) : (Builtin.firstCells size m (.slice (some ⟨g, o, none⟩) n c)).run P w = .ok (news.take (m * size)).toArray w := by
 have := run_loadCells_list (P := P) w ⟨g, o, none⟩ (news.take (m * size)) (fun j v hj => by
  rw [Addr.add_mid]
  rw [List.getElem?_take] at hj
  split at hj
  ·exact hr j v hj
  ·cases hj)
 rw [List.length_take, Nat.min_eq_left hm] at this
 exact this
theorem srcCells_first {P : Program} {s : St} {sz : Nat} {tx : TypeId} {y : Operand} {n : Nat} {fs : List FVal} (h : srcCells P s sz tx y = some (n, fs)) {a : Act} {w : World} {κ : Nat → BK} {ρ : Nat → Nat} (hR : Rel s a w κ ρ) :
  ∃ news : List Value, news.length = fs.length ∧ fs.length = n * sz ∧ (∀ i (h : i < fs.length) (h' : i < news.length), RepF w κ fs[i] news[i]) ∧ (∀ w' : World, (Builtin.lenOf (a.eval y)).run P w' = .ok n w') ∧
   ∀ m, m ≤ n → (Builtin.firstCells sz m (a.eval y)).run P w = .ok (news.take (m * sz)).toArray w := by
 unfold srcCells at h
 split at h
 ·rename_i cs m he
  split at h
  ·rename_i z hz
   split at h
   ·rename_i hc
    injection h with h; injection h with e1 e2; subst e1; subst e2
    obtain ⟨g, oo, cap, hv, hcap, hrow⟩ | ⟨rfl, rfl, hv⟩ := hR.at_row he
    rotate_left
    ·refine ⟨[], rfl, by simp, fun i h => by simp at h, fun w' => by rw [hv]; rfl, fun m hm => ?_⟩
     rw [hv]; simp [Builtin.firstCells]
    obtain ⟨vs, hl, hra, hre⟩ := hrow.part 0 cs.length (by omega)
    refine ⟨vs, hl, hc.2, fun i hi hi' => by simpa using hre i hi hi', fun w' => by rw [hv]; rfl, fun k hk => ?_⟩
    rw [hv]
    exact first_list w sz g oo m cap k vs hra (by rw [hl, hc.2]; exact Nat.mul_le_mul_right _ hk)
   ·cases h
  ·cases h
 ·rename_i he
  split at h
  ·rename_i z hz
   injection h with h; injection h with e1 e2; subst e1; subst e2
   have hv : a.eval y = .slice none 0 0 := by
    have := hR.ev (l := .slot 0) y
    rw [he] at this
    exact repF_nils.1 this
   refine ⟨[], rfl, by simp, fun i h => by simp at h, fun w' => by rw [hv]; rfl, fun m hm => ?_⟩
   rw [hv]; simp [Builtin.firstCells]
  ·cases h
 ·rename_i b off m cap he
  split at h
  ·rename_i z cells hz hb
   split at h
   ·rename_i hc
    split at h
    ·rename_i gs hgs
     injection h with h; injection h with e1 e2; subst e1; subst e2
     obtain ⟨vs, hl, hra, hre⟩ := (hR.heap.blk b cells hb).part off (m * sz) hc.2
     obtain ⟨f1, f2⟩ := fzs_rep _ gs hgs
     have f1' : gs.length = m * sz := by rw [f1]; simp; omega
     refine ⟨vs, by omega, f1', fun i hi hi' => ?_, fun w' => by rw [hR.at_arr he]; rfl, fun k hk => ?_⟩
     ·have h3 := hre i (by omega) hi'
      have h4 := f2 i (by rw [← f1]; exact hi) hi
      simp only [List.getElem_take, List.getElem_drop] at h4
      exact CVal.fz_rep h3 h4
     ·rw [hR.at_arr he]
      exact first_list w sz (ρ b) off m cap k vs hra (by rw [hl]; exact Nat.mul_le_mul_right _ hk)
    ·cases h
   ·cases h
  ·cases h
 ·cases h
theorem exec_copy {P : Program} {ev : Operand → Value} {o : Oper} {t tx : TypeId} {x y : Operand} (ho : o.op = .call { callee := .builtin .copy, args := #[x, y], argTypes := #[t, tx] }) {v : Value} {w w' : World} (h : (Builtin.copy_ #[t, tx] o.type #[ev x, ev y]).run P w = .ok v w') : (execOp ev o).run P w = .ok (.value v) w' := by
 simp [execOp, ho, resolve, invoke, builtin, h]
def aCopy (P : Program) (s : St) (t tx : TypeId) (x y : Operand) : Option (AVal × Chg) :=
 match elemSz P t, (s.ev x).dem with
 | some z, .c (.arr b off len _) => match srcCells P s z tx y, s.H[b]? with
  | some (n, fs), some (some cells) => if off + len * z ≤ cells.length then some (.c (.f (.v (.int .i64 (min n len : Nat)))), { blk := some (b, setAt cells off ((fs.take (min n len * z)).map CVal.f)) }) else none
  | _, _ => none
 | _, _ => none
theorem aCopy_sim {P : Program} {s : St} {o : Oper} {t tx : TypeId} {x y : Operand} {r : AVal} {ch : Chg} (ho : o.op = .call { callee := .builtin .copy, args := #[x, y], argTypes := #[t, tx] }) (h : aCopy P s t tx x y = some (r, ch)) : Sim P o s r ch := by
 unfold aCopy at h
 split at h
 ·rename_i z b off len cap hz he
  split at h
  ·rename_i n fs cells hsrc hb
   split at h
   ·rename_i hn
    injection h with h; injection h with e1 e2; subst e1; subst e2
    intro a w κ ρ hR
    obtain ⟨e, i, hu, hi, rfl⟩ := elemSz_of hz
    obtain ⟨news, l1, l2, hre, hlen, hfirst⟩ := srcCells_first hsrc hR
    have hm : min n len * i.size ≤ fs.length := by rw [l2]; exact Nat.mul_le_mul_right _ (Nat.min_le_left _ _)
    have hm2 : min n len * i.size ≤ len * i.size := Nat.mul_le_mul_right _ (Nat.min_le_right _ _)
    have hB := hR.heap.blk b cells hb
    have hth := hB.there off (min n len * i.size) (by omega)
    have hzl : (news.take (min n len * i.size)).length = min n len * i.size := by rw [List.length_take]; omega
    have hone : ∀ v ∈ news.take (min n len * i.size), v.oneCell' = true := fun v hv => by
     obtain ⟨j, hj, rfl⟩ := List.mem_iff_getElem.1 (List.mem_of_mem_take hv)
     exact (hre j (by omega) hj).one
    have hst := run_storeCells_cells (P := P) (ρ b) off (news.take (min n len * i.size)) 0 w (fun j hj => (hth j (by omega)).1) (fun j hj => (hth j (by omega)).2) hone
    have hrun : (Builtin.copy_ #[t, tx] o.type #[a.eval x, a.eval y]).run P w = .ok (goInt (min n len : Nat)) (w.setCells (ρ b) off (news.take (min n len * i.size))) := by
     have hf := hfirst (n.min len) (Nat.min_le_left _ _)
     rw [hR.at_arr he]
     simp [Builtin.copy_, run_underlying hu, hlen, sizeOf, typeInfo, hi, hf]
     rw [show n.min len = min n len from rfl, hst]
     simp
    have hokd : ∀ y ∈ (fs.take (min n len * i.size)).map CVal.f, y.ok s.H.length = true := fun y hy => by
     obtain ⟨q, _, rfl⟩ := List.mem_map.1 hy
     rfl
    have hbs := hB.store s.H.length (H_lt hb) (hR.heap.ok b cells hb) off (ds := (fs.take (min n len * i.size)).map CVal.f) (vs := (news.take (min n len * i.size)).toArray) (by simp; omega) hokd (fun j hj hj' => by
     have h1 : j < fs.length := by simp at hj; omega
     have := hre j h1 (by omega)
     simp only [List.getElem_map, List.getElem_take, List.getElem_toArray]
     exact this)
    have m := mv_store (n := s.H.length) (w := w) (ρ := ρ) hB.own off (news.take (min n len * i.size))
    have hR2 := hR.mv_blk hb m hbs (fun q hq => by
     obtain ⟨j, hj, rfl⟩ := List.mem_iff_getElem.1 hq
     have hj2 := hj
     rw [setAt_length] at hj2
     rw [setAt_get _ cells off j hj2]
     split
     ·exact hokd _ (List.getElem_mem _)
     ·exact hR.heap.ok b cells hb _ (List.getElem_mem _))
    exact ⟨goInt (min n len : Nat), _, κ, ρ, .inl (exec_copy ho hrun), hR2, fun d hd => RepF.v _ rfl, rfl, m.fr, fun _ _ => rfl⟩
   ·cases h
  ·cases h
 ·cases h
def aInto (P : Program) (s : St) (t tx : TypeId) (x y : Operand) : Option (AVal × Chg) :=
 match elemSz P t, (s.ev x).dem with
 | some z, .c (.arr b off len cap) => match srcCells P s z tx y, s.H[b]? with
  | some (n, fs), some (some cells) => if len + n ≤ cap ∧ off + (len + n) * z ≤ cells.length then some (.c (.arr b off (len + n) cap), { blk := some (b, setAt cells (off + len * z) (fs.map CVal.f)) }) else none
  | _, _ => none
 | _, _ => none
theorem aInto_sim {P : Program} {s : St} {o : Oper} {t tx : TypeId} {x y : Operand} {r : AVal} {ch : Chg} (ho : o.op = .call { callee := .builtin .append, args := #[x, y], argTypes := #[t, tx] }) (h : aInto P s t tx x y = some (r, ch)) : Sim P o s r ch := by
 unfold aInto at h
 split at h
 ·rename_i z b off len cap hz he
  split at h
  ·rename_i n fs cells hsrc hb
   split at h
   ·rename_i hn
    obtain ⟨hroom, hn⟩ := hn
    injection h with h; injection h with e1 e2; subst e1; subst e2
    intro a w κ ρ hR
    obtain ⟨e, i, hu, hi, rfl⟩ := elemSz_of hz
    obtain ⟨news, hs, l1, l2, hre⟩ := srcCells_src hsrc hR
    have hB := hR.heap.blk b cells hb
    have hmul : (len + n) * i.size = len * i.size + n * i.size := Nat.add_mul _ _ _
    have hth := hB.there (off + len * i.size) (n * i.size) (by omega)
    have hrun := run_append_room_src (P := P) w t tx o.type e i hu hi (ρ b) off len cap (a.eval y) n news hs hroom (fun j hj => (hth j (by omega)).1) (fun j hj => (hth j (by omega)).2)
    have hokd : ∀ y ∈ fs.map CVal.f, y.ok s.H.length = true := fun y hy => by
     obtain ⟨q, _, rfl⟩ := List.mem_map.1 hy
     rfl
    have hbs := hB.store s.H.length (H_lt hb) (hR.heap.ok b cells hb) (off + len * i.size) (ds := fs.map CVal.f) (vs := news.toArray) (by simp; omega) hokd (fun j hj hj' => by
     have h1 : j < fs.length := by simp at hj; omega
     have := hre j h1 (by omega)
     simp only [List.getElem_map, List.getElem_toArray]
     exact this)
    have m := mv_store (n := s.H.length) (w := w) (ρ := ρ) hB.own (off + len * i.size) news
    have hR2 := hR.mv_blk hb m hbs (fun q hq => by
     obtain ⟨j, hj, rfl⟩ := List.mem_iff_getElem.1 hq
     have hj2 := hj
     rw [setAt_length] at hj2
     rw [setAt_get _ cells _ j hj2]
     split
     ·exact hokd _ (List.getElem_mem _)
     ·exact hR.heap.ok b cells hb _ (List.getElem_mem _))
    exact ⟨.slice (some ⟨ρ b, off, none⟩) (len + n) cap, _, κ, ρ, .inl (exec_append ho (by rw [hR.at_arr he]; exact hrun)), hR2, fun d hd => rfl, by simpa [AVal.ok, CVal.ok, St.chg, St.demO, St.blkO, St.newO, hset] using H_lt hb, m.fr, fun _ _ => rfl⟩
   ·cases h
  ·cases h
 ·cases h
def aApp (P : Program) (s : St) (t tx : TypeId) (x y : Operand) : Option (AVal × Chg) :=
 match aAppend P s t tx x y with
 | some q => some q
 | none => aInto P s t tx x y
theorem aApp_of {P : Program} {s : St} {t tx : TypeId} {x y : Operand} {q : AVal × Chg} (h : aAppend P s t tx x y = some q) : aApp P s t tx x y = some q := by
 unfold aApp
 rw [h]
theorem aApp_cases {P : Program} {s : St} {t tx : TypeId} {x y : Operand} {q : AVal × Chg} (h : aApp P s t tx x y = some q) : aAppend P s t tx x y = some q ∨ aInto P s t tx x y = some q := by
 unfold aApp at h
 split at h
 ·rename_i q0 h0
  rw [h0]
  exact .inl h
 ·exact .inr h
theorem aApp_sim {P : Program} {s : St} {o : Oper} {t tx : TypeId} {x y : Operand} {r : AVal} {ch : Chg} (ho : o.op = .call { callee := .builtin .append, args := #[x, y], argTypes := #[t, tx] }) (h : aApp P s t tx x y = some (r, ch)) : Sim P o s r ch := by
 rcases aApp_cases h with h | h
 ·exact aAppend_sim ho h
 ·exact aInto_sim ho h
def aCall (P : Program) (s : St) (o : Oper) (c : Call) : Option (AVal × Chg) :=
 match c.callee, c.args.toList, c.argTypes.toList with
 | .builtin .len, [x], [t] => aLen P s o t x
 | .builtin .append, [x, y], [t, tx] => aApp P s t tx x y
 | .builtin .copy, [x, y], [t, tx] => aCopy P s t tx x y
 | _, _, _ => aPlain P s o
def aop (P : Program) (tr : Bool) (s : St) (o : Oper) : Option (AVal × Chg) :=
 match o.op with
 | .move x => some (aMove tr s x)
 | .assign x => some (aMove true s x)
 | .pick c x y => aPick s c x y
 | .alloc t => aAlloc P s t
 | .box _ x => aBox s x
 | .load t x => aLoad P tr s t x
 | .store t x y => aStore P s t x y
 | .fieldAddr t x f => aFieldAddr P s t x f
 | .indexAddr t x i => aIndexAddr P s t x i
 | .nilCheck x => aNil s x
 | .extract x i => aExtract s x i
 | .field t x f => aField P s t x f
 | .index t x i => aIndex P s o t x i
 | .build t ps => aBuild P s t ps.toList
 | .buildSlice t n ps => aBuildSlice P s t n ps.toList
 | .makeSlice t l c => aMake P s t l c
 | .slice t x lo hi mx => aSlice P s o t x lo hi mx
 | .convert t u x => aConvert P s o t u x
 | .call c => aCall P s o c
 | _ => aPlain P s o
theorem call_eta (c : Call) {b : Builtin} {xs : List Operand} {ts : List TypeId} (h1 : c.callee = .builtin b) (h2 : c.args.toList = xs) (h3 : c.argTypes.toList = ts) : c = { callee := .builtin b, args := xs.toArray, argTypes := ts.toArray } := by
 obtain ⟨a1, a2, a3⟩ := c
 simp only at h1 h2 h3
 subst h1; subst h2; subst h3
 simp
theorem aop_sim {P : Program} {tr : Bool} {s : St} {o : Oper} {x : AVal} {c : Chg} (h : aop P tr s o = some (x, c)) : Sim P o s x c := by
 unfold aop at h
 split at h
 ·rename_i y ho
  injection h with h
  have := aMove_sim (P := P) (s := s) (o := o) (tr := tr) (x := y) (fun ρ w => by simp [execOp, ho])
  rw [h] at this
  exact this
 ·rename_i y ho
  injection h with h
  have := aMove_sim (P := P) (s := s) (o := o) (tr := true) (x := y) (fun ρ w => by simp [execOp, ho])
  rw [h] at this
  exact this
 ·rename_i ho; exact aPick_sim ho h
 ·rename_i ho; exact aAlloc_sim ho h
 ·rename_i ho; exact aBox_sim ho h
 ·rename_i ho; exact aLoad_sim ho h
 ·rename_i ho; exact aStore_sim ho h
 ·rename_i ho; exact aFieldAddr_sim ho h
 ·rename_i ho; exact aIndexAddr_sim ho h
 ·rename_i ho; exact aNil_sim ho h
 ·rename_i ho; exact aExtract_sim ho h
 ·rename_i ho; exact aField_sim ho h
 ·rename_i ho; exact aIndex_sim ho h
 ·rename_i ho; exact aBuild_sim ho h
 ·rename_i ho; exact aBuildSlice_sim ho h
 ·rename_i ho; exact aMake_sim ho h
 ·rename_i ho; exact aSlice_sim ho h
 ·rename_i ho; exact aConvert_sim ho h
 ·rename_i cl ho
  unfold aCall at h
  split at h
  ·rename_i y t h1 h2 h3
   rw [call_eta cl h1 h2 h3] at ho
   exact aLen_sim ho h
  ·rename_i y z t tx h1 h2 h3
   rw [call_eta cl h1 h2 h3] at ho
   exact aApp_sim ho h
  ·rename_i y z t tx h1 h2 h3
   rw [call_eta cl h1 h2 h3] at ho
   exact aCopy_sim ho h
  ·exact aPlain_sim h
 ·exact aPlain_sim h
structure Ok (P : Program) (f : FuncId) (args : List AVal) (H : List (Option (List CVal))) (r : AVal) (H' : List (Option (List CVal))) : Prop where
 fn : ∃ fn, P.funcs[f]? = some fn ∧ fn.body.isSome = true ∧ (fn.name == "runtime.NumGoroutine") = false
 flat : r.dem = r
 rok : r.ok H'.length = true
 len : H.length ≤ H'.length
 run : ∀ (w : World) (κ : Nat → BK) (ρ : Nat → Nat) (vals : Array Value), vals.size = args.length → (∀ i (h : i < args.length) (h' : i < vals.size) l, RepA w κ ρ l args[i] vals[i]) → (∀ x ∈ args, x.ok H.length = true) → RelH H w κ ρ →
  Calls P f vals w fun e w' => ∃ v κ' ρ', e = .returned v ∧ (∀ l, RepA w' κ' ρ' l r v) ∧ RelH H' w' κ' ρ' ∧ Fr w κ w' κ' ∧ ∀ b, b < H.length → ρ' b = ρ b
structure OkE (P : Program) (f : FuncId) (args : List AVal) (H : List (Option (List CVal))) (Q : AVal → List (Option (List CVal)) → Prop) : Prop where
 fn : ∃ fn, P.funcs[f]? = some fn ∧ fn.body.isSome = true ∧ (fn.name == "runtime.NumGoroutine") = false
 res : ∀ r H', Q r H' → r.dem = r ∧ r.ok H'.length = true ∧ H.length ≤ H'.length
 run : ∀ (w : World) (κ : Nat → BK) (ρ : Nat → Nat) (vals : Array Value), vals.size = args.length → (∀ i (h : i < args.length) (h' : i < vals.size) l, RepA w κ ρ l args[i] vals[i]) → (∀ x ∈ args, x.ok H.length = true) → RelH H w κ ρ →
  Calls P f vals w fun e w' => ∃ r H', Q r H' ∧ ∃ v κ' ρ', e = .returned v ∧ (∀ l, RepA w' κ' ρ' l r v) ∧ RelH H' w' κ' ρ' ∧ Fr w κ w' κ' ∧ ∀ b, b < H.length → ρ' b = ρ b
theorem Ok.e {P : Program} {f : FuncId} {args : List AVal} {H H' : List (Option (List CVal))} {r : AVal} (h : Ok P f args H r H') : OkE P f args H fun a b => a = r ∧ b = H' :=
 ⟨h.fn, fun _ _ e => by obtain ⟨rfl, rfl⟩ := e; exact ⟨h.flat, h.rok, h.len⟩, fun w κ ρ vals h1 h2 h3 h4 => (h.run w κ ρ vals h1 h2 h3 h4).mono fun e w' k => ⟨_, _, ⟨rfl, rfl⟩, k⟩⟩
def lockAll (κ : Nat → BK) (g : Nat) : BK :=
 match κ g with
 | .lock n => .lock n
 | .tip n _ => .lock (some n)
 | .wr _ => .lock (some 0)
theorem lockAll_fits (κ : Nat → BK) (g n : Nat) : (lockAll κ g).fits n ↔ (κ g).fits n := by
 unfold lockAll
 cases κ g <;> simp [BK.fits]
theorem lockAll_lock (κ : Nat → BK) (g : Nat) : ∃ n, lockAll κ g = .lock n := by
 unfold lockAll
 cases κ g <;> exact ⟨_, rfl⟩
theorem grow_fits {w : World} {κ κ' : Nat → BK} (h : ∀ g n, (κ g).fits n → (κ' g).fits n) : Grow w κ w κ' := ⟨Nat.le_refl _, fun _ _ _ _ _ hx => hx, fun g n _ hf => h g n hf⟩
theorem flat_no_tip {x : AVal} (hx : x.dem = x) (sz : Nat) (cs : List FVal) (len : Nat) : x ≠ .c (.tip sz cs len) := by
 intro e
 rw [e] at hx
 simp [AVal.dem, CVal.dem] at hx
theorem call_pure {P : Program} {f : FuncId} {args : List AVal} {r : AVal} {s : St} {a : Act} {w : World} {κ : Nat → BK} {ρ : Nat → Nat} {xs : List Operand} (hO : Ok P f args [] r []) (hargs : args = xs.map fun x => (s.ev x).h) (hok : args.all (AVal.ok 0) = true) (hR : Rel s a w κ ρ) :
  Calls P f (xs.map a.eval).toArray w fun e w' => ∃ v κ' , e = .returned v ∧ Rel s a w' κ' ρ ∧ (∀ l, RepA w' κ' ρ l r v) ∧ r.ok s.H.length = true ∧ Fr w κ w' κ' := by
 subst hargs
 refine (hO.run w (lockAll κ) ρ _ (by simp) (fun i hi hi' l => ?_) (List.all_eq_true.1 hok) ⟨fun b cs h => by simp at h, fun b cs h => by simp at h⟩).mono ?_
 ·simp only [List.getElem_map, List.getElem_toArray]
  simp only [List.length_map] at hi
  refine RepA.keep (n := 0) (grow_fits fun g n h => (lockAll_fits κ g n).2 h) (fun b hb => by omega) (List.all_eq_true.1 hok _ (by rw [← List.getElem_map (fun x => (s.ev x).h) (l := xs) (i := i) (h := by simpa using hi)]; exact List.getElem_mem _)) (fun sz cs len e => ?_) (hR.ev (l := l) (xs[i])).nz
  exact absurd e (flat_no_tip (AVal.h_dem _) sz cs len)
 ·rintro e w' ⟨v, κ', ρ', rfl, hr, hH, hfr, _⟩
  have hsame : ∀ g, g < w.heap.size → κ' g = lockAll κ g ∧ w'.heap[g]? = w.heap[g]? := fun g hg => by
   obtain ⟨n, hn⟩ := lockAll_lock κ g
   obtain ⟨h1, h2⟩ := hfr.lock g n hg hn
   exact ⟨h1.trans hn.symm, h2⟩
  have hrok : r.ok s.H.length = true := AVal.ok_le (Nat.zero_le _) r hO.rok
  have m : Mv (fun _ => False) s.H.length w κ ρ w' (fun g => if g < w.heap.size then κ g else κ' g) ρ :=
   ⟨hfr.os, hfr.tape, hfr.output, hfr.size, fun _ _ => rfl, fun g hg _ => ⟨(hsame g hg).2, if_pos hg⟩, fun _ _ _ _ h => h.elim, fun _ _ _ h => h.elim, fun _ _ h => h.elim⟩
  refine ⟨v, fun g => if g < w.heap.size then κ g else κ' g, rfl, hR.mv m (fun _ h => h), fun l => ?_, hrok, m.fr⟩
  refine RepA.keep (n := 0) (grow_fits fun g n h => ?_) (fun b hb => by omega) hO.rok (fun sz cs len e => absurd e (flat_no_tip hO.flat sz cs len)) (hr l)
  by_cases hg : g < w.heap.size
  ·simp only [hg, if_true]
   rw [(hsame g hg).1] at h
   exact (lockAll_fits κ g n).1 h
  ·simp only [hg, if_false]; exact h
def CVal.ren (σ : Nat → Nat) : CVal → CVal
 | .ptr b off => .ptr (σ b) off
 | .arr b off len cap => .arr (σ b) off len cap
 | x => x
def TVal.ren (σ : Nat → Nat) : TVal → TVal
 | .c x => .c (x.ren σ)
 | .agg cs => .agg (cs.map (CVal.ren σ))
def AVal.ren (σ : Nat → Nat) : AVal → AVal
 | .c x => .c (x.ren σ)
 | .agg cs => .agg (cs.map (CVal.ren σ))
 | .tup ts => .tup (ts.map (TVal.ren σ))
def sig (n : Nat) (bs : List Nat) (i : Nat) : Nat := bs.getD i (n + (i - bs.length))
def putBack (H : List (Option (List CVal))) : List Nat → List (Option (List CVal)) → List (Option (List CVal))
 | [], cs => H ++ cs
 | b :: bs, c :: cs => putBack (H.set b c) bs cs
 | _ :: _, [] => H
def CVal.lend (H : List (Option (List CVal))) (L : List Nat) : CVal → CVal
 | .arr b off len cap => if b ∈ L ∧ len ≤ cap then
   match H[b]? with
   | some (some cells) => match fzs (cells.drop off) with
    | some fs => .f (.row fs len)
    | none => .arr b off len cap
   | _ => .arr b off len cap
  else .arr b off len cap
 | x => x
def TVal.lend (H : List (Option (List CVal))) (L : List Nat) : TVal → TVal
 | .c x => .c (x.lend H L)
 | .agg cs => .agg (cs.map (CVal.lend H L))
def AVal.lend (H : List (Option (List CVal))) (L : List Nat) : AVal → AVal
 | .c x => .c (x.lend H L)
 | .agg cs => .agg (cs.map (CVal.lend H L))
 | .tup ts => .tup (ts.map (TVal.lend H L))
def CVal.bare : CVal → Bool
 | .f (.row ..) => false
 | .ip .. => false
 | .tip .. => false
 | _ => true
def TVal.bare : TVal → Bool
 | .c x => x.bare
 | .agg cs => cs.all CVal.bare
def AVal.bare : AVal → Bool
 | .c x => x.bare
 | .agg cs => cs.all CVal.bare
 | .tup ts => ts.all TVal.bare
def bareB : Option (List CVal) → Bool
 | some cs => cs.all CVal.bare
 | none => true
theorem putBack_len : ∀ (bs : List Nat) (H Cs : List (Option (List CVal))), bs.length ≤ Cs.length → (putBack H bs Cs).length = H.length + (Cs.length - bs.length)
 | [], H, Cs, _ => by simp [putBack]
 | b :: bs, H, [], h => by simp at h
 | b :: bs, H, c :: cs, h => by
  have := putBack_len bs (H.set b c) cs (by simpa using h)
  simp only [putBack, this, List.length_set, List.length_cons]
  omega
theorem putBack_get : ∀ (bs : List Nat) (H Cs : List (Option (List CVal))), bs.Nodup → (∀ b ∈ bs, b < H.length) → bs.length ≤ Cs.length → ∀ (b : Nat) (x : Option (List CVal)), (putBack H bs Cs)[b]? = some x →
  (∃ i : Nat, bs[i]? = some b ∧ Cs[i]? = some x) ∨ (b ∉ bs ∧ H[b]? = some x) ∨ (H.length ≤ b ∧ Cs[bs.length + (b - H.length)]? = some x)
 | [], H, Cs, _, _, _, b, x, h => by
  simp only [putBack] at h
  rcases Nat.lt_or_ge b H.length with k | k
  ·rw [List.getElem?_append_left k] at h
   exact .inr (.inl ⟨by simp, h⟩)
  ·rw [List.getElem?_append_right k] at h
   exact .inr (.inr ⟨k, by simpa using h⟩)
 | c :: bs, H, [], _, _, hl, b, x, h => by simp at hl
 | c :: bs, H, y :: Cs, hn, hb, hl, b, x, h => by
  simp only [putBack] at h
  have hn' := List.nodup_cons.1 hn
  rcases putBack_get bs (H.set c y) Cs hn'.2 (fun b hb' => by simpa using hb b (List.mem_cons_of_mem _ hb')) (by simpa using hl) b x h with ⟨i, h1, h2⟩ | ⟨h1, h2⟩ | ⟨h1, h2⟩
  ·exact .inl ⟨i + 1, by simpa using h1, by simpa using h2⟩
  ·by_cases e : c = b
   ·subst e
    rw [List.getElem?_set_self (hb c (by simp))] at h2
    exact .inl ⟨0, by simp, by simpa using h2⟩
   ·rw [List.getElem?_set_ne e] at h2
    exact .inr (.inl ⟨by simp [h1]; exact fun h => e h.symm, h2⟩)
  ·rw [List.length_set] at h1 h2
   refine .inr (.inr ⟨h1, ?_⟩)
   rw [show (c :: bs).length + (b - H.length) = (bs.length + (b - H.length)) + 1 by simp; omega, List.getElem?_cons_succ]
   exact h2
def BK.cl (bs L : List Nat) : BK → BK
 | .lock n => .lock n
 | .wr b => if b ∈ bs then .wr (bs.idxOf b) else if b ∈ L then .lock none else .lock (some 0)
 | .tip n (.cell b j) => if b ∈ bs then .tip n (.cell (bs.idxOf b) j) else .lock (some n)
 | .tip n (.slot _) => .lock (some n)
def BK.isLock : BK → Bool
 | .lock _ => true
 | _ => false
def BK.bk (σ : Nat → Nat) : BK → BK
 | .wr i => .wr (σ i)
 | .tip n (.cell i j) => .tip n (.cell (σ i) j)
 | .tip n (.slot _) => .lock (some n)
 | .lock n => .lock n
theorem BK.cl_fits {bs L : List Nat} {k : BK} {n : Nat} (h : k.fits n) : (k.cl bs L).fits n := by
 cases k with
 | lock m => exact h
 | wr b =>
  have hn : n = 0 := by simpa [BK.fits] using h
  subst hn
  unfold BK.cl
  dsimp only
  split
  ·simp [BK.fits]
  ·split <;> simp [BK.fits]
 | tip m l =>
  cases l with
  | slot i => exact h
  | cell b j =>
   unfold BK.cl
   dsimp only
   split <;> exact h
theorem BK.fits_cl {bs : List Nat} {k : BK} {n : Nat} (h : (k.cl bs []).fits n) : k.fits n := by
 cases k with
 | lock m => exact h
 | wr b =>
  unfold BK.cl at h
  dsimp only at h
  split at h
  ·exact h
  ·simpa [BK.fits] using h
 | tip m l =>
  cases l with
  | slot i => exact h
  | cell b j =>
   unfold BK.cl at h
   dsimp only at h
   split at h <;> exact h
theorem BK.bk_fits {σ : Nat → Nat} {k : BK} {n : Nat} : (k.bk σ).fits n ↔ k.fits n := by
 cases k with
 | lock m => exact Iff.rfl
 | wr b => exact Iff.rfl
 | tip m l => cases l <;> exact Iff.rfl
section
variable {w w' : World} {κ κ' : Nat → BK} {ρ ρ' : Nat → Nat} {σ : Nat → Nat}
theorem RepC.bare {n : Nat} {l l' : Loc} (hρ : ∀ b, b < n → ρ' (σ b) = ρ b) : ∀ {x : CVal} {v : Value}, x.bare = true → x.ok n = true → RepC w κ ρ l x v → RepC w' κ' ρ' l' (x.ren σ) v
 | .f (.v x), v, _, _, h => repF_v.2 (repF_v.1 h)
 | .f .nils, v, _, _, h => repF_nils.2 (repF_nils.1 h)
 | .f (.row ..), _, hb, _, _ => by cases hb
 | .ip .., _, hb, _, _ => by cases hb
 | .ptr b off, v, _, hn, h => by
  show v = .pointer (some ⟨ρ' (σ b), off, none⟩)
  rw [hρ b (by simpa [CVal.ok] using hn)]; exact h
 | .arr b off len cap, v, _, hn, h => by
  show v = .slice (some ⟨ρ' (σ b), off, none⟩) len cap
  rw [hρ b (by simpa [CVal.ok] using hn)]; exact h
 | .tip .., _, hb, _, _ => by cases hb
 | .und, _, _, _, h => h
 | .any, _, _, _, _ => trivial
theorem RepC.ren {n : Nat} {l l' : Loc} (G : Grow w κ w' κ') (hρ : ∀ b, b < n → ρ' (σ b) = ρ b) : ∀ {x : CVal} {v : Value}, x.ok n = true → (∀ sz cs len, x = .tip sz cs len → Keep w κ w' κ' l l') → RepC w κ ρ l x v → RepC w' κ' ρ' l' (x.ren σ) v
 | .f x, v, _, _, h => RepF.grow G h
 | .ip cs off, v, _, _, h => by obtain ⟨g, o, rfl, hr⟩ := h; exact ⟨g, o, rfl, hr.grow G⟩
 | .ptr b off, v, hn, _, h => by
  show v = .pointer (some ⟨ρ' (σ b), off, none⟩)
  rw [hρ b (by simpa [CVal.ok] using hn)]; exact h
 | .arr b off len cap, v, hn, _, h => by
  show v = .slice (some ⟨ρ' (σ b), off, none⟩) len cap
  rw [hρ b (by simpa [CVal.ok] using hn)]; exact h
 | .tip sz cs len, v, _, ht, h => by
  obtain ⟨g, cap, rfl, hT⟩ | h := h
  rotate_left
  ·exact .inr h
  left
  obtain ⟨h1, h2⟩ := (ht _ _ _ rfl).tip g _ hT.lt hT.own
  exact ⟨g, cap, rfl, hT.row.grow G, Nat.lt_of_lt_of_le hT.lt G.size, hT.cut, h1, hT.le, by rw [h2]; exact hT.blk⟩
 | .und, _, _, _, h => h
 | .any, _, _, _, _ => trivial
theorem CVal.ren_flat (x : CVal) : (x.ren σ).flat = x.flat := by cases x <;> rfl
theorem RepC.unren {n : Nat} {l l' : Loc} (G : Grow w κ w' κ') (hρ : ∀ b, b < n → ρ' b = ρ (σ b)) : ∀ {x : CVal} {v : Value}, x.ok n = true → (∀ sz cs len, x = .tip sz cs len → Keep w κ w' κ' l l') → RepC w κ ρ l (x.ren σ) v → RepC w' κ' ρ' l' x v
 | .f x, v, _, _, h => RepF.grow G h
 | .ip cs off, v, _, _, h => by obtain ⟨g, o, rfl, hr⟩ := h; exact ⟨g, o, rfl, hr.grow G⟩
 | .ptr b off, v, hn, _, h => by
  show v = .pointer (some ⟨ρ' b, off, none⟩)
  rw [hρ b (by simpa [CVal.ok] using hn)]; exact h
 | .arr b off len cap, v, hn, _, h => by
  show v = .slice (some ⟨ρ' b, off, none⟩) len cap
  rw [hρ b (by simpa [CVal.ok] using hn)]; exact h
 | .tip sz cs len, v, _, ht, h => by
  obtain ⟨g, cap, rfl, hT⟩ | h := h
  rotate_left
  ·exact .inr h
  left
  obtain ⟨h1, h2⟩ := (ht _ _ _ rfl).tip g _ hT.lt hT.own
  exact ⟨g, cap, rfl, hT.row.grow G, Nat.lt_of_lt_of_le hT.lt G.size, hT.cut, h1, hT.le, by rw [h2]; exact hT.blk⟩
 | .und, _, _, _, h => h
 | .any, _, _, _, _ => trivial
theorem RepT.unren {n : Nat} {l l' : Loc} (G : Grow w κ w' κ') (hρ : ∀ b, b < n → ρ' b = ρ (σ b)) : ∀ {x : TVal} {v : Value}, x.ok n = true → RepT w κ ρ l (x.ren σ) v → RepT w' κ' ρ' l' x v
 | .c x, v, hn, h => by
  have hf : x.flat = true := by rw [← CVal.ren_flat (σ := σ)]; exact h.1
  exact ⟨hf, RepC.unren G hρ hn (fun _ _ _ e => by rw [e] at hf; cases hf) h.2⟩
 | .agg cs, v, hn, h => by
  obtain ⟨vs, rfl, hs, hi⟩ := h
  refine ⟨vs, rfl, by simpa using hs, fun i h h' => ?_⟩
  have h1 := hi i (by simpa using h) h'
  simp only [List.getElem_map] at h1
  rw [CVal.ren_flat] at h1
  exact ⟨h1.1, RepC.unren G hρ (List.all_eq_true.1 hn _ (List.getElem_mem h)) (fun _ _ _ e => by have := h1.1; rw [e] at this; cases this) h1.2⟩
theorem RepA.unren {n : Nat} {l l' : Loc} (G : Grow w κ w' κ') (hρ : ∀ b, b < n → ρ' b = ρ (σ b)) {x : AVal} {v : Value} (hn : x.ok n = true) (hx : x.dem = x) (h : RepA w κ ρ l (x.ren σ) v) : RepA w' κ' ρ' l' x v := by
 cases x with
 | c x => exact RepC.unren G hρ hn (fun sz cs len e => absurd (by rw [e]) (flat_no_tip hx sz cs len)) h
 | agg cs => exact RepT.unren (x := .agg cs) G hρ hn h
 | tup ts =>
  obtain ⟨vs, rfl, hs, hi⟩ := h
  refine ⟨vs, rfl, by simpa using hs, fun i h h' => ?_⟩
  have h1 := hi i (by simpa using h) h'
  simp only [List.getElem_map] at h1
  exact RepT.unren G hρ (List.all_eq_true.1 hn _ (List.getElem_mem h)) h1
theorem RepC.back {n : Nat} {l l' : Loc} (hρ : ∀ b, b < n → ρ' (σ b) = ρ b) {x : CVal} {v : Value} (hf : x.flat = true) (hx : x.ok n = true) (hc : Grow w κ w' κ' ∨ x.bare = true) (h : RepC w κ ρ l x v) : RepC w' κ' ρ' l' (x.ren σ) v := by
 rcases hc with G | hb
 ·exact RepC.ren G hρ hx (fun _ _ _ e => by rw [e] at hf; cases hf) h
 ·exact RepC.bare hρ hb hx h
theorem RepT.back {n : Nat} {l l' : Loc} (hρ : ∀ b, b < n → ρ' (σ b) = ρ b) {x : TVal} {v : Value} (hx : x.ok n = true) (hc : Grow w κ w' κ' ∨ x.bare = true) (h : RepT w κ ρ l x v) : RepT w' κ' ρ' l' (x.ren σ) v := by
 cases x with
 | c x => exact ⟨by rw [CVal.ren_flat]; exact h.1, RepC.back hρ h.1 hx hc h.2⟩
 | agg cs =>
  obtain ⟨vs, rfl, hs, hi⟩ := h
  refine ⟨vs, rfl, by simpa using hs, fun i h h' => ?_⟩
  have hi2 : i < cs.length := by simpa using h
  simp only [List.getElem_map]
  rw [CVal.ren_flat]
  exact ⟨(hi i hi2 h').1, RepC.back hρ (hi i hi2 h').1 (List.all_eq_true.1 hx _ (List.getElem_mem hi2)) (hc.imp id fun hb => List.all_eq_true.1 hb _ (List.getElem_mem hi2)) (hi i hi2 h').2⟩
theorem RepA.back {n : Nat} {l l' : Loc} (hρ : ∀ b, b < n → ρ' (σ b) = ρ b) {x : AVal} {v : Value} (hd : x.dem = x) (hx : x.ok n = true) (hc : Grow w κ w' κ' ∨ x.bare = true) (h : RepA w κ ρ l x v) : RepA w' κ' ρ' l' (x.ren σ) v := by
 cases x with
 | c x =>
  refine RepC.back hρ ?_ hx hc h
  cases x <;> first | rfl | (simp [AVal.dem, CVal.dem] at hd)
 | agg cs => exact RepT.back (x := .agg cs) hρ hx hc h
 | tup ts =>
  obtain ⟨vs, rfl, hs, hi⟩ := h
  refine ⟨vs, rfl, by simpa using hs, fun i h h' => ?_⟩
  have hi2 : i < ts.length := by simpa using h
  simp only [List.getElem_map]
  exact RepT.back hρ (List.all_eq_true.1 hx _ (List.getElem_mem hi2)) (hc.imp id fun hb => List.all_eq_true.1 hb _ (List.getElem_mem hi2)) (hi i hi2 h')
theorem CVal.ren_ok {n m : Nat} (hσ : ∀ b, b < n → σ b < m) {x : CVal} (h : x.ok n = true) : (x.ren σ).ok m = true := by
 cases x <;> simp [CVal.ren, CVal.ok] at * <;> exact hσ _ h
theorem TVal.ren_ok {n m : Nat} (hσ : ∀ b, b < n → σ b < m) {x : TVal} (h : x.ok n = true) : (x.ren σ).ok m = true := by
 cases x with
 | c x => exact CVal.ren_ok hσ h
 | agg cs =>
  simp only [TVal.ren, TVal.ok, List.all_eq_true] at *
  intro y hy
  obtain ⟨z, hz, rfl⟩ := List.mem_map.1 hy
  exact CVal.ren_ok hσ (h z hz)
theorem AVal.ren_ok {n m : Nat} (hσ : ∀ b, b < n → σ b < m) {x : AVal} (h : x.ok n = true) : (x.ren σ).ok m = true := by
 cases x with
 | c x => exact CVal.ren_ok hσ h
 | agg cs =>
  simp only [AVal.ren, AVal.ok, List.all_eq_true] at *
  intro y hy
  obtain ⟨z, hz, rfl⟩ := List.mem_map.1 hy
  exact CVal.ren_ok hσ (h z hz)
 | tup ts =>
  simp only [AVal.ren, AVal.ok, List.all_eq_true] at *
  intro y hy
  obtain ⟨z, hz, rfl⟩ := List.mem_map.1 hy
  exact TVal.ren_ok hσ (h z hz)
end
def okB (n : Nat) : Option (List CVal) → Bool
 | some cs => cs.all (CVal.ok n)
 | none => true
theorem okB_mem {n i : Nat} {H : List (Option (List CVal))} {cs : List CVal} {x : CVal} (h : H.all (okB n) = true) (hi : H[i]? = some (some cs)) (hx : x ∈ cs) : x.ok n = true :=
 List.all_eq_true.1 (show cs.all (CVal.ok n) = true from List.all_eq_true.1 h _ (List.mem_of_getElem? hi)) x hx
section
variable {w w' : World} {κ κ' : Nat → BK} {ρ ρ' : Nat → Nat}
theorem RepC.lend {s : St} {a : Act} {bs L : List Nat} (hR : Rel s a w κ ρ) (hdis : ∀ b ∈ L, b ∉ bs) {l : Loc} {x : CVal} {v : Value} (hx : x.flat = true) (h : RepC w κ ρ l x v) : RepC w (fun g => (κ g).cl bs L) ρ l (x.lend s.H L) v := by
 have G : Grow w κ w (fun g => (κ g).cl bs L) := grow_fits fun g n hf => BK.cl_fits hf
 have keep : x.ok s.H.length = true → RepC w (fun g => (κ g).cl bs L) ρ l x v := fun hok => RepC.keep (n := s.H.length) G (fun _ _ => rfl) hok (fun _ _ _ e => by rw [e] at hx; cases hx) h
 cases x with
 | arr b off len cap =>
  have keep2 : RepC w (fun g => (κ g).cl bs L) ρ l (.arr b off len cap) v := h
  unfold CVal.lend
  dsimp only
  split
  ·rename_i hc
   split
   ·rename_i cells hb
    split
    ·rename_i fs hfs
     have hB := hR.heap.blk b cells hb
     obtain ⟨f1, f2⟩ := fzs_rep _ fs hfs
     have hv : v = .slice (some ⟨ρ b, off, none⟩) len cap := h
     rw [hv]
     refine repF_rowI ⟨ρ b, off, cap, rfl, hc.2, ⟨fun i hi => ?_, fun hne => ⟨?_, ?_⟩⟩⟩
     ·have hi2 : off + i < cells.length := by rw [f1, List.length_drop] at hi; omega
      obtain ⟨u, hu1, hu2⟩ := hB.cell (off + i) hi2
      refine ⟨u, hu1, ?_⟩
      have := f2 i (by rw [← f1]; exact hi) hi
      rw [List.getElem_drop] at this
      exact (CVal.fz_rep hu2 this).grow G
     ·obtain ⟨c, e, h1, _⟩ := hB.lie
      exact lt_of_heap h1
     ·show ((κ (ρ b)).cl bs L).fits _
      rw [hB.own]
      simp only [BK.cl, hdis b hc.1, hc.1, if_true, if_false]
      trivial
    ·exact keep2
   ·exact keep2
  ·exact keep2
 | f y => exact RepF.grow G h
 | ip cs off => obtain ⟨g, o, rfl, hr⟩ := h; exact ⟨g, o, rfl, hr.grow G⟩
 | ptr b off => exact h
 | tip sz cs len => cases hx
 | und => exact h
 | any => trivial
theorem CVal.lend_flat {H : List (Option (List CVal))} {L : List Nat} {x : CVal} (h : x.flat = true) : (x.lend H L).flat = true := by
 cases x with
 | arr b off len cap =>
  unfold CVal.lend
  dsimp only
  split
  ·split
   ·split <;> rfl
   ·rfl
  ·rfl
 | _ => exact h
theorem RepT.lend {s : St} {a : Act} {bs L : List Nat} (hR : Rel s a w κ ρ) (hdis : ∀ b ∈ L, b ∉ bs) {l : Loc} {x : TVal} {v : Value} (h : RepT w κ ρ l x v) : RepT w (fun g => (κ g).cl bs L) ρ l (x.lend s.H L) v := by
 cases x with
 | c x => exact ⟨CVal.lend_flat h.1, RepC.lend hR hdis h.1 h.2⟩
 | agg cs =>
  obtain ⟨vs, rfl, hs, hi⟩ := h
  refine ⟨vs, rfl, by simpa using hs, fun i h h' => ?_⟩
  have hi2 : i < cs.length := by simpa using h
  simp only [List.getElem_map]
  exact ⟨CVal.lend_flat (hi i hi2 h').1, RepC.lend hR hdis (hi i hi2 h').1 (hi i hi2 h').2⟩
theorem RepA.lend {s : St} {a : Act} {bs L : List Nat} (hR : Rel s a w κ ρ) (hdis : ∀ b ∈ L, b ∉ bs) {l : Loc} {x : AVal} {v : Value} (hd : x.dem = x) (h : RepA w κ ρ l x v) : RepA w (fun g => (κ g).cl bs L) ρ l (x.lend s.H L) v := by
 cases x with
 | c x =>
  refine RepC.lend hR hdis ?_ h
  cases x <;> first | rfl | (simp [AVal.dem, CVal.dem] at hd)
 | agg cs => exact RepT.lend (x := .agg cs) hR hdis h
 | tup ts =>
  obtain ⟨vs, rfl, hs, hi⟩ := h
  refine ⟨vs, rfl, by simpa using hs, fun i h h' => ?_⟩
  have hi2 : i < ts.length := by simpa using h
  simp only [List.getElem_map]
  exact RepT.lend hR hdis (hi i hi2 h')
theorem AVal.lend_dem {H : List (Option (List CVal))} {L : List Nat} {x : AVal} (h : x.dem = x) : (x.lend H L).dem = x.lend H L := by
 cases x with
 | c x =>
  have hx : x.flat = true := by cases x <;> first | rfl | (simp [AVal.dem, CVal.dem] at h)
  show AVal.c (CVal.dem _) = _
  rw [CVal.flat_dem (CVal.lend_flat hx)]; rfl
 | agg cs => rfl
 | tup ts => rfl
theorem AVal.ren_dem_inv {σ : Nat → Nat} {x : AVal} (h : (x.ren σ).dem = x.ren σ) : x.dem = x := by
 cases x with
 | c x => cases x <;> first | rfl | (simp [AVal.ren, CVal.ren, AVal.dem, CVal.dem] at h)
 | agg cs => rfl
 | tup ts => rfl
def renB (σ : Nat → Nat) : Option (List CVal) → Option (List CVal)
 | some cs => some (cs.map (CVal.ren σ))
 | none => none
theorem call_frameE {P : Program} {f : FuncId} {args' : List AVal} {Hs : List (Option (List CVal))} {Q : AVal → List (Option (List CVal)) → Prop} {s : St} {a : Act} {xs : List Operand} {bs L : List Nat} (hO : OkE P f args' Hs Q)
  (hnd : bs.Nodup) (hlt : ∀ b ∈ bs, b < s.H.length) (hHs : Hs.map (renB (sig s.H.length bs)) = bs.map fun b => s.H.getD b none) (hok : ∀ x ∈ args', x.ok Hs.length = true) (hHok : Hs.all (okB Hs.length) = true)
  (hargs : args'.map (AVal.ren (sig s.H.length bs)) = xs.map fun x => ((s.ev x).h).lend s.H L) (hdis : ∀ b ∈ L, b ∉ bs) (hQ : ∀ r Hs', Q r Hs' → Hs'.all (okB Hs'.length) = true ∧ (L = [] ∨ (r.bare = true ∧ Hs'.all bareB = true))) (hR : Rel s a w κ ρ) :
  Calls P f (xs.map a.eval).toArray w fun e w' => ∃ r Hs', Q r Hs' ∧ ∃ v κ' ρ', e = .returned v ∧ Rel { s with H := putBack s.H bs (Hs'.map (renB (sig s.H.length bs))) } a w' κ' ρ' ∧ (∀ l, RepA w' κ' ρ' l (r.ren (sig s.H.length bs)) v) ∧ (r.ren (sig s.H.length bs)).ok (putBack s.H bs (Hs'.map (renB (sig s.H.length bs)))).length = true ∧ Fr w κ w' κ' ∧ ∀ b, b < s.H.length → ρ' b = ρ b := by
 generalize hn : s.H.length = n at *
 have hHl : Hs.length = bs.length := by simpa using congrArg List.length hHs
 have hsigb : ∀ i (h : i < bs.length), sig n bs i = bs[i] := fun i h => by simp [sig, h]
 have hxl : args'.length = xs.length := by simpa using congrArg List.length hargs
 -- the callee's world
 refine (hO.run w (fun g => (κ g).cl bs L) (fun i => ρ (sig n bs i)) (xs.map a.eval).toArray (by simpa using hxl.symm) (fun i hi hi' l => ?_) hok ⟨fun i cs hi => ?_, fun i cs hi => ?_⟩).mono ?_
 ·have hix : i < xs.length := by omega
  have e1 : (args'[i]).ren (sig n bs) = ((s.ev xs[i]).h).lend s.H L := by
   have : (args'.map (AVal.ren (sig n bs)))[i]'(by simpa using hi) = (xs.map fun x => ((s.ev x).h).lend s.H L)[i]'(by simpa using hix) := by simp only [hargs]
   simpa using this
  have h1 := RepA.lend (bs := bs) (L := L) hR hdis (AVal.h_dem _) (hR.ev (l := l) xs[i]).nz
  rw [← e1] at h1
  simp only [List.getElem_map, List.getElem_toArray]
  refine RepA.unren (σ := sig n bs) (ρ := ρ) (Grow.refl _ _) (n := Hs.length) (fun b _ => rfl) (hok _ (List.getElem_mem hi)) ?_ h1
  refine AVal.ren_dem_inv (σ := sig n bs) ?_
  rw [e1]
  exact AVal.lend_dem (AVal.h_dem _)
 · -- the blocks that it is handed
  obtain ⟨hi1, hi2⟩ := List.getElem?_eq_some_iff.1 hi
  have hib : i < bs.length := by omega
  have hb : s.H[bs[i]]? = some (some (cs.map (CVal.ren (sig n bs)))) := by
   have : (Hs.map (renB (sig n bs)))[i]'(by simpa using hi1) = (bs.map fun b => s.H.getD b none)[i]'(by simpa using hib) := by simp only [hHs]
   simp only [List.getElem_map, hi2, renB] at this
   have hl := hlt _ (List.getElem_mem hib)
   rw [← hn] at hl
   rw [List.getD_eq_getElem?_getD, List.getElem?_eq_getElem hl] at this
   rw [List.getElem?_eq_getElem hl]
   simpa using this.symm
  obtain ⟨ho, c, e, h1, h2, h3⟩ := hR.heap.blk _ _ hb
  have hmem : bs[i] ∈ bs := List.getElem_mem hib
  have hidx : bs.idxOf bs[i] = i := hnd.idxOf_getElem i hib
  refine ⟨?_, c, e, ?_, by simpa using h2, fun j hj hj' => ?_⟩
  ·show (κ (ρ (sig n bs i))).cl bs L = .wr i
   rw [hsigb i hib, ho]
   simp [BK.cl, hmem, hidx]
  ·show w.heap[ρ (sig n bs i)]? = _
   rw [hsigb i hib]; exact h1
  ·have h4 := h3 j (by simpa using hj) hj'
   simp only [List.getElem_map] at h4
   refine RepC.unren (σ := sig n bs) (ρ := ρ) (n := Hs.length) (grow_fits fun g m hf => BK.cl_fits hf) (fun b _ => rfl) (okB_mem hHok hi (List.getElem_mem hj)) (fun _ _ _ _ => ⟨grow_fits fun g m hf => BK.cl_fits hf, fun g m hg hk => ⟨?_, rfl⟩⟩) h4
   show (κ g).cl bs L = _
   rw [hk]
   simp [BK.cl, hmem, hidx]
 ·obtain ⟨hi1, hi2⟩ := List.getElem?_eq_some_iff.1 hi
  intro x hx
  exact okB_mem hHok hi hx
 rintro e w' ⟨r, Hs', hq, v, κ', ρ', rfl, hr, hH, hfr, hρ⟩
 obtain ⟨hflat, hrok, hlen⟩ := hO.res _ _ hq
 obtain ⟨hHok', hbare⟩ := hQ _ _ hq
 -- the caller's marks come back
 let κ2 : Nat → BK := fun g => if g < w.heap.size ∧ ((κ g).cl bs L).isLock = true then κ g else (κ' g).bk (sig n bs)
 let ρ2 : Nat → Nat := fun b => if b < n then ρ b else ρ' (bs.length + (b - n))
 have hmask : ∀ g, g < w.heap.size → ((κ g).cl bs L).isLock = true → κ2 g = κ g ∧ κ' g = (κ g).cl bs L ∧ w'.heap[g]? = w.heap[g]? := fun g hg hm => by
  refine ⟨if_pos ⟨hg, hm⟩, ?_⟩
  cases hk : (κ g).cl bs L with
  | lock m => exact hfr.lock g m hg hk
  | wr b => rw [hk] at hm; cases hm
  | tip m l => rw [hk] at hm; cases hm
 have hopen : ∀ g, (∀ m, κ' g ≠ .lock m) → κ2 g = (κ' g).bk (sig n bs) := fun g hno => by
  refine if_neg fun ⟨hg, hm⟩ => ?_
  obtain ⟨_, h1, _⟩ := hmask g hg hm
  cases hk : (κ g).cl bs L with
  | lock m => exact hno m (h1.trans hk)
  | wr b => rw [hk] at hm; cases hm
  | tip m l => rw [hk] at hm; cases hm
 have hgr : Grow w κ w' κ2 := by
  refine ⟨hfr.size, fun g o x hg hf hx => hfr.grow.cell g o x hg (BK.cl_fits hf) hx, fun g m hg hf => ?_⟩
  by_cases hm : ((κ g).cl bs L).isLock = true
  ·rw [(hmask g hg hm).1]; exact hf
  ·show (if g < w.heap.size ∧ ((κ g).cl bs L).isLock = true then κ g else (κ' g).bk (sig n bs)).fits m
   rw [if_neg (fun h => hm h.2)]
   exact BK.bk_fits.2 (hfr.grow.fits g m hg (BK.cl_fits hf))
 have hgr2 : L = [] → Grow w' κ' w' κ2 := fun hL => grow_fits fun g m hf => by
  by_cases hm : g < w.heap.size ∧ ((κ g).cl bs L).isLock = true
  ·obtain ⟨h1, h2, _⟩ := hmask g hm.1 hm.2
   rw [h1]
   rw [h2, hL] at hf
   exact BK.fits_cl hf
  ·show (if g < w.heap.size ∧ ((κ g).cl bs L).isLock = true then κ g else (κ' g).bk (sig n bs)).fits m
   rw [if_neg hm]
   exact BK.bk_fits.2 hf
 have hHl' : bs.length ≤ Hs'.length := by omega
 have hpl : (putBack s.H bs (Hs'.map (renB (sig n bs)))).length = n + (Hs'.length - bs.length) := by
  rw [putBack_len _ _ _ (by simpa using hHl'), hn]; simp
 have hrho : ∀ b, b < Hs'.length → ρ2 (sig n bs b) = ρ' b := fun b hb => by
  by_cases h : b < bs.length
  ·rw [hsigb b h]
   have h1 := hlt _ (List.getElem_mem h)
   show (if bs[b] < n then ρ bs[b] else _) = _
   rw [if_pos h1, hρ b (by omega), hsigb b h]
  ·have e1 : sig n bs b = n + (b - bs.length) := by simp [sig, show ¬ b < bs.length from h]
   rw [e1]
   show (if n + (b - bs.length) < n then _ else ρ' (bs.length + (n + (b - bs.length) - n))) = _
   rw [if_neg (by omega)]
   congr 1; omega
 have hsig : ∀ b, b < Hs'.length → sig n bs b < n + (Hs'.length - bs.length) := fun b hb => by
  by_cases h : b < bs.length
  ·rw [hsigb b h]
   have h1 := hlt _ (List.getElem_mem h)
   omega
  ·simp only [sig, List.getD_eq_getElem?_getD, List.getElem?_eq_none (Nat.le_of_not_lt h), Option.getD_none]; omega
 have hrk : (r.ren (sig n bs)).ok (putBack s.H bs (Hs'.map (renB (sig n bs)))).length = true := by
  rw [hpl]; exact AVal.ren_ok hsig hrok
 have hbr : Grow w' κ' w' κ2 ∨ r.bare = true := hbare.imp hgr2 (·.1)
 refine ⟨r, Hs', hq, v, κ2, ρ2, rfl, ⟨hR.defers, fun i hi' => ?_, hR.out, fun i => ?_, ⟨fun b cs hb => ?_, fun b cs hb x hx => ?_⟩⟩, fun l => RepA.back hrho hflat hrok hbr (hr l), hrk, ⟨hfr.os, hfr.tape, hfr.output, hfr.size, fun g m hg hk => ?_, hgr⟩, fun b hb => if_pos hb⟩
 ·refine RepA.keep (n := n) hgr (fun b hb => if_pos hb) (hn ▸ hR.ok i) (fun _ _ _ _ => ⟨hgr, fun g m hg hk => ?_⟩) (hR.slot i hi')
  obtain ⟨h1, _, h3⟩ := hmask g hg (by rw [hk]; rfl)
  exact ⟨h1.trans hk, h3⟩
 ·show (s.sl i).ok (putBack s.H bs (Hs'.map (renB (sig n bs)))).length = true
  rw [hpl]
  exact AVal.ok_le (by omega) _ (hn ▸ hR.ok i)
 ·rcases putBack_get bs s.H _ hnd (fun b hb => hn ▸ hlt b hb) (by simpa using hHl') b _ hb with ⟨i, h1, h2⟩ | ⟨h1, h2⟩ | ⟨h1, h2⟩
  · -- a block that was handed over
   rw [List.getElem?_map] at h2
   obtain ⟨y, hy, hy2⟩ := Option.map_eq_some_iff.1 h2
   cases y with
   | none => cases hy2
   | some ds =>
    injection hy2 with hy2
    obtain ⟨hib, hbi⟩ := List.getElem?_eq_some_iff.1 h1
    obtain ⟨ho, c, e, k1, k2, k3⟩ := hH.blk i ds hy
    have hi' : i < Hs'.length := by omega
    have hrb : ρ2 b = ρ' i := by rw [← hbi, ← hsigb i hib]; exact hrho i hi'
    refine ⟨?_, c, e, by rw [hrb]; exact k1, by rw [← hy2]; simpa using k2, fun j hj hj' => ?_⟩
    ·rw [hrb, hopen _ (fun m => by rw [ho]; intro e; cases e), ho]
     simp [BK.bk, hsigb i hib, hbi]
    ·subst hy2
     have hj2 : j < ds.length := by simpa using hj
     simp only [List.getElem_map]
     have hok2 := okB_mem hHok' hy (List.getElem_mem hj2)
     rcases hbare with hL | hL
     ·refine RepC.ren (hgr2 hL) hrho hok2 (fun _ _ _ _ => ⟨hgr2 hL, fun g m hg hk => ⟨?_, rfl⟩⟩) (k3 j hj2 hj')
      rw [hopen g (fun m => by rw [hk]; intro e; cases e), hk]
      simp [BK.bk, hsigb i hib, hbi]
     ·exact RepC.bare hrho (List.all_eq_true.1 (show ds.all CVal.bare = true from List.all_eq_true.1 hL.2 _ (List.mem_of_getElem? hy)) _ (List.getElem_mem hj2)) hok2 (k3 j hj2 hj')
  · -- a block of the caller's own
   obtain ⟨ho, c, e, k1, k2, k3⟩ := hR.heap.blk b cs h2
   have hbn : b < n := by rw [← hn]; exact (List.getElem?_eq_some_iff.1 h2).1
   have hrb : ρ2 b = ρ b := if_pos hbn
   have hl1 := lt_of_heap k1
   obtain ⟨m1, _, m3⟩ := hmask (ρ b) hl1 (by rw [ho]; simp only [BK.cl, h1, if_false]; split <;> rfl)
   refine ⟨by rw [hrb, m1]; exact ho, c, e, by rw [hrb, m3]; exact k1, k2, fun j hj hj' => ?_⟩
   refine RepC.keep (n := n) hgr (fun b hb => if_pos hb) (hn ▸ hR.heap.ok b cs h2 _ (List.getElem_mem hj)) (fun _ _ _ _ => ⟨hgr, fun g m hg hk => ?_⟩) (k3 j hj hj')
   obtain ⟨q1, _, q3⟩ := hmask g hg (by rw [hk]; simp [BK.cl, h1, BK.isLock])
   exact ⟨q1.trans hk, q3⟩
  · -- a new block
   rw [List.getElem?_map] at h2
   obtain ⟨y, hy, hy2⟩ := Option.map_eq_some_iff.1 h2
   cases y with
   | none => cases hy2
   | some ds =>
    injection hy2 with hy2
    rw [hn] at h1 hy
    obtain ⟨ho, c, e, k1, k2, k3⟩ := hH.blk _ ds hy
    have hi' : bs.length + (b - n) < Hs'.length := (List.getElem?_eq_some_iff.1 hy).1
    have hsb : sig n bs (bs.length + (b - n)) = b := by
     simp only [sig, List.getD_eq_getElem?_getD, List.getElem?_eq_none (Nat.le_add_right _ _), Option.getD_none]; omega
    have hrb : ρ2 b = ρ' (bs.length + (b - n)) := if_neg (by omega)
    refine ⟨?_, c, e, by rw [hrb]; exact k1, by rw [← hy2]; simpa using k2, fun j hj hj' => ?_⟩
    ·rw [hrb, hopen _ (fun m => by rw [ho]; intro e; cases e), ho]
     simp [BK.bk, hsb]
    ·subst hy2
     have hj2 : j < ds.length := by simpa using hj
     simp only [List.getElem_map]
     have hok2 := okB_mem hHok' hy (List.getElem_mem hj2)
     rcases hbare with hL | hL
     ·refine RepC.ren (hgr2 hL) hrho hok2 (fun _ _ _ _ => ⟨hgr2 hL, fun g m hg hk => ⟨?_, rfl⟩⟩) (k3 j hj2 hj')
      rw [hopen g (fun m => by rw [hk]; intro e; cases e), hk]
      simp [BK.bk, hsb]
     ·exact RepC.bare hrho (List.all_eq_true.1 (show ds.all CVal.bare = true from List.all_eq_true.1 hL.2 _ (List.mem_of_getElem? hy)) _ (List.getElem_mem hj2)) hok2 (k3 j hj2 hj')
 ·rw [show ({ s with H := putBack s.H bs (Hs'.map (renB (sig n bs))) } : St).H.length = n + (Hs'.length - bs.length) from hpl]
  rcases putBack_get bs s.H _ hnd (fun b hb => hn ▸ hlt b hb) (by simpa using hHl') b _ hb with ⟨i, h1, h2⟩ | ⟨h1, h2⟩ | ⟨h1, h2⟩
  ·rw [List.getElem?_map] at h2
   obtain ⟨y, hy, hy2⟩ := Option.map_eq_some_iff.1 h2
   cases y with
   | none => cases hy2
   | some ds =>
    injection hy2 with hy2
    subst hy2
    obtain ⟨z, hz, rfl⟩ := List.mem_map.1 hx
    exact CVal.ren_ok hsig (okB_mem hHok' hy hz)
  ·exact CVal.ok_le (by omega) x (hn ▸ hR.heap.ok b cs h2 x hx)
  ·rw [List.getElem?_map] at h2
   obtain ⟨y, hy, hy2⟩ := Option.map_eq_some_iff.1 h2
   cases y with
   | none => cases hy2
   | some ds =>
    injection hy2 with hy2
    subst hy2
    obtain ⟨z, hz, rfl⟩ := List.mem_map.1 hx
    exact CVal.ren_ok hsig (okB_mem hHok' hy hz)
 ·obtain ⟨h1, _, h3⟩ := hmask g hg (by rw [hk]; rfl)
  exact ⟨h1.trans hk, h3⟩
end
theorem call_frame {P : Program} {f : FuncId} {args' : List AVal} {Hs Hs' : List (Option (List CVal))} {r : AVal} {s : St} {a : Act} {xs : List Operand} {bs L : List Nat} {w : World} {κ : Nat → BK} {ρ : Nat → Nat} (hO : Ok P f args' Hs r Hs')
  (hnd : bs.Nodup) (hlt : ∀ b ∈ bs, b < s.H.length) (hHs : Hs.map (renB (sig s.H.length bs)) = bs.map fun b => s.H.getD b none) (hok : ∀ x ∈ args', x.ok Hs.length = true) (hHok : Hs.all (okB Hs.length) = true) (hHok' : Hs'.all (okB Hs'.length) = true)
  (hargs : args'.map (AVal.ren (sig s.H.length bs)) = xs.map fun x => ((s.ev x).h).lend s.H L) (hdis : ∀ b ∈ L, b ∉ bs) (hbare : L = [] ∨ (r.bare = true ∧ Hs'.all bareB = true)) (hR : Rel s a w κ ρ) :
  Calls P f (xs.map a.eval).toArray w fun e w' => ∃ v κ' ρ', e = .returned v ∧ Rel { s with H := putBack s.H bs (Hs'.map (renB (sig s.H.length bs))) } a w' κ' ρ' ∧ (∀ l, RepA w' κ' ρ' l (r.ren (sig s.H.length bs)) v) ∧ (r.ren (sig s.H.length bs)).ok (putBack s.H bs (Hs'.map (renB (sig s.H.length bs)))).length = true ∧ Fr w κ w' κ' ∧ ∀ b, b < s.H.length → ρ' b = ρ b := by
 refine (call_frameE hO.e hnd hlt hHs hok hHok hargs hdis (fun a b e => by obtain ⟨rfl, rfl⟩ := e; exact ⟨hHok', hbare⟩) hR).mono ?_
 rintro e w' ⟨_, _, ⟨rfl, rfl⟩, h⟩
 exact h
theorem cells_app {w : World} {κ : Nat → BK} {ρ : Nat → Nat} {cs ds : List CVal} {vs us : Array Value} (h1 : CellsRep w κ ρ cs vs) (h2 : CellsRep w κ ρ ds us) : CellsRep w κ ρ (cs ++ ds) (vs ++ us) := by
 have e1 := h1.size
 have e2 := h2.size
 refine ⟨by simp [e1, e2], fun x hx => ?_, fun l i hi hi' => ?_, fun i hi => ?_⟩
 ·rcases List.mem_append.1 hx with h | h
  ·exact h1.flat x h
  ·exact h2.flat x h
 ·by_cases hlt : i < cs.length
  ·rw [List.getElem_append_left hlt, Array.getElem_append_left (by omega)]
   exact h1.rep l i hlt _
  ·have hi2 : i - vs.size < us.size := by
    rw [Array.size_append] at hi'
    omega
   rw [List.getElem_append_right (by omega), Array.getElem_append_right (by omega)]
   have := h2.rep l (i - vs.size) (by omega) hi2
   simpa only [e1] using this
 ·by_cases hlt : i < vs.size
  ·rw [Array.getElem_append_left hlt]
   exact h1.one i hlt
  ·rw [Array.getElem_append_right (by omega)]
   exact h2.one _ _
theorem cells_f {w : World} {κ : Nat → BK} {ρ : Nat → Nat} {fs : List FVal} {vs : List Value} (hl : vs.length = fs.length) (hr : ∀ i (h : i < fs.length) (h' : i < vs.length), RepF w κ fs[i] vs[i]) : CellsRep w κ ρ (fs.map CVal.f) vs.toArray := by
 refine ⟨by simp [hl], fun x hx => ?_, fun l i hi hi' => ?_, fun i hi => ?_⟩
 ·obtain ⟨y, _, rfl⟩ := List.mem_map.1 hx
  rfl
 ·rw [List.getElem_map, List.getElem_toArray]
  exact hr i (by simpa using hi) (by simpa using hi')
 ·rw [List.getElem_toArray]
  exact (hr i (by simp at hi; omega) (by simpa using hi)).one
theorem append_open {P : Program} {s : St} {o : Oper} {t tx : TypeId} {x y : Operand} (ho : o.op = .call { callee := .builtin .append, args := #[x, y], argTypes := #[t, tx] }) {sz by_ : Nat} {zs : List CVal} (hI : mkInfo P t = some (sz, by_, zs)) {n : Nat} {fs : List FVal} (hsrc : srcCells P s sz tx y = some (n, fs)) (h63 : n ≤ 4611686018427387904) (hby : n * by_ ≤ 140737488355328) (hn0 : n ≠ 0)
  {a : Act} {w : World} {κ : Nat → BK} {ρ : Nat → Nat} (hR : Rel s a w κ ρ) (hv : a.eval x = .slice none 0 0) :
  ∃ cap v w' κ' ρ', n ≤ cap ∧ (execOp a.eval o).run P w = .ok (.value v) w' ∧ Rel { s with H := s.H ++ [some (fs.map CVal.f ++ repCells zs (cap - n))] } a w' κ' ρ' ∧ v = .slice (some ⟨ρ' s.H.length, 0, none⟩) n cap ∧ Fr w κ w' κ' ∧ ∀ b, b < s.H.length → ρ' b = ρ b := by
 obtain ⟨e, i, z, hu, hi, hz, rfl, rfl, rfl, hsz, hpos, h1⟩ := mkInfo_of hI
 obtain ⟨news, hs, hn1, hn2, hn3⟩ := srcCells_src hsrc hR
 have hold2 : (Builtin.firstCells i.size 0 (.slice none 0 0)).run P w.drew = .ok ([] : List Value).toArray w.drew := rfl
 have hfit := growslice_fits (need := 0 + n) (old := 0) (bytes := i.bytes) (by omega) (by rw [Nat.zero_add]; exact hby)
 have hrun := run_append_grow_src (P := P) w t tx o.type e i z hu hi hz none 0 0 [] hold2 (a.eval y) n news hs (by omega) (by omega) hfit
 have hge : n ≤ grownCap w (0 + n) 0 e := by
  have := grownCap_ge w (0 + n) 0 e
  omega
 generalize grownCap w (0 + n) 0 e = cap at *
 have m1 := mv_drew s.H.length w κ ρ
 have hR1 := hR.mv m1 (fun _ h => h)
 have hg := m1.grow
 have hC1 : CellsRep w.drew κ ρ (fs.map CVal.f) news.toArray := cells_f hn1 fun j hj hj' => (hn3 j hj hj').grow hg
 have hC2 : CellsRep w.drew κ ρ (repCells (z.cells.toList.map ofC) (cap - n)) (Builtin.zeroCells z.cells (cap - n)) := made_rep z.cells (cap - n) (by omega) h1
 have hC := cells_app hC1 hC2
 have m2 := mv_alloc s.H.length w.drew κ ρ (.cells (news.toArray ++ Builtin.zeroCells z.cells (cap - n)) e) (.wr s.H.length) (upd ρ s.H.length w.drew.heap.size) (fun b hb => upd_other _ _ (by omega))
 have hN := hR1.new e hC (fun x hx => by
  rcases List.mem_append.1 hx with h | h
  ·obtain ⟨y, _, rfl⟩ := List.mem_map.1 h
   rfl
  ·exact repCells_ok _ _ _ _ h)
 rw [Nat.zero_add, List.nil_append] at hrun
 refine ⟨cap, .slice (some ⟨w.heap.size, 0, none⟩) n cap, _, _, upd ρ s.H.length w.drew.heap.size, hge, exec_append ho (by rw [hv]; exact hrun), hN, ?_, m1.fr.trans m2.fr, fun b hb => upd_other _ _ (by omega)⟩
 rw [upd_same]
 rfl
def wantA (ops : Array Oper) (s : St) (o : Oper) : Option Bool :=
 match o.guard with
 | none => some true
 | some (j, want) => match ops[j]? with
  | some oj => match oj.dst with
   | some d => match s.ev (.tmp d) with
    | .c (.f (.v (.bool b))) => some (b == want)
    | .c .und => some false
    | _ => none
   | none => some false
  | none => some false
theorem wantA_of {ops : Array Oper} {s : St} {o : Oper} {t : Bool} (h : wantA ops s o = some t) {a : Act} {w : World} {κ : Nat → BK} {ρ : Nat → Nat} (hR : Rel s a w κ ρ) : Region.wanted o (yielded ops a.tmps) = t := by
 unfold wantA at h
 unfold Region.wanted
 split at h
 ·rename_i hg
  injection h with h
  rw [hg]; exact h
 ·rename_i j want hg
  rw [hg]
  simp only
  split at h
  ·rename_i oj hj
   split at h
   ·rename_i d hd
    have hval : ∀ {v}, a.eval (.tmp d) = v → v ≠ undef → a.tmps[d]? = some v := fun {v} e hne => by
     simp only [Act.eval, Array.getD] at e
     split at e
     ·rename_i hlt
      rw [Array.getElem?_eq_getElem hlt]
      exact congrArg some e
     ·exact absurd e.symm hne
    split at h
    ·rename_i b he
     injection h with h
     have hv : a.eval (.tmp d) = .bool b := hR.toV (by rw [he]; rfl)
     have := hval hv (by intro e; cases e)
     simp [yielded, hj, hd, this, ← h]
    ·rename_i he
     injection h with h
     have hv : a.eval (.tmp d) = undef := by
      have := hR.ev_tmp d
      rw [he] at this
      exact this
     rw [← h]
     have hy : yielded ops a.tmps j = none := by
      simp only [yielded, hj, hd, Option.bind_some]
      simp only [Act.eval, Array.getD] at hv
      split at hv
      ·rename_i hlt
       rw [Array.getElem?_eq_getElem hlt]
       have hv' : a.tmps[d] = undef := hv
       rw [hv']; rfl
      ·rename_i hge
       rw [Array.getElem?_eq_none (by omega)]
     rw [hy]; rfl
    ·cases h
   ·rename_i hd
    injection h with h
    rw [← h]
    simp [yielded, hj, hd]
  ·rename_i hj
   injection h with h
   rw [← h]
   simp [yielded, hj]
def feeds (ops : Array Oper) (o : Oper) : Bool :=
 match o.dst with
 | some d => ops.toList.any fun p => match p.op with
  | .call c => match c.callee, c.args.toList with
   | .builtin .append, .tmp t :: _ => t == d
   | _, _ => false
  | _ => false
 | none => false
def callOf (o : Oper) : Option (FuncId × List Operand) :=
 match o.op with
 | .call c => match c.callee with
  | .value (.func f) => some (f, c.args.toList)
  | _ => none
 | _ => none
structure Cl where
 fp : List Nat := []
 fr : List Nat := []
 wr : List Nat := []
 new : Option Nat := none
 dem : Bool := false
 soft : Bool := false
abbrev Cl.q0 : Cl := {}
def ptrB : AVal → List Nat
 | .c (.ptr b _) => [b]
 | _ => []
def arrB : AVal → List Nat
 | .c (.arr b _ _ _) => [b]
 | _ => []
def isLoad : Op → Bool
 | .load .. => true
 | _ => false
def frOf (tr : Bool) (s : St) (o : Oper) : List Nat :=
 match o.op with
 | .load _ x => if tr = true then [] else ptrB (s.ev x)
 | _ => []
def fpOf (tr : Bool) (s : St) (o : Oper) : List Nat :=
 match o.op with
 | .load _ x => if tr = true then ptrB (s.ev x) else []
 | .store _ x _ => ptrB (s.ev x)
 | .call c => match c.args.toList with
  | [x, y] => arrB (s.ev x).dem ++ arrB (s.ev y).dem
  | _ => []
 | _ => []
def Chg.wr (c : Chg) : List Nat :=
 match c.blk with
 | some (b, _) => [b]
 | none => []
def clOf (tr : Bool) (s : St) (o : Oper) (c : Chg) : Cl := ⟨fpOf tr s o, frOf tr s o, c.wr, if c.new.isSome then some s.H.length else none, c.dem.isSome, isLoad o.op⟩
def WCall (P : Program) (f : FuncId) (xs : List Operand) (s : St) (K : Cl → AVal → St → Prop) : Prop :=
 (∃ r, (xs.all fun x => (s.ev x).h.ok 0) = true ∧ Ok P f (xs.map fun x => (s.ev x).h) [] r [] ∧ K .q0 r s) ∨
 ∃ (bs L : List Nat) (args' : List AVal) (Hs Hs' : List (Option (List CVal))) (r : AVal), Ok P f args' Hs r Hs' ∧ bs.Nodup ∧ (∀ b ∈ bs, b < s.H.length) ∧ Hs.map (renB (sig s.H.length bs)) = (bs.map fun b => s.H.getD b none) ∧ (∀ x ∈ args', x.ok Hs.length = true) ∧ Hs.all (okB Hs.length) = true ∧ Hs'.all (okB Hs'.length) = true ∧
  args'.map (AVal.ren (sig s.H.length bs)) = (xs.map fun x => ((s.ev x).h).lend s.H L) ∧ (∀ b ∈ L, b ∉ bs) ∧ (L = [] ∨ (r.bare = true ∧ Hs'.all bareB = true)) ∧
  K ⟨bs ++ L, [], bs, if Hs'.length = bs.length then none else some s.H.length, false, false⟩ (r.ren (sig s.H.length bs)) { s with H := putBack s.H bs (Hs'.map (renB (sig s.H.length bs))) }
structure RunPlain (P : Program) (s : St) (o : Oper) (v : Value) : Prop where
 op : ∃ b t x y u, o.op = .binOp b t x y u
 plain : (o.op.operands.toList.all fun x => (s.ev x).toV.isSome) = true
 run : ∀ w, (execOp s.env o).run P w = .ok (.value v) w
def WAop (P : Program) (ops : Array Oper) (o : Oper) (s : St) (K : Cl → St → Prop) : Prop :=
 (∃ x c, aop P (feeds ops o) s o = some (x, c) ∧ K (clOf (feeds ops o) s o c) ((s.chg c).put o.dst x)) ∨ (∃ v, RunPlain P s o v ∧ K .q0 (s.put o.dst (ofV v)))
def WOp (P : Program) (ops : Array Oper) (o : Oper) (s : St) (K : Cl → St → Prop) : Prop :=
 match wantA ops s o with
 | none => False
 | some t => if t = true then
   match callOf o with
   | some (f, xs) => WCall P f xs s fun c r s' => K c (s'.put o.dst r)
   | none => WAop P ops o s K
  else K .q0 (s.put o.dst (.c .und))
def WOpE (P : Program) (ops : Array Oper) (o : Oper) (s : St) (K : St → Prop) : Prop :=
 wantA ops s o = some true ∧ ∃ f xs, callOf o = some (f, xs) ∧ ∃ (bs : List Nat) (args' : List AVal) (Hs : List (Option (List CVal))) (Q : AVal → List (Option (List CVal)) → Prop), OkE P f args' Hs Q ∧ bs.Nodup ∧ (∀ b ∈ bs, b < s.H.length) ∧ Hs.map (renB (sig s.H.length bs)) = (bs.map fun b => s.H.getD b none) ∧ (∀ x ∈ args', x.ok Hs.length = true) ∧ Hs.all (okB Hs.length) = true ∧
  args'.map (AVal.ren (sig s.H.length bs)) = (xs.map fun x => ((s.ev x).h).lend s.H []) ∧
  ∀ r Hs', Q r Hs' → Hs'.all (okB Hs'.length) = true ∧ K (({ s with H := putBack s.H bs (Hs'.map (renB (sig s.H.length bs))) } : St).put o.dst (r.ren (sig s.H.length bs)))
def WOpn (P : Program) (ops : Array Oper) (o : Oper) (s : St) (K : St → Prop) : Prop :=
 wantA ops s o = some true ∧ ∃ (t tx : TypeId) (x y : Operand) (sz by_ : Nat) (zs : List CVal) (n : Nat) (fs : List FVal), o.op = .call { callee := .builtin .append, args := #[x, y], argTypes := #[t, tx] } ∧ mkInfo P t = some (sz, by_, zs) ∧ srcCells P s sz tx y = some (n, fs) ∧ n ≤ 4611686018427387904 ∧ n * by_ ≤ 140737488355328 ∧ n ≠ 0 ∧ s.ev x = .c (.f .nils) ∧
  ∀ cap, n ≤ cap → K (({ s with H := s.H ++ [some (fs.map CVal.f ++ repCells zs (cap - n))] } : St).put o.dst (.c (.arr s.H.length 0 n cap)))
def WkM (ops : Array Oper) (s s2 : St) : Prop := (s.H.length ≤ s2.H.length ∧ ∀ a w κ ρ, Rel s a w κ ρ → ∃ κ', Rel s2 a w κ' ρ ∧ Fr w κ w κ') ∧ ∀ o, wantA ops s o = some true → wantA ops s2 o = some true
def WOps (P : Program) (ops : Array Oper) : List Oper → St → (St → Prop) → Prop
 | [], s, K => K s
 | o :: rest, s, K => (WOp P ops o s fun _ s' => WOps P ops rest s' K) ∨ (WOpE P ops o s fun s' => WOps P ops rest s' K) ∨ (WOpn P ops o s fun s' => WOps P ops rest s' K) ∨ ∃ s2, WkM ops s s2 ∧ WOp P ops o s2 fun _ s' => WOps P ops rest s' K
def dstOk (N : Nat) (o : Oper) : Bool :=
 match o.dst with
 | some d => decide (d < N)
 | none => true
structure In (N n0 : Nat) (w0 : World) (κ0 : Nat → BK) (ρ0 : Nat → Nat) (s : St) (a : Act) (w : World) (κ : Nat → BK) (ρ : Nat → Nat) : Prop where
 rel : Rel s a w κ ρ
 fr : Fr w0 κ0 w κ
 rho : ∀ b, b < n0 → ρ b = ρ0 b
 len : n0 ≤ s.H.length
 size : a.tmps.size = N
theorem dst_lt {N : Nat} {o : Oper} (h : dstOk N o = true) {a : Act} (hs : a.tmps.size = N) : ∀ t, o.dst = some t → t < a.tmps.size := fun t e => by
 unfold dstOk at h
 rw [e] at h
 rw [hs]
 exact of_decide_eq_true h
theorem put_size (a : Act) (d : Option Tmp) (v : Value) : (a.put d v).tmps.size = a.tmps.size := by cases d <;> simp [Act.put]
theorem chg_len (s : St) (c : Chg) : s.H.length ≤ (s.chg c).H.length := by
 unfold St.chg
 cases c.dem <;> cases c.blk <;> cases c.new <;> simp [St.demO, St.blkO, St.newO, St.dem, hset]
theorem put_len (s : St) (d : Option Tmp) (x : AVal) : (s.put d x).H.length = s.H.length := by cases d <;> rfl
section
variable {P : Program} {ops : Array Oper} {N n0 : Nat} {w0 : World} {κ0 : Nat → BK} {ρ0 : Nat → Nat}
theorem exec_call {ev : Operand → Value} {o : Oper} {f : FuncId} {xs : List Operand} (hev : ev (.func f) = .func (.func f) #[] #[]) (h : callOf o = some (f, xs)) (hf : ∃ fn, P.funcs[f]? = some fn ∧ fn.body.isSome = true ∧ (fn.name == "runtime.NumGoroutine") = false) (w : World) : (execOp ev o).run P w = .ok (.enter f (xs.map ev).toArray) w := by
 unfold callOf at h
 split at h
 ·rename_i c ho
  split at h
  ·rename_i g hc
   injection h with h; injection h with e1 e2; subst e1; subst e2
   obtain ⟨fn, h1, h2, h3⟩ := hf
   have hb : ¬ fn.body = none := by intro e; rw [e] at h2; cases h2
   have hn : ¬ fn.name = "runtime.NumGoroutine" := by simpa using h3
   have hmap : c.args.map ev = (c.args.toList.map ev).toArray := by rw [← Array.toList_map]
   simp only [execOp, ho, resolve, hc, hev, Deferred.ofValue, Sem.run_bind, Sem.run_pure, Result.andThen_ok, invoke, callFunc]
   simp [program, Sem.run, h1, hn, hb, hmap]
  ·cases h
 ·cases h
theorem WOp_sound {o : Oper} {s : St} {K : Cl → St → Prop} (hdst : dstOk N o = true) (h : WOp P ops o s K) {a : Act} {w : World} {κ : Nat → BK} {ρ : Nat → Nat} (hI : In N n0 w0 κ0 ρ0 s a w κ ρ) {next : Act → World → Prop} {Q : Exit → Act → World → Prop}
  (hK : ∀ c s a w κ ρ, K c s → In N n0 w0 κ0 ρ0 s a w κ ρ → next a w) :
  if Region.wanted o (yielded ops a.tmps) then o.wp P a w next Q ∨ (o.asks P a w ∧ LetsOut Q) else next (a.put o.dst undef) w := by
 unfold WOp at h
 split at h
 ·cases h
 ·rename_i t ht
  rw [wantA_of ht hI.rel]
  split at h
  ·rename_i htt
   subst htt
   simp only [if_true]
   left
   split at h
   ·rename_i f xs hc
    rcases h with ⟨r, hok, hO, hk⟩ | ⟨bs, L, args', Hs, Hs', r, hO, h1, h2, h3, h4, h5, h6, h7, h8, h9, hk⟩
    ·unfold Oper.wp
     rw [exec_call rfl hc hO.fn]
     refine (call_pure hO rfl (by simpa using hok) hI.rel).mono ?_
     rintro e w' ⟨v, κ', rfl, hR', hr, hrok, hfr⟩
     refine hK _ _ _ _ κ' ρ hk ⟨hR'.put (dst_lt hdst hI.size) (fun t _ => hr _) hrok, hI.fr.trans hfr, hI.rho, ?_, (put_size _ _ _).trans hI.size⟩
     rw [put_len]; exact hI.len
    ·unfold Oper.wp
     rw [exec_call rfl hc hO.fn]
     refine (call_frame hO h1 h2 h3 h4 h5 h6 h7 h8 h9 hI.rel).mono ?_
     rintro e w' ⟨v, κ', ρ', rfl, hR', hr, hrok, hfr, hρ⟩
     refine hK _ _ _ _ κ' ρ' hk ⟨hR'.put (dst_lt hdst hI.size) (fun t _ => hr _) hrok, hI.fr.trans hfr, fun b hb => (hρ b (Nat.lt_of_lt_of_le hb hI.len)).trans (hI.rho b hb), ?_, (put_size _ _ _).trans hI.size⟩
     rw [put_len]
     refine Nat.le_trans hI.len ?_
     have e1 : Hs.length = bs.length := by simpa using congrArg List.length h3
     have e2 := hO.len
     show s.H.length ≤ (putBack s.H bs (Hs'.map (renB (sig s.H.length bs)))).length
     rw [putBack_len _ _ _ (by simp; omega)]
     omega
   ·rcases h with ⟨x, c, hx, h⟩ | ⟨v, hv, h⟩
    ·obtain ⟨v, w', κ', ρ', hy, hR', hr, hrok, hfr, hρ⟩ := aop_sim hx a w κ ρ hI.rel
     have hnext : next (a.put o.dst v) w' := hK _ _ _ _ κ' ρ' h ⟨hR'.put (dst_lt hdst hI.size) (fun t ht => hr t ht) hrok, hI.fr.trans hfr, fun b hb => (hρ b (Nat.lt_of_lt_of_le hb hI.len)).trans (hI.rho b hb), by rw [put_len]; exact Nat.le_trans hI.len (chg_len _ _), (put_size _ _ _).trans hI.size⟩
     unfold Oper.wp
     rcases hy with hy | ⟨hy, rfl⟩
     ·rw [hy]; exact hnext
     ·rw [hy]; exact hnext
    ·obtain ⟨b, t, x, y, u, ho⟩ := hv.op
     have he : execOp a.eval o = execOp s.env o := execOp_congr o (fun cs b e => by rw [ho] at e; cases e) (fun y hy => by
      have := List.all_eq_true.1 hv.plain y (Array.mem_toList_iff.2 hy)
      obtain ⟨u, hu⟩ := Option.isSome_iff_exists.1 this
      rw [hI.rel.toV hu, St.env, hu]; rfl)
     unfold Oper.wp
     rw [he, hv.run w]
     exact hK _ _ _ _ κ ρ h ⟨hI.rel.put (dst_lt hdst hI.size) (fun t _ => repA_ofV v) (ofV_ok _ v), hI.fr, hI.rho, by rw [put_len]; exact hI.len, (put_size _ _ _).trans hI.size⟩
  ·rename_i htt
   have : t = false := by simpa using htt
   subst this
   simp only [Bool.false_eq_true, if_false]
   exact hK _ _ _ _ κ ρ h ⟨hI.rel.put (dst_lt hdst hI.size) (fun t _ => rfl) rfl, hI.fr, hI.rho, by rw [put_len]; exact hI.len, (put_size _ _ _).trans hI.size⟩
theorem WOpE_sound {o : Oper} {s : St} {K : St → Prop} (hdst : dstOk N o = true) (h : WOpE P ops o s K) {a : Act} {w : World} {κ : Nat → BK} {ρ : Nat → Nat} (hI : In N n0 w0 κ0 ρ0 s a w κ ρ) {next : Act → World → Prop} {Q : Exit → Act → World → Prop}
  (hK : ∀ s a w κ ρ, K s → In N n0 w0 κ0 ρ0 s a w κ ρ → next a w) :
  if Region.wanted o (yielded ops a.tmps) then o.wp P a w next Q ∨ (o.asks P a w ∧ LetsOut Q) else next (a.put o.dst undef) w := by
 obtain ⟨ht, f, xs, hc, bs, args', Hs, Q', hO, h1, h2, h3, h4, h5, h7, hk⟩ := h
 rw [wantA_of ht hI.rel]
 simp only [if_true]
 left
 unfold Oper.wp
 rw [exec_call rfl hc hO.fn]
 refine (call_frameE (L := []) hO h1 h2 h3 h4 h5 h7 (by simp) (fun r Hs' hq => ⟨(hk r Hs' hq).1, .inl rfl⟩) hI.rel).mono ?_
 rintro e w' ⟨r, Hs', hq, v, κ', ρ', rfl, hR', hr, hrok, hfr, hρ⟩
 refine hK _ _ _ κ' ρ' (hk r Hs' hq).2 ⟨hR'.put (dst_lt hdst hI.size) (fun t _ => hr _) hrok, hI.fr.trans hfr, fun b hb => (hρ b (Nat.lt_of_lt_of_le hb hI.len)).trans (hI.rho b hb), ?_, (put_size _ _ _).trans hI.size⟩
 rw [put_len]
 refine Nat.le_trans hI.len ?_
 have e1 : Hs.length = bs.length := by simpa using congrArg List.length h3
 have e2 := (hO.res _ _ hq).2.2
 show s.H.length ≤ (putBack s.H bs (Hs'.map (renB (sig s.H.length bs)))).length
 rw [putBack_len _ _ _ (by simp; omega)]
 omega
theorem WOpn_sound {o : Oper} {s : St} {K : St → Prop} (hdst : dstOk N o = true) (h : WOpn P ops o s K) {a : Act} {w : World} {κ : Nat → BK} {ρ : Nat → Nat} (hI : In N n0 w0 κ0 ρ0 s a w κ ρ) {next : Act → World → Prop} {Q : Exit → Act → World → Prop}
  (hK : ∀ s a w κ ρ, K s → In N n0 w0 κ0 ρ0 s a w κ ρ → next a w) :
  if Region.wanted o (yielded ops a.tmps) then o.wp P a w next Q ∨ (o.asks P a w ∧ LetsOut Q) else next (a.put o.dst undef) w := by
 obtain ⟨ht, t, tx, x, y, sz, by_, zs, n, fs, ho, h1, h2, h3, h4, h5, h6, hk⟩ := h
 rw [wantA_of ht hI.rel]
 simp only [if_true]
 left
 have hv : a.eval x = .slice none 0 0 := by
  have := hI.rel.ev (l := .slot 0) x
  rw [h6] at this
  exact repF_nils.1 this
 obtain ⟨cap, v, w', κ', ρ', k1, k2, k3, rfl, k5, k6⟩ := append_open ho h1 h2 h3 h4 h5 hI.rel hv
 unfold Oper.wp
 rw [k2]
 refine hK _ _ _ κ' ρ' (hk cap k1) ⟨k3.put (dst_lt hdst hI.size) (fun t _ => rfl) ?_, hI.fr.trans k5, fun b hb => (k6 b (Nat.lt_of_lt_of_le hb hI.len)).trans (hI.rho b hb), ?_, (put_size _ _ _).trans hI.size⟩
 ·simp [AVal.ok, CVal.ok]
 ·rw [put_len]
  refine Nat.le_trans hI.len ?_
  simp
theorem WOps_sound {Q : Exit → Act → World → Prop} {K : St → Prop} (hK : ∀ s a w κ ρ, K s → In N n0 w0 κ0 ρ0 s a w κ ρ → Q .normal a w) :
  ∀ (l : List Oper) (s : St) (a : Act) (w : World) (κ : Nat → BK) (ρ : Nat → Nat), l.all (dstOk N) = true → WOps P ops l s K → In N n0 w0 κ0 ρ0 s a w κ ρ → wpList P ops Q l a w
 | [], s, a, w, κ, ρ, _, h, hI => hK s a w κ ρ h hI
 | o :: rest, s, a, w, κ, ρ, hd, h, hI => by
  rw [List.all_cons, Bool.and_eq_true] at hd
  rcases h with h | h
  ·exact WOp_sound hd.1 h hI fun _ s a w κ ρ hk hI => WOps_sound hK rest s a w κ ρ hd.2 hk hI
  ·rcases h with h | h | ⟨s2, hm, h⟩
   rotate_right
   ·obtain ⟨κ2, hR2, hF2⟩ := hm.1.2 _ _ _ _ hI.rel
    exact WOp_sound hd.1 h ⟨hR2, hI.fr.trans hF2, hI.rho, Nat.le_trans hI.len hm.1.1, hI.size⟩ fun _ s a w κ ρ hk hI => WOps_sound hK rest s a w κ ρ hd.2 hk hI
   ·exact WOpE_sound hd.1 h hI fun s a w κ ρ hk hI => WOps_sound hK rest s a w κ ρ hd.2 hk hI
   ·exact WOpn_sound hd.1 h hI fun s a w κ ρ hk hI => WOps_sound hK rest s a w κ ρ hd.2 hk hI
end
inductive AExit where
 | normal
 | exit (id : Nat)
 | ret
def Weak (n0 : Nat) (s s2 : St) : Prop := n0 ≤ s2.H.length ∧ ∀ a w κ ρ, Rel s a w κ ρ → ∃ κ', Rel s2 a w κ' ρ ∧ Fr w κ w κ'
theorem Weak.i {n0 : Nat} {s s2 : St} (h0 : n0 ≤ s2.H.length) (h : ∀ a w κ ρ, Rel s a w κ ρ → Rel s2 a w κ ρ) : Weak n0 s s2 := ⟨h0, fun a w κ ρ k => ⟨κ, h a w κ ρ k, Fr.refl _ _⟩⟩
theorem Weak.trans {n0 : Nat} {a b c : St} (h : Weak n0 a b) (k : Weak n0 b c) : Weak n0 a c := ⟨k.1, fun x w κ ρ hR => by
 obtain ⟨κ1, h1, h2⟩ := h.2 x w κ ρ hR
 obtain ⟨κ2, h3, h4⟩ := k.2 x w κ1 ρ h1
 exact ⟨κ2, h3, h2.trans h4⟩⟩
def W (P : Program) (D : Array Oper → St → (St → Prop) → Prop) (n0 : Nat) : Code → St → (AExit → St → Prop) → Prop
 | .skip, s, K => K .normal s
 | .region _ ops false, s, K => WOps P ops ops.toList s (K .normal)
 | .region _ ops true, s, K => D ops s (K .normal)
 | .seq a b, s, K => W P D n0 a s fun e s' => match e with
  | .normal => W P D n0 b s' K ∨ ∃ s2, Weak n0 s' s2 ∧ W P D n0 b s2 K
  | .exit i => K (.exit i) s'
  | .ret => K .ret s'
 | .cond c a b, s, K => match s.ev c with
  | .c (.f (.v (.bool t))) => if t = true then W P D n0 a s K else W P D n0 b s K
  | _ => False
 | .block id c, s, K => W P D n0 c s fun e s' => match e with
  | .normal => K .normal s'
  | .exit j => if j = id then K .normal s' else K (.exit j) s'
  | .ret => K .ret s'
 | .loop c, s, K => ∃ (α : Type) (I : α → St → Prop) (μ : α → Nat) (x0 : α), (∃ s0, Weak n0 s s0 ∧ I x0 s0) ∧ ∀ x s1, I x s1 → W P D n0 c s1 fun e s' => match e with
  | .normal => ∃ y s2, Weak n0 s' s2 ∧ I y s2 ∧ μ y < μ x
  | .exit i => K (.exit i) s'
  | .ret => K .ret s'
 | .exit id, s, K => K (.exit id) s
 | .ret, s, K => K .ret s
 | _, _, _ => False
def codeOk (N : Nat) : Code → Bool
 | .region _ ops _ => ops.toList.all (dstOk N)
 | .seq a b => codeOk N a && codeOk N b
 | .cond _ a b => codeOk N a && codeOk N b
 | .block _ c => codeOk N c
 | .loop c => codeOk N c
 | _ => true
def Post (N n0 : Nat) (w0 : World) (κ0 : Nat → BK) (ρ0 : Nat → Nat) (K : AExit → St → Prop) : Exit → Act → World → Prop
 | .normal, a, w => ∃ s κ ρ, K .normal s ∧ In N n0 w0 κ0 ρ0 s a w κ ρ
 | .exit id, a, w => ∃ s κ ρ, K (.exit id) s ∧ In N n0 w0 κ0 ρ0 s a w κ ρ
 | .ret, a, w => ∃ s κ ρ, K .ret s ∧ In N n0 w0 κ0 ρ0 s a w κ ρ
 | _, _, _ => False
theorem wp_loop_ghost {P : Program} {Q : Exit → Act → World → Prop} {a : Act} {w : World} {c : Code} {α : Type} (I : α → Act → World → Prop) (μ : α → Nat) (x0 : α) (h₀ : I x0 a w)
  (round : ∀ x a w, I x a w → c.wp P (Exit.then (fun a' w' => ∃ y, I y a' w' ∧ μ y < μ x) Q) a w) : (Code.loop c).wp P Q a w := by
 intro b k cs
 have key : ∀ n x a w, μ x = n → I x a w → ∃ e a' w', Q e a' w' ∧ Arrives P (lone (b.at a (.code c :: .inLoop c :: k)) cs w) b k cs e a' w' := by
  intro n
  induction n using Nat.strongRecOn with
  | _ n ih =>
   intro x a w hn hI
   obtain ⟨e, a₁, w₁, hq, harr⟩ := round x a w hI b (.inLoop c :: k) cs
   cases e with
   | normal =>
    obtain ⟨y, hI₁, hlt⟩ := hq
    obtain ⟨e₂, a₂, w₂, hq₂, harr₂⟩ := ih (μ y) (hn ▸ hlt) y a₁ w₁ rfl hI₁
    exact ⟨e₂, a₂, w₂, hq₂, .of_steps (Steps.trans harr (.one step_inLoop)) harr₂⟩
   | exit id => exact ⟨_, a₁, w₁, hq, .pass (x := .inLoop c) rfl (fun _ _ => .inl (by simp)) harr⟩
   | goto l => exact ⟨_, a₁, w₁, hq, .pass (x := .inLoop c) rfl (fun _ _ => .inl (by simp)) harr⟩
   | ret => exact ⟨_, a₁, w₁, hq, .pass (x := .inLoop c) rfl (fun _ _ => .inl (by simp)) harr⟩
   | panic ch => exact ⟨_, a₁, w₁, hq, .pass (x := .inLoop c) rfl (fun _ _ => .inl (by simp)) harr⟩
   | outgrown => exact ⟨_, a₁, w₁, hq, .pass (x := .inLoop c) rfl (fun _ _ => .inl (by simp)) harr⟩
 obtain ⟨e, a', w', hq, harr⟩ := key _ x0 a w rfl h₀
 exact ⟨e, a', w', hq, .of_steps (.one step_loop) harr⟩
def DSoundAt (P : Program) (ops : Array Oper) (s : St) (K : St → Prop) : Prop :=
 ∀ (id N n0 : Nat) (w0 : World) (κ0 : Nat → BK) (ρ0 : Nat → Nat) (a : Act) (w : World) (κ : Nat → BK) (ρ : Nat → Nat), In N n0 w0 κ0 ρ0 s a w κ ρ →
  ops.toList.all (dstOk N) = true → ∀ Q : Exit → Act → World → Prop, (∀ s a w κ ρ, K s → In N n0 w0 κ0 ρ0 s a w κ ρ → Q .normal a w) → (Code.region id ops true).wp P Q a w
def DSound (P : Program) (D : Array Oper → St → (St → Prop) → Prop) : Prop :=
 ∀ (id : Nat) (ops : Array Oper) (s : St) (K : St → Prop), D ops s K → ∀ (N n0 : Nat) (w0 : World) (κ0 : Nat → BK) (ρ0 : Nat → Nat) (a : Act) (w : World) (κ : Nat → BK) (ρ : Nat → Nat), In N n0 w0 κ0 ρ0 s a w κ ρ →
  ops.toList.all (dstOk N) = true → ∀ Q : Exit → Act → World → Prop, (∀ s a w κ ρ, K s → In N n0 w0 κ0 ρ0 s a w κ ρ → Q .normal a w) → (Code.region id ops true).wp P Q a w
theorem W_sound {P : Program} {D : Array Oper → St → (St → Prop) → Prop} (hD : DSound P D) {N n0 : Nat} {w0 : World} {κ0 : Nat → BK} {ρ0 : Nat → Nat} : ∀ (c : Code) (s : St) (K : AExit → St → Prop) (a : Act) (w : World) (κ : Nat → BK) (ρ : Nat → Nat), codeOk N c = true → W P D n0 c s K → In N n0 w0 κ0 ρ0 s a w κ ρ → c.wp P (Post N n0 w0 κ0 ρ0 K) a w
 | .skip, s, K, a, w, κ, ρ, hc0, h, hI => wp_skip ⟨s, κ, ρ, h, hI⟩
 | .region id ops false, s, K, a, w, κ, ρ, hc0, h, hI => wp_region_list (WOps_sound (fun s a w κ ρ hk hI => ⟨s, κ, ρ, hk, hI⟩) _ s a w κ ρ hc0 h hI)
 | .region id ops true, s, K, a, w, κ, ρ, hc0, h, hI => hD id ops s _ h N n0 w0 κ0 ρ0 a w κ ρ hI hc0 _ (fun s a w κ ρ hk hI => ⟨s, κ, ρ, hk, hI⟩)
 | .seq x y, s, K, a, w, κ, ρ, hc0, h, hI => by
  simp only [codeOk, Bool.and_eq_true] at hc0
  refine wp_seq (wp_mono (W_sound hD x s _ a w κ ρ hc0.1 h hI) fun e a' w' hq => ?_)
  cases e with
  | normal =>
   obtain ⟨s', κ', ρ', hk, hI'⟩ := hq
   rcases hk with hk | ⟨s2, hw, hk⟩
   ·exact W_sound hD y s' K a' w' κ' ρ' hc0.2 hk hI'
   ·obtain ⟨κ2, hR2, hF2⟩ := hw.2 _ _ _ _ hI'.rel
    exact W_sound hD y s2 K a' w' κ2 ρ' hc0.2 hk ⟨hR2, hI'.fr.trans hF2, hI'.rho, hw.1, hI'.size⟩
  | exit i => exact hq
  | ret => exact hq
  | goto l => exact hq
  | panic ch => exact hq
  | outgrown => exact hq
 | .cond c x y, s, K, a, w, κ, ρ, hc0, h, hI => by
  simp only [codeOk, Bool.and_eq_true] at hc0
  unfold W at h
  split at h
  ·rename_i t ht
   have hc : a.eval c = .bool t := hI.rel.toV (by rw [ht]; rfl)
   refine wp_cond hc ?_
   split at h
   ·rename_i htt; rw [htt]; exact W_sound hD x s K a w κ ρ hc0.1 h hI
   ·rename_i htt; rw [if_neg htt]; exact W_sound hD y s K a w κ ρ hc0.2 h hI
  ·cases h
 | .block id c, s, K, a, w, κ, ρ, hc0, h, hI => by
  refine wp_block (wp_mono (W_sound hD c s _ a w κ ρ hc0 h hI) fun e a' w' hq => ?_)
  cases e with
  | normal => exact hq
  | exit i =>
   obtain ⟨s', κ', ρ', hk, hI'⟩ := hq
   simp only [Exit.inBlock]
   by_cases e : i = id
   ·simp only [if_pos e] at hk ⊢
    exact ⟨s', κ', ρ', hk, hI'⟩
   ·simp only [if_neg e] at hk ⊢
    exact ⟨s', κ', ρ', hk, hI'⟩
  | ret => exact hq
  | goto l => exact hq
  | panic ch => exact hq
  | outgrown => exact hq
 | .loop c, s, K, a, w, κ, ρ, hc0, h, hI => by
  obtain ⟨α, I, μ, x0, ⟨s0, hw0, h0⟩, round⟩ := h
  obtain ⟨κ2, hR2, hF2⟩ := hw0.2 _ _ _ _ hI.rel
  refine wp_loop_ghost (α := α) (fun x a w => ∃ s κ ρ, I x s ∧ In N n0 w0 κ0 ρ0 s a w κ ρ) μ x0 ⟨s0, κ2, ρ, h0, hR2, hI.fr.trans hF2, hI.rho, hw0.1, hI.size⟩ fun x a1 w1 h1 => ?_
  obtain ⟨s1, κ1, ρ1, hI1, hIn1⟩ := h1
  refine wp_mono (W_sound hD c s1 _ a1 w1 κ1 ρ1 hc0 (round x s1 hI1) hIn1) fun e a' w' hq => ?_
  cases e with
  | normal =>
   obtain ⟨s', κ', ρ', ⟨y, s2, hw, hy, hlt⟩, hI'⟩ := hq
   obtain ⟨κ2, hR2, hF2⟩ := hw.2 _ _ _ _ hI'.rel
   exact ⟨y, ⟨s2, κ2, ρ', hy, hR2, hI'.fr.trans hF2, hI'.rho, hw.1, hI'.size⟩, hlt⟩
  | exit i => exact hq
  | ret => exact hq
  | goto l => exact hq
  | panic ch => exact hq
  | outgrown => exact hq
 | .exit id, s, K, a, w, κ, ρ, hc0, h, hI => wp_exit ⟨s, κ, ρ, h, hI⟩
 | .ret, s, K, a, w, κ, ρ, hc0, h, hI => wp_ret ⟨s, κ, ρ, h, hI⟩
 | .rangeFunc .., _, _, _, _, _, _, _, h, _ => by cases h
 | .scope .., _, _, _, _, _, _, _, h, _ => by cases h
 | .label .., _, _, _, _, _, _, _, h, _ => by cases h
 | .goto .., _, _, _, _, _, _, _, h, _ => by cases h
 | .refuse .., _, _, _, _, _, _, _, h, _ => by cases h
def gcA (n : Nat) (x : AVal) : AVal := if x.ok n then x else .c .any
def gc (n : Nat) (s : St) : St := ⟨fun i => gcA n (s.sl i), s.H.take n⟩
def gcOk (n : Nat) (s : St) : Bool := (s.H.take n).all (okB n)
theorem weak_gc {n0 n : Nat} {s : St} (h0 : n0 ≤ n) (h1 : n ≤ s.H.length) (h : gcOk n s = true) : Weak n0 s (gc n s) := by
 have hlen : (s.H.take n).length = n := by rw [List.length_take]; omega
 refine .i (by show n0 ≤ (s.H.take n).length; omega) fun a w κ ρ hR => ⟨hR.defers, fun i hi' => ?_, fun i hi => ?_, fun i => ?_, ⟨fun b cs hb => ?_, fun b cs hb x hx => ?_⟩⟩
 ·simp only [gc]
  unfold gcA
  split
  ·exact hR.slot i hi'
  ·trivial
 ·simp only [gc, gcA]
  rw [hR.out i hi]
  rfl
 ·simp only [gc]
  rw [hlen]
  unfold gcA
  split
  ·rename_i hy; exact hy
  ·rfl
 ·simp only [gc] at hb
  rw [List.getElem?_take] at hb
  split at hb
  ·exact hR.heap.blk b cs hb
  ·cases hb
 ·simp only [gc] at hb ⊢
  rw [hlen]
  have := List.all_eq_true.1 h (some cs) (List.mem_of_getElem? hb)
  exact List.all_eq_true.1 this x hx
theorem weak_slots {n0 : Nat} {s s2 : St} (h0 : n0 ≤ s.H.length) (hH : s2.H = s.H) (h : ∀ i, s2.sl i = s.sl i ∨ s2.sl i = .c .any) : Weak n0 s s2 := by
 refine .i (by rw [hH]; exact h0) fun a w κ ρ hR => ⟨hR.defers, fun i hi' => ?_, fun i hi => ?_, fun i => ?_, by rw [hH]; exact hR.heap⟩
 ·rcases h i with e | e
  ·rw [e]; exact hR.slot i hi'
  ·rw [e]; trivial
 ·rcases h i with e | e
  ·rw [e]; exact hR.out i hi
  ·exact e
 ·rw [hH]
  rcases h i with e | e
  ·rw [e]; exact hR.ok i
  ·rw [e]; rfl
def AVal.t : AVal → Option TVal
 | .c x => some (.c x)
 | .agg cs => some (.agg cs)
 | .tup _ => none
theorem AVal.t_rep {w : World} {κ : Nat → BK} {ρ : Nat → Nat} {l : Loc} {x : AVal} {y : TVal} {v : Value} (h : RepA w κ ρ l x.dem v) (e : x.dem.t = some y) : RepT w κ ρ l y v := by
 cases x with
 | c x => injection e with e; subst e; exact ⟨CVal.dem_flat x, h⟩
 | agg cs => injection e with e; subst e; exact h
 | tup ts => cases e
theorem aLoad_still {P : Program} {s : St} {t : TypeId} {x : Operand} {r : AVal} {ch : Chg} (h : aLoad P false s t x = some (r, ch)) {a : Act} {w : World} {κ : Nat → BK} {ρ : Nat → Nat} (hR : Rel s a w κ ρ) :
  ∃ p v, a.eval x = .pointer (some p) ∧ (loadVar t p).run P w = .ok v w ∧ (∀ l, RepA w κ ρ l r v) ∧ r.ok s.H.length = true ∧ r.dem = r := by
 have key : ∀ {p v}, (Instr.loadAt t (.pointer (some p))).run P w = .ok v w → (loadVar t p).run P w = .ok v w := fun {p v} hh => by
  simpa [Instr.loadAt, Instr.sureAddr] using hh
 unfold aLoad at h
 split at h
 ·rename_i n cs off ht he
  split at h
  ·rename_i y hy
   injection h with h; injection h with h1 h2; subst h1; subst h2
   obtain ⟨g, oo, hv, hrow⟩ := hR.at_ip he
   obtain ⟨hi, hyy⟩ := List.getElem?_eq_some_iff.1 hy
   obtain ⟨v, hc, hr⟩ := hrow.cell off hi
   rw [hyy] at hr
   exact ⟨_, v, hv, key (run_loadAt_one w g (oo + off) t ht hc), fun l => hr, rfl, rfl⟩
  ·cases h
 ·rename_i n cs off ht he
  split at h
  ·rename_i hn
   injection h with h; injection h with h1 h2; subst h1; subst h2
   obtain ⟨g, oo, hv, hrow⟩ := hR.at_ip he
   obtain ⟨vs, hl, hra, hre⟩ := hrow.part off n hn
   refine ⟨_, .agg vs.toArray, hv, key (run_loadAt_row w g (oo + off) t ht hl hra), fun l => ⟨vs.toArray, rfl, by simp; omega, fun i hi hi' => ?_⟩, ok_take_f _ _ _ _, rfl⟩
   have hi2 : i < n := by simp at hi; omega
   refine ⟨by rw [List.getElem_map]; rfl, ?_⟩
   have := hre i hi2 (by omega)
   simp only [List.getElem_map, List.getElem_take, List.getElem_drop]
   exact this
  ·cases h
 ·rename_i n b off ht he
  split at h
  ·rename_i cells hb
   split at h
   ·rename_i y hy
    obtain ⟨hi, hyy⟩ := List.getElem?_eq_some_iff.1 hy
    split at h
    ·rename_i heq; cases heq
    ·injection h with h; injection h with h1 h2; subst h1; subst h2
     obtain ⟨v, hc, hr⟩ := (hR.heap.blk b cells hb).cell off hi
     rw [hyy] at hr
     exact ⟨_, v, hR.at_ptr he, key (run_loadAt_one w _ off t ht hc), fun l => RepC.dem hr, CVal.dem_ok _ (hyy ▸ heap_ok hR.heap hb off hi), by show AVal.c (CVal.dem _) = _; rw [CVal.flat_dem (CVal.dem_flat _)]⟩
   ·cases h
  ·cases h
 ·rename_i n b off ht he
  split at h
  ·rename_i cells hb
   split at h
   ·rename_i hn
    injection h with h; injection h with h1 h2; subst h1; subst h2
    obtain ⟨vs, hl, hra, hre⟩ := (hR.heap.blk b cells hb).part off n hn
    refine ⟨_, .agg vs.toArray, hR.at_ptr he, key (run_loadAt_row w _ off t ht hl hra), fun l => ⟨vs.toArray, rfl, by simp; omega, fun i hi hi' => ?_⟩, ?_, rfl⟩
    ·have hi2 : i < n := by simp at hi; omega
     refine ⟨by rw [List.getElem_map]; exact CVal.dem_flat _, ?_⟩
     have := hre i hi2 (by omega)
     simp only [List.getElem_map, List.getElem_take, List.getElem_drop]
     exact RepC.dem this
    ·simp only [AVal.ok, List.all_eq_true]
     intro y hy
     obtain ⟨z, hz, rfl⟩ := List.mem_map.1 hy
     exact CVal.dem_ok _ (hR.heap.ok b cells hb z (List.mem_of_mem_drop (List.mem_of_mem_take hz)))
   ·cases h
  ·cases h
 ·cases h
def res1 (P : Program) (s : St) : ResultVar → Option TVal
 | .tmp t => ((s.ev (.tmp t)).dem.t).map TVal.nz
 | .cell x t => match aLoad P false s t (.tmp x) with
  | some (y, _) => y.t.map TVal.nz
  | none => none
def resL (P : Program) (s : St) : List ResultVar → Option (List TVal)
 | [] => some []
 | x :: r => match res1 P s x, resL P s r with
  | some y, some ys => some (y :: ys)
  | _, _ => none
def packT : List TVal → AVal
 | [x] => x.a
 | l => .tup l
theorem t_ok {n : Nat} {x : AVal} {y : TVal} (h : x.ok n = true) (e : x.t = some y) : y.ok n = true := by
 cases x with
 | c x => injection e with e; subst e; exact h
 | agg cs => injection e with e; subst e; exact h
 | tup ts => cases e
def resS (tmps : Array Value) : ResultVar → Sem Value
 | .tmp t => pure (tmps.getD t undef)
 | .cell a t => do loadVar t (← asAddr (tmps.getD a undef))
theorem results_eq (fn : Func) (tmps : Array Value) : results fn tmps = (fn.results.mapM (resS tmps) >>= fun vs => pure (if h : vs.size = 1 then vs[0] else .tuple vs)) := by
 unfold results
 congr 1
theorem res1_run {P : Program} {s : St} {a : Act} {w : World} {κ : Nat → BK} {ρ : Nat → Nat} (hR : Rel s a w κ ρ) (x : ResultVar) {y : TVal} (h : res1 P s x = some y) :
  ∃ v, (resS a.tmps x).run P w = .ok v w ∧ (∀ l, RepT w κ ρ l y v) ∧ y.ok s.H.length = true := by
 cases x with
 | tmp t =>
  simp only [res1, Option.map_eq_some_iff] at h
  obtain ⟨y0, h, rfl⟩ := h
  exact ⟨a.tmps.getD t undef, rfl, fun l => (AVal.t_rep (hR.ev (l := l) (.tmp t)) h).nz, by rw [TVal.nz_ok]; exact t_ok (AVal.dem_ok _ (hR.ev_ok (.tmp t))) h⟩
 | cell x t =>
  simp only [res1] at h
  split at h
  ·rename_i z ch hz
   obtain ⟨p, v, h1, h2, h3, h4, h5⟩ := aLoad_still hz hR
   have h1' : a.tmps.getD x undef = .pointer (some p) := h1
   simp only [Option.map_eq_some_iff] at h
   obtain ⟨y0, h, rfl⟩ := h
   refine ⟨v, by simp [resS, h1', asAddr, h2], fun l => ?_, by rw [TVal.nz_ok]; exact t_ok h4 h⟩
   have := h3 l
   rw [← h5] at this h
   exact (AVal.t_rep this h).nz
  ·cases h
theorem resL_run {P : Program} {s : St} {a : Act} {w : World} {κ : Nat → BK} {ρ : Nat → Nat} (hR : Rel s a w κ ρ) : ∀ (l : List ResultVar) (ys : List TVal), resL P s l = some ys →
  ∃ vs : List Value, (l.mapM (resS a.tmps)).run P w = .ok vs w ∧ vs.length = ys.length ∧ (∀ i (h : i < ys.length) (h' : i < vs.length) l, RepT w κ ρ l ys[i] vs[i]) ∧ ∀ y ∈ ys, y.ok s.H.length = true
 | [], ys, h => by injection h with h; subst h; exact ⟨[], by simp, rfl, fun i h => by simp at h, fun y hy => by cases hy⟩
 | x :: r, ys, h => by
  unfold resL at h
  split at h
  ·rename_i y zs h1 h2
   injection h with h; subst h
   obtain ⟨v, k1, k2, k3⟩ := res1_run hR x h1
   obtain ⟨vs, j1, j2, j3, j4⟩ := resL_run hR r zs h2
   refine ⟨v :: vs, ?_, by simp [j2], fun i hi hi' l => ?_, fun z hz => ?_⟩
   ·rw [List.mapM_cons]
    simp only [Sem.run_bind, Sem.run_pure]
    rw [k1]
    simp only [Result.andThen_ok]
    rw [j1]
    rfl
   ·cases i with
    | zero => exact k2 l
    | succ i => exact j3 i (by simpa using hi) (by simpa using hi') l
   ·rcases List.mem_cons.1 hz with rfl | hz
    ·exact k3
    ·exact j4 z hz
  ·cases h
theorem results_run {P : Program} {fn : Func} {s : St} {a : Act} {w : World} {κ : Nat → BK} {ρ : Nat → Nat} (hR : Rel s a w κ ρ) {ys : List TVal} (h : resL P s fn.results.toList = some ys) :
  ∃ v vs, (results fn a.tmps).run P w = .ok v w ∧ v = (if h : vs.size = 1 then vs[0] else .tuple vs) ∧ vs.size = ys.length ∧ (∀ i (h : i < ys.length) (h' : i < vs.size) l, RepT w κ ρ l ys[i] vs[i]) ∧ ∀ y ∈ ys, y.ok s.H.length = true := by
 obtain ⟨vs, h1, h2, h3, h4⟩ := resL_run hR _ _ h
 refine ⟨_, vs.toArray, ?_, rfl, by simpa using h2, fun i hi hi' l => by simpa using h3 i hi (by simpa using hi') l, h4⟩
 rw [results_eq, Array.mapM_eq_mapM_toList]
 simp only [Sem.run_bind, Sem.run_map, h1, Result.andThen_ok, Sem.run_pure]
theorem pack_rep {w : World} {κ : Nat → BK} {ρ : Nat → Nat} {ys : List TVal} {vs : Array Value} (h1 : vs.size = ys.length) (h2 : ∀ i (h : i < ys.length) (h' : i < vs.size) l, RepT w κ ρ l ys[i] vs[i]) (l : Loc) : RepA w κ ρ l (packT ys) (if h : vs.size = 1 then vs[0] else .tuple vs) := by
 unfold packT
 split
 ·rename_i y
  have hs : vs.size = 1 := by simpa using h1
  rw [dif_pos hs]
  exact (h2 0 (by simp) (by omega) l).a
 ·rename_i hne
  have hs : ¬ vs.size = 1 := fun hs => by
   rw [h1] at hs
   match ys, hs with
   | [y], _ => exact hne y rfl
  rw [dif_neg hs]
  exact ⟨vs, rfl, h1, fun i hi hi' => h2 i hi hi' l⟩
def entry (fn : Func) (args : List AVal) (H : List (Option (List CVal))) : St := ⟨fun i => args.getD i (if i < fn.ntmps then .c .und else .c .any), H⟩
def FlatT : TVal → Bool
 | .c x => x.flat
 | .agg _ => true
def Flat : AVal → Bool
 | .c x => x.flat
 | _ => true
theorem flat_dem {x : AVal} (h : Flat x = true) : x.dem = x := by
 cases x with
 | c x => show AVal.c (CVal.dem _) = _; rw [CVal.flat_dem h]
 | agg cs => rfl
 | tup ts => rfl
def Ret (P : Program) (fn : Func) (r : AVal) (H' : List (Option (List CVal))) (e : AExit) (s : St) : Prop :=
 (match e with | .exit _ => False | _ => True) ∧ ∃ ys, resL P s fn.results.toList = some ys ∧ packT ys = r ∧ s.H.take H'.length = H'
theorem entry_rel {fn : Func} {args : List AVal} {H : List (Option (List CVal))} {w : World} {κ : Nat → BK} {ρ : Nat → Nat} {vals : Array Value} (hn : args.length ≤ fn.ntmps) (hs : vals.size = args.length) (hr : ∀ i (h : i < args.length) (h' : i < vals.size) l, RepA w κ ρ l args[i] vals[i]) (hok : ∀ x ∈ args, x.ok H.length = true) (hH : RelH H w κ ρ) :
  Rel (entry fn args H) { tmps := vals ++ Array.replicate (fn.ntmps - vals.size) undef, defers := [] } w κ ρ := by
 have hsz : (vals ++ Array.replicate (fn.ntmps - vals.size) undef).size = fn.ntmps := by simp; omega
 refine ⟨rfl, fun i hi' => ?_, fun i hi => ?_, fun i => ?_, hH⟩
 ·have hi2 : i < fn.ntmps := by rw [← hsz]; exact hi'
  simp only [entry]
  rcases Nat.lt_or_ge i args.length with hlt | hge
  ·rw [List.getD_eq_getElem?_getD, List.getElem?_eq_getElem hlt, Array.getElem_append_left (by omega)]
   exact hr i hlt (by omega) _
  ·rw [List.getD_eq_getElem?_getD, List.getElem?_eq_none hge, Array.getElem_append_right (by omega), if_pos hi2]
   simp only [Array.getElem_replicate]
   rfl
 ·have hi2 : fn.ntmps ≤ i := by rw [← hsz]; exact hi
  simp only [entry]
  rw [List.getD_eq_getElem?_getD, List.getElem?_eq_none (by omega), if_neg (by omega)]
  rfl
 ·simp only [entry]
  rcases Nat.lt_or_ge i args.length with hlt | hge
  ·rw [List.getD_eq_getElem?_getD, List.getElem?_eq_getElem hlt]
   exact hok _ (List.getElem_mem hlt)
  ·rw [List.getD_eq_getElem?_getD, List.getElem?_eq_none hge]
   simp only [Option.getD_none]
   split <;> rfl
theorem entry_size {fn : Func} {args : List AVal} {vals : Array Value} (hn : args.length ≤ fn.ntmps) (hs : vals.size = args.length) : (vals ++ Array.replicate (fn.ntmps - vals.size) undef).size = fn.ntmps := by simp; omega
theorem ok_of_W {P : Program} {D : Array Oper → St → (St → Prop) → Prop} (hD : DSound P D) {f : FuncId} {fn : Func} {c : Code} {args : List AVal} {H H' : List (Option (List CVal))} {r : AVal} (hf : P.funcs[f]? = some fn) (hb : fn.body = some c) (hn : (fn.name == "runtime.NumGoroutine") = false) (hca : args.length ≤ fn.ntmps) (hcode : codeOk fn.ntmps c = true)
  (hflat : Flat r = true) (hrok : r.ok H'.length = true) (hlen : H.length ≤ H'.length) (hHok : H'.all (okB H'.length) = true) {s0 : St} (hs0 : Weak H.length (entry fn args H) s0) (h : W P D H.length c s0 (Ret P fn r H')) : Ok P f args H r H' := by
 refine ⟨⟨fn, hf, by rw [hb]; rfl, hn⟩, flat_dem hflat, hrok, hlen, fun w κ ρ vals hs hr hok hH => ?_⟩
 obtain ⟨κ2, hR2, hF2⟩ := hs0.2 _ _ _ _ (entry_rel hca hs hr hok hH)
 refine calls_of_wp hf hb (wp_mono (W_sound (N := fn.ntmps) hD c _ _ _ w κ2 ρ hcode h ⟨hR2, hF2, fun _ _ => rfl, hs0.1, entry_size hca hs⟩) fun e a' w' hq => ?_)
 have key : ∀ {ex : AExit} {s : St} {κ' : Nat → BK} {ρ' : Nat → Nat}, Ret P fn r H' ex s → In fn.ntmps H.length w κ ρ s a' w' κ' ρ' → a'.defers = [] ∧ ∃ v, (results fn a'.tmps).run P w' = .ok v w' ∧ ∃ v' κ'' ρ'', Ending.returned v = .returned v' ∧ (∀ l, RepA w' κ'' ρ'' l r v') ∧ RelH H' w' κ'' ρ'' ∧ Fr w κ w' κ'' ∧ ∀ b, b < H.length → ρ'' b = ρ b := by
  rintro ex s κ' ρ' ⟨_, ys, h1, h2, h3⟩ hI
  obtain ⟨v, vs, k1, k2, k3, k4, k5⟩ := results_run hI.rel h1
  refine ⟨hI.rel.defers, v, k1, v, κ', ρ', rfl, fun l => ?_, ⟨fun b cs hb' => ?_, fun b cs hb' x hx => ?_⟩, hI.fr, hI.rho⟩
  ·rw [k2, ← h2]; exact pack_rep k3 k4 l
  ·rw [← h3, List.getElem?_take] at hb'
   split at hb'
   ·exact hI.rel.heap.blk b cs hb'
   ·cases hb'
  ·have := List.all_eq_true.1 hHok (some cs) (List.mem_of_getElem? hb')
   exact List.all_eq_true.1 this x hx
 cases e with
 | normal => obtain ⟨s, κ', ρ', hk, hI⟩ := hq; exact key hk hI
 | ret => obtain ⟨s, κ', ρ', hk, hI⟩ := hq; exact key hk hI
 | exit id => obtain ⟨s, κ', ρ', hk, hI⟩ := hq; exact hk.1.elim
 | goto l => exact hq
 | panic ch => exact False.elim hq
 | outgrown => exact False.elim hq
def fzC (H : List (Option (List CVal))) : CVal → CVal
 | .arr b off len cap => match H[b]? with
  | some (some cells) => if len = cap then
    match fzs (cells.drop off) with
    | some fs => .f (.row fs len)
    | none => .any
   else .any
  | _ => .any
 | x => x
def fzT (H : List (Option (List CVal))) : TVal → TVal
 | .c x => .c (fzC H x)
 | .agg cs => .agg (cs.map (fzC H))
def RetP (P : Program) (fn : Func) (r : AVal) (e : AExit) (s : St) : Prop :=
 (match e with | .exit _ => False | _ => True) ∧ ∃ ys, resL P s fn.results.toList = some ys ∧ packT (ys.map (fzT s.H)) = r
def frozenK (κ : Nat → BK) (g : Nat) : BK :=
 match κ g with
 | .wr _ => .lock none
 | k => k
theorem fzC_flat {H : List (Option (List CVal))} {x : CVal} (h : x.flat = true) : (fzC H x).flat = true := by
 unfold fzC
 split
 ·split
  ·split
   ·split <;> rfl
   ·rfl
  ·rfl
 ·exact h
theorem fzC_rep {s : St} {a : Act} {w : World} {κ : Nat → BK} {ρ : Nat → Nat} (hR : Rel s a w κ ρ) {l : Loc} {x : CVal} {v : Value} (hx : x.flat = true) (hok : x.ok s.H.length = true) (h : RepC w κ ρ l x v) : RepC w (frozenK κ) ρ l (fzC s.H x) v := by
 have hg : Grow w κ w (frozenK κ) := grow_fits fun g n hf => by
  unfold frozenK
  split
  ·trivial
  ·exact hf
 have keep : RepC w (frozenK κ) ρ l x v := RepC.keep (n := s.H.length) hg (fun _ _ => rfl) hok (fun _ _ _ e => by rw [e] at hx; cases hx) h
 unfold fzC
 split
 ·rename_i b off len cap
  split
  ·rename_i cells hb
   split
   ·rename_i hlc
    split
    ·rename_i fs hfs
     have hB := hR.heap.blk b cells hb
     obtain ⟨f1, f2⟩ := fzs_rep _ fs hfs
     have hv : v = .slice (some ⟨ρ b, off, none⟩) len cap := h
     rw [hv]
     refine repF_rowI ⟨ρ b, off, cap, rfl, by omega, ⟨fun i hi => ?_, fun hne => ⟨?_, ?_⟩⟩⟩
     ·have hi2 : off + i < cells.length := by rw [f1, List.length_drop] at hi; omega
      obtain ⟨u, hu1, hu2⟩ := hB.cell (off + i) hi2
      refine ⟨u, hu1, ?_⟩
      have := f2 i (by rw [← f1]; exact hi) hi
      rw [List.getElem_drop] at this
      exact (CVal.fz_rep hu2 this).grow hg
     ·obtain ⟨c, e, h1, _⟩ := hB.lie
      exact lt_of_heap h1
     ·unfold frozenK; rw [hB.own]; trivial
    ·trivial
   ·trivial
  ·trivial
 ·exact keep
theorem fzT_rep {s : St} {a : Act} {w : World} {κ : Nat → BK} {ρ : Nat → Nat} (hR : Rel s a w κ ρ) {l : Loc} {x : TVal} {v : Value} (hok : x.ok s.H.length = true) (h : RepT w κ ρ l x v) : RepT w (frozenK κ) ρ l (fzT s.H x) v := by
 cases x with
 | c x => exact ⟨fzC_flat h.1, fzC_rep hR h.1 hok h.2⟩
 | agg cs =>
  obtain ⟨vs, rfl, hs, hr⟩ := h
  refine ⟨vs, rfl, by simpa using hs, fun i hi hi' => ?_⟩
  have hi2 : i < cs.length := by simpa using hi
  rw [List.getElem_map]
  exact ⟨fzC_flat (hr i hi2 hi').1, fzC_rep hR (hr i hi2 hi').1 (List.all_eq_true.1 hok _ (List.getElem_mem hi2)) (hr i hi2 hi').2⟩
theorem okP_of_W {P : Program} {D : Array Oper → St → (St → Prop) → Prop} (hD : DSound P D) {f : FuncId} {fn : Func} {c : Code} {args : List AVal} {r : AVal} (hf : P.funcs[f]? = some fn) (hb : fn.body = some c) (hn : (fn.name == "runtime.NumGoroutine") = false) (hca : args.length ≤ fn.ntmps) (hcode : codeOk fn.ntmps c = true)
  (hflat : Flat r = true) (hrok : r.ok 0 = true) {s0 : St} (hs0 : Weak 0 (entry fn args []) s0) (h : W P D 0 c s0 (RetP P fn r)) : Ok P f args [] r [] := by
 refine ⟨⟨fn, hf, by rw [hb]; rfl, hn⟩, flat_dem hflat, hrok, Nat.le_refl _, fun w κ ρ vals hs hr hok hH => ?_⟩
 obtain ⟨κ2, hR2, hF2⟩ := hs0.2 _ _ _ _ (entry_rel hca hs hr hok hH)
 refine calls_of_wp hf hb (wp_mono (W_sound (N := fn.ntmps) hD c _ _ _ w κ2 ρ hcode h ⟨hR2, hF2, fun _ _ => rfl, hs0.1, entry_size hca hs⟩) fun e a' w' hq => ?_)
 have key : ∀ {ex : AExit} {s : St} {κ' : Nat → BK} {ρ' : Nat → Nat}, RetP P fn r ex s → In fn.ntmps 0 w κ ρ s a' w' κ' ρ' → a'.defers = [] ∧ ∃ v, (results fn a'.tmps).run P w' = .ok v w' ∧ ∃ v' κ'' ρ'', Ending.returned v = .returned v' ∧ (∀ l, RepA w' κ'' ρ'' l r v') ∧ RelH [] w' κ'' ρ'' ∧ Fr w κ w' κ'' ∧ ∀ b, b < 0 → ρ'' b = ρ b := by
  rintro ex s κ' ρ' ⟨_, ys, h1, h2⟩ hI
  obtain ⟨v, vs, k1, k2, k3, k4, k5⟩ := results_run hI.rel h1
  have hg : Grow w' κ' w' (frozenK κ') := grow_fits fun g n hf => by
   unfold frozenK
   split
   ·trivial
   ·exact hf
  refine ⟨hI.rel.defers, v, k1, v, frozenK κ', ρ', rfl, fun l => ?_, ⟨fun b cs h => by simp at h, fun b cs h => by simp at h⟩, hI.fr.trans ⟨rfl, rfl, rfl, Nat.le_refl _, fun g n _ hl => ⟨by unfold frozenK; rw [hl], rfl⟩, hg⟩, fun b hb => by omega⟩
  rw [k2, ← h2]
  refine pack_rep (by simpa using k3) (fun i hi hi' l => ?_) l
  have hi2 : i < ys.length := by simpa using hi
  rw [List.getElem_map]
  exact fzT_rep hI.rel (k5 _ (List.getElem_mem hi2)) (k4 i hi2 hi' l)
 cases e with
 | normal => obtain ⟨s, κ', ρ', hk, hI⟩ := hq; exact key hk hI
 | ret => obtain ⟨s, κ', ρ', hk, hI⟩ := hq; exact key hk hI
 | exit id => obtain ⟨s, κ', ρ', hk, hI⟩ := hq; exact hk.1.elim
 | goto l => exact hq
 | panic ch => exact False.elim hq
 | outgrown => exact False.elim hq
inductive CVal.Le : CVal → CVal → Prop
 | refl (x : CVal) : Le x x
 | any (x : CVal) : Le x .any
 | nil_row : Le (.f .nils) (.f (.row [] 0))
 | nil_tip (sz : Nat) : Le (.f .nils) (.tip sz [] 0)
 | tip_row (sz : Nat) (cs : List FVal) (len : Nat) : Le (.tip sz cs len) (.f (.row cs len))
theorem CVal.Le.rep {x y : CVal} (h : CVal.Le x y) {w : World} {κ : Nat → BK} {ρ : Nat → Nat} {l : Loc} {v : Value} (hx : RepC w κ ρ l x v) : RepC w κ ρ l y v := by
 cases h with
 | refl => exact hx
 | any => trivial
 | nil_row => exact RepC.nz (x := .f .nils) hx
 | nil_tip sz => exact .inr ⟨rfl, rfl, repF_nils.1 hx⟩
 | tip_row sz cs len => exact RepC.dem (x := .tip sz cs len) hx
theorem CVal.Le.ok {x y : CVal} (h : CVal.Le x y) {n : Nat} (hx : x.ok n = true) : y.ok n = true := by
 cases h with
 | refl => exact hx
 | _ => rfl
inductive LeL : List CVal → List CVal → Prop
 | nil : LeL [] []
 | cons {x y : CVal} {l m : List CVal} (h : CVal.Le x y) (t : LeL l m) : LeL (x :: l) (y :: m)
theorem LeL.refl : ∀ l, LeL l l
 | [] => .nil
 | x :: l => .cons (.refl x) (LeL.refl l)
theorem LeL.get : ∀ {l m : List CVal}, LeL l m → l.length = m.length ∧ ∀ i (h : i < l.length) (h' : i < m.length), CVal.Le l[i] m[i]
 | _, _, .nil => ⟨rfl, fun i h => by simp at h⟩
 | _, _, .cons h t => ⟨by simp [(LeL.get t).1], fun i hi hi' => by
  cases i with
  | zero => exact h
  | succ i => exact (LeL.get t).2 i (by simpa using hi) (by simpa using hi')⟩
inductive LeH : List (Option (List CVal)) → List (Option (List CVal)) → Prop
 | nil : LeH [] []
 | none {x : Option (List CVal)} {l m : List (Option (List CVal))} (t : LeH l m) : LeH (x :: l) (Option.none :: m)
 | some {x y : List CVal} {l m : List (Option (List CVal))} (h : LeL x y) (t : LeH l m) : LeH (Option.some x :: l) (Option.some y :: m)
theorem LeH.get : ∀ {l m : List (Option (List CVal))}, LeH l m → l.length = m.length ∧ ∀ (b : Nat) (cs : List CVal), m[b]? = Option.some (Option.some cs) → ∃ ds, l[b]? = Option.some (Option.some ds) ∧ LeL ds cs
 | _, _, .nil => ⟨rfl, fun b cs h => by simp at h⟩
 | _, _, .none t => ⟨by simp [(LeH.get t).1], fun b cs h => by
  cases b with
  | zero => simp at h
  | succ b => exact (LeH.get t).2 b cs (by simpa using h)⟩
 | _, _, .some hh t => ⟨by simp [(LeH.get t).1], fun b cs h => by
  cases b with
  | zero => simp at h; subst h; exact ⟨_, rfl, hh⟩
  | succ b => exact (LeH.get t).2 b cs (by simpa using h)⟩
inductive AVal.Le : AVal → AVal → Prop
 | refl (x : AVal) : Le x x
 | any (x : AVal) : Le x (.c .any)
 | c {x y : CVal} (h : CVal.Le x y) : Le (.c x) (.c y)
theorem AVal.Le.rep {x y : AVal} (h : AVal.Le x y) {w : World} {κ : Nat → BK} {ρ : Nat → Nat} {l : Loc} {v : Value} (hx : RepA w κ ρ l x v) : RepA w κ ρ l y v := by
 cases h with
 | refl => exact hx
 | any => trivial
 | c h => exact CVal.Le.rep h hx
theorem AVal.Le.ok {x y : AVal} (h : AVal.Le x y) {n : Nat} (hx : x.ok n = true) : y.ok n = true := by
 cases h with
 | refl => exact hx
 | any => rfl
 | c h => exact CVal.Le.ok h hx
theorem weak_le {n0 : Nat} {s s2 : St} (h0 : n0 ≤ s.H.length) (hH : LeH s.H s2.H) (h : ∀ i, AVal.Le (s.sl i) (s2.sl i)) (ho : ∀ i, s.sl i = .c .any → s2.sl i = .c .any) : Weak n0 s s2 := by
 obtain ⟨hl, hg⟩ := hH.get
 refine .i (by rw [← hl]; exact h0) fun a w κ ρ hR => ⟨hR.defers, fun i hi' => (h i).rep (hR.slot i hi'), fun i hi => ho i (hR.out i hi), fun i => by rw [← hl]; exact (h i).ok (hR.ok i), ⟨fun b cs hb => ?_, fun b cs hb x hx => ?_⟩⟩
 ·obtain ⟨ds, h1, h2⟩ := hg b cs hb
  obtain ⟨k1, k2⟩ := h2.get
  obtain ⟨ho, c, e, b1, b2, b3⟩ := hR.heap.blk b ds h1
  exact ⟨ho, c, e, b1, by omega, fun i hi hi' => (k2 i (by omega) hi).rep (b3 i (by omega) hi')⟩
 ·obtain ⟨ds, h1, h2⟩ := hg b cs hb
  obtain ⟨k1, k2⟩ := h2.get
  obtain ⟨i, hi, rfl⟩ := List.mem_iff_getElem.1 hx
  rw [← hl]
  exact (k2 i (by omega) hi).ok (hR.heap.ok b ds h1 _ (List.getElem_mem (by omega)))
end Go.Proofs.Ythnfliopmjpdmaa.Av
