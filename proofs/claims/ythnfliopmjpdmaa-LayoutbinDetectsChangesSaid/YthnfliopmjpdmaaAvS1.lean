/- Symbolic states: what an evaluator can take apart, and what it stands for. -/
import Derived.Test.YthnfliopmjpdmaaAvR3
namespace Go.Proofs.Ythnfliopmjpdmaa.Av
set_option linter.unusedVariables false
set_option linter.unusedSimpArgs false

/-- One cell: a value; a row of elements; a place in a row; a place in a block of elements; a row that grows. -/
inductive SC : Type 1 where
  | c (x : CVal)
  | row {α : Type} (z : Nat) (F : α → List FVal) (V : α → List SC) (d : α) (l : List α)
  | elt {α : Type} (z : Nat) (F : α → List FVal) (V : α → List SC) (d : α) (l : List α) (i : Int) (k : Nat)
  | pel (b z : Nat) (i : Int) (k : Nat)
  | tipr {α : Type} (z : Nat) (F : α → List FVal) (V : α → List SC) (d : α) (l : List α)
def SC.den : SC → CVal
  | .c x => x
  | .row z F V d l => .f (.row (l.flatMap F) l.length)
  | .elt z F V d l i k => .ip (l.flatMap F) (i.toNat * z + k)
  | .pel b z i k => .ptr b (i.toNat * z + k)
  | .tipr z F V d l => .tip z (l.flatMap F) l.length
inductive ST : Type 1 where
  | c (x : SC)
  | agg (l : List SC)
inductive SV : Type 1 where
  | c (x : SC)
  | agg (l : List SC)
  | tup (l : List ST)
def denL (l : List SC) : List CVal := l.map SC.den
def ST.den : ST → TVal
  | .c x => .c x.den
  | .agg l => .agg (denL l)
def SV.den : SV → AVal
  | .c x => .c x.den
  | .agg l => .agg (denL l)
  | .tup l => .tup (l.map ST.den)
/-- What a slot holds: a value; a value if b; nothing. -/
inductive SE : Type 1 where
  | v (x : SV)
  | g (b : Bool) (x : SV)
  | u
def SE.den : SE → AVal
  | .v x => x.den
  | .g b x => bif b then x.den else .c .und
  | .u => .c .und
/-- A block: cells; elements. -/
inductive SB : Type 1 where
  | cells (l : List SC)
  | els {α : Type} (z : Nat) (F : α → List FVal) (V : α → List SC) (M : List FVal → Option α) (d : α) (l : List α)
def SB.den : SB → List CVal
  | .cells l => denL l
  | .els z F V M d l => (l.flatMap F).map CVal.f
abbrev SH := List (Option SB)
abbrev SL := List (Nat × SE)
def denB : Option SB → Option (List CVal)
  | some b => some b.den
  | none => none
def denH (H : SH) : HB := H.map denB
def denE (l : SL) : List (Nat × AVal) := l.map fun p => (p.1, p.2.den)
/-- The state. -/
def SS (l : SL) (H : SH) : St := St.of (denH H) (denE l)
theorem SS_H (l : SL) (H : SH) : (SS l H).H = denH H := H_of
theorem SS_put (l : SL) (H : SH) (d : Nat) (x : SE) : (SS l H).put (some d) x.den = SS ((d, x) :: l) H := rfl
theorem setH_of {H H' : HB} : ∀ l : List (Nat × AVal), (St.of H l).setH H' = St.of H' l
  | [] => rfl
  | (d, x) :: l => by
    show ((St.of H l).put (some d) x).setH H' = _
    rw [← put_setH, setH_of l]
    rfl
theorem SS_setH (l : SL) (H H' : SH) : (SS l H).setH (denH H') = SS l H' := setH_of _
theorem den_len (l : List SC) : (denL l).length = l.length := by simp [denL]
theorem denH_len (H : SH) : (denH H).length = H.length := by simp [denH]

def lk : SL → Nat → Option SE
  | [], _ => none
  | (d, e) :: l, t => match Nat.beq d t with
    | true => some e
    | false => lk l t
theorem lk_ev {H : SH} {t : Nat} : ∀ {l : SL} {e : SE}, lk l t = some e → (SS l H).ev (.tmp t) = e.den
  | [], e, h => by cases h
  | (d, x) :: l, e, h => by
    unfold lk at h
    split at h
    · rename_i hb
      injection h with h
      subst h
      have hd : d = t := Nat.eq_of_beq_eq_true hb
      subst hd
      exact ev_of_same
    · rename_i hb
      have hd : ¬ d = t := fun e => by subst e; rw [Nat.beq_refl] at hb; cases hb
      exact (ev_of_other (fun e => hd e.symm)).trans (lk_ev (l := l) h)
def nth {α : Type 1} : List α → Nat → Option α
  | [], _ => none
  | x :: _, 0 => some x
  | _ :: l, n + 1 => nth l n
theorem nth_get {α : Type 1} : ∀ (l : List α) (n : Nat), nth l n = l[n]?
  | [], n => by simp [nth]
  | x :: l, 0 => by simp [nth]
  | x :: l, n + 1 => by simp [nth, nth_get l n]
theorem nth_den {l : List SC} {n : Nat} {x : SC} (h : nth l n = some x) : (denL l)[n]? = some x.den := by
  rw [nth_get] at h
  simp [denL, h]
theorem nth_H {H : SH} {n : Nat} {x : SB} (h : nth H n = some (some x)) : (denH H)[n]? = some (some x.den) := by
  rw [nth_get] at h
  simp [denH, h, denB]
/-- n cells from off on, handed to k. -/
def takeK {β : Type 1} : List SC → Nat → (List SC → Option β) → Option β
  | _, 0, k => k []
  | [], _ + 1, _ => none
  | x :: l, n + 1, k => takeK l n fun r => k (x :: r)
def dropK {β : Type 1} : List SC → Nat → (List SC → Option β) → Option β
  | l, 0, k => k l
  | [], _ + 1, _ => none
  | _ :: l, n + 1, k => dropK l n k
def cutK {β : Type 1} (l : List SC) (off n : Nat) (k : List SC → Option β) : Option β := dropK l off fun r => takeK r n k
theorem takeK_eq {β : Type 1} {k : List SC → Option β} {r : β} : ∀ (l : List SC) (n : Nat), takeK l n k = some r → n ≤ l.length ∧ k (l.take n) = some r
  | l, 0, h => by
    refine ⟨Nat.zero_le _, ?_⟩
    have : takeK l 0 k = k [] := by cases l <;> rfl
    rw [this] at h
    simpa using h
  | [], n + 1, h => by cases h
  | x :: l, n + 1, h => by
    obtain ⟨h1, h2⟩ := takeK_eq (k := fun r => k (x :: r)) l n h
    exact ⟨by simp; exact h1, by simpa using h2⟩
theorem dropK_eq {β : Type 1} {k : List SC → Option β} {r : β} : ∀ (l : List SC) (n : Nat), dropK l n k = some r → n ≤ l.length ∧ k (l.drop n) = some r
  | l, 0, h => by
    refine ⟨Nat.zero_le _, ?_⟩
    have : dropK l 0 k = k l := by cases l <;> rfl
    rw [this] at h
    simpa using h
  | [], n + 1, h => by cases h
  | x :: l, n + 1, h => by
    obtain ⟨h1, h2⟩ := dropK_eq (k := k) l n h
    exact ⟨by simp; exact h1, by simpa using h2⟩
theorem cutK_eq {β : Type 1} {k : List SC → Option β} {r : β} {l : List SC} {off n : Nat} (h : cutK l off n k = some r) : off + n ≤ l.length ∧ k ((l.drop off).take n) = some r := by
  obtain ⟨h1, h2⟩ := dropK_eq _ _ h
  obtain ⟨h3, h4⟩ := takeK_eq _ _ h2
  rw [List.length_drop] at h3
  exact ⟨by omega, h4⟩
theorem cut_den {l : List SC} {off n : Nat} : ((denL l).drop off).take n = denL ((l.drop off).take n) := by simp [denL]
end Go.Proofs.Ythnfliopmjpdmaa.Av
