/- One operation on symbolic values: loads, stores, places in rows, fields. -/
import Derived.Test.YthnfliopmjpdmaaAvS2
namespace Go.Proofs.Ythnfliopmjpdmaa.Av
set_option linter.unusedVariables false
set_option linter.unusedSimpArgs false

/-- A list with its n-th replaced, handed to k. -/
def setK {α β : Type 1} : List α → Nat → α → (List α → Option β) → Option β
  | [], _, _, _ => none
  | _ :: l, 0, x, k => k (x :: l)
  | y :: l, n + 1, x, k => setK l n x fun r => k (y :: r)
theorem setK_eq {α β : Type 1} {x : α} {r : β} : ∀ {l : List α} {n : Nat} {k : List α → Option β}, setK l n x k = some r → n < l.length ∧ k (l.set n x) = some r
  | [], _, _, h => by cases h
  | y :: l, 0, k, h => ⟨by simp, h⟩
  | y :: l, n + 1, k, h => by
    obtain ⟨h1, h2⟩ := setK_eq (l := l) (n := n) h
    exact ⟨by simp; exact h1, by simpa using h2⟩
def setsK {β : Type 1} : List SC → Nat → List SC → (List SC → Option β) → Option β
  | l, _, [], k => k l
  | l, n, x :: xs, k => setK l n x fun r => setsK r (n + 1) xs k
theorem setAt_len (cs : List CVal) (o : Nat) (ds : List CVal) : (setAt cs o ds).length = cs.length := setAt_length ds cs o
theorem setsK_eq {β : Type 1} {r : β} {k : List SC → Option β} : ∀ {xs l : List SC} {n : Nat}, setsK l n xs k = some r → n + xs.length ≤ l.length ∨ xs = []  → ∃ l', denL l' = setAt (denL l) n (denL xs) ∧ k l' = some r
  | [], l, n, h, _ => ⟨l, rfl, h⟩
  | x :: xs, l, n, h, hn => by
    obtain ⟨h1, h2⟩ := setK_eq h
    obtain ⟨l', h3, h4⟩ := setsK_eq (xs := xs) (l := l.set n x) (n := n + 1) h2 (by
      rcases hn with hn | hn
      · left; simp at hn ⊢; omega
      · cases hn)
    refine ⟨l', ?_, h4⟩
    rw [h3]
    simp [denL, setAt, List.map_set]
theorem setsK_len {β : Type 1} {r : β} {k : List SC → Option β} : ∀ {xs l : List SC} {n : Nat}, setsK l n xs k = some r → xs = [] ∨ n + xs.length ≤ l.length
  | [], l, n, h => .inl rfl
  | x :: xs, l, n, h => by
    obtain ⟨h1, h2⟩ := setK_eq h
    right
    rcases setsK_len h2 with rfl | h3
    · simp only [List.length_cons, List.length_nil]; omega
    · simp at h3 ⊢; omega
theorem set_H {H : SH} {b : Nat} {x : SB} : denH (H.set b (some x)) = hset (denH H) b x.den := by
  simp [denH, hset, List.map_set, denB]
/-- A slice that grows, as data. -/
def demS : SC → SC
  | .c (.tip _ cs n) => .c (.f (.row cs n))
  | .tipr z F V d l => .row z F V d l
  | .c x => .c x
  | .row z F V d l => .row z F V d l
  | .elt z F V d l i k => .elt z F V d l i k
  | .pel b z i k => .pel b z i k
theorem demS_den : ∀ x : SC, (demS x).den = x.den.dem
  | .c x => by cases x <;> rfl
  | .row .. => rfl
  | .elt .. => rfl
  | .pel .. => rfl
  | .tipr .. => rfl
def demK {β : Type 1} : List SC → (List SC → Option β) → Option β
  | [], k => k []
  | x :: l, k => match x with
    | .c (.tip _ cs n) => demK l fun r => k (.c (.f (.row cs n)) :: r)
    | .tipr z F V d l' => demK l fun r => k (.row z F V d l' :: r)
    | y => demK l fun r => k (y :: r)
theorem demK_eq {β : Type 1} {r : β} : ∀ {l : List SC} {k : List SC → Option β}, demK l k = some r → ∃ l', denL l' = (denL l).map CVal.dem ∧ k l' = some r
  | [], k, h => ⟨[], rfl, h⟩
  | x :: l, k, h => by
    unfold demK at h
    split at h
    · obtain ⟨l', h1, h2⟩ := demK_eq h
      exact ⟨_, by simp only [denL, List.map_cons] at *; rw [h1]; rfl, h2⟩
    · obtain ⟨l', h1, h2⟩ := demK_eq h
      exact ⟨_, by simp only [denL, List.map_cons] at *; rw [h1]; rfl, h2⟩
    · rename_i hne hne2
      obtain ⟨l', h1, h2⟩ := demK_eq h
      refine ⟨_, ?_, h2⟩
      simp only [denL, List.map_cons] at *
      rw [h1, ← demS_den]
      congr 1
      cases x with
      | c x => cases x <;> first | rfl | exact (hne _ _ _ rfl).elim
      | tipr => exact (hne2 _ _ _ _ _ _ rfl).elim
      | _ => rfl
theorem getD_nth {α : Type} {l : List α} {d : α} {i : Int} (h0 : 0 ≤ i) (h1 : i < l.length) : l[i.toNat]? = some (l.getD i.toNat d) := by
  have : i.toNat < l.length := by omega
  rw [List.getD_eq_getElem?_getD, List.getElem?_eq_getElem this]
  rfl
section
variable {P : Program} {ops : Array Oper} {s : St} {d : Option Tmp} {ty : TypeId} {pos : String} {af : Array Edge} {T : Tb} {r : SR} {H : SH}
/-! ### Loads -/
def soLoad (T : Tb) (tr : Bool) (H : SH) (t : Nat) (v : SV) : Option SR :=
  match lkN T.sz t with
  | some (false, _) => match v with
    | .c (.c (.ptr b off)) => match nth H b with
      | some (some (.cells cs)) => match nth cs off with
        | some (.c (.tip z gs n)) => match tr with
          | true => setK cs off (.c (.f (.row gs n))) fun cs' => setK H b (some (.cells cs')) fun H' => some ⟨.c (.c (.tip z gs n)), none, some H', .tk b, True⟩
          | false => some ⟨.c (.c (.f (.row gs n))), none, none, .ld false b, True⟩
        | some (.tipr z F V e l) => match tr with
          | true => setK cs off (.row z F V e l) fun cs' => setK H b (some (.cells cs')) fun H' => some ⟨.c (.tipr z F V e l), none, some H', .tk b, True⟩
          | false => some ⟨.c (.row z F V e l), none, none, .ld false b, True⟩
        | some y => match tr with
          | true => some ⟨.c y, none, none, .ld true b, True⟩
          | false => some ⟨.c y, none, none, .ld false b, True⟩
        | none => none
      | _ => none
    | .c (.c (.ip cs off)) => match nth0 cs off with
      | some y => some ⟨.c (.c (.f y)), none, none, .ip, True⟩
      | none => none
    | .c (.elt z F V d l i k) => match nth (V (l.getD i.toNat d)) k with
      | some y => some ⟨.c y, none, none, .ip, (0 ≤ i ∧ i < l.length) ∧ VOk z F V⟩
      | none => none
    | .c (.pel b z i k) => match nth H b with
      | some (some (.els z' F V M d l)) => match Nat.beq z z' with
        | true => match nth (V (l.getD i.toNat d)) k with
          | some y => match tr with
            | true => none
            | false => some ⟨.c y, none, none, .ld false b, (0 ≤ i ∧ i < l.length) ∧ VOk z' F V⟩
          | none => none
        | false => none
      | _ => none
    | _ => none
  | some (true, n) => match v with
    | .c (.c (.ptr b off)) => match nth H b with
      | some (some (.cells cs)) => cutK cs off n fun ds => demK ds fun es => match tr with
        | true => some ⟨.agg es, none, none, .ld true b, True⟩
        | false => some ⟨.agg es, none, none, .ld false b, True⟩
      | _ => none
    | .c (.elt z F V d l i k) => cutK (V (l.getD i.toNat d)) k n fun ds => some ⟨.agg ds, none, none, .ip, (0 ≤ i ∧ i < l.length) ∧ VOk z F V⟩
    | .c (.pel b z i k) => match nth H b with
      | some (some (.els z' F V M d l)) => match Nat.beq z z' with
        | true => match tr with
          | true => none
          | false => cutK (V (l.getD i.toNat d)) k n fun ds => some ⟨.agg ds, none, none, .ld false b, (0 ≤ i ∧ i < l.length) ∧ VOk z' F V⟩
        | false => none
      | _ => none
    | _ => none
  | none => none
theorem elt_get {α : Type} {z : Nat} {F : α → List FVal} {V : α → List SC} {e : α} {l : List α} {i : Int} {k : Nat} {y : SC} (hV : VOk z F V) (h0 : 0 ≤ i ∧ i < l.length) (hy : nth (V (l.getD i.toNat e)) k = some y) :
    ∃ fv, (l.flatMap F)[i.toNat * z + k]? = some fv ∧ y.den = .f fv := by
  obtain ⟨hk, fv, h1, h2⟩ := hV.nth hy
  exact ⟨fv, by rw [flatMap_get F z (fun x => (hV x).1) l _ k _ (getD_nth h0.1 h0.2) hk, h1], h2⟩
theorem elt_cut {α : Type} {z : Nat} {F : α → List FVal} {V : α → List SC} {e : α} {l : List α} {i : Int} {k n : Nat} (hV : VOk z F V) (h0 : 0 ≤ i ∧ i < l.length) (hn : k + n ≤ (V (l.getD i.toNat e)).length) :
    i.toNat * z + k + n ≤ (l.flatMap F).length ∧ (((l.flatMap F).drop (i.toNat * z + k)).take n).map CVal.f = denL (((V (l.getD i.toNat e)).drop k).take n) := by
  obtain ⟨h1, h2⟩ := flatMap_drop F z (fun x => (hV x).1) l i.toNat _ (getD_nth (d := e) h0.1 h0.2)
  obtain ⟨h3, h4⟩ := hV (l.getD i.toNat e)
  have h5 : (V (l.getD i.toNat e)).length = z := by rw [← den_len, h4, List.length_map, h3]
  rw [h5] at hn
  refine ⟨by omega, ?_⟩
  rw [← cut_den, h4, ← h2, List.map_take, List.map_drop, List.map_take, List.map_drop]
  rw [List.drop_take, List.take_take, ← List.drop_drop, Nat.min_eq_left (by omega)]
theorem ld_false {b : Nat} : Cl.ld false b = { fr := [b], soft := true } := rfl
theorem soLoad_ok (O : T.Ok P) (hH : s.H = denH H) {t : Nat} {x : Operand} {v : SV} (hx : s.ev x = v.den) (h : soLoad T (feeds ops ⟨d, .load t x, ty, pos, af, none⟩) H t v = some r) : Snd P ops ⟨d, .load t x, ty, pos, af, none⟩ s r := by
  intro rest R hp hk
  unfold soLoad at h
  split at h
  · rename_i m hsz
    have ht := O.sz_of hsz
    split at h
    · rename_i b off
      split at h
      · rename_i cs hb
        have hb' : s.H[b]? = some (some (denL cs)) := by rw [hH]; exact nth_H hb
        split at h
        · rename_i z gs n hy
          have hy' := nth_den hy
          split at h
          · rename_i hf
            obtain ⟨h1, h2⟩ := setK_eq h
            obtain ⟨h3, h4⟩ := setK_eq h2
            injection h4 with h4; subst h4
            refine R_load_tip hf ht hx hb' hy' ?_ hk
            rw [set_H, hH]
            congr 1
            simp only [SB.den, denL, List.map_set]
            apply List.ext_getElem?
            intro j
            have h5 : cs[off]? = some (SC.c (.tip z gs n)) := by rw [← nth_get]; exact hy
            rw [List.getElem?_modify, List.getElem?_set, List.length_map]
            by_cases e : off = j
            · subst e
              rw [List.getElem?_map, h5]
              simp [h1, SC.den, CVal.dem]
            · simp [e]
          · rename_i hf
            injection h with h; subst h
            exact R_load_dem hf ht hx hb' hy' hk
        · rename_i α z F V e l hy
          have hy' := nth_den hy
          split at h
          · rename_i hf
            obtain ⟨h1, h2⟩ := setK_eq h
            obtain ⟨h3, h4⟩ := setK_eq h2
            injection h4 with h4; subst h4
            refine R_load_tip hf ht hx hb' hy' ?_ hk
            rw [set_H, hH]
            congr 1
            simp only [SB.den, denL, List.map_set]
            apply List.ext_getElem?
            intro j
            have h5 : cs[off]? = some (SC.tipr z F V e l) := by rw [← nth_get]; exact hy
            rw [List.getElem?_modify, List.getElem?_set, List.length_map]
            by_cases e : off = j
            · subst e
              rw [List.getElem?_map, h5]
              simp [h1, SC.den, CVal.dem]
            · simp [e]
          · rename_i hf
            injection h with h; subst h
            exact R_load_dem hf ht hx hb' hy' hk
        · rename_i y hne hne2 hy
          have hfl := flat_c (noTip_of (x := y) (fun z gs n e => hne z gs n e) (fun α z F V d l e => hne2 α z F V d l e))
          split at h
          · rename_i hf
            injection h with h; subst h
            refine R_load_ptr1 ht hx hb' (nth_den hy) hfl ?_
            rw [hf]; exact hk
          · rename_i hf
            injection h with h; subst h
            refine R_load_ptr1 ht hx hb' (nth_den hy) hfl ?_
            rw [hf]; exact hk
        · cases h
      · cases h
    · rename_i cs off
      split at h
      · rename_i y hy
        rw [nth0_get] at hy
        injection h with h; subst h
        exact R_load_ip1 ht hx hy hk
      · cases h
    · rename_i α z F V e l i k
      split at h
      · rename_i y hy
        injection h with h; subst h
        obtain ⟨h0, hV⟩ := hp
        obtain ⟨fv, h1, h2⟩ := elt_get hV h0 hy
        refine R_load_ip1 ht hx h1 ?_
        rw [← h2]; exact hk
      · cases h
    · rename_i b z i k
      split at h
      · rename_i α z' F V M e l hb
        have hb' : s.H[b]? = some (some ((l.flatMap F).map CVal.f)) := by rw [hH]; exact nth_H hb
        split at h
        · rename_i hz
          have hz := Nat.eq_of_beq_eq_true hz
          subst hz
          split at h
          · rename_i y hy
            split at h
            · cases h
            · rename_i hf
              injection h with h; subst h
              obtain ⟨h0, hV⟩ := hp
              obtain ⟨fv, h1, h2⟩ := elt_get hV h0 hy
              refine R_load_ptr1 (y := .f fv) ht hx hb' (by rw [List.getElem?_map, h1]; rfl) rfl ?_
              rw [hf, ← h2]; exact hk
          · cases h
        · cases h
      · cases h
    · cases h
  · rename_i n hsz
    have ht := O.sz_of hsz
    split at h
    · rename_i b off
      split at h
      · rename_i cs hb
        have hb' : s.H[b]? = some (some (denL cs)) := by rw [hH]; exact nth_H hb
        obtain ⟨h1, h2⟩ := cutK_eq h
        obtain ⟨es, h3, h4⟩ := demK_eq h2
        have hc : ((denL cs).drop off |>.take n).map CVal.dem = denL es := by rw [cut_den, h3]
        split at h4
        · rename_i hf
          injection h4 with h4; subst h4
          refine R_load_ptrn ht hx hb' (by rw [den_len]; exact h1) hc ?_
          rw [hf]; exact hk
        · rename_i hf
          injection h4 with h4; subst h4
          refine R_load_ptrn ht hx hb' (by rw [den_len]; exact h1) hc ?_
          rw [hf]; exact hk
      · cases h
    · rename_i α z F V e l i k
      obtain ⟨h1, h2⟩ := cutK_eq h
      injection h2 with h2; subst h2
      obtain ⟨h0, hV⟩ := hp
      obtain ⟨h3, h4⟩ := elt_cut hV h0 h1
      exact R_load_ipn ht hx h3 h4 hk
    · rename_i b z i k
      split at h
      · rename_i α z' F V M e l hb
        have hb' : s.H[b]? = some (some ((l.flatMap F).map CVal.f)) := by rw [hH]; exact nth_H hb
        split at h
        · rename_i hz
          have hz := Nat.eq_of_beq_eq_true hz
          subst hz
          split at h
          · cases h
          · rename_i hf
            obtain ⟨h1, h2⟩ := cutK_eq h
            injection h2 with h2; subst h2
            obtain ⟨h0, hV⟩ := hp
            obtain ⟨h3, h4⟩ := elt_cut hV h0 h1
            refine R_load_ptrn (cs := denL (((V (l.getD i.toNat e)).drop k).take n)) ht hx hb' (by rw [List.length_map]; exact h3) ?_ ?_
            · rw [← h4, ← List.map_drop, ← List.map_take, List.map_map]
              rfl
            · rw [hf]; exact hk
        · cases h
      · cases h
    · cases h
  · cases h
end
end Go.Proofs.Ythnfliopmjpdmaa.Av
