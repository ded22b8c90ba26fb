/- One operation on symbolic values: stores, places in rows, fields, numbers, strings. -/
import Derived.Test.YthnfliopmjpdmaaAvS3
namespace Go.Proofs.Ythnfliopmjpdmaa.Av
set_option linter.unusedVariables false
set_option linter.unusedSimpArgs false

def oneS : SC → Bool
  | .c x => x.one
  | _ => true
theorem oneS_den : ∀ {x : SC}, oneS x = true → x.den.one = true
  | .c x, h => h
  | .row .., _ => rfl
  | .elt .., _ => rfl
  | .pel .., _ => rfl
  | .tipr .., _ => rfl
def allOne : List SC → Bool
  | [] => true
  | x :: l => match oneS x with
    | true => allOne l
    | false => false
theorem allOne_den : ∀ {l : List SC}, allOne l = true → (denL l).all CVal.one = true
  | [], _ => rfl
  | x :: l, h => by
    unfold allOne at h
    split at h
    · rename_i h1
      simp only [denL, List.map_cons, List.all_cons, Bool.and_eq_true]
      exact ⟨oneS_den h1, allOne_den h⟩
    · cases h
def lenIs {α : Type 1} : List α → Nat → Bool
  | [], 0 => true
  | _ :: l, n + 1 => lenIs l n
  | _, _ => false
theorem lenIs_eq {α : Type 1} : ∀ {l : List α} {n : Nat}, lenIs l n = true → l.length = n
  | [], 0, _ => rfl
  | _ :: l, n + 1, h => by simp [lenIs_eq (l := l) h]
  | [], _ + 1, h => by cases h
  | _ :: _, 0, h => by cases h
/-- Cells as data. -/
def fvK {β : Type 1} : List SC → (List FVal → Option β) → Option β
  | [], k => k []
  | x :: l, k => match x with
    | .c (.f .nils) => fvK l fun r => k (.row [] 0 :: r)
    | .c (.f y) => fvK l fun r => k (y :: r)
    | .c (.tip _ cs n) => fvK l fun r => k (.row cs n :: r)
    | .row z F V d l' => fvK l fun r => k (.row (l'.flatMap F) l'.length :: r)
    | .tipr z F V d l' => fvK l fun r => k (.row (l'.flatMap F) l'.length :: r)
    | _ => none
theorem fvK_eq {β : Type 1} {r : β} : ∀ {l : List SC} {k : List FVal → Option β}, fvK l k = some r → ∃ fs, fzs (denL l) = some fs ∧ k fs = some r
  | [], k, h => ⟨[], rfl, h⟩
  | x :: l, k, h => by
    unfold fvK at h
    split at h
    · obtain ⟨fs, h1, h2⟩ := fvK_eq h
      refine ⟨_, ?_, h2⟩
      simp only [denL, List.map_cons, fzs, SC.den, CVal.fz] at *
      rw [h1]
    · rename_i y hne
      obtain ⟨fs, h1, h2⟩ := fvK_eq h
      refine ⟨_, ?_, h2⟩
      have e : CVal.fz (.f y) = some y := by
        cases y with
        | nils => exact (hne rfl).elim
        | _ => rfl
      simp only [denL, List.map_cons, fzs, SC.den, e] at *
      rw [h1]
    · obtain ⟨fs, h1, h2⟩ := fvK_eq h
      refine ⟨_, ?_, h2⟩
      simp only [denL, List.map_cons, fzs, SC.den, CVal.fz] at *
      rw [h1]
    · obtain ⟨fs, h1, h2⟩ := fvK_eq h
      refine ⟨_, ?_, h2⟩
      simp only [denL, List.map_cons, fzs, SC.den, CVal.fz] at *
      rw [h1]
    · obtain ⟨fs, h1, h2⟩ := fvK_eq h
      refine ⟨_, ?_, h2⟩
      simp only [denL, List.map_cons, fzs, SC.den, CVal.fz] at *
      rw [h1]
    · cases h
/-- Cells that are data as they are. -/
def ffK {β : Type 1} : List SC → (List FVal → Option β) → Option β
  | [], k => k []
  | x :: l, k => match x with
    | .c (.f y) => ffK l fun r => k (y :: r)
    | .row z F V d l' => ffK l fun r => k (.row (l'.flatMap F) l'.length :: r)
    | _ => none
theorem ffK_eq {β : Type 1} {r : β} : ∀ {l : List SC} {k : List FVal → Option β}, ffK l k = some r → ∃ fs, denL l = fs.map CVal.f ∧ k fs = some r
  | [], k, h => ⟨[], rfl, h⟩
  | x :: l, k, h => by
    unfold ffK at h
    split at h
    · obtain ⟨fs, h1, h2⟩ := ffK_eq h
      exact ⟨_, by simp only [denL, List.map_cons, SC.den] at *; rw [h1], h2⟩
    · obtain ⟨fs, h1, h2⟩ := ffK_eq h
      exact ⟨_, by simp only [denL, List.map_cons, SC.den] at *; rw [h1], h2⟩
    · cases h
def setF : List FVal → Nat → List FVal → List FVal
  | cs, _, [] => cs
  | cs, o, x :: xs => setF (cs.set o x) (o + 1) xs
theorem setF_len : ∀ (xs cs : List FVal) (o : Nat), (setF cs o xs).length = cs.length
  | [], _, _ => rfl
  | x :: xs, cs, o => by rw [setF, setF_len xs, List.length_set]
theorem setF_map : ∀ (xs cs : List FVal) (o : Nat), setAt (cs.map CVal.f) o (xs.map CVal.f) = (setF cs o xs).map CVal.f
  | [], _, _ => rfl
  | x :: xs, cs, o => by
    simp only [List.map_cons, setAt, setF]
    rw [← setF_map xs, List.map_set]
theorem setF_app (A : List FVal) : ∀ (xs B : List FVal) (o : Nat), setF (A ++ B) (A.length + o) xs = A ++ setF B o xs
  | [], B, o => rfl
  | x :: xs, B, o => by
    simp only [setF]
    rw [List.set_append_right _ _ (by omega), Nat.add_sub_cancel_left]
    exact setF_app A xs (B.set o x) (o + 1)
theorem setF_left (B : List FVal) : ∀ (xs A : List FVal) (o : Nat), o + xs.length ≤ A.length → setF (A ++ B) o xs = setF A o xs ++ B
  | [], A, o, _ => rfl
  | x :: xs, A, o, h => by
    simp only [List.length_cons] at h
    simp only [setF]
    rw [List.set_append_left _ _ (by omega), setF_left B xs _ (o + 1) (by rw [List.length_set]; omega)]
/-- An element of a row is replaced. -/
theorem els_set {α : Type} {z : Nat} {F : α → List FVal} (hF : ∀ x, (F x).length = z) (x' : α) : ∀ (l : List α) (i k : Nat) (a : α) (fs : List FVal), l[i]? = some a → k + fs.length ≤ z → F x' = setF (F a) k fs → setF (l.flatMap F) (i * z + k) fs = (l.set i x').flatMap F
  | [], i, k, a, fs, h, _, _ => by simp at h
  | x :: l, 0, k, a, fs, h, hk, e => by
    have : x = a := by simpa using h
    subst this
    simp only [List.flatMap_cons, Nat.zero_mul, Nat.zero_add, List.set_cons_zero]
    rw [setF_left _ _ _ _ (by rw [hF]; exact hk), e]
  | x :: l, i + 1, k, a, fs, h, hk, e => by
    simp only [List.flatMap_cons, List.set_cons_succ]
    rw [show (i + 1) * z + k = (F x).length + (i * z + k) by rw [hF, Nat.succ_mul]; omega, setF_app]
    rw [els_set hF x' l i k a fs (by simpa using h) hk e]
section
variable {P : Program} {ops : Array Oper} {s : St} {d : Option Tmp} {ty : TypeId} {pos : String} {af : Array Edge} {T : Tb} {r : SR} {H : SH}
/-! ### Stores -/
def rowOf (cs : List FVal) (n : Nat) : SE := .v (.c (.c (.f (.row cs n))))
def anyV : SV := .c (.c .any)
def soStore (T : Tb) (H : SH) (t : Nat) (v : SV) (y : Operand) (u : SV) : Option SR :=
  match lkN T.sz t with
  | some (_, n) => match v with
    | .c (.c (.ptr b off)) => match nth H b with
      | some (some (.cells cs)) => match u with
        | .c (.c (.tip z gs m)) => match y with
          | .tmp w => match Nat.beq n 1 with
            | true => setK cs off (.c (.tip z gs m)) fun cs' => setK H b (some (.cells cs')) fun H' => some ⟨anyV, some (w, .v (.c (.c (.f (.row gs m))))), some H', .stt b, True⟩
            | false => none
          | _ => none
        | .c (.tipr z F V e l) => match y with
          | .tmp w => match Nat.beq n 1 with
            | true => setK cs off (.tipr z F V e l) fun cs' => setK H b (some (.cells cs')) fun H' => some ⟨anyV, some (w, .v (.c (.row z F V e l))), some H', .stt b, True⟩
            | false => none
          | _ => none
        | .c x => match Nat.beq n 1, oneS x with
          | true, true => setK cs off x fun cs' => setK H b (some (.cells cs')) fun H' => some ⟨anyV, none, some H', .st b, True⟩
          | _, _ => none
        | .agg ds => match lenIs ds n, allOne ds, Nat.ble 1 n with
          | true, true, true => setsK cs off ds fun cs' => setK H b (some (.cells cs')) fun H' => some ⟨anyV, none, some H', .st b, True⟩
          | _, _, _ => none
        | .tup _ => none
      | _ => none
    | .c (.pel b z i k) => match nth H b with
      | some (some (.els z' F V M e l)) => match Nat.beq z z' with
        | true => match u with
          | .c (.c (.tip ..)) => none
          | .c (.tipr ..) => none
          | .c x => match Nat.beq n 1 with
            | true => ffK [x] fun fs => match M (setF (F (l.getD i.toNat e)) k fs) with
              | some x' => setK H b (some (.els z' F V M e (l.set i.toNat x'))) fun H' => some ⟨anyV, none, some H', .st b, (0 ≤ i ∧ i < l.length) ∧ k < z ∧ VOk z' F V ∧ F x' = setF (F (l.getD i.toNat e)) k fs⟩
              | none => none
            | false => none
          | .agg ds => match lenIs ds n with
            | true => ffK ds fun fs => match M (setF (F (l.getD i.toNat e)) k fs) with
              | some x' => setK H b (some (.els z' F V M e (l.set i.toNat x'))) fun H' => some ⟨anyV, none, some H', .st b, (0 ≤ i ∧ i < l.length) ∧ k + fs.length ≤ z ∧ VOk z' F V ∧ F x' = setF (F (l.getD i.toNat e)) k fs⟩
              | none => none
            | false => none
          | .tup _ => none
        | false => none
      | _ => none
    | _ => none
  | none => none
theorem cellsS_agg {ds : List SC} (h : allOne ds = true) : (SV.agg ds).den.cells = some (denL ds) := by
  show (if (denL ds).all CVal.one then some (denL ds) else none) = _
  rw [allOne_den h]; rfl
theorem cellsS_one {x : SC} (h : oneS x = true) : (SV.c x).den.cells = some [x.den] := by
  show (if x.den.one then some [x.den] else none) = _
  rw [oneS_den h]; rfl
theorem all_f (fs : List FVal) : (fs.map CVal.f).all CVal.one = true := by
  simp only [List.all_map, List.all_eq_true]
  intro x _; rfl
theorem upd_any {H' : SH} {cl : Cl} {p : Prop} : SR.upd ⟨anyV, none, some H', cl, p⟩ s none = s.setH (denH H') := rfl
theorem soStore_ok (O : T.Ok P) (hH : s.H = denH H) {t : Nat} {x y : Operand} {v u : SV} (hx : s.ev x = v.den) (hy : s.ev y = u.den) (h : soStore T H t v y u = some r) : Snd P ops ⟨none, .store t x y, ty, pos, af, none⟩ s r := by
  intro rest R hp hk
  unfold soStore at h
  split at h
  · rename_i q n hsz
    have ht := O.sz_of hsz
    split at h
    · rename_i b off
      split at h
      · rename_i cs hb
        have hb' : s.H[b]? = some (some (denL cs)) := by rw [hH]; exact nth_H hb
        split at h
        · rename_i z gs m
          split at h
          · rename_i w
            split at h
            · rename_i hn
              have hn := Nat.eq_of_beq_eq_true hn
              subst hn
              obtain ⟨h1, h2⟩ := setK_eq h
              obtain ⟨h3, h4⟩ := setK_eq h2
              injection h4 with h4; subst h4
              refine R_store_tip ht hx hb' hy (by rw [den_len]; simpa using h1) ?_ hk
              rw [set_H, hH]
              simp [SB.den, denL, List.map_set, SC.den]
            · cases h
          · cases h
        · rename_i α z F V e l
          split at h
          · rename_i w
            split at h
            · rename_i hn
              have hn := Nat.eq_of_beq_eq_true hn
              subst hn
              obtain ⟨h1, h2⟩ := setK_eq h
              obtain ⟨h3, h4⟩ := setK_eq h2
              injection h4 with h4; subst h4
              refine R_store_tip ht hx hb' hy (by rw [den_len]; simpa using h1) ?_ hk
              rw [set_H, hH]
              simp [SB.den, denL, List.map_set, SC.den]
            · cases h
          · cases h
        · rename_i x' hne hne2
          split at h
          · rename_i hn ho
            have hn := Nat.eq_of_beq_eq_true hn
            subst hn
            obtain ⟨h1, h2⟩ := setK_eq h
            obtain ⟨h3, h4⟩ := setK_eq h2
            injection h4 with h4; subst h4
            refine R_store ht hx hb' hy (flat_c (noTip_of (fun z gs m e => hne z gs m (by rw [e])) (fun α z F V d l e => hne2 α z F V d l (by rw [e])))) (cellsS_one ho) ⟨rfl, by rw [den_len]; exact h1⟩ ?_ hk
            rw [set_H, hH]
            simp [SB.den, denL, List.map_set, setAt]
          · cases h
        · rename_i ds
          split at h
          · rename_i hn ho hn1
            have hn1 := Nat.le_of_ble_eq_true hn1
            have hn := lenIs_eq hn
            have hl := setsK_len h
            obtain ⟨cs', h1, h2⟩ := setsK_eq h (by rcases hl with h | h; exact .inr h; exact .inl h)
            obtain ⟨h3, h4⟩ := setK_eq h2
            injection h4 with h4; subst h4
            by_cases hz : off + n ≤ cs.length
            · refine R_store ht hx hb' hy rfl (cellsS_agg ho) ⟨by rw [den_len]; exact hn, by rw [den_len]; exact hz⟩ ?_ hk
              rw [set_H, hH]
              simp only [SB.den, h1]
            · exfalso
              rcases hl with rfl | hl
              · simp at hn
                omega
              · omega
          · cases h
        · cases h
      · cases h
    · rename_i b z i k
      split at h
      · rename_i α z' F V M e l hb
        have hb' : s.H[b]? = some (some ((l.flatMap F).map CVal.f)) := by rw [hH]; exact nth_H hb
        split at h
        · rename_i hz
          have hz := Nat.eq_of_beq_eq_true hz
          subst hz
          split at h
          · cases h
          · cases h
          · rename_i x' hne hne2
            split at h
            · rename_i hn
              have hn := Nat.eq_of_beq_eq_true hn
              subst hn
              obtain ⟨fs, h1, h2⟩ := ffK_eq h
              split at h2
              · rename_i a ha
                obtain ⟨h3, h4⟩ := setK_eq h2
                injection h4 with h4; subst h4
                obtain ⟨h0, hkz, hV, hF⟩ := hp
                have hfs : fs.length = 1 := by have := congrArg List.length h1; simpa [denL] using this.symm
                have hlen := flatMap_drop F z (fun x => (hV x).1) l i.toNat _ (getD_nth (d := e) h0.1 h0.2)
                have e1 : [x'.den] = fs.map CVal.f := h1
                have ho : x'.den.one = true := by
                  cases fs with
                  | nil => simp at hfs
                  | cons f fs => simp only [List.map_cons, List.cons.injEq] at e1; rw [e1.1]; rfl
                refine R_store ht hx hb' hy (flat_c (noTip_of (fun z gs m e => hne z gs m (by rw [e])) (fun α z F V d l e => hne2 α z F V d l (by rw [e])))) (ds := fs.map CVal.f) ?_ ⟨by simpa using hfs, by rw [List.length_map]; omega⟩ ?_ hk
                · show (if x'.den.one then some [x'.den] else none) = _
                  rw [ho, e1]; rfl
                · rw [set_H, hH, setF_map, els_set (fun x => (hV x).1) a l i.toNat k _ fs (getD_nth h0.1 h0.2) (by omega) hF]
                  rfl
              · cases h2
            · cases h
          · rename_i ds
            split at h
            · rename_i hn
              have hn := lenIs_eq hn
              obtain ⟨fs, h1, h2⟩ := ffK_eq h
              split at h2
              · rename_i a ha
                obtain ⟨h3, h4⟩ := setK_eq h2
                injection h4 with h4; subst h4
                obtain ⟨h0, hkz, hV, hF⟩ := hp
                have hfs : fs.length = n := by have := congrArg List.length h1; rw [den_len, List.length_map] at this; omega
                have hlen := flatMap_drop F z (fun x => (hV x).1) l i.toNat _ (getD_nth (d := e) h0.1 h0.2)
                refine R_store ht hx hb' hy rfl (ds := fs.map CVal.f) ?_ ⟨by simpa using hfs, by rw [List.length_map]; omega⟩ ?_ hk
                · show (if (denL ds).all CVal.one then some (denL ds) else none) = _
                  rw [h1, all_f]; rfl
                · rw [set_H, hH, setF_map, els_set (fun x => (hV x).1) a l i.toNat k _ fs (getD_nth h0.1 h0.2) (by omega) hF]
                  rfl
              · cases h2
            · cases h
          · cases h
        · cases h
      · cases h
    · cases h
  · cases h
end
end Go.Proofs.Ythnfliopmjpdmaa.Av
