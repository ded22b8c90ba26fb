/- Runs of operations on symbolic states: short-circuit guards are carried along, not split. -/
import Derived.Test.YthnfliopmjpdmaaAvS7
namespace Go.Proofs.Ythnfliopmjpdmaa.Av
set_option linter.unusedVariables false
set_option linter.unusedSimpArgs false

section
variable {P : Program} {ops : Array Oper} {s : St} {T : Tb} {r : SR} {H : SH} {l : SL}
/-! ### An operation that is left out touches nothing -/
inductive AccLe : List Cl → List Cl → Prop
  | nil : AccLe [] []
  | same (c : Cl) {a b : List Cl} (h : AccLe a b) : AccLe (c :: a) (c :: b)
  | drop (c : Cl) {a b : List Cl} (h : AccLe a b) : AccLe (c :: a) (.q0 :: b)
theorem AccLe.refl : ∀ a : List Cl, AccLe a a
  | [] => .nil
  | c :: a => .same c (AccLe.refl a)
theorem AccLe.len {a b : List Cl} (h : AccLe a b) : a.length = b.length := by induction h <;> simp [*]
theorem AccLe.get {a b : List Cl} (h : AccLe a b) : ∀ i, b.getD i .q0 = a.getD i .q0 ∨ b.getD i .q0 = .q0 := by
  induction h with
  | nil => intro i; exact .inl rfl
  | same c h ih =>
    intro i
    cases i with
    | zero => exact .inl rfl
    | succ i => simpa using ih i
  | drop c h ih =>
    intro i
    cases i with
    | zero => exact .inr rfl
    | succ i => simpa using ih i
theorem AccLe.snoc {a b : List Cl} (h : AccLe a b) {c d : Cl} (hc : d = c ∨ d = .q0) : AccLe (a ++ [c]) (b ++ [d]) := by
  induction h with
  | nil =>
    rcases hc with rfl | rfl
    · exact .same _ .nil
    · exact .drop _ .nil
  | same x h ih => exact .same x ih
  | drop x h ih => exact .drop x ih
theorem AccLe.rev {a b : List Cl} (h : AccLe a b) : AccLe a.reverse b.reverse := by
  induction h with
  | nil => exact .nil
  | same c h ih => rw [List.reverse_cons, List.reverse_cons]; exact ih.snoc (.inl rfl)
  | drop c h ih => rw [List.reverse_cons, List.reverse_cons]; exact ih.snoc (.inr rfl)
theorem noMeet_nil (m : List Nat) : noMeet m [] = true := by simp [noMeet]
theorem below_nil (n : Option Nat) : below n [] = true := by cases n <;> simp [below]
theorem compat_left {c d : Cl} {x y : Oper} (h : compat ops c d x y = true) : compat ops .q0 d x y = true := by
  simp only [compat, Bool.and_eq_true] at h ⊢
  obtain ⟨⟨⟨⟨⟨⟨⟨⟨⟨⟨⟨h1, h2⟩, h3⟩, h4⟩, h5⟩, h6⟩, h7⟩, h8⟩, h9⟩, h10⟩, h11⟩, h12⟩ := h
  exact ⟨⟨⟨⟨⟨⟨⟨⟨⟨⟨⟨h1, rfl⟩, noMeet_nil _⟩, rfl⟩, rfl⟩, below_nil _⟩, rfl⟩, h8⟩, rfl⟩, by rw [noMeet_nil]; simp⟩, rfl⟩, below_nil _⟩
theorem compat_right {c d : Cl} {x y : Oper} (h : compat ops c d x y = true) : compat ops c .q0 x y = true := by
  simp only [compat, Bool.and_eq_true] at h ⊢
  obtain ⟨⟨⟨⟨⟨⟨⟨⟨⟨⟨⟨h1, h2⟩, h3⟩, h4⟩, h5⟩, h6⟩, h7⟩, h8⟩, h9⟩, h10⟩, h11⟩, h12⟩ := h
  exact ⟨⟨⟨⟨⟨⟨⟨⟨⟨⟨⟨h1, noMeet_nil _⟩, rfl⟩, by simp⟩, below_nil _⟩, rfl⟩, h7⟩, rfl⟩, by rw [noMeet_nil]; simp⟩, rfl⟩, below_nil _⟩, rfl⟩
theorem critB_le {a b : List Cl} (h : AccLe a b) (hc : critB ops a = true) : critB ops b = true := by
  simp only [critB, Bool.and_eq_true, decide_eq_true_eq, List.all_eq_true, List.mem_range, Bool.or_eq_true] at hc ⊢
  obtain ⟨h1, h2⟩ := hc
  refine ⟨by rw [← h.len]; exact h1, fun j hj => ⟨(h2 j hj).1, fun i hi => ?_⟩⟩
  rcases (h2 j hj).2 i hi with k | k
  · exact .inl k
  · right
    rcases h.get i with ei | ei <;> rcases h.get j with ej | ej <;> rw [ei, ej]
    · exact k
    · exact compat_right k
    · exact compat_left k
    · exact compat_left (compat_right k)
theorem WOpsD_le {K : St → Prop} : ∀ (l : List Oper) (s : St) (a b : List Cl), AccLe a b → WOpsD P ops l s a K → WOpsD P ops l s b K
  | [], s, a, b, h, k => ⟨critB_le h.rev k.1, k.2⟩
  | o :: l, s, a, b, h, k => WOp_mono (fun c s2 k => WOpsD_le l s2 _ _ (.same c h) k) k
theorem WR_q0 {rest : List Oper} {R : Rg} {c : Cl} (h : WR P ops rest s (R.push c)) : WR P ops rest s (R.push .q0) := by
  cases R with
  | plain K => exact h
  | drawn acc K => exact ⟨WOpsD_le rest s _ _ (.drop c (AccLe.refl _)) h.out⟩
/-! ### What operands stand for -/
def evC : Value → Option SV
  | .int k n => some (.c (.c (.f (.v (.int k n)))))
  | .bool b => some (.c (.c (.f (.v (.bool b)))))
  | .string b => some (.c (.c (.f (.v (.string b)))))
  | .slice none 0 0 => some (.c (.c (.f .nils)))
  | .pointer none => some (.c (.c (.f (.v (.pointer none)))))
  | _ => none
theorem evC_den {v : Value} {x : SV} (h : evC v = some x) : ofV v = x.den := by
  unfold evC at h
  split at h <;> first | (cases h; done) | (injection h with h; subst h; rfl)
def evU (l : SL) : Operand → Option SV
  | .tmp t => match lk l t with
    | some (.v x) => some x
    | _ => none
  | .const v => evC v
  | _ => none
theorem evU_den {x : Operand} {v : SV} (h : evU l x = some v) : (SS l H).ev x = v.den := by
  unfold evU at h
  split at h
  · split at h
    · rename_i e
      injection h with h; subst h
      exact lk_ev e
    · cases h
  · exact evC_den h
  · cases h
/-- Under the guards of what is read. -/
def evG (l : SL) : Operand → Option SV
  | .tmp t => match lk l t with
    | some (.v x) => some x
    | some (.g _ x) => some x
    | _ => none
  | .const v => evC v
  | _ => none
/-- What is read is there. -/
def gdK {β : Type 1} (l : SL) : List Operand → (Prop → Option β) → Option β
  | [], k => k True
  | x :: xs, k => match x with
    | .tmp t => match lk l t with
      | some (.g b _) => gdK l xs fun p => k (b = true ∧ p)
      | _ => gdK l xs k
    | _ => gdK l xs k
theorem gdK_eq {β : Type 1} {r : β} : ∀ {xs : List Operand} {k : Prop → Option β}, gdK l xs k = some r → ∃ p, k p = some r ∧ (p → ∀ x ∈ xs, ∀ v, evG l x = some v → (SS l H).ev x = v.den)
  | [], k, h => ⟨True, h, fun _ x hx => by cases hx⟩
  | x :: xs, k, h => by
    unfold gdK at h
    split at h
    · rename_i t
      split at h
      · rename_i b y hy
        obtain ⟨p, h1, h2⟩ := gdK_eq h
        refine ⟨_, h1, fun ⟨hb, hp⟩ z hz v hv => ?_⟩
        rcases List.mem_cons.1 hz with rfl | hz
        · simp only [evG, hy] at hv
          injection hv with hv; subst hv
          rw [lk_ev hy, hb]; rfl
        · exact h2 hp z hz v hv
      · rename_i hne
        obtain ⟨p, h1, h2⟩ := gdK_eq h
        refine ⟨_, h1, fun hp z hz v hv => ?_⟩
        rcases List.mem_cons.1 hz with rfl | hz
        · unfold evG at hv
          simp only at hv
          split at hv
          · rename_i hy
            injection hv with hv; subst hv
            exact lk_ev hy
          · rename_i b y hy
            exact (hne b y hy).elim
          · cases hv
        · exact h2 hp z hz v hv
    · rename_i hne
      obtain ⟨p, h1, h2⟩ := gdK_eq h
      refine ⟨_, h1, fun hp z hz v hv => ?_⟩
      rcases List.mem_cons.1 hz with rfl | hz
      · unfold evG at hv
        split at hv
        · rename_i t; exact (hne t rfl).elim
        · exact evC_den hv
        · cases hv
      · exact h2 hp z hz v hv
/-! ### Choice by a condition -/
def soPick (l : SL) (c x y : Operand) : Option SR :=
  match evG l c with
  | some (.c (.c (.f (.v (.bool b))))) => gdK l [c] fun pc => gdK l [x] fun px => gdK l [y] fun py => match y with
    | .const (.bool false) => match evG l x with
      | some (.c (.c (.f (.v (.bool u))))) => some ⟨bV (b && u), none, none, .q0, pc ∧ (b = true → px)⟩
      | _ => none
    | _ => match x with
      | .const (.bool true) => match evG l y with
        | some (.c (.c (.f (.v (.bool u))))) => some ⟨bV (b || u), none, none, .q0, pc ∧ (b = false → py)⟩
        | _ => none
      | _ => match evG l x with
        | some (.c (.c (.f (.v (.bool u))))) => match evG l y with
          | some (.c (.c (.f (.v (.bool w))))) => some ⟨bV (bif b then u else w), none, none, .q0, pc ∧ (b = true → px) ∧ (b = false → py)⟩
          | _ => none
        | _ => none
  | _ => none
theorem soPick_ok {d : Option Tmp} {ty : TypeId} {pos : String} {af : Array Edge} {c x y : Operand} (h : soPick l c x y = some r) : Snd P ops ⟨d, .pick c x y, ty, pos, af, none⟩ (SS l H) r := by
  intro rest R hp hk
  unfold soPick at h
  split at h
  · rename_i b hc
    obtain ⟨pc, h, hpc⟩ := gdK_eq (H := H) h
    obtain ⟨px, h, hpx⟩ := gdK_eq (H := H) h
    obtain ⟨py, h, hpy⟩ := gdK_eq (H := H) h
    split at h
    · split at h
      · rename_i u hu
        injection h with h; subst h
        have hc' := hpc hp.1 c (by simp) _ hc
        cases b with
        | true => exact R_pickT hc' rfl (hpx (hp.2 rfl) x (by simp) _ hu) rfl hk
        | false => exact R_pickF (v := .c (.f (.v (.bool false)))) hc' rfl rfl rfl hk
      · cases h
    · split at h
      · split at h
        · rename_i u hu
          injection h with h; subst h
          have hc' := hpc hp.1 c (by simp) _ hc
          cases b with
          | true => exact R_pickT (v := .c (.f (.v (.bool true)))) hc' rfl rfl rfl hk
          | false => exact R_pickF hc' rfl (hpy (hp.2 rfl) y (by simp) _ hu) rfl hk
        · cases h
      · split at h
        · rename_i u hu
          split at h
          · rename_i w hw
            injection h with h; subst h
            have hc' := hpc hp.1 c (by simp) _ hc
            cases b with
            | true => exact R_pickT hc' rfl (hpx (hp.2.1 rfl) x (by simp) _ hu) rfl hk
            | false => exact R_pickF hc' rfl (hpy (hp.2.2 rfl) y (by simp) _ hw) rfl hk
          · cases h
        · cases h
  · cases h
/-! ### One operation, with its guard -/
structure SN : Type 1 where
  l : SL
  H : SH
  cl : Cl
  p : Prop
def sem (T : Tb) (E : El) (ops : Array Oper) (ev : Operand → Option SV) (l : SL) (H : SH) (o : Oper) : Option SR :=
  match o.op with
  | .pick c x y => soPick l c x y
  | _ => so T E ops ev H o
/-- When an operation is wanted. -/
def wantS (ops : List Oper) (l : SL) (j : Nat) (want : Bool) : Option Bool :=
  match nth0 ops j with
  | some oj => match oj.dst with
    | some d => match lk l d with
      | some (.v (.c (.c (.f (.v (.bool b)))))) => match want with
        | true => some b
        | false => some (!b)
      | some (.g b0 (.c (.c (.f (.v (.bool b)))))) => match want with
        | true => some (b0 && b)
        | false => some (b0 && !b)
      | _ => none
    | none => none
  | none => none
def pureCl (c : Cl) : Bool :=
  match c.fp with
  | [] => match c.wr with
    | [] => match c.new with
      | none => match c.dem with
        | false => true
        | true => false
      | some _ => false
    | _ => false
  | _ => false
def outN (d : Option Tmp) (dm : Option (Nat × SE)) (H : Option SH) (x : SE) (l0 : SL) (H0 : SH) (cl : Cl) (p : Prop) : Option SN :=
  match d with
  | some d => match dm with
    | some (t, e) => match H with
      | some H => some ⟨(d, x) :: (t, e) :: l0, H, cl, p⟩
      | none => some ⟨(d, x) :: (t, e) :: l0, H0, cl, p⟩
    | none => match H with
      | some H => some ⟨(d, x) :: l0, H, cl, p⟩
      | none => some ⟨(d, x) :: l0, H0, cl, p⟩
  | none => match dm with
    | some (t, e) => match H with
      | some H => some ⟨(t, e) :: l0, H, cl, p⟩
      | none => some ⟨(t, e) :: l0, H0, cl, p⟩
    | none => match H with
      | some H => some ⟨l0, H, cl, p⟩
      | none => some ⟨l0, H0, cl, p⟩
def step (T : Tb) (E : El) (ops : Array Oper) (l : SL) (H : SH) (o : Oper) : Option SN :=
  match o.guard with
  | none => match sem T E ops (evU l) l H o with
    | some ⟨x, dm, H', cl, p⟩ => outN o.dst dm H' (.v x) l H cl p
    | none => none
  | some (j, want) => match wantS ops.toList l j want with
    | some g => match sem T E ops (evG l) l H { o with guard := none } with
      | some ⟨x, none, none, cl, p⟩ => gdK l (rd o.op) fun q => outN o.dst none none (.g g x) l H cl (g = true → q ∧ p)
      | _ => none
    | none => none
theorem outN_eq {d : Option Tmp} {r : SR} {x : SE} {n : SN} (hx : x.den = r.x.den) {p : Prop} (h : outN d r.dm r.H x l H r.cl p = some n) : n.cl = r.cl ∧ n.p = p ∧ SS n.l n.H = r.upd (SS l H) d := by
  obtain ⟨rx, dm, rH, cl, rp⟩ := r
  unfold outN at h
  simp only at hx h
  have e2 : ∀ (l0 : SL) (H' : SH), SS l0 H' = (SS l0 H).setH (denH H') := fun l0 H' => (SS_setH l0 H H').symm
  have e3 : ∀ (l0 : SL) (H' : SH) (d : Nat), SS ((d, x) :: l0) H' = (SS l0 H').put (some d) rx.den := fun l0 H' d => by rw [← hx]; rfl
  cases d with
  | none =>
    rcases dm with _ | ⟨t, e⟩
    · cases rH with
      | none => injection h with h; subst h; exact ⟨rfl, rfl, rfl⟩
      | some H' => injection h with h; subst h; exact ⟨rfl, rfl, e2 l H'⟩
    · cases rH with
      | none => injection h with h; subst h; exact ⟨rfl, rfl, rfl⟩
      | some H' => injection h with h; subst h; exact ⟨rfl, rfl, e2 _ H'⟩
  | some d =>
    rcases dm with _ | ⟨t, e⟩
    · cases rH with
      | none => injection h with h; subst h; exact ⟨rfl, rfl, e3 l H d⟩
      | some H' =>
        injection h with h; subst h
        refine ⟨rfl, rfl, ?_⟩
        show SS ((d, x) :: l) H' = ((SS l H).setH (denH H')).put (some d) rx.den
        rw [SS_setH]; exact e3 l H' d
    · cases rH with
      | none => injection h with h; subst h; exact ⟨rfl, rfl, e3 _ H d⟩
      | some H' =>
        injection h with h; subst h
        refine ⟨rfl, rfl, ?_⟩
        show SS ((d, x) :: (t, e) :: l) H' = ((SS ((t, e) :: l) H).setH (denH H')).put (some d) rx.den
        rw [SS_setH]; exact e3 _ H' d
theorem sem_ok (O : T.Ok P) {E : El} (hE : E.Ok P) {ev : Operand → Option SV} {o : Oper} (ho : o.guard = none) (hev : ∀ x ∈ rd o.op, ∀ v, ev x = some v → (SS l H).ev x = v.den) (h : sem T E ops ev l H o = some r) : Snd P ops o (SS l H) r := by
  unfold sem at h
  split at h
  · rename_i c x y hop
    obtain ⟨d, op, ty, pos, af, g⟩ := o
    simp only at ho hop
    subst ho; subst hop
    exact soPick_ok h
  · exact so_ok O hE (SS_H _ _) ho hev h
theorem step_ok (O : T.Ok P) {E : El} (hE : E.Ok P) {o : Oper} {n : SN} (h : step T E ops l H o = some n) {rest : List Oper} {R : Rg} (hp : n.p) (hk : WR P ops rest (SS n.l n.H) (R.push n.cl)) : WR P ops (o :: rest) (SS l H) R := by
  unfold step at h
  split at h
  · rename_i ho
    split at h
    · rename_i x dm H' cl p hs
      have hsnd := sem_ok O hE ho (fun x _ v hv => evU_den hv) hs
      obtain ⟨h1, h2, h3⟩ := outN_eq (r := ⟨x, dm, H', cl, p⟩) (x := .v x) rfl h
      rw [h2] at hp
      rw [h1, h3] at hk
      exact hsnd rest R hp hk
    · cases h
  · rename_i j want ho
    split at h
    · rename_i g hg
      split at h
      · rename_i x cl p hs
        obtain ⟨q, h, hq⟩ := gdK_eq (H := H) h
        obtain ⟨d, op, ty, pos, af, gd⟩ := o
        simp only at ho
        subst ho
        have hww : ∃ oj dj b, ops[j]? = some oj ∧ oj.dst = some dj ∧ (((SS l H).ev (.tmp dj) = .c (.f (.v (.bool b))) ∧ g = (b == want)) ∨ ((SS l H).ev (.tmp dj) = .c .und ∧ g = false)) := by
          unfold wantS at hg
          split at hg
          · rename_i oj hoj
            rw [nth0_get, Array.getElem?_toList] at hoj
            split at hg
            · rename_i dj hdj
              refine ⟨oj, dj, ?_⟩
              split at hg
              · rename_i b hb
                refine ⟨b, hoj, hdj, .inl ⟨lk_ev hb, ?_⟩⟩
                split at hg <;> injection hg with hg <;> subst hg <;> cases b <;> rfl
              · rename_i b0 b hb
                have := lk_ev (H := H) hb
                cases b0 with
                | true =>
                  refine ⟨b, hoj, hdj, .inl ⟨this, ?_⟩⟩
                  split at hg <;> injection hg with hg <;> subst hg <;> cases b <;> rfl
                | false =>
                  refine ⟨b, hoj, hdj, .inr ⟨this, ?_⟩⟩
                  split at hg <;> injection hg with hg <;> subst hg <;> rfl
              · cases hg
            · cases hg
          · cases hg
        obtain ⟨oj, dj, b, w1, w2, w3⟩ := hww
        cases g with
        | true =>
          rcases w3 with ⟨w3, w4⟩ | ⟨_, w4⟩
          · refine R_want (by show wantA ops _ _ = some true; rw [wantA_some rfl w1 w2 w3, ← w4]) ?_
            obtain ⟨h1, h2, h3⟩ := outN_eq (r := ⟨x, none, none, cl, p⟩) (x := .g true x) rfl h
            rw [h2] at hp
            obtain ⟨hq1, hp1⟩ := hp rfl
            have hsnd := sem_ok (ops := ops) (o := ⟨d, op, ty, pos, af, none⟩) O hE rfl (hq hq1) hs
            rw [h1, h3] at hk
            exact hsnd rest R hp1 hk
          · cases w4
        | false =>
          have hw : wantA ops (SS l H) ⟨d, op, ty, pos, af, some (j, want)⟩ = some false := by
            rcases w3 with ⟨w3, w4⟩ | ⟨w3, _⟩
            · rw [wantA_some rfl w1 w2 w3, ← w4]
            · exact wantA_und rfl w1 w2 w3
          refine R_skip hw ?_
          obtain ⟨h1, h2, h3⟩ := outN_eq (r := ⟨.c (.c .und), none, none, cl, p⟩) (x := .g false x) rfl h
          rw [h1, h3] at hk
          exact WR_q0 hk
      · cases h
    · cases h
/-! ### Runs -/
structure SX : Type 1 where
  rest : List Oper
  l : SL
  H : SH
  R : Rg
  p : Prop
def runS (T : Tb) (E : El) (ops : Array Oper) : List Oper → SL → SH → Rg → Prop → Option SX
  | [], l, H, R, q => some ⟨[], l, H, R, q⟩
  | o :: os, l, H, R, q => match step T E ops l H o with
    | some ⟨l', H', cl, p⟩ => match R with
      | .plain K => runS T E ops os l' H' (.plain K) (q ∧ p)
      | .drawn a K => runS T E ops os l' H' (.drawn (cl :: a) K) (q ∧ p)
    | none => some ⟨o :: os, l, H, R, q⟩
theorem runS_ok (O : T.Ok P) {E : El} (hE : E.Ok P) {x : SX} : ∀ {rest : List Oper} {l : SL} {H : SH} {R : Rg} {q : Prop}, runS T E ops rest l H R q = some x → x.p → WR P ops x.rest (SS x.l x.H) x.R → q ∧ WR P ops rest (SS l H) R
  | [], l, H, R, q, h, hp, hk => by
    injection h with h; subst h
    exact ⟨hp, hk⟩
  | o :: os, l, H, R, q, h, hp, hk => by
    unfold runS at h
    split at h
    · rename_i l' H' cl p hs
      split at h
      · obtain ⟨⟨h1, h2⟩, h3⟩ := runS_ok O hE h hp hk
        exact ⟨h1, step_ok O hE hs h2 h3⟩
      · obtain ⟨⟨h1, h2⟩, h3⟩ := runS_ok O hE h hp hk
        exact ⟨h1, step_ok O hE hs h2 h3⟩
    · injection h with h; subst h
      exact ⟨hp, hk⟩
/-- At least one operation. -/
def run1 (T : Tb) (E : El) (ops : Array Oper) (rest : List Oper) (l : SL) (H : SH) (R : Rg) : Option SX :=
  match rest with
  | [] => none
  | o :: os => match step T E ops l H o with
    | some ⟨l', H', cl, p⟩ => match R with
      | .plain K => runS T E ops os l' H' (.plain K) p
      | .drawn a K => runS T E ops os l' H' (.drawn (cl :: a) K) p
    | none => none
theorem run1_ok (O : T.Ok P) {E : El} (hE : E.Ok P) {rest : List Oper} {l : SL} {H : SH} {R : Rg} {rest' : List Oper} {l' : SL} {H' : SH} {R' : Rg} {p : Prop} (h : run1 T E ops rest l H R = some ⟨rest', l', H', R', p⟩) (hp : p) (hk : WR P ops rest' (SS l' H') R') : WR P ops rest (SS l H) R := by
  unfold run1 at h
  split at h
  · cases h
  · split at h
    · rename_i hs
      split at h
      · obtain ⟨h1, h2⟩ := runS_ok O hE h hp hk
        exact step_ok O hE hs h1 h2
      · obtain ⟨h1, h2⟩ := runS_ok O hE h hp hk
        exact step_ok O hE hs h1 h2
    · cases h
end
end Go.Proofs.Ythnfliopmjpdmaa.Av
