/- Operations on symbolic values, all kinds; runs of operations. -/
import Derived.Test.YthnfliopmjpdmaaAvS6
namespace Go.Proofs.Ythnfliopmjpdmaa.Av
set_option linter.unusedVariables false
set_option linter.unusedSimpArgs false

section
variable {P : Program} {ops : Array Oper} {s : St} {d : Option Tmp} {ty : TypeId} {pos : String} {af : Array Edge} {T : Tb} {r : SR} {H : SH} {ev : Operand → Option SV}
/-! ### append -/
def srcK (sz : Nat) (u : SV) (k : Nat → List FVal → Prop → Option SR) : Option SR :=
  match u with
  | .c (.row z F V e l) => match Nat.beq z sz with
    | true => k l.length (l.flatMap F) (∀ x, (F x).length = z)
    | false => none
  | .c (.tipr z F V e l) => match Nat.beq z sz with
    | true => k l.length (l.flatMap F) (∀ x, (F x).length = z)
    | false => none
  | .c (.c (.f (.row cs n))) => k n cs (cs.length = n * sz)
  | .c (.c (.tip _ cs n)) => k n cs (cs.length = n * sz)
  | .c (.c (.f .nils)) => k 0 [] True
  | _ => none
def soApp (T : Tb) (t tx : Nat) (x : Operand) (v u : SV) : Option SR :=
  match lkN T.ms t with
  | some (sz, by_, _) => match lkN T.es tx with
    | some z => match Nat.beq z sz with
      | true => srcK sz u fun n fs p => match v with
        | .c (.c (.tip z' cs len)) => match x with
          | .tmp w => match Nat.beq z' sz with
            | true => some ⟨.c (.c (.tip sz (cs ++ fs) (len + n))), some (w, .v (.c (.c (.f (.row cs len))))), none, ⟨[], [], [], none, true, false⟩, p ∧ len + n ≤ 4611686018427387904 ∧ (len + n) * by_ ≤ 140737488355328⟩
            | false => none
          | _ => none
        | .c (.tipr z' F V e l) => match x with
          | .tmp w => match Nat.beq z' sz with
            | true => some ⟨.c (.c (.tip sz (l.flatMap F ++ fs) (l.length + n))), some (w, .v (.c (.row z' F V e l))), none, ⟨[], [], [], none, true, false⟩, p ∧ l.length + n ≤ 4611686018427387904 ∧ (l.length + n) * by_ ≤ 140737488355328⟩
            | false => none
          | _ => none
        | .c (.c (.f .nils)) => some ⟨.c (.c (.tip sz fs n)), none, none, ⟨[], [], [], none, false, false⟩, p ∧ n ≤ 4611686018427387904 ∧ n * by_ ≤ 140737488355328⟩
        | _ => none
      | false => none
    | none => none
  | none => none
theorem srcK_eq (O : T.Ok P) {sz tx : Nat} {u : SV} {y : Operand} {k : Nat → List FVal → Prop → Option SR} (hy : s.ev y = u.den) (hz : elemSz P tx = some sz) (h : srcK sz u k = some r) :
    ∃ n fs p, k n fs p = some r ∧ arrB (s.ev y).dem = [] ∧ (p → srcCells P s sz tx y = some (n, fs)) := by
  unfold srcK at h
  split at h
  · split at h
    · rename_i hb
      have hb := Nat.eq_of_beq_eq_true hb
      subst hb
      exact ⟨_, _, _, h, by rw [hy]; rfl, fun hF => src_row hy rfl hz (flatMap_lenB _ _ hF _)⟩
    · cases h
  · split at h
    · rename_i hb
      have hb := Nat.eq_of_beq_eq_true hb
      subst hb
      exact ⟨_, _, _, h, by rw [hy]; rfl, fun hF => src_row hy rfl hz (flatMap_lenB _ _ hF _)⟩
    · cases h
  · exact ⟨_, _, _, h, by rw [hy]; rfl, fun hF => src_row hy rfl hz hF⟩
  · exact ⟨_, _, _, h, by rw [hy]; rfl, fun hF => src_row hy rfl hz hF⟩
  · exact ⟨_, _, _, h, by rw [hy]; rfl, fun _ => src_nil hy hz⟩
  · cases h
theorem soApp_ok (O : T.Ok P) {t tx : Nat} {x y : Operand} {v u : SV} (hx : s.ev x = v.den) (hy : s.ev y = u.den) (h : soApp T t tx x v u = some r) : Snd P ops ⟨d, .call { callee := .builtin .append, args := #[x, y], argTypes := #[t, tx] }, ty, pos, af, none⟩ s r := by
  intro rest R hp hk
  unfold soApp at h
  split at h
  · rename_i sz by_ zs hm
    have hm := O.ms_of hm
    split at h
    · rename_i z hz
      have hz := O.es_of hz
      split at h
      · rename_i hb
        have hb := Nat.eq_of_beq_eq_true hb
        subst hb
        obtain ⟨n, fs, p, h, harr, hsrc⟩ := srcK_eq O hy hz h
        split at h
        · split at h
          · split at h
            · rename_i hb
              have hb := Nat.eq_of_beq_eq_true hb
              subst hb
              injection h with h; subst h
              exact R_append_tip hm hx (hsrc hp.1) harr hp.2.1 hp.2.2 hk
            · cases h
          · cases h
        · split at h
          · split at h
            · rename_i hb
              have hb := Nat.eq_of_beq_eq_true hb
              subst hb
              injection h with h; subst h
              exact R_append_tip hm hx (hsrc hp.1) harr hp.2.1 hp.2.2 hk
            · cases h
          · cases h
        · injection h with h; subst h
          exact R_append_nil hm hx (hsrc hp.1) harr hp.2.1 hp.2.2 hk
        · cases h
      · cases h
    · cases h
  · cases h
/-! ### All kinds -/
/-- What an operation reads. -/
def rd : Op → List Operand
  | .move x | .assign x | .nilCheck x | .box _ x | .extract x _ => [x]
  | .fieldAddr _ x _ | .field _ x _ | .load _ x | .unOp _ _ x | .convert _ _ x => [x]
  | .store _ x y | .indexAddr _ x y | .index _ x y | .binOp _ _ x y _ | .makeSlice _ x y => [x, y]
  | .build _ ps | .buildSlice _ _ ps => ps.toList.map (·.2)
  | .slice _ x lo hi _ => x :: (lo.toList ++ hi.toList)
  | .call c => c.args.toList
  | _ => []
def so1 (ev : Operand → Option SV) (x : Operand) (k : SV → Option SR) : Option SR :=
  match ev x with
  | some v => k v
  | none => none
def soCall (T : Tb) (ev : Operand → Option SV) (c : Call) : Option SR :=
  match c.callee with
  | .builtin .len => match c.args.toList with
    | [x] => match c.argTypes.toList with
      | [t] => so1 ev x fun v => soLen T t v
      | _ => none
    | _ => none
  | .builtin .append => match c.args.toList with
    | [x, y] => match c.argTypes.toList with
      | [t, tx] => so1 ev x fun v => so1 ev y fun u => soApp T t tx x v u
      | _ => none
    | _ => none
  | .builtin .max => match c.args.toList with
    | [x, y] => match c.argTypes.toList with
      | [_, _] => so1 ev x fun v => so1 ev y fun u => soMM true v u
      | _ => none
    | _ => none
  | .builtin .min => match c.args.toList with
    | [x, y] => match c.argTypes.toList with
      | [_, _] => so1 ev x fun v => so1 ev y fun u => soMM false v u
      | _ => none
    | _ => none
  | _ => none
def so (T : Tb) (E : El) (ops : Array Oper) (ev : Operand → Option SV) (H : SH) (o : Oper) : Option SR :=
  match o.op with
  | .move x => so1 ev x fun v => soMove (feeds ops o) x v
  | .assign x => so1 ev x fun v => soMove true x v
  | .nilCheck x => so1 ev x fun v => soNil v
  | .fieldAddr t x f => so1 ev x fun v => soFA T t f v
  | .load t x => so1 ev x fun v => soLoad T (feeds ops o) H t v
  | .store t x y => match o.dst with
    | none => so1 ev x fun v => so1 ev y fun u => soStore T H t v y u
    | some _ => none
  | .indexAddr t x i => so1 ev x fun v => so1 ev i fun u => soIA T H t v u
  | .index t x i => so1 ev x fun v => so1 ev i fun u => soIndex T t v u
  | .field t x f => so1 ev x fun v => soField T t f v
  | .extract x i => so1 ev x fun v => soExt i v
  | .binOp op t x y _ => so1 ev x fun v => so1 ev y fun u => soBin T op t v u
  | .unOp op _ x => so1 ev x fun v => soUn op v
  | .build t ps => soBuild T ev t ps.toList
  | .buildSlice t n ps => soBuildSl T ev t n ps.toList
  | .makeSlice t l c => so1 ev l fun v => so1 ev c fun u => soMake E H t ((lkN T.ms t).map fun q => q.2.1) v u
  | .slice t x lo hi mx => match mx with
    | none => so1 ev x fun v => soSlice T ev t v lo hi
    | some _ => none
  | .convert t u x => so1 ev x fun v => soConv T t u v
  | .alloc t => soAlloc T H t
  | .box _ x => so1 ev x fun v => soBox H v
  | .call c => soCall T ev c
  | _ => none
theorem so1_eq {x : Operand} {k : SV → Option SR} (h : so1 ev x k = some r) : ∃ v, ev x = some v ∧ k v = some r := by
  unfold so1 at h
  split at h
  · exact ⟨_, by assumption, h⟩
  · cases h
theorem so_ok (O : T.Ok P) {E : El} (hE : E.Ok P) (hH : s.H = denH H) {o : Oper} (ho : o.guard = none) (hev : ∀ x ∈ rd o.op, ∀ v, ev x = some v → s.ev x = v.den) (h : so T E ops ev H o = some r) : Snd P ops o s r := by
  obtain ⟨d, op, ty, pos, af, g⟩ := o
  simp only at ho
  subst ho
  unfold so at h
  simp only at h hev
  split at h
  · obtain ⟨v, h1, h2⟩ := so1_eq h; exact soMove_ok (hev _ (by simp [rd]) v h1) h2
  · obtain ⟨v, h1, h2⟩ := so1_eq h; exact soAssign_ok (hev _ (by simp [rd]) v h1) h2
  · obtain ⟨v, h1, h2⟩ := so1_eq h; exact soNil_ok (hev _ (by simp [rd]) v h1) h2
  · obtain ⟨v, h1, h2⟩ := so1_eq h; exact soFA_ok O (hev _ (by simp [rd]) v h1) h2
  · obtain ⟨v, h1, h2⟩ := so1_eq h; exact soLoad_ok O hH (hev _ (by simp [rd]) v h1) h2
  · split at h
    · obtain ⟨v, h1, h2⟩ := so1_eq h
      obtain ⟨u, h3, h4⟩ := so1_eq h2
      exact soStore_ok O hH (hev _ (by simp [rd]) v h1) (hev _ (by simp [rd]) u h3) h4
    · cases h
  · obtain ⟨v, h1, h2⟩ := so1_eq h
    obtain ⟨u, h3, h4⟩ := so1_eq h2
    exact soIA_ok O (hev _ (by simp [rd]) v h1) (hev _ (by simp [rd]) u h3) h4
  · obtain ⟨v, h1, h2⟩ := so1_eq h
    obtain ⟨u, h3, h4⟩ := so1_eq h2
    exact soIndex_ok O (hev _ (by simp [rd]) v h1) (hev _ (by simp [rd]) u h3) h4
  · obtain ⟨v, h1, h2⟩ := so1_eq h; exact soField_ok O (hev _ (by simp [rd]) v h1) h2
  · obtain ⟨v, h1, h2⟩ := so1_eq h; exact soExt_ok (hev _ (by simp [rd]) v h1) h2
  · obtain ⟨v, h1, h2⟩ := so1_eq h
    obtain ⟨u, h3, h4⟩ := so1_eq h2
    exact soBin_ok O (hev _ (by simp [rd]) v h1) (hev _ (by simp [rd]) u h3) h4
  · obtain ⟨v, h1, h2⟩ := so1_eq h; exact soUn_ok (hev _ (by simp [rd]) v h1) h2
  · rename_i t ps
    have : ps = ps.toList.toArray := by simp
    rw [this]
    exact soBuild_ok O (fun q hq => hev q.2 (by simp only [rd, List.mem_map]; exact ⟨q, hq, rfl⟩)) h
  · rename_i t n ps
    have : ps = ps.toList.toArray := by simp
    rw [this]
    exact soBuildSl_ok O (fun q hq => hev q.2 (by simp only [rd, List.mem_map]; exact ⟨q, hq, rfl⟩)) h
  · obtain ⟨v, h1, h2⟩ := so1_eq h
    obtain ⟨u, h3, h4⟩ := so1_eq h2
    exact soMake_ok O hE hH (hev _ (by simp [rd]) v h1) (hev _ (by simp [rd]) u h3) h4
  · split at h
    · obtain ⟨v, h1, h2⟩ := so1_eq h
      exact soSlice_ok O (hev _ (by simp [rd]) v h1) (fun o ho => hev o (by simp [rd, ho])) (fun o ho => hev o (by simp [rd, ho])) h2
    · cases h
  · obtain ⟨v, h1, h2⟩ := so1_eq h; exact soConv_ok O (hev _ (by simp [rd]) v h1) h2
  · exact soAlloc_ok O hH h
  · obtain ⟨v, h1, h2⟩ := so1_eq h; exact soBox_ok hH (hev _ (by simp [rd]) v h1) h2
  · rename_i c
    unfold soCall at h
    split at h
    · rename_i hc
      split at h
      · rename_i x hx
        split at h
        · rename_i t ht
          obtain ⟨v, h1, h2⟩ := so1_eq h
          have hv := hev x (by simp [rd, hx]) v h1
          rw [call_eta c hc hx ht]
          exact soLen_ok O hv h2
        · cases h
      · cases h
    · rename_i hc
      split at h
      · rename_i x y hx
        split at h
        · rename_i t tx ht
          obtain ⟨v, h1, h2⟩ := so1_eq h
          obtain ⟨u, h3, h4⟩ := so1_eq h2
          have hv := hev x (by simp [rd, hx]) v h1
          have hu := hev y (by simp [rd, hx]) u h3
          rw [call_eta c hc hx ht]
          exact soApp_ok O hv hu h4
        · cases h
      · cases h
    · rename_i hc
      split at h
      · rename_i x y hx
        split at h
        · rename_i t tx ht
          obtain ⟨v, h1, h2⟩ := so1_eq h
          obtain ⟨u, h3, h4⟩ := so1_eq h2
          have hv := hev x (by simp [rd, hx]) v h1
          have hu := hev y (by simp [rd, hx]) u h3
          rw [call_eta c hc hx ht]
          exact soMax_ok hv hu h4
        · cases h
      · cases h
    · rename_i hc
      split at h
      · rename_i x y hx
        split at h
        · rename_i t tx ht
          obtain ⟨v, h1, h2⟩ := so1_eq h
          obtain ⟨u, h3, h4⟩ := so1_eq h2
          have hv := hev x (by simp [rd, hx]) v h1
          have hu := hev y (by simp [rd, hx]) u h3
          rw [call_eta c hc hx ht]
          exact soMin_ok hv hu h4
        · cases h
      · cases h
    · cases h
  · cases h
end
end Go.Proofs.Ythnfliopmjpdmaa.Av
