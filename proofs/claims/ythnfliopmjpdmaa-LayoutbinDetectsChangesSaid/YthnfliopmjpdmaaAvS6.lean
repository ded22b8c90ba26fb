/- One operation on symbolic values: literals, new blocks, slices, append. -/
import Derived.Test.YthnfliopmjpdmaaAvS5
namespace Go.Proofs.Ythnfliopmjpdmaa.Av
set_option linter.unusedVariables false
set_option linter.unusedSimpArgs false

/-- The cells of a value, as data or as they are, handed to k. -/
def cellK {β : Type 1} (v : SV) (k : List SC → Option β) : Option β :=
  match v with
  | .c x => match oneS x with
    | true => demK [x] k
    | false => none
  | .agg ds => match allOne ds with
    | true => k ds
    | false => none
  | .tup _ => none
theorem dem_one (x : CVal) (h : x.one = true) : x.dem.one = true := by cases x <;> first | exact h | rfl
theorem cellK_eq {β : Type 1} {v : SV} {k : List SC → Option β} {r : β} (h : cellK v k = some r) : ∃ ds, v.den.dem.cells = some (denL ds) ∧ k ds = some r := by
  unfold cellK at h
  split at h
  · rename_i x
    split at h
    · rename_i h1
      obtain ⟨ds, h2, h3⟩ := demK_eq h
      refine ⟨ds, ?_, h3⟩
      have h4 := dem_one _ (oneS_den h1)
      show (if x.den.dem.one then some [x.den.dem] else none) = _
      rw [h4, h2]
      rfl
    · cases h
  · rename_i ds
    split at h
    · rename_i h1
      exact ⟨ds, cellsS_agg h1, h⟩
    · cases h
  · cases h
def plAt (p : Pl) (i : Nat) : Option (Nat × Nat) :=
  match p with
  | .fields l => nth0 l i
  | .elems z => some (i * z, z)
theorem plAt_eq (p : Pl) (i : Nat) : plAt p i = p.at i := by
  cases p with
  | fields l => exact nth0_get l i
  | elems z => rfl
def fillK {β : Type 1} (ev : Operand → Option SV) (p : Pl) : List SC → List (Nat × Operand) → (List SC → Option β) → Option β
  | cells, [], k => k cells
  | cells, (i, x) :: rest, k => match plAt p i with
    | some (off, size) => match ev x with
      | some v => cellK v fun ds => match lenIs ds size with
        | true => match Nat.ble 1 size with
          | true => setsK cells off ds fun cs => fillK ev p cs rest k
          | false => none
        | false => none
      | none => none
    | none => none
theorem fillK_eq {β : Type 1} {ev : Operand → Option SV} {p : Pl} {s : St} {r : β} : ∀ {parts : List (Nat × Operand)} {cells : List SC} {k : List SC → Option β}, (∀ q ∈ parts, ∀ v, ev q.2 = some v → s.ev q.2 = v.den) → fillK ev p cells parts k = some r →
    ∃ ps cs, partsC s parts = some ps ∧ aFill p (denL cells) ps = some (denL cs) ∧ k cs = some r
  | [], cells, k, _, h => ⟨[], cells, rfl, rfl, h⟩
  | (i, x) :: rest, cells, k, hev, h => by
    unfold fillK at h
    split at h
    · rename_i off size hpl
      rw [plAt_eq] at hpl
      split at h
      · rename_i v hv
        have hx := hev (i, x) (by simp) v hv
        obtain ⟨ds, h1, h2⟩ := cellK_eq h
        split at h2
        · rename_i hl
          have hl := lenIs_eq hl
          split at h2
          · rename_i h1s
            have h1s := Nat.le_of_ble_eq_true h1s
            have hln := setsK_len h2
            obtain ⟨cs1, h3, h4⟩ := setsK_eq h2 (by rcases hln with h | h; exact .inr h; exact .inl h)
            obtain ⟨ps, cs, h5, h6, h7⟩ := fillK_eq (s := s) (fun q hq => hev q (by simp [hq])) h4
            refine ⟨(i, denL ds) :: ps, cs, ?_, ?_, h7⟩
            · exact partsC_c hx h1 h5
            · unfold aFill
              rw [hpl]
              simp only
              have hz : off + size ≤ (denL cells).length := by
                rw [den_len]
                rcases hln with rfl | hln
                · simp at hl; omega
                · omega
              rw [if_pos ⟨by rw [den_len]; exact hl, hz⟩, ← h3]
              exact h6
          · cases h2
        · cases h2
      · cases h
    · cases h
def appS : List SC → List SC → List SC
  | [], r => r
  | x :: l, r => x :: appS l r
def repS (zs : List SC) : Nat → List SC → List SC
  | 0, r => r
  | n + 1, r => repS zs n (appS zs r)
theorem appS_eq : ∀ l r : List SC, appS l r = l ++ r
  | [], _ => rfl
  | x :: l, r => by simp [appS, appS_eq l r]
theorem repS_len (zs : List SC) : ∀ (n : Nat) (r : List SC), (repS zs n r).length = n * zs.length + r.length
  | 0, r => by simp [repS]
  | n + 1, r => by rw [repS, repS_len zs n, appS_eq, List.length_append, Nat.succ_mul]; omega
theorem repS_get (zs : List SC) : ∀ (n : Nat) (r : List SC) (j : Nat), (repS zs n r)[j]? = if j < n * zs.length then zs[j % zs.length]? else r[j - n * zs.length]?
  | 0, r, j => by simp [repS]
  | n + 1, r, j => by
    rw [repS, repS_get zs n, appS_eq]
    by_cases h : j < n * zs.length
    · rw [if_pos h, if_pos (by rw [Nat.succ_mul]; omega)]
    · rw [if_neg h]
      by_cases h2 : j < (n + 1) * zs.length
      · rw [if_pos h2]
        rw [Nat.succ_mul] at h2
        rw [List.getElem?_append_left (by omega)]
        congr 1
        have e : j = (j - n * zs.length) + zs.length * n := by rw [Nat.mul_comm zs.length n]; omega
        have e2 : j % zs.length = j - n * zs.length := by
          have e3 : (j - n * zs.length + zs.length * n) % zs.length = j - n * zs.length := by rw [Nat.add_mul_mod_self_left]; exact Nat.mod_eq_of_lt (by omega)
          rwa [← e] at e3
        rw [e2]
      · rw [if_neg h2]
        rw [Nat.succ_mul] at h2
        rw [List.getElem?_append_right (by omega), Nat.succ_mul]
        congr 1; omega
theorem repS_den (zs : List SC) (n : Nat) (hz : zs ≠ []) : repCells (denL zs) n = denL (repS zs n []) := by
  rw [repCells_eq]
  have h0 : 0 < zs.length := by cases zs with | nil => exact absurd rfl hz | cons => simp
  apply List.ext_getElem?
  intro j
  simp only [denL, List.getElem?_map, repS_get, List.length_map]
  by_cases h : j < n * zs.length
  · rw [if_pos h, List.getElem?_range h]
    have hm : j % zs.length < zs.length := Nat.mod_lt _ h0
    simp [List.getElem?_eq_getElem hm, hm]
  · rw [if_neg h, List.getElem?_eq_none (by simpa using Nat.le_of_not_lt h)]
    simp
/-- What a slice's elements are. -/
structure TyE : Type 1 where
  α : Type
  z : Nat
  F : α → List FVal
  V : α → List SC
  M : List FVal → Option α
  d : α
structure TyE.Ok (e : TyE) : Prop where
  len : ∀ x, (e.F x).length = e.z
  pos : 0 < e.z
theorem flatMap_lenB {α β : Type} (f : α → List β) (n : Nat) (h : ∀ x, (f x).length = n) : ∀ l : List α, (l.flatMap f).length = l.length * n
  | [] => by simp
  | x :: l => by simp only [List.flatMap_cons, List.length_append, h x, flatMap_lenB f n h l, List.length_cons, Nat.succ_mul]; omega
theorem rep_els {α : Type} {z : Nat} {F : α → List FVal} {d : α} (hF : ∀ x, (F x).length = z) (hz : 0 < z) (n : Nat) : repCells ((F d).map CVal.f) n = ((List.replicate n d).flatMap F).map CVal.f := by
  rw [repCells_eq]
  apply List.ext_getElem?
  intro j
  simp only [List.length_map, hF, List.getElem?_map]
  by_cases h : j < n * z
  · rw [List.getElem?_range h]
    have hj : (List.replicate n d)[j / z]? = some d := by
      rw [List.getElem?_replicate, if_pos (Nat.div_lt_of_lt_mul (by rw [Nat.mul_comm]; exact h))]
    have hm : j % z < z := Nat.mod_lt _ hz
    have := flatMap_get F z hF _ (j / z) (j % z) d hj hm
    have e : j / z * z + j % z = j := by rw [Nat.mul_comm]; exact Nat.div_add_mod j z
    rw [e] at this
    rw [this]
    have h2 : j % z < (F d).length := by rw [hF]; exact hm
    simp [List.getElem?_eq_getElem h2, hF, hm]
  · have hl : ((List.replicate n d).flatMap F).length ≤ j := by rw [flatMap_lenB F z hF, List.length_replicate]; omega
    rw [List.getElem?_eq_none hl, List.getElem?_eq_none (by simpa using Nat.le_of_not_lt h)]
    rfl
theorem flatMap_dropB {α β : Type} (f : α → List β) (n : Nat) (h : ∀ x, (f x).length = n) : ∀ (l : List α) (i : Nat), (l.flatMap f).drop (i * n) = (l.drop i).flatMap f
  | [], i => by simp
  | x :: l, 0 => by simp
  | x :: l, i + 1 => by
    rw [show (i + 1) * n = (f x).length + i * n by rw [h, Nat.succ_mul]; omega, List.flatMap_cons, List.drop_append]
    simp only [Nat.add_sub_cancel_left, List.drop_succ_cons]
    rw [List.drop_of_length_le (by omega), List.nil_append]
    exact flatMap_dropB f n h l i
theorem flatMap_takeB {α β : Type} (f : α → List β) (n : Nat) (h : ∀ x, (f x).length = n) : ∀ (l : List α) (i : Nat), (l.flatMap f).take (i * n) = (l.take i).flatMap f
  | [], i => by simp
  | x :: l, 0 => by simp
  | x :: l, i + 1 => by
    rw [show (i + 1) * n = (f x).length + i * n by rw [h, Nat.succ_mul]; omega, List.flatMap_cons, List.take_append]
    simp only [Nat.add_sub_cancel_left, List.take_succ_cons, List.flatMap_cons]
    rw [List.take_of_length_le (by omega), flatMap_takeB f n h l i]
section
variable {P : Program} {ops : Array Oper} {s : St} {d : Option Tmp} {ty : TypeId} {pos : String} {af : Array Edge} {T : Tb} {r : SR} {H : SH} {ev : Operand → Option SV}
def soBuild (T : Tb) (ev : Operand → Option SV) (t : Nat) (parts : List (Nat × Operand)) : Option SR :=
  match lkN T.bi t with
  | some (zs, p) => fillK ev p zs parts fun cs => some ⟨.agg cs, none, none, .q0, True⟩
  | none => none
theorem soBuild_ok (O : T.Ok P) {t : Nat} {parts : List (Nat × Operand)} (hev : ∀ q ∈ parts, ∀ v, ev q.2 = some v → s.ev q.2 = v.den) (h : soBuild T ev t parts = some r) : Snd P ops ⟨d, .build t parts.toArray, ty, pos, af, none⟩ s r := by
  intro rest R hp hk
  unfold soBuild at h
  split at h
  · rename_i zs p hb
    obtain ⟨ps, cs, h1, h2, h3⟩ := fillK_eq hev h
    injection h3 with h3; subst h3
    exact R_build (O.bi_of hb) h1 h2 hk
  · cases h
def soBuildSl (T : Tb) (ev : Operand → Option SV) (t n : Nat) (parts : List (Nat × Operand)) : Option SR :=
  match lkN T.ms t with
  | some (sz, _, z :: zs) => match Nat.ble (n * sz) 16777216 with
    | true => fillK ev (.elems sz) (repS (z :: zs) n []) parts fun cs => fvK cs fun fs => some ⟨.c (.c (.tip sz fs n)), none, none, .q0, True⟩
    | false => none
  | _ => none
theorem soBuildSl_ok (O : T.Ok P) {t n : Nat} {parts : List (Nat × Operand)} (hev : ∀ q ∈ parts, ∀ v, ev q.2 = some v → s.ev q.2 = v.den) (h : soBuildSl T ev t n parts = some r) : Snd P ops ⟨d, .buildSlice t n parts.toArray, ty, pos, af, none⟩ s r := by
  intro rest R hp hk
  unfold soBuildSl at h
  split at h
  · rename_i sz by_ z zs hm
    split at h
    · rename_i hle
      obtain ⟨ps, cs, h1, h2, h3⟩ := fillK_eq hev h
      obtain ⟨fs, h4, h5⟩ := fvK_eq h3
      injection h5 with h5; subst h5
      refine R_buildSlice (O.ms_of hm) h1 (Nat.le_of_ble_eq_true hle) ?_ h4 hk
      rw [repS_den _ _ (by simp)]
      exact h2
    · cases h
  · cases h
/-- What a fresh block's elements are, by the slice's type. -/
abbrev El := List (Nat × TyE)
def okEs : El → Prop
  | [] => True
  | p :: l => p.2.Ok ∧ okEs l
theorem okEs_mem : ∀ {E : El}, okEs E → ∀ p ∈ E, p.2.Ok
  | [], _, p, hp => by cases hp
  | q :: l, h, p, hp => by
    rcases List.mem_cons.1 hp with rfl | hp
    · exact h.1
    · exact okEs_mem h.2 p hp
structure El.Ok (E : El) (P : Program) : Prop where
  eq : (E.map fun p => (mkInfo P p.1).map fun q => (q.1, q.2.2)) = E.map fun p => some (p.2.z, (p.2.F p.2.d).map CVal.f)
  ok : okEs E
def nums : List Nat := [0, 1, 2, 3, 4, 5, 6, 7, 8, 9, 10, 11, 12, 13, 14, 15, 16, 17, 18, 19, 20, 21, 22, 23, 24, 25, 26, 27, 28, 29, 30, 31, 32, 33, 34, 35, 36, 37, 38, 39]
def snocGo : SH → List Nat → SB → (Nat → SH → Option SR) → Option SR
  | [], n :: _, b, k => k n [some b]
  | x :: H, _ :: ns, b, k => snocGo H ns b fun m H' => k m (x :: H')
  | _, [], _, _ => none
def snocK (H : SH) (b : SB) (k : Nat → SH → Option SR) : Option SR := snocGo H nums b k
def soMake (E : El) (H : SH) (t : Nat) (bys : Option Nat) (l c : SV) : Option SR :=
  match lkN E t with
  | some e => match bys with
    | some by_ => match l with
      | .c (.c (.f (.v (.int k m)))) => match c with
        | .c (.c (.f (.v (.int j m')))) => snocK H (.els e.z e.F e.V e.M e.d (List.replicate m.toNat e.d)) fun n H' => some ⟨.c (.c (.arr n 0 m.toNat m.toNat)), none, some H', .mk1 n, (0 ≤ m ∧ m ≤ 4611686018427387904 ∧ (by_ : Int) * m ≤ 281474976710656) ∧ m = m'⟩
        | _ => none
      | _ => none
    | none => none
  | none => none
theorem snocGo_eq {b : SB} : ∀ {H : SH} {ns : List Nat} {k : Nat → SH → Option SR}, snocGo H ns b k = some r → ∃ n, ns[H.length]? = some n ∧ k n (H ++ [some b]) = some r
  | [], [], k, h => by cases h
  | [], n :: ns, k, h => ⟨n, rfl, h⟩
  | x :: H, [], k, h => by cases h
  | x :: H, m :: ns, k, h => by
    obtain ⟨n, h1, h2⟩ := snocGo_eq (H := H) (ns := ns) h
    exact ⟨n, by simpa using h1, h2⟩
theorem nums_get : ∀ {i n : Nat}, nums[i]? = some n → n = i := by
  intro i n h
  have hl : i < 40 := (List.getElem?_eq_some_iff.1 h).1
  have e : nums = List.range 40 := by decide
  rw [e, List.getElem?_range hl] at h
  injection h with h
  exact h.symm
theorem snocK_eq {b : SB} {k : Nat → SH → Option SR} (h : snocK H b k = some r) : k H.length (H ++ [some b]) = some r := by
  obtain ⟨n, h1, h2⟩ := snocGo_eq h
  rw [nums_get h1] at h2
  exact h2
theorem denH_snoc (H : SH) (b : SB) : denH (H ++ [some b]) = denH H ++ [some b.den] := by simp [denH, denB]
theorem soMake_ok (O : T.Ok P) {E : El} (hE : E.Ok P) (hH : s.H = denH H) {t : Nat} {l c : Operand} {v u : SV} (hl : s.ev l = v.den) (hc : s.ev c = u.den) (h : soMake E H t ((lkN T.ms t).map fun q => q.2.1) v u = some r) : Snd P ops ⟨d, .makeSlice t l c, ty, pos, af, none⟩ s r := by
  intro rest R hp hk
  unfold soMake at h
  split at h
  · rename_i e he
    have hmem := lkN_mem he
    have h1 := map_mem hE.eq _ hmem
    have h2 := okEs_mem hE.ok _ hmem
    simp only at h1 h2
    split at h
    · rename_i by_ hby
      obtain ⟨q, hq, hq2⟩ := Option.map_eq_some_iff.1 hby
      obtain ⟨a, b', zs⟩ := q
      simp only at hq2
      subst hq2
      have hm := O.ms_of hq
      rw [hm] at h1
      simp only [Option.map_some, Option.some.injEq, Prod.mk.injEq] at h1
      obtain ⟨e1, e2⟩ := h1
      split at h
      · split at h
        · have h3 := snocK_eq h
          injection h3 with h3; subst h3
          obtain ⟨⟨p1, p2, p3⟩, p4⟩ := hp
          subst p4
          rw [e2] at hm
          refine R_make hm hl hc p1 p2 p3 (by rw [hH, denH_len]) (rep_els h2.len h2.pos _) ?_ hk
          rw [hH, denH_snoc]
          rfl
        · cases h
      · cases h
    · cases h
  · cases h
def soAlloc (T : Tb) (H : SH) (t : Nat) : Option SR :=
  match lkN T.ze t with
  | some zs => snocK H (.cells zs) fun n H' => some ⟨.c (.c (.ptr n 0)), none, some H', .mk1 n, True⟩
  | none => none
theorem soAlloc_ok (O : T.Ok P) (hH : s.H = denH H) {t : Nat} (h : soAlloc T H t = some r) : Snd P ops ⟨d, .alloc t, ty, pos, af, none⟩ s r := by
  intro rest R hp hk
  unfold soAlloc at h
  split at h
  · rename_i zs hz
    have h3 := snocK_eq h
    injection h3 with h3; subst h3
    exact R_alloc (O.ze_of hz) (by rw [hH, denH_len]) (by rw [hH, denH_snoc]; rfl) hk
  · cases h
def soBox (H : SH) (v : SV) : Option SR := cellK v fun ds => snocK H (.cells ds) fun n H' => some ⟨.c (.c (.ptr n 0)), none, some H', .mk1 n, True⟩
theorem soBox_ok (hH : s.H = denH H) {t : Nat} {x : Operand} {v : SV} (hx : s.ev x = v.den) (h : soBox H v = some r) : Snd P ops ⟨d, .box t x, ty, pos, af, none⟩ s r := by
  intro rest R hp hk
  unfold soBox at h
  obtain ⟨ds, h1, h2⟩ := cellK_eq h
  have h3 := snocK_eq h2
  injection h3 with h3; subst h3
  exact R_box hx h1 (by rw [hH, denH_len]) (by rw [hH, denH_snoc]; rfl) hk
/-! ### Parts of slices -/
def boI (ev : Operand → Option SV) (x : Option Operand) (k : Option Int → Option SR) : Option SR :=
  match x with
  | none => k none
  | some o => match ev o with
    | some (.c (.c (.f (.v (.int _ n))))) => k (some n)
    | _ => none
def soSlice (T : Tb) (ev : Operand → Option SV) (t : Nat) (v : SV) (lo hi : Option Operand) : Option SR :=
  boI ev lo fun lo => boI ev hi fun hi => match v with
  | .c (.c (.f (.v (.string b)))) => match memN T.st t with
    | true => match lo, hi with
      | none, none => some ⟨sV (b.extract 0 b.size), none, none, .q0, True⟩
      | some l, none => some ⟨sV (b.extract l.toNat b.size), none, none, .q0, 0 ≤ l ∧ l ≤ b.size⟩
      | none, some h => some ⟨sV (b.extract 0 h.toNat), none, none, .q0, 0 ≤ h ∧ h ≤ b.size⟩
      | some l, some h => some ⟨sV (b.extract l.toNat h.toNat), none, none, .q0, 0 ≤ l ∧ l ≤ h ∧ h ≤ b.size⟩
    | false => none
  | .c (.row z F V e l) => rows z F V e l (lkN T.es t) lo hi
  | .c (.tipr z F V e l) => rows z F V e l (lkN T.es t) lo hi
  | .c (.c (.arr b off n cap)) => match lkN T.es t with
    | some z => match lo, hi with
      | none, some h => some ⟨.c (.c (.arr b off h.toNat cap)), none, none, .q0, 0 ≤ h ∧ h ≤ n ∧ n ≤ cap⟩
      | _, _ => none
    | none => none
  | _ => none
where rows {α : Type} (z : Nat) (F : α → List FVal) (V : α → List SC) (e : α) (l : List α) (es : Option Nat) (lo hi : Option Int) : Option SR :=
  match es with
  | some z' => match Nat.beq z z' with
    | true => match lo, hi with
      | none, none => some ⟨.c (.row z F V e l), none, none, .q0, ∀ x, (F x).length = z⟩
      | some a, none => some ⟨.c (.row z F V e (l.drop a.toNat)), none, none, .q0, (0 ≤ a ∧ a ≤ l.length) ∧ ∀ x, (F x).length = z⟩
      | none, some b => some ⟨.c (.row z F V e (l.take b.toNat)), none, none, .q0, (0 ≤ b ∧ b ≤ l.length) ∧ ∀ x, (F x).length = z⟩
      | some a, some b => some ⟨.c (.row z F V e ((l.drop a.toNat).take (b - a).toNat)), none, none, .q0, (0 ≤ a ∧ a ≤ b ∧ b ≤ l.length) ∧ ∀ x, (F x).length = z⟩
    | false => none
  | none => none
theorem boI_eq {x : Option Operand} {k : Option Int → Option SR} (h : boI ev x k = some r) (hev : ∀ o, x = some o → ∀ v, ev o = some v → s.ev o = v.den) : ∃ n, k n = some r ∧ ((x = none ∧ n = none) ∨ ∃ m, n = some m ∧ ∀ d, bnd s x d = some m) := by
  unfold boI at h
  split at h
  · exact ⟨none, h, .inl ⟨rfl, rfl⟩⟩
  · rename_i o
    split at h
    · rename_i k' n hn
      refine ⟨some n, h, .inr ⟨n, rfl, fun d => ?_⟩⟩
      exact bnd_some (hev o rfl _ hn)
    · cases h
theorem soRows_ok (O : T.Ok P) {t : Nat} {x : Operand} {lo hi : Option Operand} {α : Type} {z : Nat} {F : α → List FVal} {V : α → List SC} {e : α} {l : List α} {v : AVal} (hx : s.ev x = v) (hv : v.dem = .c (.f (.row (l.flatMap F) l.length))) {a b : Option Int}
    (ha : (lo = none ∧ a = none) ∨ ∃ m, a = some m ∧ ∀ d, bnd s lo d = some m) (hb : (hi = none ∧ b = none) ∨ ∃ m, b = some m ∧ ∀ d, bnd s hi d = some m) (h : soSlice.rows z F V e l (lkN T.es t) a b = some r) : Snd P ops ⟨d, .slice t x lo hi none, ty, pos, af, none⟩ s r := by
  intro rest R hp hk
  unfold soSlice.rows at h
  split at h
  · rename_i z' hz
    have hz := O.es_of hz
    split at h
    · rename_i hzz
      have hzz := Nat.eq_of_beq_eq_true hzz
      subst hzz
      split at h
      · injection h with h; subst h
        obtain ⟨rfl, _⟩ : lo = none ∧ True := by rcases ha with h | ⟨m, h, _⟩; exact ⟨h.1, trivial⟩; cases h
        obtain ⟨rfl, _⟩ : hi = none ∧ True := by rcases hb with h | ⟨m, h, _⟩; exact ⟨h.1, trivial⟩; cases h
        refine R_slice_row hz hx hv rfl rfl (by omega) (by omega) (by omega) ?_ ?_ hk
        · rw [show (0 : Int).toNat = 0 from rfl, Nat.zero_mul, List.drop_zero, Int.sub_zero, Int.toNat_natCast, flatMap_takeB F z hp, List.take_length]
        · simp
      · rename_i a'
        injection h with h; subst h
        obtain ⟨⟨h0, h1⟩, hF⟩ := hp
        obtain ⟨rfl, _⟩ : hi = none ∧ True := by rcases hb with h | ⟨m, h, _⟩; exact ⟨h.1, trivial⟩; cases h
        have ha : ∀ d, bnd s lo d = some a' := by rcases ha with ⟨_, h⟩ | ⟨m, h, h2⟩; cases h; injection h with h; subst h; exact h2
        refine R_slice_row hz hx hv (ha 0) rfl h0 h1 (by omega) ?_ ?_ hk
        · rw [flatMap_dropB F z hF, flatMap_takeB F z hF, List.take_of_length_le (by rw [List.length_drop]; omega)]
        · rw [List.length_drop]; omega
      · rename_i b'
        injection h with h; subst h
        obtain ⟨⟨h0, h1⟩, hF⟩ := hp
        obtain ⟨rfl, _⟩ : lo = none ∧ True := by rcases ha with h | ⟨m, h, _⟩; exact ⟨h.1, trivial⟩; cases h
        have hb : ∀ d, bnd s hi d = some b' := by rcases hb with ⟨_, h⟩ | ⟨m, h, h2⟩; cases h; injection h with h; subst h; exact h2
        refine R_slice_row hz hx hv rfl (hb _) (by omega) h0 h1 ?_ ?_ hk
        · rw [show (0 : Int).toNat = 0 from rfl, Nat.zero_mul, List.drop_zero, Int.sub_zero, flatMap_takeB F z hF]
        · rw [List.length_take]; omega
      · rename_i a' b'
        injection h with h; subst h
        obtain ⟨⟨h0, h1, h2⟩, hF⟩ := hp
        have ha : ∀ d, bnd s lo d = some a' := by rcases ha with ⟨_, h⟩ | ⟨m, h, h2⟩; cases h; injection h with h; subst h; exact h2
        have hb : ∀ d, bnd s hi d = some b' := by rcases hb with ⟨_, h⟩ | ⟨m, h, h2⟩; cases h; injection h with h; subst h; exact h2
        refine R_slice_row hz hx hv (ha 0) (hb _) h0 h1 h2 ?_ ?_ hk
        · rw [flatMap_dropB F z hF, flatMap_takeB F z hF]
        · rw [List.length_take, List.length_drop]; omega
    · cases h
  · cases h
theorem R_slice_arr {t : TypeId} {x : Operand} {hi : Operand} {z b off n cap : Nat} {h' : Int} (hz : elemSz P t = some z) (hx : s.ev x = .c (.arr b off n cap)) (hh : bnd s (some hi) n = some h') (h0 : 0 ≤ h') (h1 : h' ≤ cap) {rest : List Oper} {R : Rg} (h : WR P ops rest (s.put d (.c (.arr b off h'.toNat cap))) (R.push .q0)) :
    WR P ops (⟨d, .slice t x none (some hi) none, ty, pos, af, none⟩ :: rest) s R := by
  refine WR_op (wantA_none rfl) rfl ?_ (clOf0 rfl rfl rfl) h
  show aSlice P s _ t x none (some hi) none = _
  unfold aSlice
  rw [hz, hx]
  have e : (AVal.c (CVal.arr b off n cap)).dem = .c (.arr b off n cap) := rfl
  rw [e]
  simp only [hh]
  have h2 : bnd s none 0 = some 0 := rfl
  rw [h2]
  simp only
  rw [if_pos ⟨by omega, h0, h1⟩]
  simp
theorem soSlice_ok (O : T.Ok P) {t : Nat} {x : Operand} {v : SV} {lo hi : Option Operand} (hx : s.ev x = v.den) (hlo : ∀ o, lo = some o → ∀ v, ev o = some v → s.ev o = v.den) (hhi : ∀ o, hi = some o → ∀ v, ev o = some v → s.ev o = v.den) (h : soSlice T ev t v lo hi = some r) : Snd P ops ⟨d, .slice t x lo hi none, ty, pos, af, none⟩ s r := by
  unfold soSlice at h
  obtain ⟨a, h', ha⟩ := boI_eq h hlo
  clear h
  obtain ⟨b, h, hb⟩ := boI_eq h' hhi
  clear h'
  split at h
  · rename_i b0
    intro rest R hp hk
    split at h
    · rename_i ht
      have ht := O.st_of ht
      split at h
      · injection h with h; subst h
        obtain ⟨rfl, _⟩ : lo = none ∧ True := by rcases ha with h | ⟨m, h, _⟩; exact ⟨h.1, trivial⟩; cases h
        obtain ⟨rfl, _⟩ : hi = none ∧ True := by rcases hb with h | ⟨m, h, _⟩; exact ⟨h.1, trivial⟩; cases h
        refine R_slice_str ht hx rfl rfl (by omega) (by omega) (by omega) ?_
        rw [Int.toNat_natCast]; exact hk
      · rename_i a'
        injection h with h; subst h
        obtain ⟨rfl, _⟩ : hi = none ∧ True := by rcases hb with h | ⟨m, h, _⟩; exact ⟨h.1, trivial⟩; cases h
        have ha : ∀ d, bnd s lo d = some a' := by rcases ha with ⟨_, h⟩ | ⟨m, h, h2⟩; cases h; injection h with h; subst h; exact h2
        refine R_slice_str ht hx (ha _) rfl hp.1 hp.2 (by omega) ?_
        rw [Int.toNat_natCast]; exact hk
      · rename_i b'
        injection h with h; subst h
        obtain ⟨rfl, _⟩ : lo = none ∧ True := by rcases ha with h | ⟨m, h, _⟩; exact ⟨h.1, trivial⟩; cases h
        have hb : ∀ d, bnd s hi d = some b' := by rcases hb with ⟨_, h⟩ | ⟨m, h, h2⟩; cases h; injection h with h; subst h; exact h2
        exact R_slice_str ht hx rfl (hb _) (by omega) hp.1 hp.2 hk
      · rename_i a' b'
        injection h with h; subst h
        have ha : ∀ d, bnd s lo d = some a' := by rcases ha with ⟨_, h⟩ | ⟨m, h, h2⟩; cases h; injection h with h; subst h; exact h2
        have hb : ∀ d, bnd s hi d = some b' := by rcases hb with ⟨_, h⟩ | ⟨m, h, h2⟩; cases h; injection h with h; subst h; exact h2
        exact R_slice_str ht hx (ha _) (hb _) hp.1 hp.2.1 hp.2.2 hk
    · cases h
  · exact soRows_ok O hx rfl ha hb h
  · exact soRows_ok O hx rfl ha hb h
  · intro rest R hp hk
    split at h
    · rename_i z hz
      split at h
      · rename_i b'
        injection h with h; subst h
        obtain ⟨rfl, _⟩ : lo = none ∧ True := by rcases ha with h | ⟨m, h, _⟩; exact ⟨h.1, trivial⟩; cases h
        have hb2 : ∃ o, hi = some o := by rcases hb with ⟨_, h⟩ | ⟨m, h, h2⟩; cases h; cases hi; exact absurd (h2 (m + 1)) (by simp [bnd]; omega); exact ⟨_, rfl⟩
        obtain ⟨o, rfl⟩ := hb2
        have hb : ∀ d, bnd s (some o) d = some b' := by rcases hb with ⟨_, h⟩ | ⟨m, h, h2⟩; cases h; injection h with h; subst h; exact h2
        exact R_slice_arr (O.es_of hz) hx (hb _) hp.1 (by obtain ⟨_, h2, h3⟩ := hp; omega) hk
      · cases h
    · cases h
  · cases h
end
end Go.Proofs.Ythnfliopmjpdmaa.Av
