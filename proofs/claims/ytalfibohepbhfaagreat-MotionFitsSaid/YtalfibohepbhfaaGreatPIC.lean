/- What the claims use of their texts: AvS6, AvS7, AvS8, AvS9, AvSA, AvSB, AvSC, LayPlain, AvEl, AvX, Ps1, Base, Name, LayRead, RowsF, QTail, CkI. -/
import Derived.Test.YtalfibohepbhfaaGreatPIB
set_option linter.unusedVariables false
set_option linter.unusedSimpArgs false
set_option maxRecDepth 4000
set_option maxHeartbeats 4000000
namespace Go.Proofs.YtalfibohepbhfaaGreat.Av
def cellK {β : Type 1} (v : SV) (k : List SC → Option β) : Option β :=
 match v with
 | .c x => match oneS x with
  | true => demK [x] k
  | false => none
 | .agg ds => match allOne ds with
  | true => k ds
  | false => none
 | .tup _ => none
theorem dem_one (x : CVal) (h : x.one = true) : x.dem.one = true := by cases x <;> first | exact h | rfl
theorem cellK_eq {β : Type 1} {v : SV} {k : List SC → Option β} {r : β} (h : cellK v k = some r) : ∃ ds, v.den.dem.cells = some (denL ds) ∧ k ds = some r := by
 unfold cellK at h
 split at h
 ·rename_i x
  split at h
  ·rename_i h1
   obtain ⟨ds, h2, h3⟩ := demK_eq h
   refine ⟨ds, ?_, h3⟩
   have h4 := dem_one _ (oneS_den h1)
   show (if x.den.dem.one then some [x.den.dem] else none) = _
   rw [h4, h2]
   rfl
  ·cases h
 ·rename_i ds
  split at h
  ·rename_i h1
   exact ⟨ds, cellsS_agg h1, h⟩
  ·cases h
 ·cases h
def plAt (p : Pl) (i : Nat) : Option (Nat × Nat) :=
 match p with
 | .fields l => nth0 l i
 | .elems z => some (i * z, z)
theorem plAt_eq (p : Pl) (i : Nat) : plAt p i = p.at i := by
 cases p with
 | fields l => exact nth0_get l i
 | elems z => rfl
def fillK {β : Type 1} (ev : Operand → Option SV) (p : Pl) : List SC → List (Nat × Operand) → (List SC → Option β) → Option β
 | cells, [], k => k cells
 | cells, (i, x) :: rest, k => match plAt p i with
  | some (off, size) => match ev x with
   | some v => cellK v fun ds => match lenIs ds size with
    | true => match Nat.ble 1 size with
     | true => setsK cells off ds fun cs => fillK ev p cs rest k
     | false => none
    | false => none
   | none => none
  | none => none
theorem fillK_eq {β : Type 1} {ev : Operand → Option SV} {p : Pl} {s : St} {r : β} : ∀ {parts : List (Nat × Operand)} {cells : List SC} {k : List SC → Option β}, (∀ q ∈ parts, ∀ v, ev q.2 = some v → s.ev q.2 = v.den) → fillK ev p cells parts k = some r →
  ∃ ps cs, partsC s parts = some ps ∧ aFill p (denL cells) ps = some (denL cs) ∧ k cs = some r
 | [], cells, k, _, h => ⟨[], cells, rfl, rfl, h⟩
 | (i, x) :: rest, cells, k, hev, h => by
  unfold fillK at h
  split at h
  ·rename_i off size hpl
   rw [plAt_eq] at hpl
   split at h
   ·rename_i v hv
    have hx := hev (i, x) (by simp) v hv
    obtain ⟨ds, h1, h2⟩ := cellK_eq h
    split at h2
    ·rename_i hl
     have hl := lenIs_eq hl
     split at h2
     ·rename_i h1s
      have h1s := Nat.le_of_ble_eq_true h1s
      have hln := setsK_len h2
      obtain ⟨cs1, h3, h4⟩ := setsK_eq h2 (by rcases hln with h | h; exact .inr h; exact .inl h)
      obtain ⟨ps, cs, h5, h6, h7⟩ := fillK_eq (s := s) (fun q hq => hev q (by simp [hq])) h4
      refine ⟨(i, denL ds) :: ps, cs, ?_, ?_, h7⟩
      ·exact partsC_c hx h1 h5
      ·unfold aFill
       rw [hpl]
       simp only
       have hz : off + size ≤ (denL cells).length := by
        rw [den_len]
        rcases hln with rfl | hln
        ·simp at hl; omega
        ·omega
       rw [if_pos ⟨by rw [den_len]; exact hl, hz⟩, ← h3]
       exact h6
     ·cases h2
    ·cases h2
   ·cases h
  ·cases h
def appS : List SC → List SC → List SC
 | [], r => r
 | x :: l, r => x :: appS l r
def repS (zs : List SC) : Nat → List SC → List SC
 | 0, r => r
 | n + 1, r => repS zs n (appS zs r)
theorem appS_eq : ∀ l r : List SC, appS l r = l ++ r
 | [], _ => rfl
 | x :: l, r => by simp [appS, appS_eq l r]
theorem repS_get (zs : List SC) : ∀ (n : Nat) (r : List SC) (j : Nat), (repS zs n r)[j]? = if j < n * zs.length then zs[j % zs.length]? else r[j - n * zs.length]?
 | 0, r, j => by simp [repS]
 | n + 1, r, j => by
  rw [repS, repS_get zs n, appS_eq]
  by_cases h : j < n * zs.length
  ·rw [if_pos h, if_pos (by rw [Nat.succ_mul]; omega)]
  ·rw [if_neg h]
   by_cases h2 : j < (n + 1) * zs.length
   ·rw [if_pos h2]
    rw [Nat.succ_mul] at h2
    rw [List.getElem?_append_left (by omega)]
    congr 1
    have e : j = (j - n * zs.length) + zs.length * n := by rw [Nat.mul_comm zs.length n]; omega
    have e2 : j % zs.length = j - n * zs.length := by
     have e3 : (j - n * zs.length + zs.length * n) % zs.length = j - n * zs.length := by rw [Nat.add_mul_mod_self_left]; exact Nat.mod_eq_of_lt (by omega)
     rwa [← e] at e3
    rw [e2]
   ·rw [if_neg h2]
    rw [Nat.succ_mul] at h2
    rw [List.getElem?_append_right (by omega), Nat.succ_mul]
    congr 1; omega
theorem repS_den (zs : List SC) (n : Nat) (hz : zs ≠ []) : repCells (denL zs) n = denL (repS zs n []) := by
 rw [repCells_eq]
 have h0 : 0 < zs.length := by cases zs with | nil => exact absurd rfl hz | cons => simp
 apply List.ext_getElem?
 intro j
 simp only [denL, List.getElem?_map, repS_get, List.length_map]
 by_cases h : j < n * zs.length
 ·rw [if_pos h, List.getElem?_range h]
  have hm : j % zs.length < zs.length := Nat.mod_lt _ h0
  simp [List.getElem?_eq_getElem hm, hm]
 ·rw [if_neg h, List.getElem?_eq_none (by simpa using Nat.le_of_not_lt h)]
  simp
structure TyE : Type 1 where
 α : Type
 z : Nat
 F : α → List FVal
 V : α → List SC
 M : List FVal → Option α
 d : α
structure TyE.Ok (e : TyE) : Prop where
 len : ∀ x, (e.F x).length = e.z
 pos : 0 < e.z
theorem flatMap_lenB {α β : Type} (f : α → List β) (n : Nat) (h : ∀ x, (f x).length = n) : ∀ l : List α, (l.flatMap f).length = l.length * n
 | [] => by simp
 | x :: l => by simp only [List.flatMap_cons, List.length_append, h x, flatMap_lenB f n h l, List.length_cons, Nat.succ_mul]; omega
theorem rep_els {α : Type} {z : Nat} {F : α → List FVal} {d : α} (hF : ∀ x, (F x).length = z) (hz : 0 < z) (n : Nat) : repCells ((F d).map CVal.f) n = ((List.replicate n d).flatMap F).map CVal.f := by
 rw [repCells_eq]
 apply List.ext_getElem?
 intro j
 simp only [List.length_map, hF, List.getElem?_map]
 by_cases h : j < n * z
 ·rw [List.getElem?_range h]
  have hj : (List.replicate n d)[j / z]? = some d := by
   rw [List.getElem?_replicate, if_pos (Nat.div_lt_of_lt_mul (by rw [Nat.mul_comm]; exact h))]
  have hm : j % z < z := Nat.mod_lt _ hz
  have := flatMap_get F z hF _ (j / z) (j % z) d hj hm
  have e : j / z * z + j % z = j := by rw [Nat.mul_comm]; exact Nat.div_add_mod j z
  rw [e] at this
  rw [this]
  have h2 : j % z < (F d).length := by rw [hF]; exact hm
  simp [List.getElem?_eq_getElem h2, hF, hm]
 ·have hl : ((List.replicate n d).flatMap F).length ≤ j := by rw [flatMap_lenB F z hF, List.length_replicate]; omega
  rw [List.getElem?_eq_none hl, List.getElem?_eq_none (by simpa using Nat.le_of_not_lt h)]
  rfl
theorem flatMap_dropB {α β : Type} (f : α → List β) (n : Nat) (h : ∀ x, (f x).length = n) : ∀ (l : List α) (i : Nat), (l.flatMap f).drop (i * n) = (l.drop i).flatMap f
 | [], i => by simp
 | x :: l, 0 => by simp
 | x :: l, i + 1 => by
  rw [show (i + 1) * n = (f x).length + i * n by rw [h, Nat.succ_mul]; omega, List.flatMap_cons, List.drop_append]
  simp only [Nat.add_sub_cancel_left, List.drop_succ_cons]
  rw [List.drop_of_length_le (by omega), List.nil_append]
  exact flatMap_dropB f n h l i
theorem flatMap_takeB {α β : Type} (f : α → List β) (n : Nat) (h : ∀ x, (f x).length = n) : ∀ (l : List α) (i : Nat), (l.flatMap f).take (i * n) = (l.take i).flatMap f
 | [], i => by simp
 | x :: l, 0 => by simp
 | x :: l, i + 1 => by
  rw [show (i + 1) * n = (f x).length + i * n by rw [h, Nat.succ_mul]; omega, List.flatMap_cons, List.take_append]
  simp only [Nat.add_sub_cancel_left, List.take_succ_cons, List.flatMap_cons]
  rw [List.take_of_length_le (by omega), flatMap_takeB f n h l i]
section
variable {P : Program} {ops : Array Oper} {s : St} {d : Option Tmp} {ty : TypeId} {pos : String} {af : Array Edge} {T : Tb} {r : SR} {H : SH} {ev : Operand → Option SV}
def soBuild (T : Tb) (ev : Operand → Option SV) (t : Nat) (parts : List (Nat × Operand)) : Option SR :=
 match lkN T.bi t with
 | some (zs, p) => fillK ev p zs parts fun cs => some ⟨.agg cs, none, none, .q0, True⟩
 | none => none
theorem soBuild_ok (O : T.Ok P) {t : Nat} {parts : List (Nat × Operand)} (hev : ∀ q ∈ parts, ∀ v, ev q.2 = some v → s.ev q.2 = v.den) (h : soBuild T ev t parts = some r) : Snd P ops ⟨d, .build t parts.toArray, ty, pos, af, none⟩ s r := by
 intro rest R hp hk
 unfold soBuild at h
 split at h
 ·rename_i zs p hb
  obtain ⟨ps, cs, h1, h2, h3⟩ := fillK_eq hev h
  injection h3 with h3; subst h3
  exact R_build (O.bi_of hb) h1 h2 hk
 ·cases h
def soBuildSl (T : Tb) (ev : Operand → Option SV) (t n : Nat) (parts : List (Nat × Operand)) : Option SR :=
 match lkN T.ms t with
 | some (sz, _, z :: zs) => match Nat.ble (n * sz) 16777216 with
  | true => fillK ev (.elems sz) (repS (z :: zs) n []) parts fun cs => fvK cs fun fs => some ⟨.c (.c (.tip sz fs n)), none, none, .q0, True⟩
  | false => none
 | _ => none
theorem soBuildSl_ok (O : T.Ok P) {t n : Nat} {parts : List (Nat × Operand)} (hev : ∀ q ∈ parts, ∀ v, ev q.2 = some v → s.ev q.2 = v.den) (h : soBuildSl T ev t n parts = some r) : Snd P ops ⟨d, .buildSlice t n parts.toArray, ty, pos, af, none⟩ s r := by
 intro rest R hp hk
 unfold soBuildSl at h
 split at h
 ·rename_i sz by_ z zs hm
  split at h
  ·rename_i hle
   obtain ⟨ps, cs, h1, h2, h3⟩ := fillK_eq hev h
   obtain ⟨fs, h4, h5⟩ := fvK_eq h3
   injection h5 with h5; subst h5
   refine R_buildSlice (O.ms_of hm) h1 (Nat.le_of_ble_eq_true hle) ?_ h4 hk
   rw [repS_den _ _ (by simp)]
   exact h2
  ·cases h
 ·cases h
structure El : Type 1 where
 sl : List (Nat × TyE)
 ar : List (Nat × Nat × TyE)
def okEs : List (Nat × TyE) → Prop
 | [] => True
 | p :: l => p.2.Ok ∧ okEs l
theorem okEs_mem : ∀ {E : List (Nat × TyE)}, okEs E → ∀ p ∈ E, p.2.Ok
 | [], _, p, hp => by cases hp
 | q :: l, h, p, hp => by
  rcases List.mem_cons.1 hp with rfl | hp
  ·exact h.1
  ·exact okEs_mem h.2 p hp
structure El.Ok (E : El) (P : Program) : Prop where
 eq : (E.sl.map fun p => (mkInfo P p.1).map fun q => (q.1, q.2.2)) = E.sl.map fun p => some (p.2.z, (p.2.F p.2.d).map CVal.f)
 ok : okEs E.sl
 ar : (E.ar.map fun p => (elemSz P p.1, arrOf P p.1, zeroC P p.1)) = E.ar.map fun p => (none, some (p.2.1, p.2.2.z), some (((List.replicate p.2.1 p.2.2.d).flatMap p.2.2.F).map CVal.f))
def nums : List Nat := [0, 1, 2, 3, 4, 5, 6, 7, 8, 9, 10, 11, 12, 13, 14, 15, 16, 17, 18, 19, 20, 21, 22, 23, 24, 25, 26, 27, 28, 29, 30, 31, 32, 33, 34, 35, 36, 37, 38, 39]
def snocGo : SH → List Nat → SB → (Nat → SH → Option SR) → Option SR
 | [], n :: _, b, k => k n [some b]
 | x :: H, _ :: ns, b, k => snocGo H ns b fun m H' => k m (x :: H')
 | _, [], _, _ => none
def snocK (H : SH) (b : SB) (k : Nat → SH → Option SR) : Option SR := snocGo H nums b k
def soMake (E : El) (H : SH) (t : Nat) (bys : Option Nat) (l c : SV) : Option SR :=
 match lkN E.sl t with
 | some e => match bys with
  | some by_ => match l with
   | .c (.c (.f (.v (.int k m)))) => match c with
    | .c (.c (.f (.v (.int j m')))) => snocK H (.els e.z e.F e.V e.M e.d (List.replicate m.toNat e.d)) fun n H' => some ⟨.c (.c (.arr n 0 m.toNat m.toNat)), none, some H', .mk1 n, (0 ≤ m ∧ m ≤ 4611686018427387904 ∧ (by_ : Int) * m ≤ 281474976710656) ∧ m = m'⟩
    | _ => none
   | _ => none
  | none => none
 | none => none
theorem snocGo_eq {b : SB} : ∀ {H : SH} {ns : List Nat} {k : Nat → SH → Option SR}, snocGo H ns b k = some r → ∃ n, ns[H.length]? = some n ∧ k n (H ++ [some b]) = some r
 | [], [], k, h => by cases h
 | [], n :: ns, k, h => ⟨n, rfl, h⟩
 | x :: H, [], k, h => by cases h
 | x :: H, m :: ns, k, h => by
  obtain ⟨n, h1, h2⟩ := snocGo_eq (H := H) (ns := ns) h
  exact ⟨n, by simpa using h1, h2⟩
theorem nums_get : ∀ {i n : Nat}, nums[i]? = some n → n = i := by
 intro i n h
 have hl : i < 40 := (List.getElem?_eq_some_iff.1 h).1
 have e : nums = List.range 40 := by decide
 rw [e, List.getElem?_range hl] at h
 injection h with h
 exact h.symm
theorem snocK_eq {b : SB} {k : Nat → SH → Option SR} (h : snocK H b k = some r) : k H.length (H ++ [some b]) = some r := by
 obtain ⟨n, h1, h2⟩ := snocGo_eq h
 rw [nums_get h1] at h2
 exact h2
theorem denH_snoc (H : SH) (b : SB) : denH (H ++ [some b]) = denH H ++ [some b.den] := by simp [denH, denB]
theorem soMake_ok (O : T.Ok P) {E : El} (hE : E.Ok P) (hH : s.H = denH H) {t : Nat} {l c : Operand} {v u : SV} (hl : s.ev l = v.den) (hc : s.ev c = u.den) (h : soMake E H t ((lkN T.ms t).map fun q => q.2.1) v u = some r) : Snd P ops ⟨d, .makeSlice t l c, ty, pos, af, none⟩ s r := by
 intro rest R hp hk
 unfold soMake at h
 split at h
 ·rename_i e he
  have hmem := lkN_mem he
  have h1 := map_mem hE.eq _ hmem
  have h2 := okEs_mem hE.ok _ hmem
  simp only at h1 h2
  split at h
  ·rename_i by_ hby
   obtain ⟨q, hq, hq2⟩ := Option.map_eq_some_iff.1 hby
   obtain ⟨a, b', zs⟩ := q
   simp only at hq2
   subst hq2
   have hm := O.ms_of hq
   rw [hm] at h1
   simp only [Option.map_some, Option.some.injEq, Prod.mk.injEq] at h1
   obtain ⟨e1, e2⟩ := h1
   split at h
   ·split at h
    ·have h3 := snocK_eq h
     injection h3 with h3; subst h3
     obtain ⟨⟨p1, p2, p3⟩, p4⟩ := hp
     subst p4
     rw [e2] at hm
     refine R_make hm hl hc p1 p2 p3 (by rw [hH, denH_len]) (rep_els h2.len h2.pos _) ?_ hk
     rw [hH, denH_snoc]
     rfl
    ·cases h
   ·cases h
  ·cases h
 ·cases h
def soAlloc (T : Tb) (E : El) (H : SH) (t : Nat) : Option SR :=
 match lkN E.ar t with
 | some (m, e) => snocK H (.els e.z e.F e.V e.M e.d (List.replicate m e.d)) fun n H' => some ⟨.c (.c (.ptr n 0)), none, some H', .mk1 n, True⟩
 | none => match lkN T.ze t with
  | some zs => snocK H (.cells zs) fun n H' => some ⟨.c (.c (.ptr n 0)), none, some H', .mk1 n, True⟩
  | none => none
theorem El.Ok.ar_of {E : El} (hE : E.Ok P) {t m : Nat} {e : TyE} (h : lkN E.ar t = some (m, e)) : elemSz P t = none ∧ arrOf P t = some (m, e.z) ∧ zeroC P t = some (((List.replicate m e.d).flatMap e.F).map CVal.f) := by
 have h1 := map_mem hE.ar _ (lkN_mem h)
 simp only [Prod.mk.injEq] at h1
 exact h1
theorem soAlloc_ok (O : T.Ok P) {E : El} (hE : E.Ok P) (hH : s.H = denH H) {t : Nat} (h : soAlloc T E H t = some r) : Snd P ops ⟨d, .alloc t, ty, pos, af, none⟩ s r := by
 intro rest R hp hk
 unfold soAlloc at h
 split at h
 ·rename_i m e he
  have h3 := snocK_eq h
  injection h3 with h3; subst h3
  exact R_alloc (hE.ar_of he).2.2 (by rw [hH, denH_len]) (by rw [hH, denH_snoc]; rfl) hk
 ·split at h
  ·rename_i zs hz
   have h3 := snocK_eq h
   injection h3 with h3; subst h3
   exact R_alloc (O.ze_of hz) (by rw [hH, denH_len]) (by rw [hH, denH_snoc]; rfl) hk
  ·cases h
theorem R_ia_ptr {t : TypeId} {x i : Operand} {n : Int} {m z b off off' : Nat} {k : IntKind} {rest : List Oper} {R : Rg} (hz : elemSz P t = none) (ha : arrOf P t = some (m, z)) (hx : s.ev x = .c (.ptr b off)) (hi : s.ev i = .c (.f (.v (.int k n)))) (h0 : 0 ≤ n) (h1 : n < m) (ho : off + n.toNat * z = off')
  (h : WR P ops rest (s.put d (.c (.ptr b off'))) (R.push .q0)) : WR P ops (⟨d, .indexAddr t x i, ty, pos, af, none⟩ :: rest) s R := by
 refine WR_op (wantA_none rfl) rfl ?_ (clOf0 rfl rfl rfl) h
 show aIndexAddr P s t x i = _
 unfold aIndexAddr
 rw [hi]
 simp only [AVal.ix]
 rw [if_pos h0, hz, ha, hx]
 simp only [AVal.dem, CVal.dem, if_pos h1, ho]
def soIAp (E : El) (H : SH) (t : Nat) (v i : SV) : Option SR :=
 match lkN E.ar t with
 | some (m, e) => match i with
  | .c (.c (.f (.v (.int k n)))) => match v with
   | .c (.c (.ptr b off)) => match nth H b with
    | some (some (.els z' F V M e' l)) => match Nat.beq e.z z', Nat.beq off 0 with
     | true, true => some ⟨.c (.pel b z' n 0), none, none, .q0, 0 ≤ n ∧ n < m⟩
     | _, _ => none
    | _ => none
   | _ => none
  | _ => none
 | none => none
theorem soIAp_ok {E : El} (hE : E.Ok P) {t : Nat} {x i : Operand} {v u : SV} (hx : s.ev x = v.den) (hi : s.ev i = u.den) (h : soIAp E H t v u = some r) : Snd P ops ⟨d, .indexAddr t x i, ty, pos, af, none⟩ s r := by
 intro rest R hp hk
 unfold soIAp at h
 split at h
 ·rename_i m e he
  obtain ⟨h1, h2, _⟩ := hE.ar_of he
  split at h
  ·split at h
   ·split at h
    ·split at h
     ·rename_i hb hb2
      have hb := Nat.eq_of_beq_eq_true hb
      have hb2 := Nat.eq_of_beq_eq_true hb2
      subst hb2
      injection h with h; subst h
      exact R_ia_ptr h1 h2 hx hi hp.1 hp.2 (by rw [hb]; omega) hk
     ·cases h
    ·cases h
   ·cases h
  ·cases h
 ·cases h
def soBox (H : SH) (v : SV) : Option SR := cellK v fun ds => snocK H (.cells ds) fun n H' => some ⟨.c (.c (.ptr n 0)), none, some H', .mk1 n, True⟩
theorem soBox_ok (hH : s.H = denH H) {t : Nat} {x : Operand} {v : SV} (hx : s.ev x = v.den) (h : soBox H v = some r) : Snd P ops ⟨d, .box t x, ty, pos, af, none⟩ s r := by
 intro rest R hp hk
 unfold soBox at h
 obtain ⟨ds, h1, h2⟩ := cellK_eq h
 have h3 := snocK_eq h2
 injection h3 with h3; subst h3
 exact R_box hx h1 (by rw [hH, denH_len]) (by rw [hH, denH_snoc]; rfl) hk
def boI (ev : Operand → Option SV) (x : Option Operand) (k : Option Int → Option SR) : Option SR :=
 match x with
 | none => k none
 | some o => match ev o with
  | some (.c (.c (.f (.v (.int _ n))))) => k (some n)
  | _ => none
def soSlice (T : Tb) (ev : Operand → Option SV) (t : Nat) (v : SV) (lo hi : Option Operand) : Option SR :=
 boI ev lo fun lo => boI ev hi fun hi => match v with
 | .c (.c (.f (.v (.string b)))) => match memN T.st t with
  | true => match lo, hi with
   | none, none => some ⟨sV (b.extract 0 b.size), none, none, .q0, True⟩
   | some l, none => some ⟨sV (b.extract l.toNat b.size), none, none, .q0, 0 ≤ l ∧ l ≤ b.size⟩
   | none, some h => some ⟨sV (b.extract 0 h.toNat), none, none, .q0, 0 ≤ h ∧ h ≤ b.size⟩
   | some l, some h => some ⟨sV (b.extract l.toNat h.toNat), none, none, .q0, 0 ≤ l ∧ l ≤ h ∧ h ≤ b.size⟩
  | false => none
 | .c (.row z F V e l) => rows z F V e l (lkN T.es t) lo hi
 | .c (.tipr z F V M e l) => rows z F V e l (lkN T.es t) lo hi
 | .c (.c (.arr b off n cap)) => match lkN T.es t with
  | some z => match lo, hi with
   | none, some h => some ⟨.c (.c (.arr b off h.toNat cap)), none, none, .q0, 0 ≤ h ∧ h ≤ n ∧ n ≤ cap⟩
   | some a, none => some ⟨.c (.c (.arr b (off + a.toNat * z) ((n : Int) - a).toNat (cap - a.toNat))), none, none, .q0, 0 ≤ a ∧ a ≤ n ∧ n ≤ cap ∧ a < cap⟩
   | _, _ => none
  | none => none
 | _ => none
where rows {α : Type} (z : Nat) (F : α → List FVal) (V : α → List SC) (e : α) (l : List α) (es : Option Nat) (lo hi : Option Int) : Option SR :=
 match es with
 | some z' => match Nat.beq z z' with
  | true => match lo, hi with
   | none, none => some ⟨.c (.row z F V e l), none, none, .q0, ∀ x, (F x).length = z⟩
   | some a, none => some ⟨.c (.row z F V e (l.drop a.toNat)), none, none, .q0, (0 ≤ a ∧ a ≤ l.length) ∧ ∀ x, (F x).length = z⟩
   | none, some b => some ⟨.c (.row z F V e (l.take b.toNat)), none, none, .q0, (0 ≤ b ∧ b ≤ l.length) ∧ ∀ x, (F x).length = z⟩
   | some a, some b => some ⟨.c (.row z F V e ((l.drop a.toNat).take (b - a).toNat)), none, none, .q0, (0 ≤ a ∧ a ≤ b ∧ b ≤ l.length) ∧ ∀ x, (F x).length = z⟩
  | false => none
 | none => none
theorem boI_eq {x : Option Operand} {k : Option Int → Option SR} (h : boI ev x k = some r) (hev : ∀ o, x = some o → ∀ v, ev o = some v → s.ev o = v.den) : ∃ n, k n = some r ∧ ((x = none ∧ n = none) ∨ ∃ m, n = some m ∧ ∀ d, bnd s x d = some m) := by
 unfold boI at h
 split at h
 ·exact ⟨none, h, .inl ⟨rfl, rfl⟩⟩
 ·rename_i o
  split at h
  ·rename_i k' n hn
   refine ⟨some n, h, .inr ⟨n, rfl, fun d => ?_⟩⟩
   exact bnd_some (hev o rfl _ hn)
  ·cases h
theorem soRows_ok (O : T.Ok P) {t : Nat} {x : Operand} {lo hi : Option Operand} {α : Type} {z : Nat} {F : α → List FVal} {V : α → List SC} {e : α} {l : List α} {v : AVal} (hx : s.ev x = v) (hv : v.dem = .c (.f (.row (l.flatMap F) l.length))) {a b : Option Int}
  (ha : (lo = none ∧ a = none) ∨ ∃ m, a = some m ∧ ∀ d, bnd s lo d = some m) (hb : (hi = none ∧ b = none) ∨ ∃ m, b = some m ∧ ∀ d, bnd s hi d = some m) (h : soSlice.rows z F V e l (lkN T.es t) a b = some r) : Snd P ops ⟨d, .slice t x lo hi none, ty, pos, af, none⟩ s r := by
 intro rest R hp hk
 unfold soSlice.rows at h
 split at h
 ·rename_i z' hz
  have hz := O.es_of hz
  split at h
  ·rename_i hzz
   have hzz := Nat.eq_of_beq_eq_true hzz
   subst hzz
   split at h
   ·injection h with h; subst h
    obtain ⟨rfl, _⟩ : lo = none ∧ True := by rcases ha with h | ⟨m, h, _⟩; exact ⟨h.1, trivial⟩; cases h
    obtain ⟨rfl, _⟩ : hi = none ∧ True := by rcases hb with h | ⟨m, h, _⟩; exact ⟨h.1, trivial⟩; cases h
    refine R_slice_row hz hx hv rfl rfl (by omega) (by omega) (by omega) ?_ ?_ hk
    ·rw [show (0 : Int).toNat = 0 from rfl, Nat.zero_mul, List.drop_zero, Int.sub_zero, Int.toNat_natCast, flatMap_takeB F z hp, List.take_length]
    ·simp
   ·rename_i a'
    injection h with h; subst h
    obtain ⟨⟨h0, h1⟩, hF⟩ := hp
    obtain ⟨rfl, _⟩ : hi = none ∧ True := by rcases hb with h | ⟨m, h, _⟩; exact ⟨h.1, trivial⟩; cases h
    have ha : ∀ d, bnd s lo d = some a' := by rcases ha with ⟨_, h⟩ | ⟨m, h, h2⟩; cases h; injection h with h; subst h; exact h2
    refine R_slice_row hz hx hv (ha 0) rfl h0 h1 (by omega) ?_ ?_ hk
    ·rw [flatMap_dropB F z hF, flatMap_takeB F z hF, List.take_of_length_le (by rw [List.length_drop]; omega)]
    ·rw [List.length_drop]; omega
   ·rename_i b'
    injection h with h; subst h
    obtain ⟨⟨h0, h1⟩, hF⟩ := hp
    obtain ⟨rfl, _⟩ : lo = none ∧ True := by rcases ha with h | ⟨m, h, _⟩; exact ⟨h.1, trivial⟩; cases h
    have hb : ∀ d, bnd s hi d = some b' := by rcases hb with ⟨_, h⟩ | ⟨m, h, h2⟩; cases h; injection h with h; subst h; exact h2
    refine R_slice_row hz hx hv rfl (hb _) (by omega) h0 h1 ?_ ?_ hk
    ·rw [show (0 : Int).toNat = 0 from rfl, Nat.zero_mul, List.drop_zero, Int.sub_zero, flatMap_takeB F z hF]
    ·rw [List.length_take]; omega
   ·rename_i a' b'
    injection h with h; subst h
    obtain ⟨⟨h0, h1, h2⟩, hF⟩ := hp
    have ha : ∀ d, bnd s lo d = some a' := by rcases ha with ⟨_, h⟩ | ⟨m, h, h2⟩; cases h; injection h with h; subst h; exact h2
    have hb : ∀ d, bnd s hi d = some b' := by rcases hb with ⟨_, h⟩ | ⟨m, h, h2⟩; cases h; injection h with h; subst h; exact h2
    refine R_slice_row hz hx hv (ha 0) (hb _) h0 h1 h2 ?_ ?_ hk
    ·rw [flatMap_dropB F z hF, flatMap_takeB F z hF]
    ·rw [List.length_take, List.length_drop]; omega
  ·cases h
 ·cases h
theorem R_slice_arr {t : TypeId} {x : Operand} {hi : Operand} {z b off n cap : Nat} {h' : Int} (hz : elemSz P t = some z) (hx : s.ev x = .c (.arr b off n cap)) (hh : bnd s (some hi) n = some h') (h0 : 0 ≤ h') (h1 : h' ≤ cap) {rest : List Oper} {R : Rg} (h : WR P ops rest (s.put d (.c (.arr b off h'.toNat cap))) (R.push .q0)) :
  WR P ops (⟨d, .slice t x none (some hi) none, ty, pos, af, none⟩ :: rest) s R := by
 refine WR_op (wantA_none rfl) rfl ?_ (clOf0 rfl rfl rfl) h
 show aSlice P s _ t x none (some hi) none = _
 unfold aSlice
 rw [hz, hx]
 have e : (AVal.c (CVal.arr b off n cap)).dem = .c (.arr b off n cap) := rfl
 rw [e]
 simp only [hh]
 have h2 : bnd s none 0 = some 0 := rfl
 rw [h2]
 simp only
 rw [if_pos ⟨by omega, h0, h1⟩]
 simp
theorem R_slice_arr2 {t : TypeId} {x : Operand} {lo : Operand} {z b off n cap : Nat} {a : Int} (hz : elemSz P t = some z) (hx : s.ev x = .c (.arr b off n cap)) (hh : bnd s (some lo) 0 = some a) (h0 : 0 ≤ a) (h1 : a ≤ n) (h2 : n ≤ cap) (h3 : a < cap) {rest : List Oper} {R : Rg} (h : WR P ops rest (s.put d (.c (.arr b (off + a.toNat * z) ((n : Int) - a).toNat (cap - a.toNat)))) (R.push .q0)) :
  WR P ops (⟨d, .slice t x (some lo) none none, ty, pos, af, none⟩ :: rest) s R := by
 refine WR_op (wantA_none rfl) rfl ?_ (clOf0 rfl rfl rfl) h
 show aSlice P s _ t x (some lo) none none = _
 unfold aSlice
 rw [hz, hx]
 have e : (AVal.c (CVal.arr b off n cap)).dem = .c (.arr b off n cap) := rfl
 rw [e]
 simp only [hh]
 have h4 : bnd s none (n : Int) = some (n : Int) := rfl
 rw [h4]
 simp only
 rw [if_pos ⟨h0, h1, by omega⟩, if_neg (by omega)]
theorem soSlice_ok (O : T.Ok P) {t : Nat} {x : Operand} {v : SV} {lo hi : Option Operand} (hx : s.ev x = v.den) (hlo : ∀ o, lo = some o → ∀ v, ev o = some v → s.ev o = v.den) (hhi : ∀ o, hi = some o → ∀ v, ev o = some v → s.ev o = v.den) (h : soSlice T ev t v lo hi = some r) : Snd P ops ⟨d, .slice t x lo hi none, ty, pos, af, none⟩ s r := by
 unfold soSlice at h
 obtain ⟨a, h', ha⟩ := boI_eq h hlo
 clear h
 obtain ⟨b, h, hb⟩ := boI_eq h' hhi
 clear h'
 split at h
 ·rename_i b0
  intro rest R hp hk
  split at h
  ·rename_i ht
   have ht := O.st_of ht
   split at h
   ·injection h with h; subst h
    obtain ⟨rfl, _⟩ : lo = none ∧ True := by rcases ha with h | ⟨m, h, _⟩; exact ⟨h.1, trivial⟩; cases h
    obtain ⟨rfl, _⟩ : hi = none ∧ True := by rcases hb with h | ⟨m, h, _⟩; exact ⟨h.1, trivial⟩; cases h
    refine R_slice_str ht hx rfl rfl (by omega) (by omega) (by omega) ?_
    rw [Int.toNat_natCast]; exact hk
   ·rename_i a'
    injection h with h; subst h
    obtain ⟨rfl, _⟩ : hi = none ∧ True := by rcases hb with h | ⟨m, h, _⟩; exact ⟨h.1, trivial⟩; cases h
    have ha : ∀ d, bnd s lo d = some a' := by rcases ha with ⟨_, h⟩ | ⟨m, h, h2⟩; cases h; injection h with h; subst h; exact h2
    refine R_slice_str ht hx (ha _) rfl hp.1 hp.2 (by omega) ?_
    rw [Int.toNat_natCast]; exact hk
   ·rename_i b'
    injection h with h; subst h
    obtain ⟨rfl, _⟩ : lo = none ∧ True := by rcases ha with h | ⟨m, h, _⟩; exact ⟨h.1, trivial⟩; cases h
    have hb : ∀ d, bnd s hi d = some b' := by rcases hb with ⟨_, h⟩ | ⟨m, h, h2⟩; cases h; injection h with h; subst h; exact h2
    exact R_slice_str ht hx rfl (hb _) (by omega) hp.1 hp.2 hk
   ·rename_i a' b'
    injection h with h; subst h
    have ha : ∀ d, bnd s lo d = some a' := by rcases ha with ⟨_, h⟩ | ⟨m, h, h2⟩; cases h; injection h with h; subst h; exact h2
    have hb : ∀ d, bnd s hi d = some b' := by rcases hb with ⟨_, h⟩ | ⟨m, h, h2⟩; cases h; injection h with h; subst h; exact h2
    exact R_slice_str ht hx (ha _) (hb _) hp.1 hp.2.1 hp.2.2 hk
  ·cases h
 ·exact soRows_ok O hx rfl ha hb h
 ·exact soRows_ok O hx rfl ha hb h
 ·intro rest R hp hk
  split at h
  ·rename_i z hz
   split at h
   ·rename_i b'
    injection h with h; subst h
    obtain ⟨rfl, _⟩ : lo = none ∧ True := by rcases ha with h | ⟨m, h, _⟩; exact ⟨h.1, trivial⟩; cases h
    have hb2 : ∃ o, hi = some o := by rcases hb with ⟨_, h⟩ | ⟨m, h, h2⟩; cases h; cases hi; exact absurd (h2 (m + 1)) (by simp [bnd]; omega); exact ⟨_, rfl⟩
    obtain ⟨o, rfl⟩ := hb2
    have hb : ∀ d, bnd s (some o) d = some b' := by rcases hb with ⟨_, h⟩ | ⟨m, h, h2⟩; cases h; injection h with h; subst h; exact h2
    exact R_slice_arr (O.es_of hz) hx (hb _) hp.1 (by obtain ⟨_, h2, h3⟩ := hp; omega) hk
   ·rename_i a'
    injection h with h; subst h
    obtain ⟨rfl, _⟩ : hi = none ∧ True := by rcases hb with h | ⟨m, h, _⟩; exact ⟨h.1, trivial⟩; cases h
    have ha2 : ∃ o, lo = some o := by rcases ha with ⟨_, h⟩ | ⟨m, h, h2⟩; cases h; cases lo; exact absurd (h2 (m + 1)) (by simp [bnd]; omega); exact ⟨_, rfl⟩
    obtain ⟨o, rfl⟩ := ha2
    have ha : ∀ d, bnd s (some o) d = some a' := by rcases ha with ⟨_, h⟩ | ⟨m, h, h2⟩; cases h; injection h with h; subst h; exact h2
    exact R_slice_arr2 (O.es_of hz) hx (ha _) hp.1 hp.2.1 hp.2.2.1 hp.2.2.2 hk
   ·cases h
  ·cases h
 ·cases h
end
section
variable {P : Program} {ops : Array Oper} {s : St} {d : Option Tmp} {ty : TypeId} {pos : String} {af : Array Edge} {T : Tb} {r : SR} {H : SH} {ev : Operand → Option SV}
def srcK (sz : Nat) (u : SV) (k : Nat → List FVal → Prop → Option SR) : Option SR :=
 match u with
 | .c (.row z F V e l) => match Nat.beq z sz with
  | true => k l.length (l.flatMap F) (∀ x, (F x).length = z)
  | false => none
 | .c (.tipr z F V M e l) => match Nat.beq z sz with
  | true => k l.length (l.flatMap F) (∀ x, (F x).length = z)
  | false => none
 | .c (.c (.f (.row cs n))) => k n cs (cs.length = n * sz)
 | .c (.c (.tip _ cs n)) => k n cs (cs.length = n * sz)
 | .c (.c (.f .nils)) => k 0 [] True
 | _ => none
def appE {α : Type} (u : SV) (M : List FVal → Option α) : Option α :=
 match u with
 | .c (.c (.f (.row cs n))) => match Nat.beq n 1 with
  | true => M cs
  | false => none
 | .c (.c (.tip _ cs n)) => match Nat.beq n 1 with
  | true => M cs
  | false => none
 | _ => none
def FE (a b : List FVal) : Prop := a = b
theorem q_FE {a b : List FVal} (h : FE a b) : FE a b := h
def soApp (T : Tb) (t tx : Nat) (x : Operand) (v u : SV) : Option SR :=
 match lkN T.ms t with
 | some (sz, by_, _) => match lkN T.es tx with
  | some z => match Nat.beq z sz with
   | true => srcK sz u fun n fs p => match v with
    | .c (.c (.tip z' cs len)) => match x with
     | .tmp w => match Nat.beq z' sz with
      | true => some ⟨.c (.c (.tip sz (cs ++ fs) (len + n))), some (w, .v (.c (.c (.f (.row cs len))))), none, ⟨[], [], [], none, true, false⟩, p ∧ len + n ≤ 4611686018427387904 ∧ (len + n) * by_ ≤ 140737488355328⟩
      | false => none
     | _ => none
    | .c (.tipr z' F V M e l) => match x with
     | .tmp w => match Nat.beq z' sz with
      | true => match appE u M with
       | some y => some ⟨.c (.tipr sz F V M e (l ++ [y])), some (w, .v (.c (.row z' F V e l))), none, ⟨[], [], [], none, true, false⟩, (p ∧ n = 1 ∧ FE fs (F y)) ∧ l.length + 1 ≤ 4611686018427387904 ∧ (l.length + 1) * by_ ≤ 140737488355328⟩
       | none => some ⟨.c (.c (.tip sz (l.flatMap F ++ fs) (l.length + n))), some (w, .v (.c (.row z' F V e l))), none, ⟨[], [], [], none, true, false⟩, p ∧ l.length + n ≤ 4611686018427387904 ∧ (l.length + n) * by_ ≤ 140737488355328⟩
      | false => none
     | _ => none
    | .c (.c (.f .nils)) => some ⟨.c (.c (.tip sz fs n)), none, none, ⟨[], [], [], none, false, false⟩, p ∧ n ≤ 4611686018427387904 ∧ n * by_ ≤ 140737488355328⟩
    | _ => none
   | false => none
  | none => none
 | none => none
theorem srcK_eq (O : T.Ok P) {sz tx : Nat} {u : SV} {y : Operand} {k : Nat → List FVal → Prop → Option SR} (hy : s.ev y = u.den) (hz : elemSz P tx = some sz) (h : srcK sz u k = some r) :
  ∃ n fs p, k n fs p = some r ∧ arrB (s.ev y).dem = [] ∧ (p → srcCells P s sz tx y = some (n, fs)) := by
 unfold srcK at h
 split at h
 ·split at h
  ·rename_i hb
   have hb := Nat.eq_of_beq_eq_true hb
   subst hb
   exact ⟨_, _, _, h, by rw [hy]; rfl, fun hF => src_row hy rfl hz (flatMap_lenB _ _ hF _)⟩
  ·cases h
 ·split at h
  ·rename_i hb
   have hb := Nat.eq_of_beq_eq_true hb
   subst hb
   exact ⟨_, _, _, h, by rw [hy]; rfl, fun hF => src_row hy rfl hz (flatMap_lenB _ _ hF _)⟩
  ·cases h
 ·exact ⟨_, _, _, h, by rw [hy]; rfl, fun hF => src_row hy rfl hz hF⟩
 ·exact ⟨_, _, _, h, by rw [hy]; rfl, fun hF => src_row hy rfl hz hF⟩
 ·exact ⟨_, _, _, h, by rw [hy]; rfl, fun _ => src_nil hy hz⟩
 ·cases h
theorem soApp_ok (O : T.Ok P) {t tx : Nat} {x y : Operand} {v u : SV} (hx : s.ev x = v.den) (hy : s.ev y = u.den) (h : soApp T t tx x v u = some r) : Snd P ops ⟨d, .call { callee := .builtin .append, args := #[x, y], argTypes := #[t, tx] }, ty, pos, af, none⟩ s r := by
 intro rest R hp hk
 unfold soApp at h
 split at h
 ·rename_i sz by_ zs hm
  have hm := O.ms_of hm
  split at h
  ·rename_i z hz
   have hz := O.es_of hz
   split at h
   ·rename_i hb
    have hb := Nat.eq_of_beq_eq_true hb
    subst hb
    obtain ⟨n, fs, p, h, harr, hsrc⟩ := srcK_eq O hy hz h
    split at h
    ·split at h
     ·split at h
      ·rename_i hb
       have hb := Nat.eq_of_beq_eq_true hb
       subst hb
       injection h with h; subst h
       exact R_append_tip hm hx (hsrc hp.1) harr hp.2.1 hp.2.2 hk
      ·cases h
     ·cases h
    ·split at h
     ·split at h
      ·rename_i hb
       have hb := Nat.eq_of_beq_eq_true hb
       subst hb
       split at h
       ·injection h with h; subst h
        obtain ⟨⟨p0, rfl, p1⟩, p2, p3⟩ := hp
        have p1 : fs = _ := p1
        subst p1
        refine R_append_tip hm hx (hsrc p0) harr p2 p3 ?_
        have e : ∀ (α : Type) (F : α → List FVal) (l : List α) (y : α), (l ++ [y]).flatMap F = l.flatMap F ++ F y := fun α F l y => by simp
        simp only [SR.upd, SV.den, SC.den, e, List.length_append, List.length_cons, List.length_nil, Nat.zero_add] at hk
        exact hk
       ·injection h with h; subst h
        exact R_append_tip hm hx (hsrc hp.1) harr hp.2.1 hp.2.2 hk
      ·cases h
     ·cases h
    ·injection h with h; subst h
     exact R_append_nil hm hx (hsrc hp.1) harr hp.2.1 hp.2.2 hk
    ·cases h
   ·cases h
  ·cases h
 ·cases h
def spliceL {α : Type} (l : List α) (i : Nat) (new : List α) : List α := l.take i ++ new ++ l.drop (i + new.length)
theorem setF_eq : ∀ (xs cs : List FVal) (o : Nat), o + xs.length ≤ cs.length → setF cs o xs = cs.take o ++ xs ++ cs.drop (o + xs.length)
 | [], cs, o, h => by simp [setF]
 | x :: xs, cs, o, h => by
  simp only [List.length_cons] at h
  rw [setF, setF_eq xs _ (o + 1) (by rw [List.length_set]; omega)]
  have h1 : (cs.set o x).take (o + 1) = cs.take o ++ [x] := by
   rw [List.take_succ_eq_append_getElem (by rw [List.length_set]; omega), List.take_set_of_le (Nat.le_refl _)]
   simp
  have h2 : (cs.set o x).drop (o + 1 + xs.length) = cs.drop (o + 1 + xs.length) := List.drop_set_of_lt (by omega)
  rw [h1, h2]
  simp only [List.append_assoc, List.singleton_append, List.length_cons]
  rw [show o + 1 + xs.length = o + (xs.length + 1) by omega]
theorem splice_set {α : Type} {F : α → List FVal} {z : Nat} (hF : ∀ x, (F x).length = z) (l new : List α) (i : Nat) (h : i + new.length ≤ l.length) : setAt ((l.flatMap F).map CVal.f) (i * z) ((new.flatMap F).map CVal.f) = ((spliceL l i new).flatMap F).map CVal.f := by
 have hl : (new.flatMap F).length = new.length * z := flatMap_lenB F z hF new
 have hl2 : (l.flatMap F).length = l.length * z := flatMap_lenB F z hF l
 have h3 : (i + new.length) * z ≤ l.length * z := Nat.mul_le_mul_right _ h
 rw [setF_map, setF_eq _ _ _ (by rw [hl, hl2]; rw [Nat.add_mul] at h3; exact h3)]
 unfold spliceL
 rw [List.flatMap_append, List.flatMap_append, ← flatMap_takeB F z hF, ← flatMap_dropB F z hF, hl, Nat.add_mul]
def soCopy (T : Tb) (H : SH) (t tx : Nat) (v u : SV) : Option SR :=
 match lkN T.es t with
 | some z => match lkN T.es tx with
  | some z2 => match Nat.beq z z2 with
   | true => match v with
    | .c (.c (.arr b off len _)) => match nth H b with
     | some (some (.els z' F V M e l)) => match Nat.beq z z' with
      | true => match u with
       | .c (.c (.arr b2 off2 n2 _)) => match Nat.beq b b2 with
        | true => setK H b (some (.els z' F V M e (spliceL l (off / z) ((l.drop (off2 / z)).take (min n2 len))))) fun H' => some ⟨.c (.c (.f (.v (.int .i64 (min n2 len : Nat))))), none, some H', ⟨[b, b], [], [b], none, false, false⟩, (off % z = 0 ∧ off2 % z = 0) ∧ (off / z + len ≤ l.length ∧ off2 / z + n2 ≤ l.length) ∧ (∀ x, (F x).length = z) ∧ ∀ x, fzs ((F x).map CVal.f) = some (F x)⟩
        | false => none
       | .c (.c (.f (.row cs n2))) => match M cs with
        | some a => setK H b (some (.els z' F V M e (spliceL l (off / z) ([a].take (min n2 len))))) fun H' => some ⟨.c (.c (.f (.v (.int .i64 (min n2 len : Nat))))), none, some H', ⟨[b], [], [b], none, false, false⟩, (off % z = 0 ∧ n2 = 1) ∧ off / z + len ≤ l.length ∧ (∀ x, (F x).length = z) ∧ cs = F a⟩
        | none => none
       | _ => none
      | false => none
     | _ => none
    | _ => none
   | false => none
  | none => none
 | none => none
theorem fzs_app2 : ∀ (a b : List CVal) (x y : List FVal), fzs a = some x → fzs b = some y → fzs (a ++ b) = some (x ++ y)
 | [], b, x, y, h1, h2 => by injection h1 with h1; subst h1; exact h2
 | c :: a, b, x, y, h1, h2 => by
  unfold fzs at h1
  split at h1
  ·rename_i x0 xs e1 e2
   injection h1 with h1; subst h1
   have := fzs_app2 a b xs y e2 h2
   simp only [List.cons_append, fzs, e1, this]
  ·cases h1
theorem fzs_els2 {α : Type} {F : α → List FVal} (hF : ∀ y, fzs ((F y).map CVal.f) = some (F y)) : ∀ l : List α, fzs ((l.flatMap F).map CVal.f) = some (l.flatMap F)
 | [] => rfl
 | x :: l => by
  rw [List.flatMap_cons, List.map_append]
  exact fzs_app2 _ _ _ _ (hF x) (fzs_els2 hF l)
theorem div_of {off z : Nat} (h : off % z = 0) : off / z * z = off := Nat.div_mul_cancel (Nat.dvd_of_mod_eq_zero h)
theorem copy_src {α : Type} {F : α → List FVal} {z : Nat} (hF : ∀ x, (F x).length = z) (hfz : ∀ x, fzs ((F x).map CVal.f) = some (F x)) {tx : Nat} (hz : elemSz P tx = some z) {y : Operand} {b j n cap : Nat} (hy : s.ev y = .c (.arr b (j * z) n cap)) {l : List α} (hB : s.H[b]? = some (some ((l.flatMap F).map CVal.f))) (h : j + n ≤ l.length) :
  srcCells P s z tx y = some (n, ((l.drop j).take n).flatMap F) := by
 have hL := flatMap_lenB F z hF l
 have k2 : (j + n) * z ≤ l.length * z := Nat.mul_le_mul_right _ h
 rw [Nat.add_mul] at k2
 unfold srcCells
 rw [hy]
 have e : (AVal.c (CVal.arr b (j * z) n cap)).dem = .c (.arr b (j * z) n cap) := rfl
 rw [e]
 dsimp only
 rw [hz, hB]
 dsimp only
 rw [if_pos ⟨rfl, by rw [List.length_map, hL]; exact k2⟩, ← List.map_drop, ← List.map_take, flatMap_dropB F z hF, flatMap_takeB F z hF, fzs_els2 hfz]
theorem copy_do {α : Type} {F : α → List FVal} {z : Nat} (hF : ∀ x, (F x).length = z) {t tx : Nat} (hz : elemSz P t = some z) {x y : Operand} {b i n len cap : Nat} (hx : s.ev x = .c (.arr b (i * z) len cap)) {l new : List α} (hB : s.H[b]? = some (some ((l.flatMap F).map CVal.f))) (h : i + len ≤ l.length) (hs : srcCells P s z tx y = some (n, new.flatMap F)) (hn : new.length = n) :
  aCopy P s t tx x y = some (.c (.f (.v (.int .i64 (min n len : Nat)))), { blk := some (b, ((spliceL l i (new.take (min n len))).flatMap F).map CVal.f) }) := by
 have hL := flatMap_lenB F z hF l
 have k1 : (i + len) * z ≤ l.length * z := Nat.mul_le_mul_right _ h
 rw [Nat.add_mul] at k1
 unfold aCopy
 rw [hz, hx]
 have e : (AVal.c (CVal.arr b (i * z) len cap)).dem = .c (.arr b (i * z) len cap) := rfl
 rw [e]
 dsimp only
 rw [hs, hB]
 dsimp only
 rw [if_pos (by rw [List.length_map, hL]; exact k1), flatMap_takeB F z hF, splice_set hF l (new.take (min n len)) i (by rw [List.length_take, hn]; omega)]
theorem soCopy_ok (O : T.Ok P) (hH : s.H = denH H) {t tx : Nat} {x y : Operand} {v u : SV} (hx : s.ev x = v.den) (hy : s.ev y = u.den) (h : soCopy T H t tx v u = some r) : Snd P ops ⟨d, .call { callee := .builtin .copy, args := #[x, y], argTypes := #[t, tx] }, ty, pos, af, none⟩ s r := by
 intro rest R hp hk
 unfold soCopy at h
 split at h
 ·rename_i z hz
  have hz := O.es_of hz
  split at h
  ·rename_i z2 hz2
   have hz2 := O.es_of hz2
   split at h
   ·rename_i hb
    have hb := Nat.eq_of_beq_eq_true hb
    subst hb
    split at h
    ·rename_i b off len cap
     split at h
     ·rename_i α z' F V M e0 l hB
      have hB' : s.H[b]? = some (some ((l.flatMap F).map CVal.f)) := by rw [hH]; exact nth_H hB
      split at h
      ·rename_i hb
       have hb := Nat.eq_of_beq_eq_true hb
       subst hb
       split at h
       ·rename_i b2 off2 n2 cap2
        split at h
        ·rename_i hb
         have hb := Nat.eq_of_beq_eq_true hb
         subst hb
         obtain ⟨h1, h2⟩ := setK_eq h
         injection h2 with h2; subst h2
         obtain ⟨⟨m1, m2⟩, ⟨q1, q2⟩, hF, hfz⟩ := hp
         have e1 := div_of m1
         have e2 := div_of m2
         have hx' : s.ev x = .c (.arr b (off / z * z) len cap) := by rw [e1]; exact hx
         have hy' : s.ev y = .c (.arr b (off2 / z * z) n2 cap2) := by rw [e2]; exact hy
         have hs := copy_src hF hfz hz2 hy' hB' q2
         have hd := copy_do (t := t) hF hz hx' hB' q1 hs (by rw [List.length_take, List.length_drop]; omega)
         rw [List.take_take, Nat.min_eq_left (Nat.min_le_left _ _)] at hd
         refine WR_chg (wantA_none rfl) rfl hd ?_ ?_ hk
         ·simp only [clOf, fpOf, frOf, hx, hy, SV.den, SC.den, AVal.dem, CVal.dem, arrB, List.cons_append, List.nil_append, Chg.wr, isLoad]
          rfl
         ·rw [SR.upd]
          simp only [St.chg, St.demO, St.blkO, St.newO, St.dmE, St.setO, set_H, SB.den, hH]
          rfl
        ·cases h
       ·rename_i cs n2
        split at h
        ·rename_i a ha
         obtain ⟨h1, h2⟩ := setK_eq h
         injection h2 with h2; subst h2
         obtain ⟨⟨m1, rfl⟩, q1, hF, rfl⟩ := hp
         have e1 := div_of m1
         have hx' : s.ev x = .c (.arr b (off / z * z) len cap) := by rw [e1]; exact hx
         have hs : srcCells P s z tx y = some (1, [a].flatMap F) := by
          rw [List.flatMap_cons, List.flatMap_nil, List.append_nil]
          exact src_row hy rfl hz2 (by rw [hF, Nat.one_mul])
         have hd := copy_do (t := t) hF hz hx' hB' q1 hs rfl
         refine WR_chg (wantA_none rfl) rfl hd ?_ ?_ hk
         ·simp only [clOf, fpOf, frOf, hx, hy, SV.den, SC.den, AVal.dem, CVal.dem, arrB, List.cons_append, List.nil_append, Chg.wr, isLoad]
          rfl
         ·rw [SR.upd]
          simp only [St.chg, St.demO, St.blkO, St.newO, St.dmE, St.setO, set_H, SB.den, hH]
          rfl
        ·cases h
       ·cases h
      ·cases h
     ·cases h
    ·cases h
   ·cases h
  ·cases h
 ·cases h
def rd : Op → List Operand
 | .move x | .assign x | .nilCheck x | .box _ x | .extract x _ => [x]
 | .fieldAddr _ x _ | .field _ x _ | .load _ x | .unOp _ _ x | .convert _ _ x => [x]
 | .store _ x y | .indexAddr _ x y | .index _ x y | .binOp _ _ x y _ | .makeSlice _ x y => [x, y]
 | .build _ ps | .buildSlice _ _ ps => ps.toList.map (·.2)
 | .slice _ x lo hi mx => x :: (lo.toList ++ hi.toList ++ mx.toList)
 | .call c => c.args.toList
 | _ => []
def so1 (ev : Operand → Option SV) (x : Operand) (k : SV → Option SR) : Option SR :=
 match ev x with
 | some v => k v
 | none => none
def soSlice3 (T : Tb) (ev : Operand → Option SV) (t : Nat) (v : SV) (lo hi : Option Operand) (m : Operand) : Option SR :=
 match lo with
 | some lo => match hi with
  | some hi => so1 ev lo fun a => so1 ev hi fun b => so1 ev m fun c => match a with
   | .c (.c (.f (.v (.int _ a)))) => match b with
    | .c (.c (.f (.v (.int _ b)))) => match c with
     | .c (.c (.f (.v (.int _ c)))) => match v with
      | .c (.row z F V e l) => match lkN T.es t with
       | some z' => match Nat.beq z z' with
        | true => some ⟨.c (.row z F V e ((l.drop a.toNat).take (b - a).toNat)), none, none, .q0, (0 ≤ a ∧ a ≤ b ∧ b ≤ c ∧ c ≤ l.length) ∧ ∀ x, (F x).length = z⟩
        | false => none
       | none => none
      | _ => none
     | _ => none
    | _ => none
   | _ => none
  | none => none
 | none => none
def soCall (T : Tb) (H : SH) (ev : Operand → Option SV) (c : Call) : Option SR :=
 match c.callee with
 | .builtin .len => match c.args.toList with
  | [x] => match c.argTypes.toList with
   | [t] => so1 ev x fun v => soLen T t v
   | _ => none
  | _ => none
 | .builtin .append => match c.args.toList with
  | [x, y] => match c.argTypes.toList with
   | [t, tx] => so1 ev x fun v => so1 ev y fun u => soApp T t tx x v u
   | _ => none
  | _ => none
 | .builtin .copy => match c.args.toList with
  | [x, y] => match c.argTypes.toList with
   | [t, tx] => so1 ev x fun v => so1 ev y fun u => soCopy T H t tx v u
   | _ => none
  | _ => none
 | .builtin .max => match c.args.toList with
  | [x, y] => match c.argTypes.toList with
   | [_, _] => so1 ev x fun v => so1 ev y fun u => soMM true v u
   | _ => none
  | _ => none
 | .builtin .min => match c.args.toList with
  | [x, y] => match c.argTypes.toList with
   | [_, _] => so1 ev x fun v => so1 ev y fun u => soMM false v u
   | _ => none
  | _ => none
 | _ => none
def so (T : Tb) (E : El) (ops : Array Oper) (ev : Operand → Option SV) (H : SH) (o : Oper) : Option SR :=
 match o.op with
 | .move x => so1 ev x fun v => soMove (feeds ops o) x v
 | .assign x => so1 ev x fun v => soMove true x v
 | .nilCheck x => so1 ev x fun v => soNil v
 | .fieldAddr t x f => so1 ev x fun v => soFA T t f v
 | .load t x => so1 ev x fun v => soLoad T (feeds ops o) H t v
 | .store t x y => match o.dst with
  | none => so1 ev x fun v => so1 ev y fun u => soStore T H t v y u
  | some _ => none
 | .indexAddr t x i => so1 ev x fun v => so1 ev i fun u => match lkN T.es t with
  | some _ => soIA T H t v u
  | none => soIAp E H t v u
 | .index t x i => so1 ev x fun v => so1 ev i fun u => soIndex T t v u
 | .field t x f => so1 ev x fun v => soField T t f v
 | .extract x i => so1 ev x fun v => soExt i v
 | .binOp op t x y _ => so1 ev x fun v => so1 ev y fun u => soBin T op t v u
 | .unOp op _ x => so1 ev x fun v => soUn op v
 | .build t ps => soBuild T ev t ps.toList
 | .buildSlice t n ps => soBuildSl T ev t n ps.toList
 | .makeSlice t l c => so1 ev l fun v => so1 ev c fun u => soMake E H t ((lkN T.ms t).map fun q => q.2.1) v u
 | .slice t x lo hi mx => match mx with
  | none => so1 ev x fun v => soSlice T ev t v lo hi
  | some m => so1 ev x fun v => soSlice3 T ev t v lo hi m
 | .convert t u x => so1 ev x fun v => soConv T t u v
 | .alloc t => soAlloc T E H t
 | .box _ x => so1 ev x fun v => soBox H v
 | .call c => soCall T H ev c
 | _ => none
theorem so1_eq {x : Operand} {k : SV → Option SR} (h : so1 ev x k = some r) : ∃ v, ev x = some v ∧ k v = some r := by
 unfold so1 at h
 split at h
 ·exact ⟨_, by assumption, h⟩
 ·cases h
theorem soSlice3_ok (O : T.Ok P) {t : Nat} {x m : Operand} {v : SV} {lo hi : Option Operand} (hx : s.ev x = v.den) (hlo : ∀ o, lo = some o → ∀ v, ev o = some v → s.ev o = v.den) (hhi : ∀ o, hi = some o → ∀ v, ev o = some v → s.ev o = v.den) (hm : ∀ v, ev m = some v → s.ev m = v.den) (h : soSlice3 T ev t v lo hi m = some r) : Snd P ops ⟨d, .slice t x lo hi (some m), ty, pos, af, none⟩ s r := by
 unfold soSlice3 at h
 split at h
 ·split at h
  ·rename_i lo hi
   obtain ⟨a', ha1, h⟩ := so1_eq h
   obtain ⟨b', hb1, h⟩ := so1_eq h
   obtain ⟨c', hc1, h⟩ := so1_eq h
   split at h
   ·split at h
    ·split at h
     ·split at h
      ·split at h
       ·rename_i hz
        have hz := O.es_of hz
        split at h
        ·rename_i hzz
         have hzz := Nat.eq_of_beq_eq_true hzz
         subst hzz
         injection h with h; subst h
         intro rest R hp hk
         obtain ⟨⟨h0, h1, h2, h3⟩, hF⟩ := hp
         refine R_slice_row3 hz hx rfl (bnd_some (hlo _ rfl _ ha1)) (bnd_some (hhi _ rfl _ hb1)) (bnd_some (hm _ hc1)) h0 h1 h2 h3 ?_ ?_ hk
         ·rw [flatMap_dropB _ _ hF, flatMap_takeB _ _ hF]
         ·rw [List.length_take, List.length_drop]; omega
        ·cases h
       ·cases h
      ·cases h
     ·cases h
    ·cases h
   ·cases h
  ·cases h
 ·cases h
theorem so_ok (O : T.Ok P) {E : El} (hE : E.Ok P) (hH : s.H = denH H) {o : Oper} (ho : o.guard = none) (hev : ∀ x ∈ rd o.op, ∀ v, ev x = some v → s.ev x = v.den) (h : so T E ops ev H o = some r) : Snd P ops o s r := by
 obtain ⟨d, op, ty, pos, af, g⟩ := o
 simp only at ho
 subst ho
 unfold so at h
 simp only at h hev
 split at h
 ·obtain ⟨v, h1, h2⟩ := so1_eq h; exact soMove_ok (hev _ (by simp [rd]) v h1) h2
 ·obtain ⟨v, h1, h2⟩ := so1_eq h; exact soAssign_ok (hev _ (by simp [rd]) v h1) h2
 ·obtain ⟨v, h1, h2⟩ := so1_eq h; exact soNil_ok (hev _ (by simp [rd]) v h1) h2
 ·obtain ⟨v, h1, h2⟩ := so1_eq h; exact soFA_ok O (hev _ (by simp [rd]) v h1) h2
 ·obtain ⟨v, h1, h2⟩ := so1_eq h; exact soLoad_ok O hH (hev _ (by simp [rd]) v h1) h2
 ·split at h
  ·obtain ⟨v, h1, h2⟩ := so1_eq h
   obtain ⟨u, h3, h4⟩ := so1_eq h2
   exact soStore_ok O hH (hev _ (by simp [rd]) v h1) (hev _ (by simp [rd]) u h3) h4
  ·cases h
 ·obtain ⟨v, h1, h2⟩ := so1_eq h
  obtain ⟨u, h3, h4⟩ := so1_eq h2
  split at h4
  ·exact soIA_ok O (hev _ (by simp [rd]) v h1) (hev _ (by simp [rd]) u h3) h4
  ·exact soIAp_ok hE (hev _ (by simp [rd]) v h1) (hev _ (by simp [rd]) u h3) h4
 ·obtain ⟨v, h1, h2⟩ := so1_eq h
  obtain ⟨u, h3, h4⟩ := so1_eq h2
  exact soIndex_ok O (hev _ (by simp [rd]) v h1) (hev _ (by simp [rd]) u h3) h4
 ·obtain ⟨v, h1, h2⟩ := so1_eq h; exact soField_ok O (hev _ (by simp [rd]) v h1) h2
 ·obtain ⟨v, h1, h2⟩ := so1_eq h; exact soExt_ok (hev _ (by simp [rd]) v h1) h2
 ·obtain ⟨v, h1, h2⟩ := so1_eq h
  obtain ⟨u, h3, h4⟩ := so1_eq h2
  exact soBin_ok O (hev _ (by simp [rd]) v h1) (hev _ (by simp [rd]) u h3) h4
 ·obtain ⟨v, h1, h2⟩ := so1_eq h; exact soUn_ok (hev _ (by simp [rd]) v h1) h2
 ·rename_i t ps
  have : ps = ps.toList.toArray := by simp
  rw [this]
  exact soBuild_ok O (fun q hq => hev q.2 (by simp only [rd, List.mem_map]; exact ⟨q, hq, rfl⟩)) h
 ·rename_i t n ps
  have : ps = ps.toList.toArray := by simp
  rw [this]
  exact soBuildSl_ok O (fun q hq => hev q.2 (by simp only [rd, List.mem_map]; exact ⟨q, hq, rfl⟩)) h
 ·obtain ⟨v, h1, h2⟩ := so1_eq h
  obtain ⟨u, h3, h4⟩ := so1_eq h2
  exact soMake_ok O hE hH (hev _ (by simp [rd]) v h1) (hev _ (by simp [rd]) u h3) h4
 ·split at h
  ·obtain ⟨v, h1, h2⟩ := so1_eq h
   exact soSlice_ok O (hev _ (by simp [rd]) v h1) (fun o ho => hev o (by simp [rd, ho])) (fun o ho => hev o (by simp [rd, ho])) h2
  ·obtain ⟨v, h1, h2⟩ := so1_eq h
   exact soSlice3_ok O (hev _ (by simp [rd]) v h1) (fun o ho => hev o (by simp [rd, ho])) (fun o ho => hev o (by simp [rd, ho])) (hev _ (by simp [rd])) h2
 ·obtain ⟨v, h1, h2⟩ := so1_eq h; exact soConv_ok O (hev _ (by simp [rd]) v h1) h2
 ·exact soAlloc_ok O hE hH h
 ·obtain ⟨v, h1, h2⟩ := so1_eq h; exact soBox_ok hH (hev _ (by simp [rd]) v h1) h2
 ·rename_i c
  unfold soCall at h
  split at h
  ·rename_i hc
   split at h
   ·rename_i x hx
    split at h
    ·rename_i t ht
     obtain ⟨v, h1, h2⟩ := so1_eq h
     have hv := hev x (by simp [rd, hx]) v h1
     rw [call_eta c hc hx ht]
     exact soLen_ok O hv h2
    ·cases h
   ·cases h
  ·rename_i hc
   split at h
   ·rename_i x y hx
    split at h
    ·rename_i t tx ht
     obtain ⟨v, h1, h2⟩ := so1_eq h
     obtain ⟨u, h3, h4⟩ := so1_eq h2
     have hv := hev x (by simp [rd, hx]) v h1
     have hu := hev y (by simp [rd, hx]) u h3
     rw [call_eta c hc hx ht]
     exact soApp_ok O hv hu h4
    ·cases h
   ·cases h
  ·rename_i hc
   split at h
   ·rename_i x y hx
    split at h
    ·rename_i t tx ht
     obtain ⟨v, h1, h2⟩ := so1_eq h
     obtain ⟨u, h3, h4⟩ := so1_eq h2
     have hv := hev x (by simp [rd, hx]) v h1
     have hu := hev y (by simp [rd, hx]) u h3
     rw [call_eta c hc hx ht]
     exact soCopy_ok O hH hv hu h4
    ·cases h
   ·cases h
  ·rename_i hc
   split at h
   ·rename_i x y hx
    split at h
    ·rename_i t tx ht
     obtain ⟨v, h1, h2⟩ := so1_eq h
     obtain ⟨u, h3, h4⟩ := so1_eq h2
     have hv := hev x (by simp [rd, hx]) v h1
     have hu := hev y (by simp [rd, hx]) u h3
     rw [call_eta c hc hx ht]
     exact soMax_ok hv hu h4
    ·cases h
   ·cases h
  ·rename_i hc
   split at h
   ·rename_i x y hx
    split at h
    ·rename_i t tx ht
     obtain ⟨v, h1, h2⟩ := so1_eq h
     obtain ⟨u, h3, h4⟩ := so1_eq h2
     have hv := hev x (by simp [rd, hx]) v h1
     have hu := hev y (by simp [rd, hx]) u h3
     rw [call_eta c hc hx ht]
     exact soMin_ok hv hu h4
    ·cases h
   ·cases h
  ·cases h
 ·cases h
end
section
variable {P : Program} {ops : Array Oper} {s : St} {T : Tb} {r : SR} {H : SH} {l : SL}
inductive AccLe : List Cl → List Cl → Prop
 | nil : AccLe [] []
 | same (c : Cl) {a b : List Cl} (h : AccLe a b) : AccLe (c :: a) (c :: b)
 | drop (c : Cl) {a b : List Cl} (h : AccLe a b) : AccLe (c :: a) (.q0 :: b)
theorem AccLe.refl : ∀ a : List Cl, AccLe a a
 | [] => .nil
 | c :: a => .same c (AccLe.refl a)
theorem AccLe.len {a b : List Cl} (h : AccLe a b) : a.length = b.length := by induction h <;> simp [*]
theorem AccLe.get {a b : List Cl} (h : AccLe a b) : ∀ i, b.getD i .q0 = a.getD i .q0 ∨ b.getD i .q0 = .q0 := by
 induction h with
 | nil => intro i; exact .inl rfl
 | same c h ih =>
  intro i
  cases i with
  | zero => exact .inl rfl
  | succ i => simpa using ih i
 | drop c h ih =>
  intro i
  cases i with
  | zero => exact .inr rfl
  | succ i => simpa using ih i
theorem AccLe.snoc {a b : List Cl} (h : AccLe a b) {c d : Cl} (hc : d = c ∨ d = .q0) : AccLe (a ++ [c]) (b ++ [d]) := by
 induction h with
 | nil =>
  rcases hc with rfl | rfl
  ·exact .same _ .nil
  ·exact .drop _ .nil
 | same x h ih => exact .same x ih
 | drop x h ih => exact .drop x ih
theorem AccLe.rev {a b : List Cl} (h : AccLe a b) : AccLe a.reverse b.reverse := by
 induction h with
 | nil => exact .nil
 | same c h ih => rw [List.reverse_cons, List.reverse_cons]; exact ih.snoc (.inl rfl)
 | drop c h ih => rw [List.reverse_cons, List.reverse_cons]; exact ih.snoc (.inr rfl)
theorem noMeet_nil (m : List Nat) : noMeet m [] = true := by simp [noMeet]
theorem below_nil (n : Option Nat) : below n [] = true := by cases n <;> simp [below]
theorem compat_left {c d : Cl} {x y : Oper} (h : compat ops c d x y = true) : compat ops .q0 d x y = true := by
 simp only [compat, Bool.and_eq_true] at h ⊢
 obtain ⟨⟨⟨⟨⟨⟨⟨⟨⟨⟨⟨h1, h2⟩, h3⟩, h4⟩, h5⟩, h6⟩, h7⟩, h8⟩, h9⟩, h10⟩, h11⟩, h12⟩ := h
 exact ⟨⟨⟨⟨⟨⟨⟨⟨⟨⟨⟨h1, rfl⟩, noMeet_nil _⟩, rfl⟩, rfl⟩, below_nil _⟩, rfl⟩, h8⟩, rfl⟩, by rw [noMeet_nil]; simp⟩, rfl⟩, below_nil _⟩
theorem compat_right {c d : Cl} {x y : Oper} (h : compat ops c d x y = true) : compat ops c .q0 x y = true := by
 simp only [compat, Bool.and_eq_true] at h ⊢
 obtain ⟨⟨⟨⟨⟨⟨⟨⟨⟨⟨⟨h1, h2⟩, h3⟩, h4⟩, h5⟩, h6⟩, h7⟩, h8⟩, h9⟩, h10⟩, h11⟩, h12⟩ := h
 exact ⟨⟨⟨⟨⟨⟨⟨⟨⟨⟨⟨h1, noMeet_nil _⟩, rfl⟩, by simp⟩, below_nil _⟩, rfl⟩, h7⟩, rfl⟩, by rw [noMeet_nil]; simp⟩, rfl⟩, below_nil _⟩, rfl⟩
theorem critB_le {a b : List Cl} (h : AccLe a b) (hc : critB ops a = true) : critB ops b = true := by
 simp only [critB, Bool.and_eq_true, decide_eq_true_eq, List.all_eq_true, List.mem_range, Bool.or_eq_true] at hc ⊢
 obtain ⟨h1, h2⟩ := hc
 refine ⟨by rw [← h.len]; exact h1, fun j hj => ⟨(h2 j hj).1, fun i hi => ?_⟩⟩
 rcases (h2 j hj).2 i hi with k | k
 ·exact .inl k
 ·right
  rcases h.get i with ei | ei <;> rcases h.get j with ej | ej <;> rw [ei, ej]
  ·exact k
  ·exact compat_right k
  ·exact compat_left k
  ·exact compat_left (compat_right k)
theorem WOpsD_le {K : St → Prop} : ∀ (l : List Oper) (s : St) (a b : List Cl), AccLe a b → WOpsD P ops l s a K → WOpsD P ops l s b K
 | [], s, a, b, h, k => ⟨critB_le h.rev k.1, k.2⟩
 | o :: l, s, a, b, h, k => WOp_mono (fun c s2 k => WOpsD_le l s2 _ _ (.same c h) k) k
def noSeq : Rg → Bool
 | .seq .. => false
 | _ => true
theorem WR_q0 {rest : List Oper} {R : Rg} {c : Cl} (hR : noSeq R = true) (h : WR P ops rest s (R.push c)) : WR P ops rest s (R.push .q0) := by
 cases R with
 | seq K => cases hR
 | plain K => exact h
 | drawn acc K => exact ⟨WOpsD_le rest s _ _ (.drop c (AccLe.refl _)) h.out⟩
def evC : Value → Option SV
 | .int k n => some (.c (.c (.f (.v (.int k n)))))
 | .bool b => some (.c (.c (.f (.v (.bool b)))))
 | .string b => some (.c (.c (.f (.v (.string b)))))
 | .slice none 0 0 => some (.c (.c (.f .nils)))
 | .pointer none => some (.c (.c (.f (.v (.pointer none)))))
 | _ => none
theorem evC_den {v : Value} {x : SV} (h : evC v = some x) : ofV v = x.den := by
 unfold evC at h
 split at h <;> first | (cases h; done) | (injection h with h; subst h; rfl)
def evU (l : SL) : Operand → Option SV
 | .tmp t => match lk l t with
  | some (.v x) => some x
  | _ => none
 | .const v => evC v
 | _ => none
theorem evU_den {x : Operand} {v : SV} (h : evU l x = some v) : (SS l H).ev x = v.den := by
 unfold evU at h
 split at h
 ·split at h
  ·rename_i e
   injection h with h; subst h
   exact lk_ev e
  ·cases h
 ·exact evC_den h
 ·cases h
def evG (l : SL) : Operand → Option SV
 | .tmp t => match lk l t with
  | some (.v x) => some x
  | some (.g _ x) => some x
  | _ => none
 | .const v => evC v
 | _ => none
def gdK {β : Type 1} (l : SL) : List Operand → (Prop → Option β) → Option β
 | [], k => k True
 | x :: xs, k => match x with
  | .tmp t => match lk l t with
   | some (.g b _) => gdK l xs fun p => k (b = true ∧ p)
   | _ => gdK l xs k
  | _ => gdK l xs k
theorem gdK_eq {β : Type 1} {r : β} : ∀ {xs : List Operand} {k : Prop → Option β}, gdK l xs k = some r → ∃ p, k p = some r ∧ (p → ∀ x ∈ xs, ∀ v, evG l x = some v → (SS l H).ev x = v.den)
 | [], k, h => ⟨True, h, fun _ x hx => by cases hx⟩
 | x :: xs, k, h => by
  unfold gdK at h
  split at h
  ·rename_i t
   split at h
   ·rename_i b y hy
    obtain ⟨p, h1, h2⟩ := gdK_eq h
    refine ⟨_, h1, fun ⟨hb, hp⟩ z hz v hv => ?_⟩
    rcases List.mem_cons.1 hz with rfl | hz
    ·simp only [evG, hy] at hv
     injection hv with hv; subst hv
     rw [lk_ev hy, hb]; rfl
    ·exact h2 hp z hz v hv
   ·rename_i hne
    obtain ⟨p, h1, h2⟩ := gdK_eq h
    refine ⟨_, h1, fun hp z hz v hv => ?_⟩
    rcases List.mem_cons.1 hz with rfl | hz
    ·unfold evG at hv
     simp only at hv
     split at hv
     ·rename_i hy
      injection hv with hv; subst hv
      exact lk_ev hy
     ·rename_i b y hy
      exact (hne b y hy).elim
     ·cases hv
    ·exact h2 hp z hz v hv
  ·rename_i hne
   obtain ⟨p, h1, h2⟩ := gdK_eq h
   refine ⟨_, h1, fun hp z hz v hv => ?_⟩
   rcases List.mem_cons.1 hz with rfl | hz
   ·unfold evG at hv
    split at hv
    ·rename_i t; exact (hne t rfl).elim
    ·exact evC_den hv
    ·cases hv
   ·exact h2 hp z hz v hv
def soPick (l : SL) (c x y : Operand) : Option SR :=
 match evG l c with
 | some (.c (.c (.f (.v (.bool b))))) => gdK l [c] fun pc => gdK l [x] fun px => gdK l [y] fun py => match y with
  | .const (.bool false) => match evG l x with
   | some (.c (.c (.f (.v (.bool u))))) => some ⟨bV (b && u), none, none, .q0, pc ∧ (b = true → px)⟩
   | _ => none
  | _ => match x with
   | .const (.bool true) => match evG l y with
    | some (.c (.c (.f (.v (.bool u))))) => some ⟨bV (b || u), none, none, .q0, pc ∧ (b = false → py)⟩
    | _ => none
   | _ => match evG l x with
    | some (.c (.c (.f (.v (.bool u))))) => match evG l y with
     | some (.c (.c (.f (.v (.bool w))))) => some ⟨bV (bif b then u else w), none, none, .q0, pc ∧ (b = true → px) ∧ (b = false → py)⟩
     | _ => none
    | _ => none
 | _ => none
theorem soPick_ok {d : Option Tmp} {ty : TypeId} {pos : String} {af : Array Edge} {c x y : Operand} (h : soPick l c x y = some r) : Snd P ops ⟨d, .pick c x y, ty, pos, af, none⟩ (SS l H) r := by
 intro rest R hp hk
 unfold soPick at h
 split at h
 ·rename_i b hc
  obtain ⟨pc, h, hpc⟩ := gdK_eq (H := H) h
  obtain ⟨px, h, hpx⟩ := gdK_eq (H := H) h
  obtain ⟨py, h, hpy⟩ := gdK_eq (H := H) h
  split at h
  ·split at h
   ·rename_i u hu
    injection h with h; subst h
    have hc' := hpc hp.1 c (by simp) _ hc
    cases b with
    | true => exact R_pickT hc' rfl (hpx (hp.2 rfl) x (by simp) _ hu) rfl hk
    | false => exact R_pickF (v := .c (.f (.v (.bool false)))) hc' rfl rfl rfl hk
   ·cases h
  ·split at h
   ·split at h
    ·rename_i u hu
     injection h with h; subst h
     have hc' := hpc hp.1 c (by simp) _ hc
     cases b with
     | true => exact R_pickT (v := .c (.f (.v (.bool true)))) hc' rfl rfl rfl hk
     | false => exact R_pickF hc' rfl (hpy (hp.2 rfl) y (by simp) _ hu) rfl hk
    ·cases h
   ·split at h
    ·rename_i u hu
     split at h
     ·rename_i w hw
      injection h with h; subst h
      have hc' := hpc hp.1 c (by simp) _ hc
      cases b with
      | true => exact R_pickT hc' rfl (hpx (hp.2.1 rfl) x (by simp) _ hu) rfl hk
      | false => exact R_pickF hc' rfl (hpy (hp.2.2 rfl) y (by simp) _ hw) rfl hk
     ·cases h
    ·cases h
 ·cases h
structure SN : Type 1 where
 l : SL
 H : SH
 cl : Cl
 p : Prop
def sem (T : Tb) (E : El) (ops : Array Oper) (ev : Operand → Option SV) (l : SL) (H : SH) (o : Oper) : Option SR :=
 match o.op with
 | .pick c x y => soPick l c x y
 | _ => so T E ops ev H o
def wantS (ops : List Oper) (l : SL) (j : Nat) (want : Bool) : Option Bool :=
 match nth0 ops j with
 | some oj => match oj.dst with
  | some d => match lk l d with
   | some (.v (.c (.c (.f (.v (.bool b)))))) => match want with
    | true => some b
    | false => some (!b)
   | some (.g b0 (.c (.c (.f (.v (.bool b)))))) => match want with
    | true => some (b0 && b)
    | false => some (b0 && !b)
   | _ => none
  | none => none
 | none => none
def outN (d : Option Tmp) (dm : Option (Nat × SE)) (H : Option SH) (x : SE) (l0 : SL) (H0 : SH) (cl : Cl) (p : Prop) : Option SN :=
 match d with
 | some d => match dm with
  | some (t, e) => match H with
   | some H => some ⟨(d, x) :: (t, e) :: l0, H, cl, p⟩
   | none => some ⟨(d, x) :: (t, e) :: l0, H0, cl, p⟩
  | none => match H with
   | some H => some ⟨(d, x) :: l0, H, cl, p⟩
   | none => some ⟨(d, x) :: l0, H0, cl, p⟩
 | none => match dm with
  | some (t, e) => match H with
   | some H => some ⟨(t, e) :: l0, H, cl, p⟩
   | none => some ⟨(t, e) :: l0, H0, cl, p⟩
  | none => match H with
   | some H => some ⟨l0, H, cl, p⟩
   | none => some ⟨l0, H0, cl, p⟩
def step (T : Tb) (E : El) (ops : Array Oper) (l : SL) (H : SH) (o : Oper) : Option SN :=
 match o.guard with
 | none => match sem T E ops (evU l) l H o with
  | some ⟨x, dm, H', cl, p⟩ => outN o.dst dm H' (.v x) l H cl p
  | none => none
 | some (j, want) => match wantS ops.toList l j want with
  | some g => match sem T E ops (evG l) l H { o with guard := none } with
   | some ⟨x, none, none, cl, p⟩ => gdK l (rd o.op) fun q => outN o.dst none none (.g g x) l H cl (g = true → q ∧ p)
   | _ => none
  | none => none
theorem outN_eq {d : Option Tmp} {r : SR} {x : SE} {n : SN} (hx : x.den = r.x.den) {p : Prop} (h : outN d r.dm r.H x l H r.cl p = some n) : n.cl = r.cl ∧ n.p = p ∧ SS n.l n.H = r.upd (SS l H) d := by
 obtain ⟨rx, dm, rH, cl, rp⟩ := r
 unfold outN at h
 simp only at hx h
 have e2 : ∀ (l0 : SL) (H' : SH), SS l0 H' = (SS l0 H).setH (denH H') := fun l0 H' => (SS_setH l0 H H').symm
 have e3 : ∀ (l0 : SL) (H' : SH) (d : Nat), SS ((d, x) :: l0) H' = (SS l0 H').put (some d) rx.den := fun l0 H' d => by rw [← hx]; rfl
 cases d with
 | none =>
  rcases dm with _ | ⟨t, e⟩
  ·cases rH with
   | none => injection h with h; subst h; exact ⟨rfl, rfl, rfl⟩
   | some H' => injection h with h; subst h; exact ⟨rfl, rfl, e2 l H'⟩
  ·cases rH with
   | none => injection h with h; subst h; exact ⟨rfl, rfl, rfl⟩
   | some H' => injection h with h; subst h; exact ⟨rfl, rfl, e2 _ H'⟩
 | some d =>
  rcases dm with _ | ⟨t, e⟩
  ·cases rH with
   | none => injection h with h; subst h; exact ⟨rfl, rfl, e3 l H d⟩
   | some H' =>
    injection h with h; subst h
    refine ⟨rfl, rfl, ?_⟩
    show SS ((d, x) :: l) H' = ((SS l H).setH (denH H')).put (some d) rx.den
    rw [SS_setH]; exact e3 l H' d
  ·cases rH with
   | none => injection h with h; subst h; exact ⟨rfl, rfl, e3 _ H d⟩
   | some H' =>
    injection h with h; subst h
    refine ⟨rfl, rfl, ?_⟩
    show SS ((d, x) :: (t, e) :: l) H' = ((SS ((t, e) :: l) H).setH (denH H')).put (some d) rx.den
    rw [SS_setH]; exact e3 _ H' d
theorem sem_ok (O : T.Ok P) {E : El} (hE : E.Ok P) {ev : Operand → Option SV} {o : Oper} (ho : o.guard = none) (hev : ∀ x ∈ rd o.op, ∀ v, ev x = some v → (SS l H).ev x = v.den) (h : sem T E ops ev l H o = some r) : Snd P ops o (SS l H) r := by
 unfold sem at h
 split at h
 ·rename_i c x y hop
  obtain ⟨d, op, ty, pos, af, g⟩ := o
  simp only at ho hop
  subst ho; subst hop
  exact soPick_ok h
 ·exact so_ok O hE (SS_H _ _) ho hev h
theorem step_ok (O : T.Ok P) {E : El} (hE : E.Ok P) {o : Oper} {n : SN} (h : step T E ops l H o = some n) {rest : List Oper} {R : Rg} (hR : o.guard = none ∨ noSeq R = true) (hp : n.p) (hk : WR P ops rest (SS n.l n.H) (R.push n.cl)) : WR P ops (o :: rest) (SS l H) R := by
  unfold step at h
  split at h
  · rename_i ho
    split at h
    · rename_i x dm H' cl p hs
      have hsnd := sem_ok O hE ho (fun x _ v hv => evU_den hv) hs
      obtain ⟨h1, h2, h3⟩ := outN_eq (r := ⟨x, dm, H', cl, p⟩) (x := .v x) rfl h
      rw [h2] at hp
      rw [h1, h3] at hk
      exact hsnd rest R hp hk
    · cases h
  · rename_i j want ho
    split at h
    · rename_i g hg
      split at h
      · rename_i x cl p hs
        obtain ⟨q, h, hq⟩ := gdK_eq (H := H) h
        obtain ⟨d, op, ty, pos, af, gd⟩ := o
        simp only at ho
        subst ho
        have hww : ∃ oj dj b, ops[j]? = some oj ∧ oj.dst = some dj ∧ (((SS l H).ev (.tmp dj) = .c (.f (.v (.bool b))) ∧ g = (b == want)) ∨ ((SS l H).ev (.tmp dj) = .c .und ∧ g = false)) := by
          unfold wantS at hg
          split at hg
          · rename_i oj hoj
            rw [nth0_get, Array.getElem?_toList] at hoj
            split at hg
            · rename_i dj hdj
              refine ⟨oj, dj, ?_⟩
              split at hg
              · rename_i b hb
                refine ⟨b, hoj, hdj, .inl ⟨lk_ev hb, ?_⟩⟩
                split at hg <;> injection hg with hg <;> subst hg <;> cases b <;> rfl
              · rename_i b0 b hb
                have := lk_ev (H := H) hb
                cases b0 with
                | true =>
                  refine ⟨b, hoj, hdj, .inl ⟨this, ?_⟩⟩
                  split at hg <;> injection hg with hg <;> subst hg <;> cases b <;> rfl
                | false =>
                  refine ⟨b, hoj, hdj, .inr ⟨this, ?_⟩⟩
                  split at hg <;> injection hg with hg <;> subst hg <;> rfl
              · cases hg
            · cases hg
          · cases hg
        obtain ⟨oj, dj, b, w1, w2, w3⟩ := hww
        cases g with
        | true =>
          rcases w3 with ⟨w3, w4⟩ | ⟨_, w4⟩
          · refine R_want (by show wantA ops _ _ = some true; rw [wantA_some rfl w1 w2 w3, ← w4]) ?_
            obtain ⟨h1, h2, h3⟩ := outN_eq (r := ⟨x, none, none, cl, p⟩) (x := .g true x) rfl h
            rw [h2] at hp
            obtain ⟨hq1, hp1⟩ := hp rfl
            have hsnd := sem_ok (ops := ops) (o := ⟨d, op, ty, pos, af, none⟩) O hE rfl (hq hq1) hs
            rw [h1, h3] at hk
            exact hsnd rest R hp1 hk
          · cases w4
        | false =>
          have hw : wantA ops (SS l H) ⟨d, op, ty, pos, af, some (j, want)⟩ = some false := by
            rcases w3 with ⟨w3, w4⟩ | ⟨w3, _⟩
            · rw [wantA_some rfl w1 w2 w3, ← w4]
            · exact wantA_und rfl w1 w2 w3
          refine R_skip hw ?_
          obtain ⟨h1, h2, h3⟩ := outN_eq (r := ⟨.c (.c .und), none, none, cl, p⟩) (x := .g false x) rfl h
          rw [h1, h3] at hk
          exact WR_q0 (by rcases hR with e | e; · cases e
                          · exact e) hk
      · cases h
    · cases h
structure SX : Type 1 where
 rest : List Oper
 l : SL
 H : SH
 R : Rg
 p : Prop
def runS (T : Tb) (E : El) (ops : Array Oper) : List Oper → SL → SH → Rg → Prop → Option SX
 | [], l, H, R, q => some ⟨[], l, H, R, q⟩
 | o :: os, l, H, R, q => match step T E ops l H o with
  | some ⟨l', H', cl, p⟩ => match R with
   | .plain K => runS T E ops os l' H' (.plain K) (q ∧ p)
   | .drawn a K => runS T E ops os l' H' (.drawn (cl :: a) K) (q ∧ p)
   | .seq a K => some ⟨o :: os, l, H, .seq a K, q⟩
  | none => some ⟨o :: os, l, H, R, q⟩
theorem runS_ok (O : T.Ok P) {E : El} (hE : E.Ok P) {x : SX} : ∀ {rest : List Oper} {l : SL} {H : SH} {R : Rg} {q : Prop}, runS T E ops rest l H R q = some x → x.p → WR P ops x.rest (SS x.l x.H) x.R → q ∧ WR P ops rest (SS l H) R
 | [], l, H, R, q, h, hp, hk => by
  injection h with h; subst h
  exact ⟨hp, hk⟩
 | o :: os, l, H, R, q, h, hp, hk => by
  unfold runS at h
  split at h
  ·rename_i l' H' cl p hs
   split at h
   ·obtain ⟨⟨h1, h2⟩, h3⟩ := runS_ok O hE h hp hk
    exact ⟨h1, step_ok O hE hs (.inr rfl) h2 h3⟩
   ·obtain ⟨⟨h1, h2⟩, h3⟩ := runS_ok O hE h hp hk
    exact ⟨h1, step_ok O hE hs (.inr rfl) h2 h3⟩
   ·injection h with h; subst h
    exact ⟨hp, hk⟩
  ·injection h with h; subst h
   exact ⟨hp, hk⟩
def run1 (T : Tb) (E : El) (ops : Array Oper) (rest : List Oper) (l : SL) (H : SH) (R : Rg) : Option SX :=
 match rest with
 | [] => none
 | o :: os => match step T E ops l H o with
  | some ⟨l', H', cl, p⟩ => match R with
   | .plain K => runS T E ops os l' H' (.plain K) p
   | .drawn a K => runS T E ops os l' H' (.drawn (cl :: a) K) p
   | .seq a K => none
  | none => none
theorem run1_ok (O : T.Ok P) {E : El} (hE : E.Ok P) {rest : List Oper} {l : SL} {H : SH} {R : Rg} {rest' : List Oper} {l' : SL} {H' : SH} {R' : Rg} {p : Prop} (h : run1 T E ops rest l H R = some ⟨rest', l', H', R', p⟩) (hp : p) (hk : WR P ops rest' (SS l' H') R') : WR P ops rest (SS l H) R := by
 unfold run1 at h
 split at h
 ·cases h
 ·split at h
  ·rename_i hs
   split at h
   ·obtain ⟨h1, h2⟩ := runS_ok O hE h hp hk
    exact step_ok O hE hs (.inr rfl) h1 h2
   ·obtain ⟨h1, h2⟩ := runS_ok O hE h hp hk
    exact step_ok O hE hs (.inr rfl) h1 h2
   ·cases h
  ·cases h
end
def OkV (P : Program) (f : FuncId) (args : List SV) (H : SH) (r : SV) (H' : SH) : Prop := Ok P f (args.map SV.den) (denH H) r.den (denH H')
section
variable {P : Program} {ops : Array Oper} {D : Array Oper → St → (St → Prop) → Prop} {n0 : Nat} {H : SH} {l : SL} {K : AExit → St → Prop}
theorem X_cond {c : Operand} {a b : Code} {t : Bool} (hc : evU l c = some (.c (.c (.f (.v (.bool t)))))) (h1 : t = true → W P D n0 a (SS l H) K) (h2 : t = false → W P D n0 b (SS l H) K) : W P D n0 (.cond c a b) (SS l H) K :=
 W_cond (evU_den hc) h1 h2
def nzS : SC → SC
 | .c (.f .nils) => .c (.f (.row [] 0))
 | x => x
theorem nzS_den : ∀ x : SC, (nzS x).den = x.den.nz
 | .c x => by
  cases x with
  | f y => cases y <;> rfl
  | _ => rfl
 | .row .. => rfl
 | .elt .. => rfl
 | .pel .. => rfl
 | .tipr .. => rfl
def nzL : List SC → Option (List SC)
 | [] => some []
 | x :: l => match nzL l with
  | some r => match x with
   | .c (.f .nils) => some (.c (.f (.row [] 0)) :: r)
   | x => some (x :: r)
  | none => none
theorem nzL_eq : ∀ {l r : List SC}, nzL l = some r → (denL l).map CVal.nz = denL r
 | [], r, h => by injection h with h; subst h; rfl
 | x :: l, r, h => by
  unfold nzL at h
  split at h
  ·rename_i r' hr
   have := nzL_eq hr
   split at h
   ·injection h with h; subst h
    simp only [denL, List.map_cons] at *; rw [this]; rfl
   ·rename_i hne
    injection h with h; subst h
    simp only [denL, List.map_cons] at *; rw [this, ← nzS_den]
    congr 1
    cases x with
    | c x =>
     cases x with
     | f y => cases y <;> first | rfl | exact (hne rfl).elim
     | _ => rfl
    | _ => rfl
  ·cases h
def hS (v : SV) : Option SV :=
 match v with
 | .c (.c (.tip _ cs n)) => some (.c (.c (.f (.row cs n))))
 | .c (.tipr z F V M d l) => some (.c (.row z F V d l))
 | .c (.c (.f .nils)) => some (.c (.c (.f (.row [] 0))))
 | .c x => some (.c x)
 | .agg ds => match nzL ds with
  | some r => some (.agg r)
  | none => none
 | .tup _ => none
theorem hS_den {v u : SV} (h : hS v = some u) : v.den.h = u.den := by
 unfold hS at h
 split at h
 ·injection h with h; subst h; rfl
 ·injection h with h; subst h; rfl
 ·injection h with h; subst h; rfl
 ·rename_i x h1 h2 h3
  injection h with h; subst h
  cases x with
  | c x =>
   cases x with
   | f y => cases y <;> first | rfl | exact (h3 rfl).elim
   | tip z cs n => exact (h1 z cs n rfl).elim
   | _ => rfl
  | tipr z F V M d l => exact (h2 _ z F V M d l rfl).elim
  | _ => rfl
 ·rename_i ds
  split at h
  ·rename_i r hr
   injection h with h; subst h
   show AVal.agg ((denL ds).map CVal.nz) = _
   rw [nzL_eq hr]; rfl
  ·cases h
 ·cases h
def argsS (ev : Operand → Option SV) : List Operand → Option (List SV)
 | [] => some []
 | x :: xs => match ev x with
  | some v => match hS v with
   | some u => match argsS ev xs with
    | some r => some (u :: r)
    | none => none
   | none => none
  | none => none
theorem argsS_eq {s : St} {ev : Operand → Option SV} : ∀ {xs : List Operand} {vs : List SV}, (∀ x ∈ xs, ∀ v, ev x = some v → s.ev x = v.den) → argsS ev xs = some vs → (xs.map fun x => (s.ev x).h) = vs.map SV.den
 | [], vs, _, h => by injection h with h; subst h; rfl
 | x :: xs, vs, hev, h => by
  unfold argsS at h
  split at h
  ·rename_i v hv
   split at h
   ·rename_i u hu
    split at h
    ·rename_i r hr
     injection h with h; subst h
     simp only [List.map_cons]
     rw [hev x (by simp) v hv, hS_den hu, argsS_eq (fun y hy => hev y (by simp [hy])) hr]
    ·cases h
   ·cases h
  ·cases h
def okC (n : Nat) : SC → Bool
 | .c (.ptr b _) => Nat.blt b n
 | .c (.arr b _ _ _) => Nat.blt b n
 | .pel b _ _ _ => Nat.blt b n
 | _ => true
theorem okC_den {n : Nat} : ∀ {x : SC}, okC n x = true → x.den.ok n = true
 | .c x, h => by
  cases x <;> first | rfl | (simp only [okC] at h; simp only [SC.den, CVal.ok]; simpa using h)
 | .row .., _ => rfl
 | .elt .., _ => rfl
 | .pel .., h => by simp only [okC] at h; simp only [SC.den, CVal.ok]; simpa using h
 | .tipr .., _ => rfl
def okL (n : Nat) : List SC → Bool
 | [] => true
 | x :: l => match okC n x with
  | true => okL n l
  | false => false
theorem okL_den {n : Nat} : ∀ {l : List SC}, okL n l = true → (denL l).all (CVal.ok n) = true
 | [], _ => rfl
 | x :: l, h => by
  unfold okL at h
  split at h
  ·rename_i h1
   simp only [denL, List.map_cons, List.all_cons, Bool.and_eq_true]
   exact ⟨okC_den h1, okL_den h⟩
  ·cases h
def okT (n : Nat) : List ST → Bool
 | [] => true
 | .c x :: l => match okC n x with
  | true => okT n l
  | false => false
 | .agg ds :: l => match okL n ds with
  | true => okT n l
  | false => false
theorem okT_den {n : Nat} : ∀ {l : List ST}, okT n l = true → (l.map ST.den).all (TVal.ok n) = true
 | [], _ => rfl
 | .c x :: l, h => by
  unfold okT at h
  split at h
  ·rename_i h1
   simp only [List.map_cons, List.all_cons, Bool.and_eq_true]
   exact ⟨okC_den h1, okT_den h⟩
  ·cases h
 | .agg ds :: l, h => by
  unfold okT at h
  split at h
  ·rename_i h1
   simp only [List.map_cons, List.all_cons, Bool.and_eq_true]
   exact ⟨okL_den h1, okT_den h⟩
  ·cases h
def okV (n : Nat) : SV → Bool
 | .c x => okC n x
 | .agg ds => okL n ds
 | .tup ts => okT n ts
theorem okV_den {n : Nat} : ∀ {v : SV}, okV n v = true → v.den.ok n = true
 | .c x, h => okC_den h
 | .agg ds, h => okL_den h
 | .tup ts, h => okT_den h
def okVs (n : Nat) : List SV → Bool
 | [] => true
 | v :: l => match okV n v with
  | true => okVs n l
  | false => false
theorem okVs_den {n : Nat} : ∀ {l : List SV}, okVs n l = true → (l.map SV.den).all (AVal.ok n) = true
 | [], _ => rfl
 | v :: l, h => by
  unfold okVs at h
  split at h
  ·rename_i h1
   simp only [List.map_cons, List.all_cons, Bool.and_eq_true]
   exact ⟨okV_den h1, okVs_den h⟩
  ·cases h
def okBl (n : Nat) : SH → Bool
 | [] => true
 | none :: H => okBl n H
 | some (.cells cs) :: H => match okL n cs with
  | true => okBl n H
  | false => false
 | some (.els ..) :: H => okBl n H
theorem okBl_den {n : Nat} : ∀ {H : SH}, okBl n H = true → (denH H).all (okB n) = true
 | [], _ => rfl
 | none :: H, h => by
  simp only [denH, List.map_cons, List.all_cons, Bool.and_eq_true]
  exact ⟨rfl, okBl_den (H := H) h⟩
 | some (.cells cs) :: H, h => by
  unfold okBl at h
  split at h
  ·rename_i h1
   simp only [denH, List.map_cons, List.all_cons, Bool.and_eq_true]
   exact ⟨okL_den h1, okBl_den (H := H) h⟩
  ·cases h
 | some (.els z F V M d l) :: H, h => by
  simp only [denH, List.map_cons, List.all_cons, Bool.and_eq_true]
  refine ⟨?_, okBl_den (H := H) h⟩
  simp only [denB, okB, SB.den, List.all_map, List.all_eq_true]
  intro x _; rfl
structure CP : Type 1 where
 f : FuncId
 vs : List SV
 l : SL
def callP (l : SL) (d : Option Tmp) (c : Call) (r : SV) : Option CP :=
 match c.callee with
 | .value (.func f) => match argsS (evU l) c.args.toList with
  | some vs => match okVs 0 vs with
   | true => match d with
    | some d => some ⟨f, vs, (d, .v r) :: l⟩
    | none => some ⟨f, vs, l⟩
   | false => none
  | none => none
 | _ => none
variable {rest : List Oper} {d : Option Tmp} {ty : TypeId} {pos : String} {af : Array Edge} {R : Rg}
theorem X_pure {c : Call} {f : FuncId} {vs : List SV} {r : SV} {l' : SL} (hO : OkV P f vs [] r []) (hc : callP l d c r = some ⟨f, vs, l'⟩) (h : WR P ops rest (SS l' H) (R.push .q0)) : WR P ops (⟨d, .call c, ty, pos, af, none⟩ :: rest) (SS l H) R := by
 unfold callP at hc
 split at hc
 ·rename_i f' hf
  split at hc
  ·rename_i vs' hvs
   split at hc
   ·rename_i hok
    have hcall : callOf ⟨d, .call c, ty, pos, af, none⟩ = some (f', c.args.toList) := by simp only [callOf, hf]
    have ha := argsS_eq (s := SS l H) (fun x _ v hv => evU_den hv) hvs
    have e : f' = f ∧ vs' = vs ∧ SS l' H = (SS l H).put d r.den := by
     split at hc <;> injection hc with hc <;> injection hc with e1 e2 e3 <;> subst e1 <;> subst e2 <;> subst e3 <;> exact ⟨rfl, rfl, rfl⟩
    obtain ⟨rfl, rfl, e3⟩ := e
    refine R_pure hcall ha (okVs_den hok) hO ?_
    rw [← e3]; exact h
   ·cases hc
  ·cases hc
 ·cases hc
structure CG : Type 1 where
 f : FuncId
 vs : List SV
 l : SL
 g : Bool
 q : Prop
def callG (ops : List Oper) (l : SL) (d : Option Tmp) (c : Call) (gd : Nat × Bool) (r : SV) : Option CG :=
 match c.callee with
 | .value (.func f) => match argsS (evG l) c.args.toList with
  | some vs => match okVs 0 vs with
   | true => match gd with
    | (j, want) => match wantS ops l j want with
     | some g => match d with
      | some d => gdK l c.args.toList fun q => some ⟨f, vs, (d, .g g r) :: l, g, q⟩
      | none => none
     | none => none
   | false => none
  | none => none
 | _ => none
theorem wantS_eq {j : Nat} {want g : Bool} (hg : wantS ops.toList l j want = some g) : ∃ oj dj b, ops[j]? = some oj ∧ oj.dst = some dj ∧ (((SS l H).ev (.tmp dj) = .c (.f (.v (.bool b))) ∧ g = (b == want)) ∨ ((SS l H).ev (.tmp dj) = .c .und ∧ g = false)) := by
 unfold wantS at hg
 split at hg
 ·rename_i oj hoj
  rw [nth0_get, Array.getElem?_toList] at hoj
  split at hg
  ·rename_i dj hdj
   refine ⟨oj, dj, ?_⟩
   split at hg
   ·rename_i b hb
    refine ⟨b, hoj, hdj, .inl ⟨lk_ev hb, ?_⟩⟩
    split at hg <;> injection hg with hg <;> subst hg <;> cases b <;> rfl
   ·rename_i b0 b hb
    have := lk_ev (H := H) hb
    cases b0 with
    | true =>
     refine ⟨b, hoj, hdj, .inl ⟨this, ?_⟩⟩
     split at hg <;> injection hg with hg <;> subst hg <;> cases b <;> rfl
    | false =>
     refine ⟨b, hoj, hdj, .inr ⟨this, ?_⟩⟩
     split at hg <;> injection hg with hg <;> subst hg <;> rfl
   ·cases hg
  ·cases hg
 ·cases hg
theorem X_pureG {c : Call} {f : FuncId} {vs : List SV} {r : SV} {l' : SL} {gd : Nat × Bool} {g : Bool} {q : Prop} (hO : g = true → OkV P f vs [] r []) (hc : callG ops.toList l d c gd r = some ⟨f, vs, l', g, q⟩) (hq : g = true → q) (h : WR P ops rest (SS l' H) (R.push .q0)) : WR P ops (⟨d, .call c, ty, pos, af, some gd⟩ :: rest) (SS l H) R := by
 unfold callG at hc
 split at hc
 ·rename_i f' hf
  split at hc
  ·rename_i vs' hvs
   split at hc
   ·rename_i hok
    obtain ⟨j, want⟩ := gd
    simp only at hc
    split at hc
    ·rename_i g' hg
     split at hc
     ·rename_i dd
      obtain ⟨q', hc, hq'⟩ := gdK_eq (H := H) hc
      injection hc with hc; injection hc with e1 e2 e3 e4 e5
      subst e1; subst e2; subst e3; subst e4; subst e5
      obtain ⟨oj, dj, b, w1, w2, w3⟩ := wantS_eq (H := H) hg
      cases g' with
      | true =>
       rcases w3 with ⟨w3, w4⟩ | ⟨_, w4⟩
       ·refine R_want (by show wantA ops _ _ = some true; rw [wantA_some rfl w1 w2 w3, ← w4]) ?_
        have hcall : callOf ⟨some dd, .call c, ty, pos, af, none⟩ = some (f', c.args.toList) := by simp only [callOf, hf]
        exact R_pure hcall (argsS_eq (s := SS l H) (hq' (hq rfl)) hvs) (okVs_den hok) (hO rfl) h
       ·cases w4
      | false =>
       have hw : wantA ops (SS l H) ⟨some dd, .call c, ty, pos, af, some (j, want)⟩ = some false := by
        rcases w3 with ⟨w3, w4⟩ | ⟨w3, _⟩
        ·rw [wantA_some rfl w1 w2 w3, ← w4]
        ·exact wantA_und rfl w1 w2 w3
       exact R_skip hw h
     ·cases hc
    ·cases hc
   ·cases hc
  ·cases hc
 ·cases hc
def numsFrom : SH → List Nat → List Nat
 | _ :: H, _ :: ns => numsFrom H ns
 | [], ns => ns
 | _ :: _, [] => []
def appN : List Nat → List Nat → List Nat
 | [], r => r
 | b :: l, r => b :: appN l r
def sigL (H : SH) (bs : List Nat) : List Nat := appN bs (numsFrom H nums)
theorem numsFrom_get : ∀ (H : SH) (ns : List Nat) (i : Nat), (numsFrom H ns)[i]? = ns[H.length + i]?
 | [], ns, i => by simp [numsFrom]
 | x :: H, n :: ns, i => by
  simp only [numsFrom, List.length_cons]
  rw [numsFrom_get H ns i, show H.length + 1 + i = (H.length + i) + 1 by omega, List.getElem?_cons_succ]
 | x :: H, [], i => by simp [numsFrom]
theorem appN_eq : ∀ l r : List Nat, appN l r = l ++ r
 | [], _ => rfl
 | b :: l, r => by simp [appN, appN_eq l r]
theorem sigL_ok {H : SH} {bs : List Nat} {b c : Nat} (h : nth0 (sigL H bs) b = some c) : sig H.length bs b = c := by
 rw [nth0_get, sigL, appN_eq] at h
 unfold sig
 rw [List.getD_eq_getElem?_getD]
 by_cases hb : b < bs.length
 ·rw [List.getElem?_append_left hb] at h
  rw [h]; rfl
 ·rw [List.getElem?_append_right (by omega), numsFrom_get] at h
  rw [List.getElem?_eq_none (by omega)]
  have := nums_get h
  rw [this]; rfl
def renC (σ : List Nat) : SC → Option SC
 | .c (.ptr b off) => match nth0 σ b with
  | some c => some (.c (.ptr c off))
  | none => none
 | .c (.arr b off len cap) => match nth0 σ b with
  | some c => some (.c (.arr c off len cap))
  | none => none
 | .pel b z i k => match nth0 σ b with
  | some c => some (.pel c z i k)
  | none => none
 | .c x => some (.c x)
 | .row z F V d l => some (.row z F V d l)
 | .elt z F V d l i k => some (.elt z F V d l i k)
 | .tipr z F V M d l => some (.tipr z F V M d l)
theorem renC_den {H : SH} {bs : List Nat} {x y : SC} (h : renC (sigL H bs) x = some y) : x.den.ren (sig H.length bs) = y.den := by
 unfold renC at h
 split at h
 ·split at h
  ·rename_i hb; injection h with h; subst h; simp only [SC.den, CVal.ren, sigL_ok hb]
  ·cases h
 ·split at h
  ·rename_i hb; injection h with h; subst h; simp only [SC.den, CVal.ren, sigL_ok hb]
  ·cases h
 ·split at h
  ·rename_i hb; injection h with h; subst h; simp only [SC.den, CVal.ren, sigL_ok hb]
  ·cases h
 ·rename_i x h1 h2
  injection h with h; subst h
  cases x with
  | ptr b off => exact (h1 b off rfl).elim
  | arr b off len cap => exact (h2 b off len cap rfl).elim
  | _ => rfl
 ·injection h with h; subst h; rfl
 ·injection h with h; subst h; rfl
 ·injection h with h; subst h; rfl
def renL (σ : List Nat) : List SC → Option (List SC)
 | [] => some []
 | x :: l => match renC σ x with
  | some y => match renL σ l with
   | some r => some (y :: r)
   | none => none
  | none => none
theorem renL_den {G : SH} {bs : List Nat} : ∀ {l r : List SC}, renL (sigL G bs) l = some r → (denL l).map (CVal.ren (sig G.length bs)) = denL r
 | [], r, h => by injection h with h; subst h; rfl
 | x :: l, r, h => by
  unfold renL at h
  split at h
  ·rename_i y hy
   split at h
   ·rename_i r' hr
    injection h with h; subst h
    simp only [denL, List.map_cons] at *
    rw [renC_den hy]
    have := renL_den hr
    simp only [denL] at this
    rw [this]
   ·cases h
  ·cases h
def renT (σ : List Nat) : List ST → Option (List ST)
 | [] => some []
 | .c x :: l => match renC σ x with
  | some y => match renT σ l with
   | some r => some (.c y :: r)
   | none => none
  | none => none
 | .agg ds :: l => match renL σ ds with
  | some y => match renT σ l with
   | some r => some (.agg y :: r)
   | none => none
  | none => none
theorem renT_den {G : SH} {bs : List Nat} : ∀ {l r : List ST}, renT (sigL G bs) l = some r → (l.map ST.den).map (TVal.ren (sig G.length bs)) = r.map ST.den
 | [], r, h => by injection h with h; subst h; rfl
 | .c x :: l, r, h => by
  unfold renT at h
  split at h
  ·rename_i y hy
   split at h
   ·rename_i r' hr
    injection h with h; subst h
    simp only [List.map_cons]
    rw [renT_den hr]
    show TVal.c (x.den.ren _) :: _ = _
    rw [renC_den hy]; rfl
   ·cases h
  ·cases h
 | .agg ds :: l, r, h => by
  unfold renT at h
  split at h
  ·rename_i y hy
   split at h
   ·rename_i r' hr
    injection h with h; subst h
    simp only [List.map_cons]
    rw [renT_den hr]
    show TVal.agg ((denL ds).map _) :: _ = _
    rw [renL_den hy]; rfl
   ·cases h
  ·cases h
def renV (σ : List Nat) : SV → Option SV
 | .c x => match renC σ x with
  | some y => some (.c y)
  | none => none
 | .agg ds => match renL σ ds with
  | some r => some (.agg r)
  | none => none
 | .tup ts => match renT σ ts with
  | some r => some (.tup r)
  | none => none
theorem renV_den {G : SH} {bs : List Nat} {x y : SV} (h : renV (sigL G bs) x = some y) : x.den.ren (sig G.length bs) = y.den := by
 unfold renV at h
 split at h
 ·split at h
  ·rename_i hy; injection h with h; subst h
   show AVal.c _ = _
   rw [renC_den hy]; rfl
  ·cases h
 ·split at h
  ·rename_i hy; injection h with h; subst h
   show AVal.agg _ = _
   rw [renL_den hy]; rfl
  ·cases h
 ·split at h
  ·rename_i hy; injection h with h; subst h
   show AVal.tup _ = _
   rw [renT_den hy]; rfl
  ·cases h
def renVs (σ : List Nat) : List SV → Option (List SV)
 | [] => some []
 | x :: l => match renV σ x with
  | some y => match renVs σ l with
   | some r => some (y :: r)
   | none => none
  | none => none
theorem renVs_den {G : SH} {bs : List Nat} : ∀ {l r : List SV}, renVs (sigL G bs) l = some r → (l.map SV.den).map (AVal.ren (sig G.length bs)) = r.map SV.den
 | [], r, h => by injection h with h; subst h; rfl
 | x :: l, r, h => by
  unfold renVs at h
  split at h
  ·rename_i y hy
   split at h
   ·rename_i r' hr
    injection h with h; subst h
    simp only [List.map_cons]
    rw [renV_den hy, renVs_den hr]
   ·cases h
  ·cases h
def renHs (σ : List Nat) : SH → Option SH
 | [] => some []
 | none :: H => match renHs σ H with
  | some r => some (none :: r)
  | none => none
 | some (.cells cs) :: H => match renL σ cs with
  | some ds => match renHs σ H with
   | some r => some (some (.cells ds) :: r)
   | none => none
  | none => none
 | some (.els z F V M d l) :: H => match renHs σ H with
  | some r => some (some (.els z F V M d l) :: r)
  | none => none
theorem renHs_den {G : SH} {bs : List Nat} : ∀ {H r : SH}, renHs (sigL G bs) H = some r → (denH H).map (renB (sig G.length bs)) = denH r
 | [], r, h => by injection h with h; subst h; rfl
 | none :: H, r, h => by
  unfold renHs at h
  split at h
  ·rename_i r' hr
   injection h with h; subst h
   have := renHs_den hr
   simp only [denH, List.map_cons] at *
   rw [this]; rfl
  ·cases h
 | some (.cells cs) :: H, r, h => by
  unfold renHs at h
  split at h
  ·rename_i ds hds
   split at h
   ·rename_i r' hr
    injection h with h; subst h
    have := renHs_den hr
    simp only [denH, List.map_cons] at *
    rw [this]
    show some ((denL cs).map _) :: _ = _
    rw [renL_den hds]; rfl
   ·cases h
  ·cases h
 | some (.els z F V M d l) :: H, r, h => by
  unfold renHs at h
  split at h
  ·rename_i r' hr
   injection h with h; subst h
   have := renHs_den hr
   simp only [denH, List.map_cons] at *
   rw [this]
   congr 1
   simp only [denB, renB, SB.den, List.map_map]
   congr 1
  ·cases h
def getHs (H : SH) : List Nat → Option SH
 | [] => some []
 | b :: bs => match nth H b with
  | some x => match getHs H bs with
   | some r => some (x :: r)
   | none => none
  | none => none
theorem getHs_den {H : SH} : ∀ {bs : List Nat} {r : SH}, getHs H bs = some r → (bs.map fun b => (denH H).getD b none) = denH r ∧ ∀ b ∈ bs, b < H.length
 | [], r, h => by injection h with h; subst h; exact ⟨rfl, fun b hb => by cases hb⟩
 | b :: bs, r, h => by
  unfold getHs at h
  split at h
  ·rename_i x hx
   split at h
   ·rename_i r' hr
    injection h with h; subst h
    obtain ⟨h1, h2⟩ := getHs_den hr
    rw [nth_get] at hx
    simp only [List.map_cons, denH] at *
    rw [h1]
    refine ⟨?_, fun c hc => ?_⟩
    ·rw [List.getD_eq_getElem?_getD, List.getElem?_map, hx]; rfl
    ·rcases List.mem_cons.1 hc with rfl | hc
     ·exact (List.getElem?_eq_some_iff.1 hx).1
     ·exact h2 c hc
   ·cases h
  ·cases h
def appK : SH → SH → (SH → Option SX) → Option SX
 | [], Cs, k => k Cs
 | x :: H, Cs, k => appK H Cs fun r => k (x :: r)
def putK (H : SH) (bs : List Nat) (Cs : SH) (k : SH → Option SX) : Option SX :=
 match bs with
 | [] => appK H Cs k
 | b :: bs => match Cs with
  | c :: Cs => setK H b c fun H' => putK H' bs Cs k
  | [] => none
theorem appK_eq {x : SX} : ∀ {H Cs : SH} {k : SH → Option SX}, appK H Cs k = some x → k (H ++ Cs) = some x
 | [], Cs, k, h => h
 | y :: H, Cs, k, h => by have := appK_eq (H := H) h; simpa using this
theorem putK_eq {x : SX} : ∀ {bs : List Nat} {H Cs : SH} {k : SH → Option SX}, putK H bs Cs k = some x → ∃ H', k H' = some x ∧ denH H' = putBack (denH H) bs (denH Cs)
 | [], H, Cs, k, h => by
  have h' : appK H Cs k = some x := by unfold putK at h; exact h
  exact ⟨_, appK_eq h', by simp [denH, putBack]⟩
 | b :: bs, H, [], k, h => by unfold putK at h; cases h
 | b :: bs, H, c :: Cs, k, h => by
  unfold putK at h
  obtain ⟨h1, h2⟩ := setK_eq h
  obtain ⟨H', h3, h4⟩ := putK_eq h2
  refine ⟨H', h3, ?_⟩
  rw [h4]
  simp only [denH, List.map_cons, putBack, List.map_set]
def nodupB : List Nat → Bool
 | [] => true
 | b :: l => match memN l b with
  | true => false
  | false => nodupB l
theorem memN_of {l : List Nat} {t : Nat} (h : t ∈ l) : memN l t = true := by
 induction l with
 | nil => cases h
 | cons d l ih =>
  unfold memN
  rcases List.mem_cons.1 h with rfl | h
  ·rw [Nat.beq_refl]
  ·split
   ·rfl
   ·exact ih h
theorem nodupB_eq : ∀ {l : List Nat}, nodupB l = true → l.Nodup
 | [], _ => List.nodup_nil
 | b :: l, h => by
  unfold nodupB at h
  split at h
  ·cases h
  ·rename_i hb
   exact List.nodup_cons.2 ⟨fun hm => (by rw [memN_of hm] at hb; cases hb), nodupB_eq h⟩
theorem X_call {c : Call} {f : FuncId} {vs ws : List SV} {Hs Hs' Gs Gs' : SH} {r r' : SV} {l' : SL} {H' : SH} (bs : List Nat) (hO : OkV P f vs Hs r Hs')
  (hc : callOf ⟨d, .call c, ty, pos, af, none⟩ = some (f, c.args.toList)) (ha : argsS (evU l) c.args.toList = some ws) (hv : renVs (sigL H bs) vs = some ws) (hg : getHs H bs = some Gs) (hr1 : renHs (sigL H bs) Hs = some Gs) (hr2 : renHs (sigL H bs) Hs' = some Gs') (hr3 : renV (sigL H bs) r = some r')
  (hn : nodupB bs = true) (h4 : okVs Hs.length vs = true) (h5 : okBl Hs.length Hs = true) (h6 : okBl Hs'.length Hs' = true) (hP : putK H bs Gs' (fun H' => some ⟨[], [], H', .plain (fun _ => True), True⟩) = some ⟨[], [], H', .plain (fun _ => True), True⟩)
  (hl : (match d with | some d => some ((d, SE.v r') :: l) | none => some l) = some l')
  (h : WR P ops rest (SS l' H') (R.push ⟨bs, [], bs, if Hs'.length = bs.length then none else some H.length, false, false⟩)) : WR P ops (⟨d, .call c, ty, pos, af, none⟩ :: rest) (SS l H) R := by
 obtain ⟨g1, g2⟩ := getHs_den hg
 obtain ⟨H2, hP1, hP2⟩ := putK_eq hP
 injection hP1 with hP1; injection hP1 with _ _ hP1
 subst hP1
 have hlen : ∀ X : SH, (denH X).length = X.length := denH_len
 refine R_call bs (H := denH H) (n := H.length) (Hs := denH Hs) (Hs' := denH Hs') (args := ws.map SV.den) (args' := vs.map SV.den) (r := r.den) (r2 := r'.den) (H2 := denH H2) hc (argsS_eq (s := SS l H) (fun x _ v hv => evU_den hv) ha) (SS_H _ _) hO ?_ (hlen H) ?_ (nodupB_eq hn) ?_ (by rw [hlen]; exact okVs_den h4) (by rw [hlen]; exact okBl_den h5) (by rw [hlen]; exact okBl_den h6) (renV_den hr3) ?_ rfl ?_
 ·rw [hlen]; exact renVs_den hv
 ·rw [renHs_den hr1]; exact g1.symm
 ·rw [List.all_eq_true]; intro b hb; simpa using g2 b hb
 ·rw [renHs_den hr2]; exact hP2.symm
 ·rw [SS_setH, hlen]
  have : SS l' H2 = (SS l H2).put d r'.den := by
   split at hl <;> injection hl with hl <;> subst hl <;> rfl
  rw [← this]; exact h
end
section
variable {P : Program} {T : Tb} {H : SH} {l : SL}
def CEq (x y : SC) : Prop := x.den = y.den
theorem CEq.refl (x : SC) : CEq x x := rfl
theorem CEq.int {k : IntKind} {a b : Int} (h : a = b) : CEq (.c (.f (.v (.int k a)))) (.c (.f (.v (.int k b)))) := by subst h; rfl
theorem CEq.bool {a b : Bool} (h : a = b) : CEq (.c (.f (.v (.bool a)))) (.c (.f (.v (.bool b)))) := by subst h; rfl
theorem CEq.str {a b : ByteArray} (h : a = b) : CEq (.c (.f (.v (.string a)))) (.c (.f (.v (.string b)))) := by subst h; rfl
theorem CEq.arr {b off n n' m m' : Nat} (h : n = n') (h2 : m = m') : CEq (.c (.arr b off n m)) (.c (.arr b off n' m')) := by subst h; subst h2; rfl
theorem CEq.row {α : Type} {z n : Nat} {cs : List FVal} {F : α → List FVal} {V : α → List SC} {d : α} {l : List α} (h1 : cs = l.flatMap F) (h2 : n = l.length) : CEq (.c (.f (.row cs n))) (.row z F V d l) := by subst h1; subst h2; rfl
theorem CEq.rows {α : Type} {z : Nat} {F : α → List FVal} {V : α → List SC} {d : α} {l l' : List α} (h : l = l') : CEq (.row z F V d l) (.row z F V d l') := by subst h; rfl
theorem CEq.tip {α : Type} {z n : Nat} {cs : List FVal} {F : α → List FVal} {V : α → List SC} {M : List FVal → Option α} {d : α} {l : List α} (h1 : cs = l.flatMap F) (h2 : n = l.length) : CEq (.c (.tip z cs n)) (.tipr z F V M d l) := by subst h1; subst h2; rfl
theorem CEq.tips {α : Type} {z : Nat} {F : α → List FVal} {V : α → List SC} {M M' : List FVal → Option α} {d : α} {l l' : List α} (h : l = l') : CEq (.tipr z F V M d l) (.tipr z F V M' d l') := by subst h; rfl
theorem CEq.raw {cs cs' : List FVal} {n n' : Nat} (h : cs = cs') (h2 : n = n') : CEq (.c (.f (.row cs n))) (.c (.f (.row cs' n'))) := by subst h; subst h2; rfl
inductive SEqL : List SC → List SC → Prop
 | nil : SEqL [] []
 | cons {x y : SC} {l m : List SC} (h : CEq x y) (t : SEqL l m) : SEqL (x :: l) (y :: m)
theorem SEqL.den {l m : List SC} (h : SEqL l m) : denL l = denL m := by
  induction h with
  | nil => rfl
  | cons h t ih => simp only [denL, List.map_cons] at *; rw [ih]; exact congrArg (· :: _) h
inductive TEqL : List ST → List ST → Prop
 | nil : TEqL [] []
 | c {x y : SC} {l m : List ST} (h : CEq x y) (t : TEqL l m) : TEqL (.c x :: l) (.c y :: m)
 | agg {x y : List SC} {l m : List ST} (h : SEqL x y) (t : TEqL l m) : TEqL (.agg x :: l) (.agg y :: m)
theorem TEqL.den {l m : List ST} (h : TEqL l m) : l.map ST.den = m.map ST.den := by
 induction h with
 | nil => rfl
 | c h t ih => simp only [List.map_cons, ih]; exact congrArg (fun x => TVal.c x :: _) h
 | agg h t ih => simp only [List.map_cons, ih]; exact congrArg (fun x => TVal.agg x :: _) h.den
theorem VEq.c {x y : SC} (h : CEq x y) : (SV.c x).den = (SV.c y).den := congrArg AVal.c h
theorem VEq.agg {x y : List SC} (h : SEqL x y) : (SV.agg x).den = (SV.agg y).den := congrArg AVal.agg h.den
theorem VEq.tup {x y : List ST} (h : TEqL x y) : (SV.tup x).den = (SV.tup y).den := congrArg AVal.tup h.den
inductive TkEq : SH → SH → Prop
 | nil (H : SH) : TkEq H []
 | none {H G : SH} (t : TkEq H G) : TkEq (Option.none :: H) (Option.none :: G)
 | cells {cs ds : List SC} {H G : SH} (h : SEqL cs ds) (t : TkEq H G) : TkEq (some (.cells cs) :: H) (some (.cells ds) :: G)
 | els {α : Type} {z : Nat} {F : α → List FVal} {V : α → List SC} {M : List FVal → Option α} {d : α} {l l' : List α} {H G : SH} (h : l = l') (t : TkEq H G) : TkEq (some (.els z F V M d l) :: H) (some (.els z F V M d l') :: G)
theorem TkEq.den {H G : SH} (h : TkEq H G) : denH (H.take G.length) = denH G := by
 induction h with
 | nil H => simp [denH]
 | none t ih => simp only [denH, List.length_cons, List.take_succ_cons, List.map_cons] at *; rw [ih]
 | cells h t ih => simp only [denH, List.length_cons, List.take_succ_cons, List.map_cons] at *; rw [ih]; exact congrArg (fun x => some x :: _) h.den
 | els h t ih => subst h; simp only [denH, List.length_cons, List.take_succ_cons, List.map_cons] at *; rw [ih]
def stS (v : SV) : Option ST :=
 match v with
 | .c x => some (.c x)
 | .agg ds => some (.agg ds)
 | .tup _ => none
def cutO (cs : List SC) (off n : Nat) : Option (List SC) := cutK cs off n some
def demO (cs : List SC) : Option (List SC) := demK cs some
def resV (T : Tb) (l : SL) (H : SH) : List ResultVar → Option (List ST)
 | [] => some []
 | .tmp t :: rs => match evU l (.tmp t) with
  | some v => match hS v with
   | some u => match stS u with
    | some y => match resV T l H rs with
     | some ys => some (y :: ys)
     | none => none
    | none => none
   | none => none
  | none => none
 | .cell x t :: rs => match lkN T.sz t with
  | some (q, n) => match evU l (.tmp x) with
   | some (.c (.c (.ptr b off))) => match nth H b with
    | some (some (.cells cs)) => match q with
     | false => match nth cs off with
      | some y => match hS (.c y) with
       | some u => match stS u with
        | some z => match resV T l H rs with
         | some ys => some (z :: ys)
         | none => none
        | none => none
       | none => none
      | none => none
     | true => match cutO cs off n with
      | some ds => match demO ds with
       | some es => match nzL es with
        | some fs => match resV T l H rs with
         | some ys => some (.agg fs :: ys)
         | none => none
        | none => none
       | none => none
      | none => none
    | _ => none
   | _ => none
  | none => none
theorem hS_t {v u : SV} {y : ST} {w : AVal} (hw : w = v.den) (h : hS v = some u) (hy : stS u = some y) : (w.dem.t).map TVal.nz = some y.den := by
 have h1 := hS_den h
 subst hw
 unfold AVal.h at h1
 unfold stS at hy
 split at hy
 ·injection hy with hy; subst hy
  rename_i x
  cases hd : v.den.dem with
  | c z =>
   rw [hd] at h1
   have h2 : AVal.c z.nz = AVal.c x.den := h1
   injection h2 with h2
   show some (TVal.c z.nz) = _
   rw [h2]; rfl
  | agg cs => rw [hd] at h1; cases h1
  | tup ts => rw [hd] at h1; cases h1
 ·injection hy with hy; subst hy
  rename_i ds
  cases hd : v.den.dem with
  | c z => rw [hd] at h1; cases h1
  | agg cs =>
   rw [hd] at h1
   have h2 : AVal.agg (cs.map CVal.nz) = AVal.agg (denL ds) := h1
   injection h2 with h2
   show some (TVal.agg (cs.map CVal.nz)) = _
   rw [h2]; rfl
  | tup ts => rw [hd] at h1; cases h1
 ·cases hy
theorem resS_eq (O : T.Ok P) : ∀ {rs : List ResultVar} {ys : List ST}, resV T l H rs = some ys → resL P (SS l H) rs = some (ys.map ST.den)
 | [], ys, h => by injection h with h; subst h; rfl
 | .tmp t :: rs, ys, h => by
  unfold resV at h
  split at h
  ·rename_i v hv
   split at h
   ·rename_i u hu
    split at h
    ·rename_i y hy
     split at h
     ·rename_i ys' hys
      injection h with h; subst h
      have h1 := hS_t (evU_den (H := H) hv) hu hy
      have h2 := resS_eq O hys
      unfold resL
      have h3 : res1 P (SS l H) (.tmp t) = some y.den := h1
      rw [h3, h2]
      rfl
     ·cases h
    ·cases h
   ·cases h
  ·cases h
 | .cell x t :: rs, ys, h => by
  unfold resV at h
  split at h
  ·rename_i q n hsz
   have ht := O.sz_of hsz
   split at h
   ·rename_i b off hx
    have hx' := evU_den (H := H) hx
    split at h
    ·rename_i cs hb
     have hb' : (SS l H).H[b]? = some (some (denL cs)) := by rw [SS_H]; exact nth_H hb
     split at h
     ·split at h
      ·rename_i y hy
       split at h
       ·rename_i u hu
        split at h
        ·rename_i z hz
         split at h
         ·rename_i ys' hys
          injection h with h; subst h
          have h1 := hS_t (v := .c y) rfl hu hz
          have h2 : TVal.nz (.c y.den.dem) = z.den := by
           have h3 : some (TVal.nz (.c y.den.dem)) = some z.den := h1
           injection h3
          exact res_cell1 ht hx' hb' (nth_den hy) h2 (resS_eq O hys)
         ·cases h
        ·cases h
       ·cases h
      ·cases h
     ·split at h
      ·rename_i ds hds
       obtain ⟨h1, h2⟩ := cutK_eq hds
       injection h2 with h2; subst h2
       split at h
       ·rename_i es hes
        obtain ⟨es', h3, h4⟩ := demK_eq hes
        injection h4 with h4; subst h4
        split at h
        ·rename_i fs hfs
         split at h
         ·rename_i ys' hys
          injection h with h; subst h
          refine res_celln (cs := denL es') ht hx' hb' (by rw [den_len]; exact h1) (by rw [cut_den, h3]) ?_ (resS_eq O hys)
          show TVal.agg ((denL es').map CVal.nz) = _
          rw [nzL_eq hfs]; rfl
         ·cases h
        ·cases h
       ·cases h
      ·cases h
    ·cases h
   ·cases h
  ·cases h
def packS : List ST → SV
 | [.c x] => .c x
 | [.agg l] => .agg l
 | l => .tup l
theorem packS_den (ys : List ST) : packT (ys.map ST.den) = (packS ys).den := by
 cases ys with
 | nil => rfl
 | cons y ys =>
  cases ys with
  | nil => cases y <;> rfl
  | cons z ys => cases y <;> rfl
theorem take_den (H : SH) (n : Nat) : (denH H).take n = denH (H.take n) := by simp [denH]
theorem X_ret (O : T.Ok P) {fn : Func} {r : SV} {H' : SH} {e : AExit} {rs : List ResultVar} {ys : List ST} (he : (match e with | .exit _ => False | _ => True)) (hr : fn.results.toList = rs) (hy : resV T l H rs = some ys) (hp : (packS ys).den = r.den) (hH : TkEq H H') : Ret P fn r.den (denH H') e (SS l H) :=
 ⟨he, ys.map ST.den, by rw [hr]; exact resS_eq O hy, by rw [packS_den]; exact hp, by rw [SS_H, denH_len, take_den]; exact hH.den⟩
def noArr : List SC → Bool
 | [] => true
 | .c (.arr ..) :: _ => false
 | _ :: l => noArr l
def fzS (H : SH) : List ST → (List ST → Prop → Option SX) → Option SX
 | [], k => k [] True
 | .c (.c (.arr b off len cap)) :: l, k => match nth H b with
  | some (some (.els z F V M d x)) => match Nat.beq off 0 with
   | true => fzS H l fun r p => k (.c (.row z F V d x) :: r) (((len = cap ∧ x.length = len) ∧ ∀ y, fzs ((F y).map CVal.f) = some (F y)) ∧ p)
   | false => none
  | _ => none
 | .c x :: l, k => fzS H l fun r p => k (.c x :: r) p
 | .agg ds :: l, k => match noArr ds with
  | true => fzS H l fun r p => k (.agg ds :: r) p
  | false => none
theorem fzs_app : ∀ (a b : List CVal) (x y : List FVal), fzs a = some x → fzs b = some y → fzs (a ++ b) = some (x ++ y)
 | [], b, x, y, h1, h2 => by injection h1 with h1; subst h1; exact h2
 | c :: a, b, x, y, h1, h2 => by
  unfold fzs at h1
  split at h1
  ·rename_i u us e1 e2
   injection h1 with h1; subst h1
   show fzs (c :: (a ++ b)) = _
   unfold fzs
   rw [e1, fzs_app a b us y e2 h2]
   rfl
  ·cases h1
theorem fzs_els {α : Type} {F : α → List FVal} (hF : ∀ y, fzs ((F y).map CVal.f) = some (F y)) : ∀ l : List α, fzs ((l.flatMap F).map CVal.f) = some (l.flatMap F)
 | [] => rfl
 | x :: l => by
  simp only [List.flatMap_cons, List.map_append]
  exact fzs_app _ _ _ _ (hF x) (fzs_els hF l)
theorem fzC_arr {H : HB} {b off len cap : Nat} {cells : List CVal} {fs : List FVal} (h1 : H[b]? = some (some cells)) (h2 : len = cap) (h3 : fzs (cells.drop off) = some fs) : fzC H (.arr b off len cap) = .f (.row fs len) := by
 simp only [fzC, h1, if_pos h2, h3]
theorem fzC_other {H : HB} {x : CVal} (h : ∀ b off len cap, x = .arr b off len cap → False) : fzC H x = x := by
 cases x <;> first | rfl | exact (h _ _ _ _ rfl).elim
theorem noArr_eq {H : HB} : ∀ {ds : List SC}, noArr ds = true → (denL ds).map (fzC H) = denL ds
 | [], _ => rfl
 | x :: l, h => by
  unfold noArr at h
  split at h
  ·rename_i h0; cases h0
  ·cases h
  ·rename_i x' l' hne h0
   injection h0 with e1 e2
   subst e1; subst e2
   have := noArr_eq (H := H) h
   simp only [denL, List.map_cons] at *
   rw [this, fzC_other]
   intro b off len cap e
   cases x with
   | c y => exact hne b off len cap (by rw [show y = _ from e])
   | _ => cases e
theorem fzS_eq {x : SX} : ∀ {ys : List ST} {k : List ST → Prop → Option SX}, fzS H ys k = some x → ∃ zs p, k zs p = some x ∧ (p → (ys.map ST.den).map (fzT (denH H)) = zs.map ST.den)
 | [], k, h => ⟨[], True, h, fun _ => rfl⟩
 | y :: ys, k, h => by
  unfold fzS at h
  split at h
  ·rename_i h0; cases h0
  ·rename_i b off len cap l' h0
   injection h0 with e1 e2; subst e1; subst e2
   split at h
   ·rename_i z F V M d x' hb
    split at h
    ·rename_i hoff
     have hoff := Nat.eq_of_beq_eq_true hoff
     subst hoff
     obtain ⟨zs, p, h1, h2⟩ := fzS_eq h
     refine ⟨_, _, h1, fun ⟨⟨⟨hp1, hp2⟩, hp3⟩, hp4⟩ => ?_⟩
     simp only [List.map_cons]
     rw [h2 hp4]
     congr 1
     show TVal.c (fzC (denH H) (.arr b 0 len cap)) = _
     rw [fzC_arr (nth_H hb) hp1 (by rw [List.drop_zero]; exact fzs_els hp3 x')]
     simp only [ST.den, SC.den, hp2]
    ·cases h
   ·cases h
  ·rename_i x' l' hne h0
   injection h0 with e1 e2; subst e1; subst e2
   obtain ⟨zs, p, h1, h2⟩ := fzS_eq h
   refine ⟨_, _, h1, fun hp => ?_⟩
   simp only [List.map_cons]
   rw [h2 hp]
   congr 1
   show TVal.c (fzC (denH H) x'.den) = _
   rw [fzC_other]
   ·rfl
   ·intro b off len cap e
    cases x' with
    | c y => exact hne b off len cap (by rw [show y = _ from e])
    | _ => cases e
  ·rename_i ds l' h0
   injection h0 with e1 e2; subst e1; subst e2
   split at h
   ·rename_i hn
    obtain ⟨zs, p, h1, h2⟩ := fzS_eq h
    refine ⟨_, _, h1, fun hp => ?_⟩
    simp only [List.map_cons]
    rw [h2 hp]
    congr 1
    show TVal.agg ((denL ds).map _) = _
    rw [noArr_eq hn]; rfl
   ·cases h
def fzR (T : Tb) (l : SL) (H : SH) (rs : List ResultVar) : Option SX :=
 match resV T l H rs with
 | some ys => fzS H ys fun zs p => some ⟨[], [(0, .v (packS zs))], [], .plain (fun _ => True), p⟩
 | none => none
theorem X_retP (O : T.Ok P) {fn : Func} {r : SV} {e : AExit} {rs : List ResultVar} {v : SV} {p : Prop} (he : (match e with | .exit _ => False | _ => True)) (hr : fn.results.toList = rs) (hy : fzR T l H rs = some ⟨[], [(0, .v v)], [], .plain (fun _ => True), p⟩) (hq : p) (hp : v.den = r.den) : RetP P fn r.den e (SS l H) := by
 unfold fzR at hy
 split at hy
 ·rename_i ys hys
  obtain ⟨zs, p', h1, h2⟩ := fzS_eq hy
  injection h1 with h1
  injection h1 with _ e1 _ _ e2
  injection e1 with e1 _
  injection e1 with _ e1
  injection e1 with e1
  subst e1; subst e2
  refine ⟨he, ys.map ST.den, by rw [hr]; exact resS_eq O hys, ?_⟩
  rw [SS_H, h2 hq, packS_den]
  exact hp
 ·cases hy
def sl0 : Nat → List SV → SL
 | _, [] => []
 | i, x :: l => (i, .v x) :: sl0 (i + 1) l
theorem sl0_eq : ∀ (args : List SV) (i : Nat), St.of (denH H) (arg0 i (args.map SV.den)) = SS (sl0 i args) H
 | [], i => rfl
 | x :: l, i => by
  show (St.of (denH H) (arg0 (i + 1) (l.map SV.den))).put (some i) x.den = _
  rw [sl0_eq l (i + 1)]
  rfl
def flatV : SV → Bool
 | .c (.c (.tip ..)) => false
 | .c (.tipr ..) => false
 | _ => true
theorem flatV_den {v : SV} (h : flatV v = true) : Flat v.den = true := by
 cases v with
 | c x => cases x with
  | c y => cases y <;> first | rfl | cases h
  | tipr => cases h
  | _ => rfl
 | agg l => rfl
 | tup l => rfl
theorem X_fn (hm : P.follows .mixedOrders = true) {f : FuncId} {fn : Func} {c : Code} {args : List SV} {H' : SH} {r : SV} (hf : P.funcs[f]? = some fn) (hb : fn.body = some c) (hn : (fn.name == "runtime.NumGoroutine") = false) (hca : args.length ≤ fn.ntmps) (hcode : codeOk fn.ntmps c = true)
  (hflat : flatV r = true) (hrok : okV H'.length r = true) (hlen : H.length ≤ H'.length) (hHok : okBl H'.length H' = true) {n0 : Nat} (h0 : H.length = n0) (h : W P (DR P) n0 c (SS (sl0 0 args) H) (Ret P fn r.den (denH H'))) : OkV P f args H r H' := by
 subst h0
 refine ok_fn hm hf hb hn (by simpa using hca) hcode (flatV_den hflat) (by rw [denH_len]; exact okV_den hrok) (by rw [denH_len, denH_len]; exact hlen) (by rw [denH_len]; exact okBl_den hHok) ?_
 rw [denH_len, sl0_eq]
 exact h
theorem X_fnP (hm : P.follows .mixedOrders = true) {f : FuncId} {fn : Func} {c : Code} {args : List SV} {r : SV} (hf : P.funcs[f]? = some fn) (hb : fn.body = some c) (hn : (fn.name == "runtime.NumGoroutine") = false) (hca : args.length ≤ fn.ntmps) (hcode : codeOk fn.ntmps c = true)
  (hflat : flatV r = true) (hrok : okV 0 r = true) (h : W P (DR P) 0 c (SS (sl0 0 args) []) (RetP P fn r.den)) : OkV P f args [] r [] := by
 refine okP_fn hm hf hb hn (by simpa using hca) hcode (flatV_den hflat) (okV_den hrok) ?_
 have := sl0_eq (H := []) args 0
 rw [show (denH [] : HB) = [] from rfl] at this
 rw [this]
 exact h
def CLe (x y : SC) : Prop := CVal.Le x.den y.den
theorem CLe.refl (x : SC) : CLe x x := CVal.Le.refl _
theorem CLe.any (x : SC) : CLe x (.c .any) := CVal.Le.any _
theorem CLe.nil_row : CLe (.c (.f .nils)) (.c (.f (.row [] 0))) := CVal.Le.nil_row
theorem CLe.nil_rowS {α : Type} {z : Nat} {F : α → List FVal} {V : α → List SC} {d : α} : CLe (.c (.f .nils)) (.row z F V d []) := CVal.Le.nil_row
theorem CLe.nil_tip {z : Nat} : CLe (.c (.f .nils)) (.c (.tip z [] 0)) := CVal.Le.nil_tip z
theorem CLe.nil_tipS {α : Type} {z : Nat} {F : α → List FVal} {V : α → List SC} {M : List FVal → Option α} {d : α} : CLe (.c (.f .nils)) (.tipr z F V M d []) := CVal.Le.nil_tip z
theorem CLe.tip {α : Type} {z n : Nat} {cs : List FVal} {F : α → List FVal} {V : α → List SC} {M : List FVal → Option α} {d : α} {l : List α} (h1 : cs = l.flatMap F) (h2 : n = l.length) : CLe (.c (.tip z cs n)) (.tipr z F V M d l) := by subst h1; subst h2; exact CVal.Le.refl _
theorem CLe.tip_row {α : Type} {z z' n : Nat} {cs : List FVal} {F : α → List FVal} {V : α → List SC} {d : α} {l : List α} (h1 : cs = l.flatMap F) (h2 : n = l.length) : CLe (.c (.tip z cs n)) (.row z' F V d l) := by subst h1; subst h2; exact CVal.Le.tip_row _ _ _
theorem CLe.row {α : Type} {z n : Nat} {cs : List FVal} {F : α → List FVal} {V : α → List SC} {d : α} {l : List α} (h1 : cs = l.flatMap F) (h2 : n = l.length) : CLe (.c (.f (.row cs n))) (.row z F V d l) := by subst h1; subst h2; exact CVal.Le.refl _
theorem CLe.tipr_row {α : Type} {z z' : Nat} {F : α → List FVal} {V V' : α → List SC} {M : List FVal → Option α} {d d' : α} {l l' : List α} (h : l = l') : CLe (.tipr z F V M d l) (.row z' F V' d' l') := by subst h; exact CVal.Le.tip_row _ _ _
theorem CLe.rows {α : Type} {z : Nat} {F : α → List FVal} {V : α → List SC} {d : α} {l l' : List α} (h : l = l') : CLe (.row z F V d l) (.row z F V d l') := by subst h; exact CVal.Le.refl _
theorem CLe.tips {α : Type} {z : Nat} {F : α → List FVal} {V : α → List SC} {M M' : List FVal → Option α} {d : α} {l l' : List α} (h : l = l') : CLe (.tipr z F V M d l) (.tipr z F V M' d l') := by subst h; exact CVal.Le.refl _
theorem CLe.int {k : IntKind} {a b : Int} (h : a = b) : CLe (.c (.f (.v (.int k a)))) (.c (.f (.v (.int k b)))) := by subst h; exact CVal.Le.refl _
theorem CLe.bool {a b : Bool} (h : a = b) : CLe (.c (.f (.v (.bool a)))) (.c (.f (.v (.bool b)))) := by subst h; exact CVal.Le.refl _
theorem CLe.str {a b : ByteArray} (h : a = b) : CLe (.c (.f (.v (.string a)))) (.c (.f (.v (.string b)))) := by subst h; exact CVal.Le.refl _
theorem CLe.arr {b off n n' m m' : Nat} (h : n = n') (h2 : m = m') : CLe (.c (.arr b off n m)) (.c (.arr b off n' m')) := by subst h; subst h2; exact CVal.Le.refl _
inductive SLe : List SC → List SC → Prop
 | nil : SLe [] []
 | cons {x y : SC} {l m : List SC} (h : CLe x y) (t : SLe l m) : SLe (x :: l) (y :: m)
theorem SLe.den {l m : List SC} (h : SLe l m) : LeL (denL l) (denL m) := by
 induction h with
 | nil => exact .nil
 | cons h t ih => exact .cons h ih
inductive HLe : SH → SH → Prop
 | nil (H : SH) : HLe H []
 | none {x : Option SB} {H G : SH} (t : HLe H G) : HLe (x :: H) (Option.none :: G)
 | cells {cs ds : List SC} {H G : SH} (h : SLe cs ds) (t : HLe H G) : HLe (some (.cells cs) :: H) (some (.cells ds) :: G)
 | els {α : Type} {z : Nat} {F : α → List FVal} {V : α → List SC} {M : List FVal → Option α} {d : α} {l l' : List α} {H G : SH} (h : l = l') (t : HLe H G) : HLe (some (.els z F V M d l) :: H) (some (.els z F V M d l') :: G)
 | open_ {α : Type} {z : Nat} {F : α → List FVal} {V : α → List SC} {M : List FVal → Option α} {d : α} {cs : List SC} {l' : List α} {H G : SH} (h : denL cs = (l'.flatMap F).map CVal.f) (t : HLe H G) : HLe (some (.cells cs) :: H) (some (.els z F V M d l') :: G)
theorem HLe.den {H G : SH} (h : HLe H G) : G.length ≤ H.length ∧ LeH ((denH H).take G.length) (denH G) := by
 induction h with
 | nil H => exact ⟨Nat.zero_le _, by simp [denH]; exact .nil⟩
 | none t ih => exact ⟨by simp; exact ih.1, by simp only [denH, List.map_cons, List.length_cons, List.take_succ_cons] at *; exact .none ih.2⟩
 | cells h t ih => exact ⟨by simp; exact ih.1, by simp only [denH, List.map_cons, List.length_cons, List.take_succ_cons] at *; exact .some h.den ih.2⟩
 | els h t ih => subst h; exact ⟨by simp; exact ih.1, by simp only [denH, List.map_cons, List.length_cons, List.take_succ_cons] at *; exact .some (LeL.refl _) ih.2⟩
 | open_ h t ih => exact ⟨by simp; exact ih.1, by simp only [denH, List.map_cons, List.length_cons, List.take_succ_cons] at *; exact .some (by rw [SB.den, h]; exact LeL.refl _) ih.2⟩
def ELe (x y : SE) : Prop := LeS x.den y.den
theorem ELe.refl (x : SE) : ELe x x := LeS.refl _
theorem LeS_of {x y : CVal} (h : CVal.Le x y) (hne : y ≠ .any) : LeS (.c x) (.c y) := by
 cases h with
 | refl => exact .refl _
 | any => exact absurd rfl hne
 | nil_row => exact .nil_row
 | nil_tip sz => exact .nil_tip sz
 | tip_row sz cs len => exact .tip_row sz cs len
def known : SC → Bool
 | .c .any => false
 | _ => true
theorem ELe.c {x y : SC} (hk : known y = true) (h : CLe x y) : ELe (.v (.c x)) (.v (.c y)) := LeS_of h (by
 cases y with
 | c y => intro e; have : y = .any := e; subst this; cases hk
 | _ => intro e; cases e)
def AgS (l : SL) : SL → Prop
 | [] => True
 | (d, x) :: r => (∃ e, lk l d = some e ∧ ELe e x) ∧ AgS l r
theorem AgS.den {l : SL} : ∀ {r : SL}, AgS l r → AgreeL (SS l H) (denE r)
 | [], _ => trivial
 | (d, x) :: r, h => ⟨by obtain ⟨e, h1, h2⟩ := h.1; exact ⟨_, lk_ev h1, h2⟩, AgS.den h.2⟩
def okE (n : Nat) : SL → Bool
 | [] => true
 | (_, .v x) :: l => match okV n x with
  | true => okE n l
  | false => false
 | (_, .g _ x) :: l => match okV n x with
  | true => okE n l
  | false => false
 | (_, .u) :: l => okE n l
theorem okE_den {n : Nat} : ∀ {l : SL}, okE n l = true → ((denE l).all fun p => p.2.ok n) = true
 | [], _ => rfl
 | (d, .v x) :: l, h => by
  unfold okE at h
  split at h
  ·rename_i h1
   simp only [denE, List.map_cons, List.all_cons, Bool.and_eq_true]
   exact ⟨okV_den h1, okE_den (l := l) h⟩
  ·cases h
 | (d, .g b x) :: l, h => by
  unfold okE at h
  split at h
  ·rename_i h1
   simp only [denE, List.map_cons, List.all_cons, Bool.and_eq_true]
   refine ⟨?_, okE_den (l := l) h⟩
   cases b
   ·rfl
   ·exact okV_den h1
  ·cases h
 | (d, .u) :: l, h => by
  simp only [denE, List.map_cons, List.all_cons, Bool.and_eq_true]
  exact ⟨rfl, okE_den (l := l) h⟩
def takeB : SH → Nat → Bool → SH
 | _, 0, _ => []
 | [], _, _ => []
 | x :: H, n + 1, b => x :: takeB H n b
theorem takeB_eq : ∀ (H : SH) (n : Nat) (b : Bool), takeB H n b = H.take n
 | _, 0, _ => by simp [takeB]
 | [], n + 1, _ => by simp [takeB]
 | x :: H, n + 1, b => by simp [takeB, takeB_eq H n b]
theorem X_weak {n0 : Nat} {l l' : SL} {H H' : SH} (h0 : Nat.ble n0 H'.length = true) (hg : okBl H'.length (takeB H H'.length true) = true) (hl : okE H'.length l' = true) (hH : HLe H H') (h : AgS l l') : Weak n0 (SS l H) (SS l' H') := by
 obtain ⟨h1, h2⟩ := hH.den
 refine weak_agG (SS_H l H) (by rw [denH_len]; exact Nat.le_of_ble_eq_true h0) (by rw [denH_len, denH_len]; exact h1) ?_ (by rw [denH_len]; exact okE_den hl) (by rw [denH_len]; exact h2) h.den
 rw [denH_len, take_den, ← takeB_eq H H'.length true]
 exact okBl_den hg
end
section
variable {P : Program} {ops : Array Oper} {rest : List Oper} {d : Option Tmp} {ty : TypeId} {pos : String} {af : Array Edge} {R : Rg} {D : Array Oper → St → (St → Prop) → Prop} {n0 : Nat} {H : SH} {l : SL} {K : AExit → St → Prop} {s : St}
theorem q_WR (h : WR P ops rest s R) : WR P ops rest s R := h
theorem q_call {c : Call} (h : WR P ops (⟨d, .call c, ty, pos, af, none⟩ :: rest) s R) : WR P ops (⟨d, .call c, ty, pos, af, none⟩ :: rest) s R := h
theorem q_callG {c : Call} {gd : Nat × Bool} (h : WR P ops (⟨d, .call c, ty, pos, af, some gd⟩ :: rest) s R) : WR P ops (⟨d, .call c, ty, pos, af, some gd⟩ :: rest) s R := h
theorem q_cond {c : Operand} {a b : Code} (h : W P D n0 (.cond c a b) s K) : W P D n0 (.cond c a b) s K := h
theorem q_ret {fn : Func} {r : AVal} {H' : HB} {e : AExit} (h : Ret P fn r H' e s) : Ret P fn r H' e s := h
theorem q_retP {fn : Func} {r : AVal} {e : AExit} (h : RetP P fn r e s) : RetP P fn r e s := h
theorem q_bt {b : Bool} (h : b = true) : b = true := h
theorem q_VOk {α : Type} {z : Nat} {F : α → List FVal} {V : α → List SC} (h : VOk z F V) : VOk z F V := h
theorem q_and {p q : Prop} (h1 : p) (h2 : q) : p ∧ q := ⟨h1, h2⟩
theorem q_eqN {a b : Nat} (h : a = b) : a = b := h
theorem q_AgS0 {l : SL} : AgS l [] := trivial
theorem q_AgS {d : Nat} {e x : SE} {l r : SL} (h : lk l d = some e) (h1 : ELe e x) (h2 : AgS l r) : AgS l ((d, x) :: r) := ⟨⟨e, h, h1⟩, h2⟩
end
theorem bq : (∀ (p : Prop) (i : Decidable p), (@decide p i = true) = p) ∧ (∀ (p : Prop) (i : Decidable p), (@decide p i = false) = ¬ p) ∧ (∀ a b : Bool, ((a && b) = true) = (a = true ∧ b = true)) ∧ (∀ a b : Bool, ((a || b) = true) = (a = true ∨ b = true)) ∧
  (∀ a b : Bool, ((a && b) = false) = (a = false ∨ b = false)) ∧ (∀ a b : Bool, ((a || b) = false) = (a = false ∧ b = false)) ∧ (∀ a : Bool, ((!a) = true) = (a = false)) ∧ (∀ a : Bool, ((!a) = false) = (a = true)) ∧ (∀ p : Prop, (¬ ¬ p) = p) ∧ ((true = true) = True) ∧ ((false = true) = False) ∧ ((true = false) = False) ∧ ((false = false) = True) ∧
  ((¬ True) = False) ∧ ((¬ False) = True) ∧ (∀ p : Prop, (p ∧ True) = p) ∧ (∀ p : Prop, (True ∧ p) = p) ∧ (∀ p : Prop, (p ∧ False) = False) ∧ (∀ p : Prop, (False ∧ p) = False) ∧ (∀ p : Prop, (p ∨ True) = True) ∧ (∀ p : Prop, (True ∨ p) = True) ∧ (∀ p : Prop, (p ∨ False) = p) ∧ (∀ p : Prop, (False ∨ p) = p) :=
 ⟨fun _ _ => by simp, fun _ _ => by simp, fun _ _ => by simp, fun _ _ => by simp, fun a b => by cases a <;> cases b <;> simp, fun _ _ => by simp, fun _ => by simp, fun _ => by simp, fun _ => by simp, by simp, by simp, by simp, by simp, by simp, by simp, fun _ => by simp, fun _ => by simp, fun _ => by simp, fun _ => by simp, fun _ => by simp, fun _ => by simp, fun _ => by simp, fun _ => by simp⟩
def CI (t b : Bool) (q : Prop) : Prop := t = b → q
def CRB (ops : Array Oper) (a : List Cl) : Prop := critB ops a.reverse = true
theorem q_CRB {ops : Array Oper} {a : List Cl} (h : critB ops a.reverse = true) : CRB ops a := h
section
variable {P : Program} {T : Tb} {E : El} {n0 : Nat}
def Rg.K : Rg → St → Prop
 | .plain K => K
 | .drawn _ K => K
 | .seq _ _ => fun _ => True
def unG (o : Oper) : Bool :=
 match o.guard with
 | none => true
 | some _ => false
theorem unG_eq {o : Oper} (h : unG o = true) : o.guard = none := by
 unfold unG at h
 split at h
 ·assumption
 ·cases h
def wOps (P : Program) (T : Tb) (E : El) (ops : Array Oper) : List Oper → SL → SH → Rg → (SL → SH → Option Prop) → Option Prop
 | [], l, H, R, k => match R with
  | .plain _ => k l H
  | .drawn a _ => match k l H with
   | some q => some (CRB ops a ∧ q)
   | none => none
  | .seq a K => some (K a (SS l H))
 | o :: os, l, H, R, k => match step T E ops l H o with
  | some ⟨l', H', cl, p⟩ => match R with
   | .plain K => match wOps P T E ops os l' H' (.plain K) k with
    | some q => some (p ∧ q)
    | none => none
   | .drawn a K => match wOps P T E ops os l' H' (.drawn (cl :: a) K) k with
    | some q => some (p ∧ q)
    | none => none
   | .seq a K => match unG o with
    | true => match wOps P T E ops os l' H' (.seq (cl :: a) K) k with
     | some q => some (p ∧ q)
     | none => none
    | false => none
  | none => some (WR P ops (o :: os) (SS l H) R)
theorem wOps_ok (O : T.Ok P) (hE : E.Ok P) {ops : Array Oper} {q : Prop} : ∀ {rest : List Oper} {l : SL} {H : SH} {R : Rg} {k : SL → SH → Option Prop}, wOps P T E ops rest l H R k = some q → q → (∀ l H q, k l H = some q → q → R.K (SS l H)) → WR P ops rest (SS l H) R
 | [], l, H, R, k, h, hq, hk => by
  unfold wOps at h
  split at h
  ·exact WR_nil (hk l H _ h hq)
  ·split at h
   ·rename_i q0 h0
    injection h with h; subst h
    exact WR_nilD hq.1 (hk l H _ h0 hq.2)
   ·cases h
  ·injection h with h; subst h
   exact WR_nilS hq
 | o :: os, l, H, R, k, h, hq, hk => by
  unfold wOps at h
  split at h
  ·rename_i l' H' cl p hs
   split at h
   ·split at h
    ·rename_i q0 h0
     injection h with h; subst h
     exact step_ok O hE hs (.inr rfl) hq.1 (wOps_ok O hE h0 hq.2 hk)
    ·cases h
   ·split at h
    ·rename_i q0 h0
     injection h with h; subst h
     exact step_ok O hE hs (.inr rfl) hq.1 (wOps_ok O hE h0 hq.2 hk)
    ·cases h
   ·split at h
    ·rename_i hg
     split at h
     ·rename_i q0 h0
      injection h with h; subst h
      exact step_ok O hE hs (.inl (unG_eq hg)) hq.1 (wOps_ok O hE h0 hq.2 fun _ _ _ _ _ => trivial)
     ·cases h
    ·cases h
  ·injection h with h; subst h
   exact hq
def wSeq (k1 : SL → SH → Option Prop) (kev : AExit → SL → SH → Option Prop) : AExit → SL → SH → Option Prop
 | .normal, l, H => k1 l H
 | .exit i, l, H => kev (.exit i) l H
 | .ret, l, H => kev .ret l H
def wBlock (id : Nat) (kev : AExit → SL → SH → Option Prop) : AExit → SL → SH → Option Prop
 | .normal, l, H => kev .normal l H
 | .exit j, l, H => match Nat.beq j id with
  | true => kev .normal l H
  | false => kev (.exit j) l H
 | .ret, l, H => kev .ret l H
def isMk (o : Oper) : Bool :=
 match o.op with
 | .alloc .. => true
 | .box .. => true
 | .makeSlice .. => true
 | _ => false
def oneMk : List Oper → Bool
 | [] => false
 | o :: l => match isMk o with
  | true => true
  | false => oneMk l
def twoMk : List Oper → Bool
 | [] => false
 | o :: l => match isMk o with
  | true => oneMk l
  | false => twoMk l
def wC (P : Program) (T : Tb) (E : El) (n0 : Nat) : Code → SL → SH → (AExit → St → Prop) → (AExit → SL → SH → Option Prop) → Option Prop
 | .skip, l, H, K, kev => kev .normal l H
 | .region _ ops false, l, H, K, kev => wOps P T E ops ops.toList l H (.plain (K .normal)) (kev .normal)
 | .region id ops true, l, H, K, kev => match twoMk ops.toList with
  | true => some (W P (DR P) n0 (.region id ops true) (SS l H) K)
  | false => wOps P T E ops ops.toList l H (.drawn [] (K .normal)) (kev .normal)
 | .seq a b, l, H, K, kev => wC P T E n0 a l H (seqK P (DR P) n0 b K) (wSeq (fun l H => wC P T E n0 b l H K kev) kev)
 | .cond c a b, l, H, K, kev => match evU l c with
  | some (.c (.c (.f (.v (.bool t))))) => match wC P T E n0 a l H K kev with
   | some qa => match wC P T E n0 b l H K kev with
    | some qb => some (CI t true qa ∧ CI t false qb)
    | none => none
   | none => none
  | _ => none
 | .block id c, l, H, K, kev => wC P T E n0 c l H (blockK id K) (wBlock id kev)
 | .loop c, l, H, K, kev => some (W P (DR P) n0 (.loop c) (SS l H) K)
 | .exit id, l, H, K, kev => kev (.exit id) l H
 | .ret, l, H, K, kev => kev .ret l H
 | _, _, _, _, _ => none
theorem wC_ok (O : T.Ok P) (hE : E.Ok P) {q : Prop} : ∀ (c : Code) {q : Prop} {l : SL} {H : SH} {K : AExit → St → Prop} {kev : AExit → SL → SH → Option Prop}, wC P T E n0 c l H K kev = some q → q → (∀ e l H q, kev e l H = some q → q → K e (SS l H)) → W P (DR P) n0 c (SS l H) K
 | .skip, q, l, H, K, kev, h, hq, hk => W_skip (hk _ _ _ _ h hq)
 | .region _ ⟨ops⟩ false, q, l, H, K, kev, h, hq, hk => W_region (WOps_WR (wOps_ok O hE h hq (fun l H q h1 h2 => hk _ _ _ _ h1 h2)))
 | .region _ ⟨ops⟩ true, q, l, H, K, kev, h, hq, hk => by
  unfold wC at h
  split at h
  ·injection h with h; subst h
   exact hq
  ·exact W_draw (WOpsD_WR (wOps_ok O hE h hq (fun l H q h1 h2 => hk _ _ _ _ h1 h2)))
 | .seq a b, q, l, H, K, kev, h, hq, hk => W_seq (wC_ok O hE (q := q) a h hq (fun e l H q h1 h2 => by
   cases e with
   | normal => exact seqK_n (wC_ok O hE (q := q) b h1 h2 hk)
   | exit i => exact seqK_e (hk _ _ _ _ h1 h2)
   | ret => exact seqK_r (hk _ _ _ _ h1 h2)))
 | .cond c a b, q, l, H, K, kev, h, hq, hk => by
  unfold wC at h
  split at h
  ·rename_i t ht
   split at h
   ·rename_i qa ha
    split at h
    ·rename_i qb hb
     injection h with h; subst h
     exact X_cond ht (fun e => wC_ok O hE (q := qa) a ha (hq.1 e) hk) (fun e => wC_ok O hE (q := qb) b hb (hq.2 e) hk)
    ·cases h
   ·cases h
  ·cases h
 | .block id c, q, l, H, K, kev, h, hq, hk => W_block (wC_ok O hE (q := q) c h hq (fun e l H q h1 h2 => by
   cases e with
   | normal => exact blockK_n (hk _ _ _ _ h1 h2)
   | exit j =>
    unfold wBlock at h1
    simp only at h1
    split at h1
    ·rename_i hj
     exact blockK_e (Nat.eq_of_beq_eq_true hj) (hk _ _ _ _ h1 h2)
    ·rename_i hj
     exact blockK_o (fun e => by subst e; rw [Nat.beq_refl] at hj; cases hj) (hk _ _ _ _ h1 h2)
   | ret => exact blockK_r (hk _ _ _ _ h1 h2)))
 | .loop c, q, l, H, K, kev, h, hq, hk => by
  unfold wC at h
  injection h with h; subst h
  exact hq
 | .exit id, q, l, H, K, kev, h, hq, hk => W_exit (hk _ _ _ _ h hq)
 | .ret, q, l, H, K, kev, h, hq, hk => W_ret (hk _ _ _ _ h hq)
 | .rangeFunc .., q, l, H, K, kev, h, hq, hk => by unfold wC at h; cases h
 | .scope .., q, l, H, K, kev, h, hq, hk => by unfold wC at h; cases h
 | .label .., q, l, H, K, kev, h, hq, hk => by unfold wC at h; cases h
 | .goto .., q, l, H, K, kev, h, hq, hk => by unfold wC at h; cases h
 | .refuse .., q, l, H, K, kev, h, hq, hk => by unfold wC at h; cases h
def leaf (K : AExit → St → Prop) (e : AExit) (l : SL) (H : SH) : Option Prop := some (K e (SS l H))
def leafR (K : St → Prop) (l : SL) (H : SH) : Option Prop := some (K (SS l H))
def notLoop : Code → Bool
 | .loop _ => false
 | .region _ ops true => match twoMk ops.toList with
  | true => false
  | false => true
 | _ => true
theorem wC_go (O : T.Ok P) (hE : E.Ok P) {c : Code} {l : SL} {H : SH} {K : AExit → St → Prop} {q : Prop} (hn : notLoop c = true) (h : wC P T E n0 c l H K (leaf K) = some q) (hq : q) : W P (DR P) n0 c (SS l H) K :=
 wC_ok O hE (q := q) c h hq (fun e l H q h1 h2 => by injection h1 with h1; subst h1; exact h2)
def notCall (ops : Array Oper) (T : Tb) (E : El) (l : SL) (H : SH) : List Oper → Bool
 | [] => true
 | o :: _ => match step T E ops l H o with
  | some _ => true
  | none => false
end
inductive Red : Prop → Prop → Prop where
 | sn {P : Program} {D : Array Oper → St → (St → Prop) → Prop} {n0 : Nat} {b : Code} {K : AExit → St → Prop} {s : St} : Red (seqK P D n0 b K .normal s) (W P D n0 b s K)
 | sr {P : Program} {D : Array Oper → St → (St → Prop) → Prop} {n0 : Nat} {b : Code} {K : AExit → St → Prop} {s : St} : Red (seqK P D n0 b K .ret s) (K .ret s)
 | se {P : Program} {D : Array Oper → St → (St → Prop) → Prop} {n0 : Nat} {b : Code} {K : AExit → St → Prop} {s : St} {i : Nat} : Red (seqK P D n0 b K (.exit i) s) (K (.exit i) s)
 | bn {id : Nat} {K : AExit → St → Prop} {s : St} : Red (blockK id K .normal s) (K .normal s)
 | br {id : Nat} {K : AExit → St → Prop} {s : St} : Red (blockK id K .ret s) (K .ret s)
 | be {id : Nat} {K : AExit → St → Prop} {s : St} : Red (blockK id K (.exit id) s) (K .normal s)
 | le {n0 : Nat} {α : Type} {st : α → St} {Inv : α → Prop} {μ : α → Nat} {x : α} {K : AExit → St → Prop} {s : St} {i : Nat} : Red (LoopK n0 st Inv μ x K (.exit i) s) (K (.exit i) s)
 | lr {n0 : Nat} {α : Type} {st : α → St} {Inv : α → Prop} {μ : α → Nat} {x : α} {K : AExit → St → Prop} {s : St} : Red (LoopK n0 st Inv μ x K .ret s) (K .ret s)
 | xr {n0 : Nat} {α β : Type} {st : α → St} {Inv : α → Prop} {μ : α → Nat} {x : α} {id : Nat} {stX : β → St} {InvX : β → Prop} {K : AExit → St → Prop} {s : St} : Red (LoopX n0 st Inv μ x id stX InvX K .ret s) (K .ret s)
 | pp {P : Program} {ops : Array Oper} {l : List Oper} {s : St} {c : Cl} {K : St → Prop} : Red (WR P ops l s ((Rg.plain K).push c)) (WR P ops l s (.plain K))
 | pd {P : Program} {ops : Array Oper} {l : List Oper} {s : St} {c : Cl} {a : List Cl} {K : St → Prop} : Red (WR P ops l s ((Rg.drawn a K).push c)) (WR P ops l s (.drawn (c :: a) K))
 | ps {P : Program} {ops : Array Oper} {l : List Oper} {s : St} {c : Cl} {a : List Cl} {K : List Cl → St → Prop} : Red (WR P ops l s ((Rg.seq a K).push c)) (WR P ops l s (.seq (c :: a) K))
 | kp {K : St → Prop} {s : St} : Red ((Rg.plain K).K s) (K s)
 | kd {a : List Cl} {K : St → Prop} {s : St} : Red ((Rg.drawn a K).K s) (K s)
theorem Red.o {A B : Prop} (h : Red A B) (b : B) : A := by
 cases h with
 | sn => exact seqK_n b
 | sr => exact seqK_r b
 | se => exact seqK_e b
 | bn => exact blockK_n b
 | br => exact blockK_r b
 | be => exact blockK_e rfl b
 | le => exact LoopK_e b
 | lr => exact LoopK_r b
 | xr => exact LoopX_r b
 | pp => exact WR_pp b
 | pd => exact WR_pd b
 | ps => exact WR_ps b
 | kp => exact b
 | kd => exact b
section
variable {P : Program} {D : Array Oper → St → (St → Prop) → Prop} {n0 : Nat} {c : Code} {s : St} {K : AExit → St → Prop} {t b : Bool} {q : Prop}
theorem q_W (h : W P D n0 c s K) : W P D n0 c s K := h
theorem q_CI (h : CI t b q) : CI t b q := h
theorem blockK_o' {id j : Nat} {K : AExit → St → Prop} (e : Nat.beq j id = false) (h : K (.exit j) s) : blockK id K (.exit j) s := blockK_o (fun x => by subst x; rw [Nat.beq_refl] at e; cases e) h
end
def wR1 (P : Program) (T : Tb) (E : El) (ops : Array Oper) (rest : List Oper) (l : SL) (H : SH) (R : Rg) : Option Prop :=
 match rest with
 | [] => wOps P T E ops [] l H R (leafR R.K)
 | o :: os => match step T E ops l H o with
  | some _ => wOps P T E ops (o :: os) l H R (leafR R.K)
  | none => none
theorem wR1_go {P : Program} {T : Tb} {E : El} (O : T.Ok P) (hE : E.Ok P) {ops : Array Oper} {rest : List Oper} {l : SL} {H : SH} {R : Rg} {q : Prop} (h : wR1 P T E ops rest l H R = some q) (hq : q) : WR P ops rest (SS l H) R := by
 have h2 : wOps P T E ops rest l H R (leafR R.K) = some q := by
  unfold wR1 at h
  split at h
  ·exact h
  ·split at h
   ·exact h
   ·cases h
 exact wOps_ok O hE h2 hq (fun l H q h1 h2 => by injection h1 with h1; subst h1; exact h2)
def wC1 (P : Program) (T : Tb) (E : El) (n0 : Nat) (c : Code) (l : SL) (H : SH) (K : AExit → St → Prop) : Option Prop :=
 match notLoop c with
 | true => wC P T E n0 c l H K (leaf K)
 | false => none
theorem wC1_go {P : Program} {T : Tb} {E : El} {n0 : Nat} (O : T.Ok P) (hE : E.Ok P) {c : Code} {l : SL} {H : SH} {K : AExit → St → Prop} {q : Prop} (h : wC1 P T E n0 c l H K = some q) (hq : q) : W P (DR P) n0 c (SS l H) K := by
 unfold wC1 at h
 split at h
 ·rename_i hn; exact wC_go O hE hn h hq
 ·cases h
def resE (T : Tb) (l : SL) (H : SH) (rs : List ResultVar) (e : AExit) : Option (List ST) :=
 match e with
 | .exit _ => none
 | _ => resV T l H rs
theorem resE_eq {T : Tb} {l : SL} {H : SH} {rs : List ResultVar} {e : AExit} {ys : List ST} (h : resE T l H rs e = some ys) : resV T l H rs = some ys ∧ (e = .normal ∨ e = .ret) := by
 cases e with
 | normal => exact ⟨h, .inl rfl⟩
 | ret => exact ⟨h, .inr rfl⟩
 | exit i => cases h
def fzE (T : Tb) (l : SL) (H : SH) (rs : List ResultVar) (e : AExit) : Option SX :=
 match e with
 | .exit _ => none
 | _ => fzR T l H rs
theorem fzE_eq {T : Tb} {l : SL} {H : SH} {rs : List ResultVar} {e : AExit} {x : SX} (h : fzE T l H rs e = some x) : fzR T l H rs = some x ∧ (e = .normal ∨ e = .ret) := by
 cases e with
 | normal => exact ⟨h, .inl rfl⟩
 | ret => exact ⟨h, .inr rfl⟩
 | exit i => cases h
inductive Wk : Prop → Prop → Prop where
 | a0 {l : SL} : Wk (AgS l []) True
 | hn {H : SH} : Wk (HLe H []) True
 | ho {x : Option SB} {H G : SH} : Wk (HLe (x :: H) (none :: G)) (HLe H G)
 | hc {cs ds : List SC} {H G : SH} : Wk (HLe (some (.cells cs) :: H) (some (.cells ds) :: G)) (SLe cs ds ∧ HLe H G)
 | he {α : Type} {z : Nat} {F : α → List FVal} {V : α → List SC} {M : List FVal → Option α} {d : α} {l l' : List α} {H G : SH} : Wk (HLe (some (.els z F V M d l) :: H) (some (.els z F V M d l') :: G)) (l = l' ∧ HLe H G)
 | sn : Wk (SLe [] []) True
 | sc {x y : SC} {l m : List SC} : Wk (SLe (x :: l) (y :: m)) (CLe x y ∧ SLe l m)
 | er {x : SE} : Wk (ELe x x) True
 | ec {x y : SC} : Wk (ELe (.v (.c x)) (.v (.c y))) (known y = true ∧ CLe x y)
 | lr {x : SC} : Wk (CLe x x) True
 | la {x : SC} : Wk (CLe x (.c .any)) True
 | ln : Wk (CLe (.c (.f .nils)) (.c (.f (.row [] 0)))) True
 | lns {α : Type} {z : Nat} {F : α → List FVal} {V : α → List SC} {d : α} : Wk (CLe (.c (.f .nils)) (.row z F V d [])) True
 | lnt {z : Nat} : Wk (CLe (.c (.f .nils)) (.c (.tip z [] 0))) True
 | lnts {α : Type} {z : Nat} {F : α → List FVal} {V : α → List SC} {M : List FVal → Option α} {d : α} : Wk (CLe (.c (.f .nils)) (.tipr z F V M d [])) True
 | lt {α : Type} {z n : Nat} {cs : List FVal} {F : α → List FVal} {V : α → List SC} {M : List FVal → Option α} {d : α} {l : List α} : Wk (CLe (.c (.tip z cs n)) (.tipr z F V M d l)) (cs = l.flatMap F ∧ n = l.length)
 | ltr {α : Type} {z z' n : Nat} {cs : List FVal} {F : α → List FVal} {V : α → List SC} {d : α} {l : List α} : Wk (CLe (.c (.tip z cs n)) (.row z' F V d l)) (cs = l.flatMap F ∧ n = l.length)
 | lrow {α : Type} {z n : Nat} {cs : List FVal} {F : α → List FVal} {V : α → List SC} {d : α} {l : List α} : Wk (CLe (.c (.f (.row cs n))) (.row z F V d l)) (cs = l.flatMap F ∧ n = l.length)
 | ltro {α : Type} {z z' : Nat} {F : α → List FVal} {V V' : α → List SC} {M : List FVal → Option α} {d d' : α} {l l' : List α} : Wk (CLe (.tipr z F V M d l) (.row z' F V' d' l')) (l = l')
 | lrows {α : Type} {z : Nat} {F : α → List FVal} {V : α → List SC} {d : α} {l l' : List α} : Wk (CLe (.row z F V d l) (.row z F V d l')) (l = l')
 | ltips {α : Type} {z : Nat} {F : α → List FVal} {V : α → List SC} {M M' : List FVal → Option α} {d : α} {l l' : List α} : Wk (CLe (.tipr z F V M d l) (.tipr z F V M' d l')) (l = l')
 | li {k : IntKind} {a b : Int} : Wk (CLe (.c (.f (.v (.int k a)))) (.c (.f (.v (.int k b))))) (a = b)
 | lb {a b : Bool} : Wk (CLe (.c (.f (.v (.bool a)))) (.c (.f (.v (.bool b))))) (a = b)
 | ls {a b : ByteArray} : Wk (CLe (.c (.f (.v (.string a)))) (.c (.f (.v (.string b))))) (a = b)
 | larr {b off n n' m m' : Nat} : Wk (CLe (.c (.arr b off n m)) (.c (.arr b off n' m'))) (n = n' ∧ m = m')
 | tn {H : SH} : Wk (TkEq H []) True
 | tno {H G : SH} : Wk (TkEq (none :: H) (none :: G)) (TkEq H G)
 | tc {cs ds : List SC} {H G : SH} : Wk (TkEq (some (.cells cs) :: H) (some (.cells ds) :: G)) (SEqL cs ds ∧ TkEq H G)
 | te {α : Type} {z : Nat} {F : α → List FVal} {V : α → List SC} {M : List FVal → Option α} {d : α} {l l' : List α} {H G : SH} : Wk (TkEq (some (.els z F V M d l) :: H) (some (.els z F V M d l') :: G)) (l = l' ∧ TkEq H G)
 | qn : Wk (SEqL [] []) True
 | qc {x y : SC} {l m : List SC} : Wk (SEqL (x :: l) (y :: m)) (CEq x y ∧ SEqL l m)
 | pn : Wk (TEqL [] []) True
 | pc {x y : SC} {l m : List ST} : Wk (TEqL (.c x :: l) (.c y :: m)) (CEq x y ∧ TEqL l m)
 | pa {x y : List SC} {l m : List ST} : Wk (TEqL (.agg x :: l) (.agg y :: m)) (SEqL x y ∧ TEqL l m)
 | cr {x : SC} : Wk (CEq x x) True
 | ci {k : IntKind} {a b : Int} : Wk (CEq (.c (.f (.v (.int k a)))) (.c (.f (.v (.int k b))))) (a = b)
 | cb {a b : Bool} : Wk (CEq (.c (.f (.v (.bool a)))) (.c (.f (.v (.bool b))))) (a = b)
 | cs {a b : ByteArray} : Wk (CEq (.c (.f (.v (.string a)))) (.c (.f (.v (.string b))))) (a = b)
 | crows {α : Type} {z : Nat} {F : α → List FVal} {V : α → List SC} {d : α} {l l' : List α} : Wk (CEq (.row z F V d l) (.row z F V d l')) (l = l')
 | crow {α : Type} {z n : Nat} {cs : List FVal} {F : α → List FVal} {V : α → List SC} {d : α} {l : List α} : Wk (CEq (.c (.f (.row cs n))) (.row z F V d l)) (cs = l.flatMap F ∧ n = l.length)
 | ctips {α : Type} {z : Nat} {F : α → List FVal} {V : α → List SC} {M M' : List FVal → Option α} {d : α} {l l' : List α} : Wk (CEq (.tipr z F V M d l) (.tipr z F V M' d l')) (l = l')
 | ctip {α : Type} {z n : Nat} {cs : List FVal} {F : α → List FVal} {V : α → List SC} {M : List FVal → Option α} {d : α} {l : List α} : Wk (CEq (.c (.tip z cs n)) (.tipr z F V M d l)) (cs = l.flatMap F ∧ n = l.length)
 | craw {cs cs' : List FVal} {n n' : Nat} : Wk (CEq (.c (.f (.row cs n))) (.c (.f (.row cs' n')))) (cs = cs' ∧ n = n')
 | carr {b off n n' m m' : Nat} : Wk (CEq (.c (.arr b off n m)) (.c (.arr b off n' m'))) (n = n' ∧ m = m')
theorem Wk.o {A B : Prop} (h : Wk A B) (b : B) : A := by
 cases h with
 | a0 => trivial
 | hn => exact .nil _
 | ho => exact .none b
 | hc => exact .cells b.1 b.2
 | he => exact .els b.1 b.2
 | sn => exact .nil
 | sc => exact .cons b.1 b.2
 | er => exact ELe.refl _
 | ec => exact ELe.c b.1 b.2
 | lr => exact CLe.refl _
 | la => exact CLe.any _
 | ln => exact CLe.nil_row
 | lns => exact CLe.nil_rowS
 | lnt => exact CLe.nil_tip
 | lnts => exact CLe.nil_tipS
 | lt => exact CLe.tip b.1 b.2
 | ltr => exact CLe.tip_row b.1 b.2
 | lrow => exact CLe.row b.1 b.2
 | ltro => exact CLe.tipr_row b
 | lrows => exact CLe.rows b
 | ltips => exact CLe.tips b
 | li => exact CLe.int b
 | lb => exact CLe.bool b
 | ls => exact CLe.str b
 | larr => exact CLe.arr b.1 b.2
 | tn => exact .nil _
 | tno => exact .none b
 | tc => exact .cells b.1 b.2
 | te => exact .els b.1 b.2
 | qn => exact .nil
 | qc => exact .cons b.1 b.2
 | pn => exact .nil
 | pc => exact .c b.1 b.2
 | pa => exact .agg b.1 b.2
 | cr => exact CEq.refl _
 | ci => exact CEq.int b
 | cb => exact CEq.bool b
 | cs => exact CEq.str b
 | crows => exact CEq.rows b
 | crow => exact CEq.row b.1 b.2
 | ctips => exact CEq.tips b
 | ctip => exact CEq.tip b.1 b.2
 | craw => exact CEq.raw b.1 b.2
 | carr => exact CEq.arr b.1 b.2
section
variable {P : Program} {ops : Array Oper} {s : St}
def opsAt (ops : Array Oper) (l : List Nat) : List Oper := l.map fun i => ops.toList.getD i default
def pickL (os : List Oper) : List Nat → Option (List Oper)
 | [] => some []
 | i :: l => match nth0 os i with
  | some o => match pickL os l with
   | some r => some (o :: r)
   | none => none
  | none => none
theorem pickL_eq {os : List Oper} : ∀ {l : List Nat} {r : List Oper}, pickL os l = some r → r = opsAt os.toArray l
 | [], r, h => by injection h with h; subst h; rfl
 | i :: l, r, h => by
  unfold pickL at h
  split at h
  ·rename_i o ho
   split at h
   ·rename_i r' hr
    injection h with h; subst h
    rw [pickL_eq hr]
    rw [nth0_get] at ho
    simp [opsAt, List.getD_eq_getElem?_getD, ho]
   ·cases h
  ·cases h
theorem WOpsX_run {K : List Cl → St → Prop} : ∀ (l : List Nat) (s : St) (acc : List Cl), (∀ i ∈ l, i < ops.size) → WOpsX P ops (opsAt ops l) s acc K → ∃ (cl : List Cl) (s' : St), cl.length = l.length ∧ K (cl.reverse ++ acc) s' ∧ Run P ops (l.zip cl) s s'
 | [], s, acc, _, h => ⟨[], s, rfl, h, rfl⟩
 | i :: l, s, acc, hi, h => by
  obtain ⟨c, s1, h1, h2⟩ := WOp_ex h
  obtain ⟨cl, s', e1, e2, e3⟩ := WOpsX_run l s1 (c :: acc) (fun j hj => hi j (List.mem_cons_of_mem _ hj)) h2
  refine ⟨c :: cl, s', by simp [e1], by simpa using e2, _, s1, ?_, h1, e3⟩
  have hlt := hi i (List.mem_cons_self ..)
  show ops[i]? = some (ops.toList.getD i default)
  rw [List.getD_eq_getElem?_getD, Array.getElem?_toList, Array.getElem?_eq_getElem hlt]
  rfl
def pairsB (ops : Array Oper) : List (Nat × Cl) → Bool
 | [] => true
 | p :: r => r.all (rel ops p) && pairsB ops r
theorem pairsB_eq : ∀ {l : List (Nat × Cl)}, pairsB ops l = true → l.Pairwise fun p q => rel ops p q = true
 | [], _ => .nil
 | p :: r, h => by
  unfold pairsB at h
  rw [Bool.and_eq_true] at h
  exact .cons (List.all_eq_true.1 h.1) (pairsB_eq h.2)
def twoB (ops : Array Oper) (pre : List Nat) (A B : Nat) (suf : List Nat) (cp c1 c2 : List Cl) : Bool :=
 match c1, c2 with
 | cA :: cB :: r1, cB' :: cA' :: r2 => pairsB ops (pre.zip cp ++ (B, cB) :: suf.zip r1) && pairsB ops (pre.zip cp ++ (A, cA') :: suf.zip r2) && (pre.zip cp).all (fun p => rel ops p (A, cA)) && (pre.zip cp).all (fun p => rel ops p (B, cB'))
 | _, _ => false
def splitB (ops : Array Oper) (pre : List Nat) (A B : Nat) (suf : List Nat) : Bool :=
 edgesB ops && (pre ++ A :: B :: suf).all (fun i => decide (i < ops.size)) && (List.range ops.size).all (fun i => (pre ++ A :: B :: suf).contains i) && decide (pre ++ A :: B :: suf).Nodup && suf.all (fun i => needs ops i A B)
def TB (b : Bool) : Prop := b = true
theorem q_TB {b : Bool} (h : b = true) : TB b := h
def LB (n : Nat) (s : St) : Prop := n + 1 < s.H.length
def RK (K : St → Prop) (n : Nat) (s : St) : Prop := K (s.rn n)
theorem q_LB {n : Nat} {s : St} (h : LB n s) : LB n s := h
theorem q_RK {K : St → Prop} {n : Nat} {s : St} (h : RK K n s) : RK K n s := h
theorem zip_map_fst {α β : Type _} : ∀ (l : List α) (m : List β), l.length = m.length → (l.zip m).map Prod.fst = l
 | [], _, _ => rfl
 | a :: l, [], h => by cases h
 | a :: l, b :: m, h => by simp only [List.zip_cons_cons, List.map_cons, zip_map_fst l m (by simpa using h)]
theorem W_two {n0 : Nat} {id : Nat} {K : AExit → St → Prop} (pre : List Nat) (A B : Nat) (suf : List Nat) (n : Nat) {l : SL} {H : SH} {os o1 o2 o3 : List Oper} (hs : splitB os.toArray pre A B suf = true) (hn : Nat.ble H.length n = true) (p1 : pickL os pre = some o1) (p2 : pickL os (A :: B :: suf) = some o2) (p3 : pickL os (B :: A :: suf) = some o3)
  (h : WR P os.toArray o1 (SS l H) (.seq [] fun cp sp => WR P os.toArray o2 sp (.seq [] fun c1 sE => K .normal sE ∧ WR P os.toArray o3 sp (.seq [] fun c2 sE2 => TB (twoB os.toArray pre A B suf cp.reverse c1.reverse c2.reverse) ∧ LB n sE2 ∧ RK (K .normal) n sE2)))) : W P (DR P) n0 (.region id os.toArray true) (SS l H) K := by
 rw [pickL_eq p1, pickL_eq p2, pickL_eq p3] at h
 refine .inr ?_
 simp only [splitB, Bool.and_eq_true, List.all_eq_true, decide_eq_true_eq] at hs
 obtain ⟨⟨⟨⟨he, hm1⟩, hm2⟩, hnd⟩, hdep⟩ := hs
 have i1 : ∀ i ∈ pre, i < os.toArray.size := fun i hi => hm1 i (by simp [hi])
 have i2 : ∀ i ∈ A :: B :: suf, i < os.toArray.size := fun i hi => hm1 i (by simp only [List.mem_append]; exact .inr hi)
 have i3 : ∀ i ∈ B :: A :: suf, i < os.toArray.size := fun i hi => i2 i (by simp only [List.mem_cons] at hi ⊢; rcases hi with h | h | h <;> simp [h])
 obtain ⟨cp, sp, lp, kp, rp⟩ := WOpsX_run pre _ [] i1 h.out
 rw [List.append_nil] at kp
 obtain ⟨c1, sE, l1, ⟨kE, k1⟩, r1⟩ := WOpsX_run (A :: B :: suf) _ [] i2 kp.out
 obtain ⟨c2, sE2, l2, k2, r2⟩ := WOpsX_run (B :: A :: suf) _ [] i3 k1.out
 simp only [List.append_nil, List.reverse_reverse] at k2
 obtain ⟨kt, kl, kr⟩ := k2
 have kt : twoB os.toArray pre A B suf cp c1 c2 = true := kt
 match c1, c2, l1, l2, kt, r1, r2 with
 | cA :: cB :: q1, cB' :: cA' :: q2, l1, l2, kt, r1, r2 =>
  simp only [twoB, Bool.and_eq_true, List.all_eq_true] at kt
  obtain ⟨⟨⟨t1, t2⟩, t3⟩, t4⟩ := kt
  have lq1 : suf.length = q1.length := by simpa using l1.symm
  have lq2 : suf.length = q2.length := by simpa using l2.symm
  have eqm : (pre.zip cp ++ (A, cA) :: (B, cB) :: suf.zip q1).map Prod.fst = pre ++ A :: B :: suf := by
   rw [List.map_append, List.map_cons, List.map_cons, zip_map_fst _ _ lp.symm, zip_map_fst _ _ lq1]
  refine ⟨pre.zip cp, (A, cA), (B, cB), (A, cA'), (B, cB'), suf.zip q1, suf.zip q2, sp, sE, sE2, n, ⟨he, by rw [eqm]; exact hnd, fun i => ?_, rfl, rfl, by rw [zip_map_fst _ _ lq1, zip_map_fst _ _ lq2], pairsB_eq t1, pairsB_eq t2, t3, t4, fun q hq => ?_⟩, rp, r1, r2, kE, kr, by rw [SS_H, denH_len]; exact Nat.le_of_ble_eq_true hn, kl⟩
  ·rw [eqm]
   exact ⟨fun hi => hm1 i hi, fun hi => by have := hm2 i (List.mem_range.2 hi); simpa using this⟩
  ·exact hdep q.1 (List.of_mem_zip hq).1
theorem LB_SS {n : Nat} {l : SL} {H : SH} (h : Nat.blt (n + 1) H.length = true) : LB n (SS l H) := by
 show n + 1 < (SS l H).H.length
 rw [SS_H, denH_len]
 exact Nat.le_of_ble_eq_true h
def swL (n : Nat) : List Nat := List.range n ++ [n + 1, n]
def swG (n : Nat) : SH := List.replicate (n + 2) none
theorem sw_eq (n : Nat) : sig (swG n).length (swL n) = tp n := by
 funext b
 unfold sig tp swL swG
 rw [List.length_replicate, List.getD_eq_getElem?_getD]
 rcases Nat.lt_or_ge b n with h | h
 ·rw [List.getElem?_append_left (by simpa using h), List.getElem?_range h, if_neg (by omega), if_neg (by omega)]
  rfl
 ·rw [List.getElem?_append_right (by simpa using h), List.length_range]
  by_cases h1 : b = n
  ·subst h1; simp
  ·by_cases h2 : b = n + 1
   ·subst h2
    rw [if_neg h1, if_pos rfl, Nat.add_sub_cancel_left]
    rfl
   ·rw [if_neg h1, if_neg h2, List.getElem?_eq_none (by simp; omega)]
    simp
    omega
def renE (σ : List Nat) : SL → Option SL
 | [] => some []
 | (d, .v x) :: l => match renV σ x with
  | some y => match renE σ l with
   | some r => some ((d, .v y) :: r)
   | none => none
  | none => none
 | (d, .g b x) :: l => match renV σ x with
  | some y => match renE σ l with
   | some r => some ((d, .g b y) :: r)
   | none => none
  | none => none
 | (d, .u) :: l => match renE σ l with
  | some r => some ((d, .u) :: r)
  | none => none
def swB (n : Nat) (H : SH) : Option SH :=
 match n, H with
 | 0, a :: b :: H => some (b :: a :: H)
 | n + 1, x :: H => match swB n H with
  | some r => some (x :: r)
  | none => none
 | _, _ => none
theorem renE_sl {n : Nat} : ∀ {l r : SL} {H H' : SH}, renE (sigL (swG n) (swL n)) l = some r → ∀ i, ((SS l H).sl i).ren (tp n) = (SS r H').sl i
 | [], r, H, H', h, i => by injection h with h; subst h; rfl
 | (d, e) :: l, r, H, H', h, i => by
  have go : ∀ {e' : SE} {r' : SL}, e.den.ren (tp n) = e'.den → renE (sigL (swG n) (swL n)) l = some r' → ((SS ((d, e) :: l) H).sl i).ren (tp n) = (SS ((d, e') :: r') H').sl i := fun {e' r'} h1 h2 => by
   have ih := renE_sl (H := H) (H' := H') h2 i
   by_cases hd : i = d
   ·subst hd
    rw [show (SS ((i, e) :: l) H).sl i = e.den from upd_same _ _ _, show (SS ((i, e') :: r') H').sl i = e'.den from upd_same _ _ _]
    exact h1
   ·rw [show (SS ((d, e) :: l) H).sl i = (SS l H).sl i from upd_other _ _ hd, show (SS ((d, e') :: r') H').sl i = (SS r' H').sl i from upd_other _ _ hd]
    exact ih
  cases e with
  | v x =>
   unfold renE at h
   split at h
   ·rename_i y hy
    split at h
    ·rename_i r' hr
     injection h with h; subst h
     refine go ?_ hr
     have := renV_den hy
     rw [sw_eq] at this
     exact this
    ·cases h
   ·cases h
  | g b x =>
   unfold renE at h
   split at h
   ·rename_i y hy
    split at h
    ·rename_i r' hr
     injection h with h; subst h
     refine go ?_ hr
     have := renV_den hy
     rw [sw_eq] at this
     cases b
     ·rfl
     ·exact this
    ·cases h
   ·cases h
  | u =>
   unfold renE at h
   split at h
   ·rename_i r' hr
    injection h with h; subst h
    exact go rfl hr
   ·cases h
theorem swB_eq : ∀ {n : Nat} {H r : SH}, swB n H = some r → swapH n (denH H) = denH r := by
 intro n H r h
 have key : ∀ (n : Nat) (H r : SH), swB n H = some r → r.length = H.length ∧ ∀ b, b < H.length → r[b]? = H[tp n b]? := by
  intro n
  induction n with
  | zero =>
   intro H r h
   match H, h with
   | a :: b :: H, h =>
    injection h with h; subst h
    refine ⟨rfl, fun i hi => ?_⟩
    match i with
    | 0 => rfl
    | 1 => rfl
    | i + 2 =>
     have : tp 0 (i + 2) = i + 2 := by unfold tp; rw [if_neg (by omega), if_neg (by omega)]
     rw [this]
     rfl
  | succ n ih =>
   intro H r h
   match H, h with
   | x :: H, h =>
    unfold swB at h
    split at h
    ·rename_i r' hr
     injection h with h; subst h
     obtain ⟨k1, k2⟩ := ih H r' hr
     refine ⟨by simp [k1], fun i hi => ?_⟩
     match i with
     | 0 => rfl
     | i + 1 =>
      have : tp (n + 1) (i + 1) = tp n i + 1 := by unfold tp; (repeat' split) <;> omega
      rw [this, List.getElem?_cons_succ, List.getElem?_cons_succ]
      exact k2 i (by simpa using hi)
    ·cases h
 obtain ⟨k1, k2⟩ := key n H r h
 apply List.ext_getElem?
 intro b
 unfold swapH
 rw [List.getElem?_map]
 rcases Nat.lt_or_ge b H.length with hb | hb
 ·rw [List.getElem?_range (by rw [denH_len]; exact hb)]
  simp only [denH, Option.map_some, List.getElem?_map]
  rw [k2 b hb]
  cases hx : H[tp n b]? with
  | none =>
   exfalso
   have := k2 b hb
   rw [hx, List.getElem?_eq_none_iff] at this
   omega
  | some y => rfl
 ·rw [List.getElem?_eq_none (by rw [List.length_range, denH_len]; exact hb), List.getElem?_eq_none (by rw [denH_len]; omega)]
  rfl
def rnS (n : Nat) (l : SL) (H : SH) : Option (SL × SH) :=
 match renE (sigL (swG n) (swL n)) l with
 | some l' => match swB n H with
  | some H1 => match renHs (sigL (swG n) (swL n)) H1 with
   | some H' => some (l', H')
   | none => none
  | none => none
 | none => none
theorem RK_SS {K : St → Prop} {n : Nat} {l l' : SL} {H H' : SH} (h : rnS n l H = some (l', H')) (k : K (SS l' H')) : RK K n (SS l H) := by
 unfold rnS at h
 split at h
 ·rename_i l1 h1
  split at h
  ·rename_i H1 h2
   split at h
   ·rename_i H2 h3
    injection h with h; injection h with e1 e2; subst e1; subst e2
    have : (SS l H).rn n = SS l1 H2 := by
     have e : ((SS l H).rn n).H = (SS l1 H2).H := by
      show (swapH n (SS l H).H).map (renB (tp n)) = _
      rw [SS_H, SS_H, swB_eq h2]
      have := renHs_den h3
      rw [sw_eq] at this
      exact this
     have e2 : ((SS l H).rn n).sl = (SS l1 H2).sl := funext fun i => renE_sl h1 i
     cases hx : (SS l H).rn n
     cases hy : SS l1 H2
     rw [hx, hy] at e e2
     simp only at e e2
     rw [e, e2]
    unfold RK
    rw [this]
    exact k
   ·cases h
  ·cases h
 ·cases h
end
end Go.Proofs.YtalfibohepbhfaaGreat.Av
namespace Go.Proofs.YtalfibohepbhfaaGreat
def letN (c : Nat) : Bool := (decide (65 ≤ c) && decide (c ≤ 90)) || (decide (97 ≤ c) && decide (c ≤ 122))
def digN (c : Nat) : Bool := decide (48 ≤ c) && decide (c ≤ 57)
def okN (c : Nat) : Bool := letN c || digN c || c == 95
def nameB (s : ByteArray) : Bool := decide (1 ≤ s.size) && decide (s.size ≤ 12) && letN (s.data.toList.headD 0).toNat && s.data.toList.all (fun c => okN c.toNat)
theorem letN_ok {c : Nat} (h : letN c = true) : okN c = true := by unfold okN; rw [h]; rfl
theorem headD_at (s : ByteArray) (h : 0 < s.size) : s.data.toList.headD 0 = s[0] := by
 obtain ⟨⟨l⟩⟩ := s
 cases l with
 | nil => simp [ByteArray.size] at h
 | cons a r => rfl
theorem bytes_len (s : ByteArray) : s.data.toList.length = s.size := rfl
theorem bytes_at (s : ByteArray) (k : Nat) (h : k < s.size) : s.data.toList[k]'h = s[k] := rfl
theorem nameB_mk {s : ByteArray} (h0 : 0 < s.size) (h1 : s.size ≤ 12) (h2 : letN s[0].toNat = true) (h3 : s.data.toList.all (fun c => okN c.toNat) = true) : nameB s = true := by
 unfold nameB
 rw [headD_at s h0, h2, h3]
 simp; omega
theorem nameB_no {s : ByteArray} (k : Nat) (h : k < s.size) (h1 : okN s[k].toNat = false) : nameB s = false := by
 unfold nameB
 have : s.data.toList.all (fun c => okN c.toNat) = false := by
  rw [Bool.eq_false_iff]
  intro hall
  have := List.all_eq_true.1 hall s[k] (by rw [← bytes_at s k h]; exact List.getElem_mem _)
  rw [h1] at this; cases this
 rw [this]; simp
theorem nameB_no0 {s : ByteArray} (h0 : 0 < s.size) (h2 : letN s[0].toNat = false) : nameB s = false := by
 unfold nameB
 rw [headD_at s h0, h2]; simp
theorem nameB_short {s : ByteArray} (h : s.size < 1 ∨ 12 < s.size) : nameB s = false := by
 unfold nameB
 rcases h with h | h
 ·rw [show decide (1 ≤ s.size) = false from decide_eq_false (by omega)]; simp
 ·rw [show decide (s.size ≤ 12) = false from decide_eq_false (by omega)]; simp
theorem all_upto (s : ByteArray) (k : Nat) (h : k < s.size) (p : UInt8 → Bool) : (s.data.toList.take (k + 1)).all p = ((s.data.toList.take k).all p && p s[k]) := by
 rw [List.take_succ_eq_append_getElem (by exact h), List.all_append]
 simp [bytes_at s k h]
def eqS (a b : ByteArray) : Bool := a.data == b.data
theorem eqS_iff (a b : ByteArray) : eqS a b = true ↔ a = b := by
 unfold eqS
 rw [beq_iff_eq]
 exact ⟨fun h => by cases a; cases b; cases h; rfl, fun h => by rw [h]⟩
def memS (s : ByteArray) (l : List ByteArray) : Bool := l.any (eqS s)
def nameErr (seen : List ByteArray) (s : ByteArray) : Int := if nameB s = false then 3 else if memS s seen = true then 5 else 0
def namesErr (seen : List ByteArray) : List ByteArray → Int
 | [] => 0
 | s :: r => if nameErr seen s = 0 then namesErr (seen ++ [s]) r else nameErr seen s
structure Sec where
 nm : ByteArray
 len : Int
 lim : Int
 grd : Int
 stn : Int
structure Lnk where
 a : Int
 ae : Int
 b : Int
 be : Int
 pt : Int
 ps : Int
structure Lay where
 sts : List ByteArray
 pts : List ByteArray
 secs : List Sec
 lnks : List Lnk
def secB (nst : Nat) (s : Sec) : Bool := decide (1 ≤ s.len ∧ s.len ≤ 400 ∧ 1000 ≤ s.lim ∧ s.lim ≤ 100000 ∧ -40 ≤ s.grd ∧ s.grd ≤ 40 ∧ -1 ≤ s.stn ∧ s.stn < nst)
theorem secB_of {nst : Nat} {s : Sec} (h : secB nst s = true) : 1 ≤ s.len ∧ s.len ≤ 400 ∧ 1000 ≤ s.lim ∧ s.lim ≤ 100000 ∧ -40 ≤ s.grd ∧ s.grd ≤ 40 ∧ -1 ≤ s.stn ∧ s.stn < nst := by simpa [secB] using h
def secsErr (nst : Nat) (seen : List ByteArray) : List Sec → Int
 | [] => 0
 | s :: r => if nameErr seen s.nm = 0 then (if secB nst s = true then secsErr nst (seen ++ [s.nm]) r else 4) else nameErr seen s.nm
def hasE (k : Lnk) (x : Int × Int) : Bool := decide ((k.a = x.1 ∧ k.ae = x.2) ∨ (k.b = x.1 ∧ k.be = x.2))
def linkB (nsec npt : Nat) (k : Lnk) : Bool := decide (0 ≤ k.a ∧ k.a < nsec ∧ 0 ≤ k.b ∧ k.b < nsec ∧ 0 ≤ k.ae ∧ k.ae ≤ 1 ∧ 0 ≤ k.be ∧ k.be ≤ 1 ∧ -1 ≤ k.pt ∧ k.pt < npt ∧ 0 ≤ k.ps ∧ k.ps ≤ 1 ∧ (k.pt ≠ -1 ∨ k.ps = 0))
theorem linkB_of {nsec npt : Nat} {k : Lnk} (h : linkB nsec npt k = true) : 0 ≤ k.a ∧ k.a < nsec ∧ 0 ≤ k.b ∧ k.b < nsec ∧ 0 ≤ k.ae ∧ k.ae ≤ 1 ∧ 0 ≤ k.be ∧ k.be ≤ 1 ∧ -1 ≤ k.pt ∧ k.pt < npt ∧ 0 ≤ k.ps ∧ k.ps ≤ 1 ∧ (k.pt ≠ -1 ∨ k.ps = 0) := by simpa [linkB] using h
def atE (prev : List Lnk) (x : Int × Int) : List Lnk := prev.filter (fun k => hasE k x)
def fitB (k : Lnk) : List Lnk → Bool
 | [] => true
 | [j] => decide (k.pt ≠ -1 ∧ k.pt = j.pt ∧ k.ps ≠ j.ps)
 | _ => false
def linkErr (nsec npt : Nat) (prev : List Lnk) (k : Lnk) : Int :=
 if linkB nsec npt k = false then 4 else if (k.a, k.ae) = (k.b, k.be) then 1 else if prev.any (fun j => hasE j (k.a, k.ae) && hasE j (k.b, k.be)) then 5
 else if fitB k (atE prev (k.a, k.ae)) = false ∨ fitB k (atE prev (k.b, k.be)) = false then 11 else 0
def linksErr (nsec npt : Nat) (prev : List Lnk) : List Lnk → Int
 | [] => 0
 | k :: r => if linkErr nsec npt prev k = 0 then linksErr nsec npt (prev ++ [k]) r else linkErr nsec npt prev k
def orErr (a b : Int) : Int := if a = 0 then b else a
def layErr (L : Lay) : Int :=
 if 24 < L.sts.length ∨ 48 < L.pts.length ∨ 96 < L.secs.length ∨ 192 < L.lnks.length then 7 else if L.secs.length = 0 then 1
 else orErr (namesErr [] L.sts) (orErr (namesErr [] L.pts) (orErr (secsErr L.sts.length [] L.secs) (linksErr L.secs.length L.pts.length [] L.lnks)))
end Go.Proofs.YtalfibohepbhfaaGreat
namespace Go.Proofs.YtalfibohepbhfaaGreat.Av
def fS (s : ByteArray) : FVal := .v (.string s)
def fI (n : Int) : FVal := .v (.int .i64 n)
def fB (b : Bool) : FVal := .v (.bool b)
def fStr (s : ByteArray) : List FVal := [fS s]
def fInt (n : Int) : List FVal := [fI n]
def fBool (b : Bool) : List FVal := [fB b]
def fTrk (t : List Int) : List FVal := [.row (t.flatMap fInt) t.length]
def fSec (s : Sec) : List FVal := [fS s.nm, fI s.len, fI s.lim, fI s.grd, fI s.stn]
def fLnk (k : Lnk) : List FVal := [fI k.a, fI k.ae, fI k.b, fI k.be, fI k.pt, fI k.ps]
abbrev xI (n : Int) : SC := .c (.f (.v (.int .i64 n)))
abbrev xS (s : ByteArray) : SC := .c (.f (.v (.string s)))
abbrev xB (b : Bool) : SC := .c (.f (.v (.bool b)))
def vStr (s : ByteArray) : List SC := [xS s]
def vInt (n : Int) : List SC := [xI n]
def vBool (b : Bool) : List SC := [xB b]
abbrev rInt (l : List Int) : SC := .row 1 fInt vInt 0 l
abbrev rStr (l : List ByteArray) : SC := .row 1 fStr vStr ⟨#[]⟩ l
def vTrk (t : List Int) : List SC := [rInt t]
def vSec (s : Sec) : List SC := [xS s.nm, xI s.len, xI s.lim, xI s.grd, xI s.stn]
def vLnk (k : Lnk) : List SC := [xI k.a, xI k.ae, xI k.b, xI k.be, xI k.pt, xI k.ps]
def sec0 : Sec := ⟨⟨#[]⟩, 0, 0, 0, 0⟩
def lnk0 : Lnk := ⟨0, 0, 0, 0, 0, 0⟩
abbrev rSec (l : List Sec) : SC := .row 5 fSec vSec sec0 l
abbrev rLnk (l : List Lnk) : SC := .row 6 fLnk vLnk lnk0 l
abbrev rTrk (l : List (List Int)) : SC := .row 1 fTrk vTrk [] l
abbrev tInt (l : List Int) : SC := .tipr 1 fInt vInt (fun _ => none) 0 l
abbrev tStr (l : List ByteArray) : SC := .tipr 1 fStr vStr (fun _ => none) ⟨#[]⟩ l
abbrev tSec (l : List Sec) : SC := .tipr 5 fSec vSec (fun _ => none) sec0 l
abbrev tLnk (l : List Lnk) : SC := .tipr 6 fLnk vLnk (fun _ => none) lnk0 l
abbrev tTrk (l : List (List Int)) : SC := .tipr 1 fTrk vTrk (fun _ => none) [] l
abbrev pB (b : Nat) : SC := .c (.ptr b 0)
abbrev vI (n : Int) : SV := .c (xI n)
abbrev vS (s : ByteArray) : SV := .c (xS s)
abbrev vB (b : Bool) : SV := .c (xB b)
abbrev sI (d : Nat) (n : Int) : Nat × SE := (d, .v (.c (.c (.f (.v (.int .i64 n))))))
abbrev sB (d : Nat) (b : Bool) : Nat × SE := (d, .v (.c (.c (.f (.v (.bool b))))))
abbrev sS (d : Nat) (b : ByteArray) : Nat × SE := (d, .v (.c (.c (.f (.v (.string b))))))
abbrev sC (d : Nat) (x : SC) : Nat × SE := (d, .v (.c x))
def mStr : List FVal → Option ByteArray
 | [.v (.string s)] => some s
 | _ => none
def mInt : List FVal → Option Int
 | [.v (.int .i64 n)] => some n
 | _ => none
def mBool : List FVal → Option Bool
 | [.v (.bool b)] => some b
 | _ => none
def mSec : List FVal → Option Sec
 | [.v (.string a), .v (.int .i64 b), .v (.int .i64 c), .v (.int .i64 d), .v (.int .i64 e)] => some ⟨a, b, c, d, e⟩
 | _ => none
def mLnk : List FVal → Option Lnk
 | [.v (.int .i64 a), .v (.int .i64 b), .v (.int .i64 c), .v (.int .i64 d), .v (.int .i64 e), .v (.int .i64 f)] => some ⟨a, b, c, d, e, f⟩
 | _ => none
abbrev eStr : TyE := ⟨ByteArray, 1, fStr, vStr, mStr, ⟨#[]⟩⟩
abbrev eInt : TyE := ⟨Int, 1, fInt, vInt, mInt, 0⟩
abbrev eBool : TyE := ⟨Bool, 1, fBool, vBool, mBool, false⟩
abbrev eSec : TyE := ⟨Sec, 5, fSec, vSec, mSec, sec0⟩
abbrev eLnk : TyE := ⟨Lnk, 6, fLnk, vLnk, mLnk, lnk0⟩
structure Stp where
 sec : Int
 dir : Int
structure Hop where
 sec : Int
 dir : Int
 pt : Int
 ps : Int
structure Occ where
 res : Int
 frm : Int
 til : Int
structure Wrd where
 tx : ByteArray
 ln : Int
 co : Int
def fStp (s : Stp) : List FVal := [fI s.sec, fI s.dir]
def vStp (s : Stp) : List SC := [xI s.sec, xI s.dir]
def mStp : List FVal → Option Stp
 | [.v (.int .i64 a), .v (.int .i64 b)] => some ⟨a, b⟩
 | _ => none
def fHop (s : Hop) : List FVal := [fI s.sec, fI s.dir, fI s.pt, fI s.ps]
def vHop (s : Hop) : List SC := [xI s.sec, xI s.dir, xI s.pt, xI s.ps]
def mHop : List FVal → Option Hop
 | [.v (.int .i64 a), .v (.int .i64 b), .v (.int .i64 c), .v (.int .i64 d)] => some ⟨a, b, c, d⟩
 | _ => none
def fCell (s : Int × Int) : List FVal := [fI s.1, fI s.2]
def vCell (s : Int × Int) : List SC := [xI s.1, xI s.2]
def mCell : List FVal → Option (Int × Int)
 | [.v (.int .i64 a), .v (.int .i64 b)] => some ⟨a, b⟩
 | _ => none
def fOcc (s : Occ) : List FVal := [fI s.res, fI s.frm, fI s.til]
def vOcc (s : Occ) : List SC := [xI s.res, xI s.frm, xI s.til]
def mOcc : List FVal → Option Occ
 | [.v (.int .i64 a), .v (.int .i64 b), .v (.int .i64 c)] => some ⟨a, b, c⟩
 | _ => none
def fWrd (s : Wrd) : List FVal := [fS s.tx, fI s.ln, fI s.co]
def vWrd (s : Wrd) : List SC := [xS s.tx, xI s.ln, xI s.co]
def mWrd : List FVal → Option Wrd
 | [.v (.string a), .v (.int .i64 b), .v (.int .i64 c)] => some ⟨a, b, c⟩
 | _ => none
abbrev rStp (l : List Stp) : SC := .row 2 fStp vStp ⟨0, 0⟩ l
abbrev rHop (l : List Hop) : SC := .row 4 fHop vHop ⟨0, 0, 0, 0⟩ l
abbrev rCell (l : List (Int × Int)) : SC := .row 2 fCell vCell (0, 0) l
abbrev rWrd (l : List Wrd) : SC := .row 3 fWrd vWrd ⟨⟨#[]⟩, 0, 0⟩ l
abbrev tHop (l : List Hop) : SC := .tipr 4 fHop vHop (fun _ => none) ⟨0, 0, 0, 0⟩ l
abbrev tCell (l : List (Int × Int)) : SC := .tipr 2 fCell vCell (fun _ => none) (0, 0) l
abbrev eStp : TyE := ⟨Stp, 2, fStp, vStp, mStp, ⟨0, 0⟩⟩
abbrev eHop : TyE := ⟨Hop, 4, fHop, vHop, mHop, ⟨0, 0, 0, 0⟩⟩
abbrev eCell : TyE := ⟨Int × Int, 2, fCell, vCell, mCell, (0, 0)⟩
abbrev eOcc : TyE := ⟨Occ, 3, fOcc, vOcc, mOcc, ⟨0, 0, 0⟩⟩
abbrev eWrd : TyE := ⟨Wrd, 3, fWrd, vWrd, mWrd, ⟨⟨#[]⟩, 0, 0⟩⟩
def fWs (w : List Wrd) : List FVal := [.row (w.flatMap fWrd) w.length]
def vWs (w : List Wrd) : List SC := [rWrd w]
abbrev rWs (l : List (List Wrd)) : SC := .row 1 fWs vWs [] l
structure Leg where
 a : Int
 b : Int
 go : Int
 stop : Int
def fLeg (s : Leg) : List FVal := [fI s.a, fI s.b, fI s.go, fI s.stop]
def vLeg (s : Leg) : List SC := [xI s.a, xI s.b, xI s.go, xI s.stop]
def mLeg : List FVal → Option Leg
 | [.v (.int .i64 a), .v (.int .i64 b), .v (.int .i64 c), .v (.int .i64 d)] => some ⟨a, b, c, d⟩
 | _ => none
abbrev rLeg (l : List Leg) : SC := .row 4 fLeg vLeg ⟨0, 0, 0, 0⟩ l
abbrev tLeg (l : List Leg) : SC := .tipr 4 fLeg vLeg (fun _ => none) ⟨0, 0, 0, 0⟩ l
abbrev eLeg : TyE := ⟨Leg, 4, fLeg, vLeg, mLeg, ⟨0, 0, 0, 0⟩⟩
structure Stg where
 sec : Int
 p : FVal
 mn : Int
 nt : Int
def fStg (s : Stg) : List FVal := [fI s.sec, s.p, fI s.mn, fI s.nt]
def vStg (s : Stg) : List SC := [xI s.sec, .c (.f s.p), xI s.mn, xI s.nt]
def mStg : List FVal → Option Stg
 | [.v (.int .i64 a), p, .v (.int .i64 b), .v (.int .i64 c)] => some ⟨a, p, b, c⟩
 | _ => none
abbrev rStg (l : List Stg) : SC := .row 4 fStg vStg ⟨0, .nils, 0, 0⟩ l
abbrev tStg (l : List Stg) : SC := .tipr 4 fStg vStg (fun _ => none) ⟨0, .nils, 0, 0⟩ l
abbrev eStg : TyE := ⟨Stg, 4, fStg, vStg, mStg, ⟨0, .nils, 0, 0⟩⟩
abbrev uStr (l : List ByteArray) : SC := .tipr 1 fStr vStr mStr ⟨#[]⟩ l
abbrev uSec (l : List Sec) : SC := .tipr 5 fSec vSec mSec sec0 l
abbrev uLnk (l : List Lnk) : SC := .tipr 6 fLnk vLnk mLnk lnk0 l
abbrev uStp (l : List Stp) : SC := .tipr 2 fStp vStp mStp ⟨0, 0⟩ l
structure Rte where
 st : List Stp
 ov : Int
structure Stk where
 nm : ByteArray
 len : Int
 sp : Int
 ac : Int
 br : Int
def vLay (L : Lay) : SV := .agg [rStr L.sts, rStr L.pts, rSec L.secs, rLnk L.lnks]
def t_sz : List (Nat × Bool × Nat) := [(2, false, 1), (3, false, 1), (4, false, 1), (5, false, 1), (6, false, 1), (7, true, 4), (8, true, 4), (9, false, 1), (10, false, 1), (11, false, 1), (12, false, 1), (13, true, 2), (14, true, 2), (15, false, 1), (16, false, 1), (17, false, 1), (18, true, 1), (19, true, 1), (21, false, 1), (22, false, 1), (23, false, 1), (24, false, 1), (25, false, 1), (26, true, 4), (27, true, 4), (28, false, 1), (29, true, 2), (30, true, 2), (31, true, 5), (32, true, 5), (35, true, 7), (36, true, 7), (37, false, 1), (45, false, 1), (48, true, 3), (49, true, 3), (50, true, 2), (51, true, 2), (53, false, 1), (57, false, 1), (61, true, 4), (62, true, 4), (65, false, 1), (69, false, 1), (71, false, 1), (72, false, 1), (73, false, 1), (74, false, 1), (75, false, 1), (76, false, 1), (77, false, 1), (78, true, 8), (79, true, 8), (89, true, 144), (92, true, 2), (93, true, 2), (94, false, 1), (99, true, 4), (100, true, 4), (101, false, 1), (102, false, 1), (105, false, 1), (106, false, 1), (107, true, 7), (108, true, 7), (110, true, 7), (111, true, 7), (112, false, 1), (113, true, 4), (114, true, 4), (115, true, 5), (116, true, 5), (118, true, 5), (119, true, 5), (120, true, 3), (121, true, 3), (122, false, 1), (124, true, 4), (125, true, 4), (126, false, 1), (135, false, 1), (136, true, 2), (137, true, 2), (142, true, 6), (143, true, 6), (146, true, 2), (147, true, 2), (155, true, 3), (157, true, 4), (158, true, 4), (159, true, 4), (160, true, 4), (161, true, 4), (162, true, 2), (163, true, 2), (165, true, 2), (166, true, 2), (167, false, 1), (171, false, 1), (172, false, 1), (173, true, 3), (174, true, 3), (189, true, 2), (190, false, 1), (193, true, 2), (194, true, 2), (206, false, 1), (208, true, 2), (209, true, 2), (212, false, 1), (217, false, 1), (220, false, 1), (224, true, 4), (225, true, 4), (226, true, 0), (227, true, 0), (228, true, 0), (229, false, 1), (230, false, 1), (232, false, 1), (233, false, 1), (234, false, 1), (235, true, 11), (236, true, 11), (237, false, 1)]
def t_fo : List (Nat × List (Option Nat)) := [(7, [some 0, some 1, some 2, some 3]), (8, [some 0, some 1, some 2, some 3]), (13, [some 0, some 1]), (14, [some 0, some 1]), (18, [some 0]), (19, [some 0]), (26, [some 0, some 1, some 2, some 3]), (27, [some 0, some 1, some 2, some 3]), (29, [some 0, some 1]), (30, [some 0, some 1]), (31, [some 0, some 1, some 2, some 3, some 4]), (32, [some 0, some 1, some 2, some 3, some 4]), (35, [some 0, some 1, some 2, some 3, some 4, some 5, some 6]), (36, [some 0, some 1, some 2, some 3, some 4, some 5, some 6]), (48, [some 0, some 1, some 2]), (49, [some 0, some 1, some 2]), (50, [some 0, some 1]), (51, [some 0, some 1]), (61, [some 0, some 1, some 2, some 3]), (62, [some 0, some 1, some 2, some 3]), (78, [some 0, some 1, some 2, some 3, some 4, some 5, some 6, some 7]), (79, [some 0, some 1, some 2, some 3, some 4, some 5, some 6, some 7]), (92, [some 0, some 1]), (93, [some 0, some 1]), (99, [some 0, some 1, some 2, some 3]), (100, [some 0, some 1, some 2, some 3]), (107, [some 0, some 4, some 5, some 6]), (108, [some 0, some 4, some 5, some 6]), (110, [some 0, some 1, some 2, some 3, some 4, some 5, some 6]), (111, [some 0, some 1, some 2, some 3, some 4, some 5, some 6]), (113, [some 0, some 1, some 2, some 3]), (114, [some 0, some 1, some 2, some 3]), (115, [some 0, some 1, some 2, some 3, some 4]), (116, [some 0, some 1, some 2, some 3, some 4]), (118, [some 0, some 1, some 2, some 3, some 4]), (119, [some 0, some 1, some 2, some 3, some 4]), (120, [some 0, some 1, some 2]), (121, [some 0, some 1, some 2]), (124, [some 0, some 2, some 3]), (125, [some 0, some 2, some 3]), (136, [some 0, some 1]), (137, [some 0, some 1]), (142, [some 0, some 1, some 2, some 3, some 4, some 5]), (143, [some 0, some 1, some 2, some 3, some 4, some 5]), (146, [some 0, some 1]), (147, [some 0, some 1]), (157, [some 0, some 1, some 2, some 3]), (158, [some 0, some 1, some 2, some 3]), (160, [some 0, some 1, some 2, some 3]), (161, [some 0, some 1, some 2, some 3]), (162, [some 0, some 1]), (163, [some 0, some 1]), (165, [some 0, some 1]), (166, [some 0, some 1]), (173, [some 0, some 1, some 2]), (174, [some 0, some 1, some 2]), (193, [some 0, some 1]), (194, [some 0, some 1]), (208, [some 0, some 1]), (209, [some 0, some 1]), (224, [some 0, some 1, some 2, some 3]), (225, [some 0, some 1, some 2, some 3]), (227, [none]), (228, [none]), (235, [some 0, some 1, some 2, some 3, some 4, some 5, some 6, some 7, some 8, some 9, some 10]), (236, [some 0, some 1, some 2, some 3, some 4, some 5, some 6, some 7, some 8, some 9, some 10])]
def t_fa : List (Nat × List (Nat × Option (Bool × Nat))) := [(7, [(0, some (false, 1)), (1, some (false, 1)), (2, some (false, 1)), (3, some (false, 1))]), (8, [(0, some (false, 1)), (1, some (false, 1)), (2, some (false, 1)), (3, some (false, 1))]), (13, [(0, some (false, 1)), (1, some (false, 1))]), (14, [(0, some (false, 1)), (1, some (false, 1))]), (18, [(0, some (false, 1))]), (19, [(0, some (false, 1))]), (26, [(0, some (false, 1)), (1, some (false, 1)), (2, some (false, 1)), (3, some (false, 1))]), (27, [(0, some (false, 1)), (1, some (false, 1)), (2, some (false, 1)), (3, some (false, 1))]), (29, [(0, some (false, 1)), (1, some (false, 1))]), (30, [(0, some (false, 1)), (1, some (false, 1))]), (31, [(0, some (false, 1)), (1, some (false, 1)), (2, some (false, 1)), (3, some (false, 1)), (4, some (false, 1))]), (32, [(0, some (false, 1)), (1, some (false, 1)), (2, some (false, 1)), (3, some (false, 1)), (4, some (false, 1))]), (35, [(0, some (false, 1)), (1, some (false, 1)), (2, some (false, 1)), (3, some (false, 1)), (4, some (false, 1)), (5, some (false, 1)), (6, some (false, 1))]), (36, [(0, some (false, 1)), (1, some (false, 1)), (2, some (false, 1)), (3, some (false, 1)), (4, some (false, 1)), (5, some (false, 1)), (6, some (false, 1))]), (48, [(0, some (false, 1)), (1, some (false, 1)), (2, some (false, 1))]), (49, [(0, some (false, 1)), (1, some (false, 1)), (2, some (false, 1))]), (50, [(0, some (false, 1)), (1, some (false, 1))]), (51, [(0, some (false, 1)), (1, some (false, 1))]), (61, [(0, some (false, 1)), (1, some (false, 1)), (2, some (false, 1)), (3, some (false, 1))]), (62, [(0, some (false, 1)), (1, some (false, 1)), (2, some (false, 1)), (3, some (false, 1))]), (78, [(0, some (false, 1)), (1, some (false, 1)), (2, some (false, 1)), (3, some (false, 1)), (4, some (false, 1)), (5, some (false, 1)), (6, some (false, 1)), (7, some (false, 1))]), (79, [(0, some (false, 1)), (1, some (false, 1)), (2, some (false, 1)), (3, some (false, 1)), (4, some (false, 1)), (5, some (false, 1)), (6, some (false, 1)), (7, some (false, 1))]), (92, [(0, some (false, 1)), (1, some (false, 1))]), (93, [(0, some (false, 1)), (1, some (false, 1))]), (99, [(0, some (false, 1)), (1, some (false, 1)), (2, some (false, 1)), (3, some (false, 1))]), (100, [(0, some (false, 1)), (1, some (false, 1)), (2, some (false, 1)), (3, some (false, 1))]), (107, [(0, some (true, 4)), (4, some (false, 1)), (5, some (false, 1)), (6, some (false, 1))]), (108, [(0, some (true, 4)), (4, some (false, 1)), (5, some (false, 1)), (6, some (false, 1))]), (110, [(0, some (false, 1)), (1, some (false, 1)), (2, some (false, 1)), (3, some (false, 1)), (4, some (false, 1)), (5, some (false, 1)), (6, some (false, 1))]), (111, [(0, some (false, 1)), (1, some (false, 1)), (2, some (false, 1)), (3, some (false, 1)), (4, some (false, 1)), (5, some (false, 1)), (6, some (false, 1))]), (113, [(0, some (false, 1)), (1, some (false, 1)), (2, some (false, 1)), (3, some (false, 1))]), (114, [(0, some (false, 1)), (1, some (false, 1)), (2, some (false, 1)), (3, some (false, 1))]), (115, [(0, some (false, 1)), (1, some (false, 1)), (2, some (false, 1)), (3, some (false, 1)), (4, some (false, 1))]), (116, [(0, some (false, 1)), (1, some (false, 1)), (2, some (false, 1)), (3, some (false, 1)), (4, some (false, 1))]), (118, [(0, some (false, 1)), (1, some (false, 1)), (2, some (false, 1)), (3, some (false, 1)), (4, some (false, 1))]), (119, [(0, some (false, 1)), (1, some (false, 1)), (2, some (false, 1)), (3, some (false, 1)), (4, some (false, 1))]), (120, [(0, some (false, 1)), (1, some (false, 1)), (2, some (false, 1))]), (121, [(0, some (false, 1)), (1, some (false, 1)), (2, some (false, 1))]), (124, [(0, some (true, 2)), (2, some (false, 1)), (3, some (false, 1))]), (125, [(0, some (true, 2)), (2, some (false, 1)), (3, some (false, 1))]), (136, [(0, some (false, 1)), (1, some (false, 1))]), (137, [(0, some (false, 1)), (1, some (false, 1))]), (142, [(0, some (false, 1)), (1, some (false, 1)), (2, some (false, 1)), (3, some (false, 1)), (4, some (false, 1)), (5, some (false, 1))]), (143, [(0, some (false, 1)), (1, some (false, 1)), (2, some (false, 1)), (3, some (false, 1)), (4, some (false, 1)), (5, some (false, 1))]), (146, [(0, some (false, 1)), (1, some (false, 1))]), (147, [(0, some (false, 1)), (1, some (false, 1))]), (157, [(0, some (false, 1)), (1, some (false, 1)), (2, some (false, 1)), (3, some (false, 1))]), (158, [(0, some (false, 1)), (1, some (false, 1)), (2, some (false, 1)), (3, some (false, 1))]), (160, [(0, some (false, 1)), (1, some (false, 1)), (2, some (false, 1)), (3, some (false, 1))]), (161, [(0, some (false, 1)), (1, some (false, 1)), (2, some (false, 1)), (3, some (false, 1))]), (162, [(0, some (false, 1)), (1, some (false, 1))]), (163, [(0, some (false, 1)), (1, some (false, 1))]), (165, [(0, some (false, 1)), (1, some (false, 1))]), (166, [(0, some (false, 1)), (1, some (false, 1))]), (173, [(0, some (false, 1)), (1, some (false, 1)), (2, some (false, 1))]), (174, [(0, some (false, 1)), (1, some (false, 1)), (2, some (false, 1))]), (193, [(0, some (false, 1)), (1, some (false, 1))]), (194, [(0, some (false, 1)), (1, some (false, 1))]), (208, [(0, some (false, 1)), (1, some (false, 1))]), (209, [(0, some (false, 1)), (1, some (false, 1))]), (224, [(0, some (false, 1)), (1, some (false, 1)), (2, some (false, 1)), (3, some (false, 1))]), (225, [(0, some (false, 1)), (1, some (false, 1)), (2, some (false, 1)), (3, some (false, 1))]), (227, [(0, some (true, 0))]), (228, [(0, some (true, 0))]), (235, [(0, some (false, 1)), (1, some (false, 1)), (2, some (false, 1)), (3, some (false, 1)), (4, some (false, 1)), (5, some (false, 1)), (6, some (false, 1)), (7, some (false, 1)), (8, some (false, 1)), (9, some (false, 1)), (10, some (false, 1))]), (236, [(0, some (false, 1)), (1, some (false, 1)), (2, some (false, 1)), (3, some (false, 1)), (4, some (false, 1)), (5, some (false, 1)), (6, some (false, 1)), (7, some (false, 1)), (8, some (false, 1)), (9, some (false, 1)), (10, some (false, 1))])]
def t_es : List (Nat × Nat) := [(22, 1), (23, 1), (24, 5), (25, 6), (28, 2), (45, 3), (57, 4), (65, 4), (71, 5), (72, 2), (73, 4), (74, 7), (75, 4), (76, 5), (77, 3), (101, 1), (106, 1), (112, 4), (122, 4), (126, 2), (167, 1), (172, 3), (206, 1)]
def t_ms : List (Nat × Nat × Nat × List SC) := [(22, 1, 8, [.c (.f (.v (.int .i64 0)))]), (23, 1, 16, [.c (.f (.v (.string ⟨#[]⟩)))]), (24, 5, 48, [.c (.f (.v (.string ⟨#[]⟩))), .c (.f (.v (.int .i64 0))), .c (.f (.v (.int .i64 0))), .c (.f (.v (.int .i64 0))), .c (.f (.v (.int .i64 0)))]), (25, 6, 48, [.c (.f (.v (.int .i64 0))), .c (.f (.v (.int .i64 0))), .c (.f (.v (.int .i64 0))), .c (.f (.v (.int .i64 0))), .c (.f (.v (.int .i64 0))), .c (.f (.v (.int .i64 0)))]), (28, 2, 16, [.c (.f (.v (.int .i64 0))), .c (.f (.v (.int .i64 0)))]), (45, 3, 24, [.c (.f (.v (.int .i64 0))), .c (.f (.v (.int .i64 0))), .c (.f (.v (.int .i64 0)))]), (57, 4, 32, [.c (.f (.v (.int .i64 0))), .c (.f (.v (.int .i64 0))), .c (.f (.v (.int .i64 0))), .c (.f (.v (.int .i64 0)))]), (65, 4, 48, [.c (.f (.v (.int .i64 0))), .c (.f .nils), .c (.f (.v (.int .i64 0))), .c (.f (.v (.int .i64 0)))]), (71, 5, 48, [.c (.f (.v (.string ⟨#[]⟩))), .c (.f (.v (.int .i64 0))), .c (.f (.v (.int .i64 0))), .c (.f (.v (.int .i64 0))), .c (.f (.v (.int .i64 0)))]), (72, 2, 32, [.c (.f .nils), .c (.f (.v (.int .i64 0)))]), (73, 4, 56, [.c (.f (.v (.string ⟨#[]⟩))), .c (.f (.v (.int .i64 0))), .c (.f (.v (.int .i64 0))), .c (.f .nils)]), (74, 7, 56, [.c (.f (.v (.int .i64 0))), .c (.f (.v (.int .i64 0))), .c (.f (.v (.int .i64 0))), .c (.f (.v (.int .i64 0))), .c (.f (.v (.int .i64 0))), .c (.f (.v (.int .i64 0))), .c (.f (.v (.int .i64 0)))]), (75, 4, 32, [.c (.f (.v (.int .i64 0))), .c (.f (.v (.int .i64 0))), .c (.f (.v (.int .i64 0))), .c (.f (.v (.int .i64 0)))]), (76, 5, 40, [.c (.f (.v (.int .i64 0))), .c (.f (.v (.int .i64 0))), .c (.f (.v (.int .i64 0))), .c (.f (.v (.int .i64 0))), .c (.f (.v (.int .i64 0)))]), (77, 3, 24, [.c (.f (.v (.int .i64 0))), .c (.f (.v (.int .i64 0))), .c (.f (.v (.int .i64 0)))]), (101, 1, 1, [.c (.f (.v (.bool false)))]), (106, 1, 24, [.c (.f .nils)]), (112, 4, 32, [.c (.f (.v (.int .i64 0))), .c (.f (.v (.int .i64 0))), .c (.f (.v (.int .i64 0))), .c (.f (.v (.int .i64 0)))]), (122, 4, 32, [.c (.f (.v (.int .i64 0))), .c (.f (.v (.int .i64 0))), .c (.f (.v (.int .i64 0))), .c (.f (.v (.int .i64 0)))]), (126, 2, 16, [.c (.f (.v (.int .i64 0))), .c (.f (.v (.int .i64 0)))]), (167, 1, 24, [.c (.f .nils)]), (172, 3, 32, [.c (.f (.v (.string ⟨#[]⟩))), .c (.f (.v (.int .i64 0))), .c (.f (.v (.int .i64 0)))]), (206, 1, 24, [.c (.f .nils)])]
def t_bi : List (Nat × List SC × Pl) := [(7, [.c (.f (.v (.int .i64 0))), .c (.f (.v (.int .i64 0))), .c (.f (.v (.bool false))), .c (.f (.v (.int .u8 0)))], .fields [(0, 1), (1, 1), (2, 1), (3, 1)]), (8, [.c (.f (.v (.int .i64 0))), .c (.f (.v (.int .i64 0))), .c (.f (.v (.bool false))), .c (.f (.v (.int .u8 0)))], .fields [(0, 1), (1, 1), (2, 1), (3, 1)]), (13, [.c (.f (.v (.string ⟨#[]⟩))), .c (.f (.v (.int .u64 0)))], .fields [(0, 1), (1, 1)]), (14, [.c (.f (.v (.string ⟨#[]⟩))), .c (.f (.v (.int .u64 0)))], .fields [(0, 1), (1, 1)]), (18, [.c (.f (.v (.pointer none)))], .fields [(0, 1)]), (19, [.c (.f (.v (.pointer none)))], .fields [(0, 1)]), (26, [.c (.f .nils), .c (.f .nils), .c (.f .nils), .c (.f .nils)], .fields [(0, 1), (1, 1), (2, 1), (3, 1)]), (27, [.c (.f .nils), .c (.f .nils), .c (.f .nils), .c (.f .nils)], .fields [(0, 1), (1, 1), (2, 1), (3, 1)]), (29, [.c (.f .nils), .c (.f (.v (.int .i64 0)))], .fields [(0, 1), (1, 1)]), (30, [.c (.f .nils), .c (.f (.v (.int .i64 0)))], .fields [(0, 1), (1, 1)]), (31, [.c (.f (.v (.string ⟨#[]⟩))), .c (.f (.v (.int .i64 0))), .c (.f (.v (.int .i64 0))), .c (.f (.v (.int .i64 0))), .c (.f (.v (.int .i64 0)))], .fields [(0, 1), (1, 1), (2, 1), (3, 1), (4, 1)]), (32, [.c (.f (.v (.string ⟨#[]⟩))), .c (.f (.v (.int .i64 0))), .c (.f (.v (.int .i64 0))), .c (.f (.v (.int .i64 0))), .c (.f (.v (.int .i64 0)))], .fields [(0, 1), (1, 1), (2, 1), (3, 1), (4, 1)]), (35, [.c (.f (.v (.int .i64 0))), .c (.f (.v (.int .i64 0))), .c (.f .nils), .c (.f .nils), .c (.f .nils), .c (.f (.v (.int .i64 0))), .c (.f (.v (.int .i64 0)))], .fields [(0, 1), (1, 1), (2, 1), (3, 1), (4, 1), (5, 1), (6, 1)]), (36, [.c (.f (.v (.int .i64 0))), .c (.f (.v (.int .i64 0))), .c (.f .nils), .c (.f .nils), .c (.f .nils), .c (.f (.v (.int .i64 0))), .c (.f (.v (.int .i64 0)))], .fields [(0, 1), (1, 1), (2, 1), (3, 1), (4, 1), (5, 1), (6, 1)]), (48, [.c (.f (.v (.int .i64 0))), .c (.f (.v (.int .i64 0))), .c (.f (.v (.int .i64 0)))], .fields [(0, 1), (1, 1), (2, 1)]), (49, [.c (.f (.v (.int .i64 0))), .c (.f (.v (.int .i64 0))), .c (.f (.v (.int .i64 0)))], .fields [(0, 1), (1, 1), (2, 1)]), (50, [.c (.f (.v (.int .i64 0))), .c (.f (.v (.int .i64 0)))], .fields [(0, 1), (1, 1)]), (51, [.c (.f (.v (.int .i64 0))), .c (.f (.v (.int .i64 0)))], .fields [(0, 1), (1, 1)]), (61, [.c (.f (.v (.int .i64 0))), .c (.f (.v (.int .i64 0))), .c (.f (.v (.int .i64 0))), .c (.f (.v (.int .i64 0)))], .fields [(0, 1), (1, 1), (2, 1), (3, 1)]), (62, [.c (.f (.v (.int .i64 0))), .c (.f (.v (.int .i64 0))), .c (.f (.v (.int .i64 0))), .c (.f (.v (.int .i64 0)))], .fields [(0, 1), (1, 1), (2, 1), (3, 1)]), (78, [.c (.f (.v (.int .i64 0))), .c (.f .nils), .c (.f .nils), .c (.f .nils), .c (.f .nils), .c (.f .nils), .c (.f .nils), .c (.f .nils)], .fields [(0, 1), (1, 1), (2, 1), (3, 1), (4, 1), (5, 1), (6, 1), (7, 1)]), (79, [.c (.f (.v (.int .i64 0))), .c (.f .nils), .c (.f .nils), .c (.f .nils), .c (.f .nils), .c (.f .nils), .c (.f .nils), .c (.f .nils)], .fields [(0, 1), (1, 1), (2, 1), (3, 1), (4, 1), (5, 1), (6, 1), (7, 1)]), (89, (List.replicate 144 (.c (.f (.v (.bool false))))), .elems 1), (92, [.c (.f .nils), .c (.f (.v (.int .i64 0)))], .fields [(0, 1), (1, 1)]), (93, [.c (.f .nils), .c (.f (.v (.int .i64 0)))], .fields [(0, 1), (1, 1)]), (99, [.c (.f (.v (.int .i64 0))), .c (.f .nils), .c (.f (.v (.int .i64 0))), .c (.f (.v (.int .i64 0)))], .fields [(0, 1), (1, 1), (2, 1), (3, 1)]), (100, [.c (.f (.v (.int .i64 0))), .c (.f .nils), .c (.f (.v (.int .i64 0))), .c (.f (.v (.int .i64 0)))], .fields [(0, 1), (1, 1), (2, 1), (3, 1)]), (107, [.c (.f .nils), .c (.f .nils), .c (.f .nils), .c (.f .nils), .c (.f .nils), .c (.f .nils), .c (.f .nils)], .fields [(0, 4), (4, 1), (5, 1), (6, 1)]), (108, [.c (.f .nils), .c (.f .nils), .c (.f .nils), .c (.f .nils), .c (.f .nils), .c (.f .nils), .c (.f .nils)], .fields [(0, 4), (4, 1), (5, 1), (6, 1)]), (110, [.c (.f (.v (.int .i64 0))), .c (.f (.v (.int .i64 0))), .c (.f (.v (.int .i64 0))), .c (.f (.v (.int .i64 0))), .c (.f (.v (.int .i64 0))), .c (.f (.v (.int .i64 0))), .c (.f (.v (.int .i64 0)))], .fields [(0, 1), (1, 1), (2, 1), (3, 1), (4, 1), (5, 1), (6, 1)]), (111, [.c (.f (.v (.int .i64 0))), .c (.f (.v (.int .i64 0))), .c (.f (.v (.int .i64 0))), .c (.f (.v (.int .i64 0))), .c (.f (.v (.int .i64 0))), .c (.f (.v (.int .i64 0))), .c (.f (.v (.int .i64 0)))], .fields [(0, 1), (1, 1), (2, 1), (3, 1), (4, 1), (5, 1), (6, 1)]), (113, [.c (.f (.v (.string ⟨#[]⟩))), .c (.f (.v (.int .i64 0))), .c (.f (.v (.int .i64 0))), .c (.f .nils)], .fields [(0, 1), (1, 1), (2, 1), (3, 1)]), (114, [.c (.f (.v (.string ⟨#[]⟩))), .c (.f (.v (.int .i64 0))), .c (.f (.v (.int .i64 0))), .c (.f .nils)], .fields [(0, 1), (1, 1), (2, 1), (3, 1)]), (115, [.c (.f (.v (.string ⟨#[]⟩))), .c (.f (.v (.int .i64 0))), .c (.f (.v (.int .i64 0))), .c (.f (.v (.int .i64 0))), .c (.f (.v (.int .i64 0)))], .fields [(0, 1), (1, 1), (2, 1), (3, 1), (4, 1)]), (116, [.c (.f (.v (.string ⟨#[]⟩))), .c (.f (.v (.int .i64 0))), .c (.f (.v (.int .i64 0))), .c (.f (.v (.int .i64 0))), .c (.f (.v (.int .i64 0)))], .fields [(0, 1), (1, 1), (2, 1), (3, 1), (4, 1)]), (118, [.c (.f (.v (.int .i64 0))), .c (.f (.v (.int .i64 0))), .c (.f (.v (.int .i64 0))), .c (.f (.v (.int .i64 0))), .c (.f (.v (.int .i64 0)))], .fields [(0, 1), (1, 1), (2, 1), (3, 1), (4, 1)]), (119, [.c (.f (.v (.int .i64 0))), .c (.f (.v (.int .i64 0))), .c (.f (.v (.int .i64 0))), .c (.f (.v (.int .i64 0))), .c (.f (.v (.int .i64 0)))], .fields [(0, 1), (1, 1), (2, 1), (3, 1), (4, 1)]), (120, [.c (.f (.v (.int .i64 0))), .c (.f (.v (.int .i64 0))), .c (.f (.v (.int .i64 0)))], .fields [(0, 1), (1, 1), (2, 1)]), (121, [.c (.f (.v (.int .i64 0))), .c (.f (.v (.int .i64 0))), .c (.f (.v (.int .i64 0)))], .fields [(0, 1), (1, 1), (2, 1)]), (124, [.c (.f (.v (.int .i64 0))), .c (.f (.v (.int .i64 0))), .c (.f (.v (.int .i64 0))), .c (.f (.v (.int .i64 0)))], .fields [(0, 2), (2, 1), (3, 1)]), (125, [.c (.f (.v (.int .i64 0))), .c (.f (.v (.int .i64 0))), .c (.f (.v (.int .i64 0))), .c (.f (.v (.int .i64 0)))], .fields [(0, 2), (2, 1), (3, 1)]), (136, [.c (.f .nils), .c (.f .nils)], .fields [(0, 1), (1, 1)]), (137, [.c (.f .nils), .c (.f .nils)], .fields [(0, 1), (1, 1)]), (142, [.c (.f (.v (.int .i64 0))), .c (.f (.v (.int .i64 0))), .c (.f (.v (.int .i64 0))), .c (.f (.v (.int .i64 0))), .c (.f (.v (.int .i64 0))), .c (.f (.v (.int .i64 0)))], .fields [(0, 1), (1, 1), (2, 1), (3, 1), (4, 1), (5, 1)]), (143, [.c (.f (.v (.int .i64 0))), .c (.f (.v (.int .i64 0))), .c (.f (.v (.int .i64 0))), .c (.f (.v (.int .i64 0))), .c (.f (.v (.int .i64 0))), .c (.f (.v (.int .i64 0)))], .fields [(0, 1), (1, 1), (2, 1), (3, 1), (4, 1), (5, 1)]), (146, [.c (.f .nils), .c (.f (.v (.int .i64 0)))], .fields [(0, 1), (1, 1)]), (147, [.c (.f .nils), .c (.f (.v (.int .i64 0)))], .fields [(0, 1), (1, 1)]), (155, [.c (.f (.v (.int .i64 0))), .c (.f (.v (.int .i64 0))), .c (.f (.v (.int .i64 0)))], .elems 1), (157, [.c (.f (.v (.int .i64 0))), .c (.f (.v (.int .i64 0))), .c (.f (.v (.int .i64 0))), .c (.f (.v (.int .i64 0)))], .fields [(0, 1), (1, 1), (2, 1), (3, 1)]), (158, [.c (.f (.v (.int .i64 0))), .c (.f (.v (.int .i64 0))), .c (.f (.v (.int .i64 0))), .c (.f (.v (.int .i64 0)))], .fields [(0, 1), (1, 1), (2, 1), (3, 1)]), (159, [.c (.f (.v (.bool false))), .c (.f (.v (.bool false))), .c (.f (.v (.bool false))), .c (.f (.v (.bool false)))], .elems 1), (160, [.c (.f (.v (.int .i64 0))), .c (.f (.v (.int .i64 0))), .c (.f (.v (.int .i64 0))), .c (.f (.v (.int .i64 0)))], .fields [(0, 1), (1, 1), (2, 1), (3, 1)]), (161, [.c (.f (.v (.int .i64 0))), .c (.f (.v (.int .i64 0))), .c (.f (.v (.int .i64 0))), .c (.f (.v (.int .i64 0)))], .fields [(0, 1), (1, 1), (2, 1), (3, 1)]), (162, [.c (.f (.v (.int .i64 0))), .c (.f (.v (.int .i64 0)))], .fields [(0, 1), (1, 1)]), (163, [.c (.f (.v (.int .i64 0))), .c (.f (.v (.int .i64 0)))], .fields [(0, 1), (1, 1)]), (165, [.c (.f (.v (.int .i64 0))), .c (.f (.v (.int .i64 0)))], .fields [(0, 1), (1, 1)]), (166, [.c (.f (.v (.int .i64 0))), .c (.f (.v (.int .i64 0)))], .fields [(0, 1), (1, 1)]), (173, [.c (.f (.v (.string ⟨#[]⟩))), .c (.f (.v (.int .i64 0))), .c (.f (.v (.int .i64 0)))], .fields [(0, 1), (1, 1), (2, 1)]), (174, [.c (.f (.v (.string ⟨#[]⟩))), .c (.f (.v (.int .i64 0))), .c (.f (.v (.int .i64 0)))], .fields [(0, 1), (1, 1), (2, 1)]), (189, [.c (.f .nils), .c (.f .nils)], .elems 1), (193, [.c (.f (.v (.int .i64 0))), .c (.f (.v (.int .i64 0)))], .fields [(0, 1), (1, 1)]), (194, [.c (.f (.v (.int .i64 0))), .c (.f (.v (.int .i64 0)))], .fields [(0, 1), (1, 1)]), (208, [.c (.f (.v (.int .i64 0))), .c (.f (.v (.int .i64 0)))], .fields [(0, 1), (1, 1)]), (209, [.c (.f (.v (.int .i64 0))), .c (.f (.v (.int .i64 0)))], .fields [(0, 1), (1, 1)]), (224, [.c (.f (.v (.pointer none))), .c (.f (.v (.pointer none))), .c (.f (.v (.pointer none))), .c (.f (.v (.string ⟨#[]⟩)))], .fields [(0, 1), (1, 1), (2, 1), (3, 1)]), (225, [.c (.f (.v (.pointer none))), .c (.f (.v (.pointer none))), .c (.f (.v (.pointer none))), .c (.f (.v (.string ⟨#[]⟩)))], .fields [(0, 1), (1, 1), (2, 1), (3, 1)]), (226, [], .elems 1), (227, [], .fields [(0, 0)]), (228, [], .fields [(0, 0)]), (235, [.c (.f (.v (.int .u64 0))), .c (.f (.v (.int .u64 0))), .c (.f (.v (.int .u32 0))), .c (.f (.v (.int .u8 0))), .c (.f (.v (.int .u8 0))), .c (.f (.v (.int .u8 0))), .c (.f (.v (.int .u8 0))), .c (.f (.v .nilFunc)), .c (.f (.v (.pointer none))), .c (.f (.v (.int .i32 0))), .c (.f (.v (.int .i32 0)))], .fields [(0, 1), (1, 1), (2, 1), (3, 1), (4, 1), (5, 1), (6, 1), (7, 1), (8, 1), (9, 1), (10, 1)]), (236, [.c (.f (.v (.int .u64 0))), .c (.f (.v (.int .u64 0))), .c (.f (.v (.int .u32 0))), .c (.f (.v (.int .u8 0))), .c (.f (.v (.int .u8 0))), .c (.f (.v (.int .u8 0))), .c (.f (.v (.int .u8 0))), .c (.f (.v .nilFunc)), .c (.f (.v (.pointer none))), .c (.f (.v (.int .i32 0))), .c (.f (.v (.int .i32 0)))], .fields [(0, 1), (1, 1), (2, 1), (3, 1), (4, 1), (5, 1), (6, 1), (7, 1), (8, 1), (9, 1), (10, 1)])]
def t_ze : List (Nat × List SC) := [(2, [.c (.f (.v (.int .i64 0)))]), (3, [.c (.f (.v (.int .i64 0)))]), (4, [.c (.f (.v (.bool false)))]), (5, [.c (.f (.v (.int .u8 0)))]), (6, [.c (.f (.v (.int .u8 0)))]), (7, [.c (.f (.v (.int .i64 0))), .c (.f (.v (.int .i64 0))), .c (.f (.v (.bool false))), .c (.f (.v (.int .u8 0)))]), (8, [.c (.f (.v (.int .i64 0))), .c (.f (.v (.int .i64 0))), .c (.f (.v (.bool false))), .c (.f (.v (.int .u8 0)))]), (9, [.c (.f (.v (.string ⟨#[]⟩)))]), (10, [.c (.f (.v (.string ⟨#[]⟩)))]), (11, [.c (.f (.v (.string ⟨#[]⟩)))]), (12, [.c (.f (.v (.int .u64 0)))]), (13, [.c (.f (.v (.string ⟨#[]⟩))), .c (.f (.v (.int .u64 0)))]), (14, [.c (.f (.v (.string ⟨#[]⟩))), .c (.f (.v (.int .u64 0)))]), (15, [.c (.f (.v (.pointer none)))]), (16, [.c (.f (.v (.pointer none)))]), (17, [.c (.f (.v (.pointer none)))]), (18, [.c (.f (.v (.pointer none)))]), (19, [.c (.f (.v (.pointer none)))]), (21, [.c (.f (.v (.int .i32 0)))]), (22, [.c (.f .nils)]), (23, [.c (.f .nils)]), (24, [.c (.f .nils)]), (25, [.c (.f .nils)]), (26, [.c (.f .nils), .c (.f .nils), .c (.f .nils), .c (.f .nils)]), (27, [.c (.f .nils), .c (.f .nils), .c (.f .nils), .c (.f .nils)]), (28, [.c (.f .nils)]), (29, [.c (.f .nils), .c (.f (.v (.int .i64 0)))]), (30, [.c (.f .nils), .c (.f (.v (.int .i64 0)))]), (31, [.c (.f (.v (.string ⟨#[]⟩))), .c (.f (.v (.int .i64 0))), .c (.f (.v (.int .i64 0))), .c (.f (.v (.int .i64 0))), .c (.f (.v (.int .i64 0)))]), (32, [.c (.f (.v (.string ⟨#[]⟩))), .c (.f (.v (.int .i64 0))), .c (.f (.v (.int .i64 0))), .c (.f (.v (.int .i64 0))), .c (.f (.v (.int .i64 0)))]), (35, [.c (.f (.v (.int .i64 0))), .c (.f (.v (.int .i64 0))), .c (.f .nils), .c (.f .nils), .c (.f .nils), .c (.f (.v (.int .i64 0))), .c (.f (.v (.int .i64 0)))]), (36, [.c (.f (.v (.int .i64 0))), .c (.f (.v (.int .i64 0))), .c (.f .nils), .c (.f .nils), .c (.f .nils), .c (.f (.v (.int .i64 0))), .c (.f (.v (.int .i64 0)))]), (37, [.c (.f (.v (.int .i64 0)))]), (45, [.c (.f .nils)]), (48, [.c (.f (.v (.int .i64 0))), .c (.f (.v (.int .i64 0))), .c (.f (.v (.int .i64 0)))]), (49, [.c (.f (.v (.int .i64 0))), .c (.f (.v (.int .i64 0))), .c (.f (.v (.int .i64 0)))]), (50, [.c (.f (.v (.int .i64 0))), .c (.f (.v (.int .i64 0)))]), (51, [.c (.f (.v (.int .i64 0))), .c (.f (.v (.int .i64 0)))]), (53, [.c (.f (.v (.pointer none)))]), (57, [.c (.f .nils)]), (61, [.c (.f (.v (.int .i64 0))), .c (.f (.v (.int .i64 0))), .c (.f (.v (.int .i64 0))), .c (.f (.v (.int .i64 0)))]), (62, [.c (.f (.v (.int .i64 0))), .c (.f (.v (.int .i64 0))), .c (.f (.v (.int .i64 0))), .c (.f (.v (.int .i64 0)))]), (65, [.c (.f .nils)]), (69, [.c (.f (.v (.pointer none)))]), (71, [.c (.f .nils)]), (72, [.c (.f .nils)]), (73, [.c (.f .nils)]), (74, [.c (.f .nils)]), (75, [.c (.f .nils)]), (76, [.c (.f .nils)]), (77, [.c (.f .nils)]), (78, [.c (.f (.v (.int .i64 0))), .c (.f .nils), .c (.f .nils), .c (.f .nils), .c (.f .nils), .c (.f .nils), .c (.f .nils), .c (.f .nils)]), (79, [.c (.f (.v (.int .i64 0))), .c (.f .nils), .c (.f .nils), .c (.f .nils), .c (.f .nils), .c (.f .nils), .c (.f .nils), .c (.f .nils)]), (89, (List.replicate 144 (.c (.f (.v (.bool false)))))), (92, [.c (.f .nils), .c (.f (.v (.int .i64 0)))]), (93, [.c (.f .nils), .c (.f (.v (.int .i64 0)))]), (94, [.c (.f (.v (.int .u64 0)))]), (99, [.c (.f (.v (.int .i64 0))), .c (.f .nils), .c (.f (.v (.int .i64 0))), .c (.f (.v (.int .i64 0)))]), (100, [.c (.f (.v (.int .i64 0))), .c (.f .nils), .c (.f (.v (.int .i64 0))), .c (.f (.v (.int .i64 0)))]), (101, [.c (.f .nils)]), (102, [.c (.f (.v (.pointer none)))]), (105, [.c (.f (.v (.pointer none)))]), (106, [.c (.f .nils)]), (107, [.c (.f .nils), .c (.f .nils), .c (.f .nils), .c (.f .nils), .c (.f .nils), .c (.f .nils), .c (.f .nils)]), (108, [.c (.f .nils), .c (.f .nils), .c (.f .nils), .c (.f .nils), .c (.f .nils), .c (.f .nils), .c (.f .nils)]), (110, [.c (.f (.v (.int .i64 0))), .c (.f (.v (.int .i64 0))), .c (.f (.v (.int .i64 0))), .c (.f (.v (.int .i64 0))), .c (.f (.v (.int .i64 0))), .c (.f (.v (.int .i64 0))), .c (.f (.v (.int .i64 0)))]), (111, [.c (.f (.v (.int .i64 0))), .c (.f (.v (.int .i64 0))), .c (.f (.v (.int .i64 0))), .c (.f (.v (.int .i64 0))), .c (.f (.v (.int .i64 0))), .c (.f (.v (.int .i64 0))), .c (.f (.v (.int .i64 0)))]), (112, [.c (.f .nils)]), (113, [.c (.f (.v (.string ⟨#[]⟩))), .c (.f (.v (.int .i64 0))), .c (.f (.v (.int .i64 0))), .c (.f .nils)]), (114, [.c (.f (.v (.string ⟨#[]⟩))), .c (.f (.v (.int .i64 0))), .c (.f (.v (.int .i64 0))), .c (.f .nils)]), (115, [.c (.f (.v (.string ⟨#[]⟩))), .c (.f (.v (.int .i64 0))), .c (.f (.v (.int .i64 0))), .c (.f (.v (.int .i64 0))), .c (.f (.v (.int .i64 0)))]), (116, [.c (.f (.v (.string ⟨#[]⟩))), .c (.f (.v (.int .i64 0))), .c (.f (.v (.int .i64 0))), .c (.f (.v (.int .i64 0))), .c (.f (.v (.int .i64 0)))]), (118, [.c (.f (.v (.int .i64 0))), .c (.f (.v (.int .i64 0))), .c (.f (.v (.int .i64 0))), .c (.f (.v (.int .i64 0))), .c (.f (.v (.int .i64 0)))]), (119, [.c (.f (.v (.int .i64 0))), .c (.f (.v (.int .i64 0))), .c (.f (.v (.int .i64 0))), .c (.f (.v (.int .i64 0))), .c (.f (.v (.int .i64 0)))]), (120, [.c (.f (.v (.int .i64 0))), .c (.f (.v (.int .i64 0))), .c (.f (.v (.int .i64 0)))]), (121, [.c (.f (.v (.int .i64 0))), .c (.f (.v (.int .i64 0))), .c (.f (.v (.int .i64 0)))]), (122, [.c (.f .nils)]), (124, [.c (.f (.v (.int .i64 0))), .c (.f (.v (.int .i64 0))), .c (.f (.v (.int .i64 0))), .c (.f (.v (.int .i64 0)))]), (125, [.c (.f (.v (.int .i64 0))), .c (.f (.v (.int .i64 0))), .c (.f (.v (.int .i64 0))), .c (.f (.v (.int .i64 0)))]), (126, [.c (.f .nils)]), (135, [.c (.f (.v (.pointer none)))]), (136, [.c (.f .nils), .c (.f .nils)]), (137, [.c (.f .nils), .c (.f .nils)]), (142, [.c (.f (.v (.int .i64 0))), .c (.f (.v (.int .i64 0))), .c (.f (.v (.int .i64 0))), .c (.f (.v (.int .i64 0))), .c (.f (.v (.int .i64 0))), .c (.f (.v (.int .i64 0)))]), (143, [.c (.f (.v (.int .i64 0))), .c (.f (.v (.int .i64 0))), .c (.f (.v (.int .i64 0))), .c (.f (.v (.int .i64 0))), .c (.f (.v (.int .i64 0))), .c (.f (.v (.int .i64 0)))]), (146, [.c (.f .nils), .c (.f (.v (.int .i64 0)))]), (147, [.c (.f .nils), .c (.f (.v (.int .i64 0)))]), (155, [.c (.f (.v (.int .i64 0))), .c (.f (.v (.int .i64 0))), .c (.f (.v (.int .i64 0)))]), (157, [.c (.f (.v (.int .i64 0))), .c (.f (.v (.int .i64 0))), .c (.f (.v (.int .i64 0))), .c (.f (.v (.int .i64 0)))]), (158, [.c (.f (.v (.int .i64 0))), .c (.f (.v (.int .i64 0))), .c (.f (.v (.int .i64 0))), .c (.f (.v (.int .i64 0)))]), (159, [.c (.f (.v (.bool false))), .c (.f (.v (.bool false))), .c (.f (.v (.bool false))), .c (.f (.v (.bool false)))]), (160, [.c (.f (.v (.int .i64 0))), .c (.f (.v (.int .i64 0))), .c (.f (.v (.int .i64 0))), .c (.f (.v (.int .i64 0)))]), (161, [.c (.f (.v (.int .i64 0))), .c (.f (.v (.int .i64 0))), .c (.f (.v (.int .i64 0))), .c (.f (.v (.int .i64 0)))]), (162, [.c (.f (.v (.int .i64 0))), .c (.f (.v (.int .i64 0)))]), (163, [.c (.f (.v (.int .i64 0))), .c (.f (.v (.int .i64 0)))]), (165, [.c (.f (.v (.int .i64 0))), .c (.f (.v (.int .i64 0)))]), (166, [.c (.f (.v (.int .i64 0))), .c (.f (.v (.int .i64 0)))]), (167, [.c (.f .nils)]), (171, [.c (.f (.v (.pointer none)))]), (172, [.c (.f .nils)]), (173, [.c (.f (.v (.string ⟨#[]⟩))), .c (.f (.v (.int .i64 0))), .c (.f (.v (.int .i64 0)))]), (174, [.c (.f (.v (.string ⟨#[]⟩))), .c (.f (.v (.int .i64 0))), .c (.f (.v (.int .i64 0)))]), (189, [.c (.f .nils), .c (.f .nils)]), (193, [.c (.f (.v (.int .i64 0))), .c (.f (.v (.int .i64 0)))]), (194, [.c (.f (.v (.int .i64 0))), .c (.f (.v (.int .i64 0)))]), (206, [.c (.f .nils)]), (208, [.c (.f (.v (.int .i64 0))), .c (.f (.v (.int .i64 0)))]), (209, [.c (.f (.v (.int .i64 0))), .c (.f (.v (.int .i64 0)))]), (212, [.c (.f (.v (.pointer none)))]), (217, [.c (.f (.v (.int .u32 0)))]), (220, [.c (.f (.v (.int .u64 0)))]), (224, [.c (.f (.v (.pointer none))), .c (.f (.v (.pointer none))), .c (.f (.v (.pointer none))), .c (.f (.v (.string ⟨#[]⟩)))]), (225, [.c (.f (.v (.pointer none))), .c (.f (.v (.pointer none))), .c (.f (.v (.pointer none))), .c (.f (.v (.string ⟨#[]⟩)))]), (229, [.c (.f (.v (.int .u8 0)))]), (230, [.c (.f (.v (.int .u8 0)))]), (232, [.c (.f (.v (.pointer none)))]), (233, [.c (.f (.v (.int .i32 0)))]), (234, [.c (.f (.v (.int .i32 0)))]), (235, [.c (.f (.v (.int .u64 0))), .c (.f (.v (.int .u64 0))), .c (.f (.v (.int .u32 0))), .c (.f (.v (.int .u8 0))), .c (.f (.v (.int .u8 0))), .c (.f (.v (.int .u8 0))), .c (.f (.v (.int .u8 0))), .c (.f (.v .nilFunc)), .c (.f (.v (.pointer none))), .c (.f (.v (.int .i32 0))), .c (.f (.v (.int .i32 0)))]), (236, [.c (.f (.v (.int .u64 0))), .c (.f (.v (.int .u64 0))), .c (.f (.v (.int .u32 0))), .c (.f (.v (.int .u8 0))), .c (.f (.v (.int .u8 0))), .c (.f (.v (.int .u8 0))), .c (.f (.v (.int .u8 0))), .c (.f (.v .nilFunc)), .c (.f (.v (.pointer none))), .c (.f (.v (.int .i32 0))), .c (.f (.v (.int .i32 0)))]), (237, [.c (.f (.v (.pointer none)))])]
def t_st : List Nat := [9, 10, 11]
def t_it : List (Nat × IntKind) := [(2, .i64), (3, .i64), (5, .u8), (6, .u8), (12, .u64), (21, .i32), (37, .i64), (94, .u64), (217, .u32), (220, .u64), (229, .u8), (230, .u8), (233, .i32), (234, .i32)]
def t_sl : List (Nat × Nat) := [(22, 3), (23, 9), (24, 116), (25, 143), (28, 51), (45, 49), (57, 62), (65, 100), (71, 32), (72, 30), (73, 114), (74, 111), (75, 161), (76, 119), (77, 121), (101, 4), (106, 22), (112, 158), (122, 125), (126, 166), (167, 172), (172, 174), (206, 25)]
theorem eq_32 : EqOk Tryz.prog 32 [.s, .i, .i, .i, .i] := ⟨by kernel_rfl, fun vs us r h0 => by
 obtain ⟨a0, vs, b0, us, r0, rfl, rfl, h1, rfl⟩ := eqV_s h0
 obtain ⟨a1, vs, b1, us, r1, rfl, rfl, h2, rfl⟩ := eqV_i h1
 obtain ⟨a2, vs, b2, us, r2, rfl, rfl, h3, rfl⟩ := eqV_i h2
 obtain ⟨a3, vs, b3, us, r3, rfl, rfl, h4, rfl⟩ := eqV_i h3
 obtain ⟨a4, vs, b4, us, r4, rfl, rfl, h5, rfl⟩ := eqV_i h4
 obtain ⟨rfl, rfl, rfl⟩ := eqV_nil h5
 intro w
 clear h0
 constructor <;> simp [go_sem] <;> (repeat' split) <;> simp_all⟩
theorem eq_49 : EqOk Tryz.prog 49 [.i, .i, .i] := ⟨by kernel_rfl, fun vs us r h0 => by
 obtain ⟨a0, vs, b0, us, r0, rfl, rfl, h1, rfl⟩ := eqV_i h0
 obtain ⟨a1, vs, b1, us, r1, rfl, rfl, h2, rfl⟩ := eqV_i h1
 obtain ⟨a2, vs, b2, us, r2, rfl, rfl, h3, rfl⟩ := eqV_i h2
 obtain ⟨rfl, rfl, rfl⟩ := eqV_nil h3
 intro w
 clear h0
 constructor <;> simp [go_sem] <;> (repeat' split) <;> simp_all⟩
theorem eq_51 : EqOk Tryz.prog 51 [.i, .i] := ⟨by kernel_rfl, fun vs us r h0 => by
 obtain ⟨a0, vs, b0, us, r0, rfl, rfl, h1, rfl⟩ := eqV_i h0
 obtain ⟨a1, vs, b1, us, r1, rfl, rfl, h2, rfl⟩ := eqV_i h1
 obtain ⟨rfl, rfl, rfl⟩ := eqV_nil h2
 intro w
 clear h0
 constructor <;> simp [go_sem] <;> (repeat' split) <;> simp_all⟩
theorem eq_62 : EqOk Tryz.prog 62 [.i, .i, .i, .i] := ⟨by kernel_rfl, fun vs us r h0 => by
 obtain ⟨a0, vs, b0, us, r0, rfl, rfl, h1, rfl⟩ := eqV_i h0
 obtain ⟨a1, vs, b1, us, r1, rfl, rfl, h2, rfl⟩ := eqV_i h1
 obtain ⟨a2, vs, b2, us, r2, rfl, rfl, h3, rfl⟩ := eqV_i h2
 obtain ⟨a3, vs, b3, us, r3, rfl, rfl, h4, rfl⟩ := eqV_i h3
 obtain ⟨rfl, rfl, rfl⟩ := eqV_nil h4
 intro w
 clear h0
 constructor <;> simp [go_sem] <;> (repeat' split) <;> simp_all⟩
theorem eq_111 : EqOk Tryz.prog 111 [.i, .i, .i, .i, .i, .i, .i] := ⟨by kernel_rfl, fun vs us r h0 => by
 obtain ⟨a0, vs, b0, us, r0, rfl, rfl, h1, rfl⟩ := eqV_i h0
 obtain ⟨a1, vs, b1, us, r1, rfl, rfl, h2, rfl⟩ := eqV_i h1
 obtain ⟨a2, vs, b2, us, r2, rfl, rfl, h3, rfl⟩ := eqV_i h2
 obtain ⟨a3, vs, b3, us, r3, rfl, rfl, h4, rfl⟩ := eqV_i h3
 obtain ⟨a4, vs, b4, us, r4, rfl, rfl, h5, rfl⟩ := eqV_i h4
 obtain ⟨a5, vs, b5, us, r5, rfl, rfl, h6, rfl⟩ := eqV_i h5
 obtain ⟨a6, vs, b6, us, r6, rfl, rfl, h7, rfl⟩ := eqV_i h6
 obtain ⟨rfl, rfl, rfl⟩ := eqV_nil h7
 intro w
 clear h0
 constructor <;> simp [go_sem] <;> (repeat' split) <;> simp_all⟩
theorem eq_116 : EqOk Tryz.prog 116 [.s, .i, .i, .i, .i] := ⟨by kernel_rfl, fun vs us r h0 => by
 obtain ⟨a0, vs, b0, us, r0, rfl, rfl, h1, rfl⟩ := eqV_s h0
 obtain ⟨a1, vs, b1, us, r1, rfl, rfl, h2, rfl⟩ := eqV_i h1
 obtain ⟨a2, vs, b2, us, r2, rfl, rfl, h3, rfl⟩ := eqV_i h2
 obtain ⟨a3, vs, b3, us, r3, rfl, rfl, h4, rfl⟩ := eqV_i h3
 obtain ⟨a4, vs, b4, us, r4, rfl, rfl, h5, rfl⟩ := eqV_i h4
 obtain ⟨rfl, rfl, rfl⟩ := eqV_nil h5
 intro w
 clear h0
 constructor <;> simp [go_sem] <;> (repeat' split) <;> simp_all⟩
theorem eq_119 : EqOk Tryz.prog 119 [.i, .i, .i, .i, .i] := ⟨by kernel_rfl, fun vs us r h0 => by
 obtain ⟨a0, vs, b0, us, r0, rfl, rfl, h1, rfl⟩ := eqV_i h0
 obtain ⟨a1, vs, b1, us, r1, rfl, rfl, h2, rfl⟩ := eqV_i h1
 obtain ⟨a2, vs, b2, us, r2, rfl, rfl, h3, rfl⟩ := eqV_i h2
 obtain ⟨a3, vs, b3, us, r3, rfl, rfl, h4, rfl⟩ := eqV_i h3
 obtain ⟨a4, vs, b4, us, r4, rfl, rfl, h5, rfl⟩ := eqV_i h4
 obtain ⟨rfl, rfl, rfl⟩ := eqV_nil h5
 intro w
 clear h0
 constructor <;> simp [go_sem] <;> (repeat' split) <;> simp_all⟩
theorem eq_121 : EqOk Tryz.prog 121 [.i, .i, .i] := ⟨by kernel_rfl, fun vs us r h0 => by
 obtain ⟨a0, vs, b0, us, r0, rfl, rfl, h1, rfl⟩ := eqV_i h0
 obtain ⟨a1, vs, b1, us, r1, rfl, rfl, h2, rfl⟩ := eqV_i h1
 obtain ⟨a2, vs, b2, us, r2, rfl, rfl, h3, rfl⟩ := eqV_i h2
 obtain ⟨rfl, rfl, rfl⟩ := eqV_nil h3
 intro w
 clear h0
 constructor <;> simp [go_sem] <;> (repeat' split) <;> simp_all⟩
theorem eq_143 : EqOk Tryz.prog 143 [.i, .i, .i, .i, .i, .i] := ⟨by kernel_rfl, fun vs us r h0 => by
 obtain ⟨a0, vs, b0, us, r0, rfl, rfl, h1, rfl⟩ := eqV_i h0
 obtain ⟨a1, vs, b1, us, r1, rfl, rfl, h2, rfl⟩ := eqV_i h1
 obtain ⟨a2, vs, b2, us, r2, rfl, rfl, h3, rfl⟩ := eqV_i h2
 obtain ⟨a3, vs, b3, us, r3, rfl, rfl, h4, rfl⟩ := eqV_i h3
 obtain ⟨a4, vs, b4, us, r4, rfl, rfl, h5, rfl⟩ := eqV_i h4
 obtain ⟨a5, vs, b5, us, r5, rfl, rfl, h6, rfl⟩ := eqV_i h5
 obtain ⟨rfl, rfl, rfl⟩ := eqV_nil h6
 intro w
 clear h0
 constructor <;> simp [go_sem] <;> (repeat' split) <;> simp_all⟩
theorem eq_158 : EqOk Tryz.prog 158 [.i, .i, .i, .i] := ⟨by kernel_rfl, fun vs us r h0 => by
 obtain ⟨a0, vs, b0, us, r0, rfl, rfl, h1, rfl⟩ := eqV_i h0
 obtain ⟨a1, vs, b1, us, r1, rfl, rfl, h2, rfl⟩ := eqV_i h1
 obtain ⟨a2, vs, b2, us, r2, rfl, rfl, h3, rfl⟩ := eqV_i h2
 obtain ⟨a3, vs, b3, us, r3, rfl, rfl, h4, rfl⟩ := eqV_i h3
 obtain ⟨rfl, rfl, rfl⟩ := eqV_nil h4
 intro w
 clear h0
 constructor <;> simp [go_sem] <;> (repeat' split) <;> simp_all⟩
theorem eq_161 : EqOk Tryz.prog 161 [.i, .i, .i, .i] := ⟨by kernel_rfl, fun vs us r h0 => by
 obtain ⟨a0, vs, b0, us, r0, rfl, rfl, h1, rfl⟩ := eqV_i h0
 obtain ⟨a1, vs, b1, us, r1, rfl, rfl, h2, rfl⟩ := eqV_i h1
 obtain ⟨a2, vs, b2, us, r2, rfl, rfl, h3, rfl⟩ := eqV_i h2
 obtain ⟨a3, vs, b3, us, r3, rfl, rfl, h4, rfl⟩ := eqV_i h3
 obtain ⟨rfl, rfl, rfl⟩ := eqV_nil h4
 intro w
 clear h0
 constructor <;> simp [go_sem] <;> (repeat' split) <;> simp_all⟩
theorem eq_163 : EqOk Tryz.prog 163 [.i, .i] := ⟨by kernel_rfl, fun vs us r h0 => by
 obtain ⟨a0, vs, b0, us, r0, rfl, rfl, h1, rfl⟩ := eqV_i h0
 obtain ⟨a1, vs, b1, us, r1, rfl, rfl, h2, rfl⟩ := eqV_i h1
 obtain ⟨rfl, rfl, rfl⟩ := eqV_nil h2
 intro w
 clear h0
 constructor <;> simp [go_sem] <;> (repeat' split) <;> simp_all⟩
theorem eq_166 : EqOk Tryz.prog 166 [.i, .i] := ⟨by kernel_rfl, fun vs us r h0 => by
 obtain ⟨a0, vs, b0, us, r0, rfl, rfl, h1, rfl⟩ := eqV_i h0
 obtain ⟨a1, vs, b1, us, r1, rfl, rfl, h2, rfl⟩ := eqV_i h1
 obtain ⟨rfl, rfl, rfl⟩ := eqV_nil h2
 intro w
 clear h0
 constructor <;> simp [go_sem] <;> (repeat' split) <;> simp_all⟩
theorem eq_174 : EqOk Tryz.prog 174 [.s, .i, .i] := ⟨by kernel_rfl, fun vs us r h0 => by
 obtain ⟨a0, vs, b0, us, r0, rfl, rfl, h1, rfl⟩ := eqV_s h0
 obtain ⟨a1, vs, b1, us, r1, rfl, rfl, h2, rfl⟩ := eqV_i h1
 obtain ⟨a2, vs, b2, us, r2, rfl, rfl, h3, rfl⟩ := eqV_i h2
 obtain ⟨rfl, rfl, rfl⟩ := eqV_nil h3
 intro w
 clear h0
 constructor <;> simp [go_sem] <;> (repeat' split) <;> simp_all⟩
theorem eq_194 : EqOk Tryz.prog 194 [.i, .i] := ⟨by kernel_rfl, fun vs us r h0 => by
 obtain ⟨a0, vs, b0, us, r0, rfl, rfl, h1, rfl⟩ := eqV_i h0
 obtain ⟨a1, vs, b1, us, r1, rfl, rfl, h2, rfl⟩ := eqV_i h1
 obtain ⟨rfl, rfl, rfl⟩ := eqV_nil h2
 intro w
 clear h0
 constructor <;> simp [go_sem] <;> (repeat' split) <;> simp_all⟩
theorem eq_209 : EqOk Tryz.prog 209 [.i, .i] := ⟨by kernel_rfl, fun vs us r h0 => by
 obtain ⟨a0, vs, b0, us, r0, rfl, rfl, h1, rfl⟩ := eqV_i h0
 obtain ⟨a1, vs, b1, us, r1, rfl, rfl, h2, rfl⟩ := eqV_i h1
 obtain ⟨rfl, rfl, rfl⟩ := eqV_nil h2
 intro w
 clear h0
 constructor <;> simp [go_sem] <;> (repeat' split) <;> simp_all⟩
def t_eq : List (Nat × List EK) := [(32, [.s, .i, .i, .i, .i]), (49, [.i, .i, .i]), (51, [.i, .i]), (62, [.i, .i, .i, .i]), (111, [.i, .i, .i, .i, .i, .i, .i]), (116, [.s, .i, .i, .i, .i]), (119, [.i, .i, .i, .i, .i]), (121, [.i, .i, .i]), (143, [.i, .i, .i, .i, .i, .i]), (158, [.i, .i, .i, .i]), (161, [.i, .i, .i, .i]), (163, [.i, .i]), (166, [.i, .i]), (174, [.s, .i, .i]), (194, [.i, .i]), (209, [.i, .i])]
def t_cb : List (Nat × Nat) := []
def tab : Tb := ⟨t_sz, t_fo, t_fa, t_es, t_ms, t_bi, t_ze, t_st, t_it, t_sl, t_eq, t_cb⟩
theorem tabOk : tab.Ok Tryz.prog := ⟨by kernel_rfl, by kernel_rfl, by kernel_rfl, by kernel_rfl, by kernel_rfl, by kernel_rfl, by kernel_rfl, by kernel_rfl, by kernel_rfl, by kernel_rfl, ⟨eq_32, eq_49, eq_51, eq_62, eq_111, eq_116, eq_119, eq_121, eq_143, eq_158, eq_161, eq_163, eq_166, eq_174, eq_194, eq_209, trivial⟩, by kernel_rfl⟩
def els : El := ⟨[(22, eInt), (23, eStr), (24, eSec), (25, eLnk), (28, eStp), (45, eOcc), (57, eLeg), (65, eStg), (101, eBool), (122, eHop), (126, eCell), (172, eWrd)], [(89, 144, eBool), (155, 3, eInt), (159, 4, eBool)]⟩
theorem elsOk : els.Ok Tryz.prog := ⟨by kernel_rfl, ⟨⟨fun _ => rfl, by decide⟩, ⟨fun _ => rfl, by decide⟩, ⟨fun _ => rfl, by decide⟩, ⟨fun _ => rfl, by decide⟩, ⟨fun _ => rfl, by decide⟩, ⟨fun _ => rfl, by decide⟩, ⟨fun _ => rfl, by decide⟩, ⟨fun _ => rfl, by decide⟩, ⟨fun _ => rfl, by decide⟩, ⟨fun _ => rfl, by decide⟩, ⟨fun _ => rfl, by decide⟩, ⟨fun _ => rfl, by decide⟩, trivial⟩, by kernel_rfl⟩
theorem mixedX : Tryz.prog.follows .mixedOrders = true := by kernel_rfl
theorem X_run {ops : Array Oper} {rest : List Oper} {l : SL} {H : SH} {R : Rg} {rest' : List Oper} {l' : SL} {H' : SH} {R' : Rg} {p : Prop} (h : run1 tab els ops rest l H R = some ⟨rest', l', H', R', p⟩) (hp : p) (hk : WR Tryz.prog ops rest' (SS l' H') R') : WR Tryz.prog ops rest (SS l H) R := run1_ok tabOk elsOk h hp hk
inductive Rex : Prop → Prop → Prop where
 | go {n0 : Nat} {c : Code} {l : SL} {H : SH} {K : AExit → St → Prop} {q : Prop} (h : wC1 Tryz.prog tab els n0 c l H K = some q) : Rex (W Tryz.prog (DR Tryz.prog) n0 c (SS l H) K) q
 | rest {ops : Array Oper} {rest : List Oper} {l : SL} {H : SH} {R : Rg} {q : Prop} (h : wR1 Tryz.prog tab els ops rest l H R = some q) : Rex (WR Tryz.prog ops rest (SS l H) R) q
 | ret {fn : Func} {r : SV} {H' : SH} {e : AExit} {l : SL} {H : SH} {ys : List ST} (hy : resE tab l H fn.results.toList e = some ys) : Rex (Ret Tryz.prog fn r.den (denH H') e (SS l H)) ((packS ys).den = r.den ∧ TkEq H H')
 | retP {fn : Func} {r : SV} {e : AExit} {l : SL} {H : SH} {v : SV} {p : Prop} (hy : fzE tab l H fn.results.toList e = some ⟨[], [(0, .v v)], [], .plain (fun _ => True), p⟩) : Rex (RetP Tryz.prog fn r.den e (SS l H)) (p ∧ v.den = r.den)
theorem Rex.o {A B : Prop} (h : Rex A B) (b : B) : A := by
 cases h with
 | go h => exact wC1_go tabOk elsOk h b
 | rest h => exact wR1_go tabOk elsOk h b
 | ret hy =>
  obtain ⟨h1, rfl | rfl⟩ := resE_eq hy
  ·exact X_ret tabOk trivial rfl h1 b.1 b.2
  ·exact X_ret tabOk trivial rfl h1 b.1 b.2
 | retP hy =>
  obtain ⟨h1, rfl | rfl⟩ := fzE_eq hy
  ·exact X_retP tabOk trivial rfl h1 b.1 b.2
  ·exact X_retP tabOk trivial rfl h1 b.1 b.2
def isSp (b : UInt8) : Bool := decide (b.toNat = 32) || decide (b.toNat = 9)
def isPlN (c : Nat) : Bool := decide (33 ≤ c) && decide (c ≤ 126) && decide (c ≠ 35)
def isPl (b : UInt8) : Bool := isPlN b.toNat
def bL (l : List UInt8) : ByteArray := ⟨l.toArray⟩
structure PW where
 tx : List UInt8
 ln : Int
 co : Int
def PW.w (p : PW) : Wrd := ⟨bL p.tx, p.ln, p.co⟩
def addLast : List PW → UInt8 → List PW
 | [], _ => []
 | [w], b => [⟨w.tx ++ [b], w.ln, w.co⟩]
 | w :: u :: l, b => w :: addLast (u :: l) b
def wStep (s : List UInt8) (ln : Int) (ws : List PW) (i : Nat) : List PW :=
 if isSp (s.getD i 0) then ws else if 0 < i ∧ isPl (s.getD (i - 1) 0) = true then addLast ws (s.getD i 0) else ws ++ [⟨[s.getD i 0], ln, i + 1⟩]
def wUpto (s : List UInt8) (ln : Int) : Nat → List PW
 | 0 => []
 | i + 1 => wStep s ln (wUpto s ln i) i
def wOne (s : List UInt8) (ln : Int) : List PW := wUpto s ln s.length
def okLine (s : List UInt8) : Bool := s.all fun b => isSp b || isPl b
def lineLen (s : List UInt8) : Nat := (s.takeWhile fun b => b != 10).length
def linesF : Nat → List UInt8 → Int → List (List PW)
 | 0, _, _ => []
 | n + 1, s, ln => if s = [] then [] else
  let l := wOne (s.take (lineLen s)) ln
  (if l = [] then [] else [l]) ++ linesF n (s.drop (lineLen s + 1)) (ln + 1)
def digit (b : UInt8) : Bool := decide (48 ≤ b.toNat) && decide (b.toNat ≤ 57)
def okNum (l : List UInt8) : Bool := decide (1 ≤ l.length) && decide (l.length ≤ 12) && l.all digit && (decide (l.length = 1) || !(l.getD 0 0 == 48))
def numL (l : List UInt8) : Int := l.foldl (fun n b => 10 * n + ((b.toNat : Int) - 48)) 0
def placeL : List ByteArray → List UInt8 → Int
 | [], _ => -1
 | x :: l, s => if x.data.toList = s then 0 else let r := placeL l s; if r < 0 then -1 else r + 1
def endL (s : List UInt8) : Int := if s = [65] then 0 else if s = [66] then 1 else -1
def declL (L : Lay) (w : List PW) : Option Lay :=
 match w.map PW.tx with
 | [k, a] => if k = [115, 116, 97, 116, 105, 111, 110] then some { L with sts := L.sts ++ [bL a] } else none
 | [k, a, b, c, d] =>
  if k = [115, 101, 99, 116, 105, 111, 110] then
   if okNum b && okNum c && okNum d then some { L with secs := L.secs ++ [⟨bL a, numL b, numL c, numL d, -1⟩] } else none
  else if k = [108, 105, 110, 107] then
   if 0 ≤ endL b ∧ 0 ≤ endL d ∧ 0 ≤ placeL (L.secs.map Sec.nm) a ∧ 0 ≤ placeL (L.secs.map Sec.nm) c then some { L with lnks := L.lnks ++ [⟨placeL (L.secs.map Sec.nm) a, endL b, placeL (L.secs.map Sec.nm) c, endL d, -1, 0⟩] } else none
  else none
 | [k, a, b, c, d, e, f] =>
  if k = [115, 101, 99, 116, 105, 111, 110] ∧ e = [97, 116] ∧ (okNum b && okNum c && okNum d) = true ∧ 0 ≤ placeL L.sts f then some { L with secs := L.secs ++ [⟨bL a, numL b, numL c, numL d, placeL L.sts f⟩] } else none
 | _ => none
def declsL : Lay → List (List PW) → Option Lay
 | L, [] => some L
 | L, w :: l => match declL L w with
  | some L' => declsL L' l
  | none => none
def parseL (s : List UInt8) : Option Lay := declsL ⟨[], [], [], []⟩ (linesF (s.length + 1) s 1)
theorem addLast_len : ∀ (l : List PW) (b : UInt8), (addLast l b).length = l.length
 | [], _ => rfl
 | [w], _ => rfl
 | w :: u :: l, b => by simp only [addLast, List.length_cons, addLast_len (u :: l) b]
theorem addLast_snoc : ∀ (l : List PW) (w : PW) (b : UInt8), addLast (l ++ [w]) b = l ++ [⟨w.tx ++ [b], w.ln, w.co⟩]
 | [], w, b => rfl
 | [u], w, b => rfl
 | u :: v :: l, w, b => by
  have := addLast_snoc (v :: l) w b
  simp only [List.cons_append, addLast] at this ⊢
  rw [this]
theorem wUpto_len (s : List UInt8) (ln : Int) : ∀ i, (wUpto s ln i).length ≤ i
 | 0 => Nat.le_refl _
 | i + 1 => by
  have := wUpto_len s ln i
  unfold wUpto wStep
  split
  ·omega
  ·split
   ·rw [addLast_len]; omega
   ·simp; omega
theorem isPl_of {b : UInt8} (h : (isSp b || isPl b) = true) (h2 : ¬ isSp b = true) : isPl b = true := by
 rcases Bool.or_eq_true _ _ ▸ h with h | h
 ·exact absurd h h2
 ·exact h
theorem isPl_not {b : UInt8} (h : isPl b = true) : ¬ isSp b = true := by
 unfold isPl isPlN at h
 unfold isSp
 simp only [Bool.and_eq_true, decide_eq_true_eq, Bool.or_eq_true] at h ⊢
 omega
theorem wUpto_ne {s : List UInt8} (ln : Int) : ∀ {i : Nat}, 0 < i → isPl (s.getD (i - 1) 0) = true → wUpto s ln i ≠ []
 | i + 1, _, h => by
  intro e
  have hl : (wUpto s ln (i + 1)).length = 0 := by rw [e]; rfl
  unfold wUpto wStep at hl
  rw [Nat.add_sub_cancel] at h
  rw [if_neg (isPl_not h)] at hl
  split at hl
  ·rename_i c
   rw [addLast_len] at hl
   exact wUpto_ne ln c.1 c.2 (List.eq_nil_of_length_eq_zero hl)
  ·simp at hl
theorem addLast_tx (n : Nat) : ∀ (l : List PW) (b : UInt8), (∀ p ∈ l, p.tx.length ≤ n) → ∀ p ∈ addLast l b, p.tx.length ≤ n + 1
 | [], _, _, p, hp => by cases hp
 | [w], b, h, p, hp => by
  have := h w (List.mem_cons_self ..)
  simp only [addLast, List.mem_cons, List.not_mem_nil, or_false] at hp
  subst hp
  simp; omega
 | w :: u :: l, b, h, p, hp => by
  simp only [addLast, List.mem_cons] at hp
  rcases hp with rfl | hp
  ·have := h p (List.mem_cons_self ..); omega
  ·exact addLast_tx n (u :: l) b (fun q hq => h q (List.mem_cons_of_mem _ hq)) p hp
theorem wUpto_tx (s : List UInt8) (ln : Int) : ∀ i, ∀ p ∈ wUpto s ln i, p.tx.length ≤ i
 | 0, p, hp => by cases hp
 | i + 1, p, hp => by
  have ih := wUpto_tx s ln i
  unfold wUpto wStep at hp
  split at hp
  ·have := ih p hp; omega
  ·split at hp
   ·exact addLast_tx i _ _ ih p hp
   ·rcases List.mem_append.1 hp with h | h
    ·have := ih p h; omega
    ·simp only [List.mem_cons, List.not_mem_nil, or_false] at h
     subst h; simp
theorem extract_one (s : ByteArray) (k : Nat) (h : k < s.size) : s.extract k (k + 1) = bL [s[k]] := by
 apply ByteArray.ext
 rw [ByteArray.data_extract]
 apply Array.ext'
 rw [Array.toList_extract]
 show List.extract s.data.toList k (k + 1) = [s[k]]
 rw [List.extract_eq_take_drop, Nat.add_sub_cancel_left, List.drop_eq_getElem_cons (by simpa using h)]
 rfl
theorem bL_app (a b : List UInt8) : bL a ++ bL b = bL (a ++ b) := by
 apply ByteArray.ext
 rw [ByteArray.data_append]
 simp [bL]
theorem bL_size (a : List UInt8) : (bL a).size = a.length := rfl
end Go.Proofs.YtalfibohepbhfaaGreat.Av
namespace Go.Proofs.YtalfibohepbhfaaGreat
open Go.RowKit
theorem ret_int {k : IntKind} {a b : Int} (h : a = b) : Ending.returned (.int k a) = .returned (.int k b) := by rw [h]
theorem ret_int2 {k j : IntKind} {a b c d : Int} (h : a = b) (h2 : c = d) : Ending.returned (.tuple #[.int k a, .int j c]) = .returned (.tuple #[.int k b, .int j d]) := by rw [h, h2]
theorem below_draws {B : Nat} {a w : World} (h : Below B a w) (n : Nat) : Below B a (w.drewN n) := ⟨h.os, h.tape, h.output, h.size, h.block⟩
end Go.Proofs.YtalfibohepbhfaaGreat
namespace Go.Proofs.YtalfibohepbhfaaGreat
open Go.RowKit
theorem ret_bool {a b : Bool} (h : a = b) : Ending.returned (.bool a) = .returned (.bool b) := by rw [h]
theorem isLetter_any (c : Nat) (w : World) (hc : c < 256) :
  Calls Tryz.prog 126 #[.int .u8 c] w fun e w' => e = .returned (.bool (letN c)) ∧ w = w' := by
 go_enter Tryz.func126, Tryz.ntmps126
 go_wp2
 all_goals
  go_ret
  exact ⟨ret_bool (by rw [Bool.eq_iff_iff]; simp [letN]; try omega), rfl⟩
theorem refLetter_any (c : Nat) (w : World) (hc : c < 256) :
  Calls Tryz.prog 120 #[.int .u8 c] w fun e w' => e = .returned (.bool (letN c)) ∧ w = w' := by
 go_enter Tryz.func120, Tryz.ntmps120
 go_wp2
 all_goals
  go_ret
  exact ⟨ret_bool (by rw [Bool.eq_iff_iff]; simp [letN]; try omega), rfl⟩
theorem isDigit_any (c : Nat) (w : World) (hc : c < 256) :
  Calls Tryz.prog 127 #[.int .u8 c] w fun e w' => e = .returned (.bool (digN c)) ∧ w = w' := by
 go_enter Tryz.func127, Tryz.ntmps127
 go_wp2
 all_goals
  go_ret
  exact ⟨ret_bool (by rw [Bool.eq_iff_iff]; simp [digN]; try omega), rfl⟩
theorem refDigit_any (c : Nat) (w : World) (hc : c < 256) :
  Calls Tryz.prog 121 #[.int .u8 c] w fun e w' => e = .returned (.bool (digN c)) ∧ w = w' := by
 go_enter Tryz.func121, Tryz.ntmps121
 go_wp2
 all_goals
  go_ret
  exact ⟨ret_bool (by rw [Bool.eq_iff_iff]; simp [digN]; try omega), rfl⟩
theorem okN_cases (c : Nat) : (okN c = true ∧ (letN c = true ∨ (letN c = false ∧ digN c = true) ∨ (letN c = false ∧ digN c = false ∧ c = 95))) ∨ (okN c = false ∧ letN c = false ∧ digN c = false ∧ c ≠ 95) := by
 unfold okN
 by_cases h : c = 95
 ·subst h; left; decide
 ·have : (c == 95) = false := by simpa using h
  cases letN c <;> cases digN c <;> simp [h, this]
theorem all_one (s : ByteArray) (h0 : 0 < s.size) (h : letN s[0].toNat = true) : (s.data.toList.take 1).all (fun c => okN c.toNat) = true := by
 rw [all_upto s 0 h0, letN_ok h]; rfl
theorem name_any (s : ByteArray) (w : World) (hs : s.size ≤ 9223372036854775807) :
  Calls Tryz.prog 114 #[.string s] w fun e w' => e = .returned (.bool (nameB s)) ∧ w = w' := by
 by_cases h0 : s.size < 1
 ·rw [nameB_short (.inl h0)]
  go_enter Tryz.func114, Tryz.ntmps114
  go_wp2
  go_ret
  exact ⟨rfl, rfl⟩
 ·by_cases h1 : 12 < s.size
  ·rw [nameB_short (.inr h1)]
   have h0' : 1 ≤ s.size := by omega
   go_enter Tryz.func114, Tryz.ntmps114
   go_wp2
   go_ret
   exact ⟨rfl, rfl⟩
  ·have h2 : 0 < s.size := by omega
   have h0' : 1 ≤ s.size := by omega
   have h3 : s.size ≤ 12 := by omega
   by_cases hl : letN s[0].toNat = true
   ·have Hl := Lib.hid hl
    clear hl
    go_enter Tryz.func114, Tryz.ntmps114
    go_wp2_with fail
    refine (isLetter_any _ _ (UInt8.toNat_lt _)).mono ?_
    rintro e w' ⟨rfl, rfl⟩
    rw [Hl.out]
    go_wp2
    go_loop [20] (fun i => ∃ k : Nat, 0 ≤ k ∧ k ≤ s.size ∧ i = .int .i64 k ∧ Hid ((s.data.toList.take k).all (fun c => okN c.toNat) = true)) (fun i => s.size - (intOf i).toNat)
    case atStart => exact ⟨0, by omega, by omega, rfl, Lib.hid rfl⟩
    case round =>
     obtain ⟨k, hk0, hk, rfl, Hk⟩ := hrel
     by_cases hlt : k < s.size
     ·have Hup := Lib.hid (all_upto s k hlt (fun c => okN c.toNat))
      rcases okN_cases s[k].toNat with ⟨hok, hy | ⟨hx, hy⟩ | ⟨hx, hy, hz⟩⟩ | ⟨hok, hx, hy, hz⟩
      ·have HL := Lib.hid hy
       have Hk1 : Hid ((s.data.toList.take (k + 1)).all (fun c => okN c.toNat) = true) := Lib.hid (by rw [Hup.out, Hk.out, hok]; rfl)
       clear hok hy
       go_wp2_with (go_at_call 126; refine (isLetter_any _ _ (UInt8.toNat_lt _)).mono ?_; rintro e w' ⟨rfl, rfl⟩; rw [HL.out])
       go_round
       case rel => exact ⟨k + 1, by omega, by omega, by go_num, Hk1⟩
       case measure => simp [intOf]; omega
      ·have HL := Lib.hid hx
       have HD := Lib.hid hy
       have Hk1 : Hid ((s.data.toList.take (k + 1)).all (fun c => okN c.toNat) = true) := Lib.hid (by rw [Hup.out, Hk.out, hok]; rfl)
       clear hok hx hy
       go_wp2_with (first | (go_at_call 126; refine (isLetter_any _ _ (UInt8.toNat_lt _)).mono ?_; rintro e w' ⟨rfl, rfl⟩; rw [HL.out]) | (go_at_call 127; refine (isDigit_any _ _ (UInt8.toNat_lt _)).mono ?_; rintro e w' ⟨rfl, rfl⟩; rw [HD.out]))
       go_round
       case rel => exact ⟨k + 1, by omega, by omega, by go_num, Hk1⟩
       case measure => simp [intOf]; omega
      ·have HL := Lib.hid hx
       have HD := Lib.hid hy
       have Hk1 : Hid ((s.data.toList.take (k + 1)).all (fun c => okN c.toNat) = true) := Lib.hid (by rw [Hup.out, Hk.out, hok]; rfl)
       have hb : ((s[k].toNat : Int) != 95) = false := by rw [hz]; rfl
       clear hok hx hy hz
       go_wp2_with (first | (go_at_call 126; refine (isLetter_any _ _ (UInt8.toNat_lt _)).mono ?_; rintro e w' ⟨rfl, rfl⟩; rw [HL.out]) | (go_at_call 127; refine (isDigit_any _ _ (UInt8.toNat_lt _)).mono ?_; rintro e w' ⟨rfl, rfl⟩; rw [HD.out]))
       go_round
       case rel => exact ⟨k + 1, by omega, by omega, by go_num, Hk1⟩
       case measure => simp [intOf]; omega
      ·have HL := Lib.hid hx
       have HD := Lib.hid hy
       have HN := Lib.hid (nameB_no k hlt hok)
       have hb : ((s[k].toNat : Int) != 95) = true := by rw [bne_iff_ne]; omega
       clear hok hx hy hz
       go_wp2_with (first | (go_at_call 126; refine (isLetter_any _ _ (UInt8.toNat_lt _)).mono ?_; rintro e w' ⟨rfl, rfl⟩; rw [HL.out]) | (go_at_call 127; refine (isDigit_any _ _ (UInt8.toNat_lt _)).mono ?_; rintro e w' ⟨rfl, rfl⟩; rw [HD.out]))
       go_ret
       exact ⟨ret_bool HN.out.symm, rfl⟩
     ·have HN : Hid (nameB s = true) := Lib.hid (nameB_mk h2 h3 Hl.out (by have := Hk.out; rwa [List.take_of_length_le (by rw [bytes_len]; omega)] at this))
      go_wp2
      go_ret
      exact ⟨ret_bool HN.out.symm, rfl⟩
   ·have Hl := Lib.hid (Bool.eq_false_iff.2 hl)
    have HN := Lib.hid (nameB_no0 h2 (Bool.eq_false_iff.2 hl))
    clear hl
    go_enter Tryz.func114, Tryz.ntmps114
    go_wp2_with (go_at_call 126; refine (isLetter_any _ _ (UInt8.toNat_lt _)).mono ?_; rintro e w' ⟨rfl, rfl⟩; rw [Hl.out])
    go_ret
    exact ⟨ret_bool HN.out.symm, rfl⟩
theorem refName_any (s : ByteArray) (w : World) (hs : s.size ≤ 9223372036854775807) :
  Calls Tryz.prog 103 #[.string s] w fun e w' => e = .returned (.bool (nameB s)) ∧ w = w' := by
 by_cases h0 : s.size < 1
 ·rw [nameB_short (.inl h0)]
  go_enter Tryz.func103, Tryz.ntmps103
  go_wp2
  go_ret
  exact ⟨rfl, rfl⟩
 ·by_cases h1 : 12 < s.size
  ·rw [nameB_short (.inr h1)]
   have h0' : 1 ≤ s.size := by omega
   go_enter Tryz.func103, Tryz.ntmps103
   go_wp2
   go_ret
   exact ⟨rfl, rfl⟩
  ·have h2 : 0 < s.size := by omega
   have h0' : 1 ≤ s.size := by omega
   have h3 : s.size ≤ 12 := by omega
   by_cases hl : letN s[0].toNat = true
   ·have Hl := Lib.hid hl
    clear hl
    go_enter Tryz.func103, Tryz.ntmps103
    go_wp2_with fail
    refine (refLetter_any _ _ (UInt8.toNat_lt _)).mono ?_
    rintro e w' ⟨rfl, rfl⟩
    rw [Hl.out]
    go_wp2
    go_loop [3] (fun i => ∃ k : Nat, 1 ≤ k ∧ k ≤ s.size ∧ i = .int .i64 k ∧ Hid ((s.data.toList.take k).all (fun c => okN c.toNat) = true)) (fun i => s.size - (intOf i).toNat)
    case atStart => exact ⟨1, by omega, by omega, rfl, Lib.hid (all_one s h2 Hl.out)⟩
    case round =>
     obtain ⟨k, hk0, hk, rfl, Hk⟩ := hrel
     by_cases hlt : k < s.size
     ·have Hup := Lib.hid (all_upto s k hlt (fun c => okN c.toNat))
      rcases okN_cases s[k].toNat with ⟨hok, hy | ⟨hx, hy⟩ | ⟨hx, hy, hz⟩⟩ | ⟨hok, hx, hy, hz⟩
      ·have HL := Lib.hid hy
       have Hk1 : Hid ((s.data.toList.take (k + 1)).all (fun c => okN c.toNat) = true) := Lib.hid (by rw [Hup.out, Hk.out, hok]; rfl)
       clear hok hy
       go_wp2_with (go_at_call 120; refine (refLetter_any _ _ (UInt8.toNat_lt _)).mono ?_; rintro e w' ⟨rfl, rfl⟩; rw [HL.out])
       go_round
       case rel => exact ⟨k + 1, by omega, by omega, by go_num, Hk1⟩
       case measure => simp [intOf]; omega
      ·have HL := Lib.hid hx
       have HD := Lib.hid hy
       have Hk1 : Hid ((s.data.toList.take (k + 1)).all (fun c => okN c.toNat) = true) := Lib.hid (by rw [Hup.out, Hk.out, hok]; rfl)
       clear hok hx hy
       go_wp2_with (first | (go_at_call 120; refine (refLetter_any _ _ (UInt8.toNat_lt _)).mono ?_; rintro e w' ⟨rfl, rfl⟩; rw [HL.out]) | (go_at_call 121; refine (refDigit_any _ _ (UInt8.toNat_lt _)).mono ?_; rintro e w' ⟨rfl, rfl⟩; rw [HD.out]))
       go_round
       case rel => exact ⟨k + 1, by omega, by omega, by go_num, Hk1⟩
       case measure => simp [intOf]; omega
      ·have HL := Lib.hid hx
       have HD := Lib.hid hy
       have Hk1 : Hid ((s.data.toList.take (k + 1)).all (fun c => okN c.toNat) = true) := Lib.hid (by rw [Hup.out, Hk.out, hok]; rfl)
       have hb : ((s[k].toNat : Int) != 95) = false := by rw [hz]; rfl
       clear hok hx hy hz
       go_wp2_with (first | (go_at_call 120; refine (refLetter_any _ _ (UInt8.toNat_lt _)).mono ?_; rintro e w' ⟨rfl, rfl⟩; rw [HL.out]) | (go_at_call 121; refine (refDigit_any _ _ (UInt8.toNat_lt _)).mono ?_; rintro e w' ⟨rfl, rfl⟩; rw [HD.out]))
       go_round
       case rel => exact ⟨k + 1, by omega, by omega, by go_num, Hk1⟩
       case measure => simp [intOf]; omega
      ·have HL := Lib.hid hx
       have HD := Lib.hid hy
       have HN := Lib.hid (nameB_no k hlt hok)
       have hb : ((s[k].toNat : Int) != 95) = true := by rw [bne_iff_ne]; omega
       clear hok hx hy hz
       go_wp2_with (first | (go_at_call 120; refine (refLetter_any _ _ (UInt8.toNat_lt _)).mono ?_; rintro e w' ⟨rfl, rfl⟩; rw [HL.out]) | (go_at_call 121; refine (refDigit_any _ _ (UInt8.toNat_lt _)).mono ?_; rintro e w' ⟨rfl, rfl⟩; rw [HD.out]))
       go_ret
       exact ⟨ret_bool HN.out.symm, rfl⟩
     ·have HN : Hid (nameB s = true) := Lib.hid (nameB_mk h2 h3 Hl.out (by have := Hk.out; rwa [List.take_of_length_le (by rw [bytes_len]; omega)] at this))
      go_wp2
      go_ret
      exact ⟨ret_bool HN.out.symm, rfl⟩
   ·have Hl := Lib.hid (Bool.eq_false_iff.2 hl)
    have HN := Lib.hid (nameB_no0 h2 (Bool.eq_false_iff.2 hl))
    clear hl
    go_enter Tryz.func103, Tryz.ntmps103
    go_wp2_with (go_at_call 120; refine (refLetter_any _ _ (UInt8.toNat_lt _)).mono ?_; rintro e w' ⟨rfl, rfl⟩; rw [Hl.out])
    go_ret
    exact ⟨ret_bool HN.out.symm, rfl⟩
end Go.Proofs.YtalfibohepbhfaaGreat
namespace Go.Proofs.YtalfibohepbhfaaGreat
open Go.RowKit
def BoxV (w : World) (p : Nat) (vs : List Value) : Prop := p < w.heap.size ∧ ∀ (j : Nat) (v : Value), vs[j]? = some v → w.cell? ⟨p, j, none⟩ = some v
theorem BoxV.new (w : World) (vs : List Value) (t : TypeId) : BoxV (w.alloc (.cells vs.toArray t)) w.heap.size vs :=
 ⟨by simp, fun j v h => by
  have e := (MapKept.heap_alloc w (.cells vs.toArray t)).1
  show (match (w.alloc (.cells vs.toArray t)).heap[w.heap.size]? with | some (.cells c _ _) => if Option.isSome (none : Option Nat) then none else c[j]? | _ => none) = some v
  rw [e]
  simpa using h⟩
theorem BoxV.below {w w' : World} {p : Nat} {vs : List Value} (h : BoxV w p vs) (hb : Below w.heap.size w w') : BoxV w' p vs :=
 ⟨Nat.lt_of_lt_of_le h.1 hb.size, fun j v e => (hb.cell (p := ⟨p, j, none⟩) h.1).trans (h.2 j v e)⟩
theorem BoxV.of_block {w w' : World} {p : Nat} {vs : List Value} (h : BoxV w p vs) (hs : p < w'.heap.size) (e : w'.heap[p]? = w.heap[p]?) : BoxV w' p vs :=
 ⟨hs, fun j v hv => (World.cell?_of_block (w := w) (a := ⟨p, j, none⟩) e).trans (h.2 j v hv)⟩
def RdF {α : Type} (n : Nat) (f : α → List Value) (w : World) (A : Option Addr) (xs : List α) : Prop :=
 ∀ k (h : k < xs.length), ∃ b off, A = some ⟨b, off, none⟩ ∧ b < w.heap.size ∧ ∀ (j : Nat) (v : Value), (f xs[k])[j]? = some v → w.cell? ⟨b, off + k * n + j, none⟩ = some v
theorem RdF.below {α : Type} {n : Nat} {f : α → List Value} {w w' : World} {A : Option Addr} {xs : List α} (h : RdF n f w A xs) (hb : Below w.heap.size w w') : RdF n f w' A xs := by
 intro k hk
 obtain ⟨b, off, e, hlt, h1⟩ := h k hk
 exact ⟨b, off, e, Nat.lt_of_lt_of_le hlt hb.size, fun j v hv => (hb.cell (p := ⟨b, _, none⟩) hlt).trans (h1 j v hv)⟩
def strF (s : ByteArray) : List Value := [.string s]
def secF (s : Sec) : List Value := [.string s.nm, .int .i64 s.len, .int .i64 s.lim, .int .i64 s.grd, .int .i64 s.stn]
def lnkF (k : Lnk) : List Value := [.int .i64 k.a, .int .i64 k.ae, .int .i64 k.b, .int .i64 k.be, .int .i64 k.pt, .int .i64 k.ps]
structure LayV where
 A1 : Option Addr
 c1 : Nat
 A2 : Option Addr
 c2 : Nat
 A3 : Option Addr
 c3 : Nat
 A4 : Option Addr
 c4 : Nat
def Short (l : List ByteArray) : Prop := ∀ s ∈ l, s.size ≤ 9223372036854775807
structure RdLay (w : World) (V : LayV) (L : Lay) : Prop where
 r1 : RdF 1 strF w V.A1 L.sts
 r2 : RdF 1 strF w V.A2 L.pts
 r3 : RdF 5 secF w V.A3 L.secs
 r4 : RdF 6 lnkF w V.A4 L.lnks
 s1 : Short L.sts
 s2 : Short L.pts
 s3 : Short (L.secs.map Sec.nm)
 n1 : L.sts.length ≤ V.c1
 n2 : L.pts.length ≤ V.c2
 n3 : L.secs.length ≤ V.c3
 n4 : L.lnks.length ≤ V.c4
 m1 : L.sts.length ≤ 9223372036854775807
 m2 : L.pts.length ≤ 9223372036854775807
 m3 : L.secs.length ≤ 9223372036854775807
 m4 : L.lnks.length ≤ 9223372036854775807
theorem RdLay.below {w w' : World} {V : LayV} {L : Lay} (h : RdLay w V L) (hb : Below w.heap.size w w') : RdLay w' V L :=
 ⟨h.r1.below hb, h.r2.below hb, h.r3.below hb, h.r4.below hb, h.s1, h.s2, h.s3, h.n1, h.n2, h.n3, h.n4, h.m1, h.m2, h.m3, h.m4⟩
theorem sectionInRange_any (V : LayV) (L : Lay) (s : Sec) (w : World) :
  Calls Tryz.prog 99 #[.agg #[.slice V.A1 L.sts.length V.c1, .slice V.A2 L.pts.length V.c2, .slice V.A3 L.secs.length V.c3, .slice V.A4 L.lnks.length V.c4], .agg #[.string s.nm, .int .i64 s.len, .int .i64 s.lim, .int .i64 s.grd, .int .i64 s.stn]] w fun e w' => e = .returned (.bool (secB L.sts.length s)) ∧ Below w.heap.size w w' := by
 go_enter Tryz.func99, Tryz.ntmps99
 go_wp2
 all_goals
  go_ret
  exact ⟨ret_bool (by rw [Bool.eq_iff_iff]; simp [secB]; try omega), ((Below.refl _ _).alloc (Nat.le_refl _) _).alloc (by simp) _⟩
end Go.Proofs.YtalfibohepbhfaaGreat
namespace Go.Proofs.YtalfibohepbhfaaGreat
open Go.RowKit
theorem flat_at {α : Type} (f : α → List Value) (n : Nat) (hf : ∀ x, (f x).length = n) : ∀ (xs : List α) (k : Nat) (h : k < xs.length) (j : Nat), j < n → (xs.flatMap f)[k * n + j]? = (f xs[k])[j]?
 | [], k, h, _, _ => absurd h (Nat.not_lt_zero _)
 | x :: r, 0, _, j, hj => by
  rw [List.flatMap_cons, Nat.zero_mul, Nat.zero_add, List.getElem?_append_left (by rw [hf]; exact hj)]; rfl
 | x :: r, k + 1, h, j, hj => by
  have ih := flat_at f n hf r k (by simpa using h) j hj
  rw [List.flatMap_cons, show (k + 1) * n + j = k * n + j + n by rw [Nat.add_mul]; omega, List.getElem?_append_right (by rw [hf]; omega), hf, Nat.add_sub_cancel, ih]; rfl
theorem add_row (b j : Nat) : ((⟨b, 0, none⟩ : Addr).add j) = ⟨b, j, none⟩ := by unfold Addr.add; split <;> simp_all
def OwnF {α : Type} (w : World) (base : Nat) (T : TypeId) (n : Nat) (f : α → List Value) (v : Value) (xs : List α) : Prop := w.ownsRow base T n v xs.length (xs.flatMap f)
theorem OwnF.nil {α : Type} (w : World) (base : Nat) (T : TypeId) (n : Nat) (f : α → List Value) : OwnF w base T n f (.slice none 0 0) [] := World.ownsRow_nil w base T n
theorem OwnF.shape {α : Type} {w : World} {base : Nat} {T : TypeId} {n : Nat} {f : α → List Value} {v : Value} {xs : List α} (h : OwnF w base T n f v xs) : ∃ A c, v = .slice A xs.length c ∧ xs.length ≤ c ∧ c ≤ 9223372036854775807 := by
 rcases h.2 with ⟨h1, h2⟩ | ⟨g, cap, cur, h1, _, _, h3, h4, _⟩
 ·exact ⟨none, 0, by rw [h1, h2], by omega, by omega⟩
 ·exact ⟨_, cap, h1, h3, by unfold maxLen at h4; omega⟩
theorem OwnF.kept {α : Type} {w w' : World} {base : Nat} {T : TypeId} {n : Nat} {f : α → List Value} {v : Value} {xs : List α} {row : Option Nat} (h : OwnF w base T n f v xs) (hg : w.grownBy w' row) (hne : v.ownBlock = none ∨ v.ownBlock ≠ row) : OwnF w' base T n f v xs :=
 World.ownsRow.kept h hg hne
theorem grown_of_below {w w' : World} (hb : Below w.heap.size w w') : w.grownBy w' none := ⟨hb.os, hb.tape, hb.output, hb.size, fun k hk _ => hb.block k hk⟩
theorem OwnF.below {α : Type} {w w' : World} {base : Nat} {T : TypeId} {n : Nat} {f : α → List Value} {v : Value} {xs : List α} (h : OwnF w base T n f v xs) (hb : Below w.heap.size w w') : OwnF w' base T n f v xs :=
 h.kept (grown_of_below hb) (by cases hv : v.ownBlock <;> simp)
theorem OwnF.rd {α : Type} {w : World} {base : Nat} {T : TypeId} {n : Nat} {f : α → List Value} {A : Option Addr} {m c : Nat} {xs : List α} (hf : ∀ x, (f x).length = n) (h : OwnF w base T n f (.slice A m c) xs) : RdF n f w A xs := by
 intro k hk
 rcases h.2 with ⟨h1, h2⟩ | ⟨g, cap, cur, h1, _, hb, h3, h4, h5, h6⟩
 ·omega
 ·injection h1 with e1 e2 e3
  subst e1
  refine ⟨g, 0, rfl, (Array.getElem?_eq_some_iff.1 hb).1, fun j v hv => ?_⟩
  have hjn : j < n := by
   have := (List.getElem?_eq_some_iff.1 hv).1
   rw [hf] at this; exact this
  have e := flat_at f n hf xs k hk j hjn
  rw [hv] at e
  have := World.ownsRow.cells h (g := g) rfl _ _ e
  rw [add_row] at this
  rwa [Nat.zero_add]
end Go.Proofs.YtalfibohepbhfaaGreat
namespace Go.Proofs.YtalfibohepbhfaaGreat
section
variable {P : Program} {ops oh : Array Oper} {md : Region.Mode} {C : World → Prop} {n : Nat}
theorem wpAny_more {Q : Exit → Act → World → Prop} : ∀ (f : Nat) (listed : Array Bool) (a : Act) (w : World), wpAny P md ops Q f listed a w → wpAny P md ops Q (f + 1) listed a w
 | 0, _, _, _, h => ⟨fun _ => h.2, fun i hi => by rw [h.1] at hi; cases hi⟩
 | f + 1, _, _, _, h => ⟨h.1, fun i hi => wpOp_mono (fun a' w' h' => wpAny_more f _ a' w' h') (h.2 i hi)⟩
theorem wpAny_more_n {Q : Exit → Act → World → Prop} (f g : Nat) (listed : Array Bool) (a : Act) (w : World) (h : wpAny P md ops Q f listed a w) : wpAny P md ops Q (g + f) listed a w := by
 induction g with
 | zero => rw [Nat.zero_add]; exact h
 | succ g ih => rw [show g + 1 + f = g + f + 1 by omega]; exact wpAny_more _ _ _ _ ih
def headB (md : Region.Mode) (ops : Array Oper) (n : Nat) : Bool :=
 (List.range n).all fun j => match ops[j]? with
  | some o => (o.after.all fun e => !Region.binds md e || decide (e.on < j)) && (match o.guard with | none => true | some (i, _) => decide (i < n))
  | none => false
theorem headB_spec (h : headB md ops n = true) {j : Nat} (hj : j < n) :
  ∃ o, ops[j]? = some o ∧ (∀ e ∈ o.after, Region.binds md e = true → e.on < j) ∧ (∀ i b, o.guard = some (i, b) → i < n) := by
 have h1 := List.all_eq_true.1 h j (List.mem_range.2 hj)
 cases ho : ops[j]? with
 | none => rw [ho] at h1; cases h1
 | some o =>
  rw [ho] at h1
  simp only [Bool.and_eq_true] at h1
  refine ⟨o, rfl, fun e he hb => ?_, fun i b hg => ?_⟩
  ·have := (Array.all_eq_true'.1 h1.1) e he
   rw [hb] at this
   simpa using this
  ·have := h1.2
   rw [hg] at this
   simpa using this
theorem some_ready {listed : Array Bool} (hB : headB md ops n = true) (hsz : n ≤ listed.size) : ∀ j, j < n → listed.getD j true = false → ∃ i ∈ Region.ready md ops listed, i < n := by
 intro j
 induction j using Nat.strongRecOn with
 | _ j ih =>
  intro hj hun
  obtain ⟨o, ho, hback, _⟩ := headB_spec hB hj
  by_cases hall : ∀ e ∈ o.after, Region.binds md e = true → listed.getD e.on false = true
  ·exact ⟨j, mem_ready.2 ⟨hun, o, ho, hall⟩, hj⟩
  ·obtain ⟨e, he⟩ := Classical.not_forall.1 hall
   obtain ⟨hm, he2⟩ := Classical.not_imp.1 he
   obtain ⟨hb, hl⟩ := Classical.not_imp.1 he2
   have hlt := hback e hm hb
   exact ih e.on hlt (by omega) (getD_in (by omega) (by simpa using hl))
theorem yielded_head (hoh : ∀ j, j < n → oh[j]? = ops[j]?) (t : Array Value) {j : Nat} (hj : j < n) : yielded oh t j = yielded ops t j := by
 unfold yielded
 rw [hoh j hj]
theorem wanted_head (hoh : ∀ j, j < n → oh[j]? = ops[j]?) (t : Array Value) {o : Oper} (hg : ∀ i b, o.guard = some (i, b) → i < n) : Region.wanted o (yielded oh t) = Region.wanted o (yielded ops t) := by
 unfold Region.wanted
 cases ho : o.guard with
 | none => rfl
 | some x =>
  obtain ⟨i, b⟩ := x
  simp only
  rw [yielded_head hoh t (hg i b ho)]
theorem ready_head {lh listed : Array Bool} (hB : headB md ops n = true) (hoh : ∀ j, j < n → oh[j]? = ops[j]?) (hag : ∀ j d, j < n → lh.getD j d = listed.getD j d) {j : Nat} (hj : j < n) :
  j ∈ Region.ready md ops listed ↔ j ∈ Region.ready md oh lh := by
 obtain ⟨o, ho, hback, _⟩ := headB_spec hB hj
 rw [mem_ready, mem_ready, hag j true hj, hoh j hj]
 constructor
 ·rintro ⟨h0, o', ho', h1⟩
  refine ⟨h0, o', ho', fun e he hb => ?_⟩
  rw [ho] at ho'; injection ho' with ho'; subst ho'
  rw [hag _ _ (by have := hback e he hb; omega)]; exact h1 e he hb
 ·rintro ⟨h0, o', ho', h1⟩
  refine ⟨h0, o', ho', fun e he hb => ?_⟩
  rw [ho] at ho'; injection ho' with ho'; subst ho'
  rw [← hag _ _ (by have := hback e he hb; omega)]; exact h1 e he hb
def headL (n N : Nat) : Array Bool := ((List.range N).map fun i => decide (i < n)).toArray
theorem eq_headL {listed : Array Bool} (hs : listed.size = ops.size) (h1 : ∀ j, j < n → listed.getD j false = true) (h2 : ∀ t, n ≤ t → t < ops.size → listed.getD t true = false) : listed = headL n ops.size := by
 apply Array.ext
 ·simp [headL, hs]
 ·intro i hi _
  simp only [headL, List.getElem_toArray, List.getElem_map, List.getElem_range]
  rcases Nat.lt_or_ge i n with h | h
  ·have := h1 i h
   simp [hi] at this
   simp [h, this]
  ·have := h2 i h (by omega)
   simp [hi] at this
   simp [show ¬ i < n by omega, this]
theorem wpOp_head {Q : Exit → Act → World → Prop} {K : Act → World → Prop} {a : Act} {w : World} (hB : headB md ops n = true) (hoh : ∀ j, j < n → oh[j]? = ops[j]?) {i : Nat} (hi : i < n) (h : wpOp P oh Q i K a w) : wpOp P ops Q i K a w := by
 obtain ⟨o, ho, _, hg⟩ := headB_spec hB hi
 unfold wpOp at *
 rw [hoh i hi, ho] at h
 rw [ho]
 simp only at h ⊢
 rw [wanted_head hoh a.tmps hg] at h
 exact h
theorem wpAny_of_qhead {Q : Exit → Act → World → Prop} {Q0 : Act → Prop} {g : Nat} (hB : headB md ops n = true) (hoh : ∀ j, j < n → oh[j]? = ops[j]?) (hon : oh.size = n) (hn : n < ops.size)
  (hs : Region.sinkB md ops n = true) (hc : Region.chainB md ops n = true)
  (htail : ∀ a w, C w → Q0 a → wpAny P md ops Q g (headL n ops.size) a w) :
  ∀ (f : Nat) (lh listed : Array Bool) (a : Act) (w : World), C w → (∀ j d, j < n → lh.getD j d = listed.getD j d) → HeadInv md ops n listed →
   wpAnyQ P md oh C Q0 f lh a → wpAny P md ops Q (f + g) listed a w := by
 have done : ∀ (lh listed : Array Bool) (a : Act) (w : World), C w → (∀ j d, j < n → lh.getD j d = listed.getD j d) → HeadInv md ops n listed → Region.ready md oh lh = [] → Q0 a → wpAny P md ops Q g listed a w := by
  intro lh listed a w hC hag inv hr hq
  have hall : ∀ j, j < n → listed.getD j false = true := by
   intro j hj
   cases hl : listed.getD j false with
   | true => rfl
   | false =>
    obtain ⟨i, hi, hin⟩ := some_ready hB (by rw [inv.size]; omega) j hj (getD_in (by rw [inv.size]; omega) hl)
    rw [ready_head hB hoh hag hin, hr] at hi
    cases hi
  rw [eq_headL inv.size hall inv.tail]
  exact htail a w hC hq
 intro f
 induction f with
 | zero =>
  intro lh listed a w hC hag inv h
  rw [Nat.zero_add]
  exact done lh listed a w hC hag inv h.1 h.2
 | succ f ih =>
  intro lh listed a w hC hag inv h
  by_cases hr : Region.ready md oh lh = []
  ·exact wpAny_more_n g (f + 1) _ _ _ (done lh listed a w hC hag inv hr (h.1 hr))
  ·obtain ⟨i0, hi0⟩ := List.exists_mem_of_ne_nil _ hr
   have hi0n : i0 < n := by
    obtain ⟨_, o, ho, _⟩ := mem_ready.1 hi0
    rw [← hon]; exact (Array.getElem?_eq_some_iff.1 ho).1
   have hun : listed.getD i0 true = false := by rw [← hag i0 true hi0n]; exact (mem_ready.1 hi0).1
   rw [show f + 1 + g = (f + g) + 1 by omega]
   refine ⟨fun h0 => ?_, fun i hi => ?_⟩
   ·have := (ready_head hB hoh hag hi0n).2 hi0
    rw [h0] at this
    cases this
   ·have hin : i < n := by
     rcases Nat.lt_or_ge i n with h' | h'
     ·exact h'
     ·exact absurd hi (tail_waits hs hc hn inv _ i0 rfl hi0n hun i h')
    have h2 := h.2 i ((ready_head hB hoh hag hin).1 hi)
    refine wpOp_head hB hoh hin (wpOp_of_qOp hC (fun a' w' hC' hK => ih _ _ a' w' hC' (fun j d hj => ?_) (inv.set hi hin) hK) h2)
    by_cases hij : i = j
    ·subst hij
     have h3 : i < listed.size := by rw [inv.size]; omega
     have h4 : i < lh.size := by
      have := (mem_ready.1 ((ready_head hB hoh hag hin).1 hi)).1
      rcases Nat.lt_or_ge i lh.size with h' | h'
      ·exact h'
      ·simp [Array.getElem?_eq_none h'] at this
     simp [h3, h4]
    ·rw [getD_set_ne d hij, getD_set_ne d hij]; exact hag j d hj
theorem classOf (S : World → Prop) {w0 : World} (h : S w0) : ∃ (Z : Type) (_ : Nonempty Z) (f : Z → World), (∀ z, S (f z)) ∧ ∀ w', S w' → ∃ z, w' = f z :=
 ⟨{x : World // S x}, ⟨⟨w0, h⟩⟩, Subtype.val, fun z => z.2, fun w' hw => ⟨⟨w', hw⟩, rfl⟩⟩
def qtailB (md : Region.Mode) (ops : Array Oper) (n : Nat) : Bool :=
 headB md ops n && decide (n < ops.size) && Region.sinkB md ops n && Region.chainB md ops n && Region.seqB md ops (ops.size - n) n (headL n ops.size) && Region.lexB md (ops.extract 0 n)
theorem wp_region_qtail {id : Nat} {Q : Exit → Act → World → Prop} {a : Act} {w : World} {l : List Oper} (C : World → Prop) (n : Nat) (hm : P.follows .mixedOrders = true) (hB : qtailB .any l.toArray n = true) (hC : C { w with drawn := w.drawn + 1 })
  (h : wpQuiet P (l.take n).toArray C (fun a' => ∀ w', C w' → wpList P l.toArray Q (l.drop n) a' w') (l.take n) a) : (Code.region id l.toArray true).wp P Q a w := by
 simp only [qtailB, Bool.and_eq_true, decide_eq_true_eq] at hB
 obtain ⟨⟨⟨⟨⟨hb, hn⟩, hs⟩, hc⟩, hseq⟩, hlex⟩ := hB
 have hn' : n < l.length := by simpa using hn
 have he : l.toArray.extract 0 n = (l.take n).toArray := by simp
 rw [he] at hlex
 simp only [Region.lexB, Bool.and_eq_true] at hlex
 have hdl : (l.drop n).length = l.toArray.size - n := by simp
 have hsz : (l.take n).toArray.size = n := by simp; omega
 have hoh : ∀ j, j < n → (l.take n).toArray[j]? = l.toArray[j]? := fun j hj => by simp [hj]
 have inv0 : HeadInv .any l.toArray n (Array.replicate l.toArray.size false) :=
  ⟨by simp, fun j oj _ hl => (by rw [getD_replicate_false] at hl; cases hl), fun t _ ht => getD_in (by simpa using ht) (getD_replicate_false _ _)⟩
 have hq := wpAnyQ_lex (C := C) (md := .any) hlex.1 (l.take n) 0 (Array.replicate (l.take n).toArray.size false) a (by simp) (by simpa using hlex.2) h
 refine wp_region_any hm ?_
 have := wpAny_of_qhead (Q := Q) (g := l.toArray.size - n) hb hoh hsz hn hs hc (fun a' w' hC' hQ => by
  have := wpAny_of_seq (md := .any) (Q' := Q) (l.drop n) n (headL n l.toArray.size) a' w' (fun j => by simp [List.getElem?_drop]) (by rw [hdl]; exact hseq) (hQ w' hC')
  rwa [hdl] at this) _ _ _ a _ hC (fun j d hj => by
   have h1 : j < l.length := by omega
   rw [hsz]
   simp [hj, h1]) inv0 hq
 have e : (l.take n).length + (l.toArray.size - n) = l.toArray.size := by simp; omega
 rw [e] at this
 exact this
end
open Go.RowKit
theorem lnkF_len (k : Lnk) : (lnkF k).length = 6 := rfl
structure CkI (w x : World) (n : Nat) (E : Nat → List Lnk) (Vs : Nat → Value) : Prop where
 row : x.rowIs w.heap.size 25 n Vs
 own : ∀ i, i < n → OwnF x (w.heap.size + 1) 143 6 lnkF (Vs i) (E i)
 apart : ∀ i j, i < n → j < n → i ≠ j → (Vs i).ownBlock = none ∨ (Vs i).ownBlock ≠ (Vs j).ownBlock
 bel : Below w.heap.size w x
theorem CkI.call {w x y : World} {n : Nat} {E : Nat → List Lnk} {Vs : Nat → Value} (h : CkI w x n E Vs) (hb : Below x.heap.size x y) : CkI w y n E Vs :=
 ⟨h.row.of_block (hb.block _ h.row.lt), fun i hi => (h.own i hi).below hb, h.apart, h.bel.trans (hb.mono h.bel.size)⟩
theorem CkI.congr {w x : World} {n : Nat} {E E' : Nat → List Lnk} {Vs : Nat → Value} (h : CkI w x n E Vs) (e : ∀ i, i < n → E i = E' i) : CkI w x n E' Vs :=
 ⟨h.row, fun i hi => by rw [← e i hi]; exact h.own i hi, h.apart, h.bel⟩
theorem CkI.blk {w x : World} {n : Nat} {E : Nat → List Lnk} {Vs : Nat → Value} (h : CkI w x n E Vs) {i : Nat} (hi : i < n) {q : Nat} (hq : (Vs i).ownBlock = some q) : w.heap.size + 1 ≤ q ∧ q < x.heap.size :=
 World.ownsRow.lt (h.own i hi) q hq
theorem CkI.start {w x : World} {n : Nat} (hrow : x.rowIs w.heap.size 25 n (fun _ => .slice none 0 0)) (hb : Below w.heap.size w x) : CkI w x n (fun _ => []) (fun _ => .slice none 0 0) :=
 ⟨hrow, fun i hi => OwnF.nil _ _ _ _ _, fun i j _ _ _ => .inl rfl, hb⟩
theorem CkI.put {w x w1 : World} {n : Nat} {E : Nat → List Lnk} {Vs : Nat → Value} (h : CkI w x n E Vs) {i : Nat} (hi : i < n) (k : Lnk) {g cap : Nat}
  (hown : w1.ownsRow (w.heap.size + 1) 143 6 (.slice (some ⟨g, 0, none⟩) ((E i).length + 1) cap) ((E i).length + 1) ((E i).flatMap lnkF ++ lnkF k)) (hg : x.grownBy w1 (Vs i).ownBlock) (hat : (Vs i).ownBlock = some g ∨ g = x.heap.size) :
  CkI w (w1.setCell ⟨w.heap.size, i, none⟩ (.slice (some ⟨g, 0, none⟩) ((E i).length + 1) cap)) n (fun j => if j = i then E i ++ [k] else E j) (fun j => if j = i then .slice (some ⟨g, 0, none⟩) ((E i).length + 1) cap else Vs j) := by
 have hne : some w.heap.size ≠ (Vs i).ownBlock := fun e => by have := h.blk hi e.symm; omega
 refine ⟨?_, fun j hj => ?_, fun a b ha hb hab => ?_, ?_⟩
 ·exact (h.row.of_block (hg.block _ h.row.lt hne)).set i _
 ·by_cases hji : j = i
  ·simp only [hji, if_true]
   refine ownsRow_setCell_below (base := w.heap.size + 1) ?_ (by simp) _
   rw [List.flatMap_append, List.length_append]
   simpa using hown
  ·simp only [if_neg hji]
   exact ownsRow_setCell_below (World.ownsRow.kept (h.own j hj) hg (h.apart j i hj hi hji)) (by simp) _
 ·by_cases hai : a = i
  ·have hbi : b ≠ i := fun e => hab (hai.trans e.symm)
   simp only [hai, if_true, if_neg hbi]
   right
   intro e
   have e' : some g = (Vs b).ownBlock := e
   rcases hat with hat | hat
   ·rcases h.apart b i hb hi hbi with h1 | h1
    ·rw [h1] at e'; cases e'
    ·exact h1 (by rw [← e', hat])
   ·have := h.blk hb e'.symm; omega
  ·by_cases hbi : b = i
   ·simp only [hbi, if_true, if_neg hai]
    by_cases hn : (Vs a).ownBlock = none
    ·left; exact hn
    ·right
     intro e
     have e' : (Vs a).ownBlock = some g := e
     rcases hat with hat | hat
     ·rcases h.apart a i ha hi hai with h1 | h1
      ·exact hn h1
      ·exact h1 (by rw [e', hat])
     ·have := h.blk ha e'; omega
   ·simp only [if_neg hai, if_neg hbi]
    exact h.apart a b ha hb hab
 ·exact (h.bel.grown hg h.bel.size (fun q hq => by have := h.blk hi hq; omega)).setCell (Nat.le_refl _) _
theorem BoxV.grown {w w' : World} {p : Nat} {vs : List Value} {row : Option Nat} (h : BoxV w p vs) (hg : w.grownBy w' row) (hne : some p ≠ row) : BoxV w' p vs :=
 h.of_block (Nat.lt_of_lt_of_le h.1 hg.size) (hg.block p h.1 hne)
theorem BoxV.far {w : World} {p : Nat} {vs : List Value} (h : BoxV w p vs) {a : Addr} (ha : p ≠ a.block) (v : Value) : BoxV (w.setCell a v) p vs :=
 h.of_block (by simp [World.setCell]; exact h.1) (Below.heap_setCell _ _ _ _ ha)
def endOf (i : Nat) : Int × Int := (((i / 2 : Nat) : Int), ((i % 2 : Nat) : Int))
def atI (prev : List Lnk) (i : Nat) : List Lnk := atE prev (endOf i)
theorem endOf_at {a ae : Int} {i : Nat} (h1 : 0 ≤ a) (h2 : 0 ≤ ae) (h3 : ae ≤ 1) (hi : 2 * a + ae = i) : endOf i = (a, ae) := by
 unfold endOf
 congr 1 <;> omega
theorem atE_snoc (prev : List Lnk) (k : Lnk) (x : Int × Int) : atE (prev ++ [k]) x = if hasE k x = true then atE prev x ++ [k] else atE prev x := by
 unfold atE
 rw [List.filter_append]
 by_cases h : hasE k x = true
 ·rw [if_pos h]; simp [h]
 ·rw [if_neg h]; simp [h]
theorem hasE_at {k : Lnk} {ia ib : Nat} (h1 : 0 ≤ k.a) (h2 : 0 ≤ k.ae) (h3 : k.ae ≤ 1) (h4 : 0 ≤ k.b) (h5 : 0 ≤ k.be) (h6 : k.be ≤ 1) (ha : 2 * k.a + k.ae = ia) (hb : 2 * k.b + k.be = ib) (i : Nat) : hasE k (endOf i) = true ↔ i = ia ∨ i = ib := by
 unfold hasE endOf
 simp only [decide_eq_true_eq]
 omega
theorem atI_step {prev : List Lnk} {k : Lnk} {ia ib : Nat} (h1 : 0 ≤ k.a) (h2 : 0 ≤ k.ae) (h3 : k.ae ≤ 1) (h4 : 0 ≤ k.b) (h5 : 0 ≤ k.be) (h6 : k.be ≤ 1) (ha : 2 * k.a + k.ae = ia) (hb : 2 * k.b + k.be = ib) (hne : ia ≠ ib) (i : Nat) :
  (if i = ib then (if ib = ia then atI prev ia ++ [k] else atI prev ib) ++ [k] else if i = ia then atI prev ia ++ [k] else atI prev i) = atI (prev ++ [k]) i := by
 have hh := hasE_at h1 h2 h3 h4 h5 h6 ha hb
 have e : ∀ j, atI (prev ++ [k]) j = if hasE k (endOf j) = true then atI prev j ++ [k] else atI prev j := fun j => atE_snoc _ _ _
 rw [e]
 by_cases hib : i = ib
 ·rw [if_pos hib, if_neg (Ne.symm hne), if_pos ((hh i).2 (.inr hib)), hib]
 ·rw [if_neg hib]
  by_cases hia : i = ia
  ·rw [if_pos hia, if_pos ((hh i).2 (.inl hia)), hia]
  ·rw [if_neg hia, if_neg (fun h => by rcases (hh i).1 h with h | h; exact hia h; exact hib h)]
end Go.Proofs.YtalfibohepbhfaaGreat
