/- What the claims use of their texts: AvS6, AvS7, AvS8, AvS9, AvSA, AvSB, AvSC, LayPlain, AvEl, AvX, Kp1, AvQ, AvQ2, AvQ3, AvY. -/
import Derived.Test.YthnfliopmjpdmaaPEB
set_option linter.unusedVariables false
set_option linter.unusedSimpArgs false
set_option maxRecDepth 4000
set_option maxHeartbeats 4000000
namespace Go.Proofs.Ythnfliopmjpdmaa.Av
def cellK {β : Type 1} (v : SV) (k : List SC → Option β) : Option β :=
 match v with
 | .c x => match oneS x with
  | true => demK [x] k
  | false => none
 | .agg ds => match allOne ds with
  | true => k ds
  | false => none
 | .tup _ => none
theorem dem_one (x : CVal) (h : x.one = true) : x.dem.one = true := by cases x <;> first | exact h | rfl
theorem cellK_eq {β : Type 1} {v : SV} {k : List SC → Option β} {r : β} (h : cellK v k = some r) : ∃ ds, v.den.dem.cells = some (denL ds) ∧ k ds = some r := by
 unfold cellK at h
 split at h
 ·rename_i x
  split at h
  ·rename_i h1
   obtain ⟨ds, h2, h3⟩ := demK_eq h
   refine ⟨ds, ?_, h3⟩
   have h4 := dem_one _ (oneS_den h1)
   show (if x.den.dem.one then some [x.den.dem] else none) = _
   rw [h4, h2]
   rfl
  ·cases h
 ·rename_i ds
  split at h
  ·rename_i h1
   exact ⟨ds, cellsS_agg h1, h⟩
  ·cases h
 ·cases h
def plAt (p : Pl) (i : Nat) : Option (Nat × Nat) :=
 match p with
 | .fields l => nth0 l i
 | .elems z => some (i * z, z)
theorem plAt_eq (p : Pl) (i : Nat) : plAt p i = p.at i := by
 cases p with
 | fields l => exact nth0_get l i
 | elems z => rfl
def fillK {β : Type 1} (ev : Operand → Option SV) (p : Pl) : List SC → List (Nat × Operand) → (List SC → Option β) → Option β
 | cells, [], k => k cells
 | cells, (i, x) :: rest, k => match plAt p i with
  | some (off, size) => match ev x with
   | some v => cellK v fun ds => match lenIs ds size with
    | true => match Nat.ble 1 size with
     | true => setsK cells off ds fun cs => fillK ev p cs rest k
     | false => none
    | false => none
   | none => none
  | none => none
theorem fillK_eq {β : Type 1} {ev : Operand → Option SV} {p : Pl} {s : St} {r : β} : ∀ {parts : List (Nat × Operand)} {cells : List SC} {k : List SC → Option β}, (∀ q ∈ parts, ∀ v, ev q.2 = some v → s.ev q.2 = v.den) → fillK ev p cells parts k = some r →
  ∃ ps cs, partsC s parts = some ps ∧ aFill p (denL cells) ps = some (denL cs) ∧ k cs = some r
 | [], cells, k, _, h => ⟨[], cells, rfl, rfl, h⟩
 | (i, x) :: rest, cells, k, hev, h => by
  unfold fillK at h
  split at h
  ·rename_i off size hpl
   rw [plAt_eq] at hpl
   split at h
   ·rename_i v hv
    have hx := hev (i, x) (by simp) v hv
    obtain ⟨ds, h1, h2⟩ := cellK_eq h
    split at h2
    ·rename_i hl
     have hl := lenIs_eq hl
     split at h2
     ·rename_i h1s
      have h1s := Nat.le_of_ble_eq_true h1s
      have hln := setsK_len h2
      obtain ⟨cs1, h3, h4⟩ := setsK_eq h2 (by rcases hln with h | h; exact .inr h; exact .inl h)
      obtain ⟨ps, cs, h5, h6, h7⟩ := fillK_eq (s := s) (fun q hq => hev q (by simp [hq])) h4
      refine ⟨(i, denL ds) :: ps, cs, ?_, ?_, h7⟩
      ·exact partsC_c hx h1 h5
      ·unfold aFill
       rw [hpl]
       simp only
       have hz : off + size ≤ (denL cells).length := by
        rw [den_len]
        rcases hln with rfl | hln
        ·simp at hl; omega
        ·omega
       rw [if_pos ⟨by rw [den_len]; exact hl, hz⟩, ← h3]
       exact h6
     ·cases h2
    ·cases h2
   ·cases h
  ·cases h
def appS : List SC → List SC → List SC
 | [], r => r
 | x :: l, r => x :: appS l r
def repS (zs : List SC) : Nat → List SC → List SC
 | 0, r => r
 | n + 1, r => repS zs n (appS zs r)
theorem appS_eq : ∀ l r : List SC, appS l r = l ++ r
 | [], _ => rfl
 | x :: l, r => by simp [appS, appS_eq l r]
theorem repS_get (zs : List SC) : ∀ (n : Nat) (r : List SC) (j : Nat), (repS zs n r)[j]? = if j < n * zs.length then zs[j % zs.length]? else r[j - n * zs.length]?
 | 0, r, j => by simp [repS]
 | n + 1, r, j => by
  rw [repS, repS_get zs n, appS_eq]
  by_cases h : j < n * zs.length
  ·rw [if_pos h, if_pos (by rw [Nat.succ_mul]; omega)]
  ·rw [if_neg h]
   by_cases h2 : j < (n + 1) * zs.length
   ·rw [if_pos h2]
    rw [Nat.succ_mul] at h2
    rw [List.getElem?_append_left (by omega)]
    congr 1
    have e : j = (j - n * zs.length) + zs.length * n := by rw [Nat.mul_comm zs.length n]; omega
    have e2 : j % zs.length = j - n * zs.length := by
     have e3 : (j - n * zs.length + zs.length * n) % zs.length = j - n * zs.length := by rw [Nat.add_mul_mod_self_left]; exact Nat.mod_eq_of_lt (by omega)
     rwa [← e] at e3
    rw [e2]
   ·rw [if_neg h2]
    rw [Nat.succ_mul] at h2
    rw [List.getElem?_append_right (by omega), Nat.succ_mul]
    congr 1; omega
theorem repS_den (zs : List SC) (n : Nat) (hz : zs ≠ []) : repCells (denL zs) n = denL (repS zs n []) := by
 rw [repCells_eq]
 have h0 : 0 < zs.length := by cases zs with | nil => exact absurd rfl hz | cons => simp
 apply List.ext_getElem?
 intro j
 simp only [denL, List.getElem?_map, repS_get, List.length_map]
 by_cases h : j < n * zs.length
 ·rw [if_pos h, List.getElem?_range h]
  have hm : j % zs.length < zs.length := Nat.mod_lt _ h0
  simp [List.getElem?_eq_getElem hm, hm]
 ·rw [if_neg h, List.getElem?_eq_none (by simpa using Nat.le_of_not_lt h)]
  simp
structure TyE : Type 1 where
 α : Type
 z : Nat
 F : α → List FVal
 V : α → List SC
 M : List FVal → Option α
 d : α
structure TyE.Ok (e : TyE) : Prop where
 len : ∀ x, (e.F x).length = e.z
 pos : 0 < e.z
theorem flatMap_lenB {α β : Type} (f : α → List β) (n : Nat) (h : ∀ x, (f x).length = n) : ∀ l : List α, (l.flatMap f).length = l.length * n
 | [] => by simp
 | x :: l => by simp only [List.flatMap_cons, List.length_append, h x, flatMap_lenB f n h l, List.length_cons, Nat.succ_mul]; omega
theorem rep_els {α : Type} {z : Nat} {F : α → List FVal} {d : α} (hF : ∀ x, (F x).length = z) (hz : 0 < z) (n : Nat) : repCells ((F d).map CVal.f) n = ((List.replicate n d).flatMap F).map CVal.f := by
 rw [repCells_eq]
 apply List.ext_getElem?
 intro j
 simp only [List.length_map, hF, List.getElem?_map]
 by_cases h : j < n * z
 ·rw [List.getElem?_range h]
  have hj : (List.replicate n d)[j / z]? = some d := by
   rw [List.getElem?_replicate, if_pos (Nat.div_lt_of_lt_mul (by rw [Nat.mul_comm]; exact h))]
  have hm : j % z < z := Nat.mod_lt _ hz
  have := flatMap_get F z hF _ (j / z) (j % z) d hj hm
  have e : j / z * z + j % z = j := by rw [Nat.mul_comm]; exact Nat.div_add_mod j z
  rw [e] at this
  rw [this]
  have h2 : j % z < (F d).length := by rw [hF]; exact hm
  simp [List.getElem?_eq_getElem h2, hF, hm]
 ·have hl : ((List.replicate n d).flatMap F).length ≤ j := by rw [flatMap_lenB F z hF, List.length_replicate]; omega
  rw [List.getElem?_eq_none hl, List.getElem?_eq_none (by simpa using Nat.le_of_not_lt h)]
  rfl
theorem flatMap_dropB {α β : Type} (f : α → List β) (n : Nat) (h : ∀ x, (f x).length = n) : ∀ (l : List α) (i : Nat), (l.flatMap f).drop (i * n) = (l.drop i).flatMap f
 | [], i => by simp
 | x :: l, 0 => by simp
 | x :: l, i + 1 => by
  rw [show (i + 1) * n = (f x).length + i * n by rw [h, Nat.succ_mul]; omega, List.flatMap_cons, List.drop_append]
  simp only [Nat.add_sub_cancel_left, List.drop_succ_cons]
  rw [List.drop_of_length_le (by omega), List.nil_append]
  exact flatMap_dropB f n h l i
theorem flatMap_takeB {α β : Type} (f : α → List β) (n : Nat) (h : ∀ x, (f x).length = n) : ∀ (l : List α) (i : Nat), (l.flatMap f).take (i * n) = (l.take i).flatMap f
 | [], i => by simp
 | x :: l, 0 => by simp
 | x :: l, i + 1 => by
  rw [show (i + 1) * n = (f x).length + i * n by rw [h, Nat.succ_mul]; omega, List.flatMap_cons, List.take_append]
  simp only [Nat.add_sub_cancel_left, List.take_succ_cons, List.flatMap_cons]
  rw [List.take_of_length_le (by omega), flatMap_takeB f n h l i]
section
variable {P : Program} {ops : Array Oper} {s : St} {d : Option Tmp} {ty : TypeId} {pos : String} {af : Array Edge} {T : Tb} {r : SR} {H : SH} {ev : Operand → Option SV}
def soBuild (T : Tb) (ev : Operand → Option SV) (t : Nat) (parts : List (Nat × Operand)) : Option SR :=
 match lkN T.bi t with
 | some (zs, p) => fillK ev p zs parts fun cs => some ⟨.agg cs, none, none, .q0, True⟩
 | none => none
theorem soBuild_ok (O : T.Ok P) {t : Nat} {parts : List (Nat × Operand)} (hev : ∀ q ∈ parts, ∀ v, ev q.2 = some v → s.ev q.2 = v.den) (h : soBuild T ev t parts = some r) : Snd P ops ⟨d, .build t parts.toArray, ty, pos, af, none⟩ s r := by
 intro rest R hp hk
 unfold soBuild at h
 split at h
 ·rename_i zs p hb
  obtain ⟨ps, cs, h1, h2, h3⟩ := fillK_eq hev h
  injection h3 with h3; subst h3
  exact R_build (O.bi_of hb) h1 h2 hk
 ·cases h
def soBuildSl (T : Tb) (ev : Operand → Option SV) (t n : Nat) (parts : List (Nat × Operand)) : Option SR :=
 match lkN T.ms t with
 | some (sz, _, z :: zs) => match Nat.ble (n * sz) 16777216 with
  | true => fillK ev (.elems sz) (repS (z :: zs) n []) parts fun cs => fvK cs fun fs => some ⟨.c (.c (.tip sz fs n)), none, none, .q0, True⟩
  | false => none
 | _ => none
theorem soBuildSl_ok (O : T.Ok P) {t n : Nat} {parts : List (Nat × Operand)} (hev : ∀ q ∈ parts, ∀ v, ev q.2 = some v → s.ev q.2 = v.den) (h : soBuildSl T ev t n parts = some r) : Snd P ops ⟨d, .buildSlice t n parts.toArray, ty, pos, af, none⟩ s r := by
 intro rest R hp hk
 unfold soBuildSl at h
 split at h
 ·rename_i sz by_ z zs hm
  split at h
  ·rename_i hle
   obtain ⟨ps, cs, h1, h2, h3⟩ := fillK_eq hev h
   obtain ⟨fs, h4, h5⟩ := fvK_eq h3
   injection h5 with h5; subst h5
   refine R_buildSlice (O.ms_of hm) h1 (Nat.le_of_ble_eq_true hle) ?_ h4 hk
   rw [repS_den _ _ (by simp)]
   exact h2
  ·cases h
 ·cases h
structure El : Type 1 where
 sl : List (Nat × TyE)
 ar : List (Nat × Nat × TyE)
def okEs : List (Nat × TyE) → Prop
 | [] => True
 | p :: l => p.2.Ok ∧ okEs l
theorem okEs_mem : ∀ {E : List (Nat × TyE)}, okEs E → ∀ p ∈ E, p.2.Ok
 | [], _, p, hp => by cases hp
 | q :: l, h, p, hp => by
  rcases List.mem_cons.1 hp with rfl | hp
  ·exact h.1
  ·exact okEs_mem h.2 p hp
structure El.Ok (E : El) (P : Program) : Prop where
 eq : (E.sl.map fun p => (mkInfo P p.1).map fun q => (q.1, q.2.2)) = E.sl.map fun p => some (p.2.z, (p.2.F p.2.d).map CVal.f)
 ok : okEs E.sl
 ar : (E.ar.map fun p => (elemSz P p.1, arrOf P p.1, zeroC P p.1)) = E.ar.map fun p => (none, some (p.2.1, p.2.2.z), some (((List.replicate p.2.1 p.2.2.d).flatMap p.2.2.F).map CVal.f))
def nums : List Nat := [0, 1, 2, 3, 4, 5, 6, 7, 8, 9, 10, 11, 12, 13, 14, 15, 16, 17, 18, 19, 20, 21, 22, 23, 24, 25, 26, 27, 28, 29, 30, 31, 32, 33, 34, 35, 36, 37, 38, 39]
def snocGo : SH → List Nat → SB → (Nat → SH → Option SR) → Option SR
 | [], n :: _, b, k => k n [some b]
 | x :: H, _ :: ns, b, k => snocGo H ns b fun m H' => k m (x :: H')
 | _, [], _, _ => none
def snocK (H : SH) (b : SB) (k : Nat → SH → Option SR) : Option SR := snocGo H nums b k
def soMake (E : El) (H : SH) (t : Nat) (bys : Option Nat) (l c : SV) : Option SR :=
 match lkN E.sl t with
 | some e => match bys with
  | some by_ => match l with
   | .c (.c (.f (.v (.int k m)))) => match c with
    | .c (.c (.f (.v (.int j m')))) => snocK H (.els e.z e.F e.V e.M e.d (List.replicate m.toNat e.d)) fun n H' => some ⟨.c (.c (.arr n 0 m.toNat m.toNat)), none, some H', .mk1 n, (0 ≤ m ∧ m ≤ 4611686018427387904 ∧ (by_ : Int) * m ≤ 281474976710656) ∧ m = m'⟩
    | _ => none
   | _ => none
  | none => none
 | none => none
theorem snocGo_eq {b : SB} : ∀ {H : SH} {ns : List Nat} {k : Nat → SH → Option SR}, snocGo H ns b k = some r → ∃ n, ns[H.length]? = some n ∧ k n (H ++ [some b]) = some r
 | [], [], k, h => by cases h
 | [], n :: ns, k, h => ⟨n, rfl, h⟩
 | x :: H, [], k, h => by cases h
 | x :: H, m :: ns, k, h => by
  obtain ⟨n, h1, h2⟩ := snocGo_eq (H := H) (ns := ns) h
  exact ⟨n, by simpa using h1, h2⟩
theorem nums_get : ∀ {i n : Nat}, nums[i]? = some n → n = i := by
 intro i n h
 have hl : i < 40 := (List.getElem?_eq_some_iff.1 h).1
 have e : nums = List.range 40 := by decide
 rw [e, List.getElem?_range hl] at h
 injection h with h
 exact h.symm
theorem snocK_eq {b : SB} {k : Nat → SH → Option SR} (h : snocK H b k = some r) : k H.length (H ++ [some b]) = some r := by
 obtain ⟨n, h1, h2⟩ := snocGo_eq h
 rw [nums_get h1] at h2
 exact h2
theorem denH_snoc (H : SH) (b : SB) : denH (H ++ [some b]) = denH H ++ [some b.den] := by simp [denH, denB]
theorem soMake_ok (O : T.Ok P) {E : El} (hE : E.Ok P) (hH : s.H = denH H) {t : Nat} {l c : Operand} {v u : SV} (hl : s.ev l = v.den) (hc : s.ev c = u.den) (h : soMake E H t ((lkN T.ms t).map fun q => q.2.1) v u = some r) : Snd P ops ⟨d, .makeSlice t l c, ty, pos, af, none⟩ s r := by
 intro rest R hp hk
 unfold soMake at h
 split at h
 ·rename_i e he
  have hmem := lkN_mem he
  have h1 := map_mem hE.eq _ hmem
  have h2 := okEs_mem hE.ok _ hmem
  simp only at h1 h2
  split at h
  ·rename_i by_ hby
   obtain ⟨q, hq, hq2⟩ := Option.map_eq_some_iff.1 hby
   obtain ⟨a, b', zs⟩ := q
   simp only at hq2
   subst hq2
   have hm := O.ms_of hq
   rw [hm] at h1
   simp only [Option.map_some, Option.some.injEq, Prod.mk.injEq] at h1
   obtain ⟨e1, e2⟩ := h1
   split at h
   ·split at h
    ·have h3 := snocK_eq h
     injection h3 with h3; subst h3
     obtain ⟨⟨p1, p2, p3⟩, p4⟩ := hp
     subst p4
     rw [e2] at hm
     refine R_make hm hl hc p1 p2 p3 (by rw [hH, denH_len]) (rep_els h2.len h2.pos _) ?_ hk
     rw [hH, denH_snoc]
     rfl
    ·cases h
   ·cases h
  ·cases h
 ·cases h
def soAlloc (T : Tb) (E : El) (H : SH) (t : Nat) : Option SR :=
 match lkN E.ar t with
 | some (m, e) => snocK H (.els e.z e.F e.V e.M e.d (List.replicate m e.d)) fun n H' => some ⟨.c (.c (.ptr n 0)), none, some H', .mk1 n, True⟩
 | none => match lkN T.ze t with
  | some zs => snocK H (.cells zs) fun n H' => some ⟨.c (.c (.ptr n 0)), none, some H', .mk1 n, True⟩
  | none => none
theorem El.Ok.ar_of {E : El} (hE : E.Ok P) {t m : Nat} {e : TyE} (h : lkN E.ar t = some (m, e)) : elemSz P t = none ∧ arrOf P t = some (m, e.z) ∧ zeroC P t = some (((List.replicate m e.d).flatMap e.F).map CVal.f) := by
 have h1 := map_mem hE.ar _ (lkN_mem h)
 simp only [Prod.mk.injEq] at h1
 exact h1
theorem soAlloc_ok (O : T.Ok P) {E : El} (hE : E.Ok P) (hH : s.H = denH H) {t : Nat} (h : soAlloc T E H t = some r) : Snd P ops ⟨d, .alloc t, ty, pos, af, none⟩ s r := by
 intro rest R hp hk
 unfold soAlloc at h
 split at h
 ·rename_i m e he
  have h3 := snocK_eq h
  injection h3 with h3; subst h3
  exact R_alloc (hE.ar_of he).2.2 (by rw [hH, denH_len]) (by rw [hH, denH_snoc]; rfl) hk
 ·split at h
  ·rename_i zs hz
   have h3 := snocK_eq h
   injection h3 with h3; subst h3
   exact R_alloc (O.ze_of hz) (by rw [hH, denH_len]) (by rw [hH, denH_snoc]; rfl) hk
  ·cases h
theorem R_ia_ptr {t : TypeId} {x i : Operand} {n : Int} {m z b off off' : Nat} {k : IntKind} {rest : List Oper} {R : Rg} (hz : elemSz P t = none) (ha : arrOf P t = some (m, z)) (hx : s.ev x = .c (.ptr b off)) (hi : s.ev i = .c (.f (.v (.int k n)))) (h0 : 0 ≤ n) (h1 : n < m) (ho : off + n.toNat * z = off')
  (h : WR P ops rest (s.put d (.c (.ptr b off'))) (R.push .q0)) : WR P ops (⟨d, .indexAddr t x i, ty, pos, af, none⟩ :: rest) s R := by
 refine WR_op (wantA_none rfl) rfl ?_ (clOf0 rfl rfl rfl) h
 show aIndexAddr P s t x i = _
 unfold aIndexAddr
 rw [hi]
 simp only [AVal.ix]
 rw [if_pos h0, hz, ha, hx]
 simp only [AVal.dem, CVal.dem, if_pos h1, ho]
def soIAp (E : El) (H : SH) (t : Nat) (v i : SV) : Option SR :=
 match lkN E.ar t with
 | some (m, e) => match i with
  | .c (.c (.f (.v (.int k n)))) => match v with
   | .c (.c (.ptr b off)) => match nth H b with
    | some (some (.els z' F V M e' l)) => match Nat.beq e.z z', Nat.beq off 0 with
     | true, true => some ⟨.c (.pel b z' n 0), none, none, .q0, 0 ≤ n ∧ n < m⟩
     | _, _ => none
    | _ => none
   | _ => none
  | _ => none
 | none => none
theorem soIAp_ok {E : El} (hE : E.Ok P) {t : Nat} {x i : Operand} {v u : SV} (hx : s.ev x = v.den) (hi : s.ev i = u.den) (h : soIAp E H t v u = some r) : Snd P ops ⟨d, .indexAddr t x i, ty, pos, af, none⟩ s r := by
 intro rest R hp hk
 unfold soIAp at h
 split at h
 ·rename_i m e he
  obtain ⟨h1, h2, _⟩ := hE.ar_of he
  split at h
  ·split at h
   ·split at h
    ·split at h
     ·rename_i hb hb2
      have hb := Nat.eq_of_beq_eq_true hb
      have hb2 := Nat.eq_of_beq_eq_true hb2
      subst hb2
      injection h with h; subst h
      exact R_ia_ptr h1 h2 hx hi hp.1 hp.2 (by rw [hb]; omega) hk
     ·cases h
    ·cases h
   ·cases h
  ·cases h
 ·cases h
def soBox (H : SH) (v : SV) : Option SR := cellK v fun ds => snocK H (.cells ds) fun n H' => some ⟨.c (.c (.ptr n 0)), none, some H', .mk1 n, True⟩
theorem soBox_ok (hH : s.H = denH H) {t : Nat} {x : Operand} {v : SV} (hx : s.ev x = v.den) (h : soBox H v = some r) : Snd P ops ⟨d, .box t x, ty, pos, af, none⟩ s r := by
 intro rest R hp hk
 unfold soBox at h
 obtain ⟨ds, h1, h2⟩ := cellK_eq h
 have h3 := snocK_eq h2
 injection h3 with h3; subst h3
 exact R_box hx h1 (by rw [hH, denH_len]) (by rw [hH, denH_snoc]; rfl) hk
def boI (ev : Operand → Option SV) (x : Option Operand) (k : Option Int → Option SR) : Option SR :=
 match x with
 | none => k none
 | some o => match ev o with
  | some (.c (.c (.f (.v (.int _ n))))) => k (some n)
  | _ => none
def soSlice (T : Tb) (ev : Operand → Option SV) (t : Nat) (v : SV) (lo hi : Option Operand) : Option SR :=
 boI ev lo fun lo => boI ev hi fun hi => match v with
 | .c (.c (.f (.v (.string b)))) => match memN T.st t with
  | true => match lo, hi with
   | none, none => some ⟨sV (b.extract 0 b.size), none, none, .q0, True⟩
   | some l, none => some ⟨sV (b.extract l.toNat b.size), none, none, .q0, 0 ≤ l ∧ l ≤ b.size⟩
   | none, some h => some ⟨sV (b.extract 0 h.toNat), none, none, .q0, 0 ≤ h ∧ h ≤ b.size⟩
   | some l, some h => some ⟨sV (b.extract l.toNat h.toNat), none, none, .q0, 0 ≤ l ∧ l ≤ h ∧ h ≤ b.size⟩
  | false => none
 | .c (.row z F V e l) => rows z F V e l (lkN T.es t) lo hi
 | .c (.tipr z F V M e l) => rows z F V e l (lkN T.es t) lo hi
 | .c (.c (.arr b off n cap)) => match lkN T.es t with
  | some z => match lo, hi with
   | none, some h => some ⟨.c (.c (.arr b off h.toNat cap)), none, none, .q0, 0 ≤ h ∧ h ≤ n ∧ n ≤ cap⟩
   | some a, none => some ⟨.c (.c (.arr b (off + a.toNat * z) ((n : Int) - a).toNat (cap - a.toNat))), none, none, .q0, 0 ≤ a ∧ a ≤ n ∧ n ≤ cap ∧ a < cap⟩
   | _, _ => none
  | none => none
 | _ => none
where rows {α : Type} (z : Nat) (F : α → List FVal) (V : α → List SC) (e : α) (l : List α) (es : Option Nat) (lo hi : Option Int) : Option SR :=
 match es with
 | some z' => match Nat.beq z z' with
  | true => match lo, hi with
   | none, none => some ⟨.c (.row z F V e l), none, none, .q0, ∀ x, (F x).length = z⟩
   | some a, none => some ⟨.c (.row z F V e (l.drop a.toNat)), none, none, .q0, (0 ≤ a ∧ a ≤ l.length) ∧ ∀ x, (F x).length = z⟩
   | none, some b => some ⟨.c (.row z F V e (l.take b.toNat)), none, none, .q0, (0 ≤ b ∧ b ≤ l.length) ∧ ∀ x, (F x).length = z⟩
   | some a, some b => some ⟨.c (.row z F V e ((l.drop a.toNat).take (b - a).toNat)), none, none, .q0, (0 ≤ a ∧ a ≤ b ∧ b ≤ l.length) ∧ ∀ x, (F x).length = z⟩
  | false => none
 | none => none
theorem boI_eq {x : Option Operand} {k : Option Int → Option SR} (h : boI ev x k = some r) (hev : ∀ o, x = some o → ∀ v, ev o = some v → s.ev o = v.den) : ∃ n, k n = some r ∧ ((x = none ∧ n = none) ∨ ∃ m, n = some m ∧ ∀ d, bnd s x d = some m) := by
 unfold boI at h
 split at h
 ·exact ⟨none, h, .inl ⟨rfl, rfl⟩⟩
 ·rename_i o
  split at h
  ·rename_i k' n hn
   refine ⟨some n, h, .inr ⟨n, rfl, fun d => ?_⟩⟩
   exact bnd_some (hev o rfl _ hn)
  ·cases h
theorem soRows_ok (O : T.Ok P) {t : Nat} {x : Operand} {lo hi : Option Operand} {α : Type} {z : Nat} {F : α → List FVal} {V : α → List SC} {e : α} {l : List α} {v : AVal} (hx : s.ev x = v) (hv : v.dem = .c (.f (.row (l.flatMap F) l.length))) {a b : Option Int}
  (ha : (lo = none ∧ a = none) ∨ ∃ m, a = some m ∧ ∀ d, bnd s lo d = some m) (hb : (hi = none ∧ b = none) ∨ ∃ m, b = some m ∧ ∀ d, bnd s hi d = some m) (h : soSlice.rows z F V e l (lkN T.es t) a b = some r) : Snd P ops ⟨d, .slice t x lo hi none, ty, pos, af, none⟩ s r := by
 intro rest R hp hk
 unfold soSlice.rows at h
 split at h
 ·rename_i z' hz
  have hz := O.es_of hz
  split at h
  ·rename_i hzz
   have hzz := Nat.eq_of_beq_eq_true hzz
   subst hzz
   split at h
   ·injection h with h; subst h
    obtain ⟨rfl, _⟩ : lo = none ∧ True := by rcases ha with h | ⟨m, h, _⟩; exact ⟨h.1, trivial⟩; cases h
    obtain ⟨rfl, _⟩ : hi = none ∧ True := by rcases hb with h | ⟨m, h, _⟩; exact ⟨h.1, trivial⟩; cases h
    refine R_slice_row hz hx hv rfl rfl (by omega) (by omega) (by omega) ?_ ?_ hk
    ·rw [show (0 : Int).toNat = 0 from rfl, Nat.zero_mul, List.drop_zero, Int.sub_zero, Int.toNat_natCast, flatMap_takeB F z hp, List.take_length]
    ·simp
   ·rename_i a'
    injection h with h; subst h
    obtain ⟨⟨h0, h1⟩, hF⟩ := hp
    obtain ⟨rfl, _⟩ : hi = none ∧ True := by rcases hb with h | ⟨m, h, _⟩; exact ⟨h.1, trivial⟩; cases h
    have ha : ∀ d, bnd s lo d = some a' := by rcases ha with ⟨_, h⟩ | ⟨m, h, h2⟩; cases h; injection h with h; subst h; exact h2
    refine R_slice_row hz hx hv (ha 0) rfl h0 h1 (by omega) ?_ ?_ hk
    ·rw [flatMap_dropB F z hF, flatMap_takeB F z hF, List.take_of_length_le (by rw [List.length_drop]; omega)]
    ·rw [List.length_drop]; omega
   ·rename_i b'
    injection h with h; subst h
    obtain ⟨⟨h0, h1⟩, hF⟩ := hp
    obtain ⟨rfl, _⟩ : lo = none ∧ True := by rcases ha with h | ⟨m, h, _⟩; exact ⟨h.1, trivial⟩; cases h
    have hb : ∀ d, bnd s hi d = some b' := by rcases hb with ⟨_, h⟩ | ⟨m, h, h2⟩; cases h; injection h with h; subst h; exact h2
    refine R_slice_row hz hx hv rfl (hb _) (by omega) h0 h1 ?_ ?_ hk
    ·rw [show (0 : Int).toNat = 0 from rfl, Nat.zero_mul, List.drop_zero, Int.sub_zero, flatMap_takeB F z hF]
    ·rw [List.length_take]; omega
   ·rename_i a' b'
    injection h with h; subst h
    obtain ⟨⟨h0, h1, h2⟩, hF⟩ := hp
    have ha : ∀ d, bnd s lo d = some a' := by rcases ha with ⟨_, h⟩ | ⟨m, h, h2⟩; cases h; injection h with h; subst h; exact h2
    have hb : ∀ d, bnd s hi d = some b' := by rcases hb with ⟨_, h⟩ | ⟨m, h, h2⟩; cases h; injection h with h; subst h; exact h2
    refine R_slice_row hz hx hv (ha 0) (hb _) h0 h1 h2 ?_ ?_ hk
    ·rw [flatMap_dropB F z hF, flatMap_takeB F z hF]
    ·rw [List.length_take, List.length_drop]; omega
  ·cases h
 ·cases h
theorem R_slice_arr {t : TypeId} {x : Operand} {hi : Operand} {z b off n cap : Nat} {h' : Int} (hz : elemSz P t = some z) (hx : s.ev x = .c (.arr b off n cap)) (hh : bnd s (some hi) n = some h') (h0 : 0 ≤ h') (h1 : h' ≤ cap) {rest : List Oper} {R : Rg} (h : WR P ops rest (s.put d (.c (.arr b off h'.toNat cap))) (R.push .q0)) :
  WR P ops (⟨d, .slice t x none (some hi) none, ty, pos, af, none⟩ :: rest) s R := by
 refine WR_op (wantA_none rfl) rfl ?_ (clOf0 rfl rfl rfl) h
 show aSlice P s _ t x none (some hi) none = _
 unfold aSlice
 rw [hz, hx]
 have e : (AVal.c (CVal.arr b off n cap)).dem = .c (.arr b off n cap) := rfl
 rw [e]
 simp only [hh]
 have h2 : bnd s none 0 = some 0 := rfl
 rw [h2]
 simp only
 rw [if_pos ⟨by omega, h0, h1⟩]
 simp
theorem R_slice_arr2 {t : TypeId} {x : Operand} {lo : Operand} {z b off n cap : Nat} {a : Int} (hz : elemSz P t = some z) (hx : s.ev x = .c (.arr b off n cap)) (hh : bnd s (some lo) 0 = some a) (h0 : 0 ≤ a) (h1 : a ≤ n) (h2 : n ≤ cap) (h3 : a < cap) {rest : List Oper} {R : Rg} (h : WR P ops rest (s.put d (.c (.arr b (off + a.toNat * z) ((n : Int) - a).toNat (cap - a.toNat)))) (R.push .q0)) :
  WR P ops (⟨d, .slice t x (some lo) none none, ty, pos, af, none⟩ :: rest) s R := by
 refine WR_op (wantA_none rfl) rfl ?_ (clOf0 rfl rfl rfl) h
 show aSlice P s _ t x (some lo) none none = _
 unfold aSlice
 rw [hz, hx]
 have e : (AVal.c (CVal.arr b off n cap)).dem = .c (.arr b off n cap) := rfl
 rw [e]
 simp only [hh]
 have h4 : bnd s none (n : Int) = some (n : Int) := rfl
 rw [h4]
 simp only
 rw [if_pos ⟨h0, h1, by omega⟩, if_neg (by omega)]
theorem soSlice_ok (O : T.Ok P) {t : Nat} {x : Operand} {v : SV} {lo hi : Option Operand} (hx : s.ev x = v.den) (hlo : ∀ o, lo = some o → ∀ v, ev o = some v → s.ev o = v.den) (hhi : ∀ o, hi = some o → ∀ v, ev o = some v → s.ev o = v.den) (h : soSlice T ev t v lo hi = some r) : Snd P ops ⟨d, .slice t x lo hi none, ty, pos, af, none⟩ s r := by
 unfold soSlice at h
 obtain ⟨a, h', ha⟩ := boI_eq h hlo
 clear h
 obtain ⟨b, h, hb⟩ := boI_eq h' hhi
 clear h'
 split at h
 ·rename_i b0
  intro rest R hp hk
  split at h
  ·rename_i ht
   have ht := O.st_of ht
   split at h
   ·injection h with h; subst h
    obtain ⟨rfl, _⟩ : lo = none ∧ True := by rcases ha with h | ⟨m, h, _⟩; exact ⟨h.1, trivial⟩; cases h
    obtain ⟨rfl, _⟩ : hi = none ∧ True := by rcases hb with h | ⟨m, h, _⟩; exact ⟨h.1, trivial⟩; cases h
    refine R_slice_str ht hx rfl rfl (by omega) (by omega) (by omega) ?_
    rw [Int.toNat_natCast]; exact hk
   ·rename_i a'
    injection h with h; subst h
    obtain ⟨rfl, _⟩ : hi = none ∧ True := by rcases hb with h | ⟨m, h, _⟩; exact ⟨h.1, trivial⟩; cases h
    have ha : ∀ d, bnd s lo d = some a' := by rcases ha with ⟨_, h⟩ | ⟨m, h, h2⟩; cases h; injection h with h; subst h; exact h2
    refine R_slice_str ht hx (ha _) rfl hp.1 hp.2 (by omega) ?_
    rw [Int.toNat_natCast]; exact hk
   ·rename_i b'
    injection h with h; subst h
    obtain ⟨rfl, _⟩ : lo = none ∧ True := by rcases ha with h | ⟨m, h, _⟩; exact ⟨h.1, trivial⟩; cases h
    have hb : ∀ d, bnd s hi d = some b' := by rcases hb with ⟨_, h⟩ | ⟨m, h, h2⟩; cases h; injection h with h; subst h; exact h2
    exact R_slice_str ht hx rfl (hb _) (by omega) hp.1 hp.2 hk
   ·rename_i a' b'
    injection h with h; subst h
    have ha : ∀ d, bnd s lo d = some a' := by rcases ha with ⟨_, h⟩ | ⟨m, h, h2⟩; cases h; injection h with h; subst h; exact h2
    have hb : ∀ d, bnd s hi d = some b' := by rcases hb with ⟨_, h⟩ | ⟨m, h, h2⟩; cases h; injection h with h; subst h; exact h2
    exact R_slice_str ht hx (ha _) (hb _) hp.1 hp.2.1 hp.2.2 hk
  ·cases h
 ·exact soRows_ok O hx rfl ha hb h
 ·exact soRows_ok O hx rfl ha hb h
 ·intro rest R hp hk
  split at h
  ·rename_i z hz
   split at h
   ·rename_i b'
    injection h with h; subst h
    obtain ⟨rfl, _⟩ : lo = none ∧ True := by rcases ha with h | ⟨m, h, _⟩; exact ⟨h.1, trivial⟩; cases h
    have hb2 : ∃ o, hi = some o := by rcases hb with ⟨_, h⟩ | ⟨m, h, h2⟩; cases h; cases hi; exact absurd (h2 (m + 1)) (by simp [bnd]; omega); exact ⟨_, rfl⟩
    obtain ⟨o, rfl⟩ := hb2
    have hb : ∀ d, bnd s (some o) d = some b' := by rcases hb with ⟨_, h⟩ | ⟨m, h, h2⟩; cases h; injection h with h; subst h; exact h2
    exact R_slice_arr (O.es_of hz) hx (hb _) hp.1 (by obtain ⟨_, h2, h3⟩ := hp; omega) hk
   ·rename_i a'
    injection h with h; subst h
    obtain ⟨rfl, _⟩ : hi = none ∧ True := by rcases hb with h | ⟨m, h, _⟩; exact ⟨h.1, trivial⟩; cases h
    have ha2 : ∃ o, lo = some o := by rcases ha with ⟨_, h⟩ | ⟨m, h, h2⟩; cases h; cases lo; exact absurd (h2 (m + 1)) (by simp [bnd]; omega); exact ⟨_, rfl⟩
    obtain ⟨o, rfl⟩ := ha2
    have ha : ∀ d, bnd s (some o) d = some a' := by rcases ha with ⟨_, h⟩ | ⟨m, h, h2⟩; cases h; injection h with h; subst h; exact h2
    exact R_slice_arr2 (O.es_of hz) hx (ha _) hp.1 hp.2.1 hp.2.2.1 hp.2.2.2 hk
   ·cases h
  ·cases h
 ·cases h
end
section
variable {P : Program} {ops : Array Oper} {s : St} {d : Option Tmp} {ty : TypeId} {pos : String} {af : Array Edge} {T : Tb} {r : SR} {H : SH} {ev : Operand → Option SV}
def srcK (sz : Nat) (u : SV) (k : Nat → List FVal → Prop → Option SR) : Option SR :=
 match u with
 | .c (.row z F V e l) => match Nat.beq z sz with
  | true => k l.length (l.flatMap F) (∀ x, (F x).length = z)
  | false => none
 | .c (.tipr z F V M e l) => match Nat.beq z sz with
  | true => k l.length (l.flatMap F) (∀ x, (F x).length = z)
  | false => none
 | .c (.c (.f (.row cs n))) => k n cs (cs.length = n * sz)
 | .c (.c (.tip _ cs n)) => k n cs (cs.length = n * sz)
 | .c (.c (.f .nils)) => k 0 [] True
 | _ => none
def appE {α : Type} (u : SV) (M : List FVal → Option α) : Option α :=
 match u with
 | .c (.c (.f (.row cs n))) => match Nat.beq n 1 with
  | true => M cs
  | false => none
 | .c (.c (.tip _ cs n)) => match Nat.beq n 1 with
  | true => M cs
  | false => none
 | _ => none
def FE (a b : List FVal) : Prop := a = b
theorem q_FE {a b : List FVal} (h : FE a b) : FE a b := h
def soApp (T : Tb) (t tx : Nat) (x : Operand) (v u : SV) : Option SR :=
 match lkN T.ms t with
 | some (sz, by_, _) => match lkN T.es tx with
  | some z => match Nat.beq z sz with
   | true => srcK sz u fun n fs p => match v with
    | .c (.c (.tip z' cs len)) => match x with
     | .tmp w => match Nat.beq z' sz with
      | true => some ⟨.c (.c (.tip sz (cs ++ fs) (len + n))), some (w, .v (.c (.c (.f (.row cs len))))), none, ⟨[], [], [], none, true, false⟩, p ∧ len + n ≤ 4611686018427387904 ∧ (len + n) * by_ ≤ 140737488355328⟩
      | false => none
     | _ => none
    | .c (.tipr z' F V M e l) => match x with
     | .tmp w => match Nat.beq z' sz with
      | true => match appE u M with
       | some y => some ⟨.c (.tipr sz F V M e (l ++ [y])), some (w, .v (.c (.row z' F V e l))), none, ⟨[], [], [], none, true, false⟩, (p ∧ n = 1 ∧ FE fs (F y)) ∧ l.length + 1 ≤ 4611686018427387904 ∧ (l.length + 1) * by_ ≤ 140737488355328⟩
       | none => some ⟨.c (.c (.tip sz (l.flatMap F ++ fs) (l.length + n))), some (w, .v (.c (.row z' F V e l))), none, ⟨[], [], [], none, true, false⟩, p ∧ l.length + n ≤ 4611686018427387904 ∧ (l.length + n) * by_ ≤ 140737488355328⟩
      | false => none
     | _ => none
    | .c (.c (.f .nils)) => some ⟨.c (.c (.tip sz fs n)), none, none, ⟨[], [], [], none, false, false⟩, p ∧ n ≤ 4611686018427387904 ∧ n * by_ ≤ 140737488355328⟩
    | _ => none
   | false => none
  | none => none
 | none => none
theorem srcK_eq (O : T.Ok P) {sz tx : Nat} {u : SV} {y : Operand} {k : Nat → List FVal → Prop → Option SR} (hy : s.ev y = u.den) (hz : elemSz P tx = some sz) (h : srcK sz u k = some r) :
  ∃ n fs p, k n fs p = some r ∧ arrB (s.ev y).dem = [] ∧ (p → srcCells P s sz tx y = some (n, fs)) := by
 unfold srcK at h
 split at h
 ·split at h
  ·rename_i hb
   have hb := Nat.eq_of_beq_eq_true hb
   subst hb
   exact ⟨_, _, _, h, by rw [hy]; rfl, fun hF => src_row hy rfl hz (flatMap_lenB _ _ hF _)⟩
  ·cases h
 ·split at h
  ·rename_i hb
   have hb := Nat.eq_of_beq_eq_true hb
   subst hb
   exact ⟨_, _, _, h, by rw [hy]; rfl, fun hF => src_row hy rfl hz (flatMap_lenB _ _ hF _)⟩
  ·cases h
 ·exact ⟨_, _, _, h, by rw [hy]; rfl, fun hF => src_row hy rfl hz hF⟩
 ·exact ⟨_, _, _, h, by rw [hy]; rfl, fun hF => src_row hy rfl hz hF⟩
 ·exact ⟨_, _, _, h, by rw [hy]; rfl, fun _ => src_nil hy hz⟩
 ·cases h
theorem soApp_ok (O : T.Ok P) {t tx : Nat} {x y : Operand} {v u : SV} (hx : s.ev x = v.den) (hy : s.ev y = u.den) (h : soApp T t tx x v u = some r) : Snd P ops ⟨d, .call { callee := .builtin .append, args := #[x, y], argTypes := #[t, tx] }, ty, pos, af, none⟩ s r := by
 intro rest R hp hk
 unfold soApp at h
 split at h
 ·rename_i sz by_ zs hm
  have hm := O.ms_of hm
  split at h
  ·rename_i z hz
   have hz := O.es_of hz
   split at h
   ·rename_i hb
    have hb := Nat.eq_of_beq_eq_true hb
    subst hb
    obtain ⟨n, fs, p, h, harr, hsrc⟩ := srcK_eq O hy hz h
    split at h
    ·split at h
     ·split at h
      ·rename_i hb
       have hb := Nat.eq_of_beq_eq_true hb
       subst hb
       injection h with h; subst h
       exact R_append_tip hm hx (hsrc hp.1) harr hp.2.1 hp.2.2 hk
      ·cases h
     ·cases h
    ·split at h
     ·split at h
      ·rename_i hb
       have hb := Nat.eq_of_beq_eq_true hb
       subst hb
       split at h
       ·injection h with h; subst h
        obtain ⟨⟨p0, rfl, p1⟩, p2, p3⟩ := hp
        have p1 : fs = _ := p1
        subst p1
        refine R_append_tip hm hx (hsrc p0) harr p2 p3 ?_
        have e : ∀ (α : Type) (F : α → List FVal) (l : List α) (y : α), (l ++ [y]).flatMap F = l.flatMap F ++ F y := fun α F l y => by simp
        simp only [SR.upd, SV.den, SC.den, e, List.length_append, List.length_cons, List.length_nil, Nat.zero_add] at hk
        exact hk
       ·injection h with h; subst h
        exact R_append_tip hm hx (hsrc hp.1) harr hp.2.1 hp.2.2 hk
      ·cases h
     ·cases h
    ·injection h with h; subst h
     exact R_append_nil hm hx (hsrc hp.1) harr hp.2.1 hp.2.2 hk
    ·cases h
   ·cases h
  ·cases h
 ·cases h
def spliceL {α : Type} (l : List α) (i : Nat) (new : List α) : List α := l.take i ++ new ++ l.drop (i + new.length)
theorem setF_eq : ∀ (xs cs : List FVal) (o : Nat), o + xs.length ≤ cs.length → setF cs o xs = cs.take o ++ xs ++ cs.drop (o + xs.length)
 | [], cs, o, h => by simp [setF]
 | x :: xs, cs, o, h => by
  simp only [List.length_cons] at h
  rw [setF, setF_eq xs _ (o + 1) (by rw [List.length_set]; omega)]
  have h1 : (cs.set o x).take (o + 1) = cs.take o ++ [x] := by
   rw [List.take_succ_eq_append_getElem (by rw [List.length_set]; omega), List.take_set_of_le (Nat.le_refl _)]
   simp
  have h2 : (cs.set o x).drop (o + 1 + xs.length) = cs.drop (o + 1 + xs.length) := List.drop_set_of_lt (by omega)
  rw [h1, h2]
  simp only [List.append_assoc, List.singleton_append, List.length_cons]
  rw [show o + 1 + xs.length = o + (xs.length + 1) by omega]
theorem splice_set {α : Type} {F : α → List FVal} {z : Nat} (hF : ∀ x, (F x).length = z) (l new : List α) (i : Nat) (h : i + new.length ≤ l.length) : setAt ((l.flatMap F).map CVal.f) (i * z) ((new.flatMap F).map CVal.f) = ((spliceL l i new).flatMap F).map CVal.f := by
 have hl : (new.flatMap F).length = new.length * z := flatMap_lenB F z hF new
 have hl2 : (l.flatMap F).length = l.length * z := flatMap_lenB F z hF l
 have h3 : (i + new.length) * z ≤ l.length * z := Nat.mul_le_mul_right _ h
 rw [setF_map, setF_eq _ _ _ (by rw [hl, hl2]; rw [Nat.add_mul] at h3; exact h3)]
 unfold spliceL
 rw [List.flatMap_append, List.flatMap_append, ← flatMap_takeB F z hF, ← flatMap_dropB F z hF, hl, Nat.add_mul]
def soCopy (T : Tb) (H : SH) (t tx : Nat) (v u : SV) : Option SR :=
 match lkN T.es t with
 | some z => match lkN T.es tx with
  | some z2 => match Nat.beq z z2 with
   | true => match v with
    | .c (.c (.arr b off len _)) => match nth H b with
     | some (some (.els z' F V M e l)) => match Nat.beq z z' with
      | true => match u with
       | .c (.c (.arr b2 off2 n2 _)) => match Nat.beq b b2 with
        | true => setK H b (some (.els z' F V M e (spliceL l (off / z) ((l.drop (off2 / z)).take (min n2 len))))) fun H' => some ⟨.c (.c (.f (.v (.int .i64 (min n2 len : Nat))))), none, some H', ⟨[b, b], [], [b], none, false, false⟩, (off % z = 0 ∧ off2 % z = 0) ∧ (off / z + len ≤ l.length ∧ off2 / z + n2 ≤ l.length) ∧ (∀ x, (F x).length = z) ∧ ∀ x, fzs ((F x).map CVal.f) = some (F x)⟩
        | false => none
       | .c (.c (.f (.row cs n2))) => match M cs with
        | some a => setK H b (some (.els z' F V M e (spliceL l (off / z) ([a].take (min n2 len))))) fun H' => some ⟨.c (.c (.f (.v (.int .i64 (min n2 len : Nat))))), none, some H', ⟨[b], [], [b], none, false, false⟩, (off % z = 0 ∧ n2 = 1) ∧ off / z + len ≤ l.length ∧ (∀ x, (F x).length = z) ∧ cs = F a⟩
        | none => none
       | _ => none
      | false => none
     | _ => none
    | _ => none
   | false => none
  | none => none
 | none => none
theorem fzs_app2 : ∀ (a b : List CVal) (x y : List FVal), fzs a = some x → fzs b = some y → fzs (a ++ b) = some (x ++ y)
 | [], b, x, y, h1, h2 => by injection h1 with h1; subst h1; exact h2
 | c :: a, b, x, y, h1, h2 => by
  unfold fzs at h1
  split at h1
  ·rename_i x0 xs e1 e2
   injection h1 with h1; subst h1
   have := fzs_app2 a b xs y e2 h2
   simp only [List.cons_append, fzs, e1, this]
  ·cases h1
theorem fzs_els2 {α : Type} {F : α → List FVal} (hF : ∀ y, fzs ((F y).map CVal.f) = some (F y)) : ∀ l : List α, fzs ((l.flatMap F).map CVal.f) = some (l.flatMap F)
 | [] => rfl
 | x :: l => by
  rw [List.flatMap_cons, List.map_append]
  exact fzs_app2 _ _ _ _ (hF x) (fzs_els2 hF l)
theorem div_of {off z : Nat} (h : off % z = 0) : off / z * z = off := Nat.div_mul_cancel (Nat.dvd_of_mod_eq_zero h)
theorem copy_src {α : Type} {F : α → List FVal} {z : Nat} (hF : ∀ x, (F x).length = z) (hfz : ∀ x, fzs ((F x).map CVal.f) = some (F x)) {tx : Nat} (hz : elemSz P tx = some z) {y : Operand} {b j n cap : Nat} (hy : s.ev y = .c (.arr b (j * z) n cap)) {l : List α} (hB : s.H[b]? = some (some ((l.flatMap F).map CVal.f))) (h : j + n ≤ l.length) :
  srcCells P s z tx y = some (n, ((l.drop j).take n).flatMap F) := by
 have hL := flatMap_lenB F z hF l
 have k2 : (j + n) * z ≤ l.length * z := Nat.mul_le_mul_right _ h
 rw [Nat.add_mul] at k2
 unfold srcCells
 rw [hy]
 have e : (AVal.c (CVal.arr b (j * z) n cap)).dem = .c (.arr b (j * z) n cap) := rfl
 rw [e]
 dsimp only
 rw [hz, hB]
 dsimp only
 rw [if_pos ⟨rfl, by rw [List.length_map, hL]; exact k2⟩, ← List.map_drop, ← List.map_take, flatMap_dropB F z hF, flatMap_takeB F z hF, fzs_els2 hfz]
theorem copy_do {α : Type} {F : α → List FVal} {z : Nat} (hF : ∀ x, (F x).length = z) {t tx : Nat} (hz : elemSz P t = some z) {x y : Operand} {b i n len cap : Nat} (hx : s.ev x = .c (.arr b (i * z) len cap)) {l new : List α} (hB : s.H[b]? = some (some ((l.flatMap F).map CVal.f))) (h : i + len ≤ l.length) (hs : srcCells P s z tx y = some (n, new.flatMap F)) (hn : new.length = n) :
  aCopy P s t tx x y = some (.c (.f (.v (.int .i64 (min n len : Nat)))), { blk := some (b, ((spliceL l i (new.take (min n len))).flatMap F).map CVal.f) }) := by
 have hL := flatMap_lenB F z hF l
 have k1 : (i + len) * z ≤ l.length * z := Nat.mul_le_mul_right _ h
 rw [Nat.add_mul] at k1
 unfold aCopy
 rw [hz, hx]
 have e : (AVal.c (CVal.arr b (i * z) len cap)).dem = .c (.arr b (i * z) len cap) := rfl
 rw [e]
 dsimp only
 rw [hs, hB]
 dsimp only
 rw [if_pos (by rw [List.length_map, hL]; exact k1), flatMap_takeB F z hF, splice_set hF l (new.take (min n len)) i (by rw [List.length_take, hn]; omega)]
theorem soCopy_ok (O : T.Ok P) (hH : s.H = denH H) {t tx : Nat} {x y : Operand} {v u : SV} (hx : s.ev x = v.den) (hy : s.ev y = u.den) (h : soCopy T H t tx v u = some r) : Snd P ops ⟨d, .call { callee := .builtin .copy, args := #[x, y], argTypes := #[t, tx] }, ty, pos, af, none⟩ s r := by
 intro rest R hp hk
 unfold soCopy at h
 split at h
 ·rename_i z hz
  have hz := O.es_of hz
  split at h
  ·rename_i z2 hz2
   have hz2 := O.es_of hz2
   split at h
   ·rename_i hb
    have hb := Nat.eq_of_beq_eq_true hb
    subst hb
    split at h
    ·rename_i b off len cap
     split at h
     ·rename_i α z' F V M e0 l hB
      have hB' : s.H[b]? = some (some ((l.flatMap F).map CVal.f)) := by rw [hH]; exact nth_H hB
      split at h
      ·rename_i hb
       have hb := Nat.eq_of_beq_eq_true hb
       subst hb
       split at h
       ·rename_i b2 off2 n2 cap2
        split at h
        ·rename_i hb
         have hb := Nat.eq_of_beq_eq_true hb
         subst hb
         obtain ⟨h1, h2⟩ := setK_eq h
         injection h2 with h2; subst h2
         obtain ⟨⟨m1, m2⟩, ⟨q1, q2⟩, hF, hfz⟩ := hp
         have e1 := div_of m1
         have e2 := div_of m2
         have hx' : s.ev x = .c (.arr b (off / z * z) len cap) := by rw [e1]; exact hx
         have hy' : s.ev y = .c (.arr b (off2 / z * z) n2 cap2) := by rw [e2]; exact hy
         have hs := copy_src hF hfz hz2 hy' hB' q2
         have hd := copy_do (t := t) hF hz hx' hB' q1 hs (by rw [List.length_take, List.length_drop]; omega)
         rw [List.take_take, Nat.min_eq_left (Nat.min_le_left _ _)] at hd
         refine WR_chg (wantA_none rfl) rfl hd ?_ ?_ hk
         ·simp only [clOf, fpOf, frOf, hx, hy, SV.den, SC.den, AVal.dem, CVal.dem, arrB, List.cons_append, List.nil_append, Chg.wr, isLoad]
          rfl
         ·rw [SR.upd]
          simp only [St.chg, St.demO, St.blkO, St.newO, St.dmE, St.setO, set_H, SB.den, hH]
          rfl
        ·cases h
       ·rename_i cs n2
        split at h
        ·rename_i a ha
         obtain ⟨h1, h2⟩ := setK_eq h
         injection h2 with h2; subst h2
         obtain ⟨⟨m1, rfl⟩, q1, hF, rfl⟩ := hp
         have e1 := div_of m1
         have hx' : s.ev x = .c (.arr b (off / z * z) len cap) := by rw [e1]; exact hx
         have hs : srcCells P s z tx y = some (1, [a].flatMap F) := by
          rw [List.flatMap_cons, List.flatMap_nil, List.append_nil]
          exact src_row hy rfl hz2 (by rw [hF, Nat.one_mul])
         have hd := copy_do (t := t) hF hz hx' hB' q1 hs rfl
         refine WR_chg (wantA_none rfl) rfl hd ?_ ?_ hk
         ·simp only [clOf, fpOf, frOf, hx, hy, SV.den, SC.den, AVal.dem, CVal.dem, arrB, List.cons_append, List.nil_append, Chg.wr, isLoad]
          rfl
         ·rw [SR.upd]
          simp only [St.chg, St.demO, St.blkO, St.newO, St.dmE, St.setO, set_H, SB.den, hH]
          rfl
        ·cases h
       ·cases h
      ·cases h
     ·cases h
    ·cases h
   ·cases h
  ·cases h
 ·cases h
def rd : Op → List Operand
 | .move x | .assign x | .nilCheck x | .box _ x | .extract x _ => [x]
 | .fieldAddr _ x _ | .field _ x _ | .load _ x | .unOp _ _ x | .convert _ _ x => [x]
 | .store _ x y | .indexAddr _ x y | .index _ x y | .binOp _ _ x y _ | .makeSlice _ x y => [x, y]
 | .build _ ps | .buildSlice _ _ ps => ps.toList.map (·.2)
 | .slice _ x lo hi mx => x :: (lo.toList ++ hi.toList ++ mx.toList)
 | .call c => c.args.toList
 | _ => []
def so1 (ev : Operand → Option SV) (x : Operand) (k : SV → Option SR) : Option SR :=
 match ev x with
 | some v => k v
 | none => none
def soSlice3 (T : Tb) (ev : Operand → Option SV) (t : Nat) (v : SV) (lo hi : Option Operand) (m : Operand) : Option SR :=
 match lo with
 | some lo => match hi with
  | some hi => so1 ev lo fun a => so1 ev hi fun b => so1 ev m fun c => match a with
   | .c (.c (.f (.v (.int _ a)))) => match b with
    | .c (.c (.f (.v (.int _ b)))) => match c with
     | .c (.c (.f (.v (.int _ c)))) => match v with
      | .c (.row z F V e l) => match lkN T.es t with
       | some z' => match Nat.beq z z' with
        | true => some ⟨.c (.row z F V e ((l.drop a.toNat).take (b - a).toNat)), none, none, .q0, (0 ≤ a ∧ a ≤ b ∧ b ≤ c ∧ c ≤ l.length) ∧ ∀ x, (F x).length = z⟩
        | false => none
       | none => none
      | _ => none
     | _ => none
    | _ => none
   | _ => none
  | none => none
 | none => none
def soCall (T : Tb) (H : SH) (ev : Operand → Option SV) (c : Call) : Option SR :=
 match c.callee with
 | .builtin .len => match c.args.toList with
  | [x] => match c.argTypes.toList with
   | [t] => so1 ev x fun v => soLen T t v
   | _ => none
  | _ => none
 | .builtin .append => match c.args.toList with
  | [x, y] => match c.argTypes.toList with
   | [t, tx] => so1 ev x fun v => so1 ev y fun u => soApp T t tx x v u
   | _ => none
  | _ => none
 | .builtin .copy => match c.args.toList with
  | [x, y] => match c.argTypes.toList with
   | [t, tx] => so1 ev x fun v => so1 ev y fun u => soCopy T H t tx v u
   | _ => none
  | _ => none
 | .builtin .max => match c.args.toList with
  | [x, y] => match c.argTypes.toList with
   | [_, _] => so1 ev x fun v => so1 ev y fun u => soMM true v u
   | _ => none
  | _ => none
 | .builtin .min => match c.args.toList with
  | [x, y] => match c.argTypes.toList with
   | [_, _] => so1 ev x fun v => so1 ev y fun u => soMM false v u
   | _ => none
  | _ => none
 | _ => none
def so (T : Tb) (E : El) (ops : Array Oper) (ev : Operand → Option SV) (H : SH) (o : Oper) : Option SR :=
 match o.op with
 | .move x => so1 ev x fun v => soMove (feeds ops o) x v
 | .assign x => so1 ev x fun v => soMove true x v
 | .nilCheck x => so1 ev x fun v => soNil v
 | .fieldAddr t x f => so1 ev x fun v => soFA T t f v
 | .load t x => so1 ev x fun v => soLoad T (feeds ops o) H t v
 | .store t x y => match o.dst with
  | none => so1 ev x fun v => so1 ev y fun u => soStore T H t v y u
  | some _ => none
 | .indexAddr t x i => so1 ev x fun v => so1 ev i fun u => match lkN T.es t with
  | some _ => soIA T H t v u
  | none => soIAp E H t v u
 | .index t x i => so1 ev x fun v => so1 ev i fun u => soIndex T t v u
 | .field t x f => so1 ev x fun v => soField T t f v
 | .extract x i => so1 ev x fun v => soExt i v
 | .binOp op t x y _ => so1 ev x fun v => so1 ev y fun u => soBin T op t v u
 | .unOp op _ x => so1 ev x fun v => soUn op v
 | .build t ps => soBuild T ev t ps.toList
 | .buildSlice t n ps => soBuildSl T ev t n ps.toList
 | .makeSlice t l c => so1 ev l fun v => so1 ev c fun u => soMake E H t ((lkN T.ms t).map fun q => q.2.1) v u
 | .slice t x lo hi mx => match mx with
  | none => so1 ev x fun v => soSlice T ev t v lo hi
  | some m => so1 ev x fun v => soSlice3 T ev t v lo hi m
 | .convert t u x => so1 ev x fun v => soConv T t u v
 | .alloc t => soAlloc T E H t
 | .box _ x => so1 ev x fun v => soBox H v
 | .call c => soCall T H ev c
 | _ => none
theorem so1_eq {x : Operand} {k : SV → Option SR} (h : so1 ev x k = some r) : ∃ v, ev x = some v ∧ k v = some r := by
 unfold so1 at h
 split at h
 ·exact ⟨_, by assumption, h⟩
 ·cases h
theorem soSlice3_ok (O : T.Ok P) {t : Nat} {x m : Operand} {v : SV} {lo hi : Option Operand} (hx : s.ev x = v.den) (hlo : ∀ o, lo = some o → ∀ v, ev o = some v → s.ev o = v.den) (hhi : ∀ o, hi = some o → ∀ v, ev o = some v → s.ev o = v.den) (hm : ∀ v, ev m = some v → s.ev m = v.den) (h : soSlice3 T ev t v lo hi m = some r) : Snd P ops ⟨d, .slice t x lo hi (some m), ty, pos, af, none⟩ s r := by
 unfold soSlice3 at h
 split at h
 ·split at h
  ·rename_i lo hi
   obtain ⟨a', ha1, h⟩ := so1_eq h
   obtain ⟨b', hb1, h⟩ := so1_eq h
   obtain ⟨c', hc1, h⟩ := so1_eq h
   split at h
   ·split at h
    ·split at h
     ·split at h
      ·split at h
       ·rename_i hz
        have hz := O.es_of hz
        split at h
        ·rename_i hzz
         have hzz := Nat.eq_of_beq_eq_true hzz
         subst hzz
         injection h with h; subst h
         intro rest R hp hk
         obtain ⟨⟨h0, h1, h2, h3⟩, hF⟩ := hp
         refine R_slice_row3 hz hx rfl (bnd_some (hlo _ rfl _ ha1)) (bnd_some (hhi _ rfl _ hb1)) (bnd_some (hm _ hc1)) h0 h1 h2 h3 ?_ ?_ hk
         ·rw [flatMap_dropB _ _ hF, flatMap_takeB _ _ hF]
         ·rw [List.length_take, List.length_drop]; omega
        ·cases h
       ·cases h
      ·cases h
     ·cases h
    ·cases h
   ·cases h
  ·cases h
 ·cases h
theorem so_ok (O : T.Ok P) {E : El} (hE : E.Ok P) (hH : s.H = denH H) {o : Oper} (ho : o.guard = none) (hev : ∀ x ∈ rd o.op, ∀ v, ev x = some v → s.ev x = v.den) (h : so T E ops ev H o = some r) : Snd P ops o s r := by
 obtain ⟨d, op, ty, pos, af, g⟩ := o
 simp only at ho
 subst ho
 unfold so at h
 simp only at h hev
 split at h
 ·obtain ⟨v, h1, h2⟩ := so1_eq h; exact soMove_ok (hev _ (by simp [rd]) v h1) h2
 ·obtain ⟨v, h1, h2⟩ := so1_eq h; exact soAssign_ok (hev _ (by simp [rd]) v h1) h2
 ·obtain ⟨v, h1, h2⟩ := so1_eq h; exact soNil_ok (hev _ (by simp [rd]) v h1) h2
 ·obtain ⟨v, h1, h2⟩ := so1_eq h; exact soFA_ok O (hev _ (by simp [rd]) v h1) h2
 ·obtain ⟨v, h1, h2⟩ := so1_eq h; exact soLoad_ok O hH (hev _ (by simp [rd]) v h1) h2
 ·split at h
  ·obtain ⟨v, h1, h2⟩ := so1_eq h
   obtain ⟨u, h3, h4⟩ := so1_eq h2
   exact soStore_ok O hH (hev _ (by simp [rd]) v h1) (hev _ (by simp [rd]) u h3) h4
  ·cases h
 ·obtain ⟨v, h1, h2⟩ := so1_eq h
  obtain ⟨u, h3, h4⟩ := so1_eq h2
  split at h4
  ·exact soIA_ok O (hev _ (by simp [rd]) v h1) (hev _ (by simp [rd]) u h3) h4
  ·exact soIAp_ok hE (hev _ (by simp [rd]) v h1) (hev _ (by simp [rd]) u h3) h4
 ·obtain ⟨v, h1, h2⟩ := so1_eq h
  obtain ⟨u, h3, h4⟩ := so1_eq h2
  exact soIndex_ok O (hev _ (by simp [rd]) v h1) (hev _ (by simp [rd]) u h3) h4
 ·obtain ⟨v, h1, h2⟩ := so1_eq h; exact soField_ok O (hev _ (by simp [rd]) v h1) h2
 ·obtain ⟨v, h1, h2⟩ := so1_eq h; exact soExt_ok (hev _ (by simp [rd]) v h1) h2
 ·obtain ⟨v, h1, h2⟩ := so1_eq h
  obtain ⟨u, h3, h4⟩ := so1_eq h2
  exact soBin_ok O (hev _ (by simp [rd]) v h1) (hev _ (by simp [rd]) u h3) h4
 ·obtain ⟨v, h1, h2⟩ := so1_eq h; exact soUn_ok (hev _ (by simp [rd]) v h1) h2
 ·rename_i t ps
  have : ps = ps.toList.toArray := by simp
  rw [this]
  exact soBuild_ok O (fun q hq => hev q.2 (by simp only [rd, List.mem_map]; exact ⟨q, hq, rfl⟩)) h
 ·rename_i t n ps
  have : ps = ps.toList.toArray := by simp
  rw [this]
  exact soBuildSl_ok O (fun q hq => hev q.2 (by simp only [rd, List.mem_map]; exact ⟨q, hq, rfl⟩)) h
 ·obtain ⟨v, h1, h2⟩ := so1_eq h
  obtain ⟨u, h3, h4⟩ := so1_eq h2
  exact soMake_ok O hE hH (hev _ (by simp [rd]) v h1) (hev _ (by simp [rd]) u h3) h4
 ·split at h
  ·obtain ⟨v, h1, h2⟩ := so1_eq h
   exact soSlice_ok O (hev _ (by simp [rd]) v h1) (fun o ho => hev o (by simp [rd, ho])) (fun o ho => hev o (by simp [rd, ho])) h2
  ·obtain ⟨v, h1, h2⟩ := so1_eq h
   exact soSlice3_ok O (hev _ (by simp [rd]) v h1) (fun o ho => hev o (by simp [rd, ho])) (fun o ho => hev o (by simp [rd, ho])) (hev _ (by simp [rd])) h2
 ·obtain ⟨v, h1, h2⟩ := so1_eq h; exact soConv_ok O (hev _ (by simp [rd]) v h1) h2
 ·exact soAlloc_ok O hE hH h
 ·obtain ⟨v, h1, h2⟩ := so1_eq h; exact soBox_ok hH (hev _ (by simp [rd]) v h1) h2
 ·rename_i c
  unfold soCall at h
  split at h
  ·rename_i hc
   split at h
   ·rename_i x hx
    split at h
    ·rename_i t ht
     obtain ⟨v, h1, h2⟩ := so1_eq h
     have hv := hev x (by simp [rd, hx]) v h1
     rw [call_eta c hc hx ht]
     exact soLen_ok O hv h2
    ·cases h
   ·cases h
  ·rename_i hc
   split at h
   ·rename_i x y hx
    split at h
    ·rename_i t tx ht
     obtain ⟨v, h1, h2⟩ := so1_eq h
     obtain ⟨u, h3, h4⟩ := so1_eq h2
     have hv := hev x (by simp [rd, hx]) v h1
     have hu := hev y (by simp [rd, hx]) u h3
     rw [call_eta c hc hx ht]
     exact soApp_ok O hv hu h4
    ·cases h
   ·cases h
  ·rename_i hc
   split at h
   ·rename_i x y hx
    split at h
    ·rename_i t tx ht
     obtain ⟨v, h1, h2⟩ := so1_eq h
     obtain ⟨u, h3, h4⟩ := so1_eq h2
     have hv := hev x (by simp [rd, hx]) v h1
     have hu := hev y (by simp [rd, hx]) u h3
     rw [call_eta c hc hx ht]
     exact soCopy_ok O hH hv hu h4
    ·cases h
   ·cases h
  ·rename_i hc
   split at h
   ·rename_i x y hx
    split at h
    ·rename_i t tx ht
     obtain ⟨v, h1, h2⟩ := so1_eq h
     obtain ⟨u, h3, h4⟩ := so1_eq h2
     have hv := hev x (by simp [rd, hx]) v h1
     have hu := hev y (by simp [rd, hx]) u h3
     rw [call_eta c hc hx ht]
     exact soMax_ok hv hu h4
    ·cases h
   ·cases h
  ·rename_i hc
   split at h
   ·rename_i x y hx
    split at h
    ·rename_i t tx ht
     obtain ⟨v, h1, h2⟩ := so1_eq h
     obtain ⟨u, h3, h4⟩ := so1_eq h2
     have hv := hev x (by simp [rd, hx]) v h1
     have hu := hev y (by simp [rd, hx]) u h3
     rw [call_eta c hc hx ht]
     exact soMin_ok hv hu h4
    ·cases h
   ·cases h
  ·cases h
 ·cases h
end
section
variable {P : Program} {ops : Array Oper} {s : St} {T : Tb} {r : SR} {H : SH} {l : SL}
inductive AccLe : List Cl → List Cl → Prop
 | nil : AccLe [] []
 | same (c : Cl) {a b : List Cl} (h : AccLe a b) : AccLe (c :: a) (c :: b)
 | drop (c : Cl) {a b : List Cl} (h : AccLe a b) : AccLe (c :: a) (.q0 :: b)
theorem AccLe.refl : ∀ a : List Cl, AccLe a a
 | [] => .nil
 | c :: a => .same c (AccLe.refl a)
theorem AccLe.len {a b : List Cl} (h : AccLe a b) : a.length = b.length := by induction h <;> simp [*]
theorem AccLe.get {a b : List Cl} (h : AccLe a b) : ∀ i, b.getD i .q0 = a.getD i .q0 ∨ b.getD i .q0 = .q0 := by
 induction h with
 | nil => intro i; exact .inl rfl
 | same c h ih =>
  intro i
  cases i with
  | zero => exact .inl rfl
  | succ i => simpa using ih i
 | drop c h ih =>
  intro i
  cases i with
  | zero => exact .inr rfl
  | succ i => simpa using ih i
theorem AccLe.snoc {a b : List Cl} (h : AccLe a b) {c d : Cl} (hc : d = c ∨ d = .q0) : AccLe (a ++ [c]) (b ++ [d]) := by
 induction h with
 | nil =>
  rcases hc with rfl | rfl
  ·exact .same _ .nil
  ·exact .drop _ .nil
 | same x h ih => exact .same x ih
 | drop x h ih => exact .drop x ih
theorem AccLe.rev {a b : List Cl} (h : AccLe a b) : AccLe a.reverse b.reverse := by
 induction h with
 | nil => exact .nil
 | same c h ih => rw [List.reverse_cons, List.reverse_cons]; exact ih.snoc (.inl rfl)
 | drop c h ih => rw [List.reverse_cons, List.reverse_cons]; exact ih.snoc (.inr rfl)
theorem noMeet_nil (m : List Nat) : noMeet m [] = true := by simp [noMeet]
theorem below_nil (n : Option Nat) : below n [] = true := by cases n <;> simp [below]
theorem compat_left {c d : Cl} {x y : Oper} (h : compat ops c d x y = true) : compat ops .q0 d x y = true := by
 simp only [compat, Bool.and_eq_true] at h ⊢
 obtain ⟨⟨⟨⟨⟨⟨⟨⟨⟨⟨⟨h1, h2⟩, h3⟩, h4⟩, h5⟩, h6⟩, h7⟩, h8⟩, h9⟩, h10⟩, h11⟩, h12⟩ := h
 exact ⟨⟨⟨⟨⟨⟨⟨⟨⟨⟨⟨h1, rfl⟩, noMeet_nil _⟩, rfl⟩, rfl⟩, below_nil _⟩, rfl⟩, h8⟩, rfl⟩, by rw [noMeet_nil]; simp⟩, rfl⟩, below_nil _⟩
theorem compat_right {c d : Cl} {x y : Oper} (h : compat ops c d x y = true) : compat ops c .q0 x y = true := by
 simp only [compat, Bool.and_eq_true] at h ⊢
 obtain ⟨⟨⟨⟨⟨⟨⟨⟨⟨⟨⟨h1, h2⟩, h3⟩, h4⟩, h5⟩, h6⟩, h7⟩, h8⟩, h9⟩, h10⟩, h11⟩, h12⟩ := h
 exact ⟨⟨⟨⟨⟨⟨⟨⟨⟨⟨⟨h1, noMeet_nil _⟩, rfl⟩, by simp⟩, below_nil _⟩, rfl⟩, h7⟩, rfl⟩, by rw [noMeet_nil]; simp⟩, rfl⟩, below_nil _⟩, rfl⟩
theorem critB_le {a b : List Cl} (h : AccLe a b) (hc : critB ops a = true) : critB ops b = true := by
 simp only [critB, Bool.and_eq_true, decide_eq_true_eq, List.all_eq_true, List.mem_range, Bool.or_eq_true] at hc ⊢
 obtain ⟨h1, h2⟩ := hc
 refine ⟨by rw [← h.len]; exact h1, fun j hj => ⟨(h2 j hj).1, fun i hi => ?_⟩⟩
 rcases (h2 j hj).2 i hi with k | k
 ·exact .inl k
 ·right
  rcases h.get i with ei | ei <;> rcases h.get j with ej | ej <;> rw [ei, ej]
  ·exact k
  ·exact compat_right k
  ·exact compat_left k
  ·exact compat_left (compat_right k)
theorem WOpsD_le {K : St → Prop} : ∀ (l : List Oper) (s : St) (a b : List Cl), AccLe a b → WOpsD P ops l s a K → WOpsD P ops l s b K
 | [], s, a, b, h, k => ⟨critB_le h.rev k.1, k.2⟩
 | o :: l, s, a, b, h, k => WOp_mono (fun c s2 k => WOpsD_le l s2 _ _ (.same c h) k) k
def noSeq : Rg → Bool
 | .seq .. => false
 | _ => true
theorem WR_q0 {rest : List Oper} {R : Rg} {c : Cl} (hR : noSeq R = true) (h : WR P ops rest s (R.push c)) : WR P ops rest s (R.push .q0) := by
 cases R with
 | seq K => cases hR
 | plain K => exact h
 | drawn acc K => exact ⟨WOpsD_le rest s _ _ (.drop c (AccLe.refl _)) h.out⟩
def evC : Value → Option SV
 | .int k n => some (.c (.c (.f (.v (.int k n)))))
 | .bool b => some (.c (.c (.f (.v (.bool b)))))
 | .string b => some (.c (.c (.f (.v (.string b)))))
 | .slice none 0 0 => some (.c (.c (.f .nils)))
 | .pointer none => some (.c (.c (.f (.v (.pointer none)))))
 | _ => none
theorem evC_den {v : Value} {x : SV} (h : evC v = some x) : ofV v = x.den := by
 unfold evC at h
 split at h <;> first | (cases h; done) | (injection h with h; subst h; rfl)
def evU (l : SL) : Operand → Option SV
 | .tmp t => match lk l t with
  | some (.v x) => some x
  | _ => none
 | .const v => evC v
 | _ => none
theorem evU_den {x : Operand} {v : SV} (h : evU l x = some v) : (SS l H).ev x = v.den := by
 unfold evU at h
 split at h
 ·split at h
  ·rename_i e
   injection h with h; subst h
   exact lk_ev e
  ·cases h
 ·exact evC_den h
 ·cases h
def evG (l : SL) : Operand → Option SV
 | .tmp t => match lk l t with
  | some (.v x) => some x
  | some (.g _ x) => some x
  | _ => none
 | .const v => evC v
 | _ => none
def gdK {β : Type 1} (l : SL) : List Operand → (Prop → Option β) → Option β
 | [], k => k True
 | x :: xs, k => match x with
  | .tmp t => match lk l t with
   | some (.g b _) => gdK l xs fun p => k (b = true ∧ p)
   | _ => gdK l xs k
  | _ => gdK l xs k
theorem gdK_eq {β : Type 1} {r : β} : ∀ {xs : List Operand} {k : Prop → Option β}, gdK l xs k = some r → ∃ p, k p = some r ∧ (p → ∀ x ∈ xs, ∀ v, evG l x = some v → (SS l H).ev x = v.den)
 | [], k, h => ⟨True, h, fun _ x hx => by cases hx⟩
 | x :: xs, k, h => by
  unfold gdK at h
  split at h
  ·rename_i t
   split at h
   ·rename_i b y hy
    obtain ⟨p, h1, h2⟩ := gdK_eq h
    refine ⟨_, h1, fun ⟨hb, hp⟩ z hz v hv => ?_⟩
    rcases List.mem_cons.1 hz with rfl | hz
    ·simp only [evG, hy] at hv
     injection hv with hv; subst hv
     rw [lk_ev hy, hb]; rfl
    ·exact h2 hp z hz v hv
   ·rename_i hne
    obtain ⟨p, h1, h2⟩ := gdK_eq h
    refine ⟨_, h1, fun hp z hz v hv => ?_⟩
    rcases List.mem_cons.1 hz with rfl | hz
    ·unfold evG at hv
     simp only at hv
     split at hv
     ·rename_i hy
      injection hv with hv; subst hv
      exact lk_ev hy
     ·rename_i b y hy
      exact (hne b y hy).elim
     ·cases hv
    ·exact h2 hp z hz v hv
  ·rename_i hne
   obtain ⟨p, h1, h2⟩ := gdK_eq h
   refine ⟨_, h1, fun hp z hz v hv => ?_⟩
   rcases List.mem_cons.1 hz with rfl | hz
   ·unfold evG at hv
    split at hv
    ·rename_i t; exact (hne t rfl).elim
    ·exact evC_den hv
    ·cases hv
   ·exact h2 hp z hz v hv
def soPick (l : SL) (c x y : Operand) : Option SR :=
 match evG l c with
 | some (.c (.c (.f (.v (.bool b))))) => gdK l [c] fun pc => gdK l [x] fun px => gdK l [y] fun py => match y with
  | .const (.bool false) => match evG l x with
   | some (.c (.c (.f (.v (.bool u))))) => some ⟨bV (b && u), none, none, .q0, pc ∧ (b = true → px)⟩
   | _ => none
  | _ => match x with
   | .const (.bool true) => match evG l y with
    | some (.c (.c (.f (.v (.bool u))))) => some ⟨bV (b || u), none, none, .q0, pc ∧ (b = false → py)⟩
    | _ => none
   | _ => match evG l x with
    | some (.c (.c (.f (.v (.bool u))))) => match evG l y with
     | some (.c (.c (.f (.v (.bool w))))) => some ⟨bV (bif b then u else w), none, none, .q0, pc ∧ (b = true → px) ∧ (b = false → py)⟩
     | _ => none
    | _ => none
 | _ => none
theorem soPick_ok {d : Option Tmp} {ty : TypeId} {pos : String} {af : Array Edge} {c x y : Operand} (h : soPick l c x y = some r) : Snd P ops ⟨d, .pick c x y, ty, pos, af, none⟩ (SS l H) r := by
 intro rest R hp hk
 unfold soPick at h
 split at h
 ·rename_i b hc
  obtain ⟨pc, h, hpc⟩ := gdK_eq (H := H) h
  obtain ⟨px, h, hpx⟩ := gdK_eq (H := H) h
  obtain ⟨py, h, hpy⟩ := gdK_eq (H := H) h
  split at h
  ·split at h
   ·rename_i u hu
    injection h with h; subst h
    have hc' := hpc hp.1 c (by simp) _ hc
    cases b with
    | true => exact R_pickT hc' rfl (hpx (hp.2 rfl) x (by simp) _ hu) rfl hk
    | false => exact R_pickF (v := .c (.f (.v (.bool false)))) hc' rfl rfl rfl hk
   ·cases h
  ·split at h
   ·split at h
    ·rename_i u hu
     injection h with h; subst h
     have hc' := hpc hp.1 c (by simp) _ hc
     cases b with
     | true => exact R_pickT (v := .c (.f (.v (.bool true)))) hc' rfl rfl rfl hk
     | false => exact R_pickF hc' rfl (hpy (hp.2 rfl) y (by simp) _ hu) rfl hk
    ·cases h
   ·split at h
    ·rename_i u hu
     split at h
     ·rename_i w hw
      injection h with h; subst h
      have hc' := hpc hp.1 c (by simp) _ hc
      cases b with
      | true => exact R_pickT hc' rfl (hpx (hp.2.1 rfl) x (by simp) _ hu) rfl hk
      | false => exact R_pickF hc' rfl (hpy (hp.2.2 rfl) y (by simp) _ hw) rfl hk
     ·cases h
    ·cases h
 ·cases h
structure SN : Type 1 where
 l : SL
 H : SH
 cl : Cl
 p : Prop
def sem (T : Tb) (E : El) (ops : Array Oper) (ev : Operand → Option SV) (l : SL) (H : SH) (o : Oper) : Option SR :=
 match o.op with
 | .pick c x y => soPick l c x y
 | _ => so T E ops ev H o
def wantS (ops : List Oper) (l : SL) (j : Nat) (want : Bool) : Option Bool :=
 match nth0 ops j with
 | some oj => match oj.dst with
  | some d => match lk l d with
   | some (.v (.c (.c (.f (.v (.bool b)))))) => match want with
    | true => some b
    | false => some (!b)
   | some (.g b0 (.c (.c (.f (.v (.bool b)))))) => match want with
    | true => some (b0 && b)
    | false => some (b0 && !b)
   | _ => none
  | none => none
 | none => none
def outN (d : Option Tmp) (dm : Option (Nat × SE)) (H : Option SH) (x : SE) (l0 : SL) (H0 : SH) (cl : Cl) (p : Prop) : Option SN :=
 match d with
 | some d => match dm with
  | some (t, e) => match H with
   | some H => some ⟨(d, x) :: (t, e) :: l0, H, cl, p⟩
   | none => some ⟨(d, x) :: (t, e) :: l0, H0, cl, p⟩
  | none => match H with
   | some H => some ⟨(d, x) :: l0, H, cl, p⟩
   | none => some ⟨(d, x) :: l0, H0, cl, p⟩
 | none => match dm with
  | some (t, e) => match H with
   | some H => some ⟨(t, e) :: l0, H, cl, p⟩
   | none => some ⟨(t, e) :: l0, H0, cl, p⟩
  | none => match H with
   | some H => some ⟨l0, H, cl, p⟩
   | none => some ⟨l0, H0, cl, p⟩
def step (T : Tb) (E : El) (ops : Array Oper) (l : SL) (H : SH) (o : Oper) : Option SN :=
 match o.guard with
 | none => match sem T E ops (evU l) l H o with
  | some ⟨x, dm, H', cl, p⟩ => outN o.dst dm H' (.v x) l H cl p
  | none => none
 | some (j, want) => match wantS ops.toList l j want with
  | some g => match sem T E ops (evG l) l H { o with guard := none } with
   | some ⟨x, none, none, cl, p⟩ => gdK l (rd o.op) fun q => outN o.dst none none (.g g x) l H cl (g = true → q ∧ p)
   | _ => none
  | none => none
theorem outN_eq {d : Option Tmp} {r : SR} {x : SE} {n : SN} (hx : x.den = r.x.den) {p : Prop} (h : outN d r.dm r.H x l H r.cl p = some n) : n.cl = r.cl ∧ n.p = p ∧ SS n.l n.H = r.upd (SS l H) d := by
 obtain ⟨rx, dm, rH, cl, rp⟩ := r
 unfold outN at h
 simp only at hx h
 have e2 : ∀ (l0 : SL) (H' : SH), SS l0 H' = (SS l0 H).setH (denH H') := fun l0 H' => (SS_setH l0 H H').symm
 have e3 : ∀ (l0 : SL) (H' : SH) (d : Nat), SS ((d, x) :: l0) H' = (SS l0 H').put (some d) rx.den := fun l0 H' d => by rw [← hx]; rfl
 cases d with
 | none =>
  rcases dm with _ | ⟨t, e⟩
  ·cases rH with
   | none => injection h with h; subst h; exact ⟨rfl, rfl, rfl⟩
   | some H' => injection h with h; subst h; exact ⟨rfl, rfl, e2 l H'⟩
  ·cases rH with
   | none => injection h with h; subst h; exact ⟨rfl, rfl, rfl⟩
   | some H' => injection h with h; subst h; exact ⟨rfl, rfl, e2 _ H'⟩
 | some d =>
  rcases dm with _ | ⟨t, e⟩
  ·cases rH with
   | none => injection h with h; subst h; exact ⟨rfl, rfl, e3 l H d⟩
   | some H' =>
    injection h with h; subst h
    refine ⟨rfl, rfl, ?_⟩
    show SS ((d, x) :: l) H' = ((SS l H).setH (denH H')).put (some d) rx.den
    rw [SS_setH]; exact e3 l H' d
  ·cases rH with
   | none => injection h with h; subst h; exact ⟨rfl, rfl, e3 _ H d⟩
   | some H' =>
    injection h with h; subst h
    refine ⟨rfl, rfl, ?_⟩
    show SS ((d, x) :: (t, e) :: l) H' = ((SS ((t, e) :: l) H).setH (denH H')).put (some d) rx.den
    rw [SS_setH]; exact e3 _ H' d
theorem sem_ok (O : T.Ok P) {E : El} (hE : E.Ok P) {ev : Operand → Option SV} {o : Oper} (ho : o.guard = none) (hev : ∀ x ∈ rd o.op, ∀ v, ev x = some v → (SS l H).ev x = v.den) (h : sem T E ops ev l H o = some r) : Snd P ops o (SS l H) r := by
 unfold sem at h
 split at h
 ·rename_i c x y hop
  obtain ⟨d, op, ty, pos, af, g⟩ := o
  simp only at ho hop
  subst ho; subst hop
  exact soPick_ok h
 ·exact so_ok O hE (SS_H _ _) ho hev h
theorem step_ok (O : T.Ok P) {E : El} (hE : E.Ok P) {o : Oper} {n : SN} (h : step T E ops l H o = some n) {rest : List Oper} {R : Rg} (hR : o.guard = none ∨ noSeq R = true) (hp : n.p) (hk : WR P ops rest (SS n.l n.H) (R.push n.cl)) : WR P ops (o :: rest) (SS l H) R := by
  unfold step at h
  split at h
  · rename_i ho
    split at h
    · rename_i x dm H' cl p hs
      have hsnd := sem_ok O hE ho (fun x _ v hv => evU_den hv) hs
      obtain ⟨h1, h2, h3⟩ := outN_eq (r := ⟨x, dm, H', cl, p⟩) (x := .v x) rfl h
      rw [h2] at hp
      rw [h1, h3] at hk
      exact hsnd rest R hp hk
    · cases h
  · rename_i j want ho
    split at h
    · rename_i g hg
      split at h
      · rename_i x cl p hs
        obtain ⟨q, h, hq⟩ := gdK_eq (H := H) h
        obtain ⟨d, op, ty, pos, af, gd⟩ := o
        simp only at ho
        subst ho
        have hww : ∃ oj dj b, ops[j]? = some oj ∧ oj.dst = some dj ∧ (((SS l H).ev (.tmp dj) = .c (.f (.v (.bool b))) ∧ g = (b == want)) ∨ ((SS l H).ev (.tmp dj) = .c .und ∧ g = false)) := by
          unfold wantS at hg
          split at hg
          · rename_i oj hoj
            rw [nth0_get, Array.getElem?_toList] at hoj
            split at hg
            · rename_i dj hdj
              refine ⟨oj, dj, ?_⟩
              split at hg
              · rename_i b hb
                refine ⟨b, hoj, hdj, .inl ⟨lk_ev hb, ?_⟩⟩
                split at hg <;> injection hg with hg <;> subst hg <;> cases b <;> rfl
              · rename_i b0 b hb
                have := lk_ev (H := H) hb
                cases b0 with
                | true =>
                  refine ⟨b, hoj, hdj, .inl ⟨this, ?_⟩⟩
                  split at hg <;> injection hg with hg <;> subst hg <;> cases b <;> rfl
                | false =>
                  refine ⟨b, hoj, hdj, .inr ⟨this, ?_⟩⟩
                  split at hg <;> injection hg with hg <;> subst hg <;> rfl
              · cases hg
            · cases hg
          · cases hg
        obtain ⟨oj, dj, b, w1, w2, w3⟩ := hww
        cases g with
        | true =>
          rcases w3 with ⟨w3, w4⟩ | ⟨_, w4⟩
          · refine R_want (by show wantA ops _ _ = some true; rw [wantA_some rfl w1 w2 w3, ← w4]) ?_
            obtain ⟨h1, h2, h3⟩ := outN_eq (r := ⟨x, none, none, cl, p⟩) (x := .g true x) rfl h
            rw [h2] at hp
            obtain ⟨hq1, hp1⟩ := hp rfl
            have hsnd := sem_ok (ops := ops) (o := ⟨d, op, ty, pos, af, none⟩) O hE rfl (hq hq1) hs
            rw [h1, h3] at hk
            exact hsnd rest R hp1 hk
          · cases w4
        | false =>
          have hw : wantA ops (SS l H) ⟨d, op, ty, pos, af, some (j, want)⟩ = some false := by
            rcases w3 with ⟨w3, w4⟩ | ⟨w3, _⟩
            · rw [wantA_some rfl w1 w2 w3, ← w4]
            · exact wantA_und rfl w1 w2 w3
          refine R_skip hw ?_
          obtain ⟨h1, h2, h3⟩ := outN_eq (r := ⟨.c (.c .und), none, none, cl, p⟩) (x := .g false x) rfl h
          rw [h1, h3] at hk
          exact WR_q0 (by rcases hR with e | e; · cases e
                          · exact e) hk
      · cases h
    · cases h
structure SX : Type 1 where
 rest : List Oper
 l : SL
 H : SH
 R : Rg
 p : Prop
def runS (T : Tb) (E : El) (ops : Array Oper) : List Oper → SL → SH → Rg → Prop → Option SX
 | [], l, H, R, q => some ⟨[], l, H, R, q⟩
 | o :: os, l, H, R, q => match step T E ops l H o with
  | some ⟨l', H', cl, p⟩ => match R with
   | .plain K => runS T E ops os l' H' (.plain K) (q ∧ p)
   | .drawn a K => runS T E ops os l' H' (.drawn (cl :: a) K) (q ∧ p)
   | .seq a K => some ⟨o :: os, l, H, .seq a K, q⟩
  | none => some ⟨o :: os, l, H, R, q⟩
theorem runS_ok (O : T.Ok P) {E : El} (hE : E.Ok P) {x : SX} : ∀ {rest : List Oper} {l : SL} {H : SH} {R : Rg} {q : Prop}, runS T E ops rest l H R q = some x → x.p → WR P ops x.rest (SS x.l x.H) x.R → q ∧ WR P ops rest (SS l H) R
 | [], l, H, R, q, h, hp, hk => by
  injection h with h; subst h
  exact ⟨hp, hk⟩
 | o :: os, l, H, R, q, h, hp, hk => by
  unfold runS at h
  split at h
  ·rename_i l' H' cl p hs
   split at h
   ·obtain ⟨⟨h1, h2⟩, h3⟩ := runS_ok O hE h hp hk
    exact ⟨h1, step_ok O hE hs (.inr rfl) h2 h3⟩
   ·obtain ⟨⟨h1, h2⟩, h3⟩ := runS_ok O hE h hp hk
    exact ⟨h1, step_ok O hE hs (.inr rfl) h2 h3⟩
   ·injection h with h; subst h
    exact ⟨hp, hk⟩
  ·injection h with h; subst h
   exact ⟨hp, hk⟩
def run1 (T : Tb) (E : El) (ops : Array Oper) (rest : List Oper) (l : SL) (H : SH) (R : Rg) : Option SX :=
 match rest with
 | [] => none
 | o :: os => match step T E ops l H o with
  | some ⟨l', H', cl, p⟩ => match R with
   | .plain K => runS T E ops os l' H' (.plain K) p
   | .drawn a K => runS T E ops os l' H' (.drawn (cl :: a) K) p
   | .seq a K => none
  | none => none
theorem run1_ok (O : T.Ok P) {E : El} (hE : E.Ok P) {rest : List Oper} {l : SL} {H : SH} {R : Rg} {rest' : List Oper} {l' : SL} {H' : SH} {R' : Rg} {p : Prop} (h : run1 T E ops rest l H R = some ⟨rest', l', H', R', p⟩) (hp : p) (hk : WR P ops rest' (SS l' H') R') : WR P ops rest (SS l H) R := by
 unfold run1 at h
 split at h
 ·cases h
 ·split at h
  ·rename_i hs
   split at h
   ·obtain ⟨h1, h2⟩ := runS_ok O hE h hp hk
    exact step_ok O hE hs (.inr rfl) h1 h2
   ·obtain ⟨h1, h2⟩ := runS_ok O hE h hp hk
    exact step_ok O hE hs (.inr rfl) h1 h2
   ·cases h
  ·cases h
end
def OkV (P : Program) (f : FuncId) (args : List SV) (H : SH) (r : SV) (H' : SH) : Prop := Ok P f (args.map SV.den) (denH H) r.den (denH H')
section
variable {P : Program} {ops : Array Oper} {D : Array Oper → St → (St → Prop) → Prop} {n0 : Nat} {H : SH} {l : SL} {K : AExit → St → Prop}
theorem X_cond {c : Operand} {a b : Code} {t : Bool} (hc : evU l c = some (.c (.c (.f (.v (.bool t)))))) (h1 : t = true → W P D n0 a (SS l H) K) (h2 : t = false → W P D n0 b (SS l H) K) : W P D n0 (.cond c a b) (SS l H) K :=
 W_cond (evU_den hc) h1 h2
def nzS : SC → SC
 | .c (.f .nils) => .c (.f (.row [] 0))
 | x => x
theorem nzS_den : ∀ x : SC, (nzS x).den = x.den.nz
 | .c x => by
  cases x with
  | f y => cases y <;> rfl
  | _ => rfl
 | .row .. => rfl
 | .elt .. => rfl
 | .pel .. => rfl
 | .tipr .. => rfl
def nzL : List SC → Option (List SC)
 | [] => some []
 | x :: l => match nzL l with
  | some r => match x with
   | .c (.f .nils) => some (.c (.f (.row [] 0)) :: r)
   | x => some (x :: r)
  | none => none
theorem nzL_eq : ∀ {l r : List SC}, nzL l = some r → (denL l).map CVal.nz = denL r
 | [], r, h => by injection h with h; subst h; rfl
 | x :: l, r, h => by
  unfold nzL at h
  split at h
  ·rename_i r' hr
   have := nzL_eq hr
   split at h
   ·injection h with h; subst h
    simp only [denL, List.map_cons] at *; rw [this]; rfl
   ·rename_i hne
    injection h with h; subst h
    simp only [denL, List.map_cons] at *; rw [this, ← nzS_den]
    congr 1
    cases x with
    | c x =>
     cases x with
     | f y => cases y <;> first | rfl | exact (hne rfl).elim
     | _ => rfl
    | _ => rfl
  ·cases h
def hS (v : SV) : Option SV :=
 match v with
 | .c (.c (.tip _ cs n)) => some (.c (.c (.f (.row cs n))))
 | .c (.tipr z F V M d l) => some (.c (.row z F V d l))
 | .c (.c (.f .nils)) => some (.c (.c (.f (.row [] 0))))
 | .c x => some (.c x)
 | .agg ds => match nzL ds with
  | some r => some (.agg r)
  | none => none
 | .tup _ => none
theorem hS_den {v u : SV} (h : hS v = some u) : v.den.h = u.den := by
 unfold hS at h
 split at h
 ·injection h with h; subst h; rfl
 ·injection h with h; subst h; rfl
 ·injection h with h; subst h; rfl
 ·rename_i x h1 h2 h3
  injection h with h; subst h
  cases x with
  | c x =>
   cases x with
   | f y => cases y <;> first | rfl | exact (h3 rfl).elim
   | tip z cs n => exact (h1 z cs n rfl).elim
   | _ => rfl
  | tipr z F V M d l => exact (h2 _ z F V M d l rfl).elim
  | _ => rfl
 ·rename_i ds
  split at h
  ·rename_i r hr
   injection h with h; subst h
   show AVal.agg ((denL ds).map CVal.nz) = _
   rw [nzL_eq hr]; rfl
  ·cases h
 ·cases h
def argsS (ev : Operand → Option SV) : List Operand → Option (List SV)
 | [] => some []
 | x :: xs => match ev x with
  | some v => match hS v with
   | some u => match argsS ev xs with
    | some r => some (u :: r)
    | none => none
   | none => none
  | none => none
theorem argsS_eq {s : St} {ev : Operand → Option SV} : ∀ {xs : List Operand} {vs : List SV}, (∀ x ∈ xs, ∀ v, ev x = some v → s.ev x = v.den) → argsS ev xs = some vs → (xs.map fun x => (s.ev x).h) = vs.map SV.den
 | [], vs, _, h => by injection h with h; subst h; rfl
 | x :: xs, vs, hev, h => by
  unfold argsS at h
  split at h
  ·rename_i v hv
   split at h
   ·rename_i u hu
    split at h
    ·rename_i r hr
     injection h with h; subst h
     simp only [List.map_cons]
     rw [hev x (by simp) v hv, hS_den hu, argsS_eq (fun y hy => hev y (by simp [hy])) hr]
    ·cases h
   ·cases h
  ·cases h
def okC (n : Nat) : SC → Bool
 | .c (.ptr b _) => Nat.blt b n
 | .c (.arr b _ _ _) => Nat.blt b n
 | .pel b _ _ _ => Nat.blt b n
 | _ => true
theorem okC_den {n : Nat} : ∀ {x : SC}, okC n x = true → x.den.ok n = true
 | .c x, h => by
  cases x <;> first | rfl | (simp only [okC] at h; simp only [SC.den, CVal.ok]; simpa using h)
 | .row .., _ => rfl
 | .elt .., _ => rfl
 | .pel .., h => by simp only [okC] at h; simp only [SC.den, CVal.ok]; simpa using h
 | .tipr .., _ => rfl
def okL (n : Nat) : List SC → Bool
 | [] => true
 | x :: l => match okC n x with
  | true => okL n l
  | false => false
theorem okL_den {n : Nat} : ∀ {l : List SC}, okL n l = true → (denL l).all (CVal.ok n) = true
 | [], _ => rfl
 | x :: l, h => by
  unfold okL at h
  split at h
  ·rename_i h1
   simp only [denL, List.map_cons, List.all_cons, Bool.and_eq_true]
   exact ⟨okC_den h1, okL_den h⟩
  ·cases h
def okT (n : Nat) : List ST → Bool
 | [] => true
 | .c x :: l => match okC n x with
  | true => okT n l
  | false => false
 | .agg ds :: l => match okL n ds with
  | true => okT n l
  | false => false
theorem okT_den {n : Nat} : ∀ {l : List ST}, okT n l = true → (l.map ST.den).all (TVal.ok n) = true
 | [], _ => rfl
 | .c x :: l, h => by
  unfold okT at h
  split at h
  ·rename_i h1
   simp only [List.map_cons, List.all_cons, Bool.and_eq_true]
   exact ⟨okC_den h1, okT_den h⟩
  ·cases h
 | .agg ds :: l, h => by
  unfold okT at h
  split at h
  ·rename_i h1
   simp only [List.map_cons, List.all_cons, Bool.and_eq_true]
   exact ⟨okL_den h1, okT_den h⟩
  ·cases h
def okV (n : Nat) : SV → Bool
 | .c x => okC n x
 | .agg ds => okL n ds
 | .tup ts => okT n ts
theorem okV_den {n : Nat} : ∀ {v : SV}, okV n v = true → v.den.ok n = true
 | .c x, h => okC_den h
 | .agg ds, h => okL_den h
 | .tup ts, h => okT_den h
def okVs (n : Nat) : List SV → Bool
 | [] => true
 | v :: l => match okV n v with
  | true => okVs n l
  | false => false
theorem okVs_den {n : Nat} : ∀ {l : List SV}, okVs n l = true → (l.map SV.den).all (AVal.ok n) = true
 | [], _ => rfl
 | v :: l, h => by
  unfold okVs at h
  split at h
  ·rename_i h1
   simp only [List.map_cons, List.all_cons, Bool.and_eq_true]
   exact ⟨okV_den h1, okVs_den h⟩
  ·cases h
def okBl (n : Nat) : SH → Bool
 | [] => true
 | none :: H => okBl n H
 | some (.cells cs) :: H => match okL n cs with
  | true => okBl n H
  | false => false
 | some (.els ..) :: H => okBl n H
theorem okBl_den {n : Nat} : ∀ {H : SH}, okBl n H = true → (denH H).all (okB n) = true
 | [], _ => rfl
 | none :: H, h => by
  simp only [denH, List.map_cons, List.all_cons, Bool.and_eq_true]
  exact ⟨rfl, okBl_den (H := H) h⟩
 | some (.cells cs) :: H, h => by
  unfold okBl at h
  split at h
  ·rename_i h1
   simp only [denH, List.map_cons, List.all_cons, Bool.and_eq_true]
   exact ⟨okL_den h1, okBl_den (H := H) h⟩
  ·cases h
 | some (.els z F V M d l) :: H, h => by
  simp only [denH, List.map_cons, List.all_cons, Bool.and_eq_true]
  refine ⟨?_, okBl_den (H := H) h⟩
  simp only [denB, okB, SB.den, List.all_map, List.all_eq_true]
  intro x _; rfl
structure CP : Type 1 where
 f : FuncId
 vs : List SV
 l : SL
def callP (l : SL) (d : Option Tmp) (c : Call) (r : SV) : Option CP :=
 match c.callee with
 | .value (.func f) => match argsS (evU l) c.args.toList with
  | some vs => match okVs 0 vs with
   | true => match d with
    | some d => some ⟨f, vs, (d, .v r) :: l⟩
    | none => some ⟨f, vs, l⟩
   | false => none
  | none => none
 | _ => none
variable {rest : List Oper} {d : Option Tmp} {ty : TypeId} {pos : String} {af : Array Edge} {R : Rg}
theorem X_pure {c : Call} {f : FuncId} {vs : List SV} {r : SV} {l' : SL} (hO : OkV P f vs [] r []) (hc : callP l d c r = some ⟨f, vs, l'⟩) (h : WR P ops rest (SS l' H) (R.push .q0)) : WR P ops (⟨d, .call c, ty, pos, af, none⟩ :: rest) (SS l H) R := by
 unfold callP at hc
 split at hc
 ·rename_i f' hf
  split at hc
  ·rename_i vs' hvs
   split at hc
   ·rename_i hok
    have hcall : callOf ⟨d, .call c, ty, pos, af, none⟩ = some (f', c.args.toList) := by simp only [callOf, hf]
    have ha := argsS_eq (s := SS l H) (fun x _ v hv => evU_den hv) hvs
    have e : f' = f ∧ vs' = vs ∧ SS l' H = (SS l H).put d r.den := by
     split at hc <;> injection hc with hc <;> injection hc with e1 e2 e3 <;> subst e1 <;> subst e2 <;> subst e3 <;> exact ⟨rfl, rfl, rfl⟩
    obtain ⟨rfl, rfl, e3⟩ := e
    refine R_pure hcall ha (okVs_den hok) hO ?_
    rw [← e3]; exact h
   ·cases hc
  ·cases hc
 ·cases hc
structure CG : Type 1 where
 f : FuncId
 vs : List SV
 l : SL
 g : Bool
 q : Prop
def callG (ops : List Oper) (l : SL) (d : Option Tmp) (c : Call) (gd : Nat × Bool) (r : SV) : Option CG :=
 match c.callee with
 | .value (.func f) => match argsS (evG l) c.args.toList with
  | some vs => match okVs 0 vs with
   | true => match gd with
    | (j, want) => match wantS ops l j want with
     | some g => match d with
      | some d => gdK l c.args.toList fun q => some ⟨f, vs, (d, .g g r) :: l, g, q⟩
      | none => none
     | none => none
   | false => none
  | none => none
 | _ => none
theorem wantS_eq {j : Nat} {want g : Bool} (hg : wantS ops.toList l j want = some g) : ∃ oj dj b, ops[j]? = some oj ∧ oj.dst = some dj ∧ (((SS l H).ev (.tmp dj) = .c (.f (.v (.bool b))) ∧ g = (b == want)) ∨ ((SS l H).ev (.tmp dj) = .c .und ∧ g = false)) := by
 unfold wantS at hg
 split at hg
 ·rename_i oj hoj
  rw [nth0_get, Array.getElem?_toList] at hoj
  split at hg
  ·rename_i dj hdj
   refine ⟨oj, dj, ?_⟩
   split at hg
   ·rename_i b hb
    refine ⟨b, hoj, hdj, .inl ⟨lk_ev hb, ?_⟩⟩
    split at hg <;> injection hg with hg <;> subst hg <;> cases b <;> rfl
   ·rename_i b0 b hb
    have := lk_ev (H := H) hb
    cases b0 with
    | true =>
     refine ⟨b, hoj, hdj, .inl ⟨this, ?_⟩⟩
     split at hg <;> injection hg with hg <;> subst hg <;> cases b <;> rfl
    | false =>
     refine ⟨b, hoj, hdj, .inr ⟨this, ?_⟩⟩
     split at hg <;> injection hg with hg <;> subst hg <;> rfl
   ·cases hg
  ·cases hg
 ·cases hg
theorem X_pureG {c : Call} {f : FuncId} {vs : List SV} {r : SV} {l' : SL} {gd : Nat × Bool} {g : Bool} {q : Prop} (hO : g = true → OkV P f vs [] r []) (hc : callG ops.toList l d c gd r = some ⟨f, vs, l', g, q⟩) (hq : g = true → q) (h : WR P ops rest (SS l' H) (R.push .q0)) : WR P ops (⟨d, .call c, ty, pos, af, some gd⟩ :: rest) (SS l H) R := by
 unfold callG at hc
 split at hc
 ·rename_i f' hf
  split at hc
  ·rename_i vs' hvs
   split at hc
   ·rename_i hok
    obtain ⟨j, want⟩ := gd
    simp only at hc
    split at hc
    ·rename_i g' hg
     split at hc
     ·rename_i dd
      obtain ⟨q', hc, hq'⟩ := gdK_eq (H := H) hc
      injection hc with hc; injection hc with e1 e2 e3 e4 e5
      subst e1; subst e2; subst e3; subst e4; subst e5
      obtain ⟨oj, dj, b, w1, w2, w3⟩ := wantS_eq (H := H) hg
      cases g' with
      | true =>
       rcases w3 with ⟨w3, w4⟩ | ⟨_, w4⟩
       ·refine R_want (by show wantA ops _ _ = some true; rw [wantA_some rfl w1 w2 w3, ← w4]) ?_
        have hcall : callOf ⟨some dd, .call c, ty, pos, af, none⟩ = some (f', c.args.toList) := by simp only [callOf, hf]
        exact R_pure hcall (argsS_eq (s := SS l H) (hq' (hq rfl)) hvs) (okVs_den hok) (hO rfl) h
       ·cases w4
      | false =>
       have hw : wantA ops (SS l H) ⟨some dd, .call c, ty, pos, af, some (j, want)⟩ = some false := by
        rcases w3 with ⟨w3, w4⟩ | ⟨w3, _⟩
        ·rw [wantA_some rfl w1 w2 w3, ← w4]
        ·exact wantA_und rfl w1 w2 w3
       exact R_skip hw h
     ·cases hc
    ·cases hc
   ·cases hc
  ·cases hc
 ·cases hc
def numsFrom : SH → List Nat → List Nat
 | _ :: H, _ :: ns => numsFrom H ns
 | [], ns => ns
 | _ :: _, [] => []
def appN : List Nat → List Nat → List Nat
 | [], r => r
 | b :: l, r => b :: appN l r
def sigL (H : SH) (bs : List Nat) : List Nat := appN bs (numsFrom H nums)
theorem numsFrom_get : ∀ (H : SH) (ns : List Nat) (i : Nat), (numsFrom H ns)[i]? = ns[H.length + i]?
 | [], ns, i => by simp [numsFrom]
 | x :: H, n :: ns, i => by
  simp only [numsFrom, List.length_cons]
  rw [numsFrom_get H ns i, show H.length + 1 + i = (H.length + i) + 1 by omega, List.getElem?_cons_succ]
 | x :: H, [], i => by simp [numsFrom]
theorem appN_eq : ∀ l r : List Nat, appN l r = l ++ r
 | [], _ => rfl
 | b :: l, r => by simp [appN, appN_eq l r]
theorem sigL_ok {H : SH} {bs : List Nat} {b c : Nat} (h : nth0 (sigL H bs) b = some c) : sig H.length bs b = c := by
 rw [nth0_get, sigL, appN_eq] at h
 unfold sig
 rw [List.getD_eq_getElem?_getD]
 by_cases hb : b < bs.length
 ·rw [List.getElem?_append_left hb] at h
  rw [h]; rfl
 ·rw [List.getElem?_append_right (by omega), numsFrom_get] at h
  rw [List.getElem?_eq_none (by omega)]
  have := nums_get h
  rw [this]; rfl
def renC (σ : List Nat) : SC → Option SC
 | .c (.ptr b off) => match nth0 σ b with
  | some c => some (.c (.ptr c off))
  | none => none
 | .c (.arr b off len cap) => match nth0 σ b with
  | some c => some (.c (.arr c off len cap))
  | none => none
 | .pel b z i k => match nth0 σ b with
  | some c => some (.pel c z i k)
  | none => none
 | .c x => some (.c x)
 | .row z F V d l => some (.row z F V d l)
 | .elt z F V d l i k => some (.elt z F V d l i k)
 | .tipr z F V M d l => some (.tipr z F V M d l)
theorem renC_den {H : SH} {bs : List Nat} {x y : SC} (h : renC (sigL H bs) x = some y) : x.den.ren (sig H.length bs) = y.den := by
 unfold renC at h
 split at h
 ·split at h
  ·rename_i hb; injection h with h; subst h; simp only [SC.den, CVal.ren, sigL_ok hb]
  ·cases h
 ·split at h
  ·rename_i hb; injection h with h; subst h; simp only [SC.den, CVal.ren, sigL_ok hb]
  ·cases h
 ·split at h
  ·rename_i hb; injection h with h; subst h; simp only [SC.den, CVal.ren, sigL_ok hb]
  ·cases h
 ·rename_i x h1 h2
  injection h with h; subst h
  cases x with
  | ptr b off => exact (h1 b off rfl).elim
  | arr b off len cap => exact (h2 b off len cap rfl).elim
  | _ => rfl
 ·injection h with h; subst h; rfl
 ·injection h with h; subst h; rfl
 ·injection h with h; subst h; rfl
def renL (σ : List Nat) : List SC → Option (List SC)
 | [] => some []
 | x :: l => match renC σ x with
  | some y => match renL σ l with
   | some r => some (y :: r)
   | none => none
  | none => none
theorem renL_den {G : SH} {bs : List Nat} : ∀ {l r : List SC}, renL (sigL G bs) l = some r → (denL l).map (CVal.ren (sig G.length bs)) = denL r
 | [], r, h => by injection h with h; subst h; rfl
 | x :: l, r, h => by
  unfold renL at h
  split at h
  ·rename_i y hy
   split at h
   ·rename_i r' hr
    injection h with h; subst h
    simp only [denL, List.map_cons] at *
    rw [renC_den hy]
    have := renL_den hr
    simp only [denL] at this
    rw [this]
   ·cases h
  ·cases h
def renT (σ : List Nat) : List ST → Option (List ST)
 | [] => some []
 | .c x :: l => match renC σ x with
  | some y => match renT σ l with
   | some r => some (.c y :: r)
   | none => none
  | none => none
 | .agg ds :: l => match renL σ ds with
  | some y => match renT σ l with
   | some r => some (.agg y :: r)
   | none => none
  | none => none
theorem renT_den {G : SH} {bs : List Nat} : ∀ {l r : List ST}, renT (sigL G bs) l = some r → (l.map ST.den).map (TVal.ren (sig G.length bs)) = r.map ST.den
 | [], r, h => by injection h with h; subst h; rfl
 | .c x :: l, r, h => by
  unfold renT at h
  split at h
  ·rename_i y hy
   split at h
   ·rename_i r' hr
    injection h with h; subst h
    simp only [List.map_cons]
    rw [renT_den hr]
    show TVal.c (x.den.ren _) :: _ = _
    rw [renC_den hy]; rfl
   ·cases h
  ·cases h
 | .agg ds :: l, r, h => by
  unfold renT at h
  split at h
  ·rename_i y hy
   split at h
   ·rename_i r' hr
    injection h with h; subst h
    simp only [List.map_cons]
    rw [renT_den hr]
    show TVal.agg ((denL ds).map _) :: _ = _
    rw [renL_den hy]; rfl
   ·cases h
  ·cases h
def renV (σ : List Nat) : SV → Option SV
 | .c x => match renC σ x with
  | some y => some (.c y)
  | none => none
 | .agg ds => match renL σ ds with
  | some r => some (.agg r)
  | none => none
 | .tup ts => match renT σ ts with
  | some r => some (.tup r)
  | none => none
theorem renV_den {G : SH} {bs : List Nat} {x y : SV} (h : renV (sigL G bs) x = some y) : x.den.ren (sig G.length bs) = y.den := by
 unfold renV at h
 split at h
 ·split at h
  ·rename_i hy; injection h with h; subst h
   show AVal.c _ = _
   rw [renC_den hy]; rfl
  ·cases h
 ·split at h
  ·rename_i hy; injection h with h; subst h
   show AVal.agg _ = _
   rw [renL_den hy]; rfl
  ·cases h
 ·split at h
  ·rename_i hy; injection h with h; subst h
   show AVal.tup _ = _
   rw [renT_den hy]; rfl
  ·cases h
def renVs (σ : List Nat) : List SV → Option (List SV)
 | [] => some []
 | x :: l => match renV σ x with
  | some y => match renVs σ l with
   | some r => some (y :: r)
   | none => none
  | none => none
theorem renVs_den {G : SH} {bs : List Nat} : ∀ {l r : List SV}, renVs (sigL G bs) l = some r → (l.map SV.den).map (AVal.ren (sig G.length bs)) = r.map SV.den
 | [], r, h => by injection h with h; subst h; rfl
 | x :: l, r, h => by
  unfold renVs at h
  split at h
  ·rename_i y hy
   split at h
   ·rename_i r' hr
    injection h with h; subst h
    simp only [List.map_cons]
    rw [renV_den hy, renVs_den hr]
   ·cases h
  ·cases h
def renHs (σ : List Nat) : SH → Option SH
 | [] => some []
 | none :: H => match renHs σ H with
  | some r => some (none :: r)
  | none => none
 | some (.cells cs) :: H => match renL σ cs with
  | some ds => match renHs σ H with
   | some r => some (some (.cells ds) :: r)
   | none => none
  | none => none
 | some (.els z F V M d l) :: H => match renHs σ H with
  | some r => some (some (.els z F V M d l) :: r)
  | none => none
theorem renHs_den {G : SH} {bs : List Nat} : ∀ {H r : SH}, renHs (sigL G bs) H = some r → (denH H).map (renB (sig G.length bs)) = denH r
 | [], r, h => by injection h with h; subst h; rfl
 | none :: H, r, h => by
  unfold renHs at h
  split at h
  ·rename_i r' hr
   injection h with h; subst h
   have := renHs_den hr
   simp only [denH, List.map_cons] at *
   rw [this]; rfl
  ·cases h
 | some (.cells cs) :: H, r, h => by
  unfold renHs at h
  split at h
  ·rename_i ds hds
   split at h
   ·rename_i r' hr
    injection h with h; subst h
    have := renHs_den hr
    simp only [denH, List.map_cons] at *
    rw [this]
    show some ((denL cs).map _) :: _ = _
    rw [renL_den hds]; rfl
   ·cases h
  ·cases h
 | some (.els z F V M d l) :: H, r, h => by
  unfold renHs at h
  split at h
  ·rename_i r' hr
   injection h with h; subst h
   have := renHs_den hr
   simp only [denH, List.map_cons] at *
   rw [this]
   congr 1
   simp only [denB, renB, SB.den, List.map_map]
   congr 1
  ·cases h
def getHs (H : SH) : List Nat → Option SH
 | [] => some []
 | b :: bs => match nth H b with
  | some x => match getHs H bs with
   | some r => some (x :: r)
   | none => none
  | none => none
theorem getHs_den {H : SH} : ∀ {bs : List Nat} {r : SH}, getHs H bs = some r → (bs.map fun b => (denH H).getD b none) = denH r ∧ ∀ b ∈ bs, b < H.length
 | [], r, h => by injection h with h; subst h; exact ⟨rfl, fun b hb => by cases hb⟩
 | b :: bs, r, h => by
  unfold getHs at h
  split at h
  ·rename_i x hx
   split at h
   ·rename_i r' hr
    injection h with h; subst h
    obtain ⟨h1, h2⟩ := getHs_den hr
    rw [nth_get] at hx
    simp only [List.map_cons, denH] at *
    rw [h1]
    refine ⟨?_, fun c hc => ?_⟩
    ·rw [List.getD_eq_getElem?_getD, List.getElem?_map, hx]; rfl
    ·rcases List.mem_cons.1 hc with rfl | hc
     ·exact (List.getElem?_eq_some_iff.1 hx).1
     ·exact h2 c hc
   ·cases h
  ·cases h
def appK : SH → SH → (SH → Option SX) → Option SX
 | [], Cs, k => k Cs
 | x :: H, Cs, k => appK H Cs fun r => k (x :: r)
def putK (H : SH) (bs : List Nat) (Cs : SH) (k : SH → Option SX) : Option SX :=
 match bs with
 | [] => appK H Cs k
 | b :: bs => match Cs with
  | c :: Cs => setK H b c fun H' => putK H' bs Cs k
  | [] => none
theorem appK_eq {x : SX} : ∀ {H Cs : SH} {k : SH → Option SX}, appK H Cs k = some x → k (H ++ Cs) = some x
 | [], Cs, k, h => h
 | y :: H, Cs, k, h => by have := appK_eq (H := H) h; simpa using this
theorem putK_eq {x : SX} : ∀ {bs : List Nat} {H Cs : SH} {k : SH → Option SX}, putK H bs Cs k = some x → ∃ H', k H' = some x ∧ denH H' = putBack (denH H) bs (denH Cs)
 | [], H, Cs, k, h => by
  have h' : appK H Cs k = some x := by unfold putK at h; exact h
  exact ⟨_, appK_eq h', by simp [denH, putBack]⟩
 | b :: bs, H, [], k, h => by unfold putK at h; cases h
 | b :: bs, H, c :: Cs, k, h => by
  unfold putK at h
  obtain ⟨h1, h2⟩ := setK_eq h
  obtain ⟨H', h3, h4⟩ := putK_eq h2
  refine ⟨H', h3, ?_⟩
  rw [h4]
  simp only [denH, List.map_cons, putBack, List.map_set]
def nodupB : List Nat → Bool
 | [] => true
 | b :: l => match memN l b with
  | true => false
  | false => nodupB l
theorem memN_of {l : List Nat} {t : Nat} (h : t ∈ l) : memN l t = true := by
 induction l with
 | nil => cases h
 | cons d l ih =>
  unfold memN
  rcases List.mem_cons.1 h with rfl | h
  ·rw [Nat.beq_refl]
  ·split
   ·rfl
   ·exact ih h
theorem nodupB_eq : ∀ {l : List Nat}, nodupB l = true → l.Nodup
 | [], _ => List.nodup_nil
 | b :: l, h => by
  unfold nodupB at h
  split at h
  ·cases h
  ·rename_i hb
   exact List.nodup_cons.2 ⟨fun hm => (by rw [memN_of hm] at hb; cases hb), nodupB_eq h⟩
theorem X_call {c : Call} {f : FuncId} {vs ws : List SV} {Hs Hs' Gs Gs' : SH} {r r' : SV} {l' : SL} {H' : SH} (bs : List Nat) (hO : OkV P f vs Hs r Hs')
  (hc : callOf ⟨d, .call c, ty, pos, af, none⟩ = some (f, c.args.toList)) (ha : argsS (evU l) c.args.toList = some ws) (hv : renVs (sigL H bs) vs = some ws) (hg : getHs H bs = some Gs) (hr1 : renHs (sigL H bs) Hs = some Gs) (hr2 : renHs (sigL H bs) Hs' = some Gs') (hr3 : renV (sigL H bs) r = some r')
  (hn : nodupB bs = true) (h4 : okVs Hs.length vs = true) (h5 : okBl Hs.length Hs = true) (h6 : okBl Hs'.length Hs' = true) (hP : putK H bs Gs' (fun H' => some ⟨[], [], H', .plain (fun _ => True), True⟩) = some ⟨[], [], H', .plain (fun _ => True), True⟩)
  (hl : (match d with | some d => some ((d, SE.v r') :: l) | none => some l) = some l')
  (h : WR P ops rest (SS l' H') (R.push ⟨bs, [], bs, if Hs'.length = bs.length then none else some H.length, false, false⟩)) : WR P ops (⟨d, .call c, ty, pos, af, none⟩ :: rest) (SS l H) R := by
 obtain ⟨g1, g2⟩ := getHs_den hg
 obtain ⟨H2, hP1, hP2⟩ := putK_eq hP
 injection hP1 with hP1; injection hP1 with _ _ hP1
 subst hP1
 have hlen : ∀ X : SH, (denH X).length = X.length := denH_len
 refine R_call bs (H := denH H) (n := H.length) (Hs := denH Hs) (Hs' := denH Hs') (args := ws.map SV.den) (args' := vs.map SV.den) (r := r.den) (r2 := r'.den) (H2 := denH H2) hc (argsS_eq (s := SS l H) (fun x _ v hv => evU_den hv) ha) (SS_H _ _) hO ?_ (hlen H) ?_ (nodupB_eq hn) ?_ (by rw [hlen]; exact okVs_den h4) (by rw [hlen]; exact okBl_den h5) (by rw [hlen]; exact okBl_den h6) (renV_den hr3) ?_ rfl ?_
 ·rw [hlen]; exact renVs_den hv
 ·rw [renHs_den hr1]; exact g1.symm
 ·rw [List.all_eq_true]; intro b hb; simpa using g2 b hb
 ·rw [renHs_den hr2]; exact hP2.symm
 ·rw [SS_setH, hlen]
  have : SS l' H2 = (SS l H2).put d r'.den := by
   split at hl <;> injection hl with hl <;> subst hl <;> rfl
  rw [← this]; exact h
end
section
variable {P : Program} {T : Tb} {H : SH} {l : SL}
def CEq (x y : SC) : Prop := x.den = y.den
theorem CEq.refl (x : SC) : CEq x x := rfl
theorem CEq.int {k : IntKind} {a b : Int} (h : a = b) : CEq (.c (.f (.v (.int k a)))) (.c (.f (.v (.int k b)))) := by subst h; rfl
theorem CEq.bool {a b : Bool} (h : a = b) : CEq (.c (.f (.v (.bool a)))) (.c (.f (.v (.bool b)))) := by subst h; rfl
theorem CEq.str {a b : ByteArray} (h : a = b) : CEq (.c (.f (.v (.string a)))) (.c (.f (.v (.string b)))) := by subst h; rfl
theorem CEq.arr {b off n n' m m' : Nat} (h : n = n') (h2 : m = m') : CEq (.c (.arr b off n m)) (.c (.arr b off n' m')) := by subst h; subst h2; rfl
theorem CEq.row {α : Type} {z n : Nat} {cs : List FVal} {F : α → List FVal} {V : α → List SC} {d : α} {l : List α} (h1 : cs = l.flatMap F) (h2 : n = l.length) : CEq (.c (.f (.row cs n))) (.row z F V d l) := by subst h1; subst h2; rfl
theorem CEq.rows {α : Type} {z : Nat} {F : α → List FVal} {V : α → List SC} {d : α} {l l' : List α} (h : l = l') : CEq (.row z F V d l) (.row z F V d l') := by subst h; rfl
theorem CEq.tip {α : Type} {z n : Nat} {cs : List FVal} {F : α → List FVal} {V : α → List SC} {M : List FVal → Option α} {d : α} {l : List α} (h1 : cs = l.flatMap F) (h2 : n = l.length) : CEq (.c (.tip z cs n)) (.tipr z F V M d l) := by subst h1; subst h2; rfl
theorem CEq.tips {α : Type} {z : Nat} {F : α → List FVal} {V : α → List SC} {M M' : List FVal → Option α} {d : α} {l l' : List α} (h : l = l') : CEq (.tipr z F V M d l) (.tipr z F V M' d l') := by subst h; rfl
theorem CEq.raw {cs cs' : List FVal} {n n' : Nat} (h : cs = cs') (h2 : n = n') : CEq (.c (.f (.row cs n))) (.c (.f (.row cs' n'))) := by subst h; subst h2; rfl
inductive SEqL : List SC → List SC → Prop
 | nil : SEqL [] []
 | cons {x y : SC} {l m : List SC} (h : CEq x y) (t : SEqL l m) : SEqL (x :: l) (y :: m)
theorem SEqL.den {l m : List SC} (h : SEqL l m) : denL l = denL m := by
  induction h with
  | nil => rfl
  | cons h t ih => simp only [denL, List.map_cons] at *; rw [ih]; exact congrArg (· :: _) h
inductive TEqL : List ST → List ST → Prop
 | nil : TEqL [] []
 | c {x y : SC} {l m : List ST} (h : CEq x y) (t : TEqL l m) : TEqL (.c x :: l) (.c y :: m)
 | agg {x y : List SC} {l m : List ST} (h : SEqL x y) (t : TEqL l m) : TEqL (.agg x :: l) (.agg y :: m)
theorem TEqL.den {l m : List ST} (h : TEqL l m) : l.map ST.den = m.map ST.den := by
 induction h with
 | nil => rfl
 | c h t ih => simp only [List.map_cons, ih]; exact congrArg (fun x => TVal.c x :: _) h
 | agg h t ih => simp only [List.map_cons, ih]; exact congrArg (fun x => TVal.agg x :: _) h.den
theorem VEq.c {x y : SC} (h : CEq x y) : (SV.c x).den = (SV.c y).den := congrArg AVal.c h
theorem VEq.agg {x y : List SC} (h : SEqL x y) : (SV.agg x).den = (SV.agg y).den := congrArg AVal.agg h.den
theorem VEq.tup {x y : List ST} (h : TEqL x y) : (SV.tup x).den = (SV.tup y).den := congrArg AVal.tup h.den
inductive TkEq : SH → SH → Prop
 | nil (H : SH) : TkEq H []
 | none {H G : SH} (t : TkEq H G) : TkEq (Option.none :: H) (Option.none :: G)
 | cells {cs ds : List SC} {H G : SH} (h : SEqL cs ds) (t : TkEq H G) : TkEq (some (.cells cs) :: H) (some (.cells ds) :: G)
 | els {α : Type} {z : Nat} {F : α → List FVal} {V : α → List SC} {M : List FVal → Option α} {d : α} {l l' : List α} {H G : SH} (h : l = l') (t : TkEq H G) : TkEq (some (.els z F V M d l) :: H) (some (.els z F V M d l') :: G)
theorem TkEq.den {H G : SH} (h : TkEq H G) : denH (H.take G.length) = denH G := by
 induction h with
 | nil H => simp [denH]
 | none t ih => simp only [denH, List.length_cons, List.take_succ_cons, List.map_cons] at *; rw [ih]
 | cells h t ih => simp only [denH, List.length_cons, List.take_succ_cons, List.map_cons] at *; rw [ih]; exact congrArg (fun x => some x :: _) h.den
 | els h t ih => subst h; simp only [denH, List.length_cons, List.take_succ_cons, List.map_cons] at *; rw [ih]
def stS (v : SV) : Option ST :=
 match v with
 | .c x => some (.c x)
 | .agg ds => some (.agg ds)
 | .tup _ => none
def cutO (cs : List SC) (off n : Nat) : Option (List SC) := cutK cs off n some
def demO (cs : List SC) : Option (List SC) := demK cs some
def resV (T : Tb) (l : SL) (H : SH) : List ResultVar → Option (List ST)
 | [] => some []
 | .tmp t :: rs => match evU l (.tmp t) with
  | some v => match hS v with
   | some u => match stS u with
    | some y => match resV T l H rs with
     | some ys => some (y :: ys)
     | none => none
    | none => none
   | none => none
  | none => none
 | .cell x t :: rs => match lkN T.sz t with
  | some (q, n) => match evU l (.tmp x) with
   | some (.c (.c (.ptr b off))) => match nth H b with
    | some (some (.cells cs)) => match q with
     | false => match nth cs off with
      | some y => match hS (.c y) with
       | some u => match stS u with
        | some z => match resV T l H rs with
         | some ys => some (z :: ys)
         | none => none
        | none => none
       | none => none
      | none => none
     | true => match cutO cs off n with
      | some ds => match demO ds with
       | some es => match nzL es with
        | some fs => match resV T l H rs with
         | some ys => some (.agg fs :: ys)
         | none => none
        | none => none
       | none => none
      | none => none
    | _ => none
   | _ => none
  | none => none
theorem hS_t {v u : SV} {y : ST} {w : AVal} (hw : w = v.den) (h : hS v = some u) (hy : stS u = some y) : (w.dem.t).map TVal.nz = some y.den := by
 have h1 := hS_den h
 subst hw
 unfold AVal.h at h1
 unfold stS at hy
 split at hy
 ·injection hy with hy; subst hy
  rename_i x
  cases hd : v.den.dem with
  | c z =>
   rw [hd] at h1
   have h2 : AVal.c z.nz = AVal.c x.den := h1
   injection h2 with h2
   show some (TVal.c z.nz) = _
   rw [h2]; rfl
  | agg cs => rw [hd] at h1; cases h1
  | tup ts => rw [hd] at h1; cases h1
 ·injection hy with hy; subst hy
  rename_i ds
  cases hd : v.den.dem with
  | c z => rw [hd] at h1; cases h1
  | agg cs =>
   rw [hd] at h1
   have h2 : AVal.agg (cs.map CVal.nz) = AVal.agg (denL ds) := h1
   injection h2 with h2
   show some (TVal.agg (cs.map CVal.nz)) = _
   rw [h2]; rfl
  | tup ts => rw [hd] at h1; cases h1
 ·cases hy
theorem resS_eq (O : T.Ok P) : ∀ {rs : List ResultVar} {ys : List ST}, resV T l H rs = some ys → resL P (SS l H) rs = some (ys.map ST.den)
 | [], ys, h => by injection h with h; subst h; rfl
 | .tmp t :: rs, ys, h => by
  unfold resV at h
  split at h
  ·rename_i v hv
   split at h
   ·rename_i u hu
    split at h
    ·rename_i y hy
     split at h
     ·rename_i ys' hys
      injection h with h; subst h
      have h1 := hS_t (evU_den (H := H) hv) hu hy
      have h2 := resS_eq O hys
      unfold resL
      have h3 : res1 P (SS l H) (.tmp t) = some y.den := h1
      rw [h3, h2]
      rfl
     ·cases h
    ·cases h
   ·cases h
  ·cases h
 | .cell x t :: rs, ys, h => by
  unfold resV at h
  split at h
  ·rename_i q n hsz
   have ht := O.sz_of hsz
   split at h
   ·rename_i b off hx
    have hx' := evU_den (H := H) hx
    split at h
    ·rename_i cs hb
     have hb' : (SS l H).H[b]? = some (some (denL cs)) := by rw [SS_H]; exact nth_H hb
     split at h
     ·split at h
      ·rename_i y hy
       split at h
       ·rename_i u hu
        split at h
        ·rename_i z hz
         split at h
         ·rename_i ys' hys
          injection h with h; subst h
          have h1 := hS_t (v := .c y) rfl hu hz
          have h2 : TVal.nz (.c y.den.dem) = z.den := by
           have h3 : some (TVal.nz (.c y.den.dem)) = some z.den := h1
           injection h3
          exact res_cell1 ht hx' hb' (nth_den hy) h2 (resS_eq O hys)
         ·cases h
        ·cases h
       ·cases h
      ·cases h
     ·split at h
      ·rename_i ds hds
       obtain ⟨h1, h2⟩ := cutK_eq hds
       injection h2 with h2; subst h2
       split at h
       ·rename_i es hes
        obtain ⟨es', h3, h4⟩ := demK_eq hes
        injection h4 with h4; subst h4
        split at h
        ·rename_i fs hfs
         split at h
         ·rename_i ys' hys
          injection h with h; subst h
          refine res_celln (cs := denL es') ht hx' hb' (by rw [den_len]; exact h1) (by rw [cut_den, h3]) ?_ (resS_eq O hys)
          show TVal.agg ((denL es').map CVal.nz) = _
          rw [nzL_eq hfs]; rfl
         ·cases h
        ·cases h
       ·cases h
      ·cases h
    ·cases h
   ·cases h
  ·cases h
def packS : List ST → SV
 | [.c x] => .c x
 | [.agg l] => .agg l
 | l => .tup l
theorem packS_den (ys : List ST) : packT (ys.map ST.den) = (packS ys).den := by
 cases ys with
 | nil => rfl
 | cons y ys =>
  cases ys with
  | nil => cases y <;> rfl
  | cons z ys => cases y <;> rfl
theorem take_den (H : SH) (n : Nat) : (denH H).take n = denH (H.take n) := by simp [denH]
theorem X_ret (O : T.Ok P) {fn : Func} {r : SV} {H' : SH} {e : AExit} {rs : List ResultVar} {ys : List ST} (he : (match e with | .exit _ => False | _ => True)) (hr : fn.results.toList = rs) (hy : resV T l H rs = some ys) (hp : (packS ys).den = r.den) (hH : TkEq H H') : Ret P fn r.den (denH H') e (SS l H) :=
 ⟨he, ys.map ST.den, by rw [hr]; exact resS_eq O hy, by rw [packS_den]; exact hp, by rw [SS_H, denH_len, take_den]; exact hH.den⟩
def noArr : List SC → Bool
 | [] => true
 | .c (.arr ..) :: _ => false
 | _ :: l => noArr l
def fzS (H : SH) : List ST → (List ST → Prop → Option SX) → Option SX
 | [], k => k [] True
 | .c (.c (.arr b off len cap)) :: l, k => match nth H b with
  | some (some (.els z F V M d x)) => match Nat.beq off 0 with
   | true => fzS H l fun r p => k (.c (.row z F V d x) :: r) (((len = cap ∧ x.length = len) ∧ ∀ y, fzs ((F y).map CVal.f) = some (F y)) ∧ p)
   | false => none
  | _ => none
 | .c x :: l, k => fzS H l fun r p => k (.c x :: r) p
 | .agg ds :: l, k => match noArr ds with
  | true => fzS H l fun r p => k (.agg ds :: r) p
  | false => none
theorem fzs_app : ∀ (a b : List CVal) (x y : List FVal), fzs a = some x → fzs b = some y → fzs (a ++ b) = some (x ++ y)
 | [], b, x, y, h1, h2 => by injection h1 with h1; subst h1; exact h2
 | c :: a, b, x, y, h1, h2 => by
  unfold fzs at h1
  split at h1
  ·rename_i u us e1 e2
   injection h1 with h1; subst h1
   show fzs (c :: (a ++ b)) = _
   unfold fzs
   rw [e1, fzs_app a b us y e2 h2]
   rfl
  ·cases h1
theorem fzs_els {α : Type} {F : α → List FVal} (hF : ∀ y, fzs ((F y).map CVal.f) = some (F y)) : ∀ l : List α, fzs ((l.flatMap F).map CVal.f) = some (l.flatMap F)
 | [] => rfl
 | x :: l => by
  simp only [List.flatMap_cons, List.map_append]
  exact fzs_app _ _ _ _ (hF x) (fzs_els hF l)
theorem fzC_arr {H : HB} {b off len cap : Nat} {cells : List CVal} {fs : List FVal} (h1 : H[b]? = some (some cells)) (h2 : len = cap) (h3 : fzs (cells.drop off) = some fs) : fzC H (.arr b off len cap) = .f (.row fs len) := by
 simp only [fzC, h1, if_pos h2, h3]
theorem fzC_other {H : HB} {x : CVal} (h : ∀ b off len cap, x = .arr b off len cap → False) : fzC H x = x := by
 cases x <;> first | rfl | exact (h _ _ _ _ rfl).elim
theorem noArr_eq {H : HB} : ∀ {ds : List SC}, noArr ds = true → (denL ds).map (fzC H) = denL ds
 | [], _ => rfl
 | x :: l, h => by
  unfold noArr at h
  split at h
  ·rename_i h0; cases h0
  ·cases h
  ·rename_i x' l' hne h0
   injection h0 with e1 e2
   subst e1; subst e2
   have := noArr_eq (H := H) h
   simp only [denL, List.map_cons] at *
   rw [this, fzC_other]
   intro b off len cap e
   cases x with
   | c y => exact hne b off len cap (by rw [show y = _ from e])
   | _ => cases e
theorem fzS_eq {x : SX} : ∀ {ys : List ST} {k : List ST → Prop → Option SX}, fzS H ys k = some x → ∃ zs p, k zs p = some x ∧ (p → (ys.map ST.den).map (fzT (denH H)) = zs.map ST.den)
 | [], k, h => ⟨[], True, h, fun _ => rfl⟩
 | y :: ys, k, h => by
  unfold fzS at h
  split at h
  ·rename_i h0; cases h0
  ·rename_i b off len cap l' h0
   injection h0 with e1 e2; subst e1; subst e2
   split at h
   ·rename_i z F V M d x' hb
    split at h
    ·rename_i hoff
     have hoff := Nat.eq_of_beq_eq_true hoff
     subst hoff
     obtain ⟨zs, p, h1, h2⟩ := fzS_eq h
     refine ⟨_, _, h1, fun ⟨⟨⟨hp1, hp2⟩, hp3⟩, hp4⟩ => ?_⟩
     simp only [List.map_cons]
     rw [h2 hp4]
     congr 1
     show TVal.c (fzC (denH H) (.arr b 0 len cap)) = _
     rw [fzC_arr (nth_H hb) hp1 (by rw [List.drop_zero]; exact fzs_els hp3 x')]
     simp only [ST.den, SC.den, hp2]
    ·cases h
   ·cases h
  ·rename_i x' l' hne h0
   injection h0 with e1 e2; subst e1; subst e2
   obtain ⟨zs, p, h1, h2⟩ := fzS_eq h
   refine ⟨_, _, h1, fun hp => ?_⟩
   simp only [List.map_cons]
   rw [h2 hp]
   congr 1
   show TVal.c (fzC (denH H) x'.den) = _
   rw [fzC_other]
   ·rfl
   ·intro b off len cap e
    cases x' with
    | c y => exact hne b off len cap (by rw [show y = _ from e])
    | _ => cases e
  ·rename_i ds l' h0
   injection h0 with e1 e2; subst e1; subst e2
   split at h
   ·rename_i hn
    obtain ⟨zs, p, h1, h2⟩ := fzS_eq h
    refine ⟨_, _, h1, fun hp => ?_⟩
    simp only [List.map_cons]
    rw [h2 hp]
    congr 1
    show TVal.agg ((denL ds).map _) = _
    rw [noArr_eq hn]; rfl
   ·cases h
def fzR (T : Tb) (l : SL) (H : SH) (rs : List ResultVar) : Option SX :=
 match resV T l H rs with
 | some ys => fzS H ys fun zs p => some ⟨[], [(0, .v (packS zs))], [], .plain (fun _ => True), p⟩
 | none => none
theorem X_retP (O : T.Ok P) {fn : Func} {r : SV} {e : AExit} {rs : List ResultVar} {v : SV} {p : Prop} (he : (match e with | .exit _ => False | _ => True)) (hr : fn.results.toList = rs) (hy : fzR T l H rs = some ⟨[], [(0, .v v)], [], .plain (fun _ => True), p⟩) (hq : p) (hp : v.den = r.den) : RetP P fn r.den e (SS l H) := by
 unfold fzR at hy
 split at hy
 ·rename_i ys hys
  obtain ⟨zs, p', h1, h2⟩ := fzS_eq hy
  injection h1 with h1
  injection h1 with _ e1 _ _ e2
  injection e1 with e1 _
  injection e1 with _ e1
  injection e1 with e1
  subst e1; subst e2
  refine ⟨he, ys.map ST.den, by rw [hr]; exact resS_eq O hys, ?_⟩
  rw [SS_H, h2 hq, packS_den]
  exact hp
 ·cases hy
def sl0 : Nat → List SV → SL
 | _, [] => []
 | i, x :: l => (i, .v x) :: sl0 (i + 1) l
theorem sl0_eq : ∀ (args : List SV) (i : Nat), St.of (denH H) (arg0 i (args.map SV.den)) = SS (sl0 i args) H
 | [], i => rfl
 | x :: l, i => by
  show (St.of (denH H) (arg0 (i + 1) (l.map SV.den))).put (some i) x.den = _
  rw [sl0_eq l (i + 1)]
  rfl
def flatV : SV → Bool
 | .c (.c (.tip ..)) => false
 | .c (.tipr ..) => false
 | _ => true
theorem flatV_den {v : SV} (h : flatV v = true) : Flat v.den = true := by
 cases v with
 | c x => cases x with
  | c y => cases y <;> first | rfl | cases h
  | tipr => cases h
  | _ => rfl
 | agg l => rfl
 | tup l => rfl
theorem X_fn (hm : P.follows .mixedOrders = true) {f : FuncId} {fn : Func} {c : Code} {args : List SV} {H' : SH} {r : SV} (hf : P.funcs[f]? = some fn) (hb : fn.body = some c) (hn : (fn.name == "runtime.NumGoroutine") = false) (hca : args.length ≤ fn.ntmps) (hcode : codeOk fn.ntmps c = true)
  (hflat : flatV r = true) (hrok : okV H'.length r = true) (hlen : H.length ≤ H'.length) (hHok : okBl H'.length H' = true) {n0 : Nat} (h0 : H.length = n0) (h : W P (DR P) n0 c (SS (sl0 0 args) H) (Ret P fn r.den (denH H'))) : OkV P f args H r H' := by
 subst h0
 refine ok_fn hm hf hb hn (by simpa using hca) hcode (flatV_den hflat) (by rw [denH_len]; exact okV_den hrok) (by rw [denH_len, denH_len]; exact hlen) (by rw [denH_len]; exact okBl_den hHok) ?_
 rw [denH_len, sl0_eq]
 exact h
theorem X_fnP (hm : P.follows .mixedOrders = true) {f : FuncId} {fn : Func} {c : Code} {args : List SV} {r : SV} (hf : P.funcs[f]? = some fn) (hb : fn.body = some c) (hn : (fn.name == "runtime.NumGoroutine") = false) (hca : args.length ≤ fn.ntmps) (hcode : codeOk fn.ntmps c = true)
  (hflat : flatV r = true) (hrok : okV 0 r = true) (h : W P (DR P) 0 c (SS (sl0 0 args) []) (RetP P fn r.den)) : OkV P f args [] r [] := by
 refine okP_fn hm hf hb hn (by simpa using hca) hcode (flatV_den hflat) (okV_den hrok) ?_
 have := sl0_eq (H := []) args 0
 rw [show (denH [] : HB) = [] from rfl] at this
 rw [this]
 exact h
def CLe (x y : SC) : Prop := CVal.Le x.den y.den
theorem CLe.refl (x : SC) : CLe x x := CVal.Le.refl _
theorem CLe.any (x : SC) : CLe x (.c .any) := CVal.Le.any _
theorem CLe.nil_row : CLe (.c (.f .nils)) (.c (.f (.row [] 0))) := CVal.Le.nil_row
theorem CLe.nil_rowS {α : Type} {z : Nat} {F : α → List FVal} {V : α → List SC} {d : α} : CLe (.c (.f .nils)) (.row z F V d []) := CVal.Le.nil_row
theorem CLe.nil_tip {z : Nat} : CLe (.c (.f .nils)) (.c (.tip z [] 0)) := CVal.Le.nil_tip z
theorem CLe.nil_tipS {α : Type} {z : Nat} {F : α → List FVal} {V : α → List SC} {M : List FVal → Option α} {d : α} : CLe (.c (.f .nils)) (.tipr z F V M d []) := CVal.Le.nil_tip z
theorem CLe.tip {α : Type} {z n : Nat} {cs : List FVal} {F : α → List FVal} {V : α → List SC} {M : List FVal → Option α} {d : α} {l : List α} (h1 : cs = l.flatMap F) (h2 : n = l.length) : CLe (.c (.tip z cs n)) (.tipr z F V M d l) := by subst h1; subst h2; exact CVal.Le.refl _
theorem CLe.tip_row {α : Type} {z z' n : Nat} {cs : List FVal} {F : α → List FVal} {V : α → List SC} {d : α} {l : List α} (h1 : cs = l.flatMap F) (h2 : n = l.length) : CLe (.c (.tip z cs n)) (.row z' F V d l) := by subst h1; subst h2; exact CVal.Le.tip_row _ _ _
theorem CLe.row {α : Type} {z n : Nat} {cs : List FVal} {F : α → List FVal} {V : α → List SC} {d : α} {l : List α} (h1 : cs = l.flatMap F) (h2 : n = l.length) : CLe (.c (.f (.row cs n))) (.row z F V d l) := by subst h1; subst h2; exact CVal.Le.refl _
theorem CLe.tipr_row {α : Type} {z z' : Nat} {F : α → List FVal} {V V' : α → List SC} {M : List FVal → Option α} {d d' : α} {l l' : List α} (h : l = l') : CLe (.tipr z F V M d l) (.row z' F V' d' l') := by subst h; exact CVal.Le.tip_row _ _ _
theorem CLe.rows {α : Type} {z : Nat} {F : α → List FVal} {V : α → List SC} {d : α} {l l' : List α} (h : l = l') : CLe (.row z F V d l) (.row z F V d l') := by subst h; exact CVal.Le.refl _
theorem CLe.tips {α : Type} {z : Nat} {F : α → List FVal} {V : α → List SC} {M M' : List FVal → Option α} {d : α} {l l' : List α} (h : l = l') : CLe (.tipr z F V M d l) (.tipr z F V M' d l') := by subst h; exact CVal.Le.refl _
theorem CLe.int {k : IntKind} {a b : Int} (h : a = b) : CLe (.c (.f (.v (.int k a)))) (.c (.f (.v (.int k b)))) := by subst h; exact CVal.Le.refl _
theorem CLe.bool {a b : Bool} (h : a = b) : CLe (.c (.f (.v (.bool a)))) (.c (.f (.v (.bool b)))) := by subst h; exact CVal.Le.refl _
theorem CLe.str {a b : ByteArray} (h : a = b) : CLe (.c (.f (.v (.string a)))) (.c (.f (.v (.string b)))) := by subst h; exact CVal.Le.refl _
theorem CLe.arr {b off n n' m m' : Nat} (h : n = n') (h2 : m = m') : CLe (.c (.arr b off n m)) (.c (.arr b off n' m')) := by subst h; subst h2; exact CVal.Le.refl _
inductive SLe : List SC → List SC → Prop
 | nil : SLe [] []
 | cons {x y : SC} {l m : List SC} (h : CLe x y) (t : SLe l m) : SLe (x :: l) (y :: m)
theorem SLe.den {l m : List SC} (h : SLe l m) : LeL (denL l) (denL m) := by
 induction h with
 | nil => exact .nil
 | cons h t ih => exact .cons h ih
inductive HLe : SH → SH → Prop
 | nil (H : SH) : HLe H []
 | none {x : Option SB} {H G : SH} (t : HLe H G) : HLe (x :: H) (Option.none :: G)
 | cells {cs ds : List SC} {H G : SH} (h : SLe cs ds) (t : HLe H G) : HLe (some (.cells cs) :: H) (some (.cells ds) :: G)
 | els {α : Type} {z : Nat} {F : α → List FVal} {V : α → List SC} {M : List FVal → Option α} {d : α} {l l' : List α} {H G : SH} (h : l = l') (t : HLe H G) : HLe (some (.els z F V M d l) :: H) (some (.els z F V M d l') :: G)
 | open_ {α : Type} {z : Nat} {F : α → List FVal} {V : α → List SC} {M : List FVal → Option α} {d : α} {cs : List SC} {l' : List α} {H G : SH} (h : denL cs = (l'.flatMap F).map CVal.f) (t : HLe H G) : HLe (some (.cells cs) :: H) (some (.els z F V M d l') :: G)
theorem HLe.den {H G : SH} (h : HLe H G) : G.length ≤ H.length ∧ LeH ((denH H).take G.length) (denH G) := by
 induction h with
 | nil H => exact ⟨Nat.zero_le _, by simp [denH]; exact .nil⟩
 | none t ih => exact ⟨by simp; exact ih.1, by simp only [denH, List.map_cons, List.length_cons, List.take_succ_cons] at *; exact .none ih.2⟩
 | cells h t ih => exact ⟨by simp; exact ih.1, by simp only [denH, List.map_cons, List.length_cons, List.take_succ_cons] at *; exact .some h.den ih.2⟩
 | els h t ih => subst h; exact ⟨by simp; exact ih.1, by simp only [denH, List.map_cons, List.length_cons, List.take_succ_cons] at *; exact .some (LeL.refl _) ih.2⟩
 | open_ h t ih => exact ⟨by simp; exact ih.1, by simp only [denH, List.map_cons, List.length_cons, List.take_succ_cons] at *; exact .some (by rw [SB.den, h]; exact LeL.refl _) ih.2⟩
def ELe (x y : SE) : Prop := LeS x.den y.den
theorem ELe.refl (x : SE) : ELe x x := LeS.refl _
theorem LeS_of {x y : CVal} (h : CVal.Le x y) (hne : y ≠ .any) : LeS (.c x) (.c y) := by
 cases h with
 | refl => exact .refl _
 | any => exact absurd rfl hne
 | nil_row => exact .nil_row
 | nil_tip sz => exact .nil_tip sz
 | tip_row sz cs len => exact .tip_row sz cs len
def known : SC → Bool
 | .c .any => false
 | _ => true
theorem ELe.c {x y : SC} (hk : known y = true) (h : CLe x y) : ELe (.v (.c x)) (.v (.c y)) := LeS_of h (by
 cases y with
 | c y => intro e; have : y = .any := e; subst this; cases hk
 | _ => intro e; cases e)
def AgS (l : SL) : SL → Prop
 | [] => True
 | (d, x) :: r => (∃ e, lk l d = some e ∧ ELe e x) ∧ AgS l r
theorem AgS.den {l : SL} : ∀ {r : SL}, AgS l r → AgreeL (SS l H) (denE r)
 | [], _ => trivial
 | (d, x) :: r, h => ⟨by obtain ⟨e, h1, h2⟩ := h.1; exact ⟨_, lk_ev h1, h2⟩, AgS.den h.2⟩
def okE (n : Nat) : SL → Bool
 | [] => true
 | (_, .v x) :: l => match okV n x with
  | true => okE n l
  | false => false
 | (_, .g _ x) :: l => match okV n x with
  | true => okE n l
  | false => false
 | (_, .u) :: l => okE n l
theorem okE_den {n : Nat} : ∀ {l : SL}, okE n l = true → ((denE l).all fun p => p.2.ok n) = true
 | [], _ => rfl
 | (d, .v x) :: l, h => by
  unfold okE at h
  split at h
  ·rename_i h1
   simp only [denE, List.map_cons, List.all_cons, Bool.and_eq_true]
   exact ⟨okV_den h1, okE_den (l := l) h⟩
  ·cases h
 | (d, .g b x) :: l, h => by
  unfold okE at h
  split at h
  ·rename_i h1
   simp only [denE, List.map_cons, List.all_cons, Bool.and_eq_true]
   refine ⟨?_, okE_den (l := l) h⟩
   cases b
   ·rfl
   ·exact okV_den h1
  ·cases h
 | (d, .u) :: l, h => by
  simp only [denE, List.map_cons, List.all_cons, Bool.and_eq_true]
  exact ⟨rfl, okE_den (l := l) h⟩
def takeB : SH → Nat → Bool → SH
 | _, 0, _ => []
 | [], _, _ => []
 | x :: H, n + 1, b => x :: takeB H n b
theorem takeB_eq : ∀ (H : SH) (n : Nat) (b : Bool), takeB H n b = H.take n
 | _, 0, _ => by simp [takeB]
 | [], n + 1, _ => by simp [takeB]
 | x :: H, n + 1, b => by simp [takeB, takeB_eq H n b]
theorem X_weak {n0 : Nat} {l l' : SL} {H H' : SH} (h0 : Nat.ble n0 H'.length = true) (hg : okBl H'.length (takeB H H'.length true) = true) (hl : okE H'.length l' = true) (hH : HLe H H') (h : AgS l l') : Weak n0 (SS l H) (SS l' H') := by
 obtain ⟨h1, h2⟩ := hH.den
 refine weak_agG (SS_H l H) (by rw [denH_len]; exact Nat.le_of_ble_eq_true h0) (by rw [denH_len, denH_len]; exact h1) ?_ (by rw [denH_len]; exact okE_den hl) (by rw [denH_len]; exact h2) h.den
 rw [denH_len, take_den, ← takeB_eq H H'.length true]
 exact okBl_den hg
end
section
variable {P : Program} {ops : Array Oper} {rest : List Oper} {d : Option Tmp} {ty : TypeId} {pos : String} {af : Array Edge} {R : Rg} {D : Array Oper → St → (St → Prop) → Prop} {n0 : Nat} {H : SH} {l : SL} {K : AExit → St → Prop} {s : St}
theorem q_WR (h : WR P ops rest s R) : WR P ops rest s R := h
theorem q_call {c : Call} (h : WR P ops (⟨d, .call c, ty, pos, af, none⟩ :: rest) s R) : WR P ops (⟨d, .call c, ty, pos, af, none⟩ :: rest) s R := h
theorem q_callG {c : Call} {gd : Nat × Bool} (h : WR P ops (⟨d, .call c, ty, pos, af, some gd⟩ :: rest) s R) : WR P ops (⟨d, .call c, ty, pos, af, some gd⟩ :: rest) s R := h
theorem q_cond {c : Operand} {a b : Code} (h : W P D n0 (.cond c a b) s K) : W P D n0 (.cond c a b) s K := h
theorem q_ret {fn : Func} {r : AVal} {H' : HB} {e : AExit} (h : Ret P fn r H' e s) : Ret P fn r H' e s := h
theorem q_retP {fn : Func} {r : AVal} {e : AExit} (h : RetP P fn r e s) : RetP P fn r e s := h
theorem q_bt {b : Bool} (h : b = true) : b = true := h
theorem q_VOk {α : Type} {z : Nat} {F : α → List FVal} {V : α → List SC} (h : VOk z F V) : VOk z F V := h
theorem q_and {p q : Prop} (h1 : p) (h2 : q) : p ∧ q := ⟨h1, h2⟩
theorem q_eqN {a b : Nat} (h : a = b) : a = b := h
theorem q_AgS0 {l : SL} : AgS l [] := trivial
theorem q_AgS {d : Nat} {e x : SE} {l r : SL} (h : lk l d = some e) (h1 : ELe e x) (h2 : AgS l r) : AgS l ((d, x) :: r) := ⟨⟨e, h, h1⟩, h2⟩
end
theorem bq : (∀ (p : Prop) (i : Decidable p), (@decide p i = true) = p) ∧ (∀ (p : Prop) (i : Decidable p), (@decide p i = false) = ¬ p) ∧ (∀ a b : Bool, ((a && b) = true) = (a = true ∧ b = true)) ∧ (∀ a b : Bool, ((a || b) = true) = (a = true ∨ b = true)) ∧
  (∀ a b : Bool, ((a && b) = false) = (a = false ∨ b = false)) ∧ (∀ a b : Bool, ((a || b) = false) = (a = false ∧ b = false)) ∧ (∀ a : Bool, ((!a) = true) = (a = false)) ∧ (∀ a : Bool, ((!a) = false) = (a = true)) ∧ (∀ p : Prop, (¬ ¬ p) = p) ∧ ((true = true) = True) ∧ ((false = true) = False) ∧ ((true = false) = False) ∧ ((false = false) = True) ∧
  ((¬ True) = False) ∧ ((¬ False) = True) ∧ (∀ p : Prop, (p ∧ True) = p) ∧ (∀ p : Prop, (True ∧ p) = p) ∧ (∀ p : Prop, (p ∧ False) = False) ∧ (∀ p : Prop, (False ∧ p) = False) ∧ (∀ p : Prop, (p ∨ True) = True) ∧ (∀ p : Prop, (True ∨ p) = True) ∧ (∀ p : Prop, (p ∨ False) = p) ∧ (∀ p : Prop, (False ∨ p) = p) :=
 ⟨fun _ _ => by simp, fun _ _ => by simp, fun _ _ => by simp, fun _ _ => by simp, fun a b => by cases a <;> cases b <;> simp, fun _ _ => by simp, fun _ => by simp, fun _ => by simp, fun _ => by simp, by simp, by simp, by simp, by simp, by simp, by simp, fun _ => by simp, fun _ => by simp, fun _ => by simp, fun _ => by simp, fun _ => by simp, fun _ => by simp, fun _ => by simp, fun _ => by simp⟩
def CI (t b : Bool) (q : Prop) : Prop := t = b → q
def CRB (ops : Array Oper) (a : List Cl) : Prop := critB ops a.reverse = true
theorem q_CRB {ops : Array Oper} {a : List Cl} (h : critB ops a.reverse = true) : CRB ops a := h
section
variable {P : Program} {T : Tb} {E : El} {n0 : Nat}
def Rg.K : Rg → St → Prop
 | .plain K => K
 | .drawn _ K => K
 | .seq _ _ => fun _ => True
def unG (o : Oper) : Bool :=
 match o.guard with
 | none => true
 | some _ => false
theorem unG_eq {o : Oper} (h : unG o = true) : o.guard = none := by
 unfold unG at h
 split at h
 ·assumption
 ·cases h
def wOps (P : Program) (T : Tb) (E : El) (ops : Array Oper) : List Oper → SL → SH → Rg → (SL → SH → Option Prop) → Option Prop
 | [], l, H, R, k => match R with
  | .plain _ => k l H
  | .drawn a _ => match k l H with
   | some q => some (CRB ops a ∧ q)
   | none => none
  | .seq a K => some (K a (SS l H))
 | o :: os, l, H, R, k => match step T E ops l H o with
  | some ⟨l', H', cl, p⟩ => match R with
   | .plain K => match wOps P T E ops os l' H' (.plain K) k with
    | some q => some (p ∧ q)
    | none => none
   | .drawn a K => match wOps P T E ops os l' H' (.drawn (cl :: a) K) k with
    | some q => some (p ∧ q)
    | none => none
   | .seq a K => match unG o with
    | true => match wOps P T E ops os l' H' (.seq (cl :: a) K) k with
     | some q => some (p ∧ q)
     | none => none
    | false => none
  | none => some (WR P ops (o :: os) (SS l H) R)
theorem wOps_ok (O : T.Ok P) (hE : E.Ok P) {ops : Array Oper} {q : Prop} : ∀ {rest : List Oper} {l : SL} {H : SH} {R : Rg} {k : SL → SH → Option Prop}, wOps P T E ops rest l H R k = some q → q → (∀ l H q, k l H = some q → q → R.K (SS l H)) → WR P ops rest (SS l H) R
 | [], l, H, R, k, h, hq, hk => by
  unfold wOps at h
  split at h
  ·exact WR_nil (hk l H _ h hq)
  ·split at h
   ·rename_i q0 h0
    injection h with h; subst h
    exact WR_nilD hq.1 (hk l H _ h0 hq.2)
   ·cases h
  ·injection h with h; subst h
   exact WR_nilS hq
 | o :: os, l, H, R, k, h, hq, hk => by
  unfold wOps at h
  split at h
  ·rename_i l' H' cl p hs
   split at h
   ·split at h
    ·rename_i q0 h0
     injection h with h; subst h
     exact step_ok O hE hs (.inr rfl) hq.1 (wOps_ok O hE h0 hq.2 hk)
    ·cases h
   ·split at h
    ·rename_i q0 h0
     injection h with h; subst h
     exact step_ok O hE hs (.inr rfl) hq.1 (wOps_ok O hE h0 hq.2 hk)
    ·cases h
   ·split at h
    ·rename_i hg
     split at h
     ·rename_i q0 h0
      injection h with h; subst h
      exact step_ok O hE hs (.inl (unG_eq hg)) hq.1 (wOps_ok O hE h0 hq.2 fun _ _ _ _ _ => trivial)
     ·cases h
    ·cases h
  ·injection h with h; subst h
   exact hq
def wSeq (k1 : SL → SH → Option Prop) (kev : AExit → SL → SH → Option Prop) : AExit → SL → SH → Option Prop
 | .normal, l, H => k1 l H
 | .exit i, l, H => kev (.exit i) l H
 | .ret, l, H => kev .ret l H
def wBlock (id : Nat) (kev : AExit → SL → SH → Option Prop) : AExit → SL → SH → Option Prop
 | .normal, l, H => kev .normal l H
 | .exit j, l, H => match Nat.beq j id with
  | true => kev .normal l H
  | false => kev (.exit j) l H
 | .ret, l, H => kev .ret l H
def isMk (o : Oper) : Bool :=
 match o.op with
 | .alloc .. => true
 | .box .. => true
 | .makeSlice .. => true
 | _ => false
def oneMk : List Oper → Bool
 | [] => false
 | o :: l => match isMk o with
  | true => true
  | false => oneMk l
def twoMk : List Oper → Bool
 | [] => false
 | o :: l => match isMk o with
  | true => oneMk l
  | false => twoMk l
def wC (P : Program) (T : Tb) (E : El) (n0 : Nat) : Code → SL → SH → (AExit → St → Prop) → (AExit → SL → SH → Option Prop) → Option Prop
 | .skip, l, H, K, kev => kev .normal l H
 | .region _ ops false, l, H, K, kev => wOps P T E ops ops.toList l H (.plain (K .normal)) (kev .normal)
 | .region id ops true, l, H, K, kev => match twoMk ops.toList with
  | true => some (W P (DR P) n0 (.region id ops true) (SS l H) K)
  | false => wOps P T E ops ops.toList l H (.drawn [] (K .normal)) (kev .normal)
 | .seq a b, l, H, K, kev => wC P T E n0 a l H (seqK P (DR P) n0 b K) (wSeq (fun l H => wC P T E n0 b l H K kev) kev)
 | .cond c a b, l, H, K, kev => match evU l c with
  | some (.c (.c (.f (.v (.bool t))))) => match wC P T E n0 a l H K kev with
   | some qa => match wC P T E n0 b l H K kev with
    | some qb => some (CI t true qa ∧ CI t false qb)
    | none => none
   | none => none
  | _ => none
 | .block id c, l, H, K, kev => wC P T E n0 c l H (blockK id K) (wBlock id kev)
 | .loop c, l, H, K, kev => some (W P (DR P) n0 (.loop c) (SS l H) K)
 | .exit id, l, H, K, kev => kev (.exit id) l H
 | .ret, l, H, K, kev => kev .ret l H
 | _, _, _, _, _ => none
theorem wC_ok (O : T.Ok P) (hE : E.Ok P) {q : Prop} : ∀ (c : Code) {q : Prop} {l : SL} {H : SH} {K : AExit → St → Prop} {kev : AExit → SL → SH → Option Prop}, wC P T E n0 c l H K kev = some q → q → (∀ e l H q, kev e l H = some q → q → K e (SS l H)) → W P (DR P) n0 c (SS l H) K
 | .skip, q, l, H, K, kev, h, hq, hk => W_skip (hk _ _ _ _ h hq)
 | .region _ ⟨ops⟩ false, q, l, H, K, kev, h, hq, hk => W_region (WOps_WR (wOps_ok O hE h hq (fun l H q h1 h2 => hk _ _ _ _ h1 h2)))
 | .region _ ⟨ops⟩ true, q, l, H, K, kev, h, hq, hk => by
  unfold wC at h
  split at h
  ·injection h with h; subst h
   exact hq
  ·exact W_draw (WOpsD_WR (wOps_ok O hE h hq (fun l H q h1 h2 => hk _ _ _ _ h1 h2)))
 | .seq a b, q, l, H, K, kev, h, hq, hk => W_seq (wC_ok O hE (q := q) a h hq (fun e l H q h1 h2 => by
   cases e with
   | normal => exact seqK_n (wC_ok O hE (q := q) b h1 h2 hk)
   | exit i => exact seqK_e (hk _ _ _ _ h1 h2)
   | ret => exact seqK_r (hk _ _ _ _ h1 h2)))
 | .cond c a b, q, l, H, K, kev, h, hq, hk => by
  unfold wC at h
  split at h
  ·rename_i t ht
   split at h
   ·rename_i qa ha
    split at h
    ·rename_i qb hb
     injection h with h; subst h
     exact X_cond ht (fun e => wC_ok O hE (q := qa) a ha (hq.1 e) hk) (fun e => wC_ok O hE (q := qb) b hb (hq.2 e) hk)
    ·cases h
   ·cases h
  ·cases h
 | .block id c, q, l, H, K, kev, h, hq, hk => W_block (wC_ok O hE (q := q) c h hq (fun e l H q h1 h2 => by
   cases e with
   | normal => exact blockK_n (hk _ _ _ _ h1 h2)
   | exit j =>
    unfold wBlock at h1
    simp only at h1
    split at h1
    ·rename_i hj
     exact blockK_e (Nat.eq_of_beq_eq_true hj) (hk _ _ _ _ h1 h2)
    ·rename_i hj
     exact blockK_o (fun e => by subst e; rw [Nat.beq_refl] at hj; cases hj) (hk _ _ _ _ h1 h2)
   | ret => exact blockK_r (hk _ _ _ _ h1 h2)))
 | .loop c, q, l, H, K, kev, h, hq, hk => by
  unfold wC at h
  injection h with h; subst h
  exact hq
 | .exit id, q, l, H, K, kev, h, hq, hk => W_exit (hk _ _ _ _ h hq)
 | .ret, q, l, H, K, kev, h, hq, hk => W_ret (hk _ _ _ _ h hq)
 | .rangeFunc .., q, l, H, K, kev, h, hq, hk => by unfold wC at h; cases h
 | .scope .., q, l, H, K, kev, h, hq, hk => by unfold wC at h; cases h
 | .label .., q, l, H, K, kev, h, hq, hk => by unfold wC at h; cases h
 | .goto .., q, l, H, K, kev, h, hq, hk => by unfold wC at h; cases h
 | .refuse .., q, l, H, K, kev, h, hq, hk => by unfold wC at h; cases h
def leaf (K : AExit → St → Prop) (e : AExit) (l : SL) (H : SH) : Option Prop := some (K e (SS l H))
def leafR (K : St → Prop) (l : SL) (H : SH) : Option Prop := some (K (SS l H))
def notLoop : Code → Bool
 | .loop _ => false
 | .region _ ops true => match twoMk ops.toList with
  | true => false
  | false => true
 | _ => true
theorem wC_go (O : T.Ok P) (hE : E.Ok P) {c : Code} {l : SL} {H : SH} {K : AExit → St → Prop} {q : Prop} (hn : notLoop c = true) (h : wC P T E n0 c l H K (leaf K) = some q) (hq : q) : W P (DR P) n0 c (SS l H) K :=
 wC_ok O hE (q := q) c h hq (fun e l H q h1 h2 => by injection h1 with h1; subst h1; exact h2)
def notCall (ops : Array Oper) (T : Tb) (E : El) (l : SL) (H : SH) : List Oper → Bool
 | [] => true
 | o :: _ => match step T E ops l H o with
  | some _ => true
  | none => false
end
inductive Red : Prop → Prop → Prop where
 | sn {P : Program} {D : Array Oper → St → (St → Prop) → Prop} {n0 : Nat} {b : Code} {K : AExit → St → Prop} {s : St} : Red (seqK P D n0 b K .normal s) (W P D n0 b s K)
 | sr {P : Program} {D : Array Oper → St → (St → Prop) → Prop} {n0 : Nat} {b : Code} {K : AExit → St → Prop} {s : St} : Red (seqK P D n0 b K .ret s) (K .ret s)
 | se {P : Program} {D : Array Oper → St → (St → Prop) → Prop} {n0 : Nat} {b : Code} {K : AExit → St → Prop} {s : St} {i : Nat} : Red (seqK P D n0 b K (.exit i) s) (K (.exit i) s)
 | bn {id : Nat} {K : AExit → St → Prop} {s : St} : Red (blockK id K .normal s) (K .normal s)
 | br {id : Nat} {K : AExit → St → Prop} {s : St} : Red (blockK id K .ret s) (K .ret s)
 | be {id : Nat} {K : AExit → St → Prop} {s : St} : Red (blockK id K (.exit id) s) (K .normal s)
 | le {n0 : Nat} {α : Type} {st : α → St} {Inv : α → Prop} {μ : α → Nat} {x : α} {K : AExit → St → Prop} {s : St} {i : Nat} : Red (LoopK n0 st Inv μ x K (.exit i) s) (K (.exit i) s)
 | lr {n0 : Nat} {α : Type} {st : α → St} {Inv : α → Prop} {μ : α → Nat} {x : α} {K : AExit → St → Prop} {s : St} : Red (LoopK n0 st Inv μ x K .ret s) (K .ret s)
 | xr {n0 : Nat} {α β : Type} {st : α → St} {Inv : α → Prop} {μ : α → Nat} {x : α} {id : Nat} {stX : β → St} {InvX : β → Prop} {K : AExit → St → Prop} {s : St} : Red (LoopX n0 st Inv μ x id stX InvX K .ret s) (K .ret s)
 | pp {P : Program} {ops : Array Oper} {l : List Oper} {s : St} {c : Cl} {K : St → Prop} : Red (WR P ops l s ((Rg.plain K).push c)) (WR P ops l s (.plain K))
 | pd {P : Program} {ops : Array Oper} {l : List Oper} {s : St} {c : Cl} {a : List Cl} {K : St → Prop} : Red (WR P ops l s ((Rg.drawn a K).push c)) (WR P ops l s (.drawn (c :: a) K))
 | ps {P : Program} {ops : Array Oper} {l : List Oper} {s : St} {c : Cl} {a : List Cl} {K : List Cl → St → Prop} : Red (WR P ops l s ((Rg.seq a K).push c)) (WR P ops l s (.seq (c :: a) K))
 | kp {K : St → Prop} {s : St} : Red ((Rg.plain K).K s) (K s)
 | kd {a : List Cl} {K : St → Prop} {s : St} : Red ((Rg.drawn a K).K s) (K s)
theorem Red.o {A B : Prop} (h : Red A B) (b : B) : A := by
 cases h with
 | sn => exact seqK_n b
 | sr => exact seqK_r b
 | se => exact seqK_e b
 | bn => exact blockK_n b
 | br => exact blockK_r b
 | be => exact blockK_e rfl b
 | le => exact LoopK_e b
 | lr => exact LoopK_r b
 | xr => exact LoopX_r b
 | pp => exact WR_pp b
 | pd => exact WR_pd b
 | ps => exact WR_ps b
 | kp => exact b
 | kd => exact b
section
variable {P : Program} {D : Array Oper → St → (St → Prop) → Prop} {n0 : Nat} {c : Code} {s : St} {K : AExit → St → Prop} {t b : Bool} {q : Prop}
theorem q_W (h : W P D n0 c s K) : W P D n0 c s K := h
theorem q_CI (h : CI t b q) : CI t b q := h
theorem blockK_o' {id j : Nat} {K : AExit → St → Prop} (e : Nat.beq j id = false) (h : K (.exit j) s) : blockK id K (.exit j) s := blockK_o (fun x => by subst x; rw [Nat.beq_refl] at e; cases e) h
theorem LoopX_e' {α β : Type} {st : α → St} {Inv : α → Prop} {μ : α → Nat} {x : α} {id i : Nat} {stX : β → St} {InvX : β → Prop} (e : Nat.beq i id = false) (h : K (.exit i) s) : LoopX n0 st Inv μ x id stX InvX K (.exit i) s := LoopX_e (fun x => by subst x; rw [Nat.beq_refl] at e; cases e) h
end
def wR1 (P : Program) (T : Tb) (E : El) (ops : Array Oper) (rest : List Oper) (l : SL) (H : SH) (R : Rg) : Option Prop :=
 match rest with
 | [] => wOps P T E ops [] l H R (leafR R.K)
 | o :: os => match step T E ops l H o with
  | some _ => wOps P T E ops (o :: os) l H R (leafR R.K)
  | none => none
theorem wR1_go {P : Program} {T : Tb} {E : El} (O : T.Ok P) (hE : E.Ok P) {ops : Array Oper} {rest : List Oper} {l : SL} {H : SH} {R : Rg} {q : Prop} (h : wR1 P T E ops rest l H R = some q) (hq : q) : WR P ops rest (SS l H) R := by
 have h2 : wOps P T E ops rest l H R (leafR R.K) = some q := by
  unfold wR1 at h
  split at h
  ·exact h
  ·split at h
   ·exact h
   ·cases h
 exact wOps_ok O hE h2 hq (fun l H q h1 h2 => by injection h1 with h1; subst h1; exact h2)
def wC1 (P : Program) (T : Tb) (E : El) (n0 : Nat) (c : Code) (l : SL) (H : SH) (K : AExit → St → Prop) : Option Prop :=
 match notLoop c with
 | true => wC P T E n0 c l H K (leaf K)
 | false => none
theorem wC1_go {P : Program} {T : Tb} {E : El} {n0 : Nat} (O : T.Ok P) (hE : E.Ok P) {c : Code} {l : SL} {H : SH} {K : AExit → St → Prop} {q : Prop} (h : wC1 P T E n0 c l H K = some q) (hq : q) : W P (DR P) n0 c (SS l H) K := by
 unfold wC1 at h
 split at h
 ·rename_i hn; exact wC_go O hE hn h hq
 ·cases h
def resE (T : Tb) (l : SL) (H : SH) (rs : List ResultVar) (e : AExit) : Option (List ST) :=
 match e with
 | .exit _ => none
 | _ => resV T l H rs
theorem resE_eq {T : Tb} {l : SL} {H : SH} {rs : List ResultVar} {e : AExit} {ys : List ST} (h : resE T l H rs e = some ys) : resV T l H rs = some ys ∧ (e = .normal ∨ e = .ret) := by
 cases e with
 | normal => exact ⟨h, .inl rfl⟩
 | ret => exact ⟨h, .inr rfl⟩
 | exit i => cases h
def fzE (T : Tb) (l : SL) (H : SH) (rs : List ResultVar) (e : AExit) : Option SX :=
 match e with
 | .exit _ => none
 | _ => fzR T l H rs
theorem fzE_eq {T : Tb} {l : SL} {H : SH} {rs : List ResultVar} {e : AExit} {x : SX} (h : fzE T l H rs e = some x) : fzR T l H rs = some x ∧ (e = .normal ∨ e = .ret) := by
 cases e with
 | normal => exact ⟨h, .inl rfl⟩
 | ret => exact ⟨h, .inr rfl⟩
 | exit i => cases h
inductive Wk : Prop → Prop → Prop where
 | a0 {l : SL} : Wk (AgS l []) True
 | hn {H : SH} : Wk (HLe H []) True
 | ho {x : Option SB} {H G : SH} : Wk (HLe (x :: H) (none :: G)) (HLe H G)
 | hc {cs ds : List SC} {H G : SH} : Wk (HLe (some (.cells cs) :: H) (some (.cells ds) :: G)) (SLe cs ds ∧ HLe H G)
 | he {α : Type} {z : Nat} {F : α → List FVal} {V : α → List SC} {M : List FVal → Option α} {d : α} {l l' : List α} {H G : SH} : Wk (HLe (some (.els z F V M d l) :: H) (some (.els z F V M d l') :: G)) (l = l' ∧ HLe H G)
 | sn : Wk (SLe [] []) True
 | sc {x y : SC} {l m : List SC} : Wk (SLe (x :: l) (y :: m)) (CLe x y ∧ SLe l m)
 | er {x : SE} : Wk (ELe x x) True
 | ec {x y : SC} : Wk (ELe (.v (.c x)) (.v (.c y))) (known y = true ∧ CLe x y)
 | lr {x : SC} : Wk (CLe x x) True
 | la {x : SC} : Wk (CLe x (.c .any)) True
 | ln : Wk (CLe (.c (.f .nils)) (.c (.f (.row [] 0)))) True
 | lns {α : Type} {z : Nat} {F : α → List FVal} {V : α → List SC} {d : α} : Wk (CLe (.c (.f .nils)) (.row z F V d [])) True
 | lnt {z : Nat} : Wk (CLe (.c (.f .nils)) (.c (.tip z [] 0))) True
 | lnts {α : Type} {z : Nat} {F : α → List FVal} {V : α → List SC} {M : List FVal → Option α} {d : α} : Wk (CLe (.c (.f .nils)) (.tipr z F V M d [])) True
 | lt {α : Type} {z n : Nat} {cs : List FVal} {F : α → List FVal} {V : α → List SC} {M : List FVal → Option α} {d : α} {l : List α} : Wk (CLe (.c (.tip z cs n)) (.tipr z F V M d l)) (cs = l.flatMap F ∧ n = l.length)
 | ltr {α : Type} {z z' n : Nat} {cs : List FVal} {F : α → List FVal} {V : α → List SC} {d : α} {l : List α} : Wk (CLe (.c (.tip z cs n)) (.row z' F V d l)) (cs = l.flatMap F ∧ n = l.length)
 | lrow {α : Type} {z n : Nat} {cs : List FVal} {F : α → List FVal} {V : α → List SC} {d : α} {l : List α} : Wk (CLe (.c (.f (.row cs n))) (.row z F V d l)) (cs = l.flatMap F ∧ n = l.length)
 | ltro {α : Type} {z z' : Nat} {F : α → List FVal} {V V' : α → List SC} {M : List FVal → Option α} {d d' : α} {l l' : List α} : Wk (CLe (.tipr z F V M d l) (.row z' F V' d' l')) (l = l')
 | lrows {α : Type} {z : Nat} {F : α → List FVal} {V : α → List SC} {d : α} {l l' : List α} : Wk (CLe (.row z F V d l) (.row z F V d l')) (l = l')
 | ltips {α : Type} {z : Nat} {F : α → List FVal} {V : α → List SC} {M M' : List FVal → Option α} {d : α} {l l' : List α} : Wk (CLe (.tipr z F V M d l) (.tipr z F V M' d l')) (l = l')
 | li {k : IntKind} {a b : Int} : Wk (CLe (.c (.f (.v (.int k a)))) (.c (.f (.v (.int k b))))) (a = b)
 | lb {a b : Bool} : Wk (CLe (.c (.f (.v (.bool a)))) (.c (.f (.v (.bool b))))) (a = b)
 | ls {a b : ByteArray} : Wk (CLe (.c (.f (.v (.string a)))) (.c (.f (.v (.string b))))) (a = b)
 | larr {b off n n' m m' : Nat} : Wk (CLe (.c (.arr b off n m)) (.c (.arr b off n' m'))) (n = n' ∧ m = m')
 | tn {H : SH} : Wk (TkEq H []) True
 | tno {H G : SH} : Wk (TkEq (none :: H) (none :: G)) (TkEq H G)
 | tc {cs ds : List SC} {H G : SH} : Wk (TkEq (some (.cells cs) :: H) (some (.cells ds) :: G)) (SEqL cs ds ∧ TkEq H G)
 | te {α : Type} {z : Nat} {F : α → List FVal} {V : α → List SC} {M : List FVal → Option α} {d : α} {l l' : List α} {H G : SH} : Wk (TkEq (some (.els z F V M d l) :: H) (some (.els z F V M d l') :: G)) (l = l' ∧ TkEq H G)
 | qn : Wk (SEqL [] []) True
 | qc {x y : SC} {l m : List SC} : Wk (SEqL (x :: l) (y :: m)) (CEq x y ∧ SEqL l m)
 | pn : Wk (TEqL [] []) True
 | pc {x y : SC} {l m : List ST} : Wk (TEqL (.c x :: l) (.c y :: m)) (CEq x y ∧ TEqL l m)
 | pa {x y : List SC} {l m : List ST} : Wk (TEqL (.agg x :: l) (.agg y :: m)) (SEqL x y ∧ TEqL l m)
 | cr {x : SC} : Wk (CEq x x) True
 | ci {k : IntKind} {a b : Int} : Wk (CEq (.c (.f (.v (.int k a)))) (.c (.f (.v (.int k b))))) (a = b)
 | cb {a b : Bool} : Wk (CEq (.c (.f (.v (.bool a)))) (.c (.f (.v (.bool b))))) (a = b)
 | cs {a b : ByteArray} : Wk (CEq (.c (.f (.v (.string a)))) (.c (.f (.v (.string b))))) (a = b)
 | crows {α : Type} {z : Nat} {F : α → List FVal} {V : α → List SC} {d : α} {l l' : List α} : Wk (CEq (.row z F V d l) (.row z F V d l')) (l = l')
 | crow {α : Type} {z n : Nat} {cs : List FVal} {F : α → List FVal} {V : α → List SC} {d : α} {l : List α} : Wk (CEq (.c (.f (.row cs n))) (.row z F V d l)) (cs = l.flatMap F ∧ n = l.length)
 | ctips {α : Type} {z : Nat} {F : α → List FVal} {V : α → List SC} {M M' : List FVal → Option α} {d : α} {l l' : List α} : Wk (CEq (.tipr z F V M d l) (.tipr z F V M' d l')) (l = l')
 | ctip {α : Type} {z n : Nat} {cs : List FVal} {F : α → List FVal} {V : α → List SC} {M : List FVal → Option α} {d : α} {l : List α} : Wk (CEq (.c (.tip z cs n)) (.tipr z F V M d l)) (cs = l.flatMap F ∧ n = l.length)
 | craw {cs cs' : List FVal} {n n' : Nat} : Wk (CEq (.c (.f (.row cs n))) (.c (.f (.row cs' n')))) (cs = cs' ∧ n = n')
 | carr {b off n n' m m' : Nat} : Wk (CEq (.c (.arr b off n m)) (.c (.arr b off n' m'))) (n = n' ∧ m = m')
theorem Wk.o {A B : Prop} (h : Wk A B) (b : B) : A := by
 cases h with
 | a0 => trivial
 | hn => exact .nil _
 | ho => exact .none b
 | hc => exact .cells b.1 b.2
 | he => exact .els b.1 b.2
 | sn => exact .nil
 | sc => exact .cons b.1 b.2
 | er => exact ELe.refl _
 | ec => exact ELe.c b.1 b.2
 | lr => exact CLe.refl _
 | la => exact CLe.any _
 | ln => exact CLe.nil_row
 | lns => exact CLe.nil_rowS
 | lnt => exact CLe.nil_tip
 | lnts => exact CLe.nil_tipS
 | lt => exact CLe.tip b.1 b.2
 | ltr => exact CLe.tip_row b.1 b.2
 | lrow => exact CLe.row b.1 b.2
 | ltro => exact CLe.tipr_row b
 | lrows => exact CLe.rows b
 | ltips => exact CLe.tips b
 | li => exact CLe.int b
 | lb => exact CLe.bool b
 | ls => exact CLe.str b
 | larr => exact CLe.arr b.1 b.2
 | tn => exact .nil _
 | tno => exact .none b
 | tc => exact .cells b.1 b.2
 | te => exact .els b.1 b.2
 | qn => exact .nil
 | qc => exact .cons b.1 b.2
 | pn => exact .nil
 | pc => exact .c b.1 b.2
 | pa => exact .agg b.1 b.2
 | cr => exact CEq.refl _
 | ci => exact CEq.int b
 | cb => exact CEq.bool b
 | cs => exact CEq.str b
 | crows => exact CEq.rows b
 | crow => exact CEq.row b.1 b.2
 | ctips => exact CEq.tips b
 | ctip => exact CEq.tip b.1 b.2
 | craw => exact CEq.raw b.1 b.2
 | carr => exact CEq.arr b.1 b.2
section
variable {P : Program} {ops : Array Oper} {s : St}
def opsAt (ops : Array Oper) (l : List Nat) : List Oper := l.map fun i => ops.toList.getD i default
def pickL (os : List Oper) : List Nat → Option (List Oper)
 | [] => some []
 | i :: l => match nth0 os i with
  | some o => match pickL os l with
   | some r => some (o :: r)
   | none => none
  | none => none
theorem pickL_eq {os : List Oper} : ∀ {l : List Nat} {r : List Oper}, pickL os l = some r → r = opsAt os.toArray l
 | [], r, h => by injection h with h; subst h; rfl
 | i :: l, r, h => by
  unfold pickL at h
  split at h
  ·rename_i o ho
   split at h
   ·rename_i r' hr
    injection h with h; subst h
    rw [pickL_eq hr]
    rw [nth0_get] at ho
    simp [opsAt, List.getD_eq_getElem?_getD, ho]
   ·cases h
  ·cases h
theorem WOpsX_run {K : List Cl → St → Prop} : ∀ (l : List Nat) (s : St) (acc : List Cl), (∀ i ∈ l, i < ops.size) → WOpsX P ops (opsAt ops l) s acc K → ∃ (cl : List Cl) (s' : St), cl.length = l.length ∧ K (cl.reverse ++ acc) s' ∧ Run P ops (l.zip cl) s s'
 | [], s, acc, _, h => ⟨[], s, rfl, h, rfl⟩
 | i :: l, s, acc, hi, h => by
  obtain ⟨c, s1, h1, h2⟩ := WOp_ex h
  obtain ⟨cl, s', e1, e2, e3⟩ := WOpsX_run l s1 (c :: acc) (fun j hj => hi j (List.mem_cons_of_mem _ hj)) h2
  refine ⟨c :: cl, s', by simp [e1], by simpa using e2, _, s1, ?_, h1, e3⟩
  have hlt := hi i (List.mem_cons_self ..)
  show ops[i]? = some (ops.toList.getD i default)
  rw [List.getD_eq_getElem?_getD, Array.getElem?_toList, Array.getElem?_eq_getElem hlt]
  rfl
def pairsB (ops : Array Oper) : List (Nat × Cl) → Bool
 | [] => true
 | p :: r => r.all (rel ops p) && pairsB ops r
theorem pairsB_eq : ∀ {l : List (Nat × Cl)}, pairsB ops l = true → l.Pairwise fun p q => rel ops p q = true
 | [], _ => .nil
 | p :: r, h => by
  unfold pairsB at h
  rw [Bool.and_eq_true] at h
  exact .cons (List.all_eq_true.1 h.1) (pairsB_eq h.2)
def twoB (ops : Array Oper) (pre : List Nat) (A B : Nat) (suf : List Nat) (cp c1 c2 : List Cl) : Bool :=
 match c1, c2 with
 | cA :: cB :: r1, cB' :: cA' :: r2 => pairsB ops (pre.zip cp ++ (B, cB) :: suf.zip r1) && pairsB ops (pre.zip cp ++ (A, cA') :: suf.zip r2) && (pre.zip cp).all (fun p => rel ops p (A, cA)) && (pre.zip cp).all (fun p => rel ops p (B, cB'))
 | _, _ => false
def splitB (ops : Array Oper) (pre : List Nat) (A B : Nat) (suf : List Nat) : Bool :=
 edgesB ops && (pre ++ A :: B :: suf).all (fun i => decide (i < ops.size)) && (List.range ops.size).all (fun i => (pre ++ A :: B :: suf).contains i) && decide (pre ++ A :: B :: suf).Nodup && suf.all (fun i => needs ops i A B)
def TB (b : Bool) : Prop := b = true
theorem q_TB {b : Bool} (h : b = true) : TB b := h
def LB (n : Nat) (s : St) : Prop := n + 1 < s.H.length
def RK (K : St → Prop) (n : Nat) (s : St) : Prop := K (s.rn n)
theorem q_LB {n : Nat} {s : St} (h : LB n s) : LB n s := h
theorem q_RK {K : St → Prop} {n : Nat} {s : St} (h : RK K n s) : RK K n s := h
theorem zip_map_fst {α β : Type _} : ∀ (l : List α) (m : List β), l.length = m.length → (l.zip m).map Prod.fst = l
 | [], _, _ => rfl
 | a :: l, [], h => by cases h
 | a :: l, b :: m, h => by simp only [List.zip_cons_cons, List.map_cons, zip_map_fst l m (by simpa using h)]
theorem W_two {n0 : Nat} {id : Nat} {K : AExit → St → Prop} (pre : List Nat) (A B : Nat) (suf : List Nat) (n : Nat) {l : SL} {H : SH} {os o1 o2 o3 : List Oper} (hs : splitB os.toArray pre A B suf = true) (hn : Nat.ble H.length n = true) (p1 : pickL os pre = some o1) (p2 : pickL os (A :: B :: suf) = some o2) (p3 : pickL os (B :: A :: suf) = some o3)
  (h : WR P os.toArray o1 (SS l H) (.seq [] fun cp sp => WR P os.toArray o2 sp (.seq [] fun c1 sE => K .normal sE ∧ WR P os.toArray o3 sp (.seq [] fun c2 sE2 => TB (twoB os.toArray pre A B suf cp.reverse c1.reverse c2.reverse) ∧ LB n sE2 ∧ RK (K .normal) n sE2)))) : W P (DR P) n0 (.region id os.toArray true) (SS l H) K := by
 rw [pickL_eq p1, pickL_eq p2, pickL_eq p3] at h
 refine .inr (.inl ?_)
 simp only [splitB, Bool.and_eq_true, List.all_eq_true, decide_eq_true_eq] at hs
 obtain ⟨⟨⟨⟨he, hm1⟩, hm2⟩, hnd⟩, hdep⟩ := hs
 have i1 : ∀ i ∈ pre, i < os.toArray.size := fun i hi => hm1 i (by simp [hi])
 have i2 : ∀ i ∈ A :: B :: suf, i < os.toArray.size := fun i hi => hm1 i (by simp only [List.mem_append]; exact .inr hi)
 have i3 : ∀ i ∈ B :: A :: suf, i < os.toArray.size := fun i hi => i2 i (by simp only [List.mem_cons] at hi ⊢; rcases hi with h | h | h <;> simp [h])
 obtain ⟨cp, sp, lp, kp, rp⟩ := WOpsX_run pre _ [] i1 h.out
 rw [List.append_nil] at kp
 obtain ⟨c1, sE, l1, ⟨kE, k1⟩, r1⟩ := WOpsX_run (A :: B :: suf) _ [] i2 kp.out
 obtain ⟨c2, sE2, l2, k2, r2⟩ := WOpsX_run (B :: A :: suf) _ [] i3 k1.out
 simp only [List.append_nil, List.reverse_reverse] at k2
 obtain ⟨kt, kl, kr⟩ := k2
 have kt : twoB os.toArray pre A B suf cp c1 c2 = true := kt
 match c1, c2, l1, l2, kt, r1, r2 with
 | cA :: cB :: q1, cB' :: cA' :: q2, l1, l2, kt, r1, r2 =>
  simp only [twoB, Bool.and_eq_true, List.all_eq_true] at kt
  obtain ⟨⟨⟨t1, t2⟩, t3⟩, t4⟩ := kt
  have lq1 : suf.length = q1.length := by simpa using l1.symm
  have lq2 : suf.length = q2.length := by simpa using l2.symm
  have eqm : (pre.zip cp ++ (A, cA) :: (B, cB) :: suf.zip q1).map Prod.fst = pre ++ A :: B :: suf := by
   rw [List.map_append, List.map_cons, List.map_cons, zip_map_fst _ _ lp.symm, zip_map_fst _ _ lq1]
  refine ⟨pre.zip cp, (A, cA), (B, cB), (A, cA'), (B, cB'), suf.zip q1, suf.zip q2, sp, sE, sE2, n, ⟨he, by rw [eqm]; exact hnd, fun i => ?_, rfl, rfl, by rw [zip_map_fst _ _ lq1, zip_map_fst _ _ lq2], pairsB_eq t1, pairsB_eq t2, t3, t4, fun q hq => ?_⟩, rp, r1, r2, kE, kr, by rw [SS_H, denH_len]; exact Nat.le_of_ble_eq_true hn, kl⟩
  ·rw [eqm]
   exact ⟨fun hi => hm1 i hi, fun hi => by have := hm2 i (List.mem_range.2 hi); simpa using this⟩
  ·exact hdep q.1 (List.of_mem_zip hq).1
theorem LB_SS {n : Nat} {l : SL} {H : SH} (h : Nat.blt (n + 1) H.length = true) : LB n (SS l H) := by
 show n + 1 < (SS l H).H.length
 rw [SS_H, denH_len]
 exact Nat.le_of_ble_eq_true h
def swL (n : Nat) : List Nat := List.range n ++ [n + 1, n]
def swG (n : Nat) : SH := List.replicate (n + 2) none
theorem sw_eq (n : Nat) : sig (swG n).length (swL n) = tp n := by
 funext b
 unfold sig tp swL swG
 rw [List.length_replicate, List.getD_eq_getElem?_getD]
 rcases Nat.lt_or_ge b n with h | h
 ·rw [List.getElem?_append_left (by simpa using h), List.getElem?_range h, if_neg (by omega), if_neg (by omega)]
  rfl
 ·rw [List.getElem?_append_right (by simpa using h), List.length_range]
  by_cases h1 : b = n
  ·subst h1; simp
  ·by_cases h2 : b = n + 1
   ·subst h2
    rw [if_neg h1, if_pos rfl, Nat.add_sub_cancel_left]
    rfl
   ·rw [if_neg h1, if_neg h2, List.getElem?_eq_none (by simp; omega)]
    simp
    omega
def renE (σ : List Nat) : SL → Option SL
 | [] => some []
 | (d, .v x) :: l => match renV σ x with
  | some y => match renE σ l with
   | some r => some ((d, .v y) :: r)
   | none => none
  | none => none
 | (d, .g b x) :: l => match renV σ x with
  | some y => match renE σ l with
   | some r => some ((d, .g b y) :: r)
   | none => none
  | none => none
 | (d, .u) :: l => match renE σ l with
  | some r => some ((d, .u) :: r)
  | none => none
def swB (n : Nat) (H : SH) : Option SH :=
 match n, H with
 | 0, a :: b :: H => some (b :: a :: H)
 | n + 1, x :: H => match swB n H with
  | some r => some (x :: r)
  | none => none
 | _, _ => none
theorem renE_sl {n : Nat} : ∀ {l r : SL} {H H' : SH}, renE (sigL (swG n) (swL n)) l = some r → ∀ i, ((SS l H).sl i).ren (tp n) = (SS r H').sl i
 | [], r, H, H', h, i => by injection h with h; subst h; rfl
 | (d, e) :: l, r, H, H', h, i => by
  have go : ∀ {e' : SE} {r' : SL}, e.den.ren (tp n) = e'.den → renE (sigL (swG n) (swL n)) l = some r' → ((SS ((d, e) :: l) H).sl i).ren (tp n) = (SS ((d, e') :: r') H').sl i := fun {e' r'} h1 h2 => by
   have ih := renE_sl (H := H) (H' := H') h2 i
   by_cases hd : i = d
   ·subst hd
    rw [show (SS ((i, e) :: l) H).sl i = e.den from upd_same _ _ _, show (SS ((i, e') :: r') H').sl i = e'.den from upd_same _ _ _]
    exact h1
   ·rw [show (SS ((d, e) :: l) H).sl i = (SS l H).sl i from upd_other _ _ hd, show (SS ((d, e') :: r') H').sl i = (SS r' H').sl i from upd_other _ _ hd]
    exact ih
  cases e with
  | v x =>
   unfold renE at h
   split at h
   ·rename_i y hy
    split at h
    ·rename_i r' hr
     injection h with h; subst h
     refine go ?_ hr
     have := renV_den hy
     rw [sw_eq] at this
     exact this
    ·cases h
   ·cases h
  | g b x =>
   unfold renE at h
   split at h
   ·rename_i y hy
    split at h
    ·rename_i r' hr
     injection h with h; subst h
     refine go ?_ hr
     have := renV_den hy
     rw [sw_eq] at this
     cases b
     ·rfl
     ·exact this
    ·cases h
   ·cases h
  | u =>
   unfold renE at h
   split at h
   ·rename_i r' hr
    injection h with h; subst h
    exact go rfl hr
   ·cases h
theorem swB_eq : ∀ {n : Nat} {H r : SH}, swB n H = some r → swapH n (denH H) = denH r := by
 intro n H r h
 have key : ∀ (n : Nat) (H r : SH), swB n H = some r → r.length = H.length ∧ ∀ b, b < H.length → r[b]? = H[tp n b]? := by
  intro n
  induction n with
  | zero =>
   intro H r h
   match H, h with
   | a :: b :: H, h =>
    injection h with h; subst h
    refine ⟨rfl, fun i hi => ?_⟩
    match i with
    | 0 => rfl
    | 1 => rfl
    | i + 2 =>
     have : tp 0 (i + 2) = i + 2 := by unfold tp; rw [if_neg (by omega), if_neg (by omega)]
     rw [this]
     rfl
  | succ n ih =>
   intro H r h
   match H, h with
   | x :: H, h =>
    unfold swB at h
    split at h
    ·rename_i r' hr
     injection h with h; subst h
     obtain ⟨k1, k2⟩ := ih H r' hr
     refine ⟨by simp [k1], fun i hi => ?_⟩
     match i with
     | 0 => rfl
     | i + 1 =>
      have : tp (n + 1) (i + 1) = tp n i + 1 := by unfold tp; (repeat' split) <;> omega
      rw [this, List.getElem?_cons_succ, List.getElem?_cons_succ]
      exact k2 i (by simpa using hi)
    ·cases h
 obtain ⟨k1, k2⟩ := key n H r h
 apply List.ext_getElem?
 intro b
 unfold swapH
 rw [List.getElem?_map]
 rcases Nat.lt_or_ge b H.length with hb | hb
 ·rw [List.getElem?_range (by rw [denH_len]; exact hb)]
  simp only [denH, Option.map_some, List.getElem?_map]
  rw [k2 b hb]
  cases hx : H[tp n b]? with
  | none =>
   exfalso
   have := k2 b hb
   rw [hx, List.getElem?_eq_none_iff] at this
   omega
  | some y => rfl
 ·rw [List.getElem?_eq_none (by rw [List.length_range, denH_len]; exact hb), List.getElem?_eq_none (by rw [denH_len]; omega)]
  rfl
def rnS (n : Nat) (l : SL) (H : SH) : Option (SL × SH) :=
 match renE (sigL (swG n) (swL n)) l with
 | some l' => match swB n H with
  | some H1 => match renHs (sigL (swG n) (swL n)) H1 with
   | some H' => some (l', H')
   | none => none
  | none => none
 | none => none
theorem RK_SS {K : St → Prop} {n : Nat} {l l' : SL} {H H' : SH} (h : rnS n l H = some (l', H')) (k : K (SS l' H')) : RK K n (SS l H) := by
 unfold rnS at h
 split at h
 ·rename_i l1 h1
  split at h
  ·rename_i H1 h2
   split at h
   ·rename_i H2 h3
    injection h with h; injection h with e1 e2; subst e1; subst e2
    have : (SS l H).rn n = SS l1 H2 := by
     have e : ((SS l H).rn n).H = (SS l1 H2).H := by
      show (swapH n (SS l H).H).map (renB (tp n)) = _
      rw [SS_H, SS_H, swB_eq h2]
      have := renHs_den h3
      rw [sw_eq] at this
      exact this
     have e2 : ((SS l H).rn n).sl = (SS l1 H2).sl := funext fun i => renE_sl h1 i
     cases hx : (SS l H).rn n
     cases hy : SS l1 H2
     rw [hx, hy] at e e2
     simp only at e e2
     rw [e, e2]
    unfold RK
    rw [this]
    exact k
   ·cases h
  ·cases h
 ·cases h
end
end Go.Proofs.Ythnfliopmjpdmaa.Av
namespace Go.Proofs.Ythnfliopmjpdmaa
def letN (c : Nat) : Bool := (decide (65 ≤ c) && decide (c ≤ 90)) || (decide (97 ≤ c) && decide (c ≤ 122))
def digN (c : Nat) : Bool := decide (48 ≤ c) && decide (c ≤ 57)
def okN (c : Nat) : Bool := letN c || digN c || c == 95
def nameB (s : ByteArray) : Bool := decide (1 ≤ s.size) && decide (s.size ≤ 12) && letN (s.data.toList.headD 0).toNat && s.data.toList.all (fun c => okN c.toNat)
theorem letN_ok {c : Nat} (h : letN c = true) : okN c = true := by unfold okN; rw [h]; rfl
theorem headD_at (s : ByteArray) (h : 0 < s.size) : s.data.toList.headD 0 = s[0] := by
 obtain ⟨⟨l⟩⟩ := s
 cases l with
 | nil => simp [ByteArray.size] at h
 | cons a r => rfl
theorem bytes_len (s : ByteArray) : s.data.toList.length = s.size := rfl
theorem bytes_at (s : ByteArray) (k : Nat) (h : k < s.size) : s.data.toList[k]'h = s[k] := rfl
theorem nameB_mk {s : ByteArray} (h0 : 0 < s.size) (h1 : s.size ≤ 12) (h2 : letN s[0].toNat = true) (h3 : s.data.toList.all (fun c => okN c.toNat) = true) : nameB s = true := by
 unfold nameB
 rw [headD_at s h0, h2, h3]
 simp; omega
theorem nameB_no {s : ByteArray} (k : Nat) (h : k < s.size) (h1 : okN s[k].toNat = false) : nameB s = false := by
 unfold nameB
 have : s.data.toList.all (fun c => okN c.toNat) = false := by
  rw [Bool.eq_false_iff]
  intro hall
  have := List.all_eq_true.1 hall s[k] (by rw [← bytes_at s k h]; exact List.getElem_mem _)
  rw [h1] at this; cases this
 rw [this]; simp
theorem nameB_no0 {s : ByteArray} (h0 : 0 < s.size) (h2 : letN s[0].toNat = false) : nameB s = false := by
 unfold nameB
 rw [headD_at s h0, h2]; simp
theorem nameB_short {s : ByteArray} (h : s.size < 1 ∨ 12 < s.size) : nameB s = false := by
 unfold nameB
 rcases h with h | h
 ·rw [show decide (1 ≤ s.size) = false from decide_eq_false (by omega)]; simp
 ·rw [show decide (s.size ≤ 12) = false from decide_eq_false (by omega)]; simp
theorem all_upto (s : ByteArray) (k : Nat) (h : k < s.size) (p : UInt8 → Bool) : (s.data.toList.take (k + 1)).all p = ((s.data.toList.take k).all p && p s[k]) := by
 rw [List.take_succ_eq_append_getElem (by exact h), List.all_append]
 simp [bytes_at s k h]
def eqS (a b : ByteArray) : Bool := a.data == b.data
theorem eqS_iff (a b : ByteArray) : eqS a b = true ↔ a = b := by
 unfold eqS
 rw [beq_iff_eq]
 exact ⟨fun h => by cases a; cases b; cases h; rfl, fun h => by rw [h]⟩
def memS (s : ByteArray) (l : List ByteArray) : Bool := l.any (eqS s)
def nameErr (seen : List ByteArray) (s : ByteArray) : Int := if nameB s = false then 3 else if memS s seen = true then 5 else 0
def namesErr (seen : List ByteArray) : List ByteArray → Int
 | [] => 0
 | s :: r => if nameErr seen s = 0 then namesErr (seen ++ [s]) r else nameErr seen s
structure Sec where
 nm : ByteArray
 len : Int
 lim : Int
 grd : Int
 stn : Int
structure Lnk where
 a : Int
 ae : Int
 b : Int
 be : Int
 pt : Int
 ps : Int
structure Lay where
 sts : List ByteArray
 pts : List ByteArray
 secs : List Sec
 lnks : List Lnk
def secB (nst : Nat) (s : Sec) : Bool := decide (1 ≤ s.len ∧ s.len ≤ 400 ∧ 1000 ≤ s.lim ∧ s.lim ≤ 100000 ∧ -40 ≤ s.grd ∧ s.grd ≤ 40 ∧ -1 ≤ s.stn ∧ s.stn < nst)
theorem secB_of {nst : Nat} {s : Sec} (h : secB nst s = true) : 1 ≤ s.len ∧ s.len ≤ 400 ∧ 1000 ≤ s.lim ∧ s.lim ≤ 100000 ∧ -40 ≤ s.grd ∧ s.grd ≤ 40 ∧ -1 ≤ s.stn ∧ s.stn < nst := by simpa [secB] using h
def secsErr (nst : Nat) (seen : List ByteArray) : List Sec → Int
 | [] => 0
 | s :: r => if nameErr seen s.nm = 0 then (if secB nst s = true then secsErr nst (seen ++ [s.nm]) r else 4) else nameErr seen s.nm
def hasE (k : Lnk) (x : Int × Int) : Bool := decide ((k.a = x.1 ∧ k.ae = x.2) ∨ (k.b = x.1 ∧ k.be = x.2))
def linkB (nsec npt : Nat) (k : Lnk) : Bool := decide (0 ≤ k.a ∧ k.a < nsec ∧ 0 ≤ k.b ∧ k.b < nsec ∧ 0 ≤ k.ae ∧ k.ae ≤ 1 ∧ 0 ≤ k.be ∧ k.be ≤ 1 ∧ -1 ≤ k.pt ∧ k.pt < npt ∧ 0 ≤ k.ps ∧ k.ps ≤ 1 ∧ (k.pt ≠ -1 ∨ k.ps = 0))
theorem linkB_of {nsec npt : Nat} {k : Lnk} (h : linkB nsec npt k = true) : 0 ≤ k.a ∧ k.a < nsec ∧ 0 ≤ k.b ∧ k.b < nsec ∧ 0 ≤ k.ae ∧ k.ae ≤ 1 ∧ 0 ≤ k.be ∧ k.be ≤ 1 ∧ -1 ≤ k.pt ∧ k.pt < npt ∧ 0 ≤ k.ps ∧ k.ps ≤ 1 ∧ (k.pt ≠ -1 ∨ k.ps = 0) := by simpa [linkB] using h
def atE (prev : List Lnk) (x : Int × Int) : List Lnk := prev.filter (fun k => hasE k x)
def fitB (k : Lnk) : List Lnk → Bool
 | [] => true
 | [j] => decide (k.pt ≠ -1 ∧ k.pt = j.pt ∧ k.ps ≠ j.ps)
 | _ => false
def linkErr (nsec npt : Nat) (prev : List Lnk) (k : Lnk) : Int :=
 if linkB nsec npt k = false then 4 else if (k.a, k.ae) = (k.b, k.be) then 1 else if prev.any (fun j => hasE j (k.a, k.ae) && hasE j (k.b, k.be)) then 5
 else if fitB k (atE prev (k.a, k.ae)) = false ∨ fitB k (atE prev (k.b, k.be)) = false then 11 else 0
def linksErr (nsec npt : Nat) (prev : List Lnk) : List Lnk → Int
 | [] => 0
 | k :: r => if linkErr nsec npt prev k = 0 then linksErr nsec npt (prev ++ [k]) r else linkErr nsec npt prev k
def orErr (a b : Int) : Int := if a = 0 then b else a
def layErr (L : Lay) : Int :=
 if 24 < L.sts.length ∨ 48 < L.pts.length ∨ 96 < L.secs.length ∨ 192 < L.lnks.length then 7 else if L.secs.length = 0 then 1
 else orErr (namesErr [] L.sts) (orErr (namesErr [] L.pts) (orErr (secsErr L.sts.length [] L.secs) (linksErr L.secs.length L.pts.length [] L.lnks)))
end Go.Proofs.Ythnfliopmjpdmaa
namespace Go.Proofs.Ythnfliopmjpdmaa.Av
def fS (s : ByteArray) : FVal := .v (.string s)
def fI (n : Int) : FVal := .v (.int .i64 n)
def fStr (s : ByteArray) : List FVal := [fS s]
def fInt (n : Int) : List FVal := [fI n]
def fTrk (t : List Int) : List FVal := [.row (t.flatMap fInt) t.length]
def fSec (s : Sec) : List FVal := [fS s.nm, fI s.len, fI s.lim, fI s.grd, fI s.stn]
def fLnk (k : Lnk) : List FVal := [fI k.a, fI k.ae, fI k.b, fI k.be, fI k.pt, fI k.ps]
abbrev xI (n : Int) : SC := .c (.f (.v (.int .i64 n)))
abbrev xS (s : ByteArray) : SC := .c (.f (.v (.string s)))
abbrev xB (b : Bool) : SC := .c (.f (.v (.bool b)))
def vStr (s : ByteArray) : List SC := [xS s]
def vInt (n : Int) : List SC := [xI n]
abbrev rInt (l : List Int) : SC := .row 1 fInt vInt 0 l
abbrev rStr (l : List ByteArray) : SC := .row 1 fStr vStr ⟨#[]⟩ l
def vTrk (t : List Int) : List SC := [rInt t]
def vSec (s : Sec) : List SC := [xS s.nm, xI s.len, xI s.lim, xI s.grd, xI s.stn]
def vLnk (k : Lnk) : List SC := [xI k.a, xI k.ae, xI k.b, xI k.be, xI k.pt, xI k.ps]
def sec0 : Sec := ⟨⟨#[]⟩, 0, 0, 0, 0⟩
def lnk0 : Lnk := ⟨0, 0, 0, 0, 0, 0⟩
abbrev rSec (l : List Sec) : SC := .row 5 fSec vSec sec0 l
abbrev rLnk (l : List Lnk) : SC := .row 6 fLnk vLnk lnk0 l
abbrev tInt (l : List Int) : SC := .tipr 1 fInt vInt (fun _ => none) 0 l
abbrev tStr (l : List ByteArray) : SC := .tipr 1 fStr vStr (fun _ => none) ⟨#[]⟩ l
abbrev tSec (l : List Sec) : SC := .tipr 5 fSec vSec (fun _ => none) sec0 l
abbrev tLnk (l : List Lnk) : SC := .tipr 6 fLnk vLnk (fun _ => none) lnk0 l
abbrev tTrk (l : List (List Int)) : SC := .tipr 1 fTrk vTrk (fun _ => none) [] l
abbrev pB (b : Nat) : SC := .c (.ptr b 0)
abbrev vI (n : Int) : SV := .c (xI n)
abbrev vS (s : ByteArray) : SV := .c (xS s)
abbrev vB (b : Bool) : SV := .c (xB b)
abbrev sI (d : Nat) (n : Int) : Nat × SE := (d, .v (.c (.c (.f (.v (.int .i64 n))))))
abbrev sB (d : Nat) (b : Bool) : Nat × SE := (d, .v (.c (.c (.f (.v (.bool b))))))
abbrev sS (d : Nat) (b : ByteArray) : Nat × SE := (d, .v (.c (.c (.f (.v (.string b))))))
abbrev sC (d : Nat) (x : SC) : Nat × SE := (d, .v (.c x))
abbrev sA (d : Nat) (l : List SC) : Nat × SE := (d, .v (.agg l))
def mStr : List FVal → Option ByteArray
 | [.v (.string s)] => some s
 | _ => none
def mInt : List FVal → Option Int
 | [.v (.int .i64 n)] => some n
 | _ => none
def mSec : List FVal → Option Sec
 | [.v (.string a), .v (.int .i64 b), .v (.int .i64 c), .v (.int .i64 d), .v (.int .i64 e)] => some ⟨a, b, c, d, e⟩
 | _ => none
def mLnk : List FVal → Option Lnk
 | [.v (.int .i64 a), .v (.int .i64 b), .v (.int .i64 c), .v (.int .i64 d), .v (.int .i64 e), .v (.int .i64 f)] => some ⟨a, b, c, d, e, f⟩
 | _ => none
abbrev eStr : TyE := ⟨ByteArray, 1, fStr, vStr, mStr, ⟨#[]⟩⟩
abbrev eInt : TyE := ⟨Int, 1, fInt, vInt, mInt, 0⟩
abbrev eSec : TyE := ⟨Sec, 5, fSec, vSec, mSec, sec0⟩
abbrev eLnk : TyE := ⟨Lnk, 6, fLnk, vLnk, mLnk, lnk0⟩
abbrev uStr (l : List ByteArray) : SC := .tipr 1 fStr vStr mStr ⟨#[]⟩ l
abbrev uSec (l : List Sec) : SC := .tipr 5 fSec vSec mSec sec0 l
abbrev uLnk (l : List Lnk) : SC := .tipr 6 fLnk vLnk mLnk lnk0 l
def vLay (L : Lay) : SV := .agg [rStr L.sts, rStr L.pts, rSec L.secs, rLnk L.lnks]
def lay0 : Lay := ⟨[], [], [], []⟩
def fLay (L : Lay) : List FVal := [.row (L.sts.flatMap fStr) L.sts.length, .row (L.pts.flatMap fStr) L.pts.length, .row (L.secs.flatMap fSec) L.secs.length, .row (L.lnks.flatMap fLnk) L.lnks.length]
def vLays (L : Lay) : List SC := [rStr L.sts, rStr L.pts, rSec L.secs, rLnk L.lnks]
abbrev rLay (l : List Lay) : SC := .row 4 fLay vLays lay0 l
def t_sz : List (Nat × Bool × Nat) := [(2, false, 1), (3, false, 1), (4, false, 1), (5, false, 1), (6, false, 1), (7, true, 4), (8, true, 4), (9, false, 1), (10, false, 1), (11, false, 1), (12, false, 1), (13, true, 2), (14, true, 2), (15, false, 1), (16, false, 1), (17, false, 1), (18, true, 1), (19, true, 1), (21, false, 1), (22, false, 1), (25, false, 1), (26, false, 1), (27, false, 1), (28, true, 4), (29, true, 4), (31, false, 1), (34, false, 1), (37, false, 1), (41, false, 1), (42, false, 1), (51, true, 4), (53, true, 2), (55, true, 5), (56, true, 5), (57, true, 6), (58, true, 6), (59, false, 1), (60, true, 7), (61, true, 7), (62, false, 1), (64, false, 1), (66, false, 1), (67, false, 1), (70, false, 1), (71, false, 1), (72, true, 3), (73, true, 3), (79, false, 1), (87, true, 2), (88, true, 2), (93, false, 1), (94, true, 3), (95, true, 3), (97, false, 1), (99, true, 2), (100, true, 2), (103, false, 1), (107, true, 2), (108, true, 2), (112, true, 4), (113, true, 4), (114, true, 0), (115, true, 0), (116, true, 0), (117, false, 1), (118, false, 1), (120, false, 1), (121, false, 1), (122, false, 1), (123, true, 11), (124, true, 11), (125, false, 1)]
def t_fo : List (Nat × List (Option Nat)) := [(7, [some 0, some 1, some 2, some 3]), (8, [some 0, some 1, some 2, some 3]), (13, [some 0, some 1]), (14, [some 0, some 1]), (18, [some 0]), (19, [some 0]), (28, [some 0, some 1, some 2, some 3]), (29, [some 0, some 1, some 2, some 3]), (55, [some 0, some 1, some 2, some 3, some 4]), (56, [some 0, some 1, some 2, some 3, some 4]), (57, [some 0, some 1, some 2, some 3, some 4, some 5]), (58, [some 0, some 1, some 2, some 3, some 4, some 5]), (60, [some 0, some 4, some 5, some 6]), (61, [some 0, some 4, some 5, some 6]), (72, [some 0, some 1, some 2]), (73, [some 0, some 1, some 2]), (87, [some 0, some 1]), (88, [some 0, some 1]), (94, [some 0, some 1, some 2]), (95, [some 0, some 1, some 2]), (99, [some 0, some 1]), (100, [some 0, some 1]), (107, [some 0, some 1]), (108, [some 0, some 1]), (112, [some 0, some 1, some 2, some 3]), (113, [some 0, some 1, some 2, some 3]), (115, [none]), (116, [none]), (123, [some 0, some 1, some 2, some 3, some 4, some 5, some 6, some 7, some 8, some 9, some 10]), (124, [some 0, some 1, some 2, some 3, some 4, some 5, some 6, some 7, some 8, some 9, some 10])]
def t_fa : List (Nat × List (Nat × Option (Bool × Nat))) := [(7, [(0, some (false, 1)), (1, some (false, 1)), (2, some (false, 1)), (3, some (false, 1))]), (8, [(0, some (false, 1)), (1, some (false, 1)), (2, some (false, 1)), (3, some (false, 1))]), (13, [(0, some (false, 1)), (1, some (false, 1))]), (14, [(0, some (false, 1)), (1, some (false, 1))]), (18, [(0, some (false, 1))]), (19, [(0, some (false, 1))]), (28, [(0, some (false, 1)), (1, some (false, 1)), (2, some (false, 1)), (3, some (false, 1))]), (29, [(0, some (false, 1)), (1, some (false, 1)), (2, some (false, 1)), (3, some (false, 1))]), (55, [(0, some (false, 1)), (1, some (false, 1)), (2, some (false, 1)), (3, some (false, 1)), (4, some (false, 1))]), (56, [(0, some (false, 1)), (1, some (false, 1)), (2, some (false, 1)), (3, some (false, 1)), (4, some (false, 1))]), (57, [(0, some (false, 1)), (1, some (false, 1)), (2, some (false, 1)), (3, some (false, 1)), (4, some (false, 1)), (5, some (false, 1))]), (58, [(0, some (false, 1)), (1, some (false, 1)), (2, some (false, 1)), (3, some (false, 1)), (4, some (false, 1)), (5, some (false, 1))]), (60, [(0, some (true, 4)), (4, some (false, 1)), (5, some (false, 1)), (6, some (false, 1))]), (61, [(0, some (true, 4)), (4, some (false, 1)), (5, some (false, 1)), (6, some (false, 1))]), (72, [(0, some (false, 1)), (1, some (false, 1)), (2, some (false, 1))]), (73, [(0, some (false, 1)), (1, some (false, 1)), (2, some (false, 1))]), (87, [(0, some (false, 1)), (1, some (false, 1))]), (88, [(0, some (false, 1)), (1, some (false, 1))]), (94, [(0, some (false, 1)), (1, some (false, 1)), (2, some (false, 1))]), (95, [(0, some (false, 1)), (1, some (false, 1)), (2, some (false, 1))]), (99, [(0, some (false, 1)), (1, some (false, 1))]), (100, [(0, some (false, 1)), (1, some (false, 1))]), (107, [(0, some (false, 1)), (1, some (false, 1))]), (108, [(0, some (false, 1)), (1, some (false, 1))]), (112, [(0, some (false, 1)), (1, some (false, 1)), (2, some (false, 1)), (3, some (false, 1))]), (113, [(0, some (false, 1)), (1, some (false, 1)), (2, some (false, 1)), (3, some (false, 1))]), (115, [(0, some (true, 0))]), (116, [(0, some (true, 0))]), (123, [(0, some (false, 1)), (1, some (false, 1)), (2, some (false, 1)), (3, some (false, 1)), (4, some (false, 1)), (5, some (false, 1)), (6, some (false, 1)), (7, some (false, 1)), (8, some (false, 1)), (9, some (false, 1)), (10, some (false, 1))]), (124, [(0, some (false, 1)), (1, some (false, 1)), (2, some (false, 1)), (3, some (false, 1)), (4, some (false, 1)), (5, some (false, 1)), (6, some (false, 1)), (7, some (false, 1)), (8, some (false, 1)), (9, some (false, 1)), (10, some (false, 1))])]
def t_es : List (Nat × Nat) := [(25, 1), (26, 5), (27, 6), (34, 1), (37, 4), (41, 1), (59, 1), (97, 1)]
def t_ms : List (Nat × Nat × Nat × List SC) := [(25, 1, 16, [.c (.f (.v (.string ⟨#[]⟩)))]), (26, 5, 48, [.c (.f (.v (.string ⟨#[]⟩))), .c (.f (.v (.int .i64 0))), .c (.f (.v (.int .i64 0))), .c (.f (.v (.int .i64 0))), .c (.f (.v (.int .i64 0)))]), (27, 6, 48, [.c (.f (.v (.int .i64 0))), .c (.f (.v (.int .i64 0))), .c (.f (.v (.int .i64 0))), .c (.f (.v (.int .i64 0))), .c (.f (.v (.int .i64 0))), .c (.f (.v (.int .i64 0)))]), (34, 1, 8, [.c (.f (.v (.int .i64 0)))]), (37, 4, 96, [.c (.f .nils), .c (.f .nils), .c (.f .nils), .c (.f .nils)]), (41, 1, 1, [.c (.f (.v (.int .u8 0)))]), (59, 1, 24, [.c (.f .nils)]), (97, 1, 24, [.c (.f .nils)])]
def t_bi : List (Nat × List SC × Pl) := [(7, [.c (.f (.v (.int .i64 0))), .c (.f (.v (.int .i64 0))), .c (.f (.v (.bool false))), .c (.f (.v (.int .u8 0)))], .fields [(0, 1), (1, 1), (2, 1), (3, 1)]), (8, [.c (.f (.v (.int .i64 0))), .c (.f (.v (.int .i64 0))), .c (.f (.v (.bool false))), .c (.f (.v (.int .u8 0)))], .fields [(0, 1), (1, 1), (2, 1), (3, 1)]), (13, [.c (.f (.v (.string ⟨#[]⟩))), .c (.f (.v (.int .u64 0)))], .fields [(0, 1), (1, 1)]), (14, [.c (.f (.v (.string ⟨#[]⟩))), .c (.f (.v (.int .u64 0)))], .fields [(0, 1), (1, 1)]), (18, [.c (.f (.v (.pointer none)))], .fields [(0, 1)]), (19, [.c (.f (.v (.pointer none)))], .fields [(0, 1)]), (28, [.c (.f .nils), .c (.f .nils), .c (.f .nils), .c (.f .nils)], .fields [(0, 1), (1, 1), (2, 1), (3, 1)]), (29, [.c (.f .nils), .c (.f .nils), .c (.f .nils), .c (.f .nils)], .fields [(0, 1), (1, 1), (2, 1), (3, 1)]), (51, [.c (.f (.v (.int .i64 0))), .c (.f (.v (.int .i64 0))), .c (.f (.v (.int .i64 0))), .c (.f (.v (.int .i64 0)))], .elems 1), (53, [.c (.f .nils), .c (.f .nils)], .elems 1), (55, [.c (.f (.v (.string ⟨#[]⟩))), .c (.f (.v (.int .i64 0))), .c (.f (.v (.int .i64 0))), .c (.f (.v (.int .i64 0))), .c (.f (.v (.int .i64 0)))], .fields [(0, 1), (1, 1), (2, 1), (3, 1), (4, 1)]), (56, [.c (.f (.v (.string ⟨#[]⟩))), .c (.f (.v (.int .i64 0))), .c (.f (.v (.int .i64 0))), .c (.f (.v (.int .i64 0))), .c (.f (.v (.int .i64 0)))], .fields [(0, 1), (1, 1), (2, 1), (3, 1), (4, 1)]), (57, [.c (.f (.v (.int .i64 0))), .c (.f (.v (.int .i64 0))), .c (.f (.v (.int .i64 0))), .c (.f (.v (.int .i64 0))), .c (.f (.v (.int .i64 0))), .c (.f (.v (.int .i64 0)))], .fields [(0, 1), (1, 1), (2, 1), (3, 1), (4, 1), (5, 1)]), (58, [.c (.f (.v (.int .i64 0))), .c (.f (.v (.int .i64 0))), .c (.f (.v (.int .i64 0))), .c (.f (.v (.int .i64 0))), .c (.f (.v (.int .i64 0))), .c (.f (.v (.int .i64 0)))], .fields [(0, 1), (1, 1), (2, 1), (3, 1), (4, 1), (5, 1)]), (60, [.c (.f .nils), .c (.f .nils), .c (.f .nils), .c (.f .nils), .c (.f .nils), .c (.f .nils), .c (.f .nils)], .fields [(0, 4), (4, 1), (5, 1), (6, 1)]), (61, [.c (.f .nils), .c (.f .nils), .c (.f .nils), .c (.f .nils), .c (.f .nils), .c (.f .nils), .c (.f .nils)], .fields [(0, 4), (4, 1), (5, 1), (6, 1)]), (72, [.c (.f (.v (.string ⟨#[]⟩))), .c (.f (.v (.int .i64 0))), .c (.f (.v (.bool false)))], .fields [(0, 1), (1, 1), (2, 1)]), (73, [.c (.f (.v (.string ⟨#[]⟩))), .c (.f (.v (.int .i64 0))), .c (.f (.v (.bool false)))], .fields [(0, 1), (1, 1), (2, 1)]), (87, [.c (.f .nils), .c (.f (.v (.int .i64 0)))], .fields [(0, 1), (1, 1)]), (88, [.c (.f .nils), .c (.f (.v (.int .i64 0)))], .fields [(0, 1), (1, 1)]), (94, [.c (.f (.v (.string ⟨#[]⟩))), .c (.f (.v (.int .i64 0))), .c (.f (.v (.bool false)))], .fields [(0, 1), (1, 1), (2, 1)]), (95, [.c (.f (.v (.string ⟨#[]⟩))), .c (.f (.v (.int .i64 0))), .c (.f (.v (.bool false)))], .fields [(0, 1), (1, 1), (2, 1)]), (99, [.c (.f (.v (.int .i64 0))), .c (.f (.v (.int .i64 0)))], .fields [(0, 1), (1, 1)]), (100, [.c (.f (.v (.int .i64 0))), .c (.f (.v (.int .i64 0)))], .fields [(0, 1), (1, 1)]), (107, [.c (.f (.v (.int .i64 0))), .c (.f (.v (.int .i64 0)))], .fields [(0, 1), (1, 1)]), (108, [.c (.f (.v (.int .i64 0))), .c (.f (.v (.int .i64 0)))], .fields [(0, 1), (1, 1)]), (112, [.c (.f (.v (.pointer none))), .c (.f (.v (.pointer none))), .c (.f (.v (.pointer none))), .c (.f (.v (.string ⟨#[]⟩)))], .fields [(0, 1), (1, 1), (2, 1), (3, 1)]), (113, [.c (.f (.v (.pointer none))), .c (.f (.v (.pointer none))), .c (.f (.v (.pointer none))), .c (.f (.v (.string ⟨#[]⟩)))], .fields [(0, 1), (1, 1), (2, 1), (3, 1)]), (114, [], .elems 1), (115, [], .fields [(0, 0)]), (116, [], .fields [(0, 0)]), (123, [.c (.f (.v (.int .u64 0))), .c (.f (.v (.int .u64 0))), .c (.f (.v (.int .u32 0))), .c (.f (.v (.int .u8 0))), .c (.f (.v (.int .u8 0))), .c (.f (.v (.int .u8 0))), .c (.f (.v (.int .u8 0))), .c (.f (.v .nilFunc)), .c (.f (.v (.pointer none))), .c (.f (.v (.int .i32 0))), .c (.f (.v (.int .i32 0)))], .fields [(0, 1), (1, 1), (2, 1), (3, 1), (4, 1), (5, 1), (6, 1), (7, 1), (8, 1), (9, 1), (10, 1)]), (124, [.c (.f (.v (.int .u64 0))), .c (.f (.v (.int .u64 0))), .c (.f (.v (.int .u32 0))), .c (.f (.v (.int .u8 0))), .c (.f (.v (.int .u8 0))), .c (.f (.v (.int .u8 0))), .c (.f (.v (.int .u8 0))), .c (.f (.v .nilFunc)), .c (.f (.v (.pointer none))), .c (.f (.v (.int .i32 0))), .c (.f (.v (.int .i32 0)))], .fields [(0, 1), (1, 1), (2, 1), (3, 1), (4, 1), (5, 1), (6, 1), (7, 1), (8, 1), (9, 1), (10, 1)])]
def t_ze : List (Nat × List SC) := [(2, [.c (.f (.v (.int .i64 0)))]), (3, [.c (.f (.v (.int .i64 0)))]), (4, [.c (.f (.v (.bool false)))]), (5, [.c (.f (.v (.int .u8 0)))]), (6, [.c (.f (.v (.int .u8 0)))]), (7, [.c (.f (.v (.int .i64 0))), .c (.f (.v (.int .i64 0))), .c (.f (.v (.bool false))), .c (.f (.v (.int .u8 0)))]), (8, [.c (.f (.v (.int .i64 0))), .c (.f (.v (.int .i64 0))), .c (.f (.v (.bool false))), .c (.f (.v (.int .u8 0)))]), (9, [.c (.f (.v (.string ⟨#[]⟩)))]), (10, [.c (.f (.v (.string ⟨#[]⟩)))]), (11, [.c (.f (.v (.string ⟨#[]⟩)))]), (12, [.c (.f (.v (.int .u64 0)))]), (13, [.c (.f (.v (.string ⟨#[]⟩))), .c (.f (.v (.int .u64 0)))]), (14, [.c (.f (.v (.string ⟨#[]⟩))), .c (.f (.v (.int .u64 0)))]), (15, [.c (.f (.v (.pointer none)))]), (16, [.c (.f (.v (.pointer none)))]), (17, [.c (.f (.v (.pointer none)))]), (18, [.c (.f (.v (.pointer none)))]), (19, [.c (.f (.v (.pointer none)))]), (21, [.c (.f (.v (.int .i32 0)))]), (22, [.c (.f (.v (.int .i64 0)))]), (25, [.c (.f .nils)]), (26, [.c (.f .nils)]), (27, [.c (.f .nils)]), (28, [.c (.f .nils), .c (.f .nils), .c (.f .nils), .c (.f .nils)]), (29, [.c (.f .nils), .c (.f .nils), .c (.f .nils), .c (.f .nils)]), (31, [.c (.f (.v (.int .u32 0)))]), (34, [.c (.f .nils)]), (37, [.c (.f .nils)]), (41, [.c (.f .nils)]), (42, [.c (.f (.v (.int .u64 0)))]), (51, [.c (.f (.v (.int .i64 0))), .c (.f (.v (.int .i64 0))), .c (.f (.v (.int .i64 0))), .c (.f (.v (.int .i64 0)))]), (53, [.c (.f .nils), .c (.f .nils)]), (55, [.c (.f (.v (.string ⟨#[]⟩))), .c (.f (.v (.int .i64 0))), .c (.f (.v (.int .i64 0))), .c (.f (.v (.int .i64 0))), .c (.f (.v (.int .i64 0)))]), (56, [.c (.f (.v (.string ⟨#[]⟩))), .c (.f (.v (.int .i64 0))), .c (.f (.v (.int .i64 0))), .c (.f (.v (.int .i64 0))), .c (.f (.v (.int .i64 0)))]), (57, [.c (.f (.v (.int .i64 0))), .c (.f (.v (.int .i64 0))), .c (.f (.v (.int .i64 0))), .c (.f (.v (.int .i64 0))), .c (.f (.v (.int .i64 0))), .c (.f (.v (.int .i64 0)))]), (58, [.c (.f (.v (.int .i64 0))), .c (.f (.v (.int .i64 0))), .c (.f (.v (.int .i64 0))), .c (.f (.v (.int .i64 0))), .c (.f (.v (.int .i64 0))), .c (.f (.v (.int .i64 0)))]), (59, [.c (.f .nils)]), (60, [.c (.f .nils), .c (.f .nils), .c (.f .nils), .c (.f .nils), .c (.f .nils), .c (.f .nils), .c (.f .nils)]), (61, [.c (.f .nils), .c (.f .nils), .c (.f .nils), .c (.f .nils), .c (.f .nils), .c (.f .nils), .c (.f .nils)]), (62, [.c (.f (.v (.pointer none)))]), (64, [.c (.f (.v (.pointer none)))]), (66, [.c (.f (.v (.pointer none)))]), (67, [.c (.f (.v (.pointer none)))]), (70, [.c (.f (.v (.int .u64 0)))]), (71, [.c (.f (.v (.pointer none)))]), (72, [.c (.f (.v (.string ⟨#[]⟩))), .c (.f (.v (.int .i64 0))), .c (.f (.v (.bool false)))]), (73, [.c (.f (.v (.string ⟨#[]⟩))), .c (.f (.v (.int .i64 0))), .c (.f (.v (.bool false)))]), (87, [.c (.f .nils), .c (.f (.v (.int .i64 0)))]), (88, [.c (.f .nils), .c (.f (.v (.int .i64 0)))]), (93, [.c (.f (.v (.pointer none)))]), (94, [.c (.f (.v (.string ⟨#[]⟩))), .c (.f (.v (.int .i64 0))), .c (.f (.v (.bool false)))]), (95, [.c (.f (.v (.string ⟨#[]⟩))), .c (.f (.v (.int .i64 0))), .c (.f (.v (.bool false)))]), (97, [.c (.f .nils)]), (99, [.c (.f (.v (.int .i64 0))), .c (.f (.v (.int .i64 0)))]), (100, [.c (.f (.v (.int .i64 0))), .c (.f (.v (.int .i64 0)))]), (103, [.c (.f (.v (.pointer none)))]), (107, [.c (.f (.v (.int .i64 0))), .c (.f (.v (.int .i64 0)))]), (108, [.c (.f (.v (.int .i64 0))), .c (.f (.v (.int .i64 0)))]), (112, [.c (.f (.v (.pointer none))), .c (.f (.v (.pointer none))), .c (.f (.v (.pointer none))), .c (.f (.v (.string ⟨#[]⟩)))]), (113, [.c (.f (.v (.pointer none))), .c (.f (.v (.pointer none))), .c (.f (.v (.pointer none))), .c (.f (.v (.string ⟨#[]⟩)))]), (117, [.c (.f (.v (.int .u8 0)))]), (118, [.c (.f (.v (.int .u8 0)))]), (120, [.c (.f (.v (.pointer none)))]), (121, [.c (.f (.v (.int .i32 0)))]), (122, [.c (.f (.v (.int .i32 0)))]), (123, [.c (.f (.v (.int .u64 0))), .c (.f (.v (.int .u64 0))), .c (.f (.v (.int .u32 0))), .c (.f (.v (.int .u8 0))), .c (.f (.v (.int .u8 0))), .c (.f (.v (.int .u8 0))), .c (.f (.v (.int .u8 0))), .c (.f (.v .nilFunc)), .c (.f (.v (.pointer none))), .c (.f (.v (.int .i32 0))), .c (.f (.v (.int .i32 0)))]), (124, [.c (.f (.v (.int .u64 0))), .c (.f (.v (.int .u64 0))), .c (.f (.v (.int .u32 0))), .c (.f (.v (.int .u8 0))), .c (.f (.v (.int .u8 0))), .c (.f (.v (.int .u8 0))), .c (.f (.v (.int .u8 0))), .c (.f (.v .nilFunc)), .c (.f (.v (.pointer none))), .c (.f (.v (.int .i32 0))), .c (.f (.v (.int .i32 0)))]), (125, [.c (.f (.v (.pointer none)))])]
def t_st : List Nat := [9, 10, 11]
def t_it : List (Nat × IntKind) := [(2, .i64), (3, .i64), (5, .u8), (6, .u8), (12, .u64), (21, .i32), (22, .i64), (31, .u32), (42, .u64), (70, .u64), (117, .u8), (118, .u8), (121, .i32), (122, .i32)]
def t_sl : List (Nat × Nat) := [(25, 9), (26, 56), (27, 58), (34, 3), (37, 29), (41, 5), (59, 34), (97, 27)]
theorem eq_56 : EqOk Try.prog 56 [.s, .i, .i, .i, .i] := ⟨by kernel_rfl, fun vs us r h0 => by
 obtain ⟨a0, vs, b0, us, r0, rfl, rfl, h1, rfl⟩ := eqV_s h0
 obtain ⟨a1, vs, b1, us, r1, rfl, rfl, h2, rfl⟩ := eqV_i h1
 obtain ⟨a2, vs, b2, us, r2, rfl, rfl, h3, rfl⟩ := eqV_i h2
 obtain ⟨a3, vs, b3, us, r3, rfl, rfl, h4, rfl⟩ := eqV_i h3
 obtain ⟨a4, vs, b4, us, r4, rfl, rfl, h5, rfl⟩ := eqV_i h4
 obtain ⟨rfl, rfl, rfl⟩ := eqV_nil h5
 intro w
 clear h0
 constructor <;> simp [go_sem] <;> (repeat' split) <;> simp_all⟩
theorem eq_58 : EqOk Try.prog 58 [.i, .i, .i, .i, .i, .i] := ⟨by kernel_rfl, fun vs us r h0 => by
 obtain ⟨a0, vs, b0, us, r0, rfl, rfl, h1, rfl⟩ := eqV_i h0
 obtain ⟨a1, vs, b1, us, r1, rfl, rfl, h2, rfl⟩ := eqV_i h1
 obtain ⟨a2, vs, b2, us, r2, rfl, rfl, h3, rfl⟩ := eqV_i h2
 obtain ⟨a3, vs, b3, us, r3, rfl, rfl, h4, rfl⟩ := eqV_i h3
 obtain ⟨a4, vs, b4, us, r4, rfl, rfl, h5, rfl⟩ := eqV_i h4
 obtain ⟨a5, vs, b5, us, r5, rfl, rfl, h6, rfl⟩ := eqV_i h5
 obtain ⟨rfl, rfl, rfl⟩ := eqV_nil h6
 intro w
 clear h0
 constructor <;> simp [go_sem] <;> (repeat' split) <;> simp_all⟩
theorem eq_95 : EqOk Try.prog 95 [.s, .i, .b] := ⟨by kernel_rfl, fun vs us r h0 => by
 obtain ⟨a0, vs, b0, us, r0, rfl, rfl, h1, rfl⟩ := eqV_s h0
 obtain ⟨a1, vs, b1, us, r1, rfl, rfl, h2, rfl⟩ := eqV_i h1
 obtain ⟨a2, vs, b2, us, r2, rfl, rfl, h3, rfl⟩ := eqV_b h2
 obtain ⟨rfl, rfl, rfl⟩ := eqV_nil h3
 intro w
 clear h0
 constructor <;> simp [go_sem] <;> (repeat' split) <;> simp_all⟩
theorem eq_100 : EqOk Try.prog 100 [.i, .i] := ⟨by kernel_rfl, fun vs us r h0 => by
 obtain ⟨a0, vs, b0, us, r0, rfl, rfl, h1, rfl⟩ := eqV_i h0
 obtain ⟨a1, vs, b1, us, r1, rfl, rfl, h2, rfl⟩ := eqV_i h1
 obtain ⟨rfl, rfl, rfl⟩ := eqV_nil h2
 intro w
 clear h0
 constructor <;> simp [go_sem] <;> (repeat' split) <;> simp_all⟩
theorem eq_108 : EqOk Try.prog 108 [.i, .i] := ⟨by kernel_rfl, fun vs us r h0 => by
 obtain ⟨a0, vs, b0, us, r0, rfl, rfl, h1, rfl⟩ := eqV_i h0
 obtain ⟨a1, vs, b1, us, r1, rfl, rfl, h2, rfl⟩ := eqV_i h1
 obtain ⟨rfl, rfl, rfl⟩ := eqV_nil h2
 intro w
 clear h0
 constructor <;> simp [go_sem] <;> (repeat' split) <;> simp_all⟩
def t_eq : List (Nat × List EK) := [(56, [.s, .i, .i, .i, .i]), (58, [.i, .i, .i, .i, .i, .i]), (95, [.s, .i, .b]), (100, [.i, .i]), (108, [.i, .i])]
def t_cb : List (Nat × Nat) := [(41, 9)]
def tab : Tb := ⟨t_sz, t_fo, t_fa, t_es, t_ms, t_bi, t_ze, t_st, t_it, t_sl, t_eq, t_cb, false⟩
theorem tabOk : tab.Ok Try.prog := ⟨by kernel_rfl, by kernel_rfl, by kernel_rfl, by kernel_rfl, by kernel_rfl, by kernel_rfl, by kernel_rfl, by kernel_rfl, by kernel_rfl, by kernel_rfl, ⟨eq_56, eq_58, eq_95, eq_100, eq_108, trivial⟩, by kernel_rfl⟩
def els : El := ⟨[(25, eStr), (26, eSec), (27, eLnk), (34, eInt)], [(51, 4, eInt)]⟩
theorem elsOk : els.Ok Try.prog := ⟨by kernel_rfl, ⟨⟨fun _ => rfl, by decide⟩, ⟨fun _ => rfl, by decide⟩, ⟨fun _ => rfl, by decide⟩, ⟨fun _ => rfl, by decide⟩, trivial⟩, by kernel_rfl⟩
theorem mixedX : Try.prog.follows .mixedOrders = true := by kernel_rfl
theorem X_run {ops : Array Oper} {rest : List Oper} {l : SL} {H : SH} {R : Rg} {rest' : List Oper} {l' : SL} {H' : SH} {R' : Rg} {p : Prop} (h : run1 tab els ops rest l H R = some ⟨rest', l', H', R', p⟩) (hp : p) (hk : WR Try.prog ops rest' (SS l' H') R') : WR Try.prog ops rest (SS l H) R := run1_ok tabOk elsOk h hp hk
inductive Rex : Prop → Prop → Prop where
 | go {n0 : Nat} {c : Code} {l : SL} {H : SH} {K : AExit → St → Prop} {q : Prop} (h : wC1 Try.prog tab els n0 c l H K = some q) : Rex (W Try.prog (DR Try.prog) n0 c (SS l H) K) q
 | rest {ops : Array Oper} {rest : List Oper} {l : SL} {H : SH} {R : Rg} {q : Prop} (h : wR1 Try.prog tab els ops rest l H R = some q) : Rex (WR Try.prog ops rest (SS l H) R) q
 | ret {fn : Func} {r : SV} {H' : SH} {e : AExit} {l : SL} {H : SH} {ys : List ST} (hy : resE tab l H fn.results.toList e = some ys) : Rex (Ret Try.prog fn r.den (denH H') e (SS l H)) ((packS ys).den = r.den ∧ TkEq H H')
 | retP {fn : Func} {r : SV} {e : AExit} {l : SL} {H : SH} {v : SV} {p : Prop} (hy : fzE tab l H fn.results.toList e = some ⟨[], [(0, .v v)], [], .plain (fun _ => True), p⟩) : Rex (RetP Try.prog fn r.den e (SS l H)) (p ∧ v.den = r.den)
theorem Rex.o {A B : Prop} (h : Rex A B) (b : B) : A := by
 cases h with
 | go h => exact wC1_go tabOk elsOk h b
 | rest h => exact wR1_go tabOk elsOk h b
 | ret hy =>
  obtain ⟨h1, rfl | rfl⟩ := resE_eq hy
  ·exact X_ret tabOk trivial rfl h1 b.1 b.2
  ·exact X_ret tabOk trivial rfl h1 b.1 b.2
 | retP hy =>
  obtain ⟨h1, rfl | rfl⟩ := fzE_eq hy
  ·exact X_retP tabOk trivial rfl h1 b.1 b.2
  ·exact X_retP tabOk trivial rfl h1 b.1 b.2
def pick (v : Int) (n : Nat) : Nat := (v % 18446744073709551616).toNat % n
theorem pick_lt (v : Int) {n : Nat} (h : 0 < n) : pick v n < n := Nat.mod_lt _ h
theorem wrapU64 (v : Int) : IntKind.u64.wrap v = v % 18446744073709551616 := by
 simp only [IntKind.wrap]
 simp [IntKind.bits, IntKind.signed]
theorem pick_eq (v : Int) (n : Nat) (h0 : 0 < n) (hn : n ≤ 9223372036854775807) : (IntKind.u64.wrap v).tmod (IntKind.u64.wrap (n : Int)) = (pick v n : Int) := by
 have e1 : IntKind.u64.wrap (n : Int) = n := by rw [wrapU64]; omega
 rw [e1, wrapU64]
 have h1 : 0 ≤ v % 18446744073709551616 := Int.emod_nonneg _ (by omega)
 obtain ⟨m, hm⟩ := Int.eq_ofNat_of_zero_le h1
 rw [hm, ← Int.ofNat_tmod]
 unfold pick
 rw [hm, Int.toNat_natCast]
theorem pick_ok (v : Int) (n : Nat) (h0 : 0 < n) (hn : n ≤ 9223372036854775807) : OkV Try.prog 18 [vI v, vI n] [] (vI (pick v n)) [] := by
 have e1 : IntKind.u64.wrap (n : Int) = n := by rw [wrapU64]; omega
 have hz : IntKind.u64.wrap (n : Int) ≠ 0 := by rw [e1]; omega
 have e2 := pick_eq v n h0 hn
 have e3 := pick_lt v h0
 refine X_fnP mixedX Try.func18 rfl (by kernel_rfl) (Nat.le_of_ble_eq_true (by kernel_rfl)) (by kernel_rfl) rfl rfl ?_
 simp only [sl0, Nat.zero_add, Nat.reduceAdd]
 repeat' (first|with_reducible (first|refine W_seq ?_|refine seqK_n ?_|refine W_ret ?_|refine W_region (WOps_WR ?_)|refine WR_nil ?_|refine q_and ?_ ?_|exact True.intro|assumption)|((with_reducible apply q_WR);refine X_run rfl ?_ ?_)|((with_reducible apply q_retP);refine X_retP tabOk trivial rfl rfl ?_ ?_)|omega)
 repeat' (first|with_reducible (refine CEq.int ?_)|refine VEq.c ?_|omega)
structure Src where
 l : List Int
 i : Nat
def Src.ok (s : Src) : Prop := s.i ≤ s.l.length ∧ s.l.length ≤ 9223372036854775807
def Src.box (s : Src) : SB := .cells [rInt s.l, xI s.i]
def Src.nx (s : Src) (n : Nat) : Nat := match s.l[s.i]? with
 | some v => pick v n
 | none => 0
def Src.af (s : Src) : Src := if s.i < s.l.length then { s with i := s.i + 1 } else s
theorem Src.nx_lt (s : Src) {n : Nat} (h : 0 < n) : s.nx n < n := by
 unfold Src.nx
 split
 ·exact pick_lt _ h
 ·exact h
theorem Src.af_ok {s : Src} (h : s.ok) : s.af.ok := by
 obtain ⟨h1, h2⟩ := h
 unfold Src.af
 split
 ·exact ⟨by simp only; omega, h2⟩
 ·exact ⟨h1, h2⟩
theorem next_ok (s : Src) (n : Nat) (hs : s.ok) (h0 : 0 < n) (hn : n ≤ 9223372036854775807) : OkV Try.prog 40 [.c (pB 0), vI n] [some s.box] (vI (s.nx n)) [some s.af.box] := by
 obtain ⟨l, i⟩ := s
 obtain ⟨h1, h2⟩ := hs
 simp only at h1 h2
 unfold Src.box Src.nx Src.af
 simp only
 refine X_fn mixedX Try.func40 rfl (by kernel_rfl) (Nat.le_of_ble_eq_true (by kernel_rfl)) (by kernel_rfl) rfl rfl (Nat.le_of_ble_eq_true rfl) rfl rfl ?_
 simp only [sl0, Nat.zero_add, Nat.reduceAdd]
 have hP := pick_ok (l.getD ((i : Int) + 1 - 1).toNat 0) n h0 hn
 repeat' (first|with_reducible (first|refine WR_pd ?_|refine W_seq ?_|refine seqK_n ?_|refine seqK_r ?_|refine W_skip ?_|refine W_ret ?_|refine W_region (WOps_WR ?_)|refine W_draw (WOpsD_WR ?_)|refine WR_nil ?_|refine q_and ?_ ?_|exact True.intro)|((with_reducible apply q_call);refine X_pure (hP) rfl ?_)|((with_reducible apply q_WR);first|refine X_run rfl ?_ ?_|refine WR_nilD (by kernel_rfl) ?_|fail)|((with_reducible apply q_cond);refine X_cond rfl ?_ ?_;all_goals (intro hbq;(try simp only [bq] at hbq);(try (exfalso;omega))))|((with_reducible apply q_ret);refine X_ret tabOk trivial rfl rfl ?_ ?_)|((with_reducible apply q_VOk);exact fun _ => ⟨rfl,rfl⟩)|omega)
 ·rw [List.getElem?_eq_none (by omega)]
  repeat' (first|with_reducible (refine CEq.int ?_)|refine VEq.c ?_|rfl)
 ·rw [if_neg (by omega)]
  repeat' (with_reducible (first|exact TkEq.nil _|refine TkEq.cells ?_ ?_|exact SEqL.nil|refine SEqL.cons ?_ ?_|exact CEq.refl _))
 ·rw [show ((i : Int) + 1 - 1).toNat = ((i : Int)).toNat by omega, ← Int.toNat_natCast i, getD_nth (d := 0) (l := l) (by omega) (by omega)]
  repeat' (first|with_reducible (refine CEq.int ?_)|refine VEq.c ?_|rfl)
 ·rw [if_pos (by omega)]
  repeat' (first|with_reducible (first|exact TkEq.nil _|refine TkEq.cells ?_ ?_|exact SEqL.nil|refine SEqL.cons ?_ ?_|exact CEq.refl _|refine CEq.int ?_)|rfl)
def digits : ByteArray := ⟨#[48, 49, 50, 51, 52, 53, 54, 55, 56, 57]⟩
def nameN (w : ByteArray) (n : Nat) : ByteArray := w ++ digits.extract (n % 10) (n % 10 + 1)
theorem digit_size (n : Nat) : (digits.extract (n % 10) (n % 10 + 1)).size = 1 := by
 rw [ByteArray.size_extract]
 have : digits.size = 10 := rfl
 omega
theorem named_ok (w : ByteArray) (n : Nat) (hw : w.size ≤ 1000) (hn : n ≤ 1000000) : OkV Try.prog 41 [vS w, vI n] [] (vS (nameN w n)) [] := by
 have z : (⟨#[48, 49, 50, 51, 52, 53, 54, 55, 56, 57]⟩ : ByteArray).size = 10 := rfl
 have e1 : ((n : Int) % 10).toNat = n % 10 := by omega
 have e2 : ((n : Int) % 10 + 1).toNat = n % 10 + 1 := by omega
 have hsz := digit_size n
 unfold digits at hsz
 unfold nameN digits
 refine X_fnP mixedX Try.func41 rfl (by kernel_rfl) (Nat.le_of_ble_eq_true (by kernel_rfl)) (by kernel_rfl) rfl rfl ?_
 simp only [sl0, Nat.zero_add, Nat.reduceAdd]
 repeat' (first|with_reducible (first|refine W_seq ?_|refine seqK_n ?_|refine W_ret ?_|refine W_region (WOps_WR ?_)|refine WR_nil ?_|refine q_and ?_ ?_|exact True.intro)|((with_reducible apply q_WR);refine X_run rfl ?_ ?_)|((with_reducible apply q_retP);refine X_retP tabOk trivial rfl rfl ?_ ?_)|omega)
 ·rw [e1, e2, hsz]; omega
 ·rw [e1, e2]
  repeat' (first|with_reducible (exact CEq.refl _)|refine VEq.c ?_)
theorem nameN_size (w : ByteArray) (n : Nat) : (nameN w n).size = w.size + 1 := by
 unfold nameN
 rw [ByteArray.size_append, digit_size]
def Src.sec (s : Src) (nm : ByteArray) (st : Int) : Sec := ⟨nm, 2 + s.nx 9, 5000 + 5000 * s.af.nx 7, s.af.af.nx 21 - 10, st⟩
theorem section_ok (s : Src) (nm : ByteArray) (st : Int) (hs : s.ok) : OkV Try.prog 42 [.c (pB 0), vS nm, vI st] [some s.box] (.agg (vSec (s.sec nm st))) [some s.af.af.af.box] := by
 have k1 := s.nx_lt (n := 9) (by omega)
 have k2 := s.af.nx_lt (n := 7) (by omega)
 have k3 := s.af.af.nx_lt (n := 21) (by omega)
 have h1 := next_ok s 9 hs (by omega) (by omega)
 have h2 := next_ok s.af 7 (Src.af_ok hs) (by omega) (by omega)
 have h3 := next_ok s.af.af 21 (Src.af_ok (Src.af_ok hs)) (by omega) (by omega)
 refine X_fn mixedX Try.func42 rfl (by kernel_rfl) (Nat.le_of_ble_eq_true (by kernel_rfl)) (by kernel_rfl) rfl rfl (Nat.le_of_ble_eq_true rfl) rfl rfl ?_
 simp only [sl0, Nat.zero_add, Nat.reduceAdd]
 repeat' (first|with_reducible (first|refine WR_pp ?_|refine W_seq ?_|refine seqK_n ?_|refine W_ret ?_|refine W_region (WOps_WR ?_)|refine WR_nil ?_|refine q_and ?_ ?_|exact True.intro)|((with_reducible apply q_call);first|refine X_call [0] (h1) rfl rfl rfl rfl rfl rfl rfl rfl rfl rfl rfl rfl rfl ?_|refine X_call [0] (h2) rfl rfl rfl rfl rfl rfl rfl rfl rfl rfl rfl rfl rfl ?_|refine X_call [0] (h3) rfl rfl rfl rfl rfl rfl rfl rfl rfl rfl rfl rfl rfl ?_)|((with_reducible apply q_WR);refine X_run rfl ?_ ?_)|((with_reducible apply q_ret);refine X_ret tabOk trivial rfl rfl ?_ ?_)|omega)
 repeat' (first|with_reducible (first|exact TkEq.nil _|exact SEqL.nil|refine SEqL.cons ?_ ?_|exact CEq.refl _|refine CEq.int ?_|refine CEq.str ?_)|refine VEq.agg ?_|refine TkEq.cells ?_ ?_|refine SEqL.cons ?_ ?_|rfl)
structure Bld where
 L : Lay
 tracks : List (List Int)
 between : List (List Int)
def Bld.box (b : Bld) : SB := .cells [tStr b.L.sts, tStr b.L.pts, tSec b.L.secs, tLnk b.L.lnks, tTrk b.tracks, tTrk b.between, .c (.f .nils)]
structure Bld.small (b : Bld) : Prop where
 s1 : b.L.sts.length ≤ 1000
 s2 : b.L.pts.length ≤ 1000
 s3 : b.L.secs.length ≤ 1000
 s4 : b.L.lnks.length ≤ 1000
def Bld.add (b : Bld) (x : Sec) : Bld := { b with L := { b.L with secs := b.L.secs ++ [x] } }
def Bld.link (b : Bld) (k : Lnk) : Bld := { b with L := { b.L with lnks := b.L.lnks ++ [k] } }
def Bld.pt (b : Bld) : Bld := { b with L := { b.L with pts := b.L.pts ++ [nameN ⟨#[80]⟩ b.L.pts.length] } }
theorem add_ok (b : Bld) (x : Sec) (hb : b.small) : OkV Try.prog 43 [.c (pB 0), .agg (vSec x)] [some b.box] (vI b.L.secs.length) [some (b.add x).box] := by
 have h3 := hb.s3
 refine X_fn mixedX Try.func43 rfl (by kernel_rfl) (Nat.le_of_ble_eq_true (by kernel_rfl)) (by kernel_rfl) rfl rfl (Nat.le_of_ble_eq_true rfl) rfl rfl ?_
 simp only [sl0, Nat.zero_add, Nat.reduceAdd]
 repeat' (first|with_reducible (first|refine W_seq ?_|refine seqK_n ?_|refine W_ret ?_|refine W_region (WOps_WR ?_)|refine W_draw (WOpsD_WR ?_)|refine WR_nil ?_|refine q_and ?_ ?_|exact True.intro)|((with_reducible apply q_WR);first|refine X_run rfl ?_ ?_|refine WR_nilD (by kernel_rfl) ?_|fail)|((with_reducible apply q_ret);refine X_ret tabOk trivial rfl rfl ?_ ?_)|((with_reducible apply q_eqN);rfl)|omega)
 repeat' (first|with_reducible (first|exact TkEq.nil _|exact SEqL.nil|refine SEqL.cons ?_ ?_|exact CEq.refl _|refine CEq.int ?_|refine CEq.tips ?_|refine CEq.tip ?_ ?_)|refine VEq.c ?_|refine TkEq.cells ?_ ?_|rfl|omega)
 all_goals simp [fSec, Bld.add, fS, fI]
theorem link_ok (b : Bld) (p q pt ps : Int) (hb : b.small) : OkV Try.prog 44 [.c (pB 0), vI p, vI q, vI pt, vI ps] [some b.box] (.tup []) [some (b.link ⟨p, 1, q, 0, pt, ps⟩).box] := by
 have h4 := hb.s4
 refine X_fn mixedX Try.func44 rfl (by kernel_rfl) (Nat.le_of_ble_eq_true (by kernel_rfl)) (by kernel_rfl) rfl rfl (Nat.le_of_ble_eq_true rfl) rfl rfl ?_
 simp only [sl0, Nat.zero_add, Nat.reduceAdd]
 repeat' (first|with_reducible (first|refine W_region (WOps_WR ?_)|refine WR_nil ?_|refine q_and ?_ ?_|exact True.intro)|((with_reducible apply q_WR);refine X_run rfl ?_ ?_)|((with_reducible apply q_ret);refine X_ret tabOk trivial rfl rfl ?_ ?_)|((with_reducible apply q_eqN);rfl)|omega)
 repeat' (first|with_reducible (first|exact TkEq.nil _|exact SEqL.nil|refine SEqL.cons ?_ ?_|exact TEqL.nil|exact CEq.refl _|refine CEq.tips ?_|refine CEq.tip ?_ ?_)|refine VEq.tup ?_|refine TkEq.cells ?_ ?_|rfl)
 all_goals simp [fLnk, Bld.link, fI]
theorem point_ok (b : Bld) (hb : b.small) : OkV Try.prog 59 [.c (pB 0)] [some b.box] (vI b.L.pts.length) [some b.pt.box] := by
 have h2 := hb.s2
 have hN := named_ok ⟨#[80]⟩ b.L.pts.length (by decide) (by omega)
 refine X_fn mixedX Try.func59 rfl (by kernel_rfl) (Nat.le_of_ble_eq_true (by kernel_rfl)) (by kernel_rfl) rfl rfl (Nat.le_of_ble_eq_true rfl) rfl rfl ?_
 simp only [sl0, Nat.zero_add, Nat.reduceAdd]
 repeat' (first|with_reducible (first|refine WR_pd ?_|refine W_seq ?_|refine seqK_n ?_|refine W_ret ?_|refine W_region (WOps_WR ?_)|refine W_draw (WOpsD_WR ?_)|refine WR_nil ?_|refine q_and ?_ ?_|exact True.intro)|((with_reducible apply q_call);refine X_pure (hN) rfl ?_)|((with_reducible apply q_WR);first|refine X_run rfl ?_ ?_|refine WR_nilD (by kernel_rfl) ?_|fail)|((with_reducible apply q_ret);refine X_ret tabOk trivial rfl rfl ?_ ?_)|((with_reducible apply q_eqN);rfl)|omega)
 repeat' (first|with_reducible (first|exact TkEq.nil _|exact SEqL.nil|refine SEqL.cons ?_ ?_|exact CEq.refl _|refine CEq.int ?_|refine CEq.tips ?_|refine CEq.tip ?_ ?_)|refine VEq.c ?_|refine TkEq.cells ?_ ?_|rfl|omega)
 all_goals simp [fStr, Bld.pt, fS]
def Bld.links (b : Bld) (x pt : Int) (east : Bool) (ts : List Int) : Nat → Bld
 | 0 => b
 | i + 1 => (b.links x pt east ts i).link (if east = true then ⟨x, 1, ts.getD i 0, 0, pt, i⟩ else ⟨ts.getD i 0, 1, x, 0, pt, i⟩)
def Bld.fan (b : Bld) (x : Int) (ts : List Int) (east : Bool) : Bld :=
 if 1 < ts.length then b.pt.links x b.L.pts.length east ts ts.length else b.links x (-1) east ts ts.length
theorem links_small {b : Bld} (hb : b.small) (x pt : Int) (east : Bool) (ts : List Int) : ∀ i, (b.links x pt east ts i).L.sts = b.L.sts ∧ (b.links x pt east ts i).L.pts = b.L.pts ∧ (b.links x pt east ts i).L.secs = b.L.secs ∧ (b.links x pt east ts i).L.lnks.length = b.L.lnks.length + i
 | 0 => ⟨rfl, rfl, rfl, rfl⟩
 | i + 1 => by
  obtain ⟨h1, h2, h3, h4⟩ := links_small hb x pt east ts i
  refine ⟨h1, h2, h3, ?_⟩
  simp only [Bld.links, Bld.link, List.length_append, h4, List.length_singleton]
  omega
theorem fan_ok (b : Bld) (x : Int) (ts : List Int) (east : Bool) (hb : b.small) (ht : ts.length ≤ 10) (hb2 : b.L.lnks.length ≤ 900) (hb3 : b.L.pts.length ≤ 900) : OkV Try.prog 45 [.c (pB 0), vI x, .c (rInt ts), vB east] [some b.box] (.tup []) [some (b.fan x ts east).box] := by
 have hP := point_ok b hb
 refine X_fn mixedX Try.func45 rfl (by kernel_rfl) (Nat.le_of_ble_eq_true (by kernel_rfl)) (by kernel_rfl) rfl rfl (Nat.le_of_ble_eq_true rfl) rfl rfl ?_
 simp only [sl0, Nat.zero_add, Nat.reduceAdd]
 repeat' (first|with_reducible (first|refine WR_pp ?_|refine W_seq ?_|refine seqK_n ?_|refine W_block ?_|refine W_skip ?_|refine W_region (WOps_WR ?_)|refine WR_nil ?_|refine q_and ?_ ?_|exact True.intro)|((with_reducible apply q_call);refine X_call [0] (hP) rfl rfl rfl rfl rfl rfl rfl rfl rfl rfl rfl rfl rfl ?_)|((with_reducible apply q_WR);refine X_run rfl ?_ ?_)|((with_reducible apply q_cond);refine X_cond rfl ?_ ?_;all_goals (intro hbq;(try simp only [bq] at hbq);(try (exfalso;omega)))))
 ·have hB : (b.pt).small ∧ (b.pt).L.lnks.length ≤ 900 := by
   refine ⟨⟨hb.s1, ?_, hb.s3, hb.s4⟩, hb2⟩
   (try simp only [Bld.pt, List.length_append, List.length_singleton])
   omega
  have hf : b.fan x ts east = (b.pt).links x (b.L.pts.length : Int) east ts ts.length := by unfold Bld.fan; rw [if_pos (by omega)]
  rw [hf]
  obtain ⟨hB, hB2⟩ := hB
  have hL : ∀ i, i ≤ ts.length → ((b.pt).links x (b.L.pts.length : Int) east ts i).small := fun i hi => by
   obtain ⟨k1, k2, k3, k4⟩ := links_small hB x (b.L.pts.length : Int) east ts i
   exact ⟨by rw [k1]; exact hB.s1, by rw [k2]; exact hB.s2, by rw [k3]; exact hB.s3, by rw [k4]; omega⟩
  clear hP hf
  refine W_loopS (fun i : Nat => SS [sC 0 (pB 0), sI 1 x, sC 2 (rInt ts), sB 3 east, sI 8 (b.L.pts.length : Int), sI 16 ts.length, sI 17 i] [some ((b.pt).links x (b.L.pts.length : Int) east ts i).box]) (fun i => i ≤ ts.length) (fun i => ts.length - i) 0 ?_ (by omega) ?_
  ·
   refine X_weak rfl rfl rfl ?_ ?_ <;> repeat' (first|with_reducible (first|exact q_AgS0|exact HLe.nil _|exact SLe.nil|refine SLe.cons ?_ ?_|exact ELe.refl _|refine ELe.c rfl ?_|exact CLe.refl _|exact CLe.int (by omega)|refine CLe.tips ?_)|refine q_AgS rfl ?_ ?_|refine HLe.cells ?_ ?_)
   all_goals rfl
  ·intro i hi
   have hK1 := link_ok ((b.pt).links x (b.L.pts.length : Int) east ts i) x (ts.getD (i : Int).toNat 0) (b.L.pts.length : Int) i (hL i hi)
   have hK2 := link_ok ((b.pt).links x (b.L.pts.length : Int) east ts i) (ts.getD (i : Int).toNat 0) x (b.L.pts.length : Int) i (hL i hi)
   repeat' (first|with_reducible (first|refine WR_pp ?_|refine W_seq ?_|refine seqK_n ?_|refine seqK_e ?_|refine W_block ?_|refine blockK_n ?_|refine LoopK_e ?_|refine W_skip ?_|refine W_exit ?_|refine W_region (WOps_WR ?_)|refine WR_nil ?_|refine q_and ?_ ?_|exact True.intro|assumption|refine blockK_e rfl ?_)|((with_reducible apply q_call);first|refine X_call [0] (hK1) rfl rfl rfl rfl rfl rfl rfl rfl rfl rfl rfl rfl rfl ?_|refine X_call [0] (hK2) rfl rfl rfl rfl rfl rfl rfl rfl rfl rfl rfl rfl rfl ?_)|((with_reducible apply q_WR);refine X_run rfl ?_ ?_)|((with_reducible apply q_cond);refine X_cond rfl ?_ ?_;all_goals (intro hbq;(try simp only [bq] at hbq);(try (exfalso;omega))))|((with_reducible apply q_ret);refine X_ret tabOk trivial rfl rfl ?_ ?_)|((with_reducible apply q_VOk);exact fun _ => ⟨rfl,rfl⟩)|omega)
   ·
    refine LoopK_n (i + 1) ?_ ?_ ?_
    rotate_left
    ·(try dsimp only); omega
    ·(try dsimp only); omega
    refine X_weak rfl rfl rfl ?_ ?_ <;> repeat' (first|with_reducible (first|exact q_AgS0|exact HLe.nil _|exact SLe.nil|refine SLe.cons ?_ ?_|exact ELe.refl _|refine ELe.c rfl ?_|exact CLe.refl _|exact CLe.int (by omega)|refine CLe.tips ?_)|refine q_AgS rfl ?_ ?_|refine HLe.cells ?_ ?_)
    all_goals (subst hbq; rfl)
   ·
    refine LoopK_n (i + 1) ?_ ?_ ?_
    rotate_left
    ·(try dsimp only); omega
    ·(try dsimp only); omega
    refine X_weak rfl rfl rfl ?_ ?_ <;> repeat' (first|with_reducible (first|exact q_AgS0|exact HLe.nil _|exact SLe.nil|refine SLe.cons ?_ ?_|exact ELe.refl _|refine ELe.c rfl ?_|exact CLe.refl _|exact CLe.int (by omega)|refine CLe.tips ?_)|refine q_AgS rfl ?_ ?_|refine HLe.cells ?_ ?_)
    all_goals (subst hbq; rfl)
   ·have hie : i = ts.length := by omega
    subst hie
    repeat' (first|with_reducible (exact TEqL.nil)|refine VEq.tup ?_)
   ·have hie : i = ts.length := by omega
    subst hie
    repeat' (first|with_reducible (first|exact TkEq.nil _|exact SEqL.nil|refine SEqL.cons ?_ ?_|exact CEq.refl _)|refine TkEq.cells ?_ ?_)
 ·have hB : (b).small ∧ (b).L.lnks.length ≤ 900 := by
   refine ⟨⟨hb.s1, ?_, hb.s3, hb.s4⟩, hb2⟩
   (try simp only [Bld.pt, List.length_append, List.length_singleton])
   omega
  have hf : b.fan x ts east = (b).links x (-1) east ts ts.length := by unfold Bld.fan; rw [if_neg (by omega)]
  rw [hf]
  obtain ⟨hB, hB2⟩ := hB
  have hL : ∀ i, i ≤ ts.length → ((b).links x (-1) east ts i).small := fun i hi => by
   obtain ⟨k1, k2, k3, k4⟩ := links_small hB x (-1) east ts i
   exact ⟨by rw [k1]; exact hB.s1, by rw [k2]; exact hB.s2, by rw [k3]; exact hB.s3, by rw [k4]; omega⟩
  clear hP hf
  refine W_loopS (fun i : Nat => SS [sC 0 (pB 0), sI 1 x, sC 2 (rInt ts), sB 3 east, sI 8 (-1), sI 16 ts.length, sI 17 i] [some ((b).links x (-1) east ts i).box]) (fun i => i ≤ ts.length) (fun i => ts.length - i) 0 ?_ (by omega) ?_
  ·
   refine X_weak rfl rfl rfl ?_ ?_ <;> repeat' (first|with_reducible (first|exact q_AgS0|exact HLe.nil _|exact SLe.nil|refine SLe.cons ?_ ?_|exact ELe.refl _|refine ELe.c rfl ?_|exact CLe.refl _|exact CLe.int (by omega)|refine CLe.tips ?_)|refine q_AgS rfl ?_ ?_|refine HLe.cells ?_ ?_)
   all_goals rfl
  ·intro i hi
   have hK1 := link_ok ((b).links x (-1) east ts i) x (ts.getD (i : Int).toNat 0) (-1) i (hL i hi)
   have hK2 := link_ok ((b).links x (-1) east ts i) (ts.getD (i : Int).toNat 0) x (-1) i (hL i hi)
   repeat' (first|with_reducible (first|refine WR_pp ?_|refine W_seq ?_|refine seqK_n ?_|refine seqK_e ?_|refine W_block ?_|refine blockK_n ?_|refine LoopK_e ?_|refine W_skip ?_|refine W_exit ?_|refine W_region (WOps_WR ?_)|refine WR_nil ?_|refine q_and ?_ ?_|exact True.intro|assumption|refine blockK_e rfl ?_)|((with_reducible apply q_call);first|refine X_call [0] (hK1) rfl rfl rfl rfl rfl rfl rfl rfl rfl rfl rfl rfl rfl ?_|refine X_call [0] (hK2) rfl rfl rfl rfl rfl rfl rfl rfl rfl rfl rfl rfl rfl ?_)|((with_reducible apply q_WR);refine X_run rfl ?_ ?_)|((with_reducible apply q_cond);refine X_cond rfl ?_ ?_;all_goals (intro hbq;(try simp only [bq] at hbq);(try (exfalso;omega))))|((with_reducible apply q_ret);refine X_ret tabOk trivial rfl rfl ?_ ?_)|((with_reducible apply q_VOk);exact fun _ => ⟨rfl,rfl⟩)|omega)
   ·
    refine LoopK_n (i + 1) ?_ ?_ ?_
    rotate_left
    ·(try dsimp only); omega
    ·(try dsimp only); omega
    refine X_weak rfl rfl rfl ?_ ?_ <;> repeat' (first|with_reducible (first|exact q_AgS0|exact HLe.nil _|exact SLe.nil|refine SLe.cons ?_ ?_|exact ELe.refl _|refine ELe.c rfl ?_|exact CLe.refl _|exact CLe.int (by omega)|refine CLe.tips ?_)|refine q_AgS rfl ?_ ?_|refine HLe.cells ?_ ?_)
    all_goals (subst hbq; rfl)
   ·
    refine LoopK_n (i + 1) ?_ ?_ ?_
    rotate_left
    ·(try dsimp only); omega
    ·(try dsimp only); omega
    refine X_weak rfl rfl rfl ?_ ?_ <;> repeat' (first|with_reducible (first|exact q_AgS0|exact HLe.nil _|exact SLe.nil|refine SLe.cons ?_ ?_|exact ELe.refl _|refine ELe.c rfl ?_|exact CLe.refl _|exact CLe.int (by omega)|refine CLe.tips ?_)|refine q_AgS rfl ?_ ?_|refine HLe.cells ?_ ?_)
    all_goals (subst hbq; rfl)
   ·have hie : i = ts.length := by omega
    subst hie
    repeat' (first|with_reducible (exact TEqL.nil)|refine VEq.tup ?_)
   ·have hie : i = ts.length := by omega
    subst hie
    repeat' (first|with_reducible (first|exact TkEq.nil _|exact SEqL.nil|refine SEqL.cons ?_ ?_|exact CEq.refl _)|refine TkEq.cells ?_ ?_)
def CVal.noB (b : Nat) : CVal → Bool
 | .ptr c _ => !(c == b)
 | .arr c _ _ _ => !(c == b)
 | _ => true
def TVal.noB (b : Nat) : TVal → Bool
 | .c x => x.noB b
 | .agg cs => cs.all (CVal.noB b)
def AVal.noB (b : Nat) : AVal → Bool
 | .c x => x.noB b
 | .agg cs => cs.all (CVal.noB b)
 | .tup ts => ts.all (TVal.noB b)
section
variable {w : World} {κ : Nat → BK} {ρ : Nat → Nat} {b g : Nat}
theorem RepC.rho {l : Loc} {x : CVal} {v : Value} (h : x.noB b = true) (k : RepC w κ ρ l x v) : RepC w κ (upd ρ b g) l x v := by
 cases x with
 | ptr c off =>
  have hc : c ≠ b := by simpa [CVal.noB] using h
  show v = _
  rw [upd_other _ _ hc]
  exact k
 | arr c off len cap =>
  have hc : c ≠ b := by simpa [CVal.noB] using h
  show v = _
  rw [upd_other _ _ hc]
  exact k
 | _ => exact k
theorem RepT.rho {l : Loc} {x : TVal} {v : Value} (h : x.noB b = true) (k : RepT w κ ρ l x v) : RepT w κ (upd ρ b g) l x v := by
 cases x with
 | c x => exact ⟨k.1, k.2.rho h⟩
 | agg cs =>
  obtain ⟨vs, e, hs, hi⟩ := k
  exact ⟨vs, e, hs, fun i h1 h2 => ⟨(hi i h1 h2).1, (hi i h1 h2).2.rho (List.all_eq_true.1 h _ (List.getElem_mem h1))⟩⟩
theorem RepA.rho {l : Loc} {x : AVal} {v : Value} (h : x.noB b = true) (k : RepA w κ ρ l x v) : RepA w κ (upd ρ b g) l x v := by
 cases x with
 | c x => exact RepC.rho (x := x) h k
 | agg cs => exact RepT.rho (x := .agg cs) h k
 | tup ts =>
  obtain ⟨vs, e, hs, hi⟩ := k
  exact ⟨vs, e, hs, fun i h1 h2 => (hi i h1 h2).rho (List.all_eq_true.1 h _ (List.getElem_mem h1))⟩
end
theorem Rel.newAt {s : St} {a : Act} {w : World} {κ : Nat → BK} {ρ : Nat → Nat} (h : Rel s a w κ ρ) {b : Nat} {cs : List CVal} {c : Array Value} (e : TypeId) (hb : b < s.H.length) (hn : s.H[b]? = some none) (hs : ∀ i, (s.sl i).noB b = true) (hB : ∀ (b' : Nat) (ds : List CVal), s.H[b']? = some (some ds) → ds.all (CVal.noB b) = true) (hC : CellsRep w κ ρ cs c) (hcs : cs.all (CVal.noB b) = true) (hok : ∀ x ∈ cs, x.ok s.H.length = true) :
  Rel { s with H := s.H.set b (some cs) } a (w.alloc (.cells c e)) (upd κ w.heap.size (.wr b)) (upd ρ b w.heap.size) := by
 have m := mv_alloc s.H.length w κ ρ (.cells c e) (.wr b) ρ (fun _ _ => rfl)
 have hR := h.mv m (fun _ h => h)
 have hlen : (s.H.set b (some cs)).length = s.H.length := by simp
 have hset : ∀ (b' : Nat) (ds : List CVal), (s.H.set b (some cs))[b']? = some (some ds) → (b' = b ∧ ds = cs) ∨ (b' ≠ b ∧ s.H[b']? = some (some ds)) := fun b' ds hx => by
  by_cases e : b = b'
  ·subst e
   rw [List.getElem?_set] at hx
   simp [hb] at hx
   exact .inl ⟨rfl, hx.symm⟩
  ·rw [List.getElem?_set_ne e] at hx
   exact .inr ⟨fun h => e h.symm, hx⟩
 refine ⟨hR.defers, fun i hi' => (hR.slot i hi').rho (hs i), hR.out, fun i => by rw [hlen]; exact hR.ok i, ⟨fun b' ds hx => ?_, fun b' ds hx x hm => ?_⟩⟩
 ·rcases hset b' ds hx with ⟨rfl, rfl⟩ | ⟨hne, hx2⟩
  ·refine ⟨by rw [upd_same, upd_same], c, e, by rw [upd_same, alloc_heap, if_pos rfl], hC.size, fun i hi hi' => ?_⟩
   refine RepC.rho (List.all_eq_true.1 hcs _ (List.getElem_mem hi)) ?_
   exact RepC.keep m.grow m.rho (hok _ (List.getElem_mem hi)) (fun sz ds len e => by have := hC.flat _ (List.getElem_mem hi); rw [e] at this; cases this) (hC.rep (.cell b' i) i hi hi')
  ·obtain ⟨ho, c2, e2, k1, k2, k3⟩ := hR.heap.blk b' ds hx2
   refine ⟨by rw [upd_other _ _ hne]; exact ho, c2, e2, by rw [upd_other _ _ hne]; exact k1, k2, fun i hi hi' => (k3 i hi hi').rho (List.all_eq_true.1 (hB b' ds hx2) _ (List.getElem_mem hi))⟩
 ·rw [hlen]
  rcases hset b' ds hx with ⟨rfl, rfl⟩ | ⟨hne, hx2⟩
  ·exact hok x hm
  ·exact h.heap.ok b' ds hx2 x hm
section
variable {P : Program} {ops : Array Oper}
theorem sem_of (hm : P.follows .mixedOrders = true) {s : St} {K : St → Prop} (he : edgesB ops = true) (J : Array Bool → St → Prop)
  (h0 : ∀ {N n0 : Nat} {w0 : World} {κ0 : Nat → BK} {ρ0 : Nat → Nat} {a : Act} {w : World} {κ : Nat → BK} {ρ : Nat → Nat}, In N n0 w0 κ0 ρ0 s a w κ ρ → ∃ s0, J (Array.replicate ops.size false) s0 ∧ In N n0 w0 κ0 ρ0 s0 a w κ ρ)
  (hstep : ∀ (listed : Array Bool) (S : St) (i : Nat) (o : Oper), listed.size = ops.size → J listed S → ops[i]? = some o → listed.getD i true = false → (∀ e ∈ o.after, Region.binds .any e = true → listed.getD e.on false = true) →
   ∀ {N n0 : Nat} {w0 : World} {κ0 : Nat → BK} {ρ0 : Nat → Nat} {a : Act} {w : World} {κ : Nat → BK} {ρ : Nat → Nat}, s.H.length ≤ S.H.length → n0 ≤ s.H.length → In N n0 w0 κ0 ρ0 S a w κ ρ → dstOk N o = true → ∀ (next : Act → World → Prop) (Q : Exit → Act → World → Prop),
    (∀ S' a' w' κ' ρ', J (listed.setIfInBounds i true) S' → In N n0 w0 κ0 ρ0 S' a' w' κ' ρ' → next a' w') → if Region.wanted o (yielded ops a.tmps) then o.wp P a w next Q ∨ (o.asks P a w ∧ LetsOut Q) else next (a.put o.dst undef) w)
  (hJ : ∀ listed S, J listed S → s.H.length ≤ S.H.length)
  (hend : ∀ (listed : Array Bool) (S : St), listed.size = ops.size → (∀ i, i < ops.size → listed.getD i false = true) → J listed S → K S) : SemD P ops s K := by
 intro id N n0 w0 κ0 ρ0 a w κ ρ hI hd Q hQ
 rw [List.all_eq_true] at hd
 have hn0 := hI.len
 refine wp_region_any hm ?_
 have key : ∀ (fuel : Nat) (R : List Nat) (listed : Array Bool) (S : St) (a : Act) (w : World) (κ : Nat → BK) (ρ : Nat → Nat), R.length = fuel → Lst ops R listed → J listed S → In N n0 w0 κ0 ρ0 S a w κ ρ → wpAny P .any ops Q fuel listed a w := by
  intro fuel
  induction fuel with
  | zero =>
   intro R listed S a w κ ρ hl hL hj hI
   have hR : R = [] := List.eq_nil_of_length_eq_zero hl
   subst hR
   refine ⟨?_, hQ S a w κ ρ (hend listed S hL.size (fun i hi => hL.out hi (by simp)) hj) hI⟩
   apply List.eq_nil_iff_forall_not_mem.2
   intro i hi
   obtain ⟨h1, o, ho, _⟩ := mem_ready.1 hi
   have := (hL.mem i).2 ⟨(Array.getElem?_eq_some_iff.1 ho).1, h1⟩
   cases this
  | succ fuel ih =>
   intro R listed S a w κ ρ hl hL hj hI
   constructor
   ·intro hnil
    exact absurd hnil (hL.ready he (fun e => by
     rw [e] at hl
     cases hl))
   ·intro i hi
    obtain ⟨h1, o, ho, hready⟩ := mem_ready.1 hi
    have hi1 : i < ops.size := (Array.getElem?_eq_some_iff.1 ho).1
    have hmem := (hL.mem i).2 ⟨hi1, h1⟩
    obtain ⟨pre, post, rfl⟩ := List.append_of_mem hmem
    unfold wpOp
    simp only [ho]
    refine hstep listed S i o hL.size hj ho h1 hready (hJ _ _ hj) hn0 hI (hd o (Array.mem_toList_iff.2 (Array.mem_of_getElem? ho))) _ _ fun S' a' w' κ' ρ' hj' hI' => ?_
    exact ih (pre ++ post) _ S' a' w' κ' ρ' (by simp at hl ⊢; omega) (hL.next ho hready) hj' hI'
 obtain ⟨s0, hj0, hI0⟩ := h0 hI.drew
 exact key ops.size (List.range ops.size) _ s0 a { w with drawn := w.drawn + 1 } κ ρ (by simp) Lst.start hj0 hI0
end
def psl (s : Nat → AVal) (listed : Array Bool) : List (Nat × Nat × AVal) → Nat → AVal
 | [], d => s d
 | (i, t, v) :: r, d => if d = t ∧ listed.getD i false = true then v else psl s listed r d
theorem psl_get {s : Nat → AVal} {listed : Array Bool} {i t : Nat} {v : AVal} (hi : listed.getD i false = true) : ∀ {vals : List (Nat × Nat × AVal)}, (vals.map fun p => p.2.1).Nodup → (i, t, v) ∈ vals → psl s listed vals t = v
 | [], _, h => by cases h
 | (i', t', v') :: r, hn, h => by
  rw [List.map_cons, List.nodup_cons] at hn
  unfold psl
  rcases List.mem_cons.1 h with e | h
  ·injection e with e1 e2
   injection e2 with e2 e3
   subst e1; subst e2; subst e3
   rw [if_pos ⟨rfl, hi⟩]
  ·have hne : t ≠ t' := fun e => hn.1 (List.mem_map.2 ⟨_, h, e⟩)
   rw [if_neg (fun c => hne c.1)]
   exact psl_get hi hn.2 h
theorem psl_out {s : Nat → AVal} {listed : Array Bool} {t : Nat} : ∀ {vals : List (Nat × Nat × AVal)}, t ∉ vals.map (fun p => p.2.1) → psl s listed vals t = s t
 | [], _ => rfl
 | (i', t', v') :: r, h => by
  rw [List.map_cons, List.mem_cons] at h
  unfold psl
  rw [if_neg (fun c => h (.inl c.1))]
  exact psl_out fun k => h (.inr k)
theorem getD_seti {listed : Array Bool} {i j : Nat} (hi : i < listed.size) : (listed.setIfInBounds i true).getD j false = if j = i then true else listed.getD j false := by
 simp only [Array.getD_eq_getD_getElem?, Array.getElem?_setIfInBounds]
 by_cases e : i = j
 ·subst e; simp [hi]
 ·rw [if_neg e, if_neg (fun h => e h.symm)]
theorem psl_tail {s : Nat → AVal} {listed : Array Bool} {i : Nat} (hi : i < listed.size) : ∀ {r r' : List (Nat × Nat × AVal)}, i ∉ r.map (fun p => p.1) → (r'.map fun p => p.1).Nodup → (r'.map fun p => (p.1, p.2.1)) = (r.map fun p => (p.1, p.2.1)) → (∀ j t' v', (j, t', v') ∈ r → (j, t', v') ∈ r' ∨ j = i ∨ listed.getD j false = false) → ∀ d, psl s listed r d = psl s (listed.setIfInBounds i true) r' d
 | [], [], _, _, _, _, _ => rfl
 | [], _ :: _, _, _, e, _, _ => by cases e
 | _ :: _, [], _, _, e, _, _ => by cases e
 | (j, t1, v1) :: r, (j2, t2, v2) :: r', hni, hn, e, hv, d => by
  rw [List.map_cons, List.map_cons] at e
  injection e with e1 e
  injection e1 with e1 e2
  simp only at e1 e2
  subst e1; subst e2
  rw [List.map_cons, List.mem_cons] at hni
  rw [List.map_cons, List.nodup_cons] at hn
  have hr : ∀ p ∈ r, p.1 ≠ j2 := fun p hp ep => hn.1 (by
   have h2 := congrArg (List.map Prod.fst) e
   simp only [List.map_map] at h2
   have h3 : (r'.map fun p => p.1) = r.map fun p => p.1 := h2
   rw [h3]
   exact List.mem_map.2 ⟨p, hp, ep⟩)
  unfold psl
  rw [getD_seti hi, show (if j2 = i then true else listed.getD j2 false) = listed.getD j2 false from if_neg fun h => hni (.inl h.symm)]
  by_cases hc : d = t2 ∧ listed.getD j2 false = true
  ·rw [if_pos hc, if_pos hc]
   rcases hv j2 t2 v1 List.mem_cons_self with k | k | k
   ·rcases List.mem_cons.1 k with e | k
    ·injection e with _ e
     injection e with _ e
    ·exact absurd (List.mem_map.2 ⟨_, k, rfl⟩) hn.1
   ·exact absurd k.symm (fun h => hni (.inl h))
   ·rw [k] at hc; cases hc.2
  ·rw [if_neg hc, if_neg hc]
   exact psl_tail hi (fun h => hni (.inr h)) hn.2 e (fun j t' v' hm => (hv j t' v' (List.mem_cons_of_mem _ hm)).imp (fun k => (List.mem_cons.1 k).resolve_left fun e => by injection e with e _; exact hr _ hm e) id) d
theorem psl_set {s : Nat → AVal} {listed : Array Bool} {i t : Nat} {v : AVal} (hi : i < listed.size) : ∀ {vals vals' : List (Nat × Nat × AVal)}, (vals.map fun p => p.2.1).Nodup → (vals.map fun p => p.1).Nodup → (vals'.map fun p => (p.1, p.2.1)) = (vals.map fun p => (p.1, p.2.1)) → (∀ j t' v', (j, t', v') ∈ vals → (j, t', v') ∈ vals' ∨ j = i ∨ listed.getD j false = false) → (i, t, v) ∈ vals' → upd (psl s listed vals) t v = psl s (listed.setIfInBounds i true) vals'
 | [], [], _, _, _, _, h => by cases h
 | [], _ :: _, _, _, e, _, _ => by cases e
 | _ :: _, [], _, _, e, _, _ => by cases e
 | (j, t1, v1) :: r, (j2, t2, v2) :: r', hn, hn2, e, hv, h => by
  rw [List.map_cons, List.map_cons] at e
  injection e with e1 e
  injection e1 with e1 e2
  simp only at e1 e2
  subst e1; subst e2
  have hn' : ((((j2, t2, v2) :: r').map fun p => p.2.1)).Nodup := by
   have : (((j2, t2, v2) :: r').map fun p => p.2.1) = (((j2, t2, v1) :: r).map fun p => p.2.1) := by
    have h2 := congrArg (List.map Prod.snd) e
    simp only [List.map_map] at h2
    simp only [List.map_cons]
    congr 1
   rw [this]; exact hn
  have hn2' : ((((j2, t2, v2) :: r').map fun p => p.1)).Nodup := by
   have : (((j2, t2, v2) :: r').map fun p => p.1) = (((j2, t2, v1) :: r).map fun p => p.1) := by
    have h2 := congrArg (List.map Prod.fst) e
    simp only [List.map_map] at h2
    simp only [List.map_cons]
    congr 1
   rw [this]; exact hn2
  rw [List.map_cons, List.nodup_cons] at hn hn2 hn' hn2'
  funext d
  show (if d = t then v else psl s listed ((j2, t2, v1) :: r) d) = _
  unfold psl
  rw [getD_seti hi]
  by_cases hji : j2 = i
  ·subst hji
   have hvv : t2 = t ∧ v2 = v := by
    rcases List.mem_cons.1 h with e | h
    ·injection e with _ e2
     injection e2 with e2 e3
     exact ⟨e2.symm, e3.symm⟩
    ·exact absurd (List.mem_map.2 ⟨_, h, rfl⟩) hn2'.1
   obtain ⟨rfl, rfl⟩ := hvv
   by_cases hd : d = t2
   ·rw [if_pos hd, if_pos ⟨hd, by rw [if_pos rfl]⟩]
   ·rw [if_neg hd, if_neg (fun c => hd c.1), if_neg (fun c => hd c.1)]
    exact psl_tail hi hn2.1 hn2'.2 e (fun j t' v' hm => (hv j t' v' (List.mem_cons_of_mem _ hm)).imp (fun k => (List.mem_cons.1 k).resolve_left fun e => by injection e with e _; exact hn2.1 (by rw [← e]; exact List.mem_map.2 ⟨_, hm, rfl⟩)) id) d
  ·have hm : (i, t, v) ∈ r' := by
    rcases List.mem_cons.1 h with e | h
    ·injection e with e _
     exact absurd e.symm hji
    ·exact h
   have htt : t ≠ t2 := fun e => hn'.1 (List.mem_map.2 ⟨_, hm, e⟩)
   rw [if_neg hji]
   have ih := psl_set (s := s) (v := v) hi hn.2 hn2.2 e (fun j t' v' hm => (hv j t' v' (List.mem_cons_of_mem _ hm)).imp (fun k => (List.mem_cons.1 k).resolve_left fun e => by injection e with e _; exact hn2.1 (by rw [← e]; exact List.mem_map.2 ⟨_, hm, rfl⟩)) id) hm
   have ihd := congrFun ih d
   have ihd : (if d = t then v else psl s listed r d) = _ := ihd
   by_cases hd : d = t
   ·rw [if_pos hd] at ihd ⊢
    rw [if_neg (fun c => htt (hd.symm.trans c.1))]
    exact ihd
   ·rw [if_neg hd] at ihd ⊢
    by_cases hc : d = t2 ∧ listed.getD j2 false = true
    ·rw [if_pos hc, if_pos hc]
     rcases hv j2 t2 v1 List.mem_cons_self with k | k | k
     ·rcases List.mem_cons.1 k with e | k
      ·injection e with _ e
       injection e with _ e
      ·exact absurd (List.mem_map.2 ⟨_, k, rfl⟩) hn2'.1
     ·exact absurd k hji
     ·rw [k] at hc; cases hc.2
    ·rw [if_neg hc, if_neg hc]
     exact ihd
theorem ok_noB {n b : Nat} (h : n ≤ b) : ∀ {x : CVal}, x.ok n = true → x.noB b = true
 | .ptr c _, k => by simp [CVal.ok, CVal.noB] at *; omega
 | .arr c _ _ _, k => by simp [CVal.ok, CVal.noB] at *; omega
 | .f _, _ => rfl
 | .ip _ _, _ => rfl
 | .tip _ _ _, _ => rfl
 | .und, _ => rfl
 | .any, _ => rfl
theorem okT_noB {n b : Nat} (h : n ≤ b) : ∀ {x : TVal}, x.ok n = true → x.noB b = true
 | .c x, k => ok_noB h k
 | .agg cs, k => List.all_eq_true.2 fun x hx => ok_noB h (List.all_eq_true.1 k x hx)
theorem okA_noB {n b : Nat} (h : n ≤ b) : ∀ {x : AVal}, x.ok n = true → x.noB b = true
 | .c x, k => ok_noB (x := x) h k
 | .agg cs, k => List.all_eq_true.2 fun x hx => ok_noB h (List.all_eq_true.1 k x hx)
 | .tup ts, k => List.all_eq_true.2 fun x hx => okT_noB h (List.all_eq_true.1 k x hx)
def AppSpec (P : Program) (b d : Nat) (o : Oper) (y : Operand) (row : FVal) (G : Nat → Prop) (V : Nat → CVal) (C : Nat → Option (List CVal)) : Prop :=
 ∀ ⦃S : St⦄, S.ev y = .c (.f row) → b < S.H.length → S.H[b]? = some none → (∀ i, (S.sl i).noB b = true) → (∀ (b' : Nat) (ds : List CVal), S.H[b']? = some (some ds) → ds.all (CVal.noB b) = true) →
  ∀ {ops : Array Oper} {N n0 : Nat} {w0 : World} {κ0 : Nat → BK} {ρ0 : Nat → Nat} {a : Act} {w : World} {κ : Nat → BK} {ρ : Nat → Nat}, n0 ≤ b → In N n0 w0 κ0 ρ0 S a w κ ρ → dstOk N o = true → ∀ (next : Act → World → Prop) (Q : Exit → Act → World → Prop),
   (∀ cap a' w' κ' ρ', G cap → In N n0 w0 κ0 ρ0 (({ S with H := S.H.set b (C cap) } : St).put (some d) (.c (V cap))) a' w' κ' ρ' → next a' w') → if Region.wanted o (yielded ops a.tmps) then o.wp P a w next Q ∨ (o.asks P a w ∧ LetsOut Q) else next (a.put o.dst undef) w
section
variable {P : Program} {d : Nat} {ty t tx : TypeId} {pos : String} {af : Array Edge} {y : Operand} {sz by_ : Nat} {zs : List CVal} {n : Nat} {fs : List FVal}
theorem app_open (b : Nat) (hI : mkInfo P t = some (sz, by_, zs)) (hz : elemSz P tx = some sz) (hl : fs.length = n * sz) (h63 : n ≤ 4611686018427387904) (hby : n * by_ ≤ 140737488355328) (hn0 : n ≠ 0) :
  AppSpec P b d ⟨some d, .call { callee := .builtin .append, args := #[.const (.slice none 0 0), y], argTypes := #[t, tx] }, ty, pos, af, none⟩ y (.row fs n) (fun cap => n ≤ cap) (fun cap => .arr b 0 n cap) (fun cap => some (fs.map CVal.f ++ repCells zs (cap - n))) := by
 intro S hy hb hn hs hB ops N n1 w0 κ0 ρ0 a w κ ρ hn1 hI0 hd next Q hk
 rw [wantA_of (t := true) (wantA_none rfl) hI0.rel]
 simp only [if_true]
 left
 have hv : a.eval (.const (.slice none 0 0)) = .slice none 0 0 := rfl
 have hsrc : srcCells P S sz tx y = some (n, fs) := by
  unfold srcCells
  rw [hy]
  simp only [AVal.dem, CVal.dem, hz]
  rw [if_pos ⟨trivial, hl⟩]
 have hR := hI0.rel
 obtain ⟨e, i, z, hu, hi, hz2, rfl, rfl, rfl, hsz, hpos, h1⟩ := mkInfo_of hI
 obtain ⟨news, hs1, hn2, hn3, hn4⟩ := srcCells_src hsrc hR
 have hold2 : (Builtin.firstCells i.size 0 (.slice none 0 0)).run P w.drew = .ok ([] : List Value).toArray w.drew := rfl
 have hfit := growslice_fits (need := 0 + n) (old := 0) (bytes := i.bytes) (by omega) (by rw [Nat.zero_add]; exact hby)
 have hrun := run_append_grow_src (P := P) w t tx ty e i z hu hi hz2 none 0 0 [] hold2 (a.eval y) n news hs1 (by omega) (by omega) hfit
 have hge : n ≤ grownCap w (0 + n) 0 e := by
  have := grownCap_ge w (0 + n) 0 e
  omega
 generalize grownCap w (0 + n) 0 e = cap at *
 have m1 := mv_drew S.H.length w κ ρ
 have hR1 := hR.mv m1 (fun _ h => h)
 have hg := m1.grow
 have hC1 : CellsRep w.drew κ ρ (fs.map CVal.f) news.toArray := cells_f hn2 fun j hj hj' => (hn4 j hj hj').grow hg
 have hC2 : CellsRep w.drew κ ρ (repCells (z.cells.toList.map ofC) (cap - n)) (Builtin.zeroCells z.cells (cap - n)) := made_rep z.cells (cap - n) (by omega) h1
 have hC := cells_app hC1 hC2
 have hok : ∀ m, ∀ x ∈ fs.map CVal.f ++ repCells (z.cells.toList.map ofC) (cap - n), x.ok m = true := fun m x hx => by
  rcases List.mem_append.1 hx with h | h
  ·obtain ⟨y, _, rfl⟩ := List.mem_map.1 h
   rfl
  ·exact repCells_ok _ _ _ _ h
 have hN := hR1.newAt e hb hn hs hB hC (List.all_eq_true.2 fun x hx => ok_noB (Nat.zero_le _) (hok 0 x hx)) (hok _)
 have m2 := mv_alloc b w.drew κ ρ (.cells (news.toArray ++ Builtin.zeroCells z.cells (cap - n)) e) (.wr b) (upd ρ b w.drew.heap.size) (fun b' hb' => upd_other _ _ (by omega))
 rw [Nat.zero_add, List.nil_append] at hrun
 unfold Oper.wp
 rw [exec_append rfl (by rw [hv]; exact hrun)]
 refine hk cap _ _ _ _ hge ⟨hN.put (dst_lt hd hI0.size) (fun t ht => ?_) ?_, hI0.fr.trans (m1.fr.trans m2.fr), fun b' hb' => (upd_other _ _ (by omega)).trans (hI0.rho b' hb'), ?_, (put_size _ _ _).trans hI0.size⟩
 ·show Value.slice _ _ _ = .slice (some ⟨upd ρ b w.drew.heap.size b, 0, none⟩) n cap
  rw [upd_same]
  rfl
 ·show decide (b < _) = true
  simpa using hb
 ·rw [put_len]
  simpa using hI0.len
end
def RowSpec (P : Program) (d : Nat) (o : Oper) (y : Operand) (row : FVal) (v : CVal) : Prop :=
 ∀ ⦃S : St⦄, S.ev y = .c (.f row) → ∀ {ops : Array Oper} {N n0 : Nat} {w0 : World} {κ0 : Nat → BK} {ρ0 : Nat → Nat} {a : Act} {w : World} {κ : Nat → BK} {ρ : Nat → Nat}, In N n0 w0 κ0 ρ0 S a w κ ρ → dstOk N o = true → ∀ (next : Act → World → Prop) (Q : Exit → Act → World → Prop),
   (∀ a' w' κ' ρ', In N n0 w0 κ0 ρ0 (S.put (some d) (.c v)) a' w' κ' ρ' → next a' w') → if Region.wanted o (yielded ops a.tmps) then o.wp P a w next Q ∨ (o.asks P a w ∧ LetsOut Q) else next (a.put o.dst undef) w
section
variable {P : Program} {d : Nat} {ty t tx : TypeId} {pos : String} {af : Array Edge} {y : Operand} {sz by_ : Nat} {zs : List CVal} {n : Nat} {fs : List FVal}
theorem copy_row (hI : mkInfo P t = some (sz, by_, zs)) (hz : elemSz P tx = some sz) (hl : fs.length = n * sz) (h63 : n ≤ 4611686018427387904) (hby : n * by_ ≤ 140737488355328) {v : CVal} (hv : v = .f (.row fs n) ∨ (n = 0 ∧ v = .f .nils)) :
  RowSpec P d ⟨some d, .call { callee := .builtin .append, args := #[.const (.slice none 0 0), y], argTypes := #[t, tx] }, ty, pos, af, none⟩ y (.row fs n) v := by
 intro S hy ops N n0 w0 κ0 ρ0 a w κ ρ hI0 hd next Q hk
 rw [wantA_of (t := true) (wantA_none rfl) hI0.rel]
 simp only [if_true]
 left
 have he : a.eval (.const (.slice none 0 0)) = .slice none 0 0 := rfl
 have hsrc : srcCells P S sz tx y = some (n, fs) := by
  unfold srcCells
  rw [hy]
  simp only [AVal.dem, CVal.dem, hz]
  rw [if_pos ⟨trivial, hl⟩]
 rcases hv with rfl | ⟨rfl, rfl⟩
 ·obtain ⟨v, w', κ', k1, k2, k3, k4⟩ := append_nil (o := ⟨some d, .call { callee := .builtin .append, args := #[.const (.slice none 0 0), y], argTypes := #[t, tx] }, ty, pos, af, none⟩) rfl hI hsrc h63 hby hI0.rel he (.slot d)
  unfold Oper.wp
  rw [k1]
  refine hk _ _ κ' ρ ⟨?_, hI0.fr.trans k4, hI0.rho, ?_, (put_size _ _ _).trans hI0.size⟩
  ·exact k2.put (dst_lt hd hI0.size) (fun t ht => by
    injection ht with ht
    subst ht
    exact RepC.dem (l := .slot d) (l' := .slot d) (ρ := ρ) (x := .tip sz fs n) k3) rfl
  ·rw [put_len]
   exact hI0.len
 ·obtain ⟨e, i, z, hu, hi, hz2, rfl, rfl, rfl, hsz, hpos, h1⟩ := mkInfo_of hI
  obtain ⟨news, hs1, hn2, hn3, hn4⟩ := srcCells_src hsrc hI0.rel
  have hnil : news = [] := List.eq_nil_of_length_eq_zero (by omega)
  subst hnil
  unfold Oper.wp
  rw [exec_append rfl (by rw [he]; exact run_append_nothing (P := P) w t tx ty e i hu hi none 0 0 (Nat.le_refl _) _ hs1)]
  refine hk _ _ κ ρ ⟨hI0.rel.put (dst_lt hd hI0.size) (fun t ht => ?_) rfl, hI0.fr, hI0.rho, ?_, (put_size _ _ _).trans hI0.size⟩
  ·exact RepF.nils
  ·rw [put_len]
   exact hI0.len
end
theorem Rel.pad {s : St} {a : Act} {w : World} {κ : Nat → BK} {ρ : Nat → Nat} (h : Rel s a w κ ρ) : Rel { s with H := s.H ++ [none, none] } a w κ ρ := by
 have hlen : s.H.length ≤ (s.H ++ [none, none] : List (Option (List CVal))).length := by simp
 have hget : ∀ b cs, (s.H ++ [none, none] : List (Option (List CVal)))[b]? = some (some cs) → s.H[b]? = some (some cs) := fun b cs hb => by
  rcases Nat.lt_or_ge b s.H.length with hlt | hge
  ·rwa [List.getElem?_append_left hlt] at hb
  ·rw [List.getElem?_append_right hge] at hb
   match hm : b - s.H.length, hb with
   | 0, hb => cases hb
   | 1, hb => cases hb
   | k + 2, hb => cases hb
 exact ⟨h.defers, h.slot, h.out, fun i => AVal.ok_le hlen _ (h.ok i), ⟨fun b cs hb => h.heap.blk b cs (hget b cs hb), fun b cs hb x hx => CVal.ok_le hlen _ (h.heap.ok b cs (hget b cs hb) x hx)⟩⟩
theorem psl_none {s : Nat → AVal} {listed : Array Bool} {d : Nat} (h : ∀ i, listed.getD i false = false) : ∀ {vals : List (Nat × Nat × AVal)}, psl s listed vals d = s d
 | [] => rfl
 | (i, t, v) :: r => by
  unfold psl
  rw [if_neg (fun c => by rw [h i] at c; cases c.2)]
  exact psl_none h
theorem psl_noB {s : Nat → AVal} {listed : Array Bool} {b : Nat} (hs : ∀ i, (s i).noB b = true) : ∀ {vals : List (Nat × Nat × AVal)}, (∀ i t v, (i, t, v) ∈ vals → listed.getD i false = true → v.noB b = true) → ∀ d, (psl s listed vals d).noB b = true
 | [], _, d => hs d
 | (i, t, v) :: r, h, d => by
  unfold psl
  split
  ·rename_i c
   exact h i t v List.mem_cons_self c.2
  ·exact psl_noB hs (fun i t v hm => h i t v (List.mem_cons_of_mem _ hm)) d
section
variable {P : Program} {ops : Array Oper}
theorem step_of {o : Oper} {S S' : St} (h : WR P ops [o] S (.seq [] fun _ s' => s' = S')) {N n0 : Nat} {w0 : World} {κ0 : Nat → BK} {ρ0 : Nat → Nat} {a : Act} {w : World} {κ : Nat → BK} {ρ : Nat → Nat} (hI : In N n0 w0 κ0 ρ0 S a w κ ρ) (hd : dstOk N o = true) {next : Act → World → Prop} {Q : Exit → Act → World → Prop}
  (hk : ∀ a' w' κ' ρ', In N n0 w0 κ0 ρ0 S' a' w' κ' ρ' → next a' w') : if Region.wanted o (yielded ops a.tmps) then o.wp P a w next Q ∨ (o.asks P a w ∧ LetsOut Q) else next (a.put o.dst undef) w :=
 WOp_sound hd (show WOp P ops o S fun _ s' => s' = S' from h.out) hI fun c s a w κ ρ e hI => hk a w κ ρ (e ▸ hI)
end
def e0 (i : Nat) : Edge := { on := i, ground := .data }
def eC (i : Nat) : Edge := { on := i, ground := .chain }
def eP (i : Nat) : Edge := { on := i, ground := .phase }
section
variable (tL tS tC tK : TypeId) (pos : String)
def cpFa (d f : Nat) : Oper := ⟨some d, .fieldAddr tL (.tmp 4) f, 0, pos, #[], none⟩
def cpLd (d x : Nat) (t : TypeId) (i : Nat) : Oper := ⟨some d, .load t (.tmp x), t, pos, #[e0 i], none⟩
def cpAp (d x : Nat) (t : TypeId) (af : Array Edge) : Oper := ⟨some d, .call { callee := .builtin .append, args := #[.const (.slice none 0 0), .tmp x], argTypes := #[t, t] }, t, pos, af, none⟩
def cpBu : Oper := ⟨some 26, .build tL #[(0, .tmp 16), (1, .tmp 19), (2, .tmp 22), (3, .tmp 25)], tL, pos, #[e0 2, e0 5, e0 8, e0 11], none⟩
def cpAl : Oper := ⟨some 9, .alloc tL, 0, pos, #[], none⟩
def cpSt : Oper := ⟨none, .store tL (.tmp 9) (.tmp 26), 0, pos, #[e0 13, e0 12, eC 11, eP 0, eP 1, eP 2, eP 3, eP 4, eP 5, eP 6, eP 7, eP 8, eP 9, eP 10, eP 11, eP 12, eP 13], none⟩
def cpOps : Array Oper := #[cpFa tL pos 14 0, cpLd pos 15 14 tS 0, cpAp pos 16 15 tS #[e0 1], cpFa tL pos 17 1, cpLd pos 18 17 tS 3, cpAp pos 19 18 tS #[e0 4, eC 2], cpFa tL pos 20 2, cpLd pos 21 20 tC 6, cpAp pos 22 21 tC #[e0 7, eC 5], cpFa tL pos 23 3, cpLd pos 24 23 tK 9, cpAp pos 25 24 tK #[e0 10, eC 8], cpBu tL pos, cpAl tL pos, cpSt tL pos]
end
def cpVals (b4 n : Nat) (r0 r1 r2 r3 : FVal) (V0 V1 V2 V3 : CVal) : List (Nat × Nat × AVal) :=
 [(0, 14, .c (.ptr b4 0)), (1, 15, .c (.f r0)), (2, 16, .c V0), (3, 17, .c (.ptr b4 1)), (4, 18, .c (.f r1)), (5, 19, .c V1), (6, 20, .c (.ptr b4 2)), (7, 21, .c (.f r2)), (8, 22, .c V2), (9, 23, .c (.ptr b4 3)), (10, 24, .c (.f r3)), (11, 25, .c V3), (12, 26, .agg [V0, V1, V2, V3]), (13, 9, .c (.ptr n 0))]
theorem cpVals_slots {b4 n : Nat} {r0 r1 r2 r3 : FVal} {V0 V1 V2 V3 : CVal} : ((cpVals b4 n r0 r1 r2 r3 V0 V1 V2 V3).map fun p => p.2.1).Nodup := by
 show [14, 15, 16, 17, 18, 19, 20, 21, 22, 23, 24, 25, 26, 9].Nodup
 decide
theorem cpVals_ops {b4 n : Nat} {r0 r1 r2 r3 : FVal} {V0 V1 V2 V3 : CVal} : ((cpVals b4 n r0 r1 r2 r3 V0 V1 V2 V3).map fun p => p.1).Nodup := by
 show [0, 1, 2, 3, 4, 5, 6, 7, 8, 9, 10, 11, 12, 13].Nodup
 decide
def cpX (zs cs : List CVal) (listed : Array Bool) : Option (List CVal) := if listed.getD 14 false = true then some cs else if listed.getD 13 false = true then some zs else none
def cpY (k : Nat) (c : Option (List CVal)) (listed : Array Bool) : Option (List CVal) := if listed.getD k false = true then c else none
structure Clo (listed : Array Bool) : Prop where
 b : listed.getD 12 false = true → listed.getD 2 false = true ∧ listed.getD 5 false = true ∧ listed.getD 8 false = true ∧ listed.getD 11 false = true
 s : listed.getD 14 false = true → listed.getD 12 false = true ∧ listed.getD 13 false = true
theorem Clo.next {listed : Array Bool} {i : Nat} (hi : i < listed.size) (h : Clo listed) (h12 : i = 12 → listed.getD 2 false = true ∧ listed.getD 5 false = true ∧ listed.getD 8 false = true ∧ listed.getD 11 false = true) (h14 : i = 14 → listed.getD 12 false = true ∧ listed.getD 13 false = true) : Clo (listed.setIfInBounds i true) := by
 have mono : ∀ {j}, listed.getD j false = true → (listed.setIfInBounds i true).getD j false = true := fun {j} hj => by
  rw [getD_seti hi]
  split
  ·rfl
  ·exact hj
 constructor
 ·intro h0
  have h1 : listed.getD 2 false = true ∧ listed.getD 5 false = true ∧ listed.getD 8 false = true ∧ listed.getD 11 false = true := by
   rw [getD_seti hi] at h0
   split at h0
   ·rename_i e
    exact h12 e.symm
   ·exact h.b h0
  exact ⟨mono h1.1, mono h1.2.1, mono h1.2.2.1, mono h1.2.2.2⟩
 ·intro h0
  have h1 : listed.getD 12 false = true ∧ listed.getD 13 false = true := by
   rw [getD_seti hi] at h0
   split at h0
   ·rename_i e
    exact h14 e.symm
   ·exact h.s h0
  exact ⟨mono h1.1, mono h1.2⟩
def CpSpec (P : Program) (k i b d : Nat) (o : Oper) (y : Operand) (row : FVal) (G : Nat → Prop) (V : Nat → CVal) (C : Nat → Option (List CVal)) : Prop :=
 if i = k then AppSpec P b d o y row G V C else ∃ v, (∀ cap, V cap = v) ∧ RowSpec P d o y row v
def cpS (s : St) (b4 k : Nat) (r0 r1 r2 r3 : FVal) (zs : List CVal) (V0 V1 V2 V3 : Nat → CVal) (C : Nat → Option (List CVal)) (cap : Nat) (listed : Array Bool) : St :=
 ⟨psl s.sl listed (cpVals b4 s.H.length r0 r1 r2 r3 (V0 cap) (V1 cap) (V2 cap) (V3 cap)), s.H ++ [cpX zs [V0 cap, V1 cap, V2 cap, V3 cap] listed, cpY k (C cap) listed]⟩
section
variable {P : Program} {tL tS tC tK : TypeId} {pos : String} {s : St} {b4 k : Nat} {r0 r1 r2 r3 : FVal} {zs : List CVal} {G : Nat → Prop} {V0 V1 V2 V3 : Nat → CVal} {C : Nat → Option (List CVal)}
def Nice (v : CVal) : Prop := v.flat = true ∧ v.one = true
structure CpIn (P : Program) (tL tS tC tK : TypeId) (pos : String) (s : St) (b4 k : Nat) (r0 r1 r2 r3 : FVal) (zs : List CVal) (G : Nat → Prop) (V0 V1 V2 V3 : Nat → CVal) (C : Nat → Option (List CVal)) : Prop where
 sl : s.sl 4 = .c (.ptr b4 0)
 blk : s.H[b4]? = some (some [.f r0, .f r1, .f r2, .f r3])
 f0 : fldOff P tL 0 = some 0
 f1 : fldOff P tL 1 = some 1
 f2 : fldOff P tL 2 = some 2
 f3 : fldOff P tL 3 = some 3
 ztS : ∃ n, tsz P tS = some (false, n)
 ztC : ∃ n, tsz P tC = some (false, n)
 ztK : ∃ n, tsz P tK = some (false, n)
 ztL : ∃ q, tsz P tL = some (q, 4)
 z : zeroC P tL = some zs
 zl : zs.length = 4
 bu : ∃ z, bInfo P tL = some (z, .fields [(0, 1), (1, 1), (2, 1), (3, 1)]) ∧ z.length = 4
 flat : ∀ c, Nice (V0 c) ∧ Nice (V1 c) ∧ Nice (V2 c) ∧ Nice (V3 c)
 no0 : ∀ c, (V0 c).noB s.H.length = true ∧ (V1 c).noB s.H.length = true ∧ (V2 c).noB s.H.length = true ∧ (V3 c).noB s.H.length = true
 noY : ∀ c ds, C c = some ds → ds.all (CVal.noB s.H.length) = true
 kk : k = 2 ∨ k = 5 ∨ k = 8 ∨ k = 11 ∨ k = 15
 g0 : k = 15 → G 0
 no1 : ∀ c, (k ≠ 2 → (V0 c).noB (s.H.length + 1) = true) ∧ (k ≠ 5 → (V1 c).noB (s.H.length + 1) = true) ∧ (k ≠ 8 → (V2 c).noB (s.H.length + 1) = true) ∧ (k ≠ 11 → (V3 c).noB (s.H.length + 1) = true)
 a0 : CpSpec P k 2 (s.H.length + 1) 16 (cpAp pos 16 15 tS #[e0 1]) (.tmp 15) r0 G V0 C
 a1 : CpSpec P k 5 (s.H.length + 1) 19 (cpAp pos 19 18 tS #[e0 4, eC 2]) (.tmp 18) r1 G V1 C
 a2 : CpSpec P k 8 (s.H.length + 1) 22 (cpAp pos 22 21 tC #[e0 7, eC 5]) (.tmp 21) r2 G V2 C
 a3 : CpSpec P k 11 (s.H.length + 1) 25 (cpAp pos 25 24 tK #[e0 10, eC 8]) (.tmp 24) r3 G V3 C
def CpJ (s : St) (b4 k : Nat) (r0 r1 r2 r3 : FVal) (zs : List CVal) (G : Nat → Prop) (V0 V1 V2 V3 : Nat → CVal) (C : Nat → Option (List CVal)) (listed : Array Bool) (S : St) : Prop :=
 ∃ cap, (k = 15 ∨ listed.getD k false = true → G cap) ∧ Clo listed ∧ S = cpS s b4 k r0 r1 r2 r3 zs V0 V1 V2 V3 C cap listed
theorem cp_put {listed : Array Bool} {i t cap cap' : Nat} {v : AVal} {H : HB} (hi : i < listed.size)
  (hm : (i, t, v) ∈ cpVals b4 s.H.length r0 r1 r2 r3 (V0 cap') (V1 cap') (V2 cap') (V3 cap'))
  (hold : ∀ j t' v', (j, t', v') ∈ cpVals b4 s.H.length r0 r1 r2 r3 (V0 cap) (V1 cap) (V2 cap) (V3 cap) → (j, t', v') ∈ cpVals b4 s.H.length r0 r1 r2 r3 (V0 cap') (V1 cap') (V2 cap') (V3 cap') ∨ j = i ∨ listed.getD j false = false)
  (hH : H = s.H ++ [cpX zs [V0 cap', V1 cap', V2 cap', V3 cap'] (listed.setIfInBounds i true), cpY k (C cap') (listed.setIfInBounds i true)]) :
  (⟨upd (cpS s b4 k r0 r1 r2 r3 zs V0 V1 V2 V3 C cap listed).sl t v, H⟩ : St) = cpS s b4 k r0 r1 r2 r3 zs V0 V1 V2 V3 C cap' (listed.setIfInBounds i true) := by
 unfold cpS
 rw [hH]
 congr 1
 exact psl_set hi cpVals_slots cpVals_ops rfl hold hm
theorem getD_other {listed : Array Bool} {i j : Nat} (hi : i < listed.size) (h : i ≠ j) : (listed.setIfInBounds i true).getD j false = listed.getD j false := by
 rw [getD_seti hi]
 exact if_neg fun e => h e.symm
theorem cpX_next {cs : List CVal} {listed : Array Bool} {i : Nat} (hi : i < listed.size) (h13 : i ≠ 13) (h14 : i ≠ 14) : cpX zs cs (listed.setIfInBounds i true) = cpX zs cs listed := by
 unfold cpX
 rw [getD_other hi h13, getD_other hi h14]
theorem cpY_next {c : Option (List CVal)} {listed : Array Bool} {i : Nat} (hi : i < listed.size) (hk : i ≠ k) : cpY k c (listed.setIfInBounds i true) = cpY k c listed := by
 unfold cpY
 rw [getD_other hi hk]
theorem cp_same {listed : Array Bool} {i t cap : Nat} {v : AVal} (hi : i < listed.size) (hg : k = 15 ∨ listed.getD k false = true → G cap) (hc : Clo listed) (hik : i ≠ k) (h13 : i ≠ 13) (h14 : i ≠ 14) (h12 : i = 12 → listed.getD 2 false = true ∧ listed.getD 5 false = true ∧ listed.getD 8 false = true ∧ listed.getD 11 false = true)
  (hm : (i, t, v) ∈ cpVals b4 s.H.length r0 r1 r2 r3 (V0 cap) (V1 cap) (V2 cap) (V3 cap)) :
  CpJ s b4 k r0 r1 r2 r3 zs G V0 V1 V2 V3 C (listed.setIfInBounds i true) ((cpS s b4 k r0 r1 r2 r3 zs V0 V1 V2 V3 C cap listed).put (some t) v) := by
 refine ⟨cap, fun hkk => hg (hkk.imp id fun hkk => ?_), hc.next hi h12 (fun e => absurd e h14), ?_⟩
 ·rw [getD_other hi hik] at hkk
  exact hkk
 ·refine cp_put hi hm (fun j t' v' hj => .inl hj) ?_
  rw [cpX_next hi h13 h14, cpY_next hi hik]
  rfl
theorem cp_const {i b d : Nat} {o : Oper} {y : Operand} {row : FVal} {V : Nat → CVal} (h : CpSpec P k i b d o y row G V C) (hik : i ≠ k) (c c' : Nat) : V c = V c' := by
 unfold CpSpec at h
 rw [if_neg hik] at h
 obtain ⟨v, hv, _⟩ := h
 rw [hv, hv]
theorem cp_app (h : CpIn P tL tS tC tK pos s b4 k r0 r1 r2 r3 zs G V0 V1 V2 V3 C) {ops : Array Oper} {listed : Array Bool} {i d cap : Nat} {o : Oper} {y : Operand} {row : FVal} {V : Nat → CVal} (hi : i < listed.size) (hni : listed.getD i false = false) (hg : k = 15 ∨ listed.getD k false = true → G cap) (hc : Clo listed) (hsp : CpSpec P k i (s.H.length + 1) d o y row G V C) (hi13 : i < 12)
  (hm : ∀ cap, (i, d, .c (V cap)) ∈ cpVals b4 s.H.length r0 r1 r2 r3 (V0 cap) (V1 cap) (V2 cap) (V3 cap)) (hd12 : listed.getD 12 false = false)
  (hy : (cpS s b4 k r0 r1 r2 r3 zs V0 V1 V2 V3 C cap listed).ev y = .c (.f row)) {N n0 : Nat} {w0 : World} {κ0 : Nat → BK} {ρ0 : Nat → Nat} {a : Act} {w : World} {κ : Nat → BK} {ρ : Nat → Nat} (hn0 : n0 ≤ s.H.length)
  (hI : In N n0 w0 κ0 ρ0 (cpS s b4 k r0 r1 r2 r3 zs V0 V1 V2 V3 C cap listed) a w κ ρ) (hok : ∀ i, (s.sl i).ok s.H.length = true) (hokB : ∀ (b : Nat) (ds : List CVal), s.H[b]? = some (some ds) → ∀ x ∈ ds, x.ok s.H.length = true) (hd : dstOk N o = true) (next : Act → World → Prop) (Q : Exit → Act → World → Prop)
  (hk : ∀ S' a' w' κ' ρ', CpJ s b4 k r0 r1 r2 r3 zs G V0 V1 V2 V3 C (listed.setIfInBounds i true) S' → In N n0 w0 κ0 ρ0 S' a' w' κ' ρ' → next a' w') : if Region.wanted o (yielded ops a.tmps) then o.wp P a w next Q ∨ (o.asks P a w ∧ LetsOut Q) else next (a.put o.dst undef) w := by
 have h14 : listed.getD 14 false = false := by
  rcases hh : listed.getD 14 false with _ | _
  ·rfl
  ·have := (hc.s hh).1
   rw [hd12] at this
   cases this
 by_cases hik : i = k
 ·have hsp2 := hsp
  unfold CpSpec at hsp2
  rw [if_pos hik] at hsp2
  subst hik
  have hY : cpY i (C cap) listed = none := by
   unfold cpY
   rw [hni]
   rfl
  refine hsp2 hy (by simp [cpS]) ?_ (psl_noB (fun j => okA_noB (Nat.le_succ _) (hok j)) ?_) ?_ (Nat.le_succ_of_le hn0) hI hd next Q ?_
  ·show (s.H ++ [_, _])[s.H.length + 1]? = _
   rw [List.getElem?_append_right (Nat.le_succ _), show s.H.length + 1 - s.H.length = 1 by omega, hY]
   rfl
  ·intro j t v hj hlj
   have hn1 := h.no1 cap
   simp only [cpVals, List.mem_cons, Prod.mk.injEq, List.not_mem_nil, or_false] at hj
   have hne : j ≠ i := fun e => by
    rw [e, hni] at hlj
    cases hlj
   rcases hj with ⟨rfl, rfl, rfl⟩ | ⟨rfl, rfl, rfl⟩ | ⟨rfl, rfl, rfl⟩ | ⟨rfl, rfl, rfl⟩ | ⟨rfl, rfl, rfl⟩ | ⟨rfl, rfl, rfl⟩ | ⟨rfl, rfl, rfl⟩ | ⟨rfl, rfl, rfl⟩ | ⟨rfl, rfl, rfl⟩ | ⟨rfl, rfl, rfl⟩ | ⟨rfl, rfl, rfl⟩ | ⟨rfl, rfl, rfl⟩ | ⟨rfl, rfl, rfl⟩ | ⟨rfl, rfl, rfl⟩
   all_goals first
    | rfl
    | exact hn1.1 (fun e => hne e.symm)
    | exact hn1.2.1 (fun e => hne e.symm)
    | exact hn1.2.2.1 (fun e => hne e.symm)
    | exact hn1.2.2.2 (fun e => hne e.symm)
    | (rw [hd12] at hlj; cases hlj)
    | (show (!(_ == _)) = true; simp; done)
    | (show (!(_ == _)) = true; have := h.blk; have : b4 < s.H.length := by { rcases Nat.lt_or_ge b4 s.H.length with k | k; exact k; rw [List.getElem?_eq_none k] at this; cases this }; simp; omega)
  ·intro b' ds hb
   have hb : (s.H ++ [cpX zs [V0 cap, V1 cap, V2 cap, V3 cap] listed, cpY i (C cap) listed])[b']? = some (some ds) := hb
   rcases Nat.lt_or_ge b' s.H.length with hlt | hge
   ·rw [List.getElem?_append_left hlt] at hb
    exact List.all_eq_true.2 fun x hx => ok_noB (Nat.le_succ _) (hokB b' ds hb x hx)
   ·rw [List.getElem?_append_right hge, hY] at hb
    match hm : b' - s.H.length, hb with
    | 0, hb =>
     have hb : some (cpX zs [V0 cap, V1 cap, V2 cap, V3 cap] listed) = some (some ds) := hb
     injection hb with hb
     unfold cpX at hb
     rw [h14] at hb
     simp only [Bool.false_eq_true, if_false] at hb
     split at hb
     ·injection hb with hb
      subst hb
      obtain ⟨i, z, _, _, rfl, _⟩ := zeroC_of h.z
      exact List.all_eq_true.2 fun x hx => ok_noB (Nat.zero_le _) (map_ofC_ok _ _ x hx)
     ·cases hb
    | 1, hb => cases hb
    | k + 2, hb => cases hb
  ·intro cap' a' w' κ' ρ' hg' hI'
   refine hk _ a' w' κ' ρ' ⟨cap', fun _ => hg', hc.next hi (fun e => by omega) (fun e => by omega), ?_⟩ hI'
   refine cp_put hi (hm cap') (fun j t' v' hj => ?_) ?_
   ·have q0 : 2 ≠ i → V0 cap = V0 cap' := fun e => cp_const h.a0 e _ _
    have q1 : 5 ≠ i → V1 cap = V1 cap' := fun e => cp_const h.a1 e _ _
    have q2 : 8 ≠ i → V2 cap = V2 cap' := fun e => cp_const h.a2 e _ _
    have q3 : 11 ≠ i → V3 cap = V3 cap' := fun e => cp_const h.a3 e _ _
    by_cases hji : j = i
    ·exact .inr (.inl hji)
    ·simp only [cpVals, List.mem_cons, Prod.mk.injEq, List.not_mem_nil, or_false] at hj ⊢
     rcases hj with ⟨rfl, rfl, rfl⟩ | ⟨rfl, rfl, rfl⟩ | ⟨rfl, rfl, rfl⟩ | ⟨rfl, rfl, rfl⟩ | ⟨rfl, rfl, rfl⟩ | ⟨rfl, rfl, rfl⟩ | ⟨rfl, rfl, rfl⟩ | ⟨rfl, rfl, rfl⟩ | ⟨rfl, rfl, rfl⟩ | ⟨rfl, rfl, rfl⟩ | ⟨rfl, rfl, rfl⟩ | ⟨rfl, rfl, rfl⟩ | ⟨rfl, rfl, rfl⟩ | ⟨rfl, rfl, rfl⟩
     all_goals first
      | exact .inr (.inr hd12)
      | (left; simp; done)
      | (left; simp [q0 hji]; done)
      | (left; simp [q1 hji]; done)
      | (left; simp [q2 hji]; done)
      | (left; simp [q3 hji]; done)
   ·show (s.H ++ [cpX zs [V0 cap, V1 cap, V2 cap, V3 cap] listed, cpY i (C cap) listed]).set (s.H.length + 1) (C cap') = _
    rw [List.set_append_right _ _ (Nat.le_succ _), show s.H.length + 1 - s.H.length = 1 by omega, cpX_next hi (by omega) (by omega)]
    have e1 : cpY i (C cap') (listed.setIfInBounds i true) = C cap' := by
     unfold cpY
     rw [getD_seti hi, if_pos rfl, if_pos rfl]
    have e2 : cpX zs [V0 cap, V1 cap, V2 cap, V3 cap] listed = cpX zs [V0 cap', V1 cap', V2 cap', V3 cap'] listed := by
     unfold cpX
     rw [h14]
     rfl
    rw [e1, e2]
    rfl
 ·have hsp2 := hsp
  unfold CpSpec at hsp2
  rw [if_neg hik] at hsp2
  obtain ⟨v, hv, hsp2⟩ := hsp2
  refine hsp2 hy hI hd next Q fun a' w' κ' ρ' hI' => hk _ a' w' κ' ρ' ?_ hI'
  refine cp_same hi hg hc hik (by omega) (by omega) (fun e => by omega) ?_
  rw [← hv cap]
  exact hm cap
theorem cp_sem (hm : P.follows .mixedOrders = true) (h : CpIn P tL tS tC tK pos s b4 k r0 r1 r2 r3 zs G V0 V1 V2 V3 C) {K : St → Prop} (hK : ∀ cap listed, G cap → (∀ i, i < 15 → listed.getD i false = true) → K (cpS s b4 k r0 r1 r2 r3 zs V0 V1 V2 V3 C cap listed)) : SemD P (cpOps tL tS tC tK pos) s K := by
 have hb4 : b4 < s.H.length := by
  rcases Nat.lt_or_ge b4 s.H.length with k | k
  ·exact k
  ·have := h.blk
   rw [List.getElem?_eq_none k] at this
   cases this
 intro id N1 n1 w1 κ1 ρ1 a1 w2 κ2 ρ2 hI1
 have hok := hI1.rel.ok
 have hokB := hI1.rel.heap.ok
 refine (sem_of hm (J := CpJ s b4 k r0 r1 r2 r3 zs G V0 V1 V2 V3 C) rfl ?_ ?_ ?_ ?_ : SemD P (cpOps tL tS tC tK pos) s K) id N1 n1 w1 κ1 ρ1 a1 w2 κ2 ρ2 hI1
 rotate_left 1
 rotate_left 1
 ·rintro listed S ⟨cap, _, _, rfl⟩
  simp [cpS]
 ·rintro listed S hs hall ⟨cap, hg, hc, rfl⟩
  refine hK cap listed ?_ (fun i hi => hall i hi)
  rcases h.kk with rfl | rfl | rfl | rfl | rfl
  ·exact hg (.inr (hall 2 (show 2 < 15 by decide)))
  ·exact hg (.inr (hall 5 (show 5 < 15 by decide)))
  ·exact hg (.inr (hall 8 (show 8 < 15 by decide)))
  ·exact hg (.inr (hall 11 (show 11 < 15 by decide)))
  ·exact hg (.inl rfl)
 ·intro N n0 w0 κ0 ρ0 a w κ ρ hI
  have hf : ∀ i, (Array.replicate (cpOps tL tS tC tK pos).size false).getD i false = false := fun i => by
   simp only [Array.getD_eq_getD_getElem?, Array.getElem?_replicate]
   split <;> rfl
  refine ⟨cpS s b4 k r0 r1 r2 r3 zs V0 V1 V2 V3 C 0 (Array.replicate (cpOps tL tS tC tK pos).size false), ⟨0, fun e => ?_, ⟨fun e => ?_, fun e => ?_⟩, rfl⟩, ?_⟩
  ·rcases e with e | e
   ·exact h.g0 e
   ·rw [hf] at e; cases e
  ·rw [hf] at e; cases e
  ·rw [hf] at e; cases e
  ·have e : cpS s b4 k r0 r1 r2 r3 zs V0 V1 V2 V3 C 0 (Array.replicate (cpOps tL tS tC tK pos).size false) = { s with H := s.H ++ [none, none] } := by
    unfold cpS cpX cpY
    simp only [hf]
    congr 1
    funext d
    exact psl_none hf
   rw [e]
   exact ⟨hI.rel.pad, hI.fr, hI.rho, Nat.le_trans hI.len (by simp), hI.size⟩
 ·intro listed S i o hsz hJ ho hni hready N n0 w0 κ0 ρ0 a w κ ρ hlS hn0 hI hd next Q hk
  have hsz : listed.size = 15 := hsz
  obtain ⟨cap, hg, hc, rfl⟩ := hJ
  have hi15 : i < 15 := (Array.getElem?_eq_some_iff.1 ho).1
  have hi : i < listed.size := by omega
  have hni : listed.getD i false = false := by
   rw [Array.getD_eq_getD_getElem?] at hni ⊢
   rw [Array.getElem?_eq_getElem hi] at hni ⊢
   exact hni
  have get : ∀ {j t v}, listed.getD j false = true → (j, t, v) ∈ cpVals b4 s.H.length r0 r1 r2 r3 (V0 cap) (V1 cap) (V2 cap) (V3 cap) → (cpS s b4 k r0 r1 r2 r3 zs V0 V1 V2 V3 C cap listed).ev (.tmp t) = v := fun hj hm => psl_get hj cpVals_slots hm
  have h4 : (cpS s b4 k r0 r1 r2 r3 zs V0 V1 V2 V3 C cap listed).ev (.tmp 4) = .c (.ptr b4 0) := (psl_out (show 4 ∉ [14, 15, 16, 17, 18, 19, 20, 21, 22, 23, 24, 25, 26, 9] by decide)).trans h.sl
  have hB4 : (cpS s b4 k r0 r1 r2 r3 zs V0 V1 V2 V3 C cap listed).H[b4]? = some (some [.f r0, .f r1, .f r2, .f r3]) := by
   show (s.H ++ _)[b4]? = _
   rw [List.getElem?_append_left hb4]
   exact h.blk
  obtain ⟨nS, hzS⟩ := h.ztS
  obtain ⟨nC, hzC⟩ := h.ztC
  obtain ⟨nK, hzK⟩ := h.ztK
  obtain ⟨qL, hzL⟩ := h.ztL
  have k2 : ∀ j, (j = 0 ∨ j = 1 ∨ j = 3 ∨ j = 4 ∨ j = 6 ∨ j = 7 ∨ j = 9 ∨ j = 10 ∨ j = 12 ∨ j = 13 ∨ j = 14) → j ≠ k := fun j hj e => by
   rcases h.kk with rfl | rfl | rfl | rfl | rfl <;> omega
  have no12 : ∀ j, j < 12 → listed.getD j false = false → (j = 2 ∨ j = 5 ∨ j = 8 ∨ j = 11) → listed.getD 12 false = false := fun j _ hj hjj => by
   rcases hh : listed.getD 12 false with _ | _
   ·rfl
   ·have := hc.b hh
    rcases hjj with rfl | rfl | rfl | rfl <;> simp_all
  have hcase : i = 0 ∨ i = 1 ∨ i = 2 ∨ i = 3 ∨ i = 4 ∨ i = 5 ∨ i = 6 ∨ i = 7 ∨ i = 8 ∨ i = 9 ∨ i = 10 ∨ i = 11 ∨ i = 12 ∨ i = 13 ∨ i = 14 := by omega
  rcases hcase with rfl | rfl | rfl | rfl | rfl | rfl | rfl | rfl | rfl | rfl | rfl | rfl | rfl | rfl | rfl
  ·obtain rfl : cpFa tL pos 14 0 = o := Option.some.inj ho
   exact step_of (R_fa_ptr h.f0 h4 rfl (WR_nilS rfl)) hI hd fun a' w' κ' ρ' hI' => hk _ a' w' κ' ρ' (cp_same hi hg hc (k2 _ (by omega)) (by omega) (by omega) (fun e => by omega) (by simp [cpVals])) hI'
  ·obtain rfl : cpLd pos 15 14 tS 0 = o := Option.some.inj ho
   have l0 := get (hready (e0 0) (by simp [cpLd]) rfl) (t := 14) (v := .c (.ptr b4 0)) (by simp [cpVals, e0])
   exact step_of (R_load_ptr1 hzS l0 hB4 rfl rfl (WR_nilS rfl)) hI hd fun a' w' κ' ρ' hI' => hk _ a' w' κ' ρ' (cp_same hi hg hc (k2 _ (by omega)) (by omega) (by omega) (fun e => by omega) (by simp [cpVals])) hI'
  ·obtain rfl : cpAp pos 16 15 tS #[e0 1] = o := Option.some.inj ho
   have l0 := get (hready (e0 1) (by simp [cpAp]) rfl) (t := 15) (v := .c (.f r0)) (by simp [cpVals, e0])
   exact cp_app h hi hni hg hc h.a0 (by omega) (fun cap => by simp [cpVals]) (no12 _ (by omega) hni (by omega)) l0 hn0 hI hok hokB hd next Q hk
  ·obtain rfl : cpFa tL pos 17 1 = o := Option.some.inj ho
   exact step_of (R_fa_ptr h.f1 h4 rfl (WR_nilS rfl)) hI hd fun a' w' κ' ρ' hI' => hk _ a' w' κ' ρ' (cp_same hi hg hc (k2 _ (by omega)) (by omega) (by omega) (fun e => by omega) (by simp [cpVals])) hI'
  ·obtain rfl : cpLd pos 18 17 tS 3 = o := Option.some.inj ho
   have l0 := get (hready (e0 3) (by simp [cpLd]) rfl) (t := 17) (v := .c (.ptr b4 1)) (by simp [cpVals, e0])
   exact step_of (R_load_ptr1 hzS l0 hB4 rfl rfl (WR_nilS rfl)) hI hd fun a' w' κ' ρ' hI' => hk _ a' w' κ' ρ' (cp_same hi hg hc (k2 _ (by omega)) (by omega) (by omega) (fun e => by omega) (by simp [cpVals])) hI'
  ·obtain rfl : cpAp pos 19 18 tS #[e0 4, eC 2] = o := Option.some.inj ho
   have l0 := get (hready (e0 4) (by simp [cpAp]) rfl) (t := 18) (v := .c (.f r1)) (by simp [cpVals, e0])
   exact cp_app h hi hni hg hc h.a1 (by omega) (fun cap => by simp [cpVals]) (no12 _ (by omega) hni (by omega)) l0 hn0 hI hok hokB hd next Q hk
  ·obtain rfl : cpFa tL pos 20 2 = o := Option.some.inj ho
   exact step_of (R_fa_ptr h.f2 h4 rfl (WR_nilS rfl)) hI hd fun a' w' κ' ρ' hI' => hk _ a' w' κ' ρ' (cp_same hi hg hc (k2 _ (by omega)) (by omega) (by omega) (fun e => by omega) (by simp [cpVals])) hI'
  ·obtain rfl : cpLd pos 21 20 tC 6 = o := Option.some.inj ho
   have l0 := get (hready (e0 6) (by simp [cpLd]) rfl) (t := 20) (v := .c (.ptr b4 2)) (by simp [cpVals, e0])
   exact step_of (R_load_ptr1 hzC l0 hB4 rfl rfl (WR_nilS rfl)) hI hd fun a' w' κ' ρ' hI' => hk _ a' w' κ' ρ' (cp_same hi hg hc (k2 _ (by omega)) (by omega) (by omega) (fun e => by omega) (by simp [cpVals])) hI'
  ·obtain rfl : cpAp pos 22 21 tC #[e0 7, eC 5] = o := Option.some.inj ho
   have l0 := get (hready (e0 7) (by simp [cpAp]) rfl) (t := 21) (v := .c (.f r2)) (by simp [cpVals, e0])
   exact cp_app h hi hni hg hc h.a2 (by omega) (fun cap => by simp [cpVals]) (no12 _ (by omega) hni (by omega)) l0 hn0 hI hok hokB hd next Q hk
  ·obtain rfl : cpFa tL pos 23 3 = o := Option.some.inj ho
   exact step_of (R_fa_ptr h.f3 h4 rfl (WR_nilS rfl)) hI hd fun a' w' κ' ρ' hI' => hk _ a' w' κ' ρ' (cp_same hi hg hc (k2 _ (by omega)) (by omega) (by omega) (fun e => by omega) (by simp [cpVals])) hI'
  ·obtain rfl : cpLd pos 24 23 tK 9 = o := Option.some.inj ho
   have l0 := get (hready (e0 9) (by simp [cpLd]) rfl) (t := 23) (v := .c (.ptr b4 3)) (by simp [cpVals, e0])
   exact step_of (R_load_ptr1 hzK l0 hB4 rfl rfl (WR_nilS rfl)) hI hd fun a' w' κ' ρ' hI' => hk _ a' w' κ' ρ' (cp_same hi hg hc (k2 _ (by omega)) (by omega) (by omega) (fun e => by omega) (by simp [cpVals])) hI'
  ·obtain rfl : cpAp pos 25 24 tK #[e0 10, eC 8] = o := Option.some.inj ho
   have l0 := get (hready (e0 10) (by simp [cpAp]) rfl) (t := 24) (v := .c (.f r3)) (by simp [cpVals, e0])
   exact cp_app h hi hni hg hc h.a3 (by omega) (fun cap => by simp [cpVals]) (no12 _ (by omega) hni (by omega)) l0 hn0 hI hok hokB hd next Q hk
  ·obtain rfl : cpBu tL pos = o := Option.some.inj ho
   have q0 := hready (e0 2) (by simp [cpBu]) rfl
   have q1 := hready (e0 5) (by simp [cpBu]) rfl
   have q2 := hready (e0 8) (by simp [cpBu]) rfl
   have q3 := hready (e0 11) (by simp [cpBu]) rfl
   have l0 := get q0 (t := 16) (v := .c (V0 cap)) (by simp [cpVals, e0])
   have l1 := get q1 (t := 19) (v := .c (V1 cap)) (by simp [cpVals, e0])
   have l2 := get q2 (t := 22) (v := .c (V2 cap)) (by simp [cpVals, e0])
   have l3 := get q3 (t := 25) (v := .c (V3 cap)) (by simp [cpVals, e0])
   obtain ⟨z, hz, hzl⟩ := h.bu
   obtain ⟨z0, z1, z2, z3, rfl⟩ : ∃ z0 z1 z2 z3, z = [z0, z1, z2, z3] := by
    match z, hzl with
    | [z0, z1, z2, z3], _ => exact ⟨z0, z1, z2, z3, rfl⟩
   have fl := h.flat cap
   have dm : ∀ {v : CVal}, Nice v → ((AVal.c v).dem).cells = some [v] := fun {v} hv => by cases v <;> first | rfl | cases hv.1; done | cases hv.2
   exact step_of (R_build (cs := [V0 cap, V1 cap, V2 cap, V3 cap]) hz (partsC_c l0 (dm fl.1) (partsC_c l1 (dm fl.2.1) (partsC_c l2 (dm fl.2.2.1) (partsC_c l3 (dm fl.2.2.2) partsC_n)))) rfl (WR_nilS rfl)) hI hd fun a' w' κ' ρ' hI' => hk _ a' w' κ' ρ' (cp_same hi hg hc (k2 _ (by omega)) (by omega) (by omega) (fun _ => ⟨q0, q1, q2, q3⟩) (by simp [cpVals])) hI'
  ·obtain rfl : cpAl tL pos = o := Option.some.inj ho
   have h14 : listed.getD 14 false = false := by
    rcases hh : listed.getD 14 false with _ | _
    ·rfl
    ·have := (hc.s hh).2
     rw [hni] at this
     cases this
   have hX : cpX zs [V0 cap, V1 cap, V2 cap, V3 cap] listed = none := by
    unfold cpX
    rw [h14, hni]
    rfl
   obtain ⟨it, z, hit, hz2, hzs, h1⟩ := zeroC_of h.z
   rw [wantA_of (t := true) (wantA_none rfl) hI.rel]
   simp only [if_true]
   left
   have hrun : (execOp a.eval (cpAl tL pos)).run P w = .ok (.value (.pointer (some ⟨w.heap.size, 0, none⟩))) (w.alloc (.cells z.cells tL)) := by
    simp [execOp, cpAl, Instr.alloc, zeroValue, typeInfo, hit, hz2, newVar, newRow]
   unfold Oper.wp
   rw [hrun]
   have hnn := h.no0 cap
   have hN := hI.rel.newAt (b := s.H.length) (cs := zs) (c := z.cells) tL (by simp [cpS]) ?_ (psl_noB (fun j => okA_noB (Nat.le_refl _) (hok j)) ?_) ?_ (by rw [hzs]; exact cellsRep_ofC _ h1) (by rw [hzs]; exact List.all_eq_true.2 fun x hx => ok_noB (Nat.zero_le _) (map_ofC_ok _ _ x hx)) (by rw [hzs]; exact fun x hx => map_ofC_ok _ _ x hx)
   ·have m2 := mv_alloc s.H.length w κ ρ (.cells z.cells tL) (.wr s.H.length) (upd ρ s.H.length w.heap.size) (fun b' hb' => upd_other _ _ (by omega))
    refine hk _ _ _ _ _ ⟨cap, fun e => hg (e.imp (fun h => h) fun e => ?_), hc.next hi (fun e => by omega) (fun e => by omega), ?_⟩ ⟨hN.put (d := some 9) (x := .c (.ptr s.H.length 0)) (dst_lt hd hI.size) (fun t ht => ?_) ?_, hI.fr.trans m2.fr, fun b' hb' => (upd_other _ _ (by omega)).trans (hI.rho b' hb'), ?_, (put_size _ _ _).trans hI.size⟩
    ·rw [getD_other hi (k2 13 (by omega))] at e
     exact e
    ·refine cp_put hi (by simp [cpVals]) (fun j t' v' hj => .inl hj) ?_
     rw [cpY_next hi (k2 13 (by omega))]
     show (s.H ++ [cpX zs [V0 cap, V1 cap, V2 cap, V3 cap] listed, cpY k (C cap) listed]).set s.H.length (some zs) = _
     rw [List.set_append_right _ _ (Nat.le_refl _), Nat.sub_self]
     have e1 : cpX zs [V0 cap, V1 cap, V2 cap, V3 cap] (listed.setIfInBounds 13 true) = some zs := by
      unfold cpX
      rw [getD_other hi (by decide), h14, getD_seti hi]
      rfl
     rw [e1]
     rfl
    ·show Value.pointer _ = .pointer (some ⟨upd ρ s.H.length w.heap.size s.H.length, 0, none⟩)
     rw [upd_same]
    ·show decide (s.H.length < _) = true
     simp [cpS]
    ·rw [put_len]
     simp [cpS]
     omega
   ·show (s.H ++ [_, _])[s.H.length]? = _
    rw [List.getElem?_append_right (Nat.le_refl _), Nat.sub_self, hX]
    rfl
   ·intro j t v hj hlj
    simp only [cpVals, List.mem_cons, Prod.mk.injEq, List.not_mem_nil, or_false] at hj
    rcases hj with ⟨rfl, rfl, rfl⟩ | ⟨rfl, rfl, rfl⟩ | ⟨rfl, rfl, rfl⟩ | ⟨rfl, rfl, rfl⟩ | ⟨rfl, rfl, rfl⟩ | ⟨rfl, rfl, rfl⟩ | ⟨rfl, rfl, rfl⟩ | ⟨rfl, rfl, rfl⟩ | ⟨rfl, rfl, rfl⟩ | ⟨rfl, rfl, rfl⟩ | ⟨rfl, rfl, rfl⟩ | ⟨rfl, rfl, rfl⟩ | ⟨rfl, rfl, rfl⟩ | ⟨rfl, rfl, rfl⟩
    all_goals first
     | rfl
     | exact hnn.1
     | exact hnn.2.1
     | exact hnn.2.2.1
     | exact hnn.2.2.2
     | (rw [hni] at hlj; cases hlj)
     | (show (!(_ == _)) = true; simp; omega)
     | (show [_, _, _, _].all (CVal.noB _) = true; simp [hnn.1, hnn.2.1, hnn.2.2.1, hnn.2.2.2]; done)
   ·intro b' ds hb
    have hb : (s.H ++ [cpX zs [V0 cap, V1 cap, V2 cap, V3 cap] listed, cpY k (C cap) listed])[b']? = some (some ds) := hb
    rcases Nat.lt_or_ge b' s.H.length with hlt | hge
    ·rw [List.getElem?_append_left hlt] at hb
     exact List.all_eq_true.2 fun x hx => ok_noB (Nat.le_refl _) (hokB b' ds hb x hx)
    ·rw [List.getElem?_append_right hge, hX] at hb
     match hm : b' - s.H.length, hb with
     | 0, hb => cases hb
     | 1, hb =>
      have hb : some (cpY k (C cap) listed) = some (some ds) := hb
      injection hb with hb
      unfold cpY at hb
      split at hb
      ·exact h.noY cap ds hb
      ·cases hb
     | k + 2, hb => cases hb
  ·obtain rfl : cpSt tL pos = o := Option.some.inj ho
   have q13 := hready (e0 13) (by simp [cpSt]) rfl
   have q12 := hready (e0 12) (by simp [cpSt]) rfl
   have l0 := get q13 (t := 9) (v := .c (.ptr s.H.length 0)) (by simp [cpVals, e0])
   have l1 := get q12 (t := 26) (v := .agg [V0 cap, V1 cap, V2 cap, V3 cap]) (by simp [cpVals, e0])
   have hX : cpX zs [V0 cap, V1 cap, V2 cap, V3 cap] listed = some zs := by
    unfold cpX
    rw [hni]
    show (if listed.getD 13 false = true then _ else _) = _
    exact if_pos q13
   have hb : (cpS s b4 k r0 r1 r2 r3 zs V0 V1 V2 V3 C cap listed).H[s.H.length]? = some (some zs) := by
    show (s.H ++ [_, _])[s.H.length]? = _
    rw [List.getElem?_append_right (Nat.le_refl _), Nat.sub_self, hX]
    rfl
   have hzl := h.zl
   have hsa : setAt zs 0 [V0 cap, V1 cap, V2 cap, V3 cap] = [V0 cap, V1 cap, V2 cap, V3 cap] := by
    match zs, hzl with
    | [_, _, _, _], _ => rfl
   have fl := h.flat cap
   have hcells : (AVal.agg [V0 cap, V1 cap, V2 cap, V3 cap]).cells = some [V0 cap, V1 cap, V2 cap, V3 cap] := by
    unfold AVal.cells
    simp [fl.1.2, fl.2.1.2, fl.2.2.1.2, fl.2.2.2.2]
   refine step_of (R_store hzL l0 hb l1 rfl hcells ⟨rfl, by omega⟩ (by rw [hsa]) (WR_nilS rfl)) hI hd fun a' w' κ' ρ' hI' => hk _ a' w' κ' ρ' ⟨cap, fun e => hg (e.imp (fun h => h) fun e => ?_), hc.next hi (fun e => by omega) (fun _ => ⟨q12, q13⟩), ?_⟩ hI'
   ·rw [getD_other hi (k2 14 (by omega))] at e
    exact e
   ·unfold cpS St.setH
    congr 1
    ·funext d
     refine psl_tail hi ?_ cpVals_ops rfl (fun j t' v' hj => .inl hj) d
     show 14 ∉ [0, 1, 2, 3, 4, 5, 6, 7, 8, 9, 10, 11, 12, 13]
     decide
    ·rw [cpY_next hi (k2 14 (by omega))]
     unfold hset
     rw [List.set_append_right _ _ (Nat.le_refl _), Nat.sub_self]
     have e1 : cpX zs [V0 cap, V1 cap, V2 cap, V3 cap] (listed.setIfInBounds 14 true) = some [V0 cap, V1 cap, V2 cap, V3 cap] := by
      unfold cpX
      rw [getD_seti hi]
      rfl
     rw [e1]
     rfl
end
theorem WR_view {ops : Array Oper} {rest : List Oper} {l : SL} {H : SH} {R : Rg} (d : Nat) (v : SE) (hv : (SS l H).sl d = v.den) (h : WR Try.prog ops rest (SS ((d, v) :: l) H) R) : WR Try.prog ops rest (SS l H) R := by
 have e : SS ((d, v) :: l) H = SS l H := by
  rw [← SS_put]
  unfold St.put
  simp only
  show St.mk _ _ = St.mk _ _
  congr 1
  funext i
  show upd (SS l H).sl d v.den i = (SS l H).sl i
  unfold upd
  split
  ·rename_i hi
   rw [hi, hv]
  ·rfl
 rwa [e] at h
end Go.Proofs.Ythnfliopmjpdmaa.Av
