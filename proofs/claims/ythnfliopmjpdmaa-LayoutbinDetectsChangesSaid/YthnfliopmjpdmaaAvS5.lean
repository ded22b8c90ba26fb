/- One operation on symbolic values: places in rows, fields, numbers, strings, lengths. -/
import Derived.Test.YthnfliopmjpdmaaAvS4
namespace Go.Proofs.Ythnfliopmjpdmaa.Av
set_option linter.unusedVariables false
set_option linter.unusedSimpArgs false

section
variable {P : Program} {ops : Array Oper} {s : St} {d : Option Tmp} {ty : TypeId} {pos : String} {af : Array Edge} {T : Tb} {r : SR} {H : SH}
def soIA (T : Tb) (H : SH) (t : Nat) (v i : SV) : Option SR :=
  match lkN T.es t with
  | some z => match i with
    | .c (.c (.f (.v (.int k n)))) => match v with
      | .c (.row z' F V e l) => match Nat.beq z z' with
        | true => some ⟨.c (.elt z' F V e l n 0), none, none, .q0, 0 ≤ n ∧ n < l.length⟩
        | false => none
      | .c (.tipr z' F V e l) => match Nat.beq z z' with
        | true => some ⟨.c (.elt z' F V e l n 0), none, none, .q0, 0 ≤ n ∧ n < l.length⟩
        | false => none
      | .c (.c (.f (.row cs len))) => some ⟨.c (.c (.ip cs (n.toNat * z))), none, none, .q0, 0 ≤ n ∧ n < len⟩
      | .c (.c (.tip z' cs len)) => some ⟨.c (.c (.ip cs (n.toNat * z))), none, none, .q0, 0 ≤ n ∧ n < len⟩
      | .c (.c (.arr b off len cap)) => match nth H b with
        | some (some (.els z' F V M e l)) => match Nat.beq z z', Nat.beq off 0 with
          | true, true => some ⟨.c (.pel b z' n 0), none, none, .q0, 0 ≤ n ∧ n < len⟩
          | _, _ => none
        | _ => some ⟨.c (.c (.ptr b (off + n.toNat * z))), none, none, .q0, 0 ≤ n ∧ n < len⟩
      | _ => none
    | _ => none
  | none => none
theorem soIA_ok (O : T.Ok P) {t : Nat} {x i : Operand} {v u : SV} (hx : s.ev x = v.den) (hi : s.ev i = u.den) (h : soIA T H t v u = some r) : Snd P ops ⟨d, .indexAddr t x i, ty, pos, af, none⟩ s r := by
  intro rest R hp hk
  unfold soIA at h
  split at h
  · rename_i z hz
    have hz := O.es_of hz
    split at h
    · rename_i k n
      split at h
      · split at h
        · rename_i hb
          have hb := Nat.eq_of_beq_eq_true hb
          subst hb
          injection h with h; subst h
          exact R_ia_row hz hx rfl hi hp.1 hp.2 rfl hk
        · cases h
      · split at h
        · rename_i hb
          have hb := Nat.eq_of_beq_eq_true hb
          subst hb
          injection h with h; subst h
          exact R_ia_row hz hx rfl hi hp.1 hp.2 rfl hk
        · cases h
      · injection h with h; subst h
        exact R_ia_row hz hx rfl hi hp.1 hp.2 rfl hk
      · injection h with h; subst h
        exact R_ia_row hz hx rfl hi hp.1 hp.2 rfl hk
      · split at h
        · split at h
          · rename_i hb hb2
            have hb := Nat.eq_of_beq_eq_true hb
            have hb2 := Nat.eq_of_beq_eq_true hb2
            subst hb; subst hb2
            injection h with h; subst h
            exact R_ia_arr hz hx hi hp.1 hp.2 (by omega) hk
          · cases h
        · injection h with h; subst h
          exact R_ia_arr hz hx hi hp.1 hp.2 rfl hk
      · cases h
    · cases h
  · cases h
def soField (T : Tb) (t f : Nat) (v : SV) : Option SR :=
  match lkN T.fa t with
  | some l => match nth0 l f with
    | some (off, q) => match v with
      | .agg cs => match q with
        | some (false, _) => match nth cs off with
          | some y => some ⟨.c y, none, none, .q0, True⟩
          | none => none
        | some (true, n) => cutK cs off n fun ds => some ⟨.agg ds, none, none, .q0, True⟩
        | none => none
      | _ => none
    | none => none
  | none => none
theorem soField_ok (O : T.Ok P) {t f : Nat} {x : Operand} {v : SV} (hx : s.ev x = v.den) (h : soField T t f v = some r) : Snd P ops ⟨d, .field t x f, ty, pos, af, none⟩ s r := by
  intro rest R hp hk
  unfold soField at h
  split at h
  · rename_i l hl
    split at h
    · rename_i off q hq
      rw [nth0_get] at hq
      have hf := O.fa_of hl hq
      split at h
      · rename_i cs
        split at h
        · split at h
          · rename_i y hy
            injection h with h; subst h
            refine R_field hf hx (r := .c y.den) ?_ hk
            unfold aPart
            simp only [nth_den hy]
          · cases h
        · obtain ⟨h1, h2⟩ := cutK_eq h
          injection h2 with h2; subst h2
          refine R_field hf hx (r := .agg _) ?_ hk
          unfold aPart
          simp only
          rw [if_pos (by rw [den_len]; exact h1), cut_den]
        · cases h
      · cases h
    · cases h
  · cases h
def soExt (i : Nat) (v : SV) : Option SR :=
  match v with
  | .tup ts => match nth ts i with
    | some (.c x) => some ⟨.c x, none, none, .q0, True⟩
    | some (.agg l) => some ⟨.agg l, none, none, .q0, True⟩
    | none => none
  | _ => none
theorem soExt_ok {x : Operand} {i : Nat} {v : SV} (hx : s.ev x = v.den) (h : soExt i v = some r) : Snd P ops ⟨d, .extract x i, ty, pos, af, none⟩ s r := by
  intro rest R hp hk
  unfold soExt at h
  split at h
  · rename_i ts
    split at h
    · rename_i y hy
      rw [nth_get] at hy
      injection h with h; subst h
      exact R_extract (y := .c y.den) hx (by rw [List.getElem?_map, hy]; rfl) hk
    · rename_i y hy
      rw [nth_get] at hy
      injection h with h; subst h
      exact R_extract (y := .agg (denL y)) hx (by rw [List.getElem?_map, hy]; rfl) hk
    · cases h
  · cases h
/-! ### Numbers -/
def eqK : IntKind → IntKind → Bool
  | .i8, .i8 => true
  | .i16, .i16 => true
  | .i32, .i32 => true
  | .i64, .i64 => true
  | .u8, .u8 => true
  | .u16, .u16 => true
  | .u32, .u32 => true
  | .u64, .u64 => true
  | _, _ => false
theorem eqK_eq : ∀ {k j : IntKind}, eqK k j = true → k = j := by
  intro k j h
  cases k <;> cases j <;> first | rfl | cases h
def is64 : IntKind → Bool
  | .i64 => true
  | _ => false
theorem is64_eq : ∀ {k : IntKind}, is64 k = true → k = .i64 := by
  intro k h
  cases k <;> first | rfl | cases h
def soInt (op : BinOp) (k : IntKind) (a b : Int) : Option SR :=
  match op with
  | .eql => some ⟨bV (decide (a = b)), none, none, .q0, True⟩
  | .neq => some ⟨bV (!decide (a = b)), none, none, .q0, True⟩
  | .lss => some ⟨bV (decide (a < b)), none, none, .q0, True⟩
  | .leq => some ⟨bV (decide (a ≤ b)), none, none, .q0, True⟩
  | .gtr => some ⟨bV (decide (b < a)), none, none, .q0, True⟩
  | .geq => some ⟨bV (decide (b ≤ a)), none, none, .q0, True⟩
  | .add => match is64 k with
    | true => some ⟨iV .i64 (a + b), none, none, .q0, -9223372036854775808 ≤ a + b ∧ a + b ≤ 9223372036854775807⟩
    | false => some ⟨iV k (k.wrap (a + b)), none, none, .q0, True⟩
  | .sub => match is64 k with
    | true => some ⟨iV .i64 (a - b), none, none, .q0, -9223372036854775808 ≤ a - b ∧ a - b ≤ 9223372036854775807⟩
    | false => some ⟨iV k (k.wrap (a - b)), none, none, .q0, True⟩
  | .mul => match is64 k with
    | true => some ⟨iV .i64 (a * b), none, none, .q0, -9223372036854775808 ≤ a * b ∧ a * b ≤ 9223372036854775807⟩
    | false => some ⟨iV k (k.wrap (a * b)), none, none, .q0, True⟩
  | .quo => match is64 k with
    | true => some ⟨iV .i64 (a / b), none, none, .q0, 0 ≤ a ∧ 0 < b ∧ a ≤ 9223372036854775807⟩
    | false => some ⟨iV k (k.wrap (a.tdiv b)), none, none, .q0, b ≠ 0⟩
  | .rem => match is64 k with
    | true => some ⟨iV .i64 (a % b), none, none, .q0, 0 ≤ a ∧ 0 < b⟩
    | false => some ⟨iV k (a.tmod b), none, none, .q0, b ≠ 0⟩
  | .and => some ⟨iV k (k.wrap ((BitVec.ofInt k.bits a &&& BitVec.ofInt k.bits b).toNat)), none, none, .q0, True⟩
  | .or => some ⟨iV k (k.wrap ((BitVec.ofInt k.bits a ||| BitVec.ofInt k.bits b).toNat)), none, none, .q0, True⟩
  | .xor => some ⟨iV k (k.wrap ((BitVec.ofInt k.bits a ^^^ BitVec.ofInt k.bits b).toNat)), none, none, .q0, True⟩
  | _ => none
theorem soInt_ok {op : BinOp} {t u : TypeId} {x y : Operand} {k : IntKind} {a b : Int} (hx : s.ev x = .c (.f (.v (.int k a)))) (hy : s.ev y = .c (.f (.v (.int k b)))) (h : soInt op k a b = some r) : Snd P ops ⟨d, .binOp op t x y u, ty, pos, af, none⟩ s r := by
  intro rest R hp hk
  unfold soInt at h
  split at h
  iterate 6
    · injection h with h; subst h
      exact R_ibin hx hy rfl hk
  iterate 3
    · split at h
      · rename_i hi
        have hi := is64_eq hi
        subst hi
        injection h with h; subst h
        first | exact R_add hx hy hp.1 hp.2 hk | exact R_sub hx hy hp.1 hp.2 hk | exact R_mul hx hy hp.1 hp.2 hk
      · injection h with h; subst h
        exact R_ibin hx hy rfl hk
  · split at h
    · rename_i hi
      have hi := is64_eq hi
      subst hi
      injection h with h; subst h
      exact R_quo hx hy hp.1 hp.2.1 hp.2.2 hk
    · injection h with h; subst h
      exact R_ibin hx hy (by simp only [ibin]; rw [if_neg hp]) hk
  · split at h
    · rename_i hi
      have hi := is64_eq hi
      subst hi
      injection h with h; subst h
      exact R_rem hx hy hp.1 hp.2 hk
    · injection h with h; subst h
      exact R_ibin hx hy (by simp only [ibin]; rw [if_neg hp]) hk
  iterate 3
    · injection h with h; subst h
      exact R_bbin hx hy rfl hk
  · cases h
def soStr (op : BinOp) (a b : ByteArray) : Option SR :=
  match op with
  | .add => some ⟨sV (a ++ b), none, none, .q0, a.size + b.size ≤ 9223372036854775807⟩
  | .eql => some ⟨bV (a.toList == b.toList), none, none, .q0, True⟩
  | .neq => some ⟨bV (!(a.toList == b.toList)), none, none, .q0, True⟩
  | .lss => some ⟨bV (Op.bytesLess a.toList b.toList), none, none, .q0, True⟩
  | _ => none
def eqS : List EK → List SC → List SC → Option Bool
  | [], [], [] => some true
  | .i :: ks, .c (.f (.v (.int .i64 a))) :: vs, .c (.f (.v (.int .i64 b))) :: us => match eqS ks vs us with
    | some r => some (decide (a = b) && r)
    | none => none
  | .s :: ks, .c (.f (.v (.string a))) :: vs, .c (.f (.v (.string b))) :: us => match eqS ks vs us with
    | some r => some ((a.toList == b.toList) && r)
    | none => none
  | .b :: ks, .c (.f (.v (.bool a))) :: vs, .c (.f (.v (.bool b))) :: us => match eqS ks vs us with
    | some r => some ((a == b) && r)
    | none => none
  | _, _, _ => none
theorem eqS_eq : ∀ {ks : List EK} {vs us : List SC} {r : Bool}, eqS ks vs us = some r → ∃ v u, toVs (denL vs) = some v ∧ toVs (denL us) = some u ∧ eqVals ks v u = some r := by
  intro ks vs us
  fun_induction eqS ks vs us with
  | case1 =>
    intro r h
    exact ⟨[], [], rfl, rfl, h⟩
  | case2 ks a vs b us r hr ih =>
    intro r' h
    injection h with h; subst h
    obtain ⟨v, u, h1, h2, h3⟩ := ih hr
    refine ⟨.int .i64 a :: v, .int .i64 b :: u, ?_, ?_, by simp only [eqVals, h3]⟩
    · simp only [denL, List.map_cons, toVs, SC.den, CVal.toV, FVal.toV] at *; rw [h1]
    · simp only [denL, List.map_cons, toVs, SC.den, CVal.toV, FVal.toV] at *; rw [h2]
  | case3 => intro r h; cases h
  | case4 ks a vs b us r hr ih =>
    intro r' h
    injection h with h; subst h
    obtain ⟨v, u, h1, h2, h3⟩ := ih hr
    refine ⟨.string a :: v, .string b :: u, ?_, ?_, by simp only [eqVals, h3]⟩
    · simp only [denL, List.map_cons, toVs, SC.den, CVal.toV, FVal.toV] at *; rw [h1]
    · simp only [denL, List.map_cons, toVs, SC.den, CVal.toV, FVal.toV] at *; rw [h2]
  | case5 => intro r h; cases h
  | case6 ks a vs b us r hr ih =>
    intro r' h
    injection h with h; subst h
    obtain ⟨v, u, h1, h2, h3⟩ := ih hr
    refine ⟨.bool a :: v, .bool b :: u, ?_, ?_, by simp only [eqVals, h3]⟩
    · simp only [denL, List.map_cons, toVs, SC.den, CVal.toV, FVal.toV] at *; rw [h1]
    · simp only [denL, List.map_cons, toVs, SC.den, CVal.toV, FVal.toV] at *; rw [h2]
  | case7 => intro r h; cases h
  | case8 => intro r h; cases h
def soBin (T : Tb) (op : BinOp) (t : Nat) (v u : SV) : Option SR :=
  match v with
  | .c (.c (.f (.v (.int k a)))) => match u with
    | .c (.c (.f (.v (.int j b)))) => match op with
      | .shl => some ⟨iV k (k.wrap (a * 2 ^ (min b.toNat k.bits))), none, none, .q0, 0 ≤ b⟩
      | .shr => some ⟨iV k (a.fdiv (2 ^ (min b.toNat k.bits))), none, none, .q0, 0 ≤ b⟩
      | op => match eqK k j with
        | true => soInt op k a b
        | false => none
    | _ => none
  | .c (.c (.f (.v (.string a)))) => match u with
    | .c (.c (.f (.v (.string b)))) => soStr op a b
    | _ => none
  | .agg vs => match u with
    | .agg us => match lkN T.eq t with
      | some ks => match eqS ks vs us with
        | some r => match op with
          | .eql => some ⟨bV r, none, none, .q0, True⟩
          | .neq => some ⟨bV (!r), none, none, .q0, True⟩
          | _ => none
        | none => none
      | none => none
    | _ => none
  | _ => none
theorem soBin_ok (O : T.Ok P) {op : BinOp} {t w : TypeId} {x y : Operand} {v u : SV} (hx : s.ev x = v.den) (hy : s.ev y = u.den) (h : soBin T op t v u = some r) : Snd P ops ⟨d, .binOp op t x y w, ty, pos, af, none⟩ s r := by
  intro rest R hp hk
  unfold soBin at h
  split at h
  · split at h
    · split at h
      · injection h with h; subst h
        exact R_shl hx hy hp hk
      · injection h with h; subst h
        exact R_shr hx hy hp hk
      · split at h
        · rename_i hj
          have hj := eqK_eq hj
          subst hj
          exact soInt_ok hx hy h rest R hp hk
        · cases h
    · cases h
  · split at h
    · unfold soStr at h
      split at h
      · injection h with h; subst h
        exact R_sadd hx hy hp hk
      iterate 3
        · injection h with h; subst h
          exact R_sbin hx hy rfl hk
      · cases h
    · cases h
  · split at h
    · split at h
      · rename_i ks hks
        split at h
        · rename_i rr hr
          obtain ⟨vv, uu, h1, h2, h3⟩ := eqS_eq hr
          obtain ⟨g1, g2⟩ := O.eq_of hks
          split at h
          · injection h with h; subst h
            exact R_eqA hx hy h1 h2 g1 (fun w => (g2 _ _ _ h3 w).1) hk
          · injection h with h; subst h
            exact R_eqA hx hy h1 h2 g1 (fun w => (g2 _ _ _ h3 w).2) hk
          · cases h
        · cases h
      · cases h
    · cases h
  · cases h
def soUn (op : UnOp) (v : SV) : Option SR :=
  match v with
  | .c (.c (.f (.v (.int k a)))) => match op with
    | .neg => match is64 k with
      | true => some ⟨iV .i64 (-a), none, none, .q0, -9223372036854775808 ≤ -a ∧ -a ≤ 9223372036854775807⟩
      | false => some ⟨iV k (k.wrap (0 - a)), none, none, .q0, True⟩
    | _ => none
  | .c (.c (.f (.v (.bool b)))) => match op with
    | .not => some ⟨bV (!b), none, none, .q0, True⟩
    | _ => none
  | _ => none
theorem soUn_ok {op : UnOp} {t : TypeId} {x : Operand} {v : SV} (hx : s.ev x = v.den) (h : soUn op v = some r) : Snd P ops ⟨d, .unOp op t x, ty, pos, af, none⟩ s r := by
  intro rest R hp hk
  unfold soUn at h
  split at h
  · split at h
    · split at h
      · rename_i hi
        have hi := is64_eq hi
        subst hi
        injection h with h; subst h
        refine R_un hx (v := .int .i64 (-_)) ?_ hk
        simp only [iun]
        rw [Int.zero_sub, wrap64 hp.1 hp.2]
      · injection h with h; subst h
        exact R_un hx rfl hk
    · cases h
  · split at h
    · injection h with h; subst h
      exact R_un hx rfl hk
    · cases h
  · cases h
def soIndex (T : Tb) (t : Nat) (v i : SV) : Option SR :=
  match v with
  | .c (.c (.f (.v (.string b)))) => match i with
    | .c (.c (.f (.v (.int k n)))) => match memN T.st t with
      | true => some ⟨iV .u8 (b.data.getD n.toNat 0).toNat, none, none, .q0, 0 ≤ n ∧ n < b.size⟩
      | false => none
    | _ => none
  | _ => none
theorem soIndex_ok (O : T.Ok P) {t : Nat} {x i : Operand} {v u : SV} (hx : s.ev x = v.den) (hi : s.ev i = u.den) (h : soIndex T t v u = some r) : Snd P ops ⟨d, .index t x i, ty, pos, af, none⟩ s r := by
  intro rest R hp hk
  unfold soIndex at h
  split at h
  · split at h
    · split at h
      · rename_i ht
        injection h with h; subst h
        exact R_index_strD (O.st_of ht) hx hi hp.1 hp.2 hk
      · cases h
    · cases h
  · cases h
def soLen (T : Tb) (t : Nat) (v : SV) : Option SR :=
  match v with
  | .c (.c (.f (.v (.string b)))) => match memN T.st t with
    | true => some ⟨iV .i64 b.size, none, none, .q0, True⟩
    | false => none
  | .c (.row z F V e l) => match lkN T.es t with
    | some _ => some ⟨iV .i64 l.length, none, none, .q0, True⟩
    | none => none
  | .c (.tipr z F V e l) => match lkN T.es t with
    | some _ => some ⟨iV .i64 l.length, none, none, .q0, True⟩
    | none => none
  | .c (.c (.f (.row cs n))) => match lkN T.es t with
    | some _ => some ⟨iV .i64 n, none, none, .q0, True⟩
    | none => none
  | .c (.c (.tip z cs n)) => match lkN T.es t with
    | some _ => some ⟨iV .i64 n, none, none, .q0, True⟩
    | none => none
  | .c (.c (.arr b off n cap)) => match lkN T.es t with
    | some _ => some ⟨iV .i64 n, none, none, .q0, True⟩
    | none => none
  | .c (.c (.f .nils)) => match lkN T.sl t with
    | some _ => some ⟨iV .i64 0, none, none, .q0, True⟩
    | none => none
  | _ => none
theorem soLen_ok (O : T.Ok P) {t : Nat} {x : Operand} {v : SV} (hx : s.ev x = v.den) (h : soLen T t v = some r) : Snd P ops ⟨d, .call { callee := .builtin .len, args := #[x], argTypes := #[t] }, ty, pos, af, none⟩ s r := by
  intro rest R hp hk
  unfold soLen at h
  split at h
  · split at h
    · rename_i ht
      injection h with h; subst h
      exact R_len_str (O.st_of ht) hx hk
    · cases h
  iterate 4
    · split at h
      · rename_i hz
        injection h with h; subst h
        exact R_len_row (O.es_of hz) hx rfl hk
      · cases h
  · split at h
    · rename_i hz
      injection h with h; subst h
      exact R_len_arr (O.es_of hz) hx hk
    · cases h
  · split at h
    · rename_i hz
      injection h with h; subst h
      exact R_len_nil (O.sl_of hz) hx hk
    · cases h
  · cases h
def soMM (mx : Bool) (v u : SV) : Option SR :=
  match v with
  | .c (.c (.f (.v (.int k a)))) => match u with
    | .c (.c (.f (.v (.int j b)))) => match mx with
      | true => some ⟨iV k (max a b), none, none, .q0, True⟩
      | false => some ⟨iV k (min a b), none, none, .q0, True⟩
    | _ => none
  | _ => none
theorem soMax_ok {t1 t2 : TypeId} {x y : Operand} {v u : SV} (hx : s.ev x = v.den) (hy : s.ev y = u.den) (h : soMM true v u = some r) : Snd P ops ⟨d, .call { callee := .builtin .max, args := #[x, y], argTypes := #[t1, t2] }, ty, pos, af, none⟩ s r := by
  intro rest R hp hk
  unfold soMM at h
  split at h
  · split at h
    · injection h with h; subst h
      exact R_max hx hy hk
    · cases h
  · cases h
theorem soMin_ok {t1 t2 : TypeId} {x y : Operand} {v u : SV} (hx : s.ev x = v.den) (hy : s.ev y = u.den) (h : soMM false v u = some r) : Snd P ops ⟨d, .call { callee := .builtin .min, args := #[x, y], argTypes := #[t1, t2] }, ty, pos, af, none⟩ s r := by
  intro rest R hp hk
  unfold soMM at h
  split at h
  · split at h
    · injection h with h; subst h
      exact R_min hx hy hk
    · cases h
  · cases h
def IsByte (m : Int) : Prop := 0 ≤ m ∧ m < 256
theorem isByte_wrap (x : Int) : IsByte (IntKind.u8.wrap x) := by
  simp only [IsByte, IntKind.wrap]
  simp [IntKind.bits, IntKind.signed]
  omega
theorem isByte_nat (b : UInt8) : IsByte (b.toNat : Int) := by
  have := b.toNat_lt
  exact ⟨by omega, by omega⟩
def bytesK : List FVal → (List UInt8 → Prop → Option SR) → Option SR
  | [], k => k [] True
  | .v (.int .u8 m) :: r, k => bytesK r fun l p => k (UInt8.ofNat m.toNat :: l) (IsByte m ∧ p)
  | _, _ => none
theorem bytesK_eq : ∀ {cs : List FVal} {k : List UInt8 → Prop → Option SR}, bytesK cs k = some r → ∃ l p, k l p = some r ∧ l.length = cs.length ∧ (p → bytesOf cs = some l) := by
  intro cs
  induction cs with
  | nil => intro k h; exact ⟨[], True, h, rfl, fun _ => rfl⟩
  | cons c cs ih =>
    intro k h
    unfold bytesK at h
    split at h
    · rename_i h0; cases h0
    · rename_i m r' h0
      injection h0 with e1 e2; subst e1; subst e2
      obtain ⟨l, p, h1, h2, h3⟩ := ih h
      refine ⟨_, _, h1, by simp [h2], fun ⟨hm, hp⟩ => ?_⟩
      unfold bytesOf
      have e : ((UInt8.ofNat m.toNat).toNat : Int) = m := by
        obtain ⟨a, b⟩ := hm
        rw [UInt8.toNat_ofNat']
        omega
      rw [if_pos e, h3 hp]
    · cases h
def soConv (T : Tb) (t u : Nat) (v : SV) : Option SR :=
  match v with
  | .c (.c (.f (.v (.int k n)))) => match lkN T.it t with
    | some _ => match lkN T.it u with
      | some j => match is64 j with
        | true => some ⟨iV .i64 n, none, none, .q0, -9223372036854775808 ≤ n ∧ n ≤ 9223372036854775807⟩
        | false => some ⟨iV j (j.wrap n), none, none, .q0, True⟩
      | none => none
    | none => none
  | .c (.c (.tip _ cs n)) => match lkN T.cb t with
    | some u' => match Nat.beq u u' with
      | true => bytesK cs fun l p => some ⟨sV ⟨l.toArray⟩, none, none, .q0, p ∧ cs.length = n⟩
      | false => none
    | none => none
  | .c (.c (.f (.row cs n))) => match lkN T.cb t with
    | some u' => match Nat.beq u u' with
      | true => bytesK cs fun l p => some ⟨sV ⟨l.toArray⟩, none, none, .q0, p ∧ cs.length = n⟩
      | false => none
    | none => none
  | _ => none
theorem soConv_ok (O : T.Ok P) {t u : Nat} {x : Operand} {v : SV} (hx : s.ev x = v.den) (h : soConv T t u v = some r) : Snd P ops ⟨d, .convert t u x, ty, pos, af, none⟩ s r := by
  intro rest R hp hk
  unfold soConv at h
  split at h
  · split at h
    · rename_i ht
      split at h
      · rename_i j hu
        split at h
        · rename_i hj
          have hj := is64_eq hj
          subst hj
          injection h with h; subst h
          exact R_conv64 (O.it_of ht) (O.it_of hu) hx hp.1 hp.2 hk
        · injection h with h; subst h
          exact R_conv_int (O.it_of ht) (O.it_of hu) hx hk
      · cases h
    · cases h
  iterate 2
    · split at h
      · rename_i u' hu
        split at h
        · rename_i hb
          have hb := Nat.eq_of_beq_eq_true hb
          subst hb
          obtain ⟨l, p, h1, h2, h3⟩ := bytesK_eq h
          injection h1 with h1; subst h1
          exact R_conv_str (O.cb_of hu) hx rfl hp.2 (h3 hp.1) hk
        · cases h
      · cases h
  · cases h
end
end Go.Proofs.Ythnfliopmjpdmaa.Av
