/- Operations on values without addresses: make, len, slices, literals, append, strings of bytes. -/
import Derived.Test.YthnfliopmjpdmaaAvOp3
import Derived.Deep.AppendSrc
import Derived.Deep.Upon
import Derived.Laws.Tables
import Derived.Laws.IdiomStrings
namespace Go.Proofs.Ythnfliopmjpdmaa.Av
set_option linter.unusedVariables false
set_option linter.unusedSimpArgs false

/-! ### make -/
/-- n elements of these cells. -/
def repCells : List CVal → Nat → List CVal
  | [z], n => List.replicate n z
  | zs, n => (List.range (n * zs.length)).map fun j => zs.getD (j % zs.length) .any
theorem repCells_eq (zs : List CVal) (n : Nat) : repCells zs n = (List.range (n * zs.length)).map fun j => zs.getD (j % zs.length) .any := by
  unfold repCells
  split
  · rename_i z
    apply List.ext_getElem
    · simp
    · intro i h1 h2
      simp [Nat.mod_one]
  · rfl
/-- Of a slice's type: its element's type, cells, bytes and zero. -/
def mkInfo (P : Program) (t : TypeId) : Option (Nat × Nat × List CVal) :=
  match P.underlying t with
  | some (.slice e) => match P.info? e, zeroC P e with
    | some i, some zs => if zs.length = i.size ∧ 0 < i.size then some (i.size, i.bytes, zs) else none
    | _, _ => none
  | _ => none
theorem mkInfo_of {P : Program} {t : TypeId} {sz by_ : Nat} {zs : List CVal} (h : mkInfo P t = some (sz, by_, zs)) :
    ∃ e i z, P.underlying t = some (.slice e) ∧ P.info? e = some i ∧ i.zero = some z ∧ i.size = sz ∧ i.bytes = by_ ∧ zs = z.cells.toList.map ofC ∧ z.cells.size = sz ∧ 0 < sz ∧ ∀ v ∈ z.cells, v.oneCell' = true := by
  unfold mkInfo at h
  split at h
  · rename_i e hu
    split at h
    · rename_i i zs' hi hz
      split at h
      · rename_i hc
        injection h with h; injection h with e1 e2; injection e2 with e2 e3
        subst e1; subst e2; subst e3
        obtain ⟨i', z, hi', hz', rfl, h1⟩ := zeroC_of hz
        rw [hi] at hi'
        injection hi' with hi'
        subst hi'
        exact ⟨e, i, z, hu, hi, hz', rfl, rfl, rfl, by simpa using hc.1, hc.2, h1⟩
      · cases h
    · cases h
  · cases h
theorem made_rep {w : World} {κ : Nat → BK} {ρ : Nat → Nat} (z : Array Value) (n : Nat) (hz : 0 < z.size) (h1 : ∀ v ∈ z, v.oneCell' = true) : CellsRep w κ ρ (repCells (z.toList.map ofC) n) (madeCells z (n * z.size)) := by
  rw [repCells_eq]
  refine ⟨by simp [size_madeCells], fun x hx => ?_, fun l i hi hi' => ?_, fun i hi => ?_⟩
  · obtain ⟨j, _, rfl⟩ := List.mem_map.1 hx
    have : j % z.size < z.size := Nat.mod_lt _ hz
    simp [this, ofC_flat]
  · have hm : i % z.size < z.size := Nat.mod_lt _ hz
    simp [madeCells, hm]
    exact repC_ofC _
  · have hm : i % z.size < z.size := Nat.mod_lt _ hz
    simp only [madeCells, Array.getElem_map, Array.getElem_range]
    rw [getElem!_pos z (i % z.size) hm]
    exact h1 _ (Array.getElem_mem hm)
theorem repCells_ok (n m : Nat) (vs : List Value) : ∀ x ∈ repCells (vs.map ofC) m, x.ok n = true := by
  rw [repCells_eq]
  intro x hx
  obtain ⟨j, _, rfl⟩ := List.mem_map.1 hx
  rw [List.getD_eq_getElem?_getD]
  cases h : (vs.map ofC)[j % (vs.map ofC).length]? with
  | none => rfl
  | some y =>
    have := List.mem_of_getElem? h
    exact map_ofC_ok n vs y this
def aMake (P : Program) (s : St) (t : TypeId) (l c : Operand) : Option (AVal × Chg) :=
  match mkInfo P t, (s.ev l).ix, (s.ev c).ix with
  | some (sz, by_, zs), some n, some m => if n = m ∧ 0 ≤ n ∧ n ≤ 4611686018427387904 ∧ (by_ : Int) * n ≤ 281474976710656 then some (.c (.arr s.H.length 0 n.toNat n.toNat), { new := some (repCells zs n.toNat) }) else none
  | _, _, _ => none
theorem aMake_sim {P : Program} {s : St} {o : Oper} {t : TypeId} {l c : Operand} {r : AVal} {ch : Chg} (ho : o.op = .makeSlice t l c) (h : aMake P s t l c = some (r, ch)) : Sim P o s r ch := by
  unfold aMake at h
  split at h
  · rename_i sz by_ zs n m hI hn hm
    split at h
    · rename_i hc
      injection h with h; injection h with e1 e2; subst e1; subst e2
      obtain ⟨rfl, h0, h63, hb⟩ := hc
      obtain ⟨e, i, z, hu, hi, hz, rfl, rfl, rfl, hsz, hpos, h1⟩ := mkInfo_of hI
      intro a w κ ρ hR
      obtain ⟨kl, hl⟩ := hR.at_ix hn
      obtain ⟨kc, hcc⟩ := hR.at_ix hm
      have hrun := run_make (P := P) w t e i z hu hi hz kl kc n n h0 (Int.le_refl _) hb (by omega)
      have hC : CellsRep w κ ρ (repCells (z.cells.toList.map ofC) n.toNat) (madeCells z.cells (n.toNat * i.size)) := by rw [← hsz]; exact made_rep z.cells n.toNat (by omega) h1
      refine ⟨_, _, _, _, .inl (by simp only [execOp, ho, hl, hcc, Sem.run_bind, hrun]; rfl), hR.new e hC (repCells_ok _ _ _), fun d _ => ?_, ?_, (mv_alloc s.H.length w κ ρ (.cells _ e) _ ρ (fun _ _ => rfl)).fr, fun b hb => upd_other _ _ (by omega)⟩
      · show _ = _
        rw [upd_same]
      · simp [AVal.ok, CVal.ok, St.chg, St.demO, St.blkO, St.newO]
    · cases h
  · cases h

/-! ### len, slices -/
def aLen (P : Program) (s : St) (o : Oper) (t : TypeId) (x : Operand) : Option (AVal × Chg) :=
  match elemSz P t, (s.ev x).dem with
  | some _, .c (.f (.row _ len)) => some (.c (.f (.v (.int .i64 len))), {})
  | some _, .c (.arr _ _ len _) => some (.c (.f (.v (.int .i64 len))), {})
  | _, _ => aPlain P s o
theorem exec_len {P : Program} {ev : Operand → Value} {o : Oper} {t : TypeId} {x : Operand} (ho : o.op = .call { callee := .builtin .len, args := #[x], argTypes := #[t] }) {z : Nat} (hz : elemSz P t = some z) {a : Option Addr} {len cap : Nat} (hv : ev x = .slice a len cap) (w : World) : (execOp ev o).run P w = .ok (.value (.int .i64 len)) w := by
  obtain ⟨e, i, hu, hi, _⟩ := elemSz_of hz
  simp [execOp, ho, resolve, invoke, builtin, Builtin.len_, run_underlying hu w, hv, goInt]
theorem aLen_sim {P : Program} {s : St} {o : Oper} {t : TypeId} {x : Operand} {r : AVal} {ch : Chg} (ho : o.op = .call { callee := .builtin .len, args := #[x], argTypes := #[t] }) (h : aLen P s o t x = some (r, ch)) : Sim P o s r ch := by
  unfold aLen at h
  split at h
  · rename_i z cs len hz he
    injection h with h; injection h with e1 e2; subst e1; subst e2
    refine Sim.still fun a w κ ρ hR => ?_
    obtain ⟨g, oo, cap, hv, hcap, hrow⟩ | ⟨_, rfl, hv⟩ := hR.at_row he
    · exact ⟨_, exec_len ho hz hv w, fun d => RepF.v _ rfl, rfl⟩
    · exact ⟨_, exec_len ho hz hv w, fun d => RepF.v _ rfl, rfl⟩
  · rename_i z b off len cap hz he
    injection h with h; injection h with e1 e2; subst e1; subst e2
    refine Sim.still fun a w κ ρ hR => ?_
    exact ⟨_, exec_len ho hz (hR.at_arr he) w, fun d => RepF.v _ rfl, rfl⟩
  · exact aPlain_sim h
/-- A bound of a slice, if it is there. -/
def bnd (s : St) : Option Operand → Int → Option Int
  | none, d => some d
  | some x, _ => (s.ev x).ix
def aSlice (P : Program) (s : St) (o : Oper) (t : TypeId) (x : Operand) (lo hi mx : Option Operand) : Option (AVal × Chg) :=
  match elemSz P t, (s.ev x).dem with
  | some z, .c (.f (.row cs len)) => match bnd s lo 0, bnd s hi len, bnd s mx len, mx.isSome && hi.isNone with
    | some l, some h, some m, false => if 0 ≤ l ∧ l ≤ h ∧ h ≤ m ∧ m ≤ len then some (.c (.f (.row ((cs.drop (l.toNat * z)).take ((h - l).toNat * z)) (h - l).toNat)), {}) else none
    | _, _, _, _ => none
  | some z, .c (.f .nils) => match bnd s lo 0, bnd s hi 0, mx with
    | some 0, some 0, none => some (.c (.f .nils), {})
    | _, _, _ => none
  | some z, .c (.arr b off len cap) => match bnd s lo 0, bnd s hi len, mx with
    | some l, some h, none => if 0 ≤ l ∧ l ≤ h ∧ h ≤ cap then some (.c (.arr b (if (cap : Int) = l then off else off + l.toNat * z) (h - l).toNat (cap - l.toNat)), {}) else none
    | _, _, _ => none
  | _, _ => aPlain P s o
theorem Rel.bnd {s : St} {a : Act} {w : World} {κ : Nat → BK} {ρ : Nat → Nat} (h : Rel s a w κ ρ) {x : Option Operand} {d n : Int} (e : bnd s x d = some n) : (x = none ∧ n = d) ∨ ∃ y k, x = some y ∧ a.eval y = .int k n := by
  cases x with
  | none => injection e with e; exact .inl ⟨rfl, e.symm⟩
  | some y => obtain ⟨k, hk⟩ := h.at_ix e; exact .inr ⟨y, k, rfl, hk⟩
theorem run_sliceBound {P : Program} (w : World) (k : IntKind) (n : Int) (y : Nat) (c : BoundsCode) (h0 : 0 ≤ n) (h1 : n ≤ y) : (Instr.sliceBound (.int k n) y c).run P w = .ok n.toNat w := by
  simp [Instr.sliceBound, asIntOf, h0, h1]
theorem run_sliceBounds {P : Program} {s : St} {a : Act} {w : World} {κ : Nat → BK} {ρ : Nat → Nat} (hR : Rel s a w κ ρ) {lo hi mx : Option Operand} {l h m : Int} {len cap : Nat} (b : Bool) (hl : Av.bnd s lo 0 = some l) (hh : Av.bnd s hi len = some h) (hm : mx = none ∨ (Av.bnd s mx len = some m ∧ hi.isSome = true ∧ h ≤ m ∧ m ≤ cap))
    (h0 : 0 ≤ l) (h1 : l ≤ h) (h2 : h ≤ cap) : (Instr.sliceBounds b len cap (lo.map a.eval) (hi.map a.eval) (mx.map a.eval)).run P w = .ok (l.toNat, h.toNat, if mx = none then cap else m.toNat) w := by
  have key : ∀ (x : Option Operand) (n : Int) (d : Int), Av.bnd s x d = some n → (x = none ∧ n = d) ∨ ∃ y k, x = some y ∧ a.eval y = .int k n := fun x n d e => hR.bnd e
  have b1 : ∀ k (n : Int) (y : Nat) (c : BoundsCode), 0 ≤ n → n ≤ y → (Instr.sliceBound (.int k n) y c).run P w = .ok n.toNat w := fun k n y c p q => run_sliceBound w k n y c p q
  have hm' : mx = none ∨ ∃ y k, mx = some y ∧ a.eval y = .int k m ∧ hi.isSome = true ∧ h ≤ m ∧ m ≤ cap := by
    rcases hm with rfl | ⟨hm, hs, hhm, hmc⟩
    · exact .inl rfl
    · rcases key _ _ _ hm with ⟨rfl, _⟩ | ⟨y, k, rfl, hy⟩
      · exact .inl rfl
      · exact .inr ⟨y, k, rfl, hy, hs, hhm, hmc⟩
  rcases hm' with rfl | ⟨y, ky, rfl, hy, hs, hhm, hmc⟩
  · rcases key _ _ _ hl with ⟨rfl, rfl⟩ | ⟨u, k, rfl, hu⟩ <;> rcases key _ _ _ hh with ⟨rfl, rfl⟩ | ⟨u2, k2, rfl, hu2⟩
    · simp [Instr.sliceBounds]
    · simp [Instr.sliceBounds, hu2, b1 k2 h cap _ (by omega) h2]
    · simp [Instr.sliceBounds, hu, b1 k l len _ h0 h1]
    · simp [Instr.sliceBounds, hu, hu2, b1 k2 h cap _ (by omega) h2, b1 k l h.toNat _ h0 (by omega)]
  · rcases key _ _ _ hl with ⟨rfl, rfl⟩ | ⟨u, k, rfl, hu⟩ <;> rcases key _ _ _ hh with ⟨rfl, rfl⟩ | ⟨u2, k2, rfl, hu2⟩
    · cases hs
    · simp [Instr.sliceBounds, hy, hu2, b1 ky m cap _ (by omega) hmc, b1 k2 h m.toNat _ (by omega) (by omega)]
    · cases hs
    · simp [Instr.sliceBounds, hy, hu, hu2, b1 ky m cap _ (by omega) hmc, b1 k2 h m.toNat _ (by omega) (by omega), b1 k l h.toNat _ h0 (by omega)]
theorem RowAt.nil {w : World} {κ : Nat → BK} (g o : Nat) : RowAt w κ g o [] := ⟨fun i h => by simp at h, fun h => absurd rfl h⟩
theorem RowAt.drop' {w : World} {κ : Nat → BK} {g o : Nat} {cs : List FVal} (h : RowAt w κ g o cs) (n : Nat) : RowAt w κ g (o + n) (cs.drop n) := by
  rcases Nat.lt_or_ge cs.length n with hn | hn
  · rw [List.drop_eq_nil_of_le (by omega)]; exact .nil _ _
  · exact h.drop n hn
theorem aSlice_sim {P : Program} {s : St} {o : Oper} {t : TypeId} {x : Operand} {lo hi mx : Option Operand} {r : AVal} {ch : Chg} (ho : o.op = .slice t x lo hi mx) (h : aSlice P s o t x lo hi mx = some (r, ch)) : Sim P o s r ch := by
  unfold aSlice at h
  split at h
  · rename_i z cs len hz he
    split at h
    · rename_i l hh m hl hhi hm hms
      split at h
      · rename_i hc
        obtain ⟨h0, h1, h2, h3⟩ := hc
        injection h with h; injection h with e1 e2; subst e1; subst e2
        refine Sim.still fun a w κ ρ hR => ?_
        obtain ⟨g, oo, cap, hv, hcap, hrow⟩ | ⟨rfl, rfl, hv⟩ := hR.at_row he
        rotate_left
        · obtain ⟨e, i, hu, hi', hzz⟩ := elemSz_of hz
          have e1 : m = 0 := by omega
          have e2 : hh = 0 := by omega
          have e3 : l = 0 := by omega
          subst e1; subst e2; subst e3
          have hmm : mx = none ∨ (Av.bnd s mx ((0 : Nat) : Int) = some 0 ∧ hi.isSome = true ∧ (0 : Int) ≤ 0 ∧ (0 : Int) ≤ ((0 : Nat) : Int)) := by
            cases mx with
            | none => exact .inl rfl
            | some y => cases hi with
              | none => cases hms
              | some u => exact .inr ⟨hm, rfl, h2, by omega⟩
          have hb := run_sliceBounds (P := P) hR (len := 0) (cap := 0) (m := 0) (mx := mx) true hl hhi hmm (Int.le_refl _) (Int.le_refl _) (Int.le_refl _)
          refine ⟨.slice none 0 0, ?_, fun d => by simp only [List.drop_nil, List.take_nil]; exact RepF.nil0, rfl⟩
          simp only [execOp, ho, hv, Instr.sliceAt, Sem.run_bind, run_underlying hu w, Result.andThen_ok, Instr.slice, hb, sizeOf, typeInfo, program, Sem.run, hi', hzz]
          simp [Sem.run, hi']
        obtain ⟨e, i, hu, hi', hzz⟩ := elemSz_of hz
        have hmm : mx = none ∨ (Av.bnd s mx len = some m ∧ hi.isSome = true ∧ hh ≤ m ∧ m ≤ cap) := by
          cases mx with
          | none => exact .inl rfl
          | some y => cases hi with
            | none => cases hms
            | some u => exact .inr ⟨hm, rfl, h2, by omega⟩
        have hb := run_sliceBounds (P := P) hR (cap := cap) (m := m) (mx := mx) true hl hhi hmm h0 h1 (by omega)
        have hM : ∃ M, (if mx = none then cap else m.toNat) = M ∧ hh.toNat ≤ M := by
          refine ⟨_, rfl, ?_⟩
          split <;> omega
        obtain ⟨M, hM, hle⟩ := hM
        rw [hM] at hb
        refine ⟨.slice (if M = l.toNat then some ⟨g, oo, none⟩ else some ⟨g, oo + l.toNat * z, none⟩) (hh.toNat - l.toNat) (M - l.toNat), ?_, fun d => ?_, rfl⟩
        · simp only [execOp, ho, hv, Instr.sliceAt, Sem.run_bind, run_underlying hu w, Result.andThen_ok, Instr.slice, hb, sizeOf, typeInfo, program, Sem.run, hi', hzz]
          simp [Addr.add_mid, Sem.run, hi', hzz]
        · have hlen : (hh - l).toNat = hh.toNat - l.toNat := by omega
          rw [hlen]
          by_cases hMl : M = l.toNat
          · rw [if_pos hMl]
            have hz0 : hh.toNat - l.toNat = 0 := by omega
            rw [hz0]
            simp only [Nat.zero_mul, List.take_zero]
            exact repF_rowI ⟨g, oo, _, rfl, by omega, .nil _ _⟩
          · rw [if_neg hMl]
            exact repF_rowI ⟨g, oo + l.toNat * z, _, rfl, by omega, (hrow.drop' _).take _⟩
      · cases h
    · cases h
  · rename_i z hz he
    split at h
    · rename_i hl hhi
      injection h with h; injection h with e1 e2; subst e1; subst e2
      refine Sim.still fun a w κ ρ hR => ?_
      have hv : a.eval x = .slice none 0 0 := by
        have := hR.ev (l := .slot 0) x
        rw [he] at this
        exact repF_nils.1 this
      obtain ⟨e, i, hu, hi', hzz⟩ := elemSz_of hz
      have hb := run_sliceBounds (P := P) hR (len := 0) (cap := 0) (m := 0) true hl hhi (.inl rfl) (Int.le_refl _) (Int.le_refl _) (Int.le_refl _)
      refine ⟨.slice none 0 0, ?_, fun d => RepF.nils, rfl⟩
      simp only [execOp, ho, hv, Instr.sliceAt, Sem.run_bind, run_underlying hu w, Result.andThen_ok, Instr.slice, hb, sizeOf, typeInfo, program, Sem.run, hi', hzz]
      simp [Sem.run, hi']
    · cases h
  · rename_i z b off len cap hz he
    split at h
    · rename_i l hh hl hhi
      split at h
      · rename_i hc
        obtain ⟨h0, h1, h2⟩ := hc
        injection h with h; injection h with e1 e2; subst e1; subst e2
        refine Sim.still fun a w κ ρ hR => ?_
        have hv := hR.at_arr he
        obtain ⟨e, i, hu, hi', hzz⟩ := elemSz_of hz
        have hb := run_sliceBounds (P := P) hR (cap := cap) (m := 0) true hl hhi (.inl rfl) h0 h1 h2
        simp only [if_pos] at hb
        refine ⟨.slice (if cap = l.toNat then some ⟨ρ b, off, none⟩ else some ⟨ρ b, off + l.toNat * z, none⟩) (hh.toNat - l.toNat) (cap - l.toNat), ?_, fun d => ?_, by have := hR.ev_ok x; rw [dem_arr he] at this; exact this⟩
        · simp only [execOp, ho, hv, Instr.sliceAt, Sem.run_bind, run_underlying hu w, Result.andThen_ok, Instr.slice, hb, sizeOf, typeInfo, program, Sem.run, hi', hzz]
          simp [Addr.add_mid, Sem.run, hi', hzz]
        · show _ = _
          rw [show (hh - l).toNat = hh.toNat - l.toNat by omega]
          by_cases hk : cap = l.toNat
          · rw [if_pos hk, if_pos (by omega)]
          · rw [if_neg hk, if_neg (by omega)]
      · cases h
    · cases h
  · exact aPlain_sim h
end Go.Proofs.Ythnfliopmjpdmaa.Av
