/- The rules of operations that make memory, of slices and of calls. -/
import Derived.Test.YthnfliopmjpdmaaAvR2
namespace Go.Proofs.Ythnfliopmjpdmaa.Av
set_option linter.unusedVariables false
set_option linter.unusedSimpArgs false

section
variable {P : Program} {ops : Array Oper} {s s' : St} {rest : List Oper} {d : Option Tmp} {ty : TypeId} {pos : String} {af : Array Edge} {g : Option (Nat × Bool)} {R : Rg}
theorem R_alloc {t : TypeId} {cs : List CVal} {n : Nat} {H' : HB} (hz : zeroC P t = some cs) (hn : s.H.length = n) (hH : s.H ++ [some cs] = H') (h : WR P ops rest ((s.setH H').put d (.c (.ptr n 0))) (R.push (.mk1 n))) : WR P ops (⟨d, .alloc t, ty, pos, af, none⟩ :: rest) s R := by
  refine WR_chg (x := .c (.ptr n 0)) (c := { new := some cs }) (wantA_none rfl) rfl ?_ (by rw [← hn]; rfl) ?_ h
  · show aAlloc P s t = _
    unfold aAlloc
    rw [hz, hn]
  · rw [chg_new, hH]
theorem R_box {t : TypeId} {x : Operand} {v : AVal} {cs : List CVal} {n : Nat} {H' : HB} (hx : s.ev x = v) (hc : v.dem.cells = some cs) (hn : s.H.length = n) (hH : s.H ++ [some cs] = H') (h : WR P ops rest ((s.setH H').put d (.c (.ptr n 0))) (R.push (.mk1 n))) : WR P ops (⟨d, .box t x, ty, pos, af, none⟩ :: rest) s R := by
  refine WR_chg (x := .c (.ptr n 0)) (c := { new := some cs }) (wantA_none rfl) rfl ?_ (by rw [← hn]; rfl) ?_ h
  · show aBox s x = _
    unfold aBox
    rw [hx, hc, hn]
  · rw [chg_new, hH]
theorem R_make {t : TypeId} {l c : Operand} {sz by_ n : Nat} {m : Int} {k j : IntKind} {zs cs : List CVal} {H' : HB} (hi : mkInfo P t = some (sz, by_, zs)) (hl : s.ev l = .c (.f (.v (.int k m)))) (hc : s.ev c = .c (.f (.v (.int j m)))) (h0 : 0 ≤ m) (h1 : m ≤ 4611686018427387904) (h2 : (by_ : Int) * m ≤ 281474976710656) (hn : s.H.length = n) (hz : repCells zs m.toNat = cs) (hH : s.H ++ [some cs] = H')
    (h : WR P ops rest ((s.setH H').put d (.c (.arr n 0 m.toNat m.toNat))) (R.push (.mk1 n))) : WR P ops (⟨d, .makeSlice t l c, ty, pos, af, none⟩ :: rest) s R := by
  refine WR_chg (x := .c (.arr n 0 m.toNat m.toNat)) (c := { new := some cs }) (wantA_none rfl) rfl ?_ (by rw [← hn]; rfl) ?_ h
  · show aMake P s t l c = _
    unfold aMake
    rw [hi, hl, hc]
    show (if m = m ∧ 0 ≤ m ∧ m ≤ 4611686018427387904 ∧ (by_ : Int) * m ≤ 281474976710656 then _ else _) = _
    rw [if_pos ⟨rfl, h0, h1, h2⟩, hn, hz]
  · rw [chg_new, hH]
theorem partsC_c {i : Nat} {x : Operand} {v : AVal} {ds : List CVal} {l : List (Nat × Operand)} {r : List (Nat × List CVal)} (hx : s.ev x = v) (hd : v.dem.cells = some ds) (h : partsC s l = some r) : partsC s ((i, x) :: l) = some ((i, ds) :: r) := by
  simp only [partsC, hx, hd, h]
theorem partsC_n : partsC s [] = some [] := rfl
theorem R_build {t : TypeId} {l : List (Nat × Operand)} {zs cs : List CVal} {p : Pl} {ps : List (Nat × List CVal)} (hb : bInfo P t = some (zs, p)) (hp : partsC s l = some ps) (hf : aFill p zs ps = some cs) (h : WR P ops rest (s.put d (.agg cs)) (R.push .q0)) : WR P ops (⟨d, .build t l.toArray, ty, pos, af, none⟩ :: rest) s R := by
  refine WR_op (wantA_none rfl) rfl ?_ (clOf0 rfl rfl rfl) h
  show aBuild P s t l = _
  unfold aBuild
  rw [hb, hp]
  dsimp only
  rw [hf]
theorem R_buildSlice {t : TypeId} {n : Nat} {l : List (Nat × Operand)} {sz by_ : Nat} {zs cs : List CVal} {fs : List FVal} {ps : List (Nat × List CVal)} (hi : mkInfo P t = some (sz, by_, zs)) (hp : partsC s l = some ps) (hn : n * sz ≤ 16777216) (hf : aFill (.elems sz) (repCells zs n) ps = some cs) (hz : fzs cs = some fs) (h : WR P ops rest (s.put d (.c (.tip sz fs n))) (R.push .q0)) : WR P ops (⟨d, .buildSlice t n l.toArray, ty, pos, af, none⟩ :: rest) s R := by
  refine WR_op (wantA_none rfl) rfl ?_ (clOf0 rfl rfl rfl) h
  show aBuildSlice P s t n l = _
  unfold aBuildSlice
  rw [hi, hp]
  dsimp only
  rw [if_pos hn, hf]
  dsimp only
  rw [hz]
theorem R_slice_row {t : TypeId} {x : Operand} {v : AVal} {lo hi : Option Operand} {z len : Nat} {cs cs' : List FVal} {l r : Int} {len' : Nat} (hz : elemSz P t = some z) (hx : s.ev x = v) (hv : v.dem = .c (.f (.row cs len))) (hl : bnd s lo 0 = some l) (hr : bnd s hi len = some r) (h0 : 0 ≤ l) (h1 : l ≤ r) (h2 : r ≤ len) (hc : (cs.drop (l.toNat * z)).take ((r - l).toNat * z) = cs') (hn : (r - l).toNat = len') (h : WR P ops rest (s.put d (.c (.f (.row cs' len')))) (R.push .q0)) :
    WR P ops (⟨d, .slice t x lo hi none, ty, pos, af, none⟩ :: rest) s R := by
  refine WR_op (wantA_none rfl) rfl ?_ (clOf0 rfl rfl rfl) h
  show aSlice P s _ t x lo hi none = _
  unfold aSlice
  rw [hz, hx, hv]
  dsimp only
  rw [hl, hr]
  simp only [bnd, Option.isSome_none, Bool.false_and]
  rw [if_pos ⟨h0, h1, h2, Int.le_refl _⟩, hc, hn]
theorem R_append_tip {t tx : TypeId} {u : Tmp} {y : Operand} {sz by_ n len : Nat} {zs : List CVal} {cs fs : List FVal} (hi : mkInfo P t = some (sz, by_, zs)) (hx : s.ev (.tmp u) = .c (.tip sz cs len)) (hs : srcCells P s sz tx y = some (n, fs)) {fp : List Nat} (hfp : arrB (s.ev y).dem = fp) (h1 : len + n ≤ 4611686018427387904) (h2 : (len + n) * by_ ≤ 140737488355328)
    (h : WR P ops rest ((s.put (some u) (.c (.f (.row cs len)))).put d (.c (.tip sz (cs ++ fs) (len + n)))) (R.push ⟨fp, [], [], none, true, false⟩)) : WR P ops (⟨d, .call { callee := .builtin .append, args := #[.tmp u, y], argTypes := #[t, tx] }, ty, pos, af, none⟩ :: rest) s R := by
  have hx' : s.sl u = .c (.tip sz cs len) := hx
  refine WR_chg (x := .c (.tip sz (cs ++ fs) (len + n))) (c := { dem := some u }) (wantA_none rfl) rfl ?_ (by rw [← hfp]; rfl) ?_ h
  · show aAppend P s t tx (.tmp u) y = _
    unfold aAppend
    rw [hi]
    dsimp only
    rw [hs]
    dsimp only
    have hh : holds s (.tmp u) = some (u, sz, cs, len) := by unfold holds; simp only [hx]
    rw [hh]
    dsimp only
    rw [if_pos ⟨rfl, h1, h2⟩]
  · simp only [St.chg, St.demO, St.blkO, St.newO, St.dem, hx', AVal.dem, CVal.dem, St.put]
theorem R_append_nil {t tx : TypeId} {x y : Operand} {sz by_ n : Nat} {zs : List CVal} {fs : List FVal} (hi : mkInfo P t = some (sz, by_, zs)) (hx : s.ev x = .c (.f .nils)) (hs : srcCells P s sz tx y = some (n, fs)) {fp : List Nat} (hfp : arrB (s.ev y).dem = fp) (h1 : n ≤ 4611686018427387904) (h2 : n * by_ ≤ 140737488355328)
    (h : WR P ops rest (s.put d (.c (.tip sz fs n))) (R.push ⟨fp, [], [], none, false, false⟩)) : WR P ops (⟨d, .call { callee := .builtin .append, args := #[x, y], argTypes := #[t, tx] }, ty, pos, af, none⟩ :: rest) s R := by
  refine WR_op (wantA_none rfl) rfl ?_ (by rw [← hfp]; rfl) h
  show aAppend P s t tx x y = _
  unfold aAppend
  rw [hi]
  dsimp only
  rw [hs]
  dsimp only
  have hh : holds s x = none := by unfold holds; split <;> simp [hx]
  rw [hh, hx]
  dsimp only
  rw [if_pos ⟨h1, h2⟩]
theorem src_row {sz tx n : Nat} {y : Operand} {v : AVal} {cs : List FVal} (hy : s.ev y = v) (hv : v.dem = .c (.f (.row cs n))) (hz : elemSz P tx = some sz) (hl : cs.length = n * sz) : srcCells P s sz tx y = some (n, cs) := by
  unfold srcCells
  rw [hy, hv, hz]
  simp only [hl, and_self, if_true]
theorem src_nil {sz tx z : Nat} {y : Operand} (hy : s.ev y = .c (.f .nils)) (hz : elemSz P tx = some z) : srcCells P s sz tx y = some (0, []) := by
  unfold srcCells
  rw [hy]
  show (match elemSz P tx with | some z => some (0, []) | none => none) = _
  rw [hz]
theorem R_conv_str {t u : TypeId} {x : Operand} {v : AVal} {cs : List FVal} {len : Nat} {l : List UInt8} (hc : cvBytes P t u = true) (hx : s.ev x = v) (hv : v.dem = .c (.f (.row cs len))) (hl : cs.length = len) (hb : bytesOf cs = some l) (h : WR P ops rest (s.put d (.c (.f (.v (.string ⟨l.toArray⟩))))) (R.push .q0)) : WR P ops (⟨d, .convert t u x, ty, pos, af, none⟩ :: rest) s R := by
  refine WR_op (wantA_none rfl) rfl ?_ (clOf0 rfl rfl rfl) h
  show aConvert P s _ t u x = _
  unfold aConvert
  rw [hx, hv]
  dsimp only
  rw [hc, hb]
  simp [hl]
/-- The lesser and the greater of two. -/
theorem R_max {t1 t2 : TypeId} {x y : Operand} {k j : IntKind} {a b : Int} (hx : s.ev x = .c (.f (.v (.int k a)))) (hy : s.ev y = .c (.f (.v (.int j b)))) (h : WR P ops rest (s.put d (.c (.f (.v (.int k (max a b)))))) (R.push .q0)) :
    WR P ops (⟨d, .call { callee := .builtin .max, args := #[x, y], argTypes := #[t1, t2] }, ty, pos, af, none⟩ :: rest) s R := by
  refine WR_op (wantA_none rfl) rfl ?_ (clOf0 (by show arrB (s.ev y).dem = []; rw [hy]; rfl) rfl rfl) h
  show aPlain P s _ = _
  refine (aPlain_of (v := .int k (max a b)) rfl ?_ ?_).trans rfl
  · show ([x, y].all fun x => (s.ev x).toV.isSome) = true
    simp [ev_some hx, ev_some hy]
  · simp only [execOp, resolve, List.map_toArray, List.map_cons, List.map_nil, pr_bind, pr_pure, Option.bind_some, invoke, builtin, env_of hx, env_of hy, Builtin.max_, List.foldlM_cons, List.foldlM_nil, Builtin.max2]
    have : (if b > a then b else a) = max a b := by rw [Int.max_def]; split <;> split <;> omega
    rw [this]
theorem R_min {t1 t2 : TypeId} {x y : Operand} {k j : IntKind} {a b : Int} (hx : s.ev x = .c (.f (.v (.int k a)))) (hy : s.ev y = .c (.f (.v (.int j b)))) (h : WR P ops rest (s.put d (.c (.f (.v (.int k (min a b)))))) (R.push .q0)) :
    WR P ops (⟨d, .call { callee := .builtin .min, args := #[x, y], argTypes := #[t1, t2] }, ty, pos, af, none⟩ :: rest) s R := by
  refine WR_op (wantA_none rfl) rfl ?_ (clOf0 (by show arrB (s.ev y).dem = []; rw [hy]; rfl) rfl rfl) h
  show aPlain P s _ = _
  refine (aPlain_of (v := .int k (min a b)) rfl ?_ ?_).trans rfl
  · show ([x, y].all fun x => (s.ev x).toV.isSome) = true
    simp [ev_some hx, ev_some hy]
  · simp only [execOp, resolve, List.map_toArray, List.map_cons, List.map_nil, pr_bind, pr_pure, Option.bind_some, invoke, builtin, env_of hx, env_of hy, Builtin.min_, List.foldlM_cons, List.foldlM_nil, Builtin.min2]
    have : (if b < a then b else a) = min a b := by rw [Int.min_def]; split <;> split <;> omega
    rw [this]
/-- A call with what the caller hands over. -/
theorem WR_call {o : Oper} {f : FuncId} {xs : List Operand} (hw : wantA ops s o = some true) (hc : callOf o = some (f, xs)) (bs L : List Nat) {args args' : List AVal} {Hs Hs' H2 : HB} {r r2 : AVal} (hO : Ok P f args' Hs r Hs') {n : Nat} (hn : s.H.length = n) (h1 : bs.Nodup) (h2 : ∀ b ∈ bs, b < n) (h3 : Hs.map (renB (sig n bs)) = (bs.map fun b => s.H.getD b none)) (h4 : ∀ x ∈ args', x.ok Hs.length = true) (h5 : Hs.all (okB Hs.length) = true) (h6 : Hs'.all (okB Hs'.length) = true)
    (h7 : args'.map (AVal.ren (sig n bs)) = args) (h7' : (xs.map fun x => ((s.ev x).h).lend s.H L) = args) (h8 : ∀ b ∈ L, b ∉ bs) (h9 : L = [] ∨ (r.bare = true ∧ Hs'.all bareB = true)) {c : Cl} (hcl : (⟨bs ++ L, [], bs, if Hs'.length = bs.length then none else some n, false, false⟩ : Cl) = c) (hr : r.ren (sig n bs) = r2) (hH : putBack s.H bs (Hs'.map (renB (sig n bs))) = H2)
    (h : WR P ops rest ((s.setH H2).put o.dst r2) (R.push c)) : WR P ops (o :: rest) s R := by
  refine WR_cons ?_
  unfold WOp
  rw [hw, hc]
  dsimp only
  rw [if_pos rfl]
  subst hn
  refine .inr ⟨bs, L, args', Hs, Hs', r, hO, h1, h2, h3, h4, h5, h6, h7.trans h7'.symm, h8, h9, ?_⟩
  rw [hcl, hr, hH]
  exact h
/-- A symbolic guard. -/
theorem WR_gsplit {o oj : Oper} {j : Nat} {want b : Bool} {dj : Tmp} (h : o.guard = some (j, want)) (h1 : ops[j]? = some oj) (h2 : oj.dst = some dj) (h3 : s.ev (.tmp dj) = .c (.f (.v (.bool b)))) (ht : b = true → WR P ops (o :: rest) s R) (hf : b = false → WR P ops (o :: rest) s R) : WR P ops (o :: rest) s R := by
  cases b with
  | true => exact ht rfl
  | false => exact hf rfl
theorem wantA_f1 {o oj : Oper} {j : Nat} {b : Bool} {d : Tmp} (h : o.guard = some (j, true)) (h1 : ops[j]? = some oj) (h2 : oj.dst = some d) (h3 : s.ev (.tmp d) = .c (.f (.v (.bool b)))) (hb : b = false) : wantA ops s o = some false := by
  rw [wantA_some h h1 h2 h3, hb]; rfl
theorem wantA_f0 {o oj : Oper} {j : Nat} {b : Bool} {d : Tmp} (h : o.guard = some (j, false)) (h1 : ops[j]? = some oj) (h2 : oj.dst = some d) (h3 : s.ev (.tmp d) = .c (.f (.v (.bool b)))) (hb : b = true) : wantA ops s o = some false := by
  rw [wantA_some h h1 h2 h3, hb]; rfl
/-- An operation that is wanted. -/
theorem R_want {op : Op} {gg : Nat × Bool} (hw : Wt ops s ⟨d, op, ty, pos, af, some gg⟩) (h : WR P ops (⟨d, op, ty, pos, af, none⟩ :: rest) s R) : WR P ops (⟨d, op, ty, pos, af, some gg⟩ :: rest) s R := by
  have hex : ∀ ev, execOp ev ⟨d, op, ty, pos, af, some gg⟩ = execOp ev ⟨d, op, ty, pos, af, none⟩ := fun ev => by cases op <;> rfl
  have hpl : aPlain P s ⟨d, op, ty, pos, af, some gg⟩ = aPlain P s ⟨d, op, ty, pos, af, none⟩ := by unfold aPlain; rw [hex]
  have haop : ∀ tr, aop P tr s ⟨d, op, ty, pos, af, some gg⟩ = aop P tr s ⟨d, op, ty, pos, af, none⟩ := fun tr => by
    cases op <;> first | rfl | exact hpl | (simp only [aop, aIndex, aSlice, aConvert, hpl]; done) | (simp only [aop, aCall, aLen, hpl]; done)
  have key : ∀ K : Cl → St → Prop, WOp P ops ⟨d, op, ty, pos, af, none⟩ s K → WOp P ops ⟨d, op, ty, pos, af, some gg⟩ s K := by
    intro K hk
    unfold WOp at hk ⊢
    rw [hw]
    rw [wantA_none rfl] at hk
    dsimp only at hk ⊢
    rw [if_pos rfl] at hk ⊢
    have hcl : callOf ⟨d, op, ty, pos, af, some gg⟩ = callOf ⟨d, op, ty, pos, af, none⟩ := rfl
    rw [hcl]
    cases hc : callOf ⟨d, op, ty, pos, af, none⟩ with
    | some fx => rw [hc] at hk; exact hk
    | none =>
      rw [hc] at hk
      rcases hk with ⟨x, c, h1, h2⟩ | ⟨v, h1, h2⟩
      · exact .inl ⟨x, c, (haop _).trans h1, h2⟩
      · exact .inr ⟨v, ⟨h1.op, h1.plain, fun w => by rw [hex]; exact h1.run w⟩, h2⟩
  refine ⟨?_⟩
  have h := h.out
  cases R with
  | plain K => exact key (fun _ s' => WOps P ops rest s' K) h
  | drawn acc K => exact key (fun c s' => WOpsD P ops rest s' (c :: acc) K) h
theorem R_skip {op : Op} (hw : wantA ops s ⟨d, op, ty, pos, af, g⟩ = some false) (h : WR P ops rest (s.put d (.c .und)) (R.push .q0)) : WR P ops (⟨d, op, ty, pos, af, g⟩ :: rest) s R := WR_skip hw h
theorem R_pure {c : Call} {f : FuncId} {xs : List Operand} {args : List AVal} {r : AVal} (hc : callOf ⟨d, .call c, ty, pos, af, none⟩ = some (f, xs)) (ha : (xs.map fun x => (s.ev x).h) = args) (hok : (args.all (AVal.ok 0)) = true) (hO : Ok P f args [] r []) (h : WR P ops rest (s.put d r) (R.push .q0)) : WR P ops (⟨d, .call c, ty, pos, af, none⟩ :: rest) s R := WR_pure (wantA_none rfl) hc ha hok hO h
theorem args_c {x : Operand} {v : AVal} {xs : List Operand} {l : List AVal} (hx : s.ev x = v) (h : (xs.map fun x => (s.ev x).h) = l) : ((x :: xs).map fun x => (s.ev x).h) = v.h :: l := by simp [hx, h]
theorem args_n : (([] : List Operand).map fun x => (s.ev x).h) = [] := rfl
theorem sig_id (n : Nat) : sig n (List.range n) = id := by
  funext i
  unfold sig
  rcases Nat.lt_or_ge i n with h | h
  · rw [List.getD_eq_getElem?_getD, List.getElem?_range h]; rfl
  · rw [List.getD_eq_getElem?_getD, List.getElem?_eq_none (by simpa using h)]
    simp only [Option.getD_none, List.length_range, id]
    omega
theorem CVal.ren_id (x : CVal) : x.ren id = x := by cases x <;> rfl
theorem map_ren_id (l : List CVal) : l.map (CVal.ren id) = l := by rw [List.map_congr_left (g := id) (fun x _ => CVal.ren_id x)]; simp
theorem TVal.ren_id (x : TVal) : x.ren id = x := by
  cases x with
  | c x => simp [TVal.ren, CVal.ren_id]
  | agg cs => simp [TVal.ren, map_ren_id]
theorem AVal.ren_id (x : AVal) : x.ren id = x := by
  cases x with
  | c x => simp [AVal.ren, CVal.ren_id]
  | agg cs => simp [AVal.ren, map_ren_id]
  | tup ts => simp only [AVal.ren]; rw [List.map_congr_left (g := id) (fun x _ => TVal.ren_id x)]; simp
theorem renB_id (H : HB) : H.map (renB id) = H := by
  rw [List.map_congr_left (g := id) (fun x _ => by cases x <;> simp [renB, map_ren_id])]; simp
theorem CVal.lend_nil {H : HB} (x : CVal) : x.lend H [] = x := by cases x <;> simp [CVal.lend]
theorem map_lend_nil {H : HB} (l : List CVal) : l.map (CVal.lend H []) = l := by rw [List.map_congr_left (g := id) (fun x _ => CVal.lend_nil x)]; simp
theorem AVal.lend_nil {H : HB} (x : AVal) : x.lend H [] = x := by
  cases x with
  | c x => simp [AVal.lend, CVal.lend_nil]
  | agg cs => simp [AVal.lend, map_lend_nil]
  | tup ts => simp only [AVal.lend]; rw [List.map_congr_left (g := id) (fun x _ => by cases x <;> simp [TVal.lend, CVal.lend_nil, map_lend_nil])]; simp
theorem putBack_range : ∀ (B A Cs : HB), B.length ≤ Cs.length → putBack (A ++ B) (List.range' A.length B.length) Cs = A ++ Cs
  | [], A, Cs, _ => by simp [putBack]
  | b :: B, A, [], h => by simp at h
  | b :: B, A, c :: Cs, h => by
    simp only [List.length_cons, List.range'_succ, putBack]
    have e1 : (A ++ b :: B).set A.length c = (A ++ [c]) ++ B := by simp
    have := putBack_range B (A ++ [c]) Cs (by simpa using h)
    rw [e1]
    simpa using this
/-- A callee that sees some of the caller's blocks under numbers of its own. -/
theorem R_call (bs : List Nat) {c : Call} {f : FuncId} {xs : List Operand} {args args' : List AVal} {H Hs Hs' H2 : HB} {r r2 : AVal} {n : Nat} {q : Cl} (hc : callOf ⟨d, .call c, ty, pos, af, none⟩ = some (f, xs)) (ha : (xs.map fun x => (s.ev x).h) = args) (hH : s.H = H) (hO : Ok P f args' Hs r Hs') (h7 : args'.map (AVal.ren (sig H.length bs)) = args) (hn : H.length = n) (h3 : Hs.map (renB (sig n bs)) = (bs.map fun b => H.getD b none)) (h1 : bs.Nodup) (h2 : (bs.all fun b => Nat.blt b n) = true) (h4 : args'.all (AVal.ok Hs.length) = true) (h5 : Hs.all (okB Hs.length) = true) (h6 : Hs'.all (okB Hs'.length) = true)
    (hr : r.ren (sig n bs) = r2) (hH2 : putBack H bs (Hs'.map (renB (sig n bs))) = H2) (hq : (⟨bs, [], bs, if Hs'.length = bs.length then none else some n, false, false⟩ : Cl) = q)
    (h : WR P ops rest ((s.setH H2).put d r2) (R.push q)) : WR P ops (⟨d, .call c, ty, pos, af, none⟩ :: rest) s R := by
  subst hH; subst hn
  refine WR_call (n := s.H.length) (r2 := r2) (H2 := H2) (c := q) (wantA_none rfl) hc bs [] hO rfl h1 (fun b hb => by simpa using List.all_eq_true.1 h2 b hb) h3 (List.all_eq_true.1 h4) h5 h6 (args := args) h7 ?_ (by simp) (.inl rfl) (by rw [← hq, List.append_nil]) hr hH2 h
  rw [← ha]
  exact List.map_congr_left fun x _ => AVal.lend_nil _
/-- A callee that is lent blocks as data. -/
theorem R_lend (L : List Nat) {c : Call} {f : FuncId} {xs : List Operand} {args : List AVal} {H : HB} {r : AVal} (hc : callOf ⟨d, .call c, ty, pos, af, none⟩ = some (f, xs)) (hH : s.H = H) (ha : (xs.map fun x => ((s.ev x).h).lend H L) = args) (hO : Ok P f args [] r []) (h4 : args.all (AVal.ok 0) = true) (hb : r.bare = true)
    (h : WR P ops rest (s.put d r) (R.push ⟨L, [], [], none, false, false⟩)) : WR P ops (⟨d, .call c, ty, pos, af, none⟩ :: rest) s R := by
  subst hH
  have hz : ∀ i, i < 0 → sig s.H.length [] i = id i := fun i hi => by omega
  refine WR_call (n := s.H.length) (r2 := r) (H2 := s.H) (c := ⟨L, [], [], none, false, false⟩) (wantA_none rfl) hc [] L hO rfl List.nodup_nil (by simp) rfl (List.all_eq_true.1 h4) rfl rfl (args := args) ?_ ha (by simp) (.inr ⟨hb, rfl⟩) rfl ?_ (by simp [putBack]) h
  · rw [List.map_congr_left (g := id) (fun x hx => by rw [AVal.ren_congr hz (List.all_eq_true.1 h4 x hx)]; exact AVal.ren_id x)]; simp
  · rw [AVal.ren_congr hz hO.rok]; exact AVal.ren_id r
/-- A callee that sees all the caller's blocks under the caller's numbers. -/
theorem R_same {c : Call} {f : FuncId} {xs : List Operand} {args : List AVal} {H H' : HB} {r : AVal} {q : Cl} (hc : callOf ⟨d, .call c, ty, pos, af, none⟩ = some (f, xs)) (ha : (xs.map fun x => (s.ev x).h) = args) (hH : s.H = H) (hO : Ok P f args H r H') (hok : (args.all (AVal.ok H.length)) = true) (hHok : H.all (okB H.length) = true) (hHok' : H'.all (okB H'.length) = true) (hq : (⟨List.range H.length, [], List.range H.length, if H'.length = H.length then none else some H.length, false, false⟩ : Cl) = q)
    (h : WR P ops rest ((s.setH H').put d r) (R.push q)) : WR P ops (⟨d, .call c, ty, pos, af, none⟩ :: rest) s R := by
  subst hH
  have hid := sig_id s.H.length
  refine R_call (List.range s.H.length) hc ha rfl hO ?_ rfl ?_ List.nodup_range (List.all_eq_true.2 fun b hb => by simpa using hb) hok hHok hHok' (r2 := r) (H2 := H') ?_ ?_ (by rw [← hq, List.length_range]) h
  · rw [hid, List.map_congr_left (g := id) (fun x _ => AVal.ren_id x)]; simp
  · rw [hid, renB_id]
    apply List.ext_getElem
    · simp
    · intro i h1 h2
      simp only [List.getElem_map, List.getElem_range, List.getD_eq_getElem?_getD, List.getElem?_eq_getElem h1, Option.getD_some]
  · rw [hid, AVal.ren_id]
  · rw [hid, renB_id]
    have := putBack_range s.H [] H' hO.len
    rw [List.range_eq_range']
    simpa using this
/-- A slice that grows is taken out of its cell. -/
theorem R_load_tip {t : TypeId} {x : Operand} {n b off : Nat} {cells : List CVal} {sz : Nat} {cs : List FVal} {len : Nat} {H' : HB} (hf : feeds ops ⟨d, .load t x, ty, pos, af, none⟩ = true) (ht : tsz P t = some (false, n)) (hx : s.ev x = .c (.ptr b off)) (hb : s.H[b]? = some (some cells)) (hy : cells[off]? = some (.tip sz cs len)) (hH : hset s.H b (cells.modify off CVal.dem) = H') (h : WR P ops rest ((s.setH H').put d (.c (.tip sz cs len))) (R.push (.tk b))) : WR P ops (⟨d, .load t x, ty, pos, af, none⟩ :: rest) s R := by
  refine WR_chg (x := .c (.tip sz cs len)) (c := { blk := some (b, cells.modify off CVal.dem) }) (wantA_none rfl) rfl ?_ (by rw [hf]; unfold clOf; show (⟨ptrB (s.ev x), _, _, _, _, _⟩ : Cl) = _; rw [hx]; rfl) ?_ h
  · show aLoad P (feeds ops _) s t x = _
    unfold aLoad
    rw [ht, hx]
    dsimp only
    rw [hb]
    dsimp only
    rw [hy, hf]
  · rw [chg_blk, hH]
/-- A cell is read as data. -/
theorem R_load_dem {t : TypeId} {x : Operand} {n b off : Nat} {cells : List CVal} {y : CVal} (hf : feeds ops ⟨d, .load t x, ty, pos, af, none⟩ = false) (ht : tsz P t = some (false, n)) (hx : s.ev x = .c (.ptr b off)) (hb : s.H[b]? = some (some cells)) (hy : cells[off]? = some y) (h : WR P ops rest (s.put d (.c y.dem)) (R.push (.ld false b))) : WR P ops (⟨d, .load t x, ty, pos, af, none⟩ :: rest) s R := by
  refine WR_op (wantA_none rfl) rfl ?_ (by rw [hf]; exact clOf_ld hx) h
  show aLoad P (feeds ops _) s t x = _
  unfold aLoad
  rw [ht, hx]
  dsimp only
  rw [hb]
  dsimp only
  rw [hy, hf]
/-- A slice that grows is laid into a cell. -/
theorem R_store_tip {t : TypeId} {x : Operand} {u : Tmp} {q : Bool} {b off : Nat} {cells : List CVal} {sz : Nat} {cs : List FVal} {len : Nat} {H' : HB} (ht : tsz P t = some (q, 1)) (hx : s.ev x = .c (.ptr b off)) (hb : s.H[b]? = some (some cells)) (hy : s.ev (.tmp u) = .c (.tip sz cs len)) (hl : Nat.blt off cells.length = true) (hH : hset s.H b (cells.set off (.tip sz cs len)) = H')
    (h : WR P ops rest ((s.put (some u) (.c (.f (.row cs len)))).setH H') (R.push (.stt b))) : WR P ops (⟨none, .store t x (.tmp u), ty, pos, af, none⟩ :: rest) s R := by
  have hy' : s.sl u = .c (.tip sz cs len) := hy
  refine WR_chg (x := .c .any) (c := { dem := some u, blk := some (b, cells.set off (.tip sz cs len)) }) (wantA_none rfl) rfl ?_ (by unfold clOf; show (⟨ptrB (s.ev x), _, _, _, _, _⟩ : Cl) = _; rw [hx]; rfl) ?_ h
  · show aStore P s t x (.tmp u) = _
    unfold aStore
    rw [ht, hx]
    dsimp only
    rw [hb]
    dsimp only
    have hh : holds s (.tmp u) = some (u, sz, cs, len) := by unfold holds; simp only [hy]
    rw [hh]
    dsimp only
    rw [if_pos ⟨rfl, by simpa using hl⟩]
  · rw [← hH]
    simp only [St.chg, St.demO, St.blkO, St.newO, St.dem, hy', AVal.dem, CVal.dem, St.put, St.setH]
theorem R_pickT {c x y : Operand} {b : Bool} {v : AVal} (hc : s.ev c = .c (.f (.v (.bool b)))) (hb : b = true) (hx : s.ev x = v) (hv : Flat v = true) (h : WR P ops rest (s.put d v) (R.push .q0)) : WR P ops (⟨d, .pick c x y, ty, pos, af, none⟩ :: rest) s R := by
  subst hb
  refine R_pick hc hx rfl ?_
  rw [if_pos rfl, flat_dem hv]
  exact h
theorem R_pickF {c x y : Operand} {b : Bool} {v : AVal} (hc : s.ev c = .c (.f (.v (.bool b)))) (hb : b = false) (hy : s.ev y = v) (hv : Flat v = true) (h : WR P ops rest (s.put d v) (R.push .q0)) : WR P ops (⟨d, .pick c x y, ty, pos, af, none⟩ :: rest) s R := by
  subst hb
  refine R_pick hc rfl hy ?_
  rw [if_neg (by decide), flat_dem hv]
  exact h
variable {D : Array Oper → St → (St → Prop) → Prop} {n0 : Nat} {K : AExit → St → Prop}
theorem W_condT {c : Operand} {a b : Code} {t : Bool} (hc : s.ev c = .c (.f (.v (.bool t)))) (ht : t = true) (h1 : W P D n0 a s K) : W P D n0 (.cond c a b) s K := W_cond hc (fun _ => h1) (fun h => by rw [h] at ht; cases ht)
theorem W_condF {c : Operand} {a b : Code} {t : Bool} (hc : s.ev c = .c (.f (.v (.bool t)))) (ht : t = false) (h1 : W P D n0 b s K) : W P D n0 (.cond c a b) s K := W_cond hc (fun h => by rw [h] at ht; cases ht) (fun _ => h1)
theorem res_tmp {t : Tmp} {v : AVal} {y : TVal} {rs : List ResultVar} {ys : List TVal} (hv : s.ev (.tmp t) = v) (hy : v.dem.t = some y) {z : TVal} (hz : y.nz = z) (h : resL P s rs = some ys) : resL P s (.tmp t :: rs) = some (z :: ys) := by
  simp only [resL, res1, hv, hy, h, Option.map_some, hz]
theorem res_nil : resL P s [] = some [] := rfl
theorem bnd_none {m : Int} : bnd s none m = some m := rfl
theorem bnd_some {x : Operand} {k : IntKind} {n m : Int} (h : s.ev x = .c (.f (.v (.int k n)))) : bnd s (some x) m = some n := by
  simp only [bnd, h, AVal.ix]
theorem nz_v {x : Value} : CVal.nz (.f (.v x)) = .f (.v x) := rfl
theorem nz_row {cs : List FVal} {n : Nat} : CVal.nz (.f (.row cs n)) = .f (.row cs n) := rfl
theorem nz_nils : CVal.nz (.f .nils) = .f (.row [] 0) := rfl
theorem nz_ip {cs : List FVal} {n : Nat} : CVal.nz (.ip cs n) = .ip cs n := rfl
theorem nz_ptr {b n : Nat} : CVal.nz (.ptr b n) = .ptr b n := rfl
theorem nz_arr {b n l c : Nat} : CVal.nz (.arr b n l c) = .arr b n l c := rfl
theorem nz_tip {z l : Nat} {cs : List FVal} : CVal.nz (.tip z cs l) = .tip z cs l := rfl
theorem nz_und : CVal.nz .und = .und := rfl
theorem nz_any : CVal.nz .any = .any := rfl
theorem CVal.Le.of_eq {x y : CVal} (h : x = y) : CVal.Le x y := h ▸ .refl x
theorem LeL.of_eq {x y : List CVal} (h : x = y) : LeL x y := h ▸ .refl x
theorem res_celln {x : Tmp} {t : TypeId} {n b off : Nat} {cells cs : List CVal} {z : TVal} {rs : List ResultVar} {ys : List TVal} (ht : tsz P t = some (true, n)) (hx : s.ev (.tmp x) = .c (.ptr b off)) (hb : s.H[b]? = some (some cells)) (hl : off + n ≤ cells.length) (hc : ((cells.drop off).take n).map CVal.dem = cs) (hz : TVal.nz (.agg cs) = z) (h : resL P s rs = some ys) : resL P s (.cell x t :: rs) = some (z :: ys) := by
  have : aLoad P false s t (.tmp x) = some (.agg cs, {}) := by
    unfold aLoad
    rw [ht, hx]
    dsimp only
    rw [hb]
    dsimp only
    rw [if_pos hl, hc]
  simp only [resL, res1, this, AVal.t, Option.map_some, hz, h]
theorem res_cell1 {x : Tmp} {t : TypeId} {n b off : Nat} {cells : List CVal} {y : CVal} {z : TVal} {rs : List ResultVar} {ys : List TVal} (ht : tsz P t = some (false, n)) (hx : s.ev (.tmp x) = .c (.ptr b off)) (hb : s.H[b]? = some (some cells)) (hy : cells[off]? = some y) (hz : TVal.nz (.c y.dem) = z) (h : resL P s rs = some ys) : resL P s (.cell x t :: rs) = some (z :: ys) := by
  have : aLoad P false s t (.tmp x) = some (.c y.dem, {}) := by
    unfold aLoad
    rw [ht, hx]
    dsimp only
    rw [hb]
    dsimp only
    rw [hy]
  simp only [resL, res1, this, AVal.t, Option.map_some, hz, h]
/-- A callee that is handed one block of data, by a pointer to it, and data. -/
structure DataBox {α : Type} (box : α → List CVal) : Prop where
  ren : ∀ (σ : Nat → Nat) (x : α), (box x).map (CVal.ren σ) = box x
  ok : ∀ (n : Nat) (x : α), (box x).all (CVal.ok n) = true
theorem ren_ok0 {σ : Nat → Nat} {x : AVal} (h : x.ok 0 = true) : x.ren σ = x := by
  rw [AVal.ren_congr (σ := σ) (τ := id) (n := 0) (fun i hi => by omega) h, AVal.ren_id]
theorem R_callB {α : Type} (box : α → List CVal) (D : DataBox box) {c : Call} {f : FuncId} {xs : List Operand} {us : List AVal} {b : Nat} {x x' : α} {r : AVal} {H' : HB} (hc : callOf ⟨d, .call c, ty, pos, af, none⟩ = some (f, xs)) (ha : (xs.map fun x => (s.ev x).h) = .c (.ptr b 0) :: us) (hb : s.H[b]? = some (some (box x))) (hO : Ok P f (.c (.ptr 0 0) :: us) [some (box x)] r [some (box x')]) (hok : us.all (AVal.ok 0) = true) (hr : r.ok 0 = true) (hH : hset s.H b (box x') = H')
    (h : WR P ops rest ((s.setH H').put d r) (R.push (.st b))) : WR P ops (⟨d, .call c, ty, pos, af, none⟩ :: rest) s R := by
  have hlt : b < s.H.length := (List.getElem?_eq_some_iff.1 hb).1
  have hs : sig s.H.length [b] 0 = b := rfl
  have has : us.map (AVal.ren (sig s.H.length [b])) = us := by
    have e : us.map (AVal.ren (sig s.H.length [b])) = us.map id := List.map_congr_left fun x hx => ren_ok0 (List.all_eq_true.1 hok x hx)
    rw [e]; simp
  refine R_call [b] hc ha rfl hO ?_ rfl ?_ (by simp) (by simpa using hlt) ?_ ?_ ?_ (r2 := r) (ren_ok0 hr) ?_ (q := .st b) rfl h
  · rw [List.map_cons, has]; rfl
  · simp only [List.map_cons, List.map_nil, renB, D.ren, List.getD_eq_getElem?_getD, hb, Option.getD_some]
  · rw [List.all_cons]
    refine Bool.and_eq_true_iff.2 ⟨rfl, List.all_eq_true.2 fun x hx => AVal.ok_le (Nat.zero_le _) x (List.all_eq_true.1 hok x hx)⟩
  · simp only [List.all_cons, List.all_nil, okB, D.ok, Bool.and_true]
  · simp only [List.all_cons, List.all_nil, okB, D.ok, Bool.and_true]
  · rw [← hH]
    simp only [putBack, List.map_cons, List.map_nil, renB, D.ren, List.append_nil, hset]
theorem LeS.ok_back {x y : AVal} (h : LeS x y) {n : Nat} (hy : y.ok n = true) : x.ok n = true := by
  cases h with
  | refl => exact hy
  | _ => rfl
/-- What is forgotten: slots, and the blocks behind those of a list. -/
theorem weak_agG {n0 : Nat} {H H0 : HB} {l : List (Nat × AVal)} (hH0 : s.H = H0) (h0 : n0 ≤ H.length) (hn : H.length ≤ H0.length) (hg : (H0.take H.length).all (okB H.length) = true) (hl : (l.all fun p => p.2.ok H.length) = true) (hH : LeH (H0.take H.length) H) (h : AgreeL s l) : Weak n0 s (St.of H l) := by
  subst hH0
  have w1 : Weak n0 s (gc H.length s) := weak_gc h0 hn hg
  have w2 : Weak n0 (gc H.length s) (St.of H l) := by
    refine weak_agL (H0 := s.H.take H.length) rfl ?_ hH ?_
    · rw [List.length_take]; omega
    · clear hH hg w1
      induction l with
      | nil => trivial
      | cons a l ih =>
        obtain ⟨d, x⟩ := a
        rw [List.all_cons, Bool.and_eq_true] at hl
        obtain ⟨⟨y, h1, h2⟩, h3⟩ := h
        refine ⟨⟨y, ?_, h2⟩, ih hl.2 h3⟩
        show gcA H.length (s.sl d) = y
        have h1 : s.sl d = y := h1
        rw [h1]
        unfold gcA
        rw [if_pos (h2.ok_back hl.1)]
  exact ⟨w2.1, fun a w κ ρ hR => w2.2 a w κ ρ (w1.2 a w κ ρ hR)⟩
/-- Whether two structs are equal. -/
theorem R_eqA {op : BinOp} {t u : TypeId} {x y : Operand} {cs ds : List CVal} {vs us : List Value} {r : Bool} (hx : s.ev x = .agg cs) (hy : s.ev y = .agg ds) (hvs : toVs cs = some vs) (hus : toVs ds = some us) (hg : P.eqGuardType P.depth t = false) (heq : ∀ w, (binOp op t (.agg vs.toArray) (.agg us.toArray)).run P w = .ok (.bool r) w) (h : WR P ops rest (s.put d (.c (.f (.v (.bool r))))) (R.push .q0)) : WR P ops (⟨d, .binOp op t x y u, ty, pos, af, none⟩ :: rest) s R := by
  have tx : (s.ev x).toV = some (.agg vs.toArray) := by rw [hx]; simp only [AVal.toV, hvs]
  have t_y : (s.ev y).toV = some (.agg us.toArray) := by rw [hy]; simp only [AVal.toV, hus]
  refine WR_sem (v := .bool r) (wantA_none rfl) rfl ⟨⟨op, t, x, y, u, rfl⟩, ?_, fun w => ?_⟩ h
  · show ([x, y].all fun x => (s.ev x).toV.isSome) = true
    simp [tx, t_y]
  · have ex : s.env x = .agg vs.toArray := by unfold St.env; rw [tx]; rfl
    have ey : s.env y = .agg us.toArray := by unfold St.env; rw [t_y]; rfl
    have hgr : (eqGuard op t x y (.agg vs.toArray) (.agg us.toArray)).run P w = .ok () w := by
      unfold eqGuard
      by_cases ho : (match op with | .eql | .neq => true | _ => false) = true
      · cases op <;> first | (cases ho; done) | simp [program, Sem.run, hg]
      · cases op <;> first | (exact absurd rfl ho) | rfl
    simp only [execOp, ex, ey, Sem.run_bind, hgr, Result.andThen_ok, heq w]
    rfl
/-! ### Rows of elements -/
theorem flatMap_get {α β : Type} (F : α → List β) (n : Nat) (hn : ∀ x, (F x).length = n) : ∀ (l : List α) (i k : Nat) (a : α), l[i]? = some a → k < n → (l.flatMap F)[i * n + k]? = (F a)[k]?
  | [], i, k, a, h, _ => by simp at h
  | x :: l, 0, k, a, h, hk => by
    have : x = a := by simpa using h
    subst this
    simp only [List.flatMap_cons, Nat.zero_mul, Nat.zero_add]
    rw [List.getElem?_append_left (by rw [hn]; exact hk)]
  | x :: l, i + 1, k, a, h, hk => by
    simp only [List.flatMap_cons]
    have e : (i + 1) * n + k = n + (i * n + k) := by rw [Nat.succ_mul]; omega
    rw [e, List.getElem?_append_right (by rw [hn]; omega), hn, Nat.add_sub_cancel_left]
    exact flatMap_get F n hn l i k a (by simpa using h) hk
theorem flatMap_drop {α β : Type} (F : α → List β) (n : Nat) (hn : ∀ x, (F x).length = n) : ∀ (l : List α) (i : Nat) (a : α), l[i]? = some a → i * n + n ≤ (l.flatMap F).length ∧ ((l.flatMap F).drop (i * n)).take n = F a
  | [], i, a, h => by simp at h
  | x :: l, 0, a, h => by
    have : x = a := by simpa using h
    subst this
    simp only [List.flatMap_cons, Nat.zero_mul, Nat.zero_add, List.drop_zero, List.length_append, hn]
    exact ⟨by omega, by rw [List.take_append_of_le_length (by rw [hn]; exact Nat.le_refl _), List.take_of_length_le (by rw [hn]; exact Nat.le_refl _)]⟩
  | x :: l, i + 1, a, h => by
    obtain ⟨h1, h2⟩ := flatMap_drop F n hn l i a (by simpa using h)
    simp only [List.flatMap_cons, List.length_append, hn]
    have e : (i + 1) * n = n + i * n := by rw [Nat.succ_mul]; omega
    refine ⟨by omega, ?_⟩
    have e2 : (F x ++ l.flatMap F).drop n = l.flatMap F := by
      have e3 : (F x).drop n = [] := List.drop_of_length_le (by rw [hn]; exact Nat.le_refl _)
      rw [List.drop_append_of_le_length (by rw [hn]; exact Nat.le_refl _), e3, List.nil_append]
    rw [e, ← List.drop_drop, e2]
    exact h2
theorem R_load_rw {α : Type} {F : α → List FVal} {l : List α} {a : α} {t : TypeId} {x : Operand} {n off i : Nat} {ys : List CVal} (ht : tsz P t = some (true, n)) (hx : s.ev x = .c (.ip (l.flatMap F) off)) (ho : off = i * n) (hF : ∀ x, (F x).length = n) (ha : l[i]? = some a) (hc : (F a).map CVal.f = ys) (h : WR P ops rest (s.put d (.agg ys)) (R.push .ip)) : WR P ops (⟨d, .load t x, ty, pos, af, none⟩ :: rest) s R := by
  subst ho
  obtain ⟨h1, h2⟩ := flatMap_drop F n hF l i a ha
  exact R_load_ipn ht hx h1 (by rw [h2]; exact hc) h
theorem R_load_r1 {α : Type} {F : α → List FVal} {l : List α} {a : α} {t : TypeId} {x : Operand} {n off i : Nat} {y : FVal} (ht : tsz P t = some (false, n)) (hx : s.ev x = .c (.ip (l.flatMap F) off)) (ho : off = i * 1) (hF : ∀ x, (F x).length = 1) (ha : l[i]? = some a) (hc : F a = [y]) (h : WR P ops rest (s.put d (.c (.f y))) (R.push .ip)) : WR P ops (⟨d, .load t x, ty, pos, af, none⟩ :: rest) s R := by
  subst ho
  refine R_load_ip1 ht hx (y := y) ?_ h
  have := flatMap_get F 1 hF l i 0 a ha (by omega)
  rw [hc] at this
  exact this
theorem R_load_rk {α : Type} {F : α → List FVal} {l : List α} {a : α} {t : TypeId} {x : Operand} {m n off i k : Nat} {y : FVal} (ht : tsz P t = some (false, m)) (hx : s.ev x = .c (.ip (l.flatMap F) off)) (ho : off = i * n + k) (hF : ∀ x, (F x).length = n) (ha : l[i]? = some a) (hk : Nat.blt k n = true) (hc : (F a)[k]? = some y) (h : WR P ops rest (s.put d (.c (.f y))) (R.push .ip)) : WR P ops (⟨d, .load t x, ty, pos, af, none⟩ :: rest) s R := by
  subst ho
  refine R_load_ip1 ht hx (y := y) ?_ h
  rw [flatMap_get F n hF l i k a ha (by simpa using hk), hc]
theorem R_sadd {t u : TypeId} {x y : Operand} {a b : ByteArray} (hx : s.ev x = .c (.f (.v (.string a)))) (hy : s.ev y = .c (.f (.v (.string b)))) (hl : a.size + b.size ≤ 9223372036854775807) (h : WR P ops rest (s.put d (.c (.f (.v (.string (a ++ b)))))) (R.push .q0)) : WR P ops (⟨d, .binOp .add t x y u, ty, pos, af, none⟩ :: rest) s R :=
  R_sbin hx hy (by show (if ((a.size + b.size : Nat) : Int) > 9223372036854775807 then none else _) = _; rw [if_neg (by omega)]) h
/-! ### What the walk looks up, in one -/
theorem ee : (∀ (s : St) (d : Nat) (x : AVal), (s.put (some d) x).ev (.tmp d) = x) ∧ (∀ (s : St) (d t : Nat) (x : AVal), t ≠ d → (s.put (some d) x).ev (.tmp t) = s.ev (.tmp t)) ∧ (∀ (s : St) (x : AVal) (y : Operand), (s.put none x).ev y = s.ev y) ∧ (∀ (s : St) (H : HB) (x : Operand), (s.setH H).ev x = s.ev x) ∧
    (∀ (H : HB) (d : Nat) (x : AVal) (l : List (Nat × AVal)), (St.of H ((d, x) :: l)).ev (.tmp d) = x) ∧ (∀ (H : HB) (d t : Nat) (x : AVal) (l : List (Nat × AVal)), t ≠ d → (St.of H ((d, x) :: l)).ev (.tmp t) = (St.of H l).ev (.tmp t)) ∧
    (∀ (s : St) (k : IntKind) (n : Int), s.ev (.const (.int k n)) = .c (.f (.v (.int k n)))) ∧ (∀ (s : St) (b : Bool), s.ev (.const (.bool b)) = .c (.f (.v (.bool b)))) ∧ (∀ (s : St) (b : ByteArray), s.ev (.const (.string b)) = .c (.f (.v (.string b)))) ∧ (∀ s : St, s.ev (.const (.slice none 0 0)) = .c (.f .nils)) ∧ (∀ s : St, s.ev (.const (.pointer none)) = .c (.f (.v (.pointer none)))) ∧
    (∀ a b : Nat, (a ≠ b) = ¬ (a = b)) ∧ ((¬ False) = True) :=
  ⟨fun _ _ _ => ev_same, fun _ _ _ _ h => ev_other h, fun _ _ _ => rfl, fun _ _ _ => ev_setH, fun _ _ _ _ => ev_of_same, fun _ _ _ _ _ h => ev_of_other h, fun _ _ _ => rfl, fun _ _ => rfl, fun _ _ => rfl, fun _ => rfl, fun _ => rfl, fun _ _ => rfl, not_false_eq_true⟩
theorem hh : (∀ (s : St) (d : Option Tmp) (x : AVal), (s.put d x).H = s.H) ∧ (∀ (H : HB) (l : List (Nat × AVal)), (St.of H l).H = H) ∧ (∀ (s : St) (H : HB), (s.setH H).H = H) ∧ (∀ (H : HB) (b : Nat) (cs : List CVal), hset H b cs = H.set b (some cs)) ∧
    (∀ (cs : List CVal) (o : Nat), setAt cs o [] = cs) ∧ (∀ (cs : List CVal) (o : Nat) (d : CVal) (ds : List CVal), setAt cs o (d :: ds) = setAt (cs.set o d) (o + 1) ds) ∧
    (∀ (a b : CVal) (l : List CVal), (a :: l).set 0 b = b :: l) ∧ (∀ (a b : CVal) (l : List CVal) (n : Nat), (a :: l).set (n + 1) b = a :: l.set n b) ∧ (∀ (a b : Option (List CVal)) (l : HB), (a :: l).set 0 b = b :: l) ∧ (∀ (a b : Option (List CVal)) (l : HB) (n : Nat), (a :: l).set (n + 1) b = a :: l.set n b) ∧
    (∀ (a : CVal) (l : List CVal) (f : CVal → CVal), (a :: l).modify 0 f = f a :: l) ∧ (∀ (a : CVal) (l : List CVal) (f : CVal → CVal) (n : Nat), (a :: l).modify (n + 1) f = a :: l.modify n f) ∧ (∀ (z l : Nat) (cs : List FVal), CVal.dem (.tip z cs l) = .f (.row cs l)) ∧ (∀ x : FVal, CVal.dem (.f x) = .f x) ∧
    (∀ (a : Option (List CVal)) (l : HB), (a :: l).length = l.length + 1) ∧ (([] : HB).length = 0) ∧ (∀ n : Nat, 0 + n = n) ∧ (∀ (a : Option (List CVal)) (l m : HB), a :: l ++ m = a :: (l ++ m)) ∧ (∀ l : HB, [] ++ l = l) :=
  ⟨fun _ _ _ => H_put, fun _ _ => H_of, fun _ _ => rfl, fun _ _ _ => rfl, fun _ _ => rfl, fun _ _ _ _ => rfl, fun _ _ _ => rfl, fun _ _ _ _ => rfl, fun _ _ _ => rfl, fun _ _ _ _ => rfl, fun _ _ _ => rfl, fun _ _ _ _ => rfl, fun _ _ _ => rfl, fun _ => rfl, fun _ _ => rfl, rfl, Nat.zero_add, fun _ _ _ => rfl, fun _ => rfl⟩
theorem zz : (∀ x : Value, CVal.nz (.f (.v x)) = .f (.v x)) ∧ (∀ (cs : List FVal) (n : Nat), CVal.nz (.f (.row cs n)) = .f (.row cs n)) ∧ (CVal.nz (.f .nils) = .f (.row [] 0)) ∧ (∀ (cs : List FVal) (n : Nat), CVal.nz (.ip cs n) = .ip cs n) ∧ (∀ b n : Nat, CVal.nz (.ptr b n) = .ptr b n) ∧ (∀ b n l c : Nat, CVal.nz (.arr b n l c) = .arr b n l c) ∧ (∀ (z l : Nat) (cs : List FVal), CVal.nz (.tip z cs l) = .tip z cs l) ∧ (CVal.nz .und = .und) ∧ (CVal.nz .any = .any) ∧
    (∀ x : AVal, x.h = x.dem.nz) ∧ (∀ x : CVal, (AVal.c x).dem = .c x.dem) ∧ (∀ cs : List CVal, (AVal.agg cs).dem = .agg cs) ∧ (∀ ts : List TVal, (AVal.tup ts).dem = .tup ts) ∧ (∀ x : CVal, (AVal.c x).nz = .c x.nz) ∧ (∀ cs : List CVal, (AVal.agg cs).nz = .agg (cs.map CVal.nz)) ∧ (∀ ts : List TVal, (AVal.tup ts).nz = .tup (ts.map TVal.nz)) ∧ (∀ x : CVal, (TVal.c x).nz = .c x.nz) ∧ (∀ cs : List CVal, (TVal.agg cs).nz = .agg (cs.map CVal.nz)) ∧
    (∀ (z l : Nat) (cs : List FVal), CVal.dem (.tip z cs l) = .f (.row cs l)) ∧ (∀ x : FVal, CVal.dem (.f x) = .f x) ∧ (∀ (cs : List FVal) (n : Nat), CVal.dem (.ip cs n) = .ip cs n) ∧ (∀ b n : Nat, CVal.dem (.ptr b n) = .ptr b n) ∧ (∀ b n l c : Nat, CVal.dem (.arr b n l c) = .arr b n l c) ∧ (CVal.dem .und = .und) ∧ (CVal.dem .any = .any) ∧
    (∀ (f : CVal → CVal) (a : CVal) (l : List CVal), (a :: l).map f = f a :: l.map f) ∧ (∀ f : CVal → CVal, ([] : List CVal).map f = []) ∧ (∀ (f : AVal → AVal) (a : AVal) (l : List AVal), (a :: l).map f = f a :: l.map f) ∧ (∀ f : AVal → AVal, ([] : List AVal).map f = []) ∧ (∀ (f : TVal → TVal) (a : TVal) (l : List TVal), (a :: l).map f = f a :: l.map f) ∧ (∀ f : TVal → TVal, ([] : List TVal).map f = []) ∧
    (∀ l : List CVal, l.drop 0 = l) ∧ (∀ (a : CVal) (l : List CVal) (n : Nat), (a :: l).drop (n + 1) = l.drop n) ∧ (∀ l : List CVal, l.take 0 = []) ∧ (∀ (a : CVal) (l : List CVal) (n : Nat), (a :: l).take (n + 1) = a :: l.take n) :=
  ⟨fun _ => rfl, fun _ _ => rfl, rfl, fun _ _ => rfl, fun _ _ => rfl, fun _ _ _ _ => rfl, fun _ _ _ => rfl, rfl, rfl, fun _ => rfl, fun _ => rfl, fun _ => rfl, fun _ => rfl, fun _ => rfl, fun _ => rfl, fun _ => rfl, fun _ => rfl, fun _ => rfl, fun _ _ _ => rfl, fun _ => rfl, fun _ _ => rfl, fun _ _ => rfl, fun _ _ _ _ => rfl, rfl, rfl, fun _ _ _ => rfl, fun _ => rfl, fun _ _ _ => rfl, fun _ => rfl, fun _ _ _ => rfl, fun _ => rfl, fun _ => rfl, fun _ _ _ => rfl, fun _ => rfl, fun _ _ _ => rfl⟩
theorem wn {o : Oper} (h : o.guard = none) : wantA ops s o = some true := wantA_none h
end
end Go.Proofs.Ythnfliopmjpdmaa.Av
