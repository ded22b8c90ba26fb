/- R8, R9 in one text. -/
import Derived.Test.YthnfliopmjpdmaaMD
import Derived.Test.YthnfliopmjpdmaaMC
/- A cursor on a beginning of a code, beside the cursor on the whole: it is short, or it stands at the same place. -/
namespace Go.Proofs.Ythnfliopmjpdmaa.Av
set_option linter.unusedVariables false
set_option linter.unusedSimpArgs false

structure Pre (s : ByteArray) (k : Nat) (c d : Cur) : Prop where
  ci : c.In (s.extract 0 k)
  di : d.code = s
  st : c.short = true ∨ (c.short = false ∧ d.short = false ∧ c.pos = d.pos)
theorem ext_size {s : ByteArray} {k : Nat} (hk : k ≤ s.size) : (s.extract 0 k).size = k := by rw [ByteArray.size_extract]; omega
theorem ext_ext {s : ByteArray} {k p n : Nat} (h : p + n ≤ k) : (s.extract 0 k).extract p (p + n) = s.extract p (p + n) := by
  apply ByteArray.ext
  simp only [ByteArray.data_extract, Array.extract_extract, Nat.zero_add]
  rw [Nat.min_eq_left h]
theorem Pre.bytes {s : ByteArray} {k : Nat} {c d : Cur} (hk : k ≤ s.size) (h : Pre s k c d) (n : Nat) : Pre s k (c.af n) (d.af n) ∧ ((c.af n).short = false → (c.bytes n).1 = (d.bytes n).1) := by
  obtain ⟨ci, di, st⟩ := h
  have hc := ci.af n
  have hd : (d.af n).code = s := by
    unfold Cur.af Cur.bytes
    split <;> exact di
  have hz := ext_size hk
  obtain ⟨c1, c2⟩ := ci
  refine ⟨⟨hc, hd, ?_⟩, ?_⟩
  · unfold Cur.af Cur.bytes
    rcases st with st | ⟨st, st2, e⟩
    · rw [if_pos (.inl st)]; exact .inl rfl
    · by_cases hn : c.code.size < c.pos + n
      · rw [if_pos (.inr hn)]; exact .inl rfl
      · rw [c1, hz] at hn
        rw [if_neg (by rintro (x | x); · rw [st] at x; cases x
                       · rw [c1, hz] at x; omega), if_neg (by rintro (x | x); · rw [st2] at x; cases x
                                                              · rw [di] at x; omega)]
        exact .inr ⟨st, st2, by simp only; omega⟩
  · unfold Cur.af Cur.bytes
    rcases st with st | ⟨st, st2, e⟩
    · rw [if_pos (.inl st)]; intro x; cases x
    · by_cases hn : c.code.size < c.pos + n
      · rw [if_pos (.inr hn)]; intro x; cases x
      · rw [c1, hz] at hn
        rw [if_neg (by rintro (x | x); · rw [st] at x; cases x
                       · rw [c1, hz] at x; omega), if_neg (by rintro (x | x); · rw [st2] at x; cases x
                                                              · rw [di] at x; omega)]
        intro _
        simp only
        rw [c1, di, ext_ext (by omega), e]
theorem Pre.n {s : ByteArray} {k : Nat} {c d : Cur} (hk : k ≤ s.size) (h : Pre s k c d) (n : Nat) : (c.af n).short = false → c.n n = d.n n := fun x => by
  unfold Cur.n
  rw [(h.bytes hk n).2 x]
theorem short_af {c : Cur} (h : c.short = true) (n : Nat) : (c.af n).short = true := by
  unfold Cur.af Cur.bytes
  rw [if_pos (.inl h)]
theorem short_afn {c : Cur} (h : c.short = true) : c.afn.short = true := by
  unfold Cur.afn Cur.name
  rw [if_pos (.inl h)]
theorem Pre.afn {s : ByteArray} {k : Nat} {c d : Cur} (hk : k ≤ s.size) (h : Pre s k c d) : Pre s k c.afn d.afn := by
  have hci := h.ci.afn
  have hz := ext_size hk
  have hdi : ∀ n, (d.bytes n).2.code = s := fun n => (h.bytes hk n).1.di
  have hd : d.afn.code = s := by
    unfold Cur.afn Cur.name
    split
    · exact h.di
    · split
      · exact hdi _
      · exact hdi _
  refine ⟨hci, hd, ?_⟩
  rcases h.st with st | ⟨st, st2, e⟩
  · exact .inl (short_afn st)
  · by_cases hp : c.pos = c.code.size
    · refine .inl ?_
      unfold Cur.afn Cur.name
      rw [if_pos (.inr hp)]
    · have c1 := h.ci.1
      have c2 := h.ci.2
      have hlt : c.pos < k := by rw [c1] at hp; omega
      have eb : c.code.data.getD c.pos 0 = d.code.data.getD d.pos 0 := by
        rw [c1, h.di, e]
        simp only [ByteArray.data_extract, Array.getD_eq_getD_getElem?, Array.getElem?_extract, Nat.zero_add]
        rw [if_pos (by have : s.data.size = s.size := rfl; omega)]
      have hb := (h.bytes hk (1 + (c.code.data.getD c.pos 0).toNat)).1.st
      unfold Cur.af at hb
      have hc0 : ¬ (c.short = true ∨ c.pos = c.code.size) := by rintro (x | x); · rw [st] at x; cases x
                                                                · exact hp x
      have hd0 : ¬ (d.short = true ∨ d.pos = d.code.size) := by rintro (x | x); · rw [st2] at x; cases x
                                                                · rw [h.di] at x; omega
      unfold Cur.afn Cur.name
      rw [if_neg hc0, if_neg hd0, ← eb]
      have f : ∀ (b : Bool) (x y : ByteArray) (z : Cur), (if b = true then (x, z) else (y, z)).2 = z := fun b x y z => by
        cases b <;> rfl
      simp only [f]
      exact hb
theorem Pre.loop {α : Type} {s : ByteArray} {k : Nat} {step : Cur → α × Cur} (hs : ∀ c d, Pre s k c d → Pre s k (step c).2 (step d).2) {c d : Cur} (h : Pre s k c d) : ∀ i, Pre s k (loopN step c i).2 (loopN step d i).2
  | 0 => h
  | i + 1 => hs _ _ (Pre.loop hs h i)
theorem short_loop {α : Type} {step : Cur → α × Cur} (hs : ∀ c, c.short = true → (step c).2.short = true) {c : Cur} (h : c.short = true) : ∀ i, (loopN step c i).2.short = true
  | 0 => h
  | i + 1 => hs _ (short_loop hs h i)
theorem short_back {c : Cur} {n : Nat} (h : (c.af n).short = false) : c.short = false := by
  cases hc : c.short with
  | false => rfl
  | true => rw [short_af hc] at h; cases h
theorem Pre.lay {s : ByteArray} {k : Nat} {c d : Cur} (hk : k ≤ s.size) (h : Pre s k c d) (hc : c.lay.2.In (s.extract 0 k)) (hd : d.lay.2.code = s) : Pre s k c.lay.2 d.lay.2 := by
  have p1 := (h.bytes hk 1).1
  have p2 := (p1.bytes hk 1).1
  have p3 := (p2.bytes hk 1).1
  have p4 := (p3.bytes hk 1).1
  have hN : ∀ c d, Pre s k c d → Pre s k c.stepN.2 d.stepN.2 := fun c d h => h.afn hk
  have hS : ∀ c d, Pre s k c d → Pre s k c.stepS.2 d.stepS.2 := fun c d h => ((((((h.afn hk).bytes hk 2).1.bytes hk 3).1.bytes hk 1).1).bytes hk 1).1
  have hL : ∀ c d, Pre s k c d → Pre s k c.stepL.2 d.stepL.2 := fun c d h => ((((h.bytes hk 1).1.bytes hk 1).1.bytes hk 1).1.bytes hk 1).1
  have sN : ∀ c : Cur, c.short = true → c.stepN.2.short = true := fun c h => short_afn h
  have sS : ∀ c : Cur, c.short = true → c.stepS.2.short = true := fun c h => short_af (short_af (short_af (short_af (short_afn h) _) _) _) _
  have sL : ∀ c : Cur, c.short = true → c.stepL.2.short = true := fun c h => short_af (short_af (short_af (short_af h _) _) _) _
  cases h4 : ((((c.af 1).af 1).af 1).af 1).short with
  | true =>
    refine ⟨hc, hd, .inl ?_⟩
    exact short_loop sL (short_loop sS (short_loop sN (short_loop sN h4 _) _) _) _
  | false =>
    have h3 := short_back h4
    have h2 := short_back h3
    have h1 := short_back h2
    have e1 := h.n hk 1 h1
    have e2 := p1.n hk 1 h2
    have e3 := p2.n hk 1 h3
    have e4 := p3.n hk 1 h4
    unfold Cur.lay
    simp only
    rw [e1, e2, e3, e4]
    exact Pre.loop hL (Pre.loop hS (Pre.loop hN (Pre.loop hN p4 _) _) _) _
theorem decode_pre (L : Lay) (h : layErr L = 0) (k : Nat) (hk : k < (bA (encL L)).size) : ∃ i : Nat, i ≤ k ∧ decode ((bA (encL L)).extract 0 k) = (emptyL, (i : Int), 10) := by
  have hd0 : (decode (bA (encL L))).2.2 = 0 := by rw [decode_enc L h]
  obtain ⟨g1, g2, g3⟩ := decOf_zero hd0
  have p0 : Pre (bA (encL L)) k (Cur.of ((bA (encL L)).extract 0 k)) (Cur.of (bA (encL L))) := ⟨⟨rfl, Nat.zero_le _⟩, rfl, .inr ⟨rfl, rfl, rfl⟩⟩
  have hk' : k ≤ (bA (encL L)).size := by omega
  obtain ⟨p1, p1b⟩ := p0.bytes hk' 4
  have hm : ((Cur.of (bA (encL L))).bytes 4).1 = rpl := by
    have eb := at_bytes [] [82, 80, 76, 49] (lows L.sts.length 1 ++ (lows L.pts.length 1 ++ (lows L.secs.length 1 ++ (lows L.lnks.length 1 ++ (L.sts.flatMap nameBytes ++ (L.pts.flatMap nameBytes ++ (L.secs.flatMap secBytes ++ (L.lnks.flatMap lnkBytes ++ (lows (Pl.crc (bodyL L)) 4 ++ [])))))))))
    rw [← encL_shape L, show ([82, 80, 76, 49] : List UInt8).length = 4 from rfl] at eb
    have e0 : Cur.of (bA (encL L)) = At [] (encL L) := rfl
    rw [e0, eb]
    rfl
  have hi2 := (lay_in p1.ci).1
  have hj2 : ((Cur.of (bA (encL L))).af 4).lay.2.In (bA (encL L)) := (lay_in (Cur.In.af ⟨rfl, Nat.zero_le _⟩ 4)).1
  have p2 := p1.lay hk' hi2 hj2.1
  have p3 := (p2.bytes hk' 4).1
  have hi3 := hi2.af 4
  unfold decode
  rw [hm] at p1b
  generalize (Cur.of ((bA (encL L)).extract 0 k)).bytes 4 = m at p1b ⊢
  generalize (Cur.of ((bA (encL L)).extract 0 k)).af 4 = c1 at *
  generalize c1.lay = y at *
  obtain ⟨yl, c2⟩ := y
  simp only at *
  generalize ((Cur.of (bA (encL L))).af 4).lay.2.af 4 = d3 at *
  have hs : (c2.af 4).short = true := by
    rcases p3.st with st | ⟨st, st2, e⟩
    · exact st
    · have := hi3.2
      rw [ext_size hk'] at this
      omega
  refine ⟨(c2.af 4).pos, by have := hi3.2; rw [ext_size hk'] at this; exact this, ?_⟩
  unfold decOf
  rw [if_neg (by rintro ⟨x, y⟩; rw [p1b x] at y; simp at y), if_pos hs]
end Go.Proofs.Ythnfliopmjpdmaa.Av
/- The law Prefixes. -/
namespace Go.Proofs.Ythnfliopmjpdmaa.Av
set_option linter.unusedVariables false
set_option linter.unusedSimpArgs false
set_option maxRecDepth 4000
set_option maxHeartbeats 4000000

theorem prefixes_ok (l : List Int) (v : Int) (hl : l.length ≤ 9223372036854775807) : OkV Try.prog 8 [.c (rInt l), vI v] [] (vB true) [] := by
  have h0 := awake_okV
  have h1 := layout_ok l hl
  have hv := genL_ok l
  generalize genL l = L at h1 hv
  have hV := valid_of hv
  have hF := valid_fits hV
  have h2 := refEncode_ok L hF hv
  have z1 := encL_size hV
  have z2 := encL_size_ge L
  have hP := decode_pre L hv
  generalize bA (encL L) = E at h2 z1 z2 hP
  have p1 := pick_ok v E.size (by omega) (by omega)
  have q1 := pick_lt v (n := E.size) (by omega)
  generalize pick v E.size = k at p1 q1
  obtain ⟨i, hi, hD⟩ := hP k q1
  have h3 := decode_ok (E.extract 0 ((k : Nat) : Int).toNat) (by simp only [ByteArray.size_extract]; omega)
  rw [Int.toNat_natCast, hD] at h3
  refine X_fnP mixedX Try.func8 rfl (by kernel_rfl) (Nat.le_of_ble_eq_true (by kernel_rfl)) (by kernel_rfl) rfl rfl ?_
  simp only [sl0, Nat.zero_add, Nat.reduceAdd]
  repeat' (first
    |with_reducible (first|refine WR_pp ?_|refine WR_pd ?_|refine W_seq ?_|refine seqK_n ?_|refine seqK_r ?_|refine seqK_e ?_|refine W_block ?_|refine blockK_n ?_|refine blockK_r ?_|refine LoopK_e ?_|refine LoopK_r ?_|refine LoopX_r ?_|refine W_skip ?_|refine W_exit ?_|refine W_ret ?_|refine W_region (WOps_WR ?_)|refine W_draw (WOpsD_WR ?_)|refine WR_nil ?_|refine q_and ?_ ?_|exact True.intro|assumption|refine blockK_e rfl ?_|refine blockK_o (by decide) ?_|refine LoopX_e (by decide) ?_)
    |((with_reducible apply q_call);first|refine X_pure (h0) rfl ?_|refine X_pure (h1) rfl ?_|refine X_pure (h2) rfl ?_|refine X_pure (p1) rfl ?_|refine X_pure (h3) rfl ?_)
    |((with_reducible apply q_WR);first|refine X_run rfl ?_ ?_|refine WR_nilD (by kernel_rfl) ?_)
    |((with_reducible apply q_cond);refine X_cond rfl ?_ ?_;all_goals (intro hbq;(try simp only [bq] at hbq);(try (exfalso;omega))))
    |((with_reducible apply q_ret);refine X_ret tabOk trivial rfl rfl ?_ ?_)
    |((with_reducible apply q_retP);refine X_retP tabOk trivial rfl rfl ?_ ?_)
    |(intro (hgq : (_ : Bool) = true);(try simp only [bq] at hgq))
    |(intro (hgq : (_ : Bool) = false);(try simp only [bq] at hgq))
    |((with_reducible apply q_VOk);exact fun _ => ⟨rfl,rfl⟩)
    |(intro _;exact rfl)
    |((with_reducible apply q_bt);simp only [bq])
    |((with_reducible apply q_eqN);rfl)
    |with_reducible exact isByte_wrap _
    |with_reducible exact isByte_nat _
    |(simp only [hgq,bq];done)
    |omega)
  all_goals (try (exfalso; omega))
  all_goals repeat' (first|with_reducible (first|exact TkEq.nil _|refine TkEq.none ?_|refine TkEq.cells ?_ ?_|refine TkEq.els ?_ ?_|exact SEqL.nil|refine SEqL.cons ?_ ?_|exact TEqL.nil|refine TEqL.c ?_ ?_|refine TEqL.agg ?_ ?_|exact CEq.refl _|refine CEq.int ?_|refine CEq.bool ?_|refine CEq.str ?_|refine CEq.rows ?_|refine CEq.row ?_ ?_|refine CEq.tips ?_|refine CEq.tip ?_ ?_|refine CEq.raw ?_ ?_|refine CEq.arr ?_ ?_)|refine VEq.c ?_|refine VEq.agg ?_|refine VEq.tup ?_|refine TkEq.cells ?_ ?_|refine TkEq.els ?_ ?_|refine SEqL.cons ?_ ?_|refine TEqL.agg ?_ ?_|refine CEq.rows ?_|refine CEq.int ?_|rfl|omega)
  all_goals (simp; omega)
end Go.Proofs.Ythnfliopmjpdmaa.Av
namespace Go.Proofs.Ythnfliopmjpdmaa
open Go.RowKit
set_option linter.unusedVariables false
theorem W.LayoutbinPrefixes (a0 : Option Addr) (len0 cap0 : Nat) (z0 : List Int) (a1 : Int) (w : World) (w0 : Av.IsRowI w a0 len0 cap0 z0) (w1 : (Lit.int .i64 a1).wf = true) (s0 : ∀ x, a0 = some x → x.spot = none) :
    Calls Try.prog 8 #[.slice a0 len0 cap0, .int .i64 a1] w fun e w' => e = .returned (.bool true) ∧ Below w.heap.size w w' := by
  obtain ⟨h1, h2⟩ := Av.rowI_rep w0 s0
  refine Av.law_calls (Av.prefixes_ok _ a1 h2) w _ rfl (fun i hi hi' l => ?_) (fun x hx => by
    simp at hx
    rcases hx with rfl | rfl <;> rfl)
  match i, hi with
  | 0, _ => exact h1 l
  | 1, _ => exact .v _ rfl
end Go.Proofs.Ythnfliopmjpdmaa
