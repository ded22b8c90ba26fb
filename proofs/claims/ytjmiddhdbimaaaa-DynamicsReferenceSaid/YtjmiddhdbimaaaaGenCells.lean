/- The cells and the stock that the statements' helpers make out of a list of integers: contracts of Cells and Stock. -/
import Derived.Test.YtjmiddhdbimaaaaPlainCells
import Derived.Deep.Onto
namespace Go.Proofs.Ytjmiddhdbimaaaa
open Go.RowKit
set_option linter.unusedVariables false

/-- The cells of r more rounds, from the i-th choice on. -/
def genCells (zs : List Int) : Nat → Nat → List (Int × Int)
  | 0, _ => []
  | r + 1, i => List.replicate (1 + srcVal zs (srcNext zs (srcNext zs i)) 4).toNat (1000 + 1000 * srcVal zs i 40, srcVal zs (srcNext zs i) 81 - 40) ++ genCells zs r (srcNext zs (srcNext zs (srcNext zs i)))
def cellsOf (zs : List Int) : List (Int × Int) := genCells zs (1 + srcVal zs 0 14).toNat (srcNext zs 0)

theorem genCells_ok (zs : List Int) (r i : Nat) : (genCells zs r i).all cellB = true ∧ (genCells zs r i).length ≤ 4 * r ∧ r ≤ (genCells zs r i).length := by
  induction r generalizing i with
  | zero => simp [genCells]
  | succ r ih =>
    have h := ih (srcNext zs (srcNext zs (srcNext zs i)))
    have a := srcVal_range zs i 40 (by omega)
    have b := srcVal_range zs (srcNext zs i) 81 (by omega)
    have c := srcVal_range zs (srcNext zs (srcNext zs i)) 4 (by omega)
    simp only [genCells, List.all_append, List.length_append, List.length_replicate, Bool.and_eq_true]
    refine ⟨⟨?_, h.1⟩, by omega, by omega⟩
    rw [List.all_eq_true]
    intro x hx
    rw [List.eq_of_mem_replicate hx]
    simp [cellB]
    omega
theorem cellsOf_ok (zs : List Int) : (cellsOf zs).all cellB = true ∧ (cellsOf zs).length ≤ 56 ∧ 1 ≤ (cellsOf zs).length := by
  have h := genCells_ok zs (1 + srcVal zs 0 14).toNat (srcNext zs 0)
  have a := srcVal_range zs 0 14 (by omega)
  unfold cellsOf
  exact ⟨h.1, by omega, by omega⟩

set_option maxHeartbeats 1000000 in
theorem cells_any (A : Option Addr) (cap : Nat) (zs : List Int) (w : World) (hR : RdI w A zs) (hl : zs.length ≤ 9223372036854775807) :
    Calls Try.prog 13 #[.slice A zs.length cap] w (RetCells w (cellsOf zs)) := by
  obtain ⟨i0, hi, hz0, hz1, hz2⟩ := info_parts info_cell
  have HS0 := Lib.hid (Src.new w A cap zs 55 hR)
  have HA := Lib.hid hR
  clear hR
  obtain ⟨total, Htot⟩ : ∃ t, Hid (cellsOf zs = t) := ⟨_, Lib.hid rfl⟩
  have hlen : total.length ≤ 56 := by rw [← Htot.out]; exact (cellsOf_ok zs).2.1
  rw [Htot.out]
  have v0 := srcVal_range zs 0 14 (by omega)
  obtain ⟨r0, hr0⟩ := Int.eq_ofNat_of_zero_le v0.1
  rw [hr0] at v0
  obtain ⟨_, v0⟩ := v0
  have Hg0 : Hid ([] ++ genCells zs (1 + r0) (srcNext zs 0) = total) := Lib.hid (by
    rw [← Htot.out]; unfold cellsOf; rw [hr0]; simp [show ((1 : Int) + (r0 : Int)).toNat = 1 + r0 by omega])
  have Hr0 := Lib.hid hr0
  clear hr0
  go_enter Try.func13, Try.ntmps13
  go_wp2_with fail
  refine (from_any A zs.length cap _).mono ?_
  rintro e w' ⟨rfl, rfl⟩
  go_wp2_with fail
  refine (next_any w.heap.size A cap zs 0 14 _ HS0.out (by omega) (by omega) hl).mono ?_
  rintro e w1 ⟨rfl, hg1, hs1⟩
  have HS1 := Lib.hid hs1
  have Hb1 : Hid (Below w.heap.size w w1) := Lib.hid (((Below.refl _ _).alloc (Nat.le_refl _) _).grown hg1 (by simp) (fun k hk => by injection hk with hk; omega))
  rw [Hr0.out]
  clear hg1 hs1 HS0
  go_wp2
  go_loopw [4, 5] (fun v nv wr => ∃ (r i m : Nat) (B : Option Addr) (c : Nat) (acc : List (Int × Int)), r ≤ 14 ∧ nv = .int .i64 r ∧ v = .slice B m c ∧ Hid (acc.length = m) ∧ Hid (acc ++ genCells zs r i = total) ∧ Hid (Src wr w.heap.size A cap zs i) ∧ Hid (wr.ownsRow (w.heap.size + 1) 34 2 (.slice B m c) m (flatC acc)) ∧ Hid (Below w.heap.size w wr)) (fun _ nv _ => (intOf nv).toNat)
  case atStart => exact ⟨1 + r0, _, 0, none, 0, [], by omega, by go_num, rfl, Lib.hid rfl, Hg0, HS1, Lib.hid (by simpa [flatC] using World.ownsRow_nil w1 (w.heap.size + 1) 34 2), Hb1⟩
  case round =>
    obtain ⟨r, i, m, B, c, acc, hr, rfl, rfl, Hm, Hacc, HS, Ho, Hb⟩ := hrel
    cases r with
    | zero =>
      have e : acc = total := by have := Hacc.out; simpa [genCells] using this
      obtain rfl : m = total.length := by rw [← Hm.out, e]
      subst e
      go_wp2
      go_ret
      exact ⟨B, c, rfl, Ho.out.mono (by omega), Hb.out⟩
    | succ r =>
      have a1 := srcVal_range zs i 40 (by omega)
      have a2 := srcVal_range zs (srcNext zs i) 81 (by omega)
      have a3 := srcVal_range zs (srcNext zs (srcNext zs i)) 4 (by omega)
      have Hgen : Hid (acc ++ (List.replicate (1 + srcVal zs (srcNext zs (srcNext zs i)) 4).toNat (1000 + 1000 * srcVal zs i 40, srcVal zs (srcNext zs i) 81 - 40) ++ genCells zs r (srcNext zs (srcNext zs (srcNext zs i)))) = total) := Hacc
      obtain ⟨x, Hx⟩ : ∃ x, Hid (srcVal zs i 40 = x) := ⟨_, Lib.hid rfl⟩
      obtain ⟨y, Hy⟩ : ∃ y, Hid (srcVal zs (srcNext zs i) 81 = y) := ⟨_, Lib.hid rfl⟩
      obtain ⟨z, hz⟩ := Int.eq_ofNat_of_zero_le a3.1
      rw [Hx.out] at a1 Hgen
      rw [Hy.out] at a2 Hgen
      rw [hz] at a3 Hgen
      obtain ⟨a10, a11⟩ := a1
      obtain ⟨a20, a21⟩ := a2
      obtain ⟨_, a31⟩ := a3
      have Hz := Lib.hid hz
      clear hz Hacc
      go_wp2_with fail
      refine (next_any w.heap.size A cap zs i 40 _ HS.out (by omega) (by omega) hl).mono ?_
      rintro e w2 ⟨rfl, hg2, hs2⟩
      rw [Hx.out]
      have HS2 := Lib.hid hs2
      have Ho2 := Lib.hid (Ho.out.kept hg2 (by
        cases hB : (Value.slice B m c).ownBlock with
        | none => exact .inl rfl
        | some q => refine .inr ?_; have := (Ho.out.lt q hB).1; intro h; injection h with h; omega))
      have Hb2 : Hid (Below w.heap.size w w2) := Lib.hid (Hb.out.grown hg2 Hb.out.size (fun k hk => by injection hk with hk; omega))
      clear hg2 hs2 HS Ho Hb
      go_wp2_with fail
      refine (next_any w.heap.size A cap zs (srcNext zs i) 81 _ HS2.out (by omega) (by omega) hl).mono ?_
      rintro e w3 ⟨rfl, hg3, hs3⟩
      rw [Hy.out]
      have HS3 := Lib.hid hs3
      have Ho3 := Lib.hid (Ho2.out.kept hg3 (by
        cases hB : (Value.slice B m c).ownBlock with
        | none => exact .inl rfl
        | some q => refine .inr ?_; have := (Ho2.out.lt q hB).1; intro h; injection h with h; omega))
      have Hb3 : Hid (Below w.heap.size w w3) := Lib.hid (Hb2.out.grown hg3 Hb2.out.size (fun k hk => by injection hk with hk; omega))
      clear hg3 hs3 HS2 Ho2 Hb2
      have HS3' : Hid (Src (w3.alloc (.cells #[.int .i64 (1000 + 1000 * x), .int .i64 (y - 40)] 34)) w.heap.size A cap zs (srcNext zs (srcNext zs i))) := Lib.hid (HS3.out.below ((Below.refl _ _).alloc (Nat.le_refl _) _))
      have Ho3' := Lib.hid (Ho3.out.alloc (.cells #[.int .i64 (1000 + 1000 * x), .int .i64 (y - 40)] 34))
      have Hb3' := Lib.hid (Hb3.out.alloc Hb3.out.size (.cells #[.int .i64 (1000 + 1000 * x), .int .i64 (y - 40)] 34))
      obtain ⟨p, hp⟩ : ∃ p, p = w3.heap.size := ⟨_, rfl⟩
      have hps : w.heap.size < p := by rw [hp]; exact HS3.out.lt
      have Hpo : Hid (∀ q, (Value.slice B m c).ownBlock = some q → q ≠ p) := Lib.hid (fun q hq => by have := (Ho3.out.lt q hq).2; omega)
      have b0 : (w3.alloc (.cells #[.int .i64 (1000 + 1000 * x), .int .i64 (y - 40)] 34)).cell? ⟨p, 0, none⟩ = some (.int .i64 (1000 + 1000 * x)) := by rw [hp]; simp
      have b1 : (w3.alloc (.cells #[.int .i64 (1000 + 1000 * x), .int .i64 (y - 40)] 34)).cell? ⟨p, 1, none⟩ = some (.int .i64 (y - 40)) := by rw [hp]; simp
      have HB0 := Lib.hid b0
      have HB1 := Lib.hid b1
      clear b0 b1 HS3 Ho3 Hb3
      go_wp2_with fail
      rw [← hp]
      clear hp
      generalize w3.alloc (.cells #[.int .i64 (1000 + 1000 * x), .int .i64 (y - 40)] 34) = w4 at *
      refine (next_any w.heap.size A cap zs (srcNext zs (srcNext zs i)) 4 _ HS3'.out (by omega) (by omega) hl).mono ?_
      rintro e w5 ⟨rfl, hg5, hs5⟩
      rw [Hz.out]
      have HS5 := Lib.hid hs5
      have Ho5 := Lib.hid (Ho3'.out.kept hg5 (by
        cases hB : (Value.slice B m c).ownBlock with
        | none => exact .inl rfl
        | some q => refine .inr ?_; have := (Ho3'.out.lt q hB).1; intro h; injection h with h; omega))
      have Hb5 : Hid (Below w.heap.size w w5) := Lib.hid (Hb3'.out.grown hg5 Hb3'.out.size (fun k hk => by injection hk with hk; omega))
      have HB05 := Lib.hid (hg5.cell HB0.out (by show some p ≠ some w.heap.size; intro h; injection h with h; omega))
      have HB15 := Lib.hid (hg5.cell HB1.out (by show some p ≠ some w.heap.size; intro h; injection h with h; omega))
      obtain ⟨i3, Hi3⟩ : ∃ i3, Hid (srcNext zs (srcNext zs (srcNext zs i)) = i3) := ⟨_, Lib.hid rfl⟩
      rw [Hi3.out] at Hgen HS5
      have Hgen' : Hid (acc ++ (List.replicate (1 + z) (1000 + 1000 * x, y - 40) ++ genCells zs r i3) = total) := Lib.hid (by
        have := Hgen.out; rwa [show ((1 : Int) + (z : Int)).toNat = 1 + z by omega] at this)
      clear hg5 hs5 HS3' Ho3' Hb3' HB0 HB1 Hgen
      go_wp2
      go_loopw [4, 7] (fun v kv wr => ∃ (k m : Nat) (B : Option Addr) (c : Nat) (acc : List (Int × Int)), k ≤ 4 ∧ kv = .int .i64 k ∧ v = .slice B m c ∧ Hid (acc.length = m) ∧ Hid (acc ++ (List.replicate k (1000 + 1000 * x, y - 40) ++ genCells zs r i3) = total) ∧ Hid (Src wr w.heap.size A cap zs i3) ∧ Hid (wr.ownsRow (w.heap.size + 1) 34 2 (.slice B m c) m (flatC acc)) ∧ Hid (Below w.heap.size w wr) ∧
          Hid (wr.cell? ⟨p, 0, none⟩ = some (.int .i64 (1000 + 1000 * x))) ∧ Hid (wr.cell? ⟨p, 1, none⟩ = some (.int .i64 (y - 40))) ∧ Hid (∀ q, (Value.slice B m c).ownBlock = some q → q ≠ p)) (fun _ kv _ => (intOf kv).toNat)
      case atStart => exact ⟨1 + z, m, B, c, acc, by omega, by go_num, rfl, Hm, Hgen', HS5, Ho5, Hb5, HB05, HB15, Hpo⟩
      case round =>
        clear Hm Hgen' HS5 Ho5 Hb5 HB05 HB15 Hpo
        obtain ⟨k, m, B, c, acc, hk, rfl, rfl, Hm, Hgen, HS, Ho, Hb, HB0, HB1, Hpo⟩ := hrel
        cases k with
        | zero =>
          have Hgen2 : Hid (acc ++ genCells zs r i3 = total) := Lib.hid (by have := Hgen.out; simpa using this)
          go_wp2
          go_roundw
          case rel => exact ⟨r, i3, m, B, c, acc, by omega, by go_num, rfl, Hm, Hgen2, HS, Ho, Hb⟩
          case measure => simp [intOf]
        | succ k =>
          have Hgen2 : Hid ((acc ++ [(1000 + 1000 * x, y - 40)]) ++ (List.replicate k (1000 + 1000 * x, y - 40) ++ genCells zs r i3) = total) := Lib.hid (by
            have := Hgen.out; rw [List.replicate_succ] at this; simpa using this)
          have hm56 : m + 1 ≤ 56 := by
            have h1 := congrArg List.length Hgen2.out
            simp only [List.length_append, List.length_cons, List.length_nil] at h1
            have := Hm.out; omega
          have b0 := HB0.out
          have b1 := HB1.out
          have hplt : p < wr.heap.size := World.block_lt_of_cell? wr ⟨p, 0, none⟩ b0
          go_wp2_with (at_builtin; refine wpList_append_lies _ (by rfl) _ _ _ (by rfl) (w.heap.size + 1) 34 i0 (.agg #[.int .i64 0, .int .i64 0]) 2 16 Try.underlying23 hi hz0 hz1 hz2 rfl (by omega) _ m _ (by rfl) (Ho.out.alloc _) ⟨wr.heap.size, 0, none⟩ 1 1 [.int .i64 (1000 + 1000 * x), .int .i64 (y - 40)] (by rfl) (by rfl) ?c1 ?c2 (by omega) ?c3 ?c4 ?c5 (wr.heap.size + 1) (by simp) ?_)
          case c1 => exact World.news_of_block (heap_alloc_new wr _)
          case c2 => intro u hu; simp at hu; rcases hu with rfl | rfl <;> rfl
          case c3 => unfold maxLen; omega
          case c4 => omega
          case c5 => have := HS.out.lt; simp; omega
          intro g cap' w6 hown hg hat hlt1
          have Hown : Hid (w6.ownsRow (w.heap.size + 1) 34 2 (.slice (some ⟨g, 0, none⟩) (m + 1) cap') (m + 1) (flatC (acc ++ [(1000 + 1000 * x, y - 40)]))) := Lib.hid (by
            rw [flatC_append, flatC_one]; exact hown)
          have Hb6 : Hid (Below w.heap.size w w6) := Lib.hid ((Hb.out.alloc Hb.out.size _).grown hg (by have := Hb.out.size; simp; omega) (fun q hq => by have := (Ho.out.lt q hq).1; omega))
          have HS6 : Hid (Src w6 w.heap.size A cap zs i3) := Lib.hid ((HS.out.below ((Below.refl _ _).alloc (Nat.le_refl _) _)).grown hg (fun e => by have := (Ho.out.lt w.heap.size e.symm).1; omega) (fun b off e h0 h => by have := HA.out.lt e h0; have := (Ho.out.lt b h.symm).1; omega))
          have hne : some p ≠ (Value.slice B m c).ownBlock := fun e => Hpo.out p e.symm rfl
          have HB06 := Lib.hid (hg.cell (a := ⟨p, 0, none⟩) ((World.cell?_alloc_lt wr _ ⟨p, 0, none⟩ hplt).trans b0) hne)
          have HB16 := Lib.hid (hg.cell (a := ⟨p, 1, none⟩) ((World.cell?_alloc_lt wr _ ⟨p, 1, none⟩ hplt).trans b1) hne)
          have Hpo6 : Hid (∀ q, (Value.slice (some ⟨g, 0, none⟩) (m + 1) cap').ownBlock = some q → q ≠ p) := Lib.hid (fun q hq => by
            have hqg : g = q := by simpa [Value.ownBlock] using hq
            subst hqg
            rcases hat with h | h
            · exact Hpo.out _ h
            · omega)
          clear hown hg hat b0 b1 HB0 HB1 HS Ho Hb Hpo hne
          go_wp2
          go_roundw
          case rel => exact ⟨k, m + 1, _, _, acc ++ [(1000 + 1000 * x, y - 40)], by omega, by go_num, rfl, Lib.hid (by simp [Hm.out]), Hgen2, HS6, Hown, Hb6, HB06, HB16, Hpo6⟩
          case measure => simp [intOf]

/-- The stock that is made of a list of integers: length, speed, acceleration, braking rate. -/
def stLen (zs : List Int) : Int := 1 + srcVal zs 0 4
def stSpeed (zs : List Int) : Int := 5000 + 2500 * srcVal zs (srcNext zs 0) 12
def stAccel (zs : List Int) : Int := 200 + 100 * srcVal zs (srcNext zs (srcNext zs 0)) 8
def stBrake (zs : List Int) : Int := 200 + 100 * srcVal zs (srcNext zs (srcNext zs (srcNext zs 0))) 8
theorem stock_ranges (zs : List Int) : (1 ≤ stLen zs ∧ stLen zs ≤ 4) ∧ (5000 ≤ stSpeed zs ∧ stSpeed zs ≤ 32500) ∧ (200 ≤ stAccel zs ∧ stAccel zs ≤ 900) ∧ (200 ≤ stBrake zs ∧ stBrake zs ≤ 900) := by
  have a := srcVal_range zs 0 4 (by omega)
  have b := srcVal_range zs (srcNext zs 0) 12 (by omega)
  have c := srcVal_range zs (srcNext zs (srcNext zs 0)) 8 (by omega)
  have d := srcVal_range zs (srcNext zs (srcNext zs (srcNext zs 0))) 8 (by omega)
  unfold stLen stSpeed stAccel stBrake
  omega

theorem stock_any (A : Option Addr) (cap : Nat) (zs : List Int) (w : World) (hR : RdI w A zs) (hl : zs.length ≤ 9223372036854775807) :
    Calls Try.prog 14 #[.slice A zs.length cap] w fun e w' => e = .returned (.agg #[.string ⟨#[88]⟩, .int .i64 (stLen zs), .int .i64 (stSpeed zs), .int .i64 (stAccel zs), .int .i64 (stBrake zs)]) ∧ Below w.heap.size w w' := by
  have hA0 : Below w.heap.size w (w.alloc (.cells #[.string ⟨#[]⟩, .int .i64 0, .int .i64 0, .int .i64 0, .int .i64 0] 26)) := (Below.refl _ _).alloc (Nat.le_refl _) _
  have HS0 : Hid (Src ((w.alloc (.cells #[.string ⟨#[]⟩, .int .i64 0, .int .i64 0, .int .i64 0, .int .i64 0] 26)).alloc (.cells #[.slice A zs.length cap, .int .i64 0] 55)) (w.heap.size + 1) A cap zs 0) := Lib.hid (by
    have h := Src.new (w.alloc (.cells #[.string ⟨#[]⟩, .int .i64 0, .int .i64 0, .int .i64 0, .int .i64 0] 26)) A cap zs 55 (hR.below hA0)
    rw [show (w.alloc (.cells #[.string ⟨#[]⟩, .int .i64 0, .int .i64 0, .int .i64 0, .int .i64 0] 26)).heap.size = w.heap.size + 1 by simp] at h
    exact h)
  have HB0 := Lib.hid (hA0.alloc (by simp) (.cells #[.slice A zs.length cap, .int .i64 0] 55))
  have HX : Hid ((((w.alloc (.cells #[.string ⟨#[]⟩, .int .i64 0, .int .i64 0, .int .i64 0, .int .i64 0] 26)).alloc (.cells #[.slice A zs.length cap, .int .i64 0] 55)).heap[w.heap.size]?) = some (.cells #[.string ⟨#[]⟩, .int .i64 0, .int .i64 0, .int .i64 0, .int .i64 0] 26 (0, 0))) := Lib.hid (by
    rw [Below.heap_alloc _ _ _ (by simp)]; exact heap_alloc_new w _)
  have a := srcVal_range zs 0 4 (by omega)
  have b := srcVal_range zs (srcNext zs 0) 12 (by omega)
  have c := srcVal_range zs (srcNext zs (srcNext zs 0)) 8 (by omega)
  have d := srcVal_range zs (srcNext zs (srcNext zs (srcNext zs 0))) 8 (by omega)
  unfold stLen stSpeed stAccel stBrake
  obtain ⟨x0, H0⟩ : ∃ x, Hid (srcVal zs 0 4 = x) := ⟨_, Lib.hid rfl⟩
  obtain ⟨x1, H1⟩ : ∃ x, Hid (srcVal zs (srcNext zs 0) 12 = x) := ⟨_, Lib.hid rfl⟩
  obtain ⟨x2, H2⟩ : ∃ x, Hid (srcVal zs (srcNext zs (srcNext zs 0)) 8 = x) := ⟨_, Lib.hid rfl⟩
  obtain ⟨x3, H3⟩ : ∃ x, Hid (srcVal zs (srcNext zs (srcNext zs (srcNext zs 0))) 8 = x) := ⟨_, Lib.hid rfl⟩
  rw [H0.out] at a
  rw [H1.out] at b
  rw [H2.out] at c
  rw [H3.out] at d
  rw [H0.out, H1.out, H2.out, H3.out]
  obtain ⟨a0, a1⟩ := a
  obtain ⟨b0, b1⟩ := b
  obtain ⟨c0, c1⟩ := c
  obtain ⟨d0, d1⟩ := d
  clear hR hA0
  go_enter Try.func14, Try.ntmps14
  go_wp2_with fail
  refine (from_any A zs.length cap _).mono ?_
  rintro e w' ⟨rfl, rfl⟩
  go_wp2_with fail
  have Hlt : Hid (w.heap.size < ((w.alloc (.cells #[.string ⟨#[]⟩, .int .i64 0, .int .i64 0, .int .i64 0, .int .i64 0] 26)).alloc (.cells #[.slice A zs.length cap, .int .i64 0] 55)).heap.size) := Lib.hid (by simp; omega)
  generalize (w.alloc (.cells #[.string ⟨#[]⟩, .int .i64 0, .int .i64 0, .int .i64 0, .int .i64 0] 26)).alloc (.cells #[.slice A zs.length cap, .int .i64 0] 55) = w0 at *
  refine (next_any (w.heap.size + 1) A cap zs _ 4 _ HS0.out (by omega) (by omega) hl).mono ?_
  rintro e w1 ⟨rfl, hg1, hs1⟩
  rw [H0.out]
  go_wp2_with fail
  refine (next_any (w.heap.size + 1) A cap zs _ 12 _ hs1 (by omega) (by omega) hl).mono ?_
  rintro e w2 ⟨rfl, hg2, hs2⟩
  rw [H1.out]
  have HG2 := Lib.hid (hg1.trans hg2)
  clear hg1 hg2 hs1
  go_wp2_with fail
  refine (next_any (w.heap.size + 1) A cap zs _ 8 _ hs2 (by omega) (by omega) hl).mono ?_
  rintro e w3 ⟨rfl, hg3, hs3⟩
  rw [H2.out]
  have HG3 := Lib.hid (HG2.out.trans hg3)
  clear hg3 hs2 HG2
  go_wp2_with fail
  refine (next_any (w.heap.size + 1) A cap zs _ 8 _ hs3 (by omega) (by omega) hl).mono ?_
  rintro e w4 ⟨rfl, hg4, hs4⟩
  rw [H3.out]
  have HG4 := Lib.hid (HG3.out.trans hg4)
  have hblk := (HG4.out.block w.heap.size Hlt.out (by intro h; injection h with h; omega)).trans HX.out
  have q : ∀ i, w4.cell? ⟨w.heap.size, i, none⟩ = (#[.string ⟨#[]⟩, .int .i64 0, .int .i64 0, .int .i64 0, .int .i64 0] : Array Value)[i]? := fun i => cell_of_row w4 w.heap.size i _ _ _ hblk
  have q0 := q 0
  have q1 := q 1
  have q2 := q 2
  have q3 := q 3
  have q4 := q 4
  have fz : ∀ i, w4.frozen? ⟨w.heap.size, i, none⟩ = false := fun i => by simp [World.frozen?, hblk]
  have f0 := fz 0
  have f1 := fz 1
  have f2 := fz 2
  have f3 := fz 3
  have f4 := fz 4
  have Hb4 : Hid (Below w.heap.size w w4) := Lib.hid (HB0.out.grown HG4.out HB0.out.size (fun k hk => by injection hk with hk; omega))
  clear q fz hblk hg4 hs4 HG3 HG4 HX HS0 HB0 Hlt
  simp only [List.getElem?_toArray, List.getElem?_cons_zero, List.getElem?_cons_succ] at q0 q1 q2 q3 q4
  go_wp2
  exact bodyPost_ret (v := .agg #[.string ⟨#[88]⟩, .int .i64 (1 + x0), .int .i64 (5000 + 2500 * x1), .int .i64 (200 + 100 * x2), .int .i64 (200 + 100 * x3)]) (by simp [results, Try.results14, go_sem, q0, q1, q2, q3, q4]) rfl ⟨rfl, ((((Hb4.out.setCell (Nat.le_refl _) _).setCell (Nat.le_refl _) _).setCell (Nat.le_refl _) _).setCell (Nat.le_refl _) _).setCell (Nat.le_refl _) _⟩
end Go.Proofs.Ytjmiddhdbimaaaa
