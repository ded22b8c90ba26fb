/- The source of choices of the statements' helpers: contracts of From and Next. -/
import Derived.Test.YtjmiddhdbimaaaaBase
import Derived.Test.YtjmiddhdbimaaaaPick
import Derived.Deep.AppendLies
import Derived.Maps.AppendAt
import Derived.OpenShut
namespace Go.Proofs.Ytjmiddhdbimaaaa
open Go.RowKit
set_option linter.unusedVariables false

/-- A slice of integers reads as a list. -/
def RdI (w : World) (A : Option Addr) (zs : List Int) : Prop :=
  ∀ k (h : k < zs.length), ∃ b off, A = some ⟨b, off, none⟩ ∧ b < w.heap.size ∧ w.cell? ⟨b, off + k, none⟩ = some (.int .i64 zs[k])
theorem RdI.below {w w' : World} {A : Option Addr} {zs : List Int} (h : RdI w A zs) (hb : Below w.heap.size w w') : RdI w' A zs := by
  intro k hk
  obtain ⟨b, off, e, hlt, h1⟩ := h k hk
  exact ⟨b, off, e, Nat.lt_of_lt_of_le hlt hb.size, by rw [hb.cell (p := ⟨b, _, none⟩) hlt]; exact h1⟩
theorem RdI.grown {w w' : World} {A : Option Addr} {zs : List Int} {s : Option Nat} (h : RdI w A zs) (hg : w.grownBy w' s) (hne : ∀ b off, A = some ⟨b, off, none⟩ → 0 < zs.length → some b ≠ s) : RdI w' A zs := by
  intro k hk
  obtain ⟨b, off, e, hlt, h1⟩ := h k hk
  exact ⟨b, off, e, Nat.lt_of_lt_of_le hlt hg.size, hg.cell h1 (hne b off e (by omega))⟩

/-- A slice argument as the frame of a proof opens it reads as the list of its elements. -/
theorem rdI_of_row {w : World} {a : Option Addr} {len cap : Nat} {zs : List Int}
    (h : (a = none ∧ len = 0 ∧ cap = 0 ∧ zs = []) ∨ ∃ x, a = some x ∧ len ≤ cap ∧ cap ≤ maxLen ∧ zs.length = cap ∧ (∀ i, i < zs.length → w.cell? (x.add i) = some (.int .i64 (zs.getD i 0))) ∧ ∀ n ∈ zs, (Lit.int .i64 n).wf = true) :
    RdI w a (zs.take len) ∧ (zs.take len).length = len ∧ len ≤ 9223372036854775807 := by
  rcases h with ⟨rfl, rfl, rfl, rfl⟩ | ⟨x, rfl, hl, hm, hz, hc, _⟩
  · exact ⟨fun k hk => by simp at hk, rfl, by omega⟩
  · unfold maxLen at hm
    refine ⟨fun k hk => ?_, by simp; omega, by omega⟩
    have hk' : k < zs.length := by simp at hk; omega
    obtain ⟨b, off, rfl, hcell⟩ := ints_at hc (by omega)
    have h1 := hcell k hk'
    refine ⟨b, off, rfl, World.block_lt_of_cell? w _ h1, ?_⟩
    rw [h1]
    simp [List.getD, hk']

/-- The k-th choice below n, the state after it. -/
def srcVal (zs : List Int) (i : Nat) (n : Int) : Int := if i < zs.length then pick (zs.getD i 0) n else 0
def srcNext (zs : List Int) (i : Nat) : Nat := if i < zs.length then i + 1 else i
theorem srcVal_range (zs : List Int) (i : Nat) (n : Int) (hn : 1 ≤ n) : 0 ≤ srcVal zs i n ∧ srcVal zs i n < n := by
  unfold srcVal
  split
  · exact pick_range _ _ hn
  · omega
theorem srcNext_le (zs : List Int) (i : Nat) (h : i ≤ zs.length) : srcNext zs i ≤ zs.length := by unfold srcNext; split <;> omega

/-- Block s is a source over the slice A that reads as zs, at its i-th choice. -/
structure Src (w : World) (s : Nat) (A : Option Addr) (cap : Nat) (zs : List Int) (i : Nat) : Prop where
  lt : s < w.heap.size
  c0 : w.cell? ⟨s, 0, none⟩ = some (.slice A zs.length cap)
  c1 : w.cell? ⟨s, 1, none⟩ = some (.int .i64 i)
  fz : w.frozen? ⟨s, 1, none⟩ = false
  le : i ≤ zs.length
  rd : RdI w A zs
  ne : ∀ b off, A = some ⟨b, off, none⟩ → 0 < zs.length → b ≠ s
theorem Src.grown {w w' : World} {s : Nat} {A : Option Addr} {cap : Nat} {zs : List Int} {i : Nat} {row : Option Nat} (h : Src w s A cap zs i) (hg : w.grownBy w' row) (hs : some s ≠ row) (hne : ∀ b off, A = some ⟨b, off, none⟩ → 0 < zs.length → some b ≠ row) : Src w' s A cap zs i :=
  ⟨Nat.lt_of_lt_of_le h.lt hg.size, hg.cell h.c0 hs, hg.cell h.c1 hs, (hg.frozen_far ⟨s, 1, none⟩ h.lt hs).trans h.fz, h.le, h.rd.grown hg hne, h.ne⟩
theorem Src.below {w w' : World} {s : Nat} {A : Option Addr} {cap : Nat} {zs : List Int} {i : Nat} (h : Src w s A cap zs i) (hb : Below w.heap.size w w') : Src w' s A cap zs i :=
  ⟨Nat.lt_of_lt_of_le h.lt hb.size, (hb.cell (p := ⟨s, 0, none⟩) h.lt).trans h.c0, (hb.cell (p := ⟨s, 1, none⟩) h.lt).trans h.c1, (hb.frozen (p := ⟨s, 1, none⟩) h.lt).trans h.fz, h.le, h.rd.below hb, h.ne⟩

theorem grown_of_drewN (w : World) (n : Nat) (row : Option Nat) : w.grownBy (w.drewN n) row := ⟨rfl, rfl, rfl, Nat.le_refl _, fun _ _ _ => rfl⟩
theorem grown_drewN {a w : World} {row : Option Nat} (h : a.grownBy w row) (n : Nat) : a.grownBy (w.drewN n) row := ⟨h.os, h.tape, h.output, h.size, h.block⟩
theorem grown_setCell (w : World) (p : Addr) (u : Value) : w.grownBy (w.setCell p u) (some p.block) :=
  ⟨rfl, rfl, rfl, by simp [World.setCell], fun i _ hne => Below.heap_setCell w p u i (fun e => hne (by rw [e]))⟩

theorem from_any (A : Option Addr) (n cap : Nat) (w : World) :
    Calls Try.prog 23 #[.slice A n cap] w fun e w' => e = .returned (.pointer (some ⟨w.heap.size, 0, none⟩)) ∧ w.alloc (.cells #[.slice A n cap, .int .i64 0] 55) = w' := by
  go_enter Try.func23, Try.ntmps23
  go_wp2
  go_ret
  exact ⟨rfl, rfl⟩

theorem RdI.lt {w : World} {A : Option Addr} {zs : List Int} (hR : RdI w A zs) {b off : Nat} (e : A = some ⟨b, off, none⟩) (h : 0 < zs.length) : b < w.heap.size := by
  obtain ⟨b', off', e', hlt, _⟩ := hR 0 h
  rw [e] at e'
  obtain ⟨rfl, rfl⟩ : b = b' ∧ off = off' := by simpa using e'
  exact hlt
theorem Src.new (w : World) (A : Option Addr) (cap : Nat) (zs : List Int) (t : TypeId) (hR : RdI w A zs) : Src (w.alloc (.cells #[.slice A zs.length cap, .int .i64 0] t)) w.heap.size A cap zs 0 :=
  ⟨by simp, by simp, by simp, by simp, Nat.zero_le _, hR.below ((Below.refl _ _).alloc (Nat.le_refl _) _), fun b off e h => by have := hR.lt e h; omega⟩

/-- What Next leaves. -/
def RetNext (w : World) (s : Nat) (A : Option Addr) (cap : Nat) (zs : List Int) (i : Nat) (n : Int) (e : Ending) (w' : World) : Prop :=
  e = .returned (.int .i64 (srcVal zs i n)) ∧ w.grownBy w' (some s) ∧ Src w' s A cap zs (srcNext zs i)

theorem next_any (s : Nat) (A : Option Addr) (cap : Nat) (zs : List Int) (i : Nat) (n : Int) (w : World) (hS : Src w s A cap zs i) (hn : 1 ≤ n) (hn' : n ≤ 9223372036854775807) (hl : zs.length ≤ 9223372036854775807) :
    Calls Try.prog 24 #[.pointer (some ⟨s, 0, none⟩), .int .i64 n] w (RetNext w s A cap zs i n) := by
  have HS := Lib.hid hS
  have c0 := hS.c0
  have c1 := hS.c1
  have fz := hS.fz
  have hle := hS.le
  by_cases hlt : i < zs.length
  · obtain ⟨b, off, rfl, hbl, cz⟩ := hS.rd i hlt
    have hne : b ≠ s := hS.ne b off rfl (by omega)
    clear hS
    have hd : decide (((zs.length : Nat) : Int) ≤ (i : Int)) = false := by simp; omega
    go_enter Try.func24, Try.ntmps24
    go_wp2
    go_quiet (fail)
    go_wp2
    have HG : Hid (w.grownBy ((w.drewN nq).setCell ⟨s, 1, none⟩ (.int .i64 ((i : Int) + 1))) (some s)) := Lib.hid ((grown_of_drewN w nq _).trans (grown_setCell (w.drewN nq) ⟨s, 1, none⟩ _))
    have HS1 : Hid (Src ((w.drewN nq).setCell ⟨s, 1, none⟩ (.int .i64 ((i : Int) + 1))) s (some ⟨b, off, none⟩) cap zs (i + 1)) := Lib.hid (by
      have hg := HG.out
      have h0 := HS.out
      refine ⟨Nat.lt_of_lt_of_le h0.lt hg.size, ?_, ?_, ?_, hlt, h0.rd.grown hg (fun b' off' e h => by have := h0.ne b' off' e h; simpa using this), h0.ne⟩
      · rw [World.cell?_setCell_other _ _ _ _ (fun e => by have := congrArg Addr.off e; simp at this)]; exact h0.c0
      · have : (w.drewN nq).cell? ⟨s, 1, none⟩ = some (.int .i64 i) := h0.c1
        rw [World.cell?_setCell_same _ _ _ this]; rfl
      · rw [World.frozen?_setCell]; exact h0.fz)
    have Hv : Hid (pick zs[i] n = srcVal zs i n) := Lib.hid (by unfold srcVal; rw [if_pos hlt]; simp [List.getD, hlt])
    have Hx : Hid (srcNext zs i = i + 1) := Lib.hid (by unfold srcNext; rw [if_pos hlt])
    clear c0 c1 fz cz
    generalize (w.drewN nq).setCell ⟨s, 1, none⟩ (.int .i64 ((i : Int) + 1)) = W1 at HG HS1 ⊢
    have c0 := HS1.out.c0
    have c1 := HS1.out.c1
    obtain ⟨b', off', e', hbl', cz⟩ := HS1.out.rd i hlt
    obtain ⟨rfl, rfl⟩ : b = b' ∧ off = off' := by simpa using e'
    have e1 : IntKind.i64.wrap ((i : Int) + 1 - 1) = (i : Int) := by rw [IntKind.wrap_i64]; omega
    have e2 : (((i + 1 : Nat) : Int)) = (i : Int) + 1 := by omega
    rw [e2] at c1
    clear e'
    go_quiet ((go_at_call 16; exact quiet_same (pick_any _ _ _ hn hn')))
    go_wp2
    go_ret
    exact ⟨ret_int Hv.out, grown_drewN HG.out _, by rw [Hx.out]; exact ⟨HS1.out.lt, HS1.out.c0, HS1.out.c1, HS1.out.fz, HS1.out.le, HS1.out.rd, HS1.out.ne⟩⟩
  · clear hS
    have hd : decide (((zs.length : Nat) : Int) ≤ (i : Int)) = true := by simp; omega
    go_enter Try.func24, Try.ntmps24
    go_wp2
    go_quiet (fail)
    go_wp2
    go_ret
    exact ⟨ret_int (by unfold srcVal; rw [if_neg hlt]), grown_of_drewN _ _ _, by unfold srcNext; rw [if_neg hlt]; exact ⟨HS.out.lt, HS.out.c0, HS.out.c1, HS.out.fz, HS.out.le, HS.out.rd, HS.out.ne⟩⟩
end Go.Proofs.Ytjmiddhdbimaaaa
