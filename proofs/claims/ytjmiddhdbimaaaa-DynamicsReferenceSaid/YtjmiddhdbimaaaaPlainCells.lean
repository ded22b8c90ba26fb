/- Lists of cells that the statements' helpers make: contract of plain. -/
import Derived.Test.YtjmiddhdbimaaaaSrc
import Derived.Test.YtjmiddhdbimaaaaDyn1
import Derived.Deep.AppendLies
namespace Go.Proofs.Ytjmiddhdbimaaaa
open Go.RowKit
set_option linter.unusedVariables false

def flatC (cs : List (Int × Int)) : List Value := cs.flatMap fun c => [.int .i64 c.1, .int .i64 c.2]
theorem flatC_append (a b : List (Int × Int)) : flatC (a ++ b) = flatC a ++ flatC b := by simp [flatC]
theorem flatC_one (c : Int × Int) : flatC [c] = [.int .i64 c.1, .int .i64 c.2] := by simp [flatC]
theorem flatC_length (cs : List (Int × Int)) : (flatC cs).length = cs.length * 2 := by
  induction cs with
  | nil => rfl
  | cons c cs ih => simp only [flatC, List.flatMap_cons, List.length_append, List.length_cons] at *; simp only [List.length_nil]; omega
theorem flatC_at (cs : List (Int × Int)) (k : Nat) (h : k < cs.length) : (flatC cs)[k * 2]? = some (.int .i64 cs[k].1) ∧ (flatC cs)[k * 2 + 1]? = some (.int .i64 cs[k].2) := by
  induction cs generalizing k with
  | nil => simp at h
  | cons c cs ih =>
    cases k with
    | zero => simp [flatC]
    | succ k =>
      have := ih k (by simpa using h)
      have e : flatC (c :: cs) = .int .i64 c.1 :: .int .i64 c.2 :: flatC cs := by simp [flatC]
      rw [e]
      rw [show (k + 1) * 2 = k * 2 + 1 + 1 by omega]
      simpa using this

theorem info_cell : (Try.prog.info? 34).map (fun i => (i.zero, i.size, i.bytes)) = some (some (.agg #[.int .i64 0, .int .i64 0]), 2, 16) := by kernel_rfl

/-- A slice of the call's own holds a list of cells. -/
theorem RdC.of_own {w : World} {base : Nat} {A : Option Addr} {n c : Nat} {cs : List (Int × Int)} (h : w.ownsRow base 34 2 (.slice A n c) n (flatC cs)) (hn : n = cs.length) : RdC w A cs := by
  intro k hk
  obtain ⟨g, cap, hv, _, hlt⟩ := h.form (by omega)
  have hA : A = some ⟨g, 0, none⟩ := by injection hv
  subst hA
  have h1 := flatC_at cs k hk
  have h2 := h.cells (g := g) rfl
  have e : ∀ j, ((⟨g, 0, none⟩ : Addr).add j) = ⟨g, 0 + j, none⟩ := fun j => by unfold Addr.add; split <;> simp_all
  exact ⟨g, 0, rfl, hlt, by have := h2 _ _ h1.1; rwa [e] at this, by have := h2 _ _ h1.2; rwa [e] at this⟩

/-- The call returns a slice of its own that reads as a list of cells. -/
def RetCells (w : World) (cs : List (Int × Int)) (e : Ending) (w' : World) : Prop :=
  ∃ A c, e = .returned (.slice A cs.length c) ∧ w'.ownsRow w.heap.size 34 2 (.slice A cs.length c) cs.length (flatC cs) ∧ Below w.heap.size w w'

theorem plain_any (n : Nat) (w : World) (hn : n ≤ 5000) :
    Calls Try.prog 18 #[.int .i64 n] w (RetCells w (List.replicate n (30000, 0))) := by
  obtain ⟨i0, hi, hz0, hz1, hz2⟩ := info_parts info_cell
  go_enter Try.func18, Try.ntmps18
  go_wp2
  go_loopw [3, 4] (fun v kv wr => ∃ (k : Nat) (A : Option Addr) (c : Nat), k ≤ n ∧ kv = .int .i64 k ∧ v = .slice A k c ∧ Hid (wr.ownsRow w.heap.size 34 2 (.slice A k c) k (flatC (List.replicate k (30000, 0)))) ∧ Hid (Below w.heap.size w wr)) (fun _ kv _ => n - (intOf kv).toNat)
  case atStart => exact ⟨0, none, 0, by omega, rfl, rfl, Lib.hid (by simpa [flatC] using World.ownsRow_nil w w.heap.size 34 2), Lib.hid (Below.refl _ _)⟩
  case round =>
    obtain ⟨k, A, c, hk, rfl, rfl, Ho, Hb⟩ := hrel
    by_cases hlt : k < n
    · go_wp2_with (at_builtin; refine wpList_append_lies _ (by rfl) _ _ _ (by rfl) w.heap.size 34 i0 (.agg #[.int .i64 0, .int .i64 0]) 2 16 Try.underlying23 hi hz0 hz1 hz2 rfl (by omega) _ k _ (by rfl) (Ho.out.alloc _) ⟨wr.heap.size, 0, none⟩ 1 1 [.int .i64 30000, .int .i64 0] (by rfl) (by rfl) ?c1 ?c2 (by omega) ?c3 ?c4 ?c5 (wr.heap.size + 1) (by simp) ?_)
      case c1 => exact World.news_of_block (heap_alloc_new wr _)
      case c2 => intro u hu; simp at hu; rcases hu with rfl | rfl <;> rfl
      case c3 => unfold maxLen; omega
      case c4 => omega
      case c5 => have := Hb.out.size; simp; omega
      intro g cap w1 hown hg hat hlt1
      have Hown : Hid (w1.ownsRow w.heap.size 34 2 (.slice (some ⟨g, 0, none⟩) (k + 1) cap) (k + 1) (flatC (List.replicate (k + 1) (30000, 0)))) := Lib.hid (by
        rw [List.replicate_succ', flatC_append, flatC_one]; exact hown)
      have Hb1 : Hid (Below w.heap.size w w1) := Lib.hid ((Hb.out.alloc Hb.out.size _).grown hg (by have := Hb.out.size; simp; omega) (fun q hq => ((Ho.out.lt q hq).1)))
      clear hown hg hat
      go_wp2
      go_roundw
      case rel => exact ⟨k + 1, _, _, by omega, by go_num, rfl, Hown, Hb1⟩
      case measure => simp [intOf]; omega
    · obtain rfl : k = n := by omega
      go_wp2
      go_ret
      exact ⟨A, c, by simp, by simpa using Ho.out, Hb.out⟩
end Go.Proofs.Ytjmiddhdbimaaaa
