/- The set of names that checkName keeps in a map; the contract of checkName. -/
import Derived.Test.YthnfliopmjpdmaaName
import Derived.Maps.OwnOps
import Derived.Maps.Views
import Derived.StringKeys
namespace Go.Proofs.Ythnfliopmjpdmaa
open Go.RowKit
open Go.WideMaps (keyOf_string_mk)
set_option linter.unusedVariables false

theorem run_zero_bool (w : World) : (zeroValue 4).run Try.prog w = .ok (.bool false) w := by kernel_rfl

/-- Block b is a map of which exactly the names seen are true. -/
def SeenM (w : World) (b : Nat) (seen : List ByteArray) : Prop :=
  ∃ D : DataW Unit, w.ownsMap Try.prog 9 (plainElem Try.prog 4) b seen.length D ∧ Maps.IsMap D ∧ ∀ s : ByteArray, D.atKey (.string s.data.toList) (.lit (.bool false)) = .lit (.bool (memS s seen))

theorem memS_snoc (s x : ByteArray) (l : List ByteArray) : memS s (l ++ [x]) = (memS s l || eqS s x) := by simp [memS, List.any_append]
theorem bytes_inj {a b : ByteArray} (h : a.data.toList = b.data.toList) : a = b := by
  cases a; cases b; simp at h; rw [h]

theorem SeenM.new (w : World) : SeenM (w.alloc (.map #[] 0)) w.heap.size [] :=
  ⟨.map [], World.ownsMap_made w _ _ _, Maps.isMap_empty, fun s => by simp [DataW.atKey, memS]⟩
theorem SeenM.of_block {w w' : World} {b : Nat} {seen : List ByteArray} (h : SeenM w b seen) (e : w'.heap[b]? = w.heap[b]?) : SeenM w' b seen := by
  obtain ⟨D, ⟨es, c, h1, h2⟩, h3⟩ := h
  exact ⟨D, ⟨es, c, e.trans h1, h2⟩, h3⟩
theorem SeenM.lt {w : World} {b : Nat} {seen : List ByteArray} (h : SeenM w b seen) : b < w.heap.size := by
  obtain ⟨D, h1, _⟩ := h; exact h1.lt
theorem plainElem_bool_inv {e : TypeId} (he : Try.prog.underlying e = some .bool) {v : Value} {z : DataW Unit × List MemPlace} (h : plainElem Try.prog e v = some z) : ∃ x, v = .bool x ∧ z = (.lit (.bool x), []) := by
  unfold plainElem at h
  rw [he] at h
  cases v <;> simp at h
  exact ⟨_, rfl, h.symm⟩
theorem SeenM.look {w : World} {b : Nat} {seen : List ByteArray} (h : SeenM w b seen) (s : ByteArray) (hs : s.size ≤ maxLen) : (Instr.lookup 79 (.map (some b)) (.string s) false).run Try.prog w = .ok (.bool (memS s seen)) w := by
  obtain ⟨D, hown, hD, hat⟩ := h
  obtain ⟨v, ps, hrun, hv⟩ := hown.lookup (Maps.string_keyed Try.underlying9) Try.underlying79 (run_zero_bool w) (plainElem_bool Try.underlying4 false) (keyOf_string_mk Try.underlying9 hs)
  obtain ⟨x, rfl, hx⟩ := plainElem_bool_inv Try.underlying4 hv
  simp only [Prod.mk.injEq] at hx
  have h1 := hx.1
  rw [hat s] at h1
  have h3 : memS s seen = x := by simpa using h1
  rw [h3]; exact hrun
theorem SeenM.put {w : World} {b : Nat} {seen : List ByteArray} (h : SeenM w b seen) (s : ByteArray) (hs : s.size ≤ maxLen) (hn : seen.length < maxLen) :
    ∃ w', (Instr.mapUpdate 79 (.map (some b)) (.string s) (.bool true)).run Try.prog w = .ok () w' ∧ SeenM w' b (seen ++ [s]) ∧ w.grownBy w' (some b) := by
  obtain ⟨D, hown, hD, hat⟩ := h
  obtain ⟨w', hrun, ho, hg⟩ := hown.update (Maps.string_keyed Try.underlying9) Try.underlying79 hn (keyOf_string_mk Try.underlying9 hs) (plainElem_bool Try.underlying4 true)
  refine ⟨w', hrun, ⟨_, by rw [List.length_append]; exact ho, hD.put _ _, fun x => ?_⟩, hg⟩
  rw [memS_snoc]
  by_cases hx : x = s
  · subst hx
    rw [Maps.atKey_put_same hD ((Maps.string_keyed Try.underlying9).key (keyOf_string_mk (P := Try.prog) Try.underlying9 hs)), (eqS_iff _ _).2 rfl]; simp
  · rw [Maps.atKey_put_other (fun e => hx (bytes_inj (by simpa using e))), hat x, show eqS x s = false by rw [Bool.eq_false_iff]; exact fun h => hx ((eqS_iff _ _).1 h)]; simp

theorem nameErr_bad {seen : List ByteArray} {s : ByteArray} (h : nameB s = false) : nameErr seen s = 3 := by simp [nameErr, h]
theorem nameErr_dup {seen : List ByteArray} {s : ByteArray} (h : nameB s = true) (h2 : memS s seen = true) : nameErr seen s = 5 := by simp [nameErr, h, h2]
theorem nameErr_ok {seen : List ByteArray} {s : ByteArray} (h : nameB s = true) (h2 : memS s seen = false) : nameErr seen s = 0 := by simp [nameErr, h, h2]

theorem checkName_any (s : ByteArray) (b : Nat) (seen : List ByteArray) (w : World) (hs : s.size ≤ maxLen) (hM : SeenM w b seen) (hn : seen.length < maxLen) :
    Calls Try.prog 37 #[.string s, .map (some b)] w fun e w' => e = .returned (.int .i64 (nameErr seen s)) ∧ (nameErr seen s = 0 → SeenM w' b (seen ++ [s])) ∧ w.grownBy w' (some b) := by
  have hs' : s.size ≤ 9223372036854775807 := by unfold maxLen at hs; omega
  have hgr : w.grownBy w (some b) := ⟨rfl, rfl, rfl, Nat.le_refl _, fun _ _ _ => rfl⟩
  have Hgr := Lib.hid hgr
  clear hgr
  cases hB : nameB s
  · have HB := Lib.hid hB
    have HE := Lib.hid (nameErr_bad (seen := seen) hB)
    clear hB hM
    go_enter Try.func37, Try.ntmps37
    go_wp2_with fail
    refine (name_any s _ hs').mono ?_
    rintro e w' ⟨rfl, rfl⟩
    rw [HB.out]
    go_wp2
    go_ret
    exact ⟨ret_int HE.out.symm, fun h => absurd h (by rw [HE.out]; decide), Hgr.out⟩
  · have hl := hM.look s hs
    cases hD : memS s seen
    · obtain ⟨w2, hu, hM2, hg2⟩ := hM.put s hs hn
      rw [hD] at hl
      have HB := Lib.hid hB
      have HE := Lib.hid (nameErr_ok hB hD)
      have HM2 := Lib.hid hM2
      have Hg2 := Lib.hid hg2
      clear hB hD hM hM2 hg2
      go_enter Try.func37, Try.ntmps37
      go_wp2_with fail
      refine (name_any s _ hs').mono ?_
      rintro e w' ⟨rfl, rfl⟩
      rw [HB.out]
      go_wp2
      go_ret
      exact ⟨ret_int HE.out.symm, fun _ => HM2.out, Hg2.out⟩
    · rw [hD] at hl
      have HB := Lib.hid hB
      have HE := Lib.hid (nameErr_dup hB hD)
      clear hB hD hM
      go_enter Try.func37, Try.ntmps37
      go_wp2_with fail
      refine (name_any s _ hs').mono ?_
      rintro e w' ⟨rfl, rfl⟩
      rw [HB.out]
      go_wp2
      go_ret
      exact ⟨ret_int HE.out.symm, fun h => absurd h (by rw [HE.out]; decide), Hgr.out⟩
end Go.Proofs.Ythnfliopmjpdmaa
