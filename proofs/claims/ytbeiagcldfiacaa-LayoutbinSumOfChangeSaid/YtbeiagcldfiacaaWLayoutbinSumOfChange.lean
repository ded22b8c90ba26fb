/- LayoutbinSumOfChange returns true, whatever its arguments: changing one byte changes the Sum. -/
import Derived.Test.YtbeiagcldfiacaaCrc
import Derived.Test.YtbeiagcldfiacaaPick
import Derived.Test.YtbeiagcldfiacaaBase
import Derived.RowKit3
import Derived.OpenShut
import Derived.RegionTactic
import Derived.BigQuiet
import Derived.Deep.QuietTactic
import Derived.Deep.RegionWith
import Derived.WalkSpells
namespace Go.Proofs.Ytbeiagcldfiacaa
open Go.RowKit
set_option linter.unusedVariables false

theorem change_fact (s : ByteArray) (k : Nat) (c : UInt8) (hk : k < s.size) :
    ((((Pl.crc s.data.toList : Nat) : Int) == ((Pl.crc (s.extract 0 k ++ ⟨#[c]⟩ ++ s.extract (k + 1) s.size).data.toList : Nat) : Int)) == ((s[k].toNat : Int) == (c.toNat : Int))) = true := by
  have hkl : k < s.data.toList.length := by simpa using hk
  have e1 : s.data.toList = s.data.toList.take k ++ s[k] :: s.data.toList.drop (k + 1) := by
    have h := List.take_append_drop k s.data.toList
    rw [List.drop_eq_getElem_cons hkl] at h
    exact h.symm
  have e2 : (s.extract 0 k ++ ⟨#[c]⟩ ++ s.extract (k + 1) s.size).data.toList = s.data.toList.take k ++ c :: s.data.toList.drop (k + 1) := by
    simp only [ByteArray.data_append, ByteArray.data_extract, Array.toList_append, Array.toList_extract]
    simp [List.extract]
    rw [List.take_of_length_le (by rw [List.length_drop, Array.length_toList]; exact Nat.le_refl _)]
  have e3 := Pl.crc_change (s.data.toList.take k) (s.data.toList.drop (k + 1)) s[k] c
  rw [e2]
  rw [← e1] at e3
  rw [beq_iff_eq, Bool.eq_iff_iff, beq_iff_eq, beq_iff_eq]
  constructor
  · intro h
    rw [e3.1 (by exact_mod_cast h)]
  · intro h
    have := e3.2 (UInt8.toNat_inj.1 (by exact_mod_cast h))
    rw [this]

theorem walkChange_yes (s : ByteArray) (v : Int) (c : UInt8) (w : World) (hs : s.size ≤ 9223372036854775807) (h0 : 0 < s.size) (k : Nat) (hk : k < s.size) (Hk : Hid (pick v s.size = (k : Int))) :
    Calls Try.prog 8 #[.string s, .int .i64 v, .int .u8 c.toNat] w fun e w' => e = .returned (.bool true) ∧ Grown w w' := by
  have hz : ((s.size : Int) == 0) = false := beq_eq_false_iff_ne.2 (by omega)
  obtain ⟨t, Ht⟩ : ∃ t : ByteArray, Hid (s.extract 0 k ++ ⟨#[c]⟩ ++ s.extract (k + 1) s.size = t) := ⟨_, Lib.hid rfl⟩
  have ht : t.size ≤ 9223372036854775807 := by
    rw [← Ht.out]
    simp only [ByteArray.size_append, ByteArray.size_extract]
    have : (⟨#[c]⟩ : ByteArray).size = 1 := rfl
    omega
  have HF : Hid (((((Pl.crc s.data.toList : Nat) : Int) == ((Pl.crc t.data.toList : Nat) : Int)) == ((s[k].toNat : Int) == (c.toNat : Int))) = true) := Lib.hid (by
    rw [← Ht.out]; exact change_fact s k c hk)
  have kc : ∀ wx : World, wx.cell? ⟨w.heap.size, 0, none⟩ = some (.int .u8 (c.toNat : Int)) → (convert 35 9 (.slice (some ⟨w.heap.size, 0, none⟩) 1 1)).run Try.prog wx = .ok (.string ⟨#[c]⟩) wx := fun wx h =>
    run_convert_bytes_back (P := Try.prog) wx 35 9 5 ⟨w.heap.size, 0, none⟩ 1 [c] Try.underlying35 Try.underlying5 Try.underlying9 (by
      intro j hj
      simp at hj
      subst hj
      exact h)
  have kc2 := kc ((w.alloc (.cells #[.int .u8 (c.toNat : Int)] 5)).drew) (by simp)
  have h1 : k ≤ s.size := by omega
  have h2 : k + 1 ≤ s.size := by omega
  have h3 : (k : Int) + 1 ≤ 9223372036854775807 := by omega
  clear kc
  go_enter Try.func8, Try.ntmps8
  (go_wp2_with fail; refine (pick_any v s.size _ (by omega) (by omega)).mono ?_; rintro e w' ⟨rfl, rfl⟩)
  rw [Hk.out]
  go_wp2
  go_region
  have hG : Grown w (w.alloc (.cells #[.int .u8 (c.toNat : Int)] 5)).drew := (Grown.refl w).alloc _ _
  rw [Ht.out]
  clear kc2
  generalize (w.alloc (.cells #[.int .u8 (c.toNat : Int)] 5)).drew = W1 at hG ⊢
  go_wp2
  go_quiet ((first | (go_at_call 21; exact quiet_same (awake_any _)) | (go_at_call 22; exact quiet_same (sum_any _ _ (by assumption)))))
  go_wp2
  go_ret
  exact ⟨congrArg (fun b => Ending.returned (.bool b)) HF.out, (hG : _)⟩

theorem walkChange_no (s : ByteArray) (v c : Int) (w : World) (h0 : s.size = 0) :
    Calls Try.prog 8 #[.string s, .int .i64 v, .int .u8 c] w fun e w' => e = .returned (.bool true) ∧ Grown w w' := by
  have hz : ((s.size : Int) == 0) = true := beq_iff_eq.2 (by omega)
  clear h0
  go_enter Try.func8, Try.ntmps8
  (go_wp2_with fail; refine (awake_any _).mono ?_; rintro e w' ⟨rfl, rfl⟩)
  go_wp2
  go_ret
  exact ⟨rfl, Grown.refl _⟩

theorem W.LayoutbinSumOfChange (a0 : ByteArray) (a1 : Int) (a2 : Int) (w0 : a0.size ≤ maxLen) (w1 : (Lit.int .i64 a1).wf = true) (w2 : (Lit.int .u8 a2).wf = true) (w : World) :
    Calls Try.prog 8 #[.string a0, .int .i64 a1, .int .u8 a2] w fun e w' => e = .returned (.bool true) ∧ Grown w w' := by
  unfold maxLen at w0
  have hu := bounds_u8 w2
  by_cases h0 : a0.size = 0
  · exact walkChange_no a0 a1 a2 w h0
  · obtain ⟨h1, h2⟩ := pick_range a1 a0.size (by omega)
    obtain ⟨k, hk⟩ := Int.eq_ofNat_of_zero_le h1
    have hc : a2 = ((UInt8.ofNat a2.toNat).toNat : Int) := by
      rw [UInt8.toNat_ofNat']; omega
    rw [hc]
    exact walkChange_yes a0 a1 (UInt8.ofNat a2.toNat) w w0 (by omega) k (by omega) (Lib.hid hk)
end Go.Proofs.Ytbeiagcldfiacaa
