/- Contracts of Name and of the tests of bytes, of the program and of the reference. -/
import Derived.Test.YthnfliopmjpdmaaBase
import Derived.Test.YthnfliopmjpdmaaLayPlain
namespace Go.Proofs.Ythnfliopmjpdmaa
open Go.RowKit
set_option linter.unusedVariables false

theorem ret_bool {a b : Bool} (h : a = b) : Ending.returned (.bool a) = .returned (.bool b) := by rw [h]

theorem isLetter_any (c : Nat) (w : World) (hc : c < 256) :
    Calls Try.prog 63 #[.int .u8 c] w fun e w' => e = .returned (.bool (letN c)) ∧ w = w' := by
  go_enter Try.func63, Try.ntmps63
  go_wp2
  all_goals
    go_ret
    exact ⟨ret_bool (by rw [Bool.eq_iff_iff]; simp [letN]; try omega), rfl⟩
theorem refLetter_any (c : Nat) (w : World) (hc : c < 256) :
    Calls Try.prog 65 #[.int .u8 c] w fun e w' => e = .returned (.bool (letN c)) ∧ w = w' := by
  go_enter Try.func65, Try.ntmps65
  go_wp2
  all_goals
    go_ret
    exact ⟨ret_bool (by rw [Bool.eq_iff_iff]; simp [letN]; try omega), rfl⟩
theorem isDigit_any (c : Nat) (w : World) (hc : c < 256) :
    Calls Try.prog 64 #[.int .u8 c] w fun e w' => e = .returned (.bool (digN c)) ∧ w = w' := by
  go_enter Try.func64, Try.ntmps64
  go_wp2
  all_goals
    go_ret
    exact ⟨ret_bool (by rw [Bool.eq_iff_iff]; simp [digN]; try omega), rfl⟩
theorem refDigit_any (c : Nat) (w : World) (hc : c < 256) :
    Calls Try.prog 66 #[.int .u8 c] w fun e w' => e = .returned (.bool (digN c)) ∧ w = w' := by
  go_enter Try.func66, Try.ntmps66
  go_wp2
  all_goals
    go_ret
    exact ⟨ret_bool (by rw [Bool.eq_iff_iff]; simp [digN]; try omega), rfl⟩

theorem okN_cases (c : Nat) : (okN c = true ∧ (letN c = true ∨ (letN c = false ∧ digN c = true) ∨ (letN c = false ∧ digN c = false ∧ c = 95))) ∨ (okN c = false ∧ letN c = false ∧ digN c = false ∧ c ≠ 95) := by
  unfold okN
  by_cases h : c = 95
  · subst h; left; decide
  · have : (c == 95) = false := by simpa using h
    cases letN c <;> cases digN c <;> simp [h, this]
theorem all_one (s : ByteArray) (h0 : 0 < s.size) (h : letN s[0].toNat = true) : (s.data.toList.take 1).all (fun c => okN c.toNat) = true := by
  rw [all_upto s 0 h0, letN_ok h]; rfl

theorem name_any (s : ByteArray) (w : World) (hs : s.size ≤ 9223372036854775807) :
    Calls Try.prog 53 #[.string s] w fun e w' => e = .returned (.bool (nameB s)) ∧ w = w' := by
  by_cases h0 : s.size < 1
  · rw [nameB_short (.inl h0)]
    go_enter Try.func53, Try.ntmps53
    go_wp2
    go_ret
    exact ⟨rfl, rfl⟩
  · by_cases h1 : 12 < s.size
    · rw [nameB_short (.inr h1)]
      have h0' : 1 ≤ s.size := by omega
      go_enter Try.func53, Try.ntmps53
      go_wp2
      go_ret
      exact ⟨rfl, rfl⟩
    · have h2 : 0 < s.size := by omega
      have h0' : 1 ≤ s.size := by omega
      have h3 : s.size ≤ 12 := by omega
      by_cases hl : letN s[0].toNat = true
      · have Hl := Lib.hid hl
        clear hl
        go_enter Try.func53, Try.ntmps53
        go_wp2_with fail
        refine (isLetter_any _ _ (UInt8.toNat_lt _)).mono ?_
        rintro e w' ⟨rfl, rfl⟩
        rw [Hl.out]
        go_wp2
        go_loop [20] (fun i => ∃ k : Nat, 0 ≤ k ∧ k ≤ s.size ∧ i = .int .i64 k ∧ Hid ((s.data.toList.take k).all (fun c => okN c.toNat) = true)) (fun i => s.size - (intOf i).toNat)
        case atStart => exact ⟨0, by omega, by omega, rfl, Lib.hid rfl⟩
        case round =>
          obtain ⟨k, hk0, hk, rfl, Hk⟩ := hrel
          by_cases hlt : k < s.size
          · have Hup := Lib.hid (all_upto s k hlt (fun c => okN c.toNat))
            rcases okN_cases s[k].toNat with ⟨hok, hy | ⟨hx, hy⟩ | ⟨hx, hy, hz⟩⟩ | ⟨hok, hx, hy, hz⟩
            · have HL := Lib.hid hy
              have Hk1 : Hid ((s.data.toList.take (k + 1)).all (fun c => okN c.toNat) = true) := Lib.hid (by rw [Hup.out, Hk.out, hok]; rfl)
              clear hok hy
              go_wp2_with (go_at_call 63; refine (isLetter_any _ _ (UInt8.toNat_lt _)).mono ?_; rintro e w' ⟨rfl, rfl⟩; rw [HL.out])
              go_round
              case rel => exact ⟨k + 1, by omega, by omega, by go_num, Hk1⟩
              case measure => simp [intOf]; omega
            · have HL := Lib.hid hx
              have HD := Lib.hid hy
              have Hk1 : Hid ((s.data.toList.take (k + 1)).all (fun c => okN c.toNat) = true) := Lib.hid (by rw [Hup.out, Hk.out, hok]; rfl)
              clear hok hx hy
              go_wp2_with (first | (go_at_call 63; refine (isLetter_any _ _ (UInt8.toNat_lt _)).mono ?_; rintro e w' ⟨rfl, rfl⟩; rw [HL.out]) | (go_at_call 64; refine (isDigit_any _ _ (UInt8.toNat_lt _)).mono ?_; rintro e w' ⟨rfl, rfl⟩; rw [HD.out]))
              go_round
              case rel => exact ⟨k + 1, by omega, by omega, by go_num, Hk1⟩
              case measure => simp [intOf]; omega
            · have HL := Lib.hid hx
              have HD := Lib.hid hy
              have Hk1 : Hid ((s.data.toList.take (k + 1)).all (fun c => okN c.toNat) = true) := Lib.hid (by rw [Hup.out, Hk.out, hok]; rfl)
              have hb : ((s[k].toNat : Int) != 95) = false := by rw [hz]; rfl
              clear hok hx hy hz
              go_wp2_with (first | (go_at_call 63; refine (isLetter_any _ _ (UInt8.toNat_lt _)).mono ?_; rintro e w' ⟨rfl, rfl⟩; rw [HL.out]) | (go_at_call 64; refine (isDigit_any _ _ (UInt8.toNat_lt _)).mono ?_; rintro e w' ⟨rfl, rfl⟩; rw [HD.out]))
              go_round
              case rel => exact ⟨k + 1, by omega, by omega, by go_num, Hk1⟩
              case measure => simp [intOf]; omega
            · have HL := Lib.hid hx
              have HD := Lib.hid hy
              have HN := Lib.hid (nameB_no k hlt hok)
              have hb : ((s[k].toNat : Int) != 95) = true := by rw [bne_iff_ne]; omega
              clear hok hx hy hz
              go_wp2_with (first | (go_at_call 63; refine (isLetter_any _ _ (UInt8.toNat_lt _)).mono ?_; rintro e w' ⟨rfl, rfl⟩; rw [HL.out]) | (go_at_call 64; refine (isDigit_any _ _ (UInt8.toNat_lt _)).mono ?_; rintro e w' ⟨rfl, rfl⟩; rw [HD.out]))
              go_ret
              exact ⟨ret_bool HN.out.symm, rfl⟩
          · have HN : Hid (nameB s = true) := Lib.hid (nameB_mk h2 h3 Hl.out (by have := Hk.out; rwa [List.take_of_length_le (by rw [bytes_len]; omega)] at this))
            go_wp2
            go_ret
            exact ⟨ret_bool HN.out.symm, rfl⟩
      · have Hl := Lib.hid (Bool.eq_false_iff.2 hl)
        have HN := Lib.hid (nameB_no0 h2 (Bool.eq_false_iff.2 hl))
        clear hl
        go_enter Try.func53, Try.ntmps53
        go_wp2_with (go_at_call 63; refine (isLetter_any _ _ (UInt8.toNat_lt _)).mono ?_; rintro e w' ⟨rfl, rfl⟩; rw [Hl.out])
        go_ret
        exact ⟨ret_bool HN.out.symm, rfl⟩
theorem refName_any (s : ByteArray) (w : World) (hs : s.size ≤ 9223372036854775807) :
    Calls Try.prog 60 #[.string s] w fun e w' => e = .returned (.bool (nameB s)) ∧ w = w' := by
  by_cases h0 : s.size < 1
  · rw [nameB_short (.inl h0)]
    go_enter Try.func60, Try.ntmps60
    go_wp2
    go_ret
    exact ⟨rfl, rfl⟩
  · by_cases h1 : 12 < s.size
    · rw [nameB_short (.inr h1)]
      have h0' : 1 ≤ s.size := by omega
      go_enter Try.func60, Try.ntmps60
      go_wp2
      go_ret
      exact ⟨rfl, rfl⟩
    · have h2 : 0 < s.size := by omega
      have h0' : 1 ≤ s.size := by omega
      have h3 : s.size ≤ 12 := by omega
      by_cases hl : letN s[0].toNat = true
      · have Hl := Lib.hid hl
        clear hl
        go_enter Try.func60, Try.ntmps60
        go_wp2_with fail
        refine (refLetter_any _ _ (UInt8.toNat_lt _)).mono ?_
        rintro e w' ⟨rfl, rfl⟩
        rw [Hl.out]
        go_wp2
        go_loop [3] (fun i => ∃ k : Nat, 1 ≤ k ∧ k ≤ s.size ∧ i = .int .i64 k ∧ Hid ((s.data.toList.take k).all (fun c => okN c.toNat) = true)) (fun i => s.size - (intOf i).toNat)
        case atStart => exact ⟨1, by omega, by omega, rfl, Lib.hid (all_one s h2 Hl.out)⟩
        case round =>
          obtain ⟨k, hk0, hk, rfl, Hk⟩ := hrel
          by_cases hlt : k < s.size
          · have Hup := Lib.hid (all_upto s k hlt (fun c => okN c.toNat))
            rcases okN_cases s[k].toNat with ⟨hok, hy | ⟨hx, hy⟩ | ⟨hx, hy, hz⟩⟩ | ⟨hok, hx, hy, hz⟩
            · have HL := Lib.hid hy
              have Hk1 : Hid ((s.data.toList.take (k + 1)).all (fun c => okN c.toNat) = true) := Lib.hid (by rw [Hup.out, Hk.out, hok]; rfl)
              clear hok hy
              go_wp2_with (go_at_call 65; refine (refLetter_any _ _ (UInt8.toNat_lt _)).mono ?_; rintro e w' ⟨rfl, rfl⟩; rw [HL.out])
              go_round
              case rel => exact ⟨k + 1, by omega, by omega, by go_num, Hk1⟩
              case measure => simp [intOf]; omega
            · have HL := Lib.hid hx
              have HD := Lib.hid hy
              have Hk1 : Hid ((s.data.toList.take (k + 1)).all (fun c => okN c.toNat) = true) := Lib.hid (by rw [Hup.out, Hk.out, hok]; rfl)
              clear hok hx hy
              go_wp2_with (first | (go_at_call 65; refine (refLetter_any _ _ (UInt8.toNat_lt _)).mono ?_; rintro e w' ⟨rfl, rfl⟩; rw [HL.out]) | (go_at_call 66; refine (refDigit_any _ _ (UInt8.toNat_lt _)).mono ?_; rintro e w' ⟨rfl, rfl⟩; rw [HD.out]))
              go_round
              case rel => exact ⟨k + 1, by omega, by omega, by go_num, Hk1⟩
              case measure => simp [intOf]; omega
            · have HL := Lib.hid hx
              have HD := Lib.hid hy
              have Hk1 : Hid ((s.data.toList.take (k + 1)).all (fun c => okN c.toNat) = true) := Lib.hid (by rw [Hup.out, Hk.out, hok]; rfl)
              have hb : ((s[k].toNat : Int) != 95) = false := by rw [hz]; rfl
              clear hok hx hy hz
              go_wp2_with (first | (go_at_call 65; refine (refLetter_any _ _ (UInt8.toNat_lt _)).mono ?_; rintro e w' ⟨rfl, rfl⟩; rw [HL.out]) | (go_at_call 66; refine (refDigit_any _ _ (UInt8.toNat_lt _)).mono ?_; rintro e w' ⟨rfl, rfl⟩; rw [HD.out]))
              go_round
              case rel => exact ⟨k + 1, by omega, by omega, by go_num, Hk1⟩
              case measure => simp [intOf]; omega
            · have HL := Lib.hid hx
              have HD := Lib.hid hy
              have HN := Lib.hid (nameB_no k hlt hok)
              have hb : ((s[k].toNat : Int) != 95) = true := by rw [bne_iff_ne]; omega
              clear hok hx hy hz
              go_wp2_with (first | (go_at_call 65; refine (refLetter_any _ _ (UInt8.toNat_lt _)).mono ?_; rintro e w' ⟨rfl, rfl⟩; rw [HL.out]) | (go_at_call 66; refine (refDigit_any _ _ (UInt8.toNat_lt _)).mono ?_; rintro e w' ⟨rfl, rfl⟩; rw [HD.out]))
              go_ret
              exact ⟨ret_bool HN.out.symm, rfl⟩
          · have HN : Hid (nameB s = true) := Lib.hid (nameB_mk h2 h3 Hl.out (by have := Hk.out; rwa [List.take_of_length_le (by rw [bytes_len]; omega)] at this))
            go_wp2
            go_ret
            exact ⟨ret_bool HN.out.symm, rfl⟩
      · have Hl := Lib.hid (Bool.eq_false_iff.2 hl)
        have HN := Lib.hid (nameB_no0 h2 (Bool.eq_false_iff.2 hl))
        clear hl
        go_enter Try.func60, Try.ntmps60
        go_wp2_with (go_at_call 65; refine (refLetter_any _ _ (UInt8.toNat_lt _)).mono ?_; rintro e w' ⟨rfl, rfl⟩; rw [Hl.out])
        go_ret
        exact ⟨ret_bool HN.out.symm, rfl⟩
end Go.Proofs.Ythnfliopmjpdmaa
