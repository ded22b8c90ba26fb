/- The checksum: contracts of Sum and of its reference: both return the CRC-32. -/
import Derived.Test.YthnfliopmjpdmaaProg
import Derived.Test.YthnfliopmjpdmaaCrcPlain
import Derived.WalkKit
import Derived.Lib.Hide
import Derived.Outline
import Derived.LoopTactic
import Derived.WalkLawsBesides
import Derived.Laws.BitsAllLaws
namespace Go.Proofs.Ythnfliopmjpdmaa
open Go.RowKit
set_option linter.unusedVariables false

theorem take_snoc (s : ByteArray) (k : Nat) (h : k < s.size) : s.data.toList.take (k + 1) = s.data.toList.take k ++ [s[k]] := by
  rw [List.take_succ_eq_append_getElem (by simpa using h)]; rfl

theorem val_u32 {a b : Int} (h : a = b) : Value.int .u32 a = Value.int .u32 b := by rw [h]

theorem bits_byte (c : Nat) (b : UInt8) (hc : c < 4294967296) : bits .xor .u32 (c : Int) ((b.toNat : Int) % 4294967296) = ((c ^^^ b.toNat : Nat) : Int) := by
  have hb : b.toNat < 256 := b.toNat_lt
  rw [show (b.toNat : Int) % 4294967296 = ((b.toNat : Nat) : Int) by omega, u32_xor_nat c b.toNat hc (by omega)]

theorem bits_poly (c : Nat) (hc : c < 4294967296) : bits .xor .u32 ((c : Int) / 2) 3988292384 = (((c / 2) ^^^ 3988292384 : Nat) : Int) := by
  rw [show (c : Int) / 2 = ((c / 2 : Nat) : Int) by omega, show (3988292384 : Int) = ((3988292384 : Nat) : Int) from rfl, u32_xor_nat _ _ (by omega) (by omega)]

theorem bits_low (c : Nat) (hc : c < 4294967296) : bits .and .u32 (c : Int) 1 = ((c % 2 : Nat) : Int) := by
  rw [show (1 : Int) = ((1 : Nat) : Int) from rfl, u32_and_nat _ _ hc (by omega), nat_mask1]

theorem bits_not (c : Nat) (hc : c < 4294967296) : bits .xor .u32 IntKind.u32.max (c : Int) = ((4294967295 ^^^ c : Nat) : Int) := by
  rw [show IntKind.u32.max = ((4294967295 : Nat) : Int) from rfl, u32_xor_nat _ _ (by omega) hc]

theorem sum_any (s : ByteArray) (w : World) (hs : s.size ≤ 9223372036854775807) :
    Calls Try.prog 12 #[.string s] w fun e w' => e = .returned (.int .u32 (Pl.crc s.data.toList : Nat)) ∧ w = w' := by
  go_enter Try.func12, Try.ntmps12
  go_wp2
  go_loop [3, 8] (fun u v => ∃ k c : Nat, k ≤ s.size ∧ c < 4294967296 ∧ Hid (Pl.crcFold (s.data.toList.take k) 4294967295 = c) ∧ u = .int .u32 c ∧ v = .int .i64 k) (fun _ v => s.size - (intOf v).toNat)
  case atStart => exact ⟨0, 4294967295, by omega, by omega, Lib.hid rfl, rfl, rfl⟩
  case round =>
    obtain ⟨k, c, hk, hc, Hc, rfl, rfl⟩ := hrel
    by_cases hlt : k < s.size
    · have hsn : Hid (Pl.crcFold (s.data.toList.take (k + 1)) 4294967295 = Pl.crcByte c s[k].toNat) := Lib.hid (by rw [take_snoc s k hlt, Pl.crcFold_snoc, Hc.out])
      have hx := bits_byte c s[k] hc
      have Hx := Lib.hid hx
      clear hx
      go_wp2
      go_loop [3, 17] (fun u v => ∃ j d : Nat, j ≤ 8 ∧ d < 4294967296 ∧ Hid (d = Pl.crcBits j (c ^^^ s[k].toNat)) ∧ u = .int .u32 d ∧ v = .int .i64 j) (fun _ v => 8 - (intOf v).toNat)
      case atStart => exact ⟨0, c ^^^ s[k].toNat, by omega, Pl.xor_lt _ _ hc (by have := s[k].toNat_lt; omega), Lib.hid rfl, val_u32 Hx.out, rfl⟩
      case round =>
        obtain ⟨j, d, hj, hd, Hd, rfl, rfl⟩ := hrel
        by_cases hj8 : j < 8
        · by_cases ho : d % 2 = 1
          · have e1 : (bits BinOp.and IntKind.u32 (d : Int) 1 == 1) = true := by rw [bits_low d hd, ho]; rfl
            have Hn : Hid (((d / 2) ^^^ 3988292384) = Pl.crcBits (j + 1) (c ^^^ s[k].toNat)) := Lib.hid (by show _ = Pl.crcBit _; rw [← Hd.out, Pl.crcBit, if_pos ho])
            have Hp := Lib.hid (bits_poly d hd)
            go_wp2
            go_round
            case rel => exact ⟨j + 1, _, by omega, Pl.xor_lt _ _ (by omega) (by omega), Hn, val_u32 Hp.out, by go_num⟩
            case measure => simp [intOf]; omega
          · have e1 : (bits BinOp.and IntKind.u32 (d : Int) 1 == 1) = false := by rw [bits_low d hd, show d % 2 = 0 by omega]; rfl
            have Hn : Hid (d / 2 = Pl.crcBits (j + 1) (c ^^^ s[k].toNat)) := Lib.hid (by show _ = Pl.crcBit _; rw [← Hd.out, Pl.crcBit, if_neg ho])
            go_wp2
            go_round
            case rel => exact ⟨j + 1, d / 2, by omega, by omega, Hn, by go_num, by go_num⟩
            case measure => simp [intOf]; omega
        · obtain rfl : j = 8 := by omega
          have Hn : Hid (Pl.crcFold (s.data.toList.take (k + 1)) 4294967295 = d) := Lib.hid (by rw [hsn.out, Hd.out]; rfl)
          go_wp2
          go_round
          case rel => exact ⟨k + 1, d, by omega, hd, Hn, rfl, by go_num⟩
          case measure => simp [intOf]; omega
    · have Hn : Hid (bits .xor .u32 IntKind.u32.max (c : Int) = ((Pl.crc s.data.toList : Nat) : Int)) := Lib.hid (by
        rw [bits_not c hc, ← Hc.out, List.take_of_length_le (by simp; omega)]; rfl)
      go_wp2
      go_ret
      exact ⟨by rw [← Hn.out]; rfl, rfl⟩

theorem refCrc_any (s : ByteArray) (w : World) (hs : s.size ≤ 9223372036854775807) :
    Calls Try.prog 19 #[.string s] w fun e w' => e = .returned (.int .u32 (Pl.crc s.data.toList : Nat)) ∧ w = w' := by
  go_enter Try.func19, Try.ntmps19
  go_wp2
  go_loop [3, 4] (fun u v => ∃ k c : Nat, k ≤ s.size ∧ c < 4294967296 ∧ Hid (Pl.crcFold (s.data.toList.take k) 4294967295 = c) ∧ u = .int .u32 c ∧ v = .int .i64 k) (fun _ v => s.size - (intOf v).toNat)
  case atStart => exact ⟨0, 4294967295, by omega, by omega, Lib.hid rfl, rfl, rfl⟩
  case round =>
    obtain ⟨k, c, hk, hc, Hc, rfl, rfl⟩ := hrel
    by_cases hlt : k < s.size
    · have hsn : Hid (Pl.crcFold (s.data.toList.take (k + 1)) 4294967295 = Pl.crcByte c s[k].toNat) := Lib.hid (by rw [take_snoc s k hlt, Pl.crcFold_snoc, Hc.out])
      have hx := bits_byte c s[k] hc
      have Hx := Lib.hid hx
      clear hx
      go_wp2
      go_loop [3, 5] (fun u v => ∃ j d : Nat, j ≤ 8 ∧ d < 4294967296 ∧ Hid (d = Pl.crcBits j (c ^^^ s[k].toNat)) ∧ u = .int .u32 d ∧ v = .int .i64 j) (fun _ v => 8 - (intOf v).toNat)
      case atStart => exact ⟨0, c ^^^ s[k].toNat, by omega, Pl.xor_lt _ _ hc (by have := s[k].toNat_lt; omega), Lib.hid rfl, val_u32 Hx.out, rfl⟩
      case round =>
        obtain ⟨j, d, hj, hd, Hd, rfl, rfl⟩ := hrel
        by_cases hj8 : j < 8
        · by_cases ho : d % 2 = 1
          · have e1 : (bits BinOp.and IntKind.u32 (d : Int) 1 == 1) = true := by rw [bits_low d hd, ho]; rfl
            have Hn : Hid (((d / 2) ^^^ 3988292384) = Pl.crcBits (j + 1) (c ^^^ s[k].toNat)) := Lib.hid (by show _ = Pl.crcBit _; rw [← Hd.out, Pl.crcBit, if_pos ho])
            have Hp := Lib.hid (bits_poly d hd)
            go_wp2
            go_round
            case rel => exact ⟨j + 1, _, by omega, Pl.xor_lt _ _ (by omega) (by omega), Hn, val_u32 Hp.out, by go_num⟩
            case measure => simp [intOf]; omega
          · have e1 : (bits BinOp.and IntKind.u32 (d : Int) 1 == 1) = false := by rw [bits_low d hd, show d % 2 = 0 by omega]; rfl
            have Hn : Hid (d / 2 = Pl.crcBits (j + 1) (c ^^^ s[k].toNat)) := Lib.hid (by show _ = Pl.crcBit _; rw [← Hd.out, Pl.crcBit, if_neg ho])
            go_wp2
            go_round
            case rel => exact ⟨j + 1, d / 2, by omega, by omega, Hn, by go_num, by go_num⟩
            case measure => simp [intOf]; omega
        · obtain rfl : j = 8 := by omega
          have Hn : Hid (Pl.crcFold (s.data.toList.take (k + 1)) 4294967295 = d) := Lib.hid (by rw [hsn.out, Hd.out]; rfl)
          go_wp2
          go_round
          case rel => exact ⟨k + 1, d, by omega, hd, Hn, rfl, by go_num⟩
          case measure => simp [intOf]; omega
    · have Hn : Hid (bits .xor .u32 IntKind.u32.max (c : Int) = ((Pl.crc s.data.toList : Nat) : Int)) := Lib.hid (by
        rw [bits_not c hc, ← Hc.out, List.take_of_length_le (by simp; omega)]; rfl)
      go_wp2
      go_ret
      exact ⟨by rw [← Hn.out]; rfl, rfl⟩

theorem crc_a : Pl.crc [97] = 3904355907 := by decide +kernel

theorem awake_any (w : World) :
    Calls Try.prog 16 #[] w fun e w' => e = .returned (.bool true) ∧ w = w' := by
  go_enter Try.func16, Try.ntmps16
  go_wp2_with fail
  refine (sum_any ⟨#[97]⟩ _ (by decide)).mono ?_
  rintro e w' ⟨rfl, rfl⟩
  rw [show Pl.crc (⟨#[97]⟩ : ByteArray).data.toList = 3904355907 from crc_a]
  go_wp2
  go_ret
  exact ⟨rfl, rfl⟩
end Go.Proofs.Ythnfliopmjpdmaa
