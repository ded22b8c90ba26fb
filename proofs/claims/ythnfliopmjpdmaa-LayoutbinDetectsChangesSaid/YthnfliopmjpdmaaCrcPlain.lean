/- The CRC-32, plainly. -/
namespace Go.Proofs.Ythnfliopmjpdmaa.Pl

theorem xor_right {a b c : Nat} (h : a ^^^ c = b ^^^ c) : a = b := by
  have := congrArg (fun z => z ^^^ c) h
  simpa [Nat.xor_assoc, Nat.xor_self, Nat.xor_zero] using this
theorem xor_left {a b c : Nat} (h : c ^^^ a = c ^^^ b) : a = b := xor_right (c := c) (by rw [Nat.xor_comm a c, Nat.xor_comm b c, h])
def crcBit (c : Nat) : Nat := if c % 2 = 1 then (c / 2) ^^^ 3988292384 else c / 2
def crcBits : Nat → Nat → Nat
  | 0, c => c
  | j + 1, c => crcBit (crcBits j c)
def crcByte (c b : Nat) : Nat := crcBits 8 (c ^^^ b)
def crcFold (l : List UInt8) (c : Nat) : Nat := l.foldl (fun c b => crcByte c b.toNat) c
def crc (l : List UInt8) : Nat := 4294967295 ^^^ crcFold l 4294967295

theorem crcBit_lt (c : Nat) (h : c < 4294967296) : crcBit c < 4294967296 := by
  unfold crcBit
  split
  · exact Nat.xor_lt_two_pow (n := 32) (by omega) (by omega)
  · omega
theorem crcBits_lt (j c : Nat) (h : c < 4294967296) : crcBits j c < 4294967296 := by
  induction j with
  | zero => exact h
  | succ j ih => exact crcBit_lt _ ih
theorem xor_lt (c b : Nat) (h : c < 4294967296) (hb : b < 4294967296) : c ^^^ b < 4294967296 := Nat.xor_lt_two_pow (n := 32) h hb
theorem crcByte_lt (c b : Nat) (h : c < 4294967296) (hb : b < 256) : crcByte c b < 4294967296 := crcBits_lt _ _ (xor_lt _ _ h (by omega))
theorem crcFold_lt (l : List UInt8) (c : Nat) (h : c < 4294967296) : crcFold l c < 4294967296 := by
  induction l generalizing c with
  | nil => exact h
  | cons b l ih => exact ih _ (crcByte_lt _ _ h (by have := b.toNat_lt; omega))
theorem crcFold_snoc (l : List UInt8) (b : UInt8) (c : Nat) : crcFold (l ++ [b]) c = crcByte (crcFold l c) b.toNat := by simp [crcFold, List.foldl_append]
theorem crcFold_append (l m : List UInt8) (c : Nat) : crcFold (l ++ m) c = crcFold m (crcFold l c) := by simp [crcFold, List.foldl_append]
theorem crc_lt (l : List UInt8) : crc l < 4294967296 := xor_lt _ _ (by omega) (crcFold_lt _ _ (by omega))

theorem crcBit_inj (x y : Nat) (hx : x < 4294967296) (hy : y < 4294967296) (h : crcBit x = crcBit y) : x = y := by
  have tb : ∀ z : Nat, z < 4294967296 → (z / 2).testBit 31 = false := fun z hz => Nat.testBit_lt_two_pow (by omega)
  have tp : (3988292384 : Nat).testBit 31 = true := by decide
  unfold crcBit at h
  by_cases h1 : x % 2 = 1
  · by_cases h2 : y % 2 = 1
    · rw [if_pos h1, if_pos h2] at h
      have := xor_right h
      omega
    · rw [if_pos h1, if_neg h2] at h
      have h3 := congrArg (fun z => Nat.testBit z 31) h
      simp only [Nat.testBit_xor, tb x hx, tb y hy, tp] at h3
      cases h3
  · by_cases h2 : y % 2 = 1
    · rw [if_neg h1, if_pos h2] at h
      have h3 := congrArg (fun z => Nat.testBit z 31) h
      simp only [Nat.testBit_xor, tb x hx, tb y hy, tp] at h3
      cases h3
    · rw [if_neg h1, if_neg h2] at h
      omega
theorem crcBits_inj (j x y : Nat) (hx : x < 4294967296) (hy : y < 4294967296) (h : crcBits j x = crcBits j y) : x = y := by
  induction j with
  | zero => exact h
  | succ j ih => exact ih (crcBit_inj _ _ (crcBits_lt j x hx) (crcBits_lt j y hy) h)
theorem crcByte_inj (x y b : Nat) (hx : x < 4294967296) (hy : y < 4294967296) (hb : b < 256) (h : crcByte x b = crcByte y b) : x = y :=
  xor_right (crcBits_inj 8 _ _ (xor_lt _ _ hx (by omega)) (xor_lt _ _ hy (by omega)) h)
theorem crcByte_inj2 (x a b : Nat) (hx : x < 4294967296) (ha : a < 256) (hb : b < 256) (h : crcByte x a = crcByte x b) : a = b :=
  xor_left (crcBits_inj 8 _ _ (xor_lt _ _ hx (by omega)) (xor_lt _ _ hx (by omega)) h)
theorem crcFold_inj (l : List UInt8) (x y : Nat) (hx : x < 4294967296) (hy : y < 4294967296) (h : crcFold l x = crcFold l y) : x = y := by
  induction l generalizing x y with
  | nil => exact h
  | cons b l ih =>
    have hb : b.toNat < 256 := b.toNat_lt
    exact crcByte_inj x y b.toNat hx hy hb (ih _ _ (crcByte_lt _ _ hx hb) (crcByte_lt _ _ hy hb) h)
/-- Changing one byte changes the sum. -/
theorem crc_change (l m : List UInt8) (a b : UInt8) : crc (l ++ a :: m) = crc (l ++ b :: m) ↔ a = b := by
  constructor
  · intro h
    have h1 : crcFold (l ++ a :: m) 4294967295 = crcFold (l ++ b :: m) 4294967295 := xor_left h
    rw [crcFold_append, crcFold_append] at h1
    have hl := crcFold_lt l 4294967295 (by omega)
    have ha : a.toNat < 256 := a.toNat_lt
    have hb : b.toNat < 256 := b.toNat_lt
    have h2 := crcFold_inj m _ _ (crcByte_lt _ _ hl ha) (crcByte_lt _ _ hl hb) h1
    exact UInt8.toNat_inj.1 (crcByte_inj2 _ _ _ hl ha hb h2)
  · rintro rfl; rfl
end Go.Proofs.Ythnfliopmjpdmaa.Pl
