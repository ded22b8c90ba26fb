/- Bytes appended to a slice: contract of appendNumber. -/
import Derived.Test.YthnfliopmjpdmaaRowsF
import Derived.Lib.AppendStr
namespace Go.Proofs.Ythnfliopmjpdmaa
open Go.RowKit
set_option linter.unusedVariables false

def byteF (b : UInt8) : List Value := [.int .u8 (b.toNat : Int)]
theorem byteF_len (b : UInt8) : (byteF b).length = 1 := rfl
theorem info_u8 : (Try.prog.info? 5).map (fun i => (i.zero, i.size, i.bytes)) = some (some (.int .u8 0), 1, 1) := by kernel_rfl
def low (n i : Nat) : UInt8 := UInt8.ofNat (n / 2 ^ (8 * i))
def lows (n m : Nat) : List UInt8 := (List.range m).map (low n)
theorem lows_succ (n m : Nat) : lows n (m + 1) = lows n m ++ [low n m] := by unfold lows; rw [List.range_succ, List.map_append]; rfl
theorem low_val (n i : Nat) : ((low n i).toNat : Int) = ((n / 2 ^ (8 * i) : Nat) : Int) % 256 := by
  unfold low
  rw [UInt8.toNat_ofNat']
  omega

/-- The call returns a slice that holds bs, grown out of the slice v. -/
def RetGrown (w : World) (base : Nat) (v : Value) (bs : List UInt8) (e : Ending) (w' : World) : Prop :=
  ∃ v', e = .returned v' ∧ OwnF w' base 5 1 byteF v' bs ∧ w.grownBy w' v.ownBlock ∧ (v'.ownBlock = v.ownBlock ∨ ∃ g, v'.ownBlock = some g ∧ w.heap.size ≤ g)

theorem appendNumber_any (base : Nat) (v : Value) (bs : List UInt8) (n m : Nat) (w : World) (hO : OwnF w base 5 1 byteF v bs) (hb : base ≤ w.heap.size) (hl : bs.length ≤ 1000000) (hn : n ≤ 9223372036854775807) (hm : m ≤ 4) :
    Calls Try.prog 23 #[v, .int .i64 n, .int .i64 m] w (RetGrown w base v (bs ++ lows n m)) := by
  obtain ⟨i0, hi, hz0, hz1, hz2⟩ := info_parts info_u8
  have HO := Lib.hid hO
  obtain ⟨A, c, rfl, hc1, hc2⟩ := hO.shape
  clear hO
  go_enter Try.func23, Try.ntmps23
  go_wp2
  go_loopw [0, 9] (fun u iv wr => ∃ (k : Nat) (A' : Option Addr) (c' : Nat), k ≤ m ∧ iv = .int .i64 k ∧ u = .slice A' (bs.length + k) c' ∧ Hid (OwnF wr base 5 1 byteF (.slice A' (bs.length + k) c') (bs ++ lows n k)) ∧ Hid (w.grownBy wr (Value.slice A bs.length c).ownBlock) ∧ Hid ((Value.slice A' (bs.length + k) c').ownBlock = (Value.slice A bs.length c).ownBlock ∨ ∃ g, (Value.slice A' (bs.length + k) c').ownBlock = some g ∧ w.heap.size ≤ g)) (fun _ iv _ => m - (intOf iv).toNat)
  case atStart => exact ⟨0, A, c, by omega, rfl, rfl, by simpa [lows] using HO, Lib.hid ⟨rfl, rfl, rfl, Nat.le_refl _, fun _ _ _ => rfl⟩, Lib.hid (.inl rfl)⟩
  case round =>
    obtain ⟨k, A', c', hk, rfl, rfl, Ho, Hg, Ha⟩ := hrel
    by_cases hlt : k < m
    · have hk3 : k ≤ 3 := by omega
      obtain ⟨y, Hy⟩ : ∃ y, Hid (8 * k = y) := ⟨_, Lib.hid rfl⟩
      have e1 : IntKind.i64.wrap (8 * (k : Int)) = (y : Int) := by rw [IntKind.wrap_i64]; have := Hy.out; omega
      have e1' : 8 * (k : Int) = (y : Int) := by have := Hy.out; omega
      have Hb : Hid (((low n k).toNat : Int) = (n : Int) / 2 ^ y % 256) := Lib.hid (by rw [low_val, Hy.out]; push_cast; rfl)
      go_wp2_with (at_builtin; refine wpList_append_lies _ (by rfl) _ _ _ (by rfl) base 5 i0 (.int .u8 0) 1 1 Try.underlying41 hi hz0 hz1 hz2 rfl (by omega) (.slice A' (bs.length + k) c') (bs.length + k) ((bs ++ lows n k).flatMap byteF) (by rfl) ?c0 ⟨wr.heap.size, 0, none⟩ 1 1 [.int .u8 ((n : Int) / 2 ^ y % 256)] (by rfl) (by rfl) ?c1 ?c2 (by omega) ?c3 ?c4 ?c5 (wr.heap.size + 1) (by simp) ?_)
      case c0 => have h := Ho.out.below ((Below.refl _ _).alloc (Nat.le_refl _) (.cells #[.int .u8 ((n : Int) / 2 ^ y % 256)] 5)); unfold OwnF at h; rw [List.length_append, show (lows n k).length = k by simp [lows]] at h; exact h
      case c1 => exact World.news_of_block (heap_alloc_new wr _)
      case c2 => intro u hu; simp at hu; rw [hu]; rfl
      case c3 => unfold maxLen; omega
      case c4 => omega
      case c5 => have := Hg.out.size; simp; omega
      intro g cap w1 hown hg hat hlt1
      have Ho1 : Hid (OwnF w1 base 5 1 byteF (.slice (some ⟨g, 0, none⟩) (bs.length + (k + 1)) cap) (bs ++ lows n (k + 1))) := Lib.hid (by
        unfold OwnF
        rw [lows_succ, ← List.append_assoc, List.flatMap_append, List.length_append, List.length_append, show (lows n k).length = k by simp [lows]]
        have e : [low n k].flatMap byteF = [.int .u8 ((n : Int) / 2 ^ y % 256)] := by simp [byteF, Hb.out]
        rw [e, List.flatMap_append, List.append_assoc]
        exact hown)
      have hgw : wr.grownBy w1 (Value.slice A' (bs.length + k) c').ownBlock := ⟨hg.os, hg.tape, hg.output, Nat.le_trans (by simp) hg.size, fun q hq hne => (hg.block q (by simp; omega) hne).trans (Below.heap_alloc _ _ _ hq)⟩
      have Hg1 : Hid (w.grownBy w1 (Value.slice A bs.length c).ownBlock) := Lib.hid ⟨hgw.os.trans Hg.out.os, hgw.tape.trans Hg.out.tape, hgw.output.trans Hg.out.output, Nat.le_trans Hg.out.size hgw.size, fun q hq hne => (hgw.block q (Nat.lt_of_lt_of_le hq Hg.out.size) (by
        rcases Ha.out with h | ⟨g', h, hge⟩
        · rw [h]; exact hne
        · rw [h]; intro e; injection e with e; omega)).trans (Hg.out.block q hq hne)⟩
      have Ha1 : Hid ((Value.slice (some ⟨g, 0, none⟩) (bs.length + (k + 1)) cap).ownBlock = (Value.slice A bs.length c).ownBlock ∨ ∃ g', (Value.slice (some ⟨g, 0, none⟩) (bs.length + (k + 1)) cap).ownBlock = some g' ∧ w.heap.size ≤ g') := Lib.hid (by
        rcases hat with h | h
        · rcases Ha.out with h2 | ⟨g', h2, hge⟩
          · left; rw [← h2]; exact h.symm
          · right; exact ⟨g, rfl, by rw [h2] at h; injection h with h; omega⟩
        · right; exact ⟨g, rfl, by have := Hg.out.size; omega⟩)
      clear hown hg hat hgw hlt1
      go_wp2
      go_roundw
      case rel => exact ⟨k + 1, _, _, by omega, by go_num, rfl, Ho1, Hg1, Ha1⟩
      case measure => simp [intOf]; omega
    · obtain rfl : m = k := by omega
      go_wp2
      go_ret
      exact ⟨_, rfl, Ho.out, Hg.out, Ha.out⟩
/-- The same, without a word on where it lies. -/
def RetApp (w : World) (base : Nat) (v : Value) (bs : List UInt8) (e : Ending) (w' : World) : Prop :=
  ∃ v', e = .returned v' ∧ OwnF w' base 5 1 byteF v' bs ∧ w.grownBy w' v.ownBlock
theorem RetGrown.app {w : World} {base : Nat} {v : Value} {bs : List UInt8} {e : Ending} {w' : World} (h : RetGrown w base v bs e w') : RetApp w base v bs e w' := by
  obtain ⟨v', h1, h2, h3, _⟩ := h
  exact ⟨v', h1, h2, h3⟩
theorem grown_trans {a b c : World} {r s : Option Nat} (h : a.grownBy b r) (k : b.grownBy c s) (hs : s = r ∨ ∃ g, s = some g ∧ a.heap.size ≤ g) : a.grownBy c r :=
  ⟨k.os.trans h.os, k.tape.trans h.tape, k.output.trans h.output, Nat.le_trans h.size k.size, fun q hq hne => (k.block q (Nat.lt_of_lt_of_le hq h.size) (by
    rcases hs with e | ⟨g, e, hge⟩
    · rw [e]; exact hne
    · rw [e]; intro e2; injection e2 with e2; omega)).trans (h.block q hq hne)⟩
theorem strCells_flat (s : ByteArray) : Lib.strCells s = s.data.toList.flatMap byteF := by
  unfold Lib.strCells byteF
  induction s.data.toList with
  | nil => rfl
  | cons a r ih => simp [List.flatMap_cons, ih]

def nameBytes (s : ByteArray) : List UInt8 := lows s.size 1 ++ s.data.toList

theorem appendName_any (base : Nat) (v : Value) (bs : List UInt8) (s : ByteArray) (w : World) (hO : OwnF w base 5 1 byteF v bs) (hb : base ≤ w.heap.size) (hl : bs.length ≤ 900000) (hs : s.size ≤ 1000) :
    Calls Try.prog 24 #[v, .string s] w (RetApp w base v (bs ++ nameBytes s)) := by
  obtain ⟨i0, hi, hz0, hz1, hz2⟩ := info_parts info_u8
  have HO := Lib.hid hO
  clear hO
  go_enter Try.func24, Try.ntmps24
  go_wp2_with fail
  refine (appendNumber_any base v bs s.size 1 _ HO.out hb (by omega) (by omega) (by omega)).mono ?_
  rintro e w1 ⟨v1, rfl, ho1, hg1, ha1⟩
  have Hg1 := Lib.hid hg1
  have Ha1 := Lib.hid ha1
  have hb1 : base ≤ w1.heap.size := Nat.le_trans hb hg1.size
  have Ho1 : Hid (w1.ownsRow base 5 1 v1 (bs.length + 1) ((bs ++ lows s.size 1).flatMap byteF)) := Lib.hid (by
    unfold OwnF at ho1
    rw [List.length_append, show (lows s.size 1).length = 1 by simp [lows]] at ho1; exact ho1)
  clear ho1 hg1 ha1
  go_wp2_with (at_builtin; refine Lib.wpList_append_own_string _ (by rfl) _ _ _ _ (by rfl) base 5 i0 Try.underlying41 Try.underlying9 hi hz0 hz1 hz2 v1 (bs.length + 1) _ (by rfl) Ho1.out s (by rfl) (by unfold maxLen; omega) (by omega) hb1 ?_)
  intro v2 w2 ho2 hg2 _
  have Ho2 : Hid (OwnF w2 base 5 1 byteF v2 (bs ++ nameBytes s)) := Lib.hid (by
    unfold OwnF nameBytes
    rw [← List.append_assoc, List.flatMap_append, ← strCells_flat, List.length_append, List.length_append, show (lows s.size 1).length = 1 by simp [lows], bytes_len, List.flatMap_append, List.append_assoc]
    exact ho2)
  have Hg2 : Hid (w.grownBy w2 v.ownBlock) := Lib.hid (grown_trans Hg1.out hg2 Ha1.out)
  clear ho2 hg2
  go_wp2
  go_ret
  exact ⟨v2, rfl, Ho2.out, Hg2.out⟩
end Go.Proofs.Ythnfliopmjpdmaa
