/- The encoding of a layout, plainly. -/
import Derived.Test.YthnfliopmjpdmaaBytes
import Derived.Test.YthnfliopmjpdmaaCrcPlain
namespace Go.Proofs.Ythnfliopmjpdmaa
set_option linter.unusedVariables false

def secBytes (s : Sec) : List UInt8 := nameBytes s.nm ++ lows s.len.toNat 2 ++ lows s.lim.toNat 3 ++ lows (s.grd + 40).toNat 1 ++ lows (s.stn + 1).toNat 1
def lnkBytes (k : Lnk) : List UInt8 := lows (k.a * 2 + k.ae).toNat 1 ++ lows (k.b * 2 + k.be).toNat 1 ++ lows (k.pt + 1).toNat 1 ++ lows k.ps.toNat 1
def headBytes (L : Lay) : List UInt8 := [82, 80, 76, 49] ++ lows L.sts.length 1 ++ lows L.pts.length 1 ++ lows L.secs.length 1 ++ lows L.lnks.length 1
def bodyL (L : Lay) : List UInt8 := headBytes L ++ L.sts.flatMap nameBytes ++ L.pts.flatMap nameBytes ++ L.secs.flatMap secBytes ++ L.lnks.flatMap lnkBytes
def encL (L : Lay) : List UInt8 := bodyL L ++ lows (Pl.crc (bodyL L)) 4

theorem orErr_zero {a b : Int} (h : orErr a b = 0) : a = 0 ∧ b = 0 := by
  unfold orErr at h
  by_cases ha : a = 0
  · rw [if_pos ha] at h; exact ⟨ha, h⟩
  · rw [if_neg ha] at h; exact absurd h ha
theorem nameErr_zero {seen : List ByteArray} {s : ByteArray} (h : nameErr seen s = 0) : nameB s = true := by
  unfold nameErr at h
  cases hb : nameB s
  · rw [if_pos hb] at h; cases h
  · rfl
theorem namesErr_zero : ∀ (r : List ByteArray) (seen : List ByteArray), namesErr seen r = 0 → ∀ s ∈ r, nameB s = true
  | [], _, _, s, hs => by cases hs
  | x :: r, seen, h, s, hs => by
    simp only [namesErr] at h
    by_cases hx : nameErr seen x = 0
    · rw [if_pos hx] at h
      rcases List.mem_cons.1 hs with rfl | hs
      · exact nameErr_zero hx
      · exact namesErr_zero r _ h s hs
    · rw [if_neg hx] at h; exact absurd h hx
theorem secsErr_zero (nst : Nat) : ∀ (r : List Sec) (seen : List ByteArray), secsErr nst seen r = 0 → ∀ s ∈ r, nameB s.nm = true ∧ secB nst s = true
  | [], _, _, s, hs => by cases hs
  | x :: r, seen, h, s, hs => by
    simp only [secsErr] at h
    by_cases hx : nameErr seen x.nm = 0
    · rw [if_pos hx] at h
      by_cases hb : secB nst x = true
      · rw [if_pos hb] at h
        rcases List.mem_cons.1 hs with rfl | hs
        · exact ⟨nameErr_zero hx, hb⟩
        · exact secsErr_zero nst r _ h s hs
      · rw [if_neg hb] at h; cases h
    · rw [if_neg hx] at h; exact absurd h hx
theorem linksErr_zero (n p : Nat) : ∀ (r : List Lnk) (prev : List Lnk), linksErr n p prev r = 0 → ∀ k ∈ r, linkB n p k = true
  | [], _, _, s, hs => by cases hs
  | x :: r, prev, h, s, hs => by
    simp only [linksErr] at h
    by_cases hx : linkErr n p prev x = 0
    · rw [if_pos hx] at h
      rcases List.mem_cons.1 hs with rfl | hs
      · cases hb : linkB n p s
        · unfold linkErr at hx; rw [if_pos hb] at hx; cases hx
        · rfl
      · exact linksErr_zero n p r _ h s hs
    · rw [if_neg hx] at h; exact absurd h hx
structure Valid (L : Lay) : Prop where
  n1 : L.sts.length ≤ 24
  n2 : L.pts.length ≤ 48
  n3 : L.secs.length ≤ 96
  n4 : L.lnks.length ≤ 192
  n5 : 1 ≤ L.secs.length
  v1 : ∀ s ∈ L.sts, nameB s = true
  v2 : ∀ s ∈ L.pts, nameB s = true
  v3 : ∀ s ∈ L.secs, nameB s.nm = true ∧ secB L.sts.length s = true
  v4 : ∀ k ∈ L.lnks, linkB L.secs.length L.pts.length k = true
theorem valid_of {L : Lay} (h : layErr L = 0) : Valid L := by
  unfold layErr at h
  by_cases h1 : 24 < L.sts.length ∨ 48 < L.pts.length ∨ 96 < L.secs.length ∨ 192 < L.lnks.length
  · rw [if_pos h1] at h; cases h
  · rw [if_neg h1] at h
    by_cases h2 : L.secs.length = 0
    · rw [if_pos h2] at h; cases h
    · rw [if_neg h2] at h
      obtain ⟨a, h⟩ := orErr_zero h
      obtain ⟨b, h⟩ := orErr_zero h
      obtain ⟨c, d⟩ := orErr_zero h
      exact ⟨by omega, by omega, by omega, by omega, by omega, namesErr_zero _ _ a, namesErr_zero _ _ b, secsErr_zero _ _ _ c, linksErr_zero _ _ _ _ d⟩
theorem nameB_size {s : ByteArray} (h : nameB s = true) : s.size ≤ 12 := by
  unfold nameB at h
  simp at h
  exact h.1.1.2
theorem lows_len (n m : Nat) : (lows n m).length = m := by simp [lows]
theorem nameBytes_len {s : ByteArray} (h : nameB s = true) : (nameBytes s).length ≤ 13 := by
  have := nameB_size h
  unfold nameBytes
  rw [List.length_append, lows_len, bytes_len]; omega
theorem flat_le {α : Type} (f : α → List UInt8) (n : Nat) : ∀ (l : List α), (∀ x ∈ l, (f x).length ≤ n) → (l.flatMap f).length ≤ l.length * n
  | [], _ => by simp
  | x :: r, h => by
    have ih := flat_le f n r (fun y hy => h y (List.mem_cons_of_mem _ hy))
    have hx := h x (List.mem_cons_self ..)
    rw [List.flatMap_cons, List.length_append, List.length_cons, Nat.add_mul]; omega
theorem secBytes_len {s : Sec} (h : nameB s.nm = true) : (secBytes s).length ≤ 20 := by
  have := nameBytes_len h
  unfold secBytes
  simp only [List.length_append, lows_len]; omega
theorem lnkBytes_len (k : Lnk) : (lnkBytes k).length = 4 := by unfold lnkBytes; simp only [List.length_append, lows_len]
end Go.Proofs.Ythnfliopmjpdmaa
