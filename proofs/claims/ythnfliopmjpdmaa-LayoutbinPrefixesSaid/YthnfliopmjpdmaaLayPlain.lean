/- Layouts, plainly: what Check computes. -/
namespace Go.Proofs.Ythnfliopmjpdmaa

def letN (c : Nat) : Bool := (decide (65 ≤ c) && decide (c ≤ 90)) || (decide (97 ≤ c) && decide (c ≤ 122))
def digN (c : Nat) : Bool := decide (48 ≤ c) && decide (c ≤ 57)
def okN (c : Nat) : Bool := letN c || digN c || c == 95
/-- A name: 1 to 12 bytes, the first one a letter, all of them letters, digits or underscores. -/
def nameB (s : ByteArray) : Bool := decide (1 ≤ s.size) && decide (s.size ≤ 12) && letN (s.data.toList.headD 0).toNat && s.data.toList.all (fun c => okN c.toNat)

theorem letN_ok {c : Nat} (h : letN c = true) : okN c = true := by unfold okN; rw [h]; rfl
theorem headD_at (s : ByteArray) (h : 0 < s.size) : s.data.toList.headD 0 = s[0] := by
  obtain ⟨⟨l⟩⟩ := s
  cases l with
  | nil => simp [ByteArray.size] at h
  | cons a r => rfl
theorem bytes_len (s : ByteArray) : s.data.toList.length = s.size := rfl
theorem bytes_at (s : ByteArray) (k : Nat) (h : k < s.size) : s.data.toList[k]'h = s[k] := rfl
theorem nameB_mk {s : ByteArray} (h0 : 0 < s.size) (h1 : s.size ≤ 12) (h2 : letN s[0].toNat = true) (h3 : s.data.toList.all (fun c => okN c.toNat) = true) : nameB s = true := by
  unfold nameB
  rw [headD_at s h0, h2, h3]
  simp; omega
theorem nameB_no {s : ByteArray} (k : Nat) (h : k < s.size) (h1 : okN s[k].toNat = false) : nameB s = false := by
  unfold nameB
  have : s.data.toList.all (fun c => okN c.toNat) = false := by
    rw [Bool.eq_false_iff]
    intro hall
    have := List.all_eq_true.1 hall s[k] (by rw [← bytes_at s k h]; exact List.getElem_mem _)
    rw [h1] at this; cases this
  rw [this]; simp
theorem nameB_no0 {s : ByteArray} (h0 : 0 < s.size) (h2 : letN s[0].toNat = false) : nameB s = false := by
  unfold nameB
  rw [headD_at s h0, h2]; simp
theorem nameB_short {s : ByteArray} (h : s.size < 1 ∨ 12 < s.size) : nameB s = false := by
  unfold nameB
  rcases h with h | h
  · rw [show decide (1 ≤ s.size) = false from decide_eq_false (by omega)]; simp
  · rw [show decide (s.size ≤ 12) = false from decide_eq_false (by omega)]; simp
theorem all_upto (s : ByteArray) (k : Nat) (h : k < s.size) (p : UInt8 → Bool) : (s.data.toList.take (k + 1)).all p = ((s.data.toList.take k).all p && p s[k]) := by
  rw [List.take_succ_eq_append_getElem (by exact h), List.all_append]
  simp [bytes_at s k h]

def eqS (a b : ByteArray) : Bool := a.data == b.data
theorem eqS_iff (a b : ByteArray) : eqS a b = true ↔ a = b := by
  unfold eqS
  rw [beq_iff_eq]
  exact ⟨fun h => by cases a; cases b; cases h; rfl, fun h => by rw [h]⟩
def memS (s : ByteArray) (l : List ByteArray) : Bool := l.any (eqS s)
theorem memS_iff (s : ByteArray) (l : List ByteArray) : memS s l = true ↔ s ∈ l := by
  unfold memS
  rw [List.any_eq_true]
  exact ⟨fun ⟨x, hx, h⟩ => by rw [(eqS_iff _ _).1 h]; exact hx, fun h => ⟨s, h, (eqS_iff _ _).2 rfl⟩⟩
/-- The error of a name, behind those that were seen. -/
def nameErr (seen : List ByteArray) (s : ByteArray) : Int := if nameB s = false then 3 else if memS s seen = true then 5 else 0
def namesErr (seen : List ByteArray) : List ByteArray → Int
  | [] => 0
  | s :: r => if nameErr seen s = 0 then namesErr (seen ++ [s]) r else nameErr seen s

structure Sec where
  nm : ByteArray
  len : Int
  lim : Int
  grd : Int
  stn : Int
structure Lnk where
  a : Int
  ae : Int
  b : Int
  be : Int
  pt : Int
  ps : Int
structure Lay where
  sts : List ByteArray
  pts : List ByteArray
  secs : List Sec
  lnks : List Lnk

def secB (nst : Nat) (s : Sec) : Bool := decide (1 ≤ s.len ∧ s.len ≤ 400 ∧ 1000 ≤ s.lim ∧ s.lim ≤ 100000 ∧ -40 ≤ s.grd ∧ s.grd ≤ 40 ∧ -1 ≤ s.stn ∧ s.stn < nst)
theorem secB_of {nst : Nat} {s : Sec} (h : secB nst s = true) : 1 ≤ s.len ∧ s.len ≤ 400 ∧ 1000 ≤ s.lim ∧ s.lim ≤ 100000 ∧ -40 ≤ s.grd ∧ s.grd ≤ 40 ∧ -1 ≤ s.stn ∧ s.stn < nst := by simpa [secB] using h
def secsErr (nst : Nat) (seen : List ByteArray) : List Sec → Int
  | [] => 0
  | s :: r => if nameErr seen s.nm = 0 then (if secB nst s = true then secsErr nst (seen ++ [s.nm]) r else 4) else nameErr seen s.nm

/-- A link has an end. -/
def hasE (k : Lnk) (x : Int × Int) : Bool := decide ((k.a = x.1 ∧ k.ae = x.2) ∨ (k.b = x.1 ∧ k.be = x.2))
def linkB (nsec npt : Nat) (k : Lnk) : Bool := decide (0 ≤ k.a ∧ k.a < nsec ∧ 0 ≤ k.b ∧ k.b < nsec ∧ 0 ≤ k.ae ∧ k.ae ≤ 1 ∧ 0 ≤ k.be ∧ k.be ≤ 1 ∧ -1 ≤ k.pt ∧ k.pt < npt ∧ 0 ≤ k.ps ∧ k.ps ≤ 1 ∧ (k.pt ≠ -1 ∨ k.ps = 0))
theorem linkB_of {nsec npt : Nat} {k : Lnk} (h : linkB nsec npt k = true) : 0 ≤ k.a ∧ k.a < nsec ∧ 0 ≤ k.b ∧ k.b < nsec ∧ 0 ≤ k.ae ∧ k.ae ≤ 1 ∧ 0 ≤ k.be ∧ k.be ≤ 1 ∧ -1 ≤ k.pt ∧ k.pt < npt ∧ 0 ≤ k.ps ∧ k.ps ≤ 1 ∧ (k.pt ≠ -1 ∨ k.ps = 0) := by simpa [linkB] using h
/-- The earlier links at an end; a link fits them. -/
def atE (prev : List Lnk) (x : Int × Int) : List Lnk := prev.filter (fun k => hasE k x)
def fitB (k : Lnk) : List Lnk → Bool
  | [] => true
  | [j] => decide (k.pt ≠ -1 ∧ k.pt = j.pt ∧ k.ps ≠ j.ps)
  | _ => false
def linkErr (nsec npt : Nat) (prev : List Lnk) (k : Lnk) : Int :=
  if linkB nsec npt k = false then 4 else if (k.a, k.ae) = (k.b, k.be) then 1 else if prev.any (fun j => hasE j (k.a, k.ae) && hasE j (k.b, k.be)) then 5
  else if fitB k (atE prev (k.a, k.ae)) = false ∨ fitB k (atE prev (k.b, k.be)) = false then 11 else 0
def linksErr (nsec npt : Nat) (prev : List Lnk) : List Lnk → Int
  | [] => 0
  | k :: r => if linkErr nsec npt prev k = 0 then linksErr nsec npt (prev ++ [k]) r else linkErr nsec npt prev k

def orErr (a b : Int) : Int := if a = 0 then b else a
def layErr (L : Lay) : Int :=
  if 24 < L.sts.length ∨ 48 < L.pts.length ∨ 96 < L.secs.length ∨ 192 < L.lnks.length then 7 else if L.secs.length = 0 then 1
  else orErr (namesErr [] L.sts) (orErr (namesErr [] L.pts) (orErr (secsErr L.sts.length [] L.secs) (linksErr L.secs.length L.pts.length [] L.lnks)))
end Go.Proofs.Ythnfliopmjpdmaa
