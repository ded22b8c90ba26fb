/- Layouts as values without addresses. -/
import Derived.Test.YthnfliopmjpdmaaAvP
import Derived.Test.YthnfliopmjpdmaaLayPlain
namespace Go.Proofs.Ythnfliopmjpdmaa.Av
set_option linter.unusedVariables false

def fS (s : ByteArray) : FVal := .v (.string s)
def fI (n : Int) : FVal := .v (.int .i64 n)
def fB (b : Bool) : FVal := .v (.bool b)
def fStr (s : ByteArray) : List FVal := [fS s]
def fInt (n : Int) : List FVal := [fI n]
def fSec (s : Sec) : List FVal := [fS s.nm, fI s.len, fI s.lim, fI s.grd, fI s.stn]
def fLnk (k : Lnk) : List FVal := [fI k.a, fI k.ae, fI k.b, fI k.be, fI k.pt, fI k.ps]
def fRow {α : Type} (f : α → List FVal) (l : List α) : FVal := .row (l.flatMap f) l.length
def cRow {α : Type} (f : α → List FVal) (l : List α) : CVal := .f (.row (l.flatMap f) l.length)
def tRow {α : Type} (sz : Nat) (f : α → List FVal) (l : List α) : CVal := .tip sz (l.flatMap f) l.length
def cLay (L : Lay) : List CVal := [cRow fStr L.sts, cRow fStr L.pts, cRow fSec L.secs, cRow fLnk L.lnks]
def aLay (L : Lay) : AVal := .agg (cLay L)
theorem flatMap_snoc {α β : Type} (f : α → List β) (l : List α) (x : α) : (l ++ [x]).flatMap f = l.flatMap f ++ f x := by simp
theorem flatMap_len {α β : Type} (f : α → List β) (n : Nat) (h : ∀ x, (f x).length = n) : ∀ l : List α, (l.flatMap f).length = l.length * n
  | [] => by simp
  | x :: l => by simp only [List.flatMap_cons, List.length_append, h x, flatMap_len f n h l, List.length_cons, Nat.succ_mul]; omega
/-- What a step reads, again and again. -/
def loopN {σ α : Type} (step : σ → α × σ) (c : σ) : Nat → List α × σ
  | 0 => ([], c)
  | i + 1 => ((loopN step c i).1 ++ [(step (loopN step c i).2).1], (step (loopN step c i).2).2)
theorem loopN_len {σ α : Type} (step : σ → α × σ) (c : σ) : ∀ i, (loopN step c i).1.length = i
  | 0 => rfl
  | i + 1 => by simp [loopN, loopN_len step c i]
end Go.Proofs.Ythnfliopmjpdmaa.Av
