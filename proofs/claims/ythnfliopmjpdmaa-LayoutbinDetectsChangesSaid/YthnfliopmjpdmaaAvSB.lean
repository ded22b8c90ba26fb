/- The walk by the evaluator: its rules. -/
import Derived.Test.YthnfliopmjpdmaaAvSA
namespace Go.Proofs.Ythnfliopmjpdmaa.Av
set_option linter.unusedVariables false

section
variable {P : Program} {ops : Array Oper} {rest : List Oper} {d : Option Tmp} {ty : TypeId} {pos : String} {af : Array Edge} {R : Rg} {D : Array Oper → St → (St → Prop) → Prop} {n0 : Nat} {H : SH} {l : SL} {K : AExit → St → Prop} {s : St}
theorem q_WR (h : WR P ops rest s R) : WR P ops rest s R := h
theorem q_call {c : Call} (h : WR P ops (⟨d, .call c, ty, pos, af, none⟩ :: rest) s R) : WR P ops (⟨d, .call c, ty, pos, af, none⟩ :: rest) s R := h
theorem q_callG {c : Call} {gd : Nat × Bool} (h : WR P ops (⟨d, .call c, ty, pos, af, some gd⟩ :: rest) s R) : WR P ops (⟨d, .call c, ty, pos, af, some gd⟩ :: rest) s R := h
theorem q_cond {c : Operand} {a b : Code} (h : W P D n0 (.cond c a b) s K) : W P D n0 (.cond c a b) s K := h
theorem q_ret {fn : Func} {r : AVal} {H' : HB} {e : AExit} (h : Ret P fn r H' e s) : Ret P fn r H' e s := h
theorem q_retP {fn : Func} {r : AVal} {e : AExit} (h : RetP P fn r e s) : RetP P fn r e s := h
theorem q_bt {b : Bool} (h : b = true) : b = true := h
theorem q_VOk {α : Type} {z : Nat} {F : α → List FVal} {V : α → List SC} (h : VOk z F V) : VOk z F V := h
theorem q_and {p q : Prop} (h1 : p) (h2 : q) : p ∧ q := ⟨h1, h2⟩
theorem q_eqN {a b : Nat} (h : a = b) : a = b := h
theorem q_AgS0 {l : SL} : AgS l [] := trivial
theorem q_AgS {d : Nat} {e x : SE} {l r : SL} (h : lk l d = some e) (h1 : ELe e x) (h2 : AgS l r) : AgS l ((d, x) :: r) := ⟨⟨e, h, h1⟩, h2⟩
end
/-- Conditions as propositions. -/
theorem bq : (∀ (p : Prop) (i : Decidable p), (@decide p i = true) = p) ∧ (∀ (p : Prop) (i : Decidable p), (@decide p i = false) = ¬ p) ∧ (∀ a b : Bool, ((a && b) = true) = (a = true ∧ b = true)) ∧ (∀ a b : Bool, ((a || b) = true) = (a = true ∨ b = true)) ∧
    (∀ a b : Bool, ((a && b) = false) = (a = false ∨ b = false)) ∧ (∀ a b : Bool, ((a || b) = false) = (a = false ∧ b = false)) ∧ (∀ a : Bool, ((!a) = true) = (a = false)) ∧ (∀ a : Bool, ((!a) = false) = (a = true)) ∧ (∀ p : Prop, (¬ ¬ p) = p) ∧ ((true = true) = True) ∧ ((false = true) = False) ∧ ((true = false) = False) ∧ ((false = false) = True) ∧
    ((¬ True) = False) ∧ ((¬ False) = True) ∧ (∀ p : Prop, (p ∧ True) = p) ∧ (∀ p : Prop, (True ∧ p) = p) ∧ (∀ p : Prop, (p ∧ False) = False) ∧ (∀ p : Prop, (False ∧ p) = False) ∧ (∀ p : Prop, (p ∨ True) = True) ∧ (∀ p : Prop, (True ∨ p) = True) ∧ (∀ p : Prop, (p ∨ False) = p) ∧ (∀ p : Prop, (False ∨ p) = p) :=
  ⟨fun _ _ => by simp, fun _ _ => by simp, fun _ _ => by simp, fun _ _ => by simp, fun a b => by cases a <;> cases b <;> simp, fun _ _ => by simp, fun _ => by simp, fun _ => by simp, fun _ => by simp, by simp, by simp, by simp, by simp, by simp, by simp, fun _ => by simp, fun _ => by simp, fun _ => by simp, fun _ => by simp, fun _ => by simp, fun _ => by simp, fun _ => by simp, fun _ => by simp⟩
end Go.Proofs.Ythnfliopmjpdmaa.Av
