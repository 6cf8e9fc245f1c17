/- Words for walking Go functions: results that may be nil; no program is named here. -/
import Derived.Test.YtkjkgdhgcdgbhaaGreatDoorBase20
namespace Kot
open Go
def V9 {β : Type} (o : Option β) (A : Value → HL → List HP → Prop) (B : β → Value → HL → List HP → Prop) : Value → HL → List HP → Prop := match o with
  | none => A
  | some y => B y
def Vo {β γ : Type} (o : Option β) (A : Option γ) (B : β → Option γ) : Option γ := match o with
  | none => A
  | some y => B y
theorem ZA {β : Type} {A : Value → HL → List HP → Prop} {B : β → Value → HL → List HP → Prop} {v : Value} {h : HL} {L : List HP} (H : A v h L) : V9 none A B v h L := H
theorem VK {β : Type} {A : Value → HL → List HP → Prop} {B : β → Value → HL → List HP → Prop} {y : β} {v : Value} {h : HL} {L : List HP} (H : B y v h L) : V9 (some y) A B v h L := H
section
variable {β γ : Type} {P : Program} {X : World} {U : Option β} {f : Nat} {args : List Value} {hp : HL} {L : List HP} {o : β → Option γ} {A : β → Value → HL → List HP → Prop} {B : β → γ → Value → HL → List HP → Prop} {r : β} {y : γ}
theorem djN (h : DJ P X U f args hp L (fun r => V9 (o r) (A r) (B r))) (hr : U = some r) (hn : o r = none) : DJ P X (some r) f args hp L (fun _ => A r) := by
  subst hr
  refine ⟨fun z hz => ?_⟩
  cases hz
  have := h.go r rfl
  simpa only [V9, hn] using this
theorem Zp (h : DJ P X U f args hp L (fun r => V9 (o r) (A r) (B r))) (hr : U = some r) (hn : o r = some y) : DJ P X (some r) f args hp L (fun _ => B r y) := by
  subst hr
  refine ⟨fun z hz => ?_⟩
  cases hz
  have := h.go r rfl
  simpa only [V9, hn] using this
end
section
variable {α β : Type} {C : NR} {Q : α → LB} {T0 : Option α} {ops : List Oper} {l : List Oper} {e : JU} {hp : HL} {L : List HP} {o : Option β} {T1 : β → Option α}
theorem Z9 (h0 : o = none → LJ C Q T0 ops l e hp L) (h1 : ∀ y, o = some y → LJ C Q (T1 y) ops l e hp L) : LJ C Q (Vo o T0 T1) ops l e hp L := by
  cases o with
  | none => exact h0 rfl
  | some y => exact h1 y rfl
end
end Kot
