/- Words for walking Go functions: a row that is filled from the front; bytes that are copied into a part of a row; no program is named here. -/
import Derived.Test.YtkjkgdhgcdgbhaaGreatDoorBase23
namespace Kot
open Go
section
variable {C : NR} {F : World → Prop} {e : JU} {hp h : HL} {L : List HP} {ty : TypeId} {ps : String} {es : Array Edge} {dst : Option Nat} {gd : Option (Nat × Bool)} {x y : Operand} {t t' : Nat} {G : JU → HL → List HP → Prop} {d : Nat}
end
theorem Xj {α β : Type} {C : NR} {Q : α → LB} {T0 : Option α} {c : Code} {e : JU} {hp : HL} {L : List HP} {o : Option β} {T1 : β → Option α} (h0 : o = none → SJ C Q T0 c e hp L) (h1 : ∀ y, o = some y → SJ C Q (T1 y) c e hp L) : SJ C Q (Vo o T0 T1) c e hp L := by
  cases o with
  | none => exact h0 rfl
  | some y => exact h1 y rfl
end Kot
