/- Words for walking Go functions: a text gone through sign by sign; no program is named here. -/
import Derived.Test.YtkjkgdhgcdgbhaaGreatDoorBase14
import GoSem.Instr.Range
import GoSem.Instr.Next
namespace Kot
open Go
/-! ### a loop whose states have two shapes -/
section
variable {α σ ι σ' ι' : Type} {C : NR} {Q : α → LB} {T : Option α} {c y : Code} {e : JU} {hp h : HL} {L : List HP} {ops l : List Oper}
  {S1 : σ → ι → List (Nat × Value)} {Φ : σ → ι → HL → Prop} {M : σ → ι → List HP} {S2 : σ' → ι' → List (Nat × Value)} {Φ' : σ' → ι' → HL → Prop} {M' : σ' → ι' → List HP} {K1 : σ → Option α} {K2 : σ' → Option α}
end
section
variable {α : Type} {C : NR} {Q : α → LB} {T : Option α} {e : JU} {hp : HL} {L : List HP} {ops l : List Oper} {d : Nat} {v : Value} {o : Op} {ty : TypeId} {ps : String} {es : Array Edge}
  {dst : Option Nat} {gd : Option (Nat × Bool)} {G : JU → HL → List HP → Prop} {F : World → Prop}
end
end Kot
