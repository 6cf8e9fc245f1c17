/- Words for walking Go functions: slices of slices that are all owned; no program is named here. -/
import Derived.Test.YtkjkgdhgcdgbhaaGreatDoorBase18
import Derived.Test.YtkjkgdhgcdgbhaaGreatDoorBase21
namespace Kot
open Go
def Zd (tb : Nat) : List C6 → List (List Int) → List HP
  | g :: gs, x :: xs => sl (sg g) tb 1 (x.flatMap (vi .u8)) :: Zd tb gs xs
  | _, _ => []
def Uj (g : C6) (t tb : Nat) (xs : List (List Int)) : HP := fun h => ∃ gs : List C6, gs.length = xs.length ∧ Ut (sl (sg g) t 1 (gs.map sg) :: Zd tb gs xs) h
section
variable {X : World} {hp : HL} {L : List HP} {w : World} {g : C6} {t tb : Nat} {xs : List (List Int)}
section
variable {J : HL → List HP → Prop}
section
variable {J : HL → List HP → Prop}
end
end
section
variable {J : HL → List HP → Prop}
end
end
end Kot
