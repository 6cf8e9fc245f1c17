/- Words for walking Go functions: slices of records that each hold a slice, all of it owned; no program is named here. -/
import Derived.Test.YtkjkgdhgcdgbhaaGreatDoorBase24
namespace Kot
open Go
section
variable {τ : Type} {c : τ → C6 → List Value} {d : τ → List Int} {X : World} {hp : HL} {L : List HP} {w : World} {g : C6} {t tb k : Nat} {xs : List τ} {zs : List (τ × C6)}
section
variable {J : HL → List HP → Prop}
end
end
end Kot
