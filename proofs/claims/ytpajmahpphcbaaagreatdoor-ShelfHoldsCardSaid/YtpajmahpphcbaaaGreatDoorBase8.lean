/- Words for walking Go functions: ways that are cut off, and the library's functions without a body. -/
import Derived.Test.YtpajmahpphcbaaaGreatDoorBase6
import Derived.Lib.Bytealg
import Derived.Laws.StructEq
namespace Kot
open Go
section
variable {α : Type} {C : Ctx} {Q : α → Post} {e : Env} {hp : HL} {L : List HP} {ops l : List Oper} {c : Code} {x : Exit} {F : World → Prop} {n : Nat} {ls : List Bool}
theorem ctS : SJ C Q none c e hp L := ⟨fun _ h => nomatch h⟩
theorem ctL : LJ C Q none ops l e hp L := ⟨fun _ h => nomatch h⟩
theorem ctD {P : Program} {X : World} {f : FuncId} {args : List Value} {R : α → Value → HL → List HP → Prop} : DJ P X none f args hp L R := ⟨fun _ h => nomatch h⟩
def ib (s : List UInt8) (c : Int) : Int := Lib.indexByte s c.toNat.toUInt8
/-! ### structs held against each other -/
section
variable {P : Program} {n : Nat} {xs ys : List Value} {fs : List Field} {f : Field} {r : Bool}
end
section
variable {dst : Option Nat} {ty : Nat} {ps : String} {es : Array Edge} {gd : Option (Nat × Bool)} {t t' : Nat} {x y : Operand} {xs ys : List Value} {fs : Array Field} {r : Bool}
end
end
end Kot
