/- Words for walking Go functions: ways that are cut off, and the library's functions without a body. -/
import Derived.Test.YtkjkgdhgcdgbhaaGreatDoorBase6
import Derived.Lib.Bytealg
import Derived.Laws.StructEq
namespace Kot
open Go
section
variable {α : Type} {C : NR} {Q : α → LB} {e : JU} {hp : HL} {L : List HP} {ops l : List Oper} {c : Code} {x : Exit} {F : World → Prop} {n : Nat} {ls : List Bool}
theorem YC : SJ C Q none c e hp L := ⟨fun _ h => nomatch h⟩
theorem ctL : LJ C Q none ops l e hp L := ⟨fun _ h => nomatch h⟩
def ib (s : List UInt8) (c : Int) : Int := Lib.indexByte s c.toNat.toUInt8
theorem Aaw {dst : Option Nat} {ty f : Nat} {ps : String} {es : Array Edge} {gd : Option (Nat × Bool)} {xs : Array Operand} {ts : Array TypeId} {s : List UInt8} {b : Int} {fn : Func}
    (hf : C.P.funcs[f]? = some fn) (h1 : (fn.name == "runtime.NumGoroutine") = false) (h2 : fn.body.isNone = true) (h3 : Extern.findNext fn = none) (h4 : Extern.find fn = some Extern.BytealgIndexByte.indexByte)
    (ha : xs.toList.map (ev e) = [str s, .int .u8 b]) : NG C F ⟨dst, .call ⟨.value (.func f), xs, ts⟩, ty, ps, es, gd⟩ e (.int .i64 (ib s b)) :=
  ⟨fun w _ => by
    have hargs : Array.map (ev e) xs = #[str s, .int .u8 b] := by
      cases xs with
      | mk l => simpa using ha
    have := run_callFunc_extern hf h1 h2 h3 h4 #[str s, .int .u8 b] w
    rw [show (Extern.BytealgIndexByte.indexByte #[str s, .int .u8 b]).run C.P w = .ok (.int .i64 (ib s b)) w from Lib.run_indexByteString _ _ _] at this
    simpa [execOp, resolve, ev, Deferred.ofValue, invoke, hargs, Result.andThen] using this⟩
/-! ### structs held against each other -/
section
variable {P : Program} {n : Nat} {xs ys : List Value} {fs : List Field} {f : Field} {r : Bool}
end
section
variable {dst : Option Nat} {ty : Nat} {ps : String} {es : Array Edge} {gd : Option (Nat × Bool)} {t t' : Nat} {x y : Operand} {xs ys : List Value} {fs : Array Field} {r : Bool}
end
end
end Kot
