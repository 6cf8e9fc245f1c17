/- Words for walking Go functions: ways that are cut off, and the library's functions without a body. -/
import Derived.Test.YtpajmahpphcbaaaGreatDoorBase6
import Derived.Lib.Bytealg
import Derived.Laws.StructEq
namespace Kot
open Go
section
variable {α : Type} {C : Ctx} {Q : α → Post} {e : Env} {hp : HL} {L : List HP} {ops l : List Oper} {c : Code} {x : Exit} {F : World → Prop} {n : Nat} {ls : List Bool}
/-- a way of which nothing is said -/
theorem ctS : SJ C Q none c e hp L := ⟨fun _ h => nomatch h⟩
theorem ctL : LJ C Q none ops l e hp L := ⟨fun _ h => nomatch h⟩
theorem ctX : XJ Q none x e hp L := ⟨fun _ h => nomatch h⟩
theorem ctA : AJ C F Q none ops n ls e hp L := ⟨fun _ h => nomatch h⟩

theorem ctD {P : Program} {X : World} {f : FuncId} {args : List Value} {R : α → Value → HL → List HP → Prop} : DJ P X none f args hp L R := ⟨fun _ h => nomatch h⟩
def ib (s : List UInt8) (c : Int) : Int := Lib.indexByte s c.toNat.toUInt8
theorem exIB {dst : Option Nat} {ty f : Nat} {ps : String} {es : Array Edge} {gd : Option (Nat × Bool)} {xs : Array Operand} {ts : Array TypeId} {s : List UInt8} {b : Int} {fn : Func}
    (hf : C.P.funcs[f]? = some fn) (h1 : (fn.name == "runtime.NumGoroutine") = false) (h2 : fn.body.isNone = true) (h3 : Extern.findNext fn = none) (h4 : Extern.find fn = some Extern.BytealgIndexByte.indexByte)
    (ha : xs.toList.map (ev e) = [str s, .int .u8 b]) : Pur C F ⟨dst, .call ⟨.value (.func f), xs, ts⟩, ty, ps, es, gd⟩ e (.int .i64 (ib s b)) :=
  ⟨fun w _ => by
    have hargs : Array.map (ev e) xs = #[str s, .int .u8 b] := by
      cases xs with
      | mk l => simpa using ha
    have := run_callFunc_extern hf h1 h2 h3 h4 #[str s, .int .u8 b] w
    rw [show (Extern.BytealgIndexByte.indexByte #[str s, .int .u8 b]).run C.P w = .ok (.int .i64 (ib s b)) w from Lib.run_indexByteString _ _ _] at this
    simpa [execOp, resolve, ev, Deferred.ofValue, invoke, hargs, Result.andThen] using this⟩

/-! ### structs held against each other -/
def EqF (P : Program) (n : Nat) (xs ys : List Value) (fs : List Field) (r : Bool) : Prop := ∀ d w, (Op.eqFields (d + n) xs.toArray ys.toArray fs).run P w = .ok r w
section
variable {P : Program} {n : Nat} {xs ys : List Value} {fs : List Field} {f : Field} {r : Bool}
theorem eq0 : EqF P n xs ys [] true := fun d w => by simp [Op.eqFields]
theorem eqc {a b : Value} {s : Bool} (hn : (f.name == "_") = false) (hA : ∀ w, (isAgg f.type).run P w = .ok false w) (ha : xs[f.offset]? = some a) (hb : ys[f.offset]? = some b)
    (he : ∀ d w, (Op.equalIn (d + n) f.type a b).run P w = .ok s w) (hr : EqF P n xs ys fs r) : EqF P n xs ys (f :: fs) (s && r) := fun d w => by
  have hn' : f.name ≠ "_" := by simpa using hn
  have h1 : (part f.type xs.toArray f.offset).run P w = .ok a w := by simp [part, hA, ha]
  have h2 : (part f.type ys.toArray f.offset).run P w = .ok b w := by simp [part, hA, hb]
  simp only [Op.eqFields, if_pos hn', Sem.run_bind, h1, h2, he, Result.andThen_ok]
  cases s
  · simp
  · simpa using hr d w
theorem eqcI {k k' : IntKind} {a b : Int} {t : TypeId} (h : P.underlying t = some (.int k')) : ∀ d w, (Op.equalIn (d + 1) t (.int k a) (.int k b)).run P w = .ok (a == b) w := fun d w => run_equalIn_int w d t k k' a b h
theorem eqcB {a b : Bool} {t : TypeId} (h : P.underlying t = some .bool) : ∀ d w, (Op.equalIn (d + 1) t (.bool a) (.bool b)).run P w = .ok (a == b) w := fun d w => run_equalIn_bool w d t a b h
theorem eqcS {a b : List UInt8} {t : TypeId} (h : P.underlying t = some .string) : ∀ d w, (Op.equalIn (d + 1) t (str a) (str b)).run P w = .ok (a == b) w := fun d w => by
  rw [str, str, run_equalIn_string w d t _ _ h, ByteArray.toList_eq, ByteArray.toList_eq]
end
section
variable {dst : Option Nat} {ty : Nat} {ps : String} {es : Array Edge} {gd : Option (Nat × Bool)} {t t' : Nat} {x y : Operand} {xs ys : List Value} {fs : Array Field} {r : Bool}
theorem aeq (hx : ev e x = .agg xs.toArray) (hy : ev e y = .agg ys.toArray) (hu : C.P.underlying t = some (.struct fs)) (hp : C.P.stoodInHeld t = false) (hg : C.P.eqGuardType C.P.depth t = false) (h : EqF C.P 1 xs ys fs.toList r) :
    Pur C F ⟨dst, .binOp .eql t x y t', ty, ps, es, gd⟩ e (.bool r) := bin hx hy (fun w => by
  have hf : C.P.fieldsOf t = fs := by simp [Program.fieldsOf, hu]
  have : (Op.equal t (.agg xs.toArray) (.agg ys.toArray)).run C.P w = .ok r w := by
    unfold Op.equal
    rw [show Op.maxDepth = (Op.maxDepth - 1) + 1 from rfl, run_equalIn_struct (P := C.P) w _ t _ _ (by rw [hf]; exact hu) hp, hf]
    exact h (Op.maxDepth - 2) w
  simp [eqGuard, binOp, this, hg])
theorem ane (hx : ev e x = .agg xs.toArray) (hy : ev e y = .agg ys.toArray) (hu : C.P.underlying t = some (.struct fs)) (hp : C.P.stoodInHeld t = false) (hg : C.P.eqGuardType C.P.depth t = false) (h : EqF C.P 1 xs ys fs.toList r) :
    Pur C F ⟨dst, .binOp .neq t x y t', ty, ps, es, gd⟩ e (.bool (!r)) := bin hx hy (fun w => by
  have hf : C.P.fieldsOf t = fs := by simp [Program.fieldsOf, hu]
  have : (Op.equal t (.agg xs.toArray) (.agg ys.toArray)).run C.P w = .ok r w := by
    unfold Op.equal
    rw [show Op.maxDepth = (Op.maxDepth - 1) + 1 from rfl, run_equalIn_struct (P := C.P) w _ t _ _ (by rw [hf]; exact hu) hp, hf]
    exact h (Op.maxDepth - 2) w
  simp [eqGuard, binOp, this, hg])
end
end
end Kot
