/- Words for walking Go functions: operations that only reckon, ends of joins and loops, slices that are read or grown; no program is named here. -/
import Derived.Test.YtkjkgdhgcdgbhaaGreatDoorBase
namespace Kot
open Go
def str (l : List UInt8) : Value := .string ⟨l.toArray⟩
def bnd {α β : Type} (a : α) (K : α → Option β) : Option β := K a
def Bv (k : IntKind) (a b : Int) : Int := k.wrap ((BitVec.ofInt k.bits a &&& BitVec.ofInt k.bits b).toNat)
def M5 (k : IntKind) (a b : Int) : Int := k.wrap ((BitVec.ofInt k.bits a ||| BitVec.ofInt k.bits b).toNat)
def TY (k : IntKind) (a b : Int) : Int := k.wrap ((BitVec.ofInt k.bits a ^^^ BitVec.ofInt k.bits b).toNat)
def J3 (k : IntKind) (a b : Int) : Int := k.wrap ((BitVec.ofInt k.bits a &&& ~~~ BitVec.ofInt k.bits b).toNat)
def shl (k : IntKind) (a b : Int) : Int := k.wrap (a * 2 ^ (min b.toNat k.bits))
def shr (k : IntKind) (a b : Int) : Int := a.fdiv (2 ^ (min b.toNat k.bits))
def quo (k : IntKind) (a b : Int) : Int := k.wrap (a.tdiv b)
def Zl (k : IntKind) (a : Int) : Int := TY k (if k.signed then -1 else k.max) a
section
variable {C : NR} {F : World → Prop} {e : JU} {ty : TypeId} {ps : String} {es : Array Edge} {dst : Option Nat} {gd : Option (Nat × Bool)}
variable {t t' : Nat} {x y : Operand} {a b : Int} {k : IntKind} {p q : Bool}
theorem Rs (hx : ev e x = .int k a) (hy : ev e y = .int k b) :
    NG C F ⟨dst, .binOp .add t x y t', ty, ps, es, gd⟩ e (.int k (k.wrap (a + b))) := UC hx hy (fun w => by simp [eqGuard, binOp, Op.intArith])
theorem Rt (hx : ev e x = .int k a) (hy : ev e y = .int k b) :
    NG C F ⟨dst, .binOp .sub t x y t', ty, ps, es, gd⟩ e (.int k (k.wrap (a - b))) := UC hx hy (fun w => by simp [eqGuard, binOp, Op.intArith])
theorem Wd (hx : ev e x = .int k a) (hy : ev e y = .int k b) :
    NG C F ⟨dst, .binOp .mul t x y t', ty, ps, es, gd⟩ e (.int k (k.wrap (a * b))) := UC hx hy (fun w => by simp [eqGuard, binOp, Op.intArith])
theorem Ma (hx : ev e x = .int k a) (hy : ev e y = .int k b) :
    NG C F ⟨dst, .binOp .and t x y t', ty, ps, es, gd⟩ e (.int k (Bv k a b)) := UC hx hy (fun w => by simp [eqGuard, binOp, Op.intBits, Bv])
theorem UQ (hx : ev e x = .int k a) (hy : ev e y = .int k b) :
    NG C F ⟨dst, .binOp .or t x y t', ty, ps, es, gd⟩ e (.int k (M5 k a b)) := UC hx hy (fun w => by simp [eqGuard, binOp, Op.intBits, M5])
theorem VF (hx : ev e x = .int k a) (hy : ev e y = .int k b) :
    NG C F ⟨dst, .binOp .xor t x y t', ty, ps, es, gd⟩ e (.int k (TY k a b)) := UC hx hy (fun w => by simp [eqGuard, binOp, Op.intBits, TY])
theorem Pb (hx : ev e x = .int k a) (hy : ev e y = .int k b) :
    NG C F ⟨dst, .binOp .andNot t x y t', ty, ps, es, gd⟩ e (.int k (J3 k a b)) := UC hx hy (fun w => by simp [eqGuard, binOp, Op.intBits, J3])
theorem Xd (hx : ev e x = .int k a) (hy : ev e y = .int k b) :
    NG C F ⟨dst, .binOp .eql t x y t', ty, ps, es, gd⟩ e (.bool (a == b)) := UC hx hy (fun w => by simp [eqGuard, binOp, Op.intCmp])
theorem Xz (hx : ev e x = .int k a) (hy : ev e y = .int k b) :
    NG C F ⟨dst, .binOp .neq t x y t', ty, ps, es, gd⟩ e (.bool (a != b)) := UC hx hy (fun w => by simp [eqGuard, binOp, Op.intCmp])
theorem ilt (hx : ev e x = .int k a) (hy : ev e y = .int k b) :
    NG C F ⟨dst, .binOp .lss t x y t', ty, ps, es, gd⟩ e (.bool (decide (a < b))) := UC hx hy (fun w => by simp [eqGuard, binOp, Op.intCmp])
theorem ile (hx : ev e x = .int k a) (hy : ev e y = .int k b) :
    NG C F ⟨dst, .binOp .leq t x y t', ty, ps, es, gd⟩ e (.bool (decide (a ≤ b))) := UC hx hy (fun w => by simp [eqGuard, binOp, Op.intCmp])
theorem igt (hx : ev e x = .int k a) (hy : ev e y = .int k b) :
    NG C F ⟨dst, .binOp .gtr t x y t', ty, ps, es, gd⟩ e (.bool (decide (b < a))) := UC hx hy (fun w => by simp [eqGuard, binOp, Op.intCmp])
theorem ige (hx : ev e x = .int k a) (hy : ev e y = .int k b) :
    NG C F ⟨dst, .binOp .geq t x y t', ty, ps, es, gd⟩ e (.bool (decide (b ≤ a))) := UC hx hy (fun w => by simp [eqGuard, binOp, Op.intCmp])
theorem Aa4 (hx : ev e x = .int k a) (hy : ev e y = .int k b) (hb : (b == 0) = false) :
    NG C F ⟨dst, .binOp .quo t x y t', ty, ps, es, gd⟩ e (.int k (quo k a b)) := UC hx hy (fun w => by have := beq_eq_false_iff_ne.1 hb; simp [eqGuard, binOp, Op.intDiv, quo, this])
theorem Aac (hx : ev e x = .int k a) (hy : ev e y = .int k b) (hb : (b == 0) = false) :
    NG C F ⟨dst, .binOp .rem t x y t', ty, ps, es, gd⟩ e (.int k (a.tmod b)) := UC hx hy (fun w => by have := beq_eq_false_iff_ne.1 hb; simp [eqGuard, binOp, Op.intDiv, this])
theorem VE {k' : IntKind} (hx : ev e x = .int k a) (hy : ev e y = .int k' b) (hb : decide (b < 0) = false) :
    NG C F ⟨dst, .binOp .shl t x y t', ty, ps, es, gd⟩ e (.int k (shl k a b)) := UC hx hy (fun w => by have := of_decide_eq_false hb; simp [eqGuard, binOp, Op.shift, shl, this])
theorem WK {k' : IntKind} (hx : ev e x = .int k a) (hy : ev e y = .int k' b) (hb : decide (b < 0) = false) :
    NG C F ⟨dst, .binOp .shr t x y t', ty, ps, es, gd⟩ e (.int k (shr k a b)) := UC hx hy (fun w => by have := of_decide_eq_false hb; simp [eqGuard, binOp, Op.shift, shr, this])
theorem Aa3 (hx : ev e x = .int k a) :
    NG C F ⟨dst, .unOp .xor t x, ty, ps, es, gd⟩ e (.int k (Zl k a)) := op (fun w => by simp [execOp, hx, Op.unary, Op.intBits, Zl, TY])
theorem Yk (hx : ev e x = .bool p) :
    NG C F ⟨dst, .unOp .not t x, ty, ps, es, gd⟩ e (.bool (!p)) := op (fun w => by simp [execOp, hx, Op.unary])
theorem RZ {k' : IntKind} {sd : TypeDesc} (hs : ∀ w, (underlying t).run C.P w = .ok sd w) (hd : ∀ w, (underlying t').run C.P w = .ok (.int k') w)
    (hx : ev e x = .int k a) : NG C F ⟨dst, .convert t t' x, ty, ps, es, gd⟩ e (.int k' (k'.wrap a)) := op (fun w => by simp [execOp, hx, convert, hs, hd, Conv.intToInt])
theorem Ui {c u z : Operand} {v : Value} (hc : ev e c = .bool true) (hu : ev e u = v) :
    NG C F ⟨dst, .pick c u z, ty, ps, es, gd⟩ e v := op (fun w => by subst hu; simp [execOp, hc, asBool])
theorem U9 {c u z : Operand} {v : Value} (hc : ev e c = .bool false) (hz : ev e z = v) :
    NG C F ⟨dst, .pick c u z, ty, ps, es, gd⟩ e v := op (fun w => by subst hz; simp [execOp, hc, asBool])
theorem fld {f : Nat} {fs : Array Field} {fd : Field} {cs : List Value} {v : Value} (hx : ev e x = .agg cs.toArray)
    (ht : ∀ w, (underlying t).run C.P w = .ok (.struct fs) w) (hf : fs[f]? = some fd) (ha : ∀ w, (isAgg fd.type).run C.P w = .ok false w) (hv : cs[fd.offset]? = some v) : NG C F ⟨dst, .field t x f, ty, ps, es, gd⟩ e v := op (fun w => by simp [execOp, hx, Instr.field, ht, hf, part, ha, asAgg, hv])
theorem xt {i : Nat} {vs : List Value} {v : Value} (hx : ev e x = .tuple vs.toArray) (hv : vs[i]? = some v) : NG C F ⟨dst, .extract x i, ty, ps, es, gd⟩ e v := op (fun w => by simp [execOp, hx, Instr.extract, hv])
end
end Kot
