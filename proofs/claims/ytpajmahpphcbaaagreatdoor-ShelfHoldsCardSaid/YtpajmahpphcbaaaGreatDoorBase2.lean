/- Words for walking Go functions: operations that only reckon, ends of joins and loops, slices that are read or grown; no program is named here. -/
import Derived.Test.YtpajmahpphcbaaaGreatDoorBase
namespace Kot
open Go

def str (l : List UInt8) : Value := .string ⟨l.toArray⟩
def bnd {α β : Type} (a : α) (K : α → Option β) : Option β := K a
def band (k : IntKind) (a b : Int) : Int := k.wrap ((BitVec.ofInt k.bits a &&& BitVec.ofInt k.bits b).toNat)
def bor (k : IntKind) (a b : Int) : Int := k.wrap ((BitVec.ofInt k.bits a ||| BitVec.ofInt k.bits b).toNat)
def bxor (k : IntKind) (a b : Int) : Int := k.wrap ((BitVec.ofInt k.bits a ^^^ BitVec.ofInt k.bits b).toNat)
def shl (k : IntKind) (a b : Int) : Int := k.wrap (a * 2 ^ (min b.toNat k.bits))
def shr (k : IntKind) (a b : Int) : Int := a.fdiv (2 ^ (min b.toNat k.bits))
def quo (k : IntKind) (a b : Int) : Int := k.wrap (a.tdiv b)
def bnot (k : IntKind) (a : Int) : Int := bxor k (if k.signed then -1 else k.max) a

section
variable {C : Ctx} {F : World → Prop} {e : Env} {ty : TypeId} {ps : String} {es : Array Edge} {dst : Option Nat} {gd : Option (Nat × Bool)}
variable {t t' : Nat} {x y : Operand} {a b : Int} {k : IntKind} {p q : Bool}


theorem iadd (hx : ev e x = .int k a) (hy : ev e y = .int k b) :
    Pur C F ⟨dst, .binOp .add t x y t', ty, ps, es, gd⟩ e (.int k (k.wrap (a + b))) := bin hx hy (fun w => by simp [eqGuard, binOp, Op.intArith])
theorem isub (hx : ev e x = .int k a) (hy : ev e y = .int k b) :
    Pur C F ⟨dst, .binOp .sub t x y t', ty, ps, es, gd⟩ e (.int k (k.wrap (a - b))) := bin hx hy (fun w => by simp [eqGuard, binOp, Op.intArith])
theorem imul (hx : ev e x = .int k a) (hy : ev e y = .int k b) :
    Pur C F ⟨dst, .binOp .mul t x y t', ty, ps, es, gd⟩ e (.int k (k.wrap (a * b))) := bin hx hy (fun w => by simp [eqGuard, binOp, Op.intArith])
theorem iand (hx : ev e x = .int k a) (hy : ev e y = .int k b) :
    Pur C F ⟨dst, .binOp .and t x y t', ty, ps, es, gd⟩ e (.int k (band k a b)) := bin hx hy (fun w => by simp [eqGuard, binOp, Op.intBits, band])
theorem ior (hx : ev e x = .int k a) (hy : ev e y = .int k b) :
    Pur C F ⟨dst, .binOp .or t x y t', ty, ps, es, gd⟩ e (.int k (bor k a b)) := bin hx hy (fun w => by simp [eqGuard, binOp, Op.intBits, bor])
theorem ixor (hx : ev e x = .int k a) (hy : ev e y = .int k b) :
    Pur C F ⟨dst, .binOp .xor t x y t', ty, ps, es, gd⟩ e (.int k (bxor k a b)) := bin hx hy (fun w => by simp [eqGuard, binOp, Op.intBits, bxor])
theorem ieq (hx : ev e x = .int k a) (hy : ev e y = .int k b) :
    Pur C F ⟨dst, .binOp .eql t x y t', ty, ps, es, gd⟩ e (.bool (a == b)) := bin hx hy (fun w => by simp [eqGuard, binOp, Op.intCmp])
theorem ine (hx : ev e x = .int k a) (hy : ev e y = .int k b) :
    Pur C F ⟨dst, .binOp .neq t x y t', ty, ps, es, gd⟩ e (.bool (a != b)) := bin hx hy (fun w => by simp [eqGuard, binOp, Op.intCmp])
theorem ilt (hx : ev e x = .int k a) (hy : ev e y = .int k b) :
    Pur C F ⟨dst, .binOp .lss t x y t', ty, ps, es, gd⟩ e (.bool (decide (a < b))) := bin hx hy (fun w => by simp [eqGuard, binOp, Op.intCmp])
theorem ile (hx : ev e x = .int k a) (hy : ev e y = .int k b) :
    Pur C F ⟨dst, .binOp .leq t x y t', ty, ps, es, gd⟩ e (.bool (decide (a ≤ b))) := bin hx hy (fun w => by simp [eqGuard, binOp, Op.intCmp])
theorem igt (hx : ev e x = .int k a) (hy : ev e y = .int k b) :
    Pur C F ⟨dst, .binOp .gtr t x y t', ty, ps, es, gd⟩ e (.bool (decide (b < a))) := bin hx hy (fun w => by simp [eqGuard, binOp, Op.intCmp])
theorem ige (hx : ev e x = .int k a) (hy : ev e y = .int k b) :
    Pur C F ⟨dst, .binOp .geq t x y t', ty, ps, es, gd⟩ e (.bool (decide (b ≤ a))) := bin hx hy (fun w => by simp [eqGuard, binOp, Op.intCmp])
theorem iquo (hx : ev e x = .int k a) (hy : ev e y = .int k b) (hb : (b == 0) = false) :
    Pur C F ⟨dst, .binOp .quo t x y t', ty, ps, es, gd⟩ e (.int k (quo k a b)) := bin hx hy (fun w => by have := beq_eq_false_iff_ne.1 hb; simp [eqGuard, binOp, Op.intDiv, quo, this])
theorem irem (hx : ev e x = .int k a) (hy : ev e y = .int k b) (hb : (b == 0) = false) :
    Pur C F ⟨dst, .binOp .rem t x y t', ty, ps, es, gd⟩ e (.int k (a.tmod b)) := bin hx hy (fun w => by have := beq_eq_false_iff_ne.1 hb; simp [eqGuard, binOp, Op.intDiv, this])
theorem ishl {k' : IntKind} (hx : ev e x = .int k a) (hy : ev e y = .int k' b) (hb : decide (b < 0) = false) :
    Pur C F ⟨dst, .binOp .shl t x y t', ty, ps, es, gd⟩ e (.int k (shl k a b)) := bin hx hy (fun w => by have := of_decide_eq_false hb; simp [eqGuard, binOp, Op.shift, shl, this])
theorem ishr {k' : IntKind} (hx : ev e x = .int k a) (hy : ev e y = .int k' b) (hb : decide (b < 0) = false) :
    Pur C F ⟨dst, .binOp .shr t x y t', ty, ps, es, gd⟩ e (.int k (shr k a b)) := bin hx hy (fun w => by have := of_decide_eq_false hb; simp [eqGuard, binOp, Op.shift, shr, this])
theorem ineg (hx : ev e x = .int k a) :
    Pur C F ⟨dst, .unOp .neg t x, ty, ps, es, gd⟩ e (.int k (k.wrap (0 - a))) := op (fun w => by simp [execOp, hx, Op.unary, Op.intArith])
theorem inot (hx : ev e x = .int k a) :
    Pur C F ⟨dst, .unOp .xor t x, ty, ps, es, gd⟩ e (.int k (bnot k a)) := op (fun w => by simp [execOp, hx, Op.unary, Op.intBits, bnot, bxor])
theorem lnot (hx : ev e x = .bool p) :
    Pur C F ⟨dst, .unOp .not t x, ty, ps, es, gd⟩ e (.bool (!p)) := op (fun w => by simp [execOp, hx, Op.unary])
theorem cvi {k' : IntKind} {sd : TypeDesc} (hs : ∀ w, (underlying t).run C.P w = .ok sd w) (hd : ∀ w, (underlying t').run C.P w = .ok (.int k') w)
    (hx : ev e x = .int k a) : Pur C F ⟨dst, .convert t t' x, ty, ps, es, gd⟩ e (.int k' (k'.wrap a)) := op (fun w => by simp [execOp, hx, convert, hs, hd, Conv.intToInt])
theorem pkT {c u z : Operand} {v : Value} (hc : ev e c = .bool true) (hu : ev e u = v) :
    Pur C F ⟨dst, .pick c u z, ty, ps, es, gd⟩ e v := op (fun w => by subst hu; simp [execOp, hc, asBool])
theorem pkF {c u z : Operand} {v : Value} (hc : ev e c = .bool false) (hz : ev e z = v) :
    Pur C F ⟨dst, .pick c u z, ty, ps, es, gd⟩ e v := op (fun w => by subst hz; simp [execOp, hc, asBool])
theorem xt {i : Nat} {vs : List Value} {v : Value} (hx : ev e x = .tuple vs.toArray) (hv : vs[i]? = some v) : Pur C F ⟨dst, .extract x i, ty, ps, es, gd⟩ e v := op (fun w => by simp [execOp, hx, Instr.extract, hv])
end
end Kot
