/- Words for walking Go functions: a builder's memory (bytes that are made, cut, told as a text), pointers turned round, errors; no program is named here. -/
import Derived.Test.YtkjkgdhgcdgbhaaGreatDoorBase10
import Derived.Lib.MakeNoZero
import Derived.Lib.Builder
import Derived.Lib.UnsafeStr
namespace Kot
open Go
abbrev C6 := Option Addr × Nat × Nat
def sg (g : C6) : Value := .slice g.1 g.2.1 g.2.2
section
variable {C : NR} {F : World → Prop} {e : JU} {hp h : HL} {L : List HP} {ty : TypeId} {ps : String} {es : Array Edge} {dst : Option Nat} {gd : Option (Nat × Bool)} {x y : Operand} {t t' : Nat} {G : JU → HL → List HP → Prop} {d : Nat}
theorem Yy {X w} {v : Value} {u k n : Nat} {l : List Value} {R : List HP} (hw : JH X hp (sl v u (k + 1) l :: R) w) (hl : l.length = n * (k + 1)) : ∃ a c, v = .slice a n c ∧ n ≤ c := by
  obtain ⟨hh, ⟨h1, h2, rfl, ⟨a, n', cap, hv, hlen, hcap, hc⟩, hs2⟩, hsat⟩ := hw.ex
  have : n' = n := by rw [hlen] at hl; exact Nat.eq_of_mul_eq_mul_right (Nat.succ_pos k) hl
  subst this
  exact ⟨a, cap, hv, hcap⟩
theorem X0 {τ : Type} {f : τ → List Value} {i u u' k : Nat} {v : Value} {xs : List τ} (hx : ev e x = v) (hi : L[i]? = some (sl v u (k + 1) (xs.flatMap f))) (hf : ∀ x, (f x).length = k + 1) (ht : ∀ w, (underlying t).run C.P w = .ok (.slice u') w) :
    NG C (JH C.X hp L) ⟨dst, .call ⟨.builtin .len, #[x], #[t]⟩, ty, ps, es, gd⟩ e (.int .i64 xs.length) :=
  ⟨fun w hw => by
    obtain ⟨a, c, hv, _⟩ := Yy (LK hw hi) (Kq hf xs)
    simp [execOp, resolve, invoke, builtin, hx, hv, Builtin.len_, ht, goInt]⟩
/-! ### errors -/
def IfV (v : Value) (b : Bool) : Prop := (b = true ∧ v = .nilIface) ∨ (b = false ∧ ∃ t u, v = .iface t u)
theorem IfV.nil : IfV .nilIface true := .inl ⟨rfl, rfl⟩
theorem IfV.some {t : TypeId} {u : Value} : IfV (.iface t u) false := .inr ⟨rfl, t, u, rfl⟩
end
end Kot
