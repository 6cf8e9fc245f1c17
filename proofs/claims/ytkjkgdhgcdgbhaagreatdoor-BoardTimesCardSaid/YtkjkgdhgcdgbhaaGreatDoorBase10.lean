/- Words for walking Go functions: tables that the program lays, errors; no program is named here. -/
import Derived.Test.YtkjkgdhgcdgbhaaGreatDoorBase9
namespace Kot
open Go
def GT {τ : Type} (hp : HL) (g : Nat) (f : τ → List Value) (xs : List τ) : Prop := ∀ (i : Nat) (z : τ), xs[i]? = some z → VQ hp ⟨g, i, none⟩ (f z)
theorem GT.mono {τ : Type} {h h' : HL} {g : Nat} {f : τ → List Value} {xs : List τ} (H : GT h g f xs) (s : sub h h') : GT h' g f xs := fun i z hz => (H i z hz).mono s
section
variable {C : NR} {F : World → Prop} {e : JU} {h : HL} {ty : TypeId} {ps : String} {es : Array Edge} {dst : Option Nat} {gd : Option (Nat × Bool)} {x y : Operand} {t : Nat}
theorem ZG {τ : Type} {f : τ → List Value} {xs : List τ} {z : τ} {g n el : Nat} {i : Int} {ki : IntKind} (hx : ev e x = .pointer (some ⟨g, 0, none⟩)) (H : GT h g f xs) (hz : IE xs i = some z) (hn : Nat.beq xs.length n = true) (hy : ev e y = .int ki i)
    (ht : ∀ w, (underlying t).run C.P w = .ok (.array n el) w) (hs : ∀ w, (Go.sizeOf el).run C.P w = .ok 1 w) :
    Vk C F ⟨dst, .indexAddr t x y, ty, ps, es, gd⟩ e (fun p : Addr => .pointer (some p)) (fun p => VQ h p (f z)) := by
  obtain ⟨h0, hlt, hzz⟩ := Pd hz
  have hn' := Nat.eq_of_beq_eq_true hn
  refine ⟨⟨g, i.toNat, none⟩, ⟨fun w _ => ?_⟩, H _ _ hzz⟩
  have : (⟨g, 0, none⟩ : Addr).add i.toNat = ⟨g, i.toNat, none⟩ := by
    unfold Addr.add; split
    · rename_i h; simp [h]
    · simp
  have h1 : i < (n : Int) := by omega
  simp [execOp, hx, hy, Instr.indexAt, Instr.sureAddr, asIntOf, ht, hs, h0, h1, this]
end
end Kot
