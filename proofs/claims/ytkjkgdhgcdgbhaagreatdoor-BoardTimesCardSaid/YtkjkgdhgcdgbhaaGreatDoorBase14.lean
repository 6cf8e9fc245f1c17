/- Words for walking Go functions: slices of slices that are read; no program is named here. -/
import Derived.Test.YtkjkgdhgcdgbhaaGreatDoorBase13
namespace Kot
open Go
def Rsl {τ : Type} (k : Nat) (R : HL → τ → List Value → Prop) : HL → List τ → List Value → Prop := fun hp l cs => ∃ g : C6, cs = [sg g] ∧ DN hp k R (sg g) l
theorem Rsl.mono {τ : Type} {k : Nat} {R : HL → τ → List Value → Prop} (hR : Xm R) : Xm (Rsl k R) := fun h h' x c H s => by
  obtain ⟨v, rfl, H⟩ := H
  exact ⟨v, rfl, H.mono hR s⟩
def XH {τ : Type} (R : HL → τ → List Value → Prop) (hp : HL) : List Value → List τ → Prop
  | [], [] => True
  | c :: cs, x :: xs => R hp x [c] ∧ XH R hp cs xs
  | _, _ => False
theorem XH.len {τ : Type} {R : HL → τ → List Value → Prop} {hp : HL} : ∀ {cs : List Value} {xs : List τ}, XH R hp cs xs → cs.length = xs.length
  | [], [], _ => rfl
  | _ :: _, _ :: _, h => by simp [h.2.len]
  | [], _ :: _, h => h.elim
  | _ :: _, [], h => h.elim
theorem XH.get {τ : Type} {R : HL → τ → List Value → Prop} {hp : HL} : ∀ {cs : List Value} {xs : List τ} {i : Nat} {x : τ} {c : Value}, XH R hp cs xs → xs[i]? = some x → cs[i]? = some c → R hp x [c]
  | _ :: _, _ :: _, 0, _, _, h, hx, hc => by simp at hx hc; subst hx hc; exact h.1
  | _ :: _, _ :: _, i + 1, _, _, h, hx, hc => h.2.get (i := i) (by simpa using hx) (by simpa using hc)
  | [], [], _, _, _, _, hx, _ => by simp at hx
  | [], _ :: _, _, _, _, h, _, _ => h.elim
  | _ :: _, [], _, _, _, h, _, _ => h.elim
section
variable {X : World} {J : HL → List HP → Prop} {hp : HL} {L : List HP}
end
section
variable {C : NR} {F : World → Prop} {e : JU} {hp h : HL} {L : List HP} {ty : TypeId} {ps : String} {es : Array Edge} {dst : Option Nat} {gd : Option (Nat × Bool)} {x y : Operand} {t : Nat}
end
end Kot
