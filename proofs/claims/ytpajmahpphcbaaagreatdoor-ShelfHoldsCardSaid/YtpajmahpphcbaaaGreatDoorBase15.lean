/- Words for walking Go functions: a text gone through sign by sign; no program is named here. -/
import Derived.Test.YtpajmahpphcbaaaGreatDoorBase14
import GoSem.Instr.Range
import GoSem.Instr.Next
namespace Kot
open Go
/-! ### a loop whose states have two shapes -/
section
variable {α σ ι σ' ι' : Type} {C : Ctx} {Q : α → Post} {T : Option α} {c y : Code} {e : Env} {hp h : HL} {L : List HP} {ops l : List Oper}
  {S1 : σ → ι → List (Nat × Value)} {Φ : σ → ι → HL → Prop} {M : σ → ι → List HP} {S2 : σ' → ι' → List (Nat × Value)} {Φ' : σ' → ι' → HL → Prop} {M' : σ' → ι' → List HP} {K1 : σ → Option α} {K2 : σ' → Option α}
theorem jnB {s : σ'} {g : ι'} (hA : AllEq e (S2 s g)) (hs : sub hp h) (hΦ : Φ' s g h) (hL : L = M' s g) : XJ (joinJ (Sum.elim K1 K2) (Sum.elim (LSt S1 Φ hp M) (LSt S2 Φ' hp M')) Q) (K2 s) .normal e h L :=
  jn (K := Sum.elim K1 K2) (Sum.inr s) ⟨e, g, setL_self hA, hs, hΦ, hL⟩
theorem loop2 {F : Nat → σ → Option α} {F' : Nat → σ' → Option α} {n : Nat} {s : σ} (h0 : ∀ s, F 0 s = none) (h1 : ∀ s, F' 0 s = none)
    (round : ∀ n s g e0 h, sub hp h → Φ s g h → SJ C (joinJ (Sum.elim (F n) (F' n)) (Sum.elim (LSt S1 Φ hp M) (LSt S2 Φ' hp M')) Q) (F (n + 1) s) c (setL e0 (S1 s g)) h (M s g))
    (round' : ∀ n s g e0 h, sub hp h → Φ' s g h → SJ C (joinJ (Sum.elim (F n) (F' n)) (Sum.elim (LSt S1 Φ hp M) (LSt S2 Φ' hp M')) Q) (F' (n + 1) s) c (setL e0 (S2 s g)) h (M' s g))
    (hi : LSt S1 Φ hp M s e h L) : SJ C Q (F n s) (.loop c) e h L :=
  loop (fun n => Sum.elim (F n) (F' n)) (Sum.elim (LSt S1 Φ hp M) (LSt S2 Φ' hp M')) (by
      rintro (s | s)
      · exact h0 s
      · exact h1 s)
    (by
      rintro n (s | s) _ h _ ⟨e0, g, rfl, h1, h2, rfl⟩
      · exact round n s g e0 h h1 h2
      · exact round' n s g e0 h h1 h2) (s := Sum.inl s) hi
end
section
variable {α : Type} {C : Ctx} {Q : α → Post} {T : Option α} {e : Env} {hp : HL} {L : List HP} {ops l : List Oper} {d : Nat} {v : Value} {o : Op} {ty : TypeId} {ps : String} {es : Array Edge}
  {dst : Option Nat} {gd : Option (Nat × Bool)} {G : Env → HL → List HP → Prop} {F : World → Prop}
end
end Kot
