/- Words for walking Go functions: maps that are copied, gone through, whose keys are told; bytes that are copied; no program is named here. -/
import Derived.Test.YtkjkgdhgcdgbhaaGreatDoorBase17
import Derived.Shelf.SlMaps.Clone
namespace Kot
open Go Go.RowKit
section
variable {α : Type} {C : NR} {Q : α → LB} {T : Option α} {e : JU} {hp : HL} {L : List HP} {ops l : List Oper} {d : Nat} {v : Value} {o : Op} {ty : TypeId} {ps : String} {es : Array Edge}
  {dst : Option Nat} {gd : Option (Nat × Bool)} {G : JU → HL → List HP → Prop} {F : World → Prop} {fa : Nat → Nat} {S : List Nat} {m : Ou}
theorem slN {t t' el : Nat} {x y : Operand} {a : Option Addr} {n c : Nat} (ht : ∀ w, (underlying t).run C.P w = .ok (.slice el) w) (hx : ev e x = .slice a n c) (hy : ev e y = .slice none 0 0) :
    NG C F ⟨dst, .binOp .eql t x y t', ty, ps, es, gd⟩ e (.bool a.isNone) := UC hx hy (fun w => by
  obtain ⟨q, hq⟩ : ∃ q, Op.maxDepth = q + 1 := ⟨9999, rfl⟩
  cases a <;> simp [eqGuard, binOp, Op.equal, Op.equalIn, hq, ht])
end
/-! ### what lies below stays -/
/-! ### a map that is gone through, in whatever order -/
section
variable {α σ : Type} {C : NR} {Q : α → LB} {T : Option α} {e : JU} {hp : HL} {L : List HP} {ops l : List Oper} {c : Code} {d : Nat} {v : Value} {o : Op} {ty : TypeId} {ps : String} {es : Array Edge}
  {dst : Option Nat} {gd : Option (Nat × Bool)} {G : JU → HL → List HP → Prop} {F : World → Prop} {fa : Nat → Nat} {S : List Nat} {m rem : Ou} {cur : Option (List UInt8 × Int)}
end
section
variable {C : NR} {e : JU} {hp : HL} {L : List HP} {ty : TypeId} {ps : String} {es : Array Edge} {dst : Option Nat} {gd : Option (Nat × Bool)} {x : Operand}
end
/-! ### calls of function values -/
section
variable {β : Type} {C : NR} {U : Option β} {r : β} {e : JU} {hp : HL} {L : List HP} {ty : TypeId} {ps : String} {es : Array Edge} {gd : Option (Nat × Bool)} {G : JU → HL → List HP → Prop}
    {d f : Nat} {o : Operand} {xs : Array Operand} {ts : Array TypeId} {first caps args : List Value}
theorem YY {R : β → Value → HL → List HP → Prop} (hN : Nat.blt d C.N = true) (hv : ev e o = .func (.func f) first.toArray caps.toArray)
    (hc : ∀ args w, (callFunc f args).run C.P w = .ok (.enter f args) w) (ha : first ++ xs.toList.map (ev e) ++ caps = args)
    (h : DJ C.P C.X U f args hp L R) (hr : U = some r) (k : ∀ v hp' L', R r v hp' L' → G (JI e d v) hp' L') :
    EE C ⟨some d, .call ⟨.value o, xs, ts⟩, ty, ps, es, gd⟩ e hp L G :=
  ⟨fun a w hA hw next Q' hn => by
    have hargs : first.toArray ++ Array.map (ev e) xs ++ caps.toArray = args.toArray := by rw [← ha]; cases xs; simp
    have hx : (execOp a.eval ⟨some d, .call ⟨.value o, xs, ts⟩, ty, ps, es, gd⟩).run C.P w = .ok (.enter f args.toArray) w := by
      simp only [execOp, hA.eval, resolve, hv, Deferred.ofValue]
      simp [invoke, hc, ← hargs]
    simp only [Oper.wp, hx, Oper.upon]
    refine ((h.go r hr).go w hw).mono ?_
    rintro x w' ⟨v, hp', L', rfl, hR, hO⟩
    exact hn _ _ _ _ _ (k v hp' L' hR) (hA.put hN _) hO⟩
theorem Zn {V : β → Value} {H : β → HL} {M : β → List HP} (hN : Nat.blt d C.N = true) (hv : ev e o = .func (.func f) first.toArray caps.toArray) (hc : ∀ args w, (callFunc f args).run C.P w = .ok (.enter f args) w) (ha : first ++ xs.toList.map (ev e) ++ caps = args)
    (h : DJ C.P C.X U f args hp L (fun r => Is (V r) (H r) (M r))) (hr : U = some r) (k : G (JI e d (V r)) (H r) (M r)) :
    EE C ⟨some d, .call ⟨.value o, xs, ts⟩, ty, ps, es, gd⟩ e hp L G :=
  YY hN hv hc ha h hr (fun v hp' L' hR => by obtain ⟨rfl, rfl, rfl⟩ := hR; exact k)
theorem Zm {ι : β → Type} {V : (b : β) → ι b → Value} {Φ : (b : β) → ι b → HL → Prop} {M : (b : β) → ι b → List HP} (hN : Nat.blt d C.N = true) (hv : ev e o = .func (.func f) first.toArray caps.toArray) (hc : ∀ args w, (callFunc f args).run C.P w = .ok (.enter f args) w) (ha : first ++ xs.toList.map (ev e) ++ caps = args)
    (h : DJ C.P C.X U f args hp L (fun r => Ex (V r) (Φ r) hp (M r))) (hr : U = some r) (k : ∀ s hp', sub hp hp' → Φ r s hp' → G (JI e d (V r s)) hp' (M r s)) :
    EE C ⟨some d, .call ⟨.value o, xs, ts⟩, ty, ps, es, gd⟩ e hp L G :=
  YY hN hv hc ha h hr (fun v hp' L' hR => by obtain ⟨s, rfl, h1, h2, rfl⟩ := hR; exact k s hp' h1 h2)
end
end Kot
