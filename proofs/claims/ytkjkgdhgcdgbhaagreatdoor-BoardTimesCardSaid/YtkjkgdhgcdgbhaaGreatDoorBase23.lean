/- Words for walking Go functions: calls that are walked in place, loops that are walked round by round; no program is named here. -/
import Derived.Test.YtkjkgdhgcdgbhaaGreatDoorBase22
import Derived.LoopN
namespace Kot
open Go
section
variable {α : Type} {C : NR} {Q : α → LB} {T : Option α} {e : JU} {hp : HL} {L : List HP} {ops l : List Oper} {ty : TypeId} {ps : String} {es : Array Edge} {d f : Nat} {xs : Array Operand} {ts : Array TypeId} {args first caps : List Value} {o : Operand}
theorem inl (hN : Nat.blt d C.N = true) (hc : ∀ args w, (callFunc f args).run C.P w = .ok (.enter f args) w) (ha : xs.toList.map (ev e) = args)
    (h : DJ C.P C.X T f args hp L (fun r v hp' L' => Sl C (Q r) ops l (JI e d v) hp' L')) : LJ C Q T ops (⟨some d, .call ⟨.value (.func f), xs, ts⟩, ty, ps, es, none⟩ :: l) e hp L :=
  ⟨fun r hr a w hA hw => wpList_plain rfl fun K hK => (call (G := fun e' hp' L' => Sl C (Q r) ops l e' hp' L') hN hc ha h hr (fun _ _ _ hR => hR)).go a w hA hw _ _ fun _ _ _ _ _ hk ha' hw' => hK _ _ (hk _ _ ha' hw')⟩
theorem qi {C' : NR} {fn : Func} {a : ResultVar} {v : Value} {z : Exit} (hf : fn.results = #[a]) (hz : Ty z) (ha : Tm C' e hp L a v) {e' : JU} (h : LJ C Q T ops l (JI e' d v) hp L) :
    XJ (Vq C' fn (fun r v hp' L' => Sl C (Q r) ops l (JI e' d v) hp' L')) T z e hp L := ⟨fun r hr => by
  have := (q1 (R := fun (r : α) v hp' L' => Sl C (Q r) ops l (JI e' d v) hp' L') (x := r) (L2 := L) hf hz (fun _ h => h) ha (h.go r hr)).go r rfl
  exact this⟩
structure UJ (n : Nat) (C : NR) (Q : α → LB) (T : Option α) (c : Code) (e : JU) (hp : HL) (L : List HP) : Prop where
  go : ∀ r, T = some r → ∀ a w, Nu C.N e a → JH C.X hp L w → Code.rounds C.P c (Yj C (Q r)) n a w
def unJ (n : Nat) (C : NR) (c : Code) (Q : α → LB) : α → LB := fun r x e hp L => match x with
  | .normal => ∀ a w, Nu C.N e a → JH C.X hp L w → Code.rounds C.P c (Yj C (Q r)) n a w
  | x => Q r x e hp L
variable {c : Code} {n : Nat}
theorem U7 (n : Nat) (h : UJ n C Q T c e hp L) : SJ C Q T (.loop c) e hp L := ⟨fun r hr a w ha hw => wp_loop_rounds n (h.go r hr a w ha hw)⟩
theorem uN (h : SJ C (unJ n C c Q) T c e hp L) : UJ (n + 1) C Q T c e hp L := ⟨fun r hr a w ha hw => by
  rw [rounds_succ]
  refine Code.wp_mono ?_ (h.go r hr a w ha hw)
  rintro x a' w' ⟨e', hp', L', hA, hO, hx⟩
  cases x <;> first | exact hx a' w' hA hO | exact ⟨e', hp', L', hA, hO, hx⟩⟩
theorem un (h : UJ n C Q T c e hp L) : XJ (unJ n C c Q) T .normal e hp L := ⟨fun r hr a w ha hw => h.go r hr a w ha hw⟩
theorem ue {id : Nat} (h : XJ Q T (.exit id) e hp L) : XJ (unJ n C c Q) T (.exit id) e hp L := ⟨fun r hr => h.go r hr⟩
end
end Kot
