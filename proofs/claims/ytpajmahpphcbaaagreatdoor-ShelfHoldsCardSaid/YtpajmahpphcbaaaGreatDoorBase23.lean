/- Words for walking Go functions: calls that are walked in place, loops that are walked round by round; no program is named here. -/
import Derived.Test.YtpajmahpphcbaaaGreatDoorBase22
import Derived.LoopN
namespace Kot
open Go
section
variable {α : Type} {C : Ctx} {Q : α → Post} {T : Option α} {e : Env} {hp : HL} {L : List HP} {ops l : List Oper} {ty : TypeId} {ps : String} {es : Array Edge} {d f : Nat} {xs : Array Operand} {ts : Array TypeId} {args first caps : List Value} {o : Operand}
theorem inl (hN : Nat.blt d C.N = true) (hc : ∀ args w, (callFunc f args).run C.P w = .ok (.enter f args) w) (ha : xs.toList.map (ev e) = args)
    (h : DJ C.P C.X T f args hp L (fun r v hp' L' => Sl C (Q r) ops l (upd e d v) hp' L')) : LJ C Q T ops (⟨some d, .call ⟨.value (.func f), xs, ts⟩, ty, ps, es, none⟩ :: l) e hp L :=
  ⟨fun r hr a w hA hw => wpList_plain rfl fun K hK => (call (G := fun e' hp' L' => Sl C (Q r) ops l e' hp' L') hN hc ha h hr (fun _ _ _ hR => hR)).go a w hA hw _ _ fun _ _ _ _ _ hk ha' hw' => hK _ _ (hk _ _ ha' hw')⟩
theorem inlW (hN : Nat.blt d C.N = true) (hv : ev e o = .func (.func f) first.toArray caps.toArray) (hc : ∀ args w, (callFunc f args).run C.P w = .ok (.enter f args) w) (ha : first ++ xs.toList.map (ev e) ++ caps = args)
    (h : DJ C.P C.X T f args hp L (fun r v hp' L' => Sl C (Q r) ops l (upd e d v) hp' L')) : LJ C Q T ops (⟨some d, .call ⟨.value o, xs, ts⟩, ty, ps, es, none⟩ :: l) e hp L :=
  ⟨fun r hr a w hA hw => wpList_plain rfl fun K hK => (callW (G := fun e' hp' L' => Sl C (Q r) ops l e' hp' L') hN hv hc ha h hr (fun _ _ _ hR => hR)).go a w hA hw _ _ fun _ _ _ _ _ hk ha' hw' => hK _ _ (hk _ _ ha' hw')⟩
theorem qi {C' : Ctx} {fn : Func} {a : ResultVar} {v : Value} {z : Exit} (hf : fn.results = #[a]) (hz : isEnd z) (ha : ResV C' e hp L a v) {e' : Env} (h : LJ C Q T ops l (upd e' d v) hp L) :
    XJ (retQ C' fn (fun r v hp' L' => Sl C (Q r) ops l (upd e' d v) hp' L')) T z e hp L := ⟨fun r hr => by
  have := (q1 (R := fun (r : α) v hp' L' => Sl C (Q r) ops l (upd e' d v) hp' L') (x := r) (L2 := L) hf hz (fun _ h => h) ha (h.go r hr)).go r rfl
  exact this⟩
structure UJ (n : Nat) (C : Ctx) (Q : α → Post) (T : Option α) (c : Code) (e : Env) (hp : HL) (L : List HP) : Prop where
  go : ∀ r, T = some r → ∀ a w, Agree C.N e a → Own C.X hp L w → Code.rounds C.P c (lift C (Q r)) n a w
def unJ (n : Nat) (C : Ctx) (c : Code) (Q : α → Post) : α → Post := fun r x e hp L => match x with
  | .normal => ∀ a w, Agree C.N e a → Own C.X hp L w → Code.rounds C.P c (lift C (Q r)) n a w
  | x => Q r x e hp L
variable {c : Code} {n : Nat}
theorem loopU (n : Nat) (h : UJ n C Q T c e hp L) : SJ C Q T (.loop c) e hp L := ⟨fun r hr a w ha hw => wp_loop_rounds n (h.go r hr a w ha hw)⟩
theorem uN (h : SJ C (unJ n C c Q) T c e hp L) : UJ (n + 1) C Q T c e hp L := ⟨fun r hr a w ha hw => by
  rw [rounds_succ]
  refine Code.wp_mono ?_ (h.go r hr a w ha hw)
  rintro x a' w' ⟨e', hp', L', hA, hO, hx⟩
  cases x <;> first | exact hx a' w' hA hO | exact ⟨e', hp', L', hA, hO, hx⟩⟩
theorem un (h : UJ n C Q T c e hp L) : XJ (unJ n C c Q) T .normal e hp L := ⟨fun r hr a w ha hw => h.go r hr a w ha hw⟩
theorem ur (h : XJ Q T .ret e hp L) : XJ (unJ n C c Q) T .ret e hp L := ⟨fun r hr => h.go r hr⟩
theorem ue {id : Nat} (h : XJ Q T (.exit id) e hp L) : XJ (unJ n C c Q) T (.exit id) e hp L := ⟨fun r hr => h.go r hr⟩
theorem iaLit {F : World → Prop} {dst : Option Nat} {gd : Option (Nat × Bool)} {t u b n c i k : Nat} {ki : IntKind} {x y : Operand} (hx : ev e x = .slice (some ⟨b, 0, none⟩) n c) (hy : ev e y = .int ki (i : Nat)) (hlt : Nat.blt i n = true)
    (ht : ∀ w, (underlying t).run C.P w = .ok (.slice u) w) (hs : ∀ w, (Go.sizeOf u).run C.P w = .ok k w) : Pur C F ⟨dst, .indexAddr t x y, ty, ps, es, gd⟩ e (.pointer (some ((⟨b, 0, none⟩ : Addr).add (i * k)))) := op (fun w => by
  have hl : i < n := by simpa using hlt
  have h2 : ¬ n ≤ i := by omega
  simp [execOp, hx, hy, Instr.indexAt, asIntOf, ht, hs, h2])
theorem mkE {F : World → Prop} {dst : Option Nat} {gd : Option (Nat × Bool)} {t : Nat} {x : Operand} {n : Int} {dx : TypeDesc} (hz : (n == 0) = false) (ht : ∀ w, (underlying t).run C.P w = .ok dx w) (hd : (∀ ms, dx ≠ .interface ms)) (hx : ev e x = .int .i64 n) :
    Pur C F ⟨dst, .makeInterface t x, ty, ps, es, gd⟩ e (errV t n) := by
  have hn : ¬ n = 0 := by simpa using hz
  have : errV t n = .iface t (.int .i64 n) := by unfold errV; rw [if_neg hn]
  rw [this]
  exact mkI ht hd hx
theorem cndH {x y : Code} {A B : Option α} {b : Bool} (hb : ev e o = .bool b) (h1 : b = true → SJ C Q A x e hp L) (h2 : b = false → SJ C Q B y e hp L) : SJ C Q (bif b then A else B) (.cond o x y) e hp L := by
  cases b
  · exact cndF hb (h2 rfl)
  · exact cndT hb (h1 rfl)
end
end Kot
