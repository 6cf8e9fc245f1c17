/- Words for walking Go functions: slices of slices that are read; no program is named here. -/
import Derived.Test.YtpajmahpphcbaaaGreatDoorBase13
namespace Kot
open Go
def Rsl {τ : Type} (k : Nat) (R : HL → τ → List Value → Prop) : HL → List τ → List Value → Prop := fun hp l cs => ∃ g : SG3, cs = [sg g] ∧ RdL hp k R (sg g) l
theorem Rsl.mono {τ : Type} {k : Nat} {R : HL → τ → List Value → Prop} (hR : Mono R) : Mono (Rsl k R) := fun h h' x c H s => by
  obtain ⟨v, rfl, H⟩ := H
  exact ⟨v, rfl, H.mono hR s⟩
def AllR {τ : Type} (R : HL → τ → List Value → Prop) (hp : HL) : List Value → List τ → Prop
  | [], [] => True
  | c :: cs, x :: xs => R hp x [c] ∧ AllR R hp cs xs
  | _, _ => False
theorem AllR.len {τ : Type} {R : HL → τ → List Value → Prop} {hp : HL} : ∀ {cs : List Value} {xs : List τ}, AllR R hp cs xs → cs.length = xs.length
  | [], [], _ => rfl
  | _ :: _, _ :: _, h => by simp [h.2.len]
  | [], _ :: _, h => h.elim
  | _ :: _, [], h => h.elim
theorem AllR.get {τ : Type} {R : HL → τ → List Value → Prop} {hp : HL} : ∀ {cs : List Value} {xs : List τ} {i : Nat} {x : τ} {c : Value}, AllR R hp cs xs → xs[i]? = some x → cs[i]? = some c → R hp x [c]
  | _ :: _, _ :: _, 0, _, _, h, hx, hc => by simp at hx hc; subst hx hc; exact h.1
  | _ :: _, _ :: _, i + 1, _, _, h, hx, hc => h.2.get (i := i) (by simpa using hx) (by simpa using hc)
  | [], [], _, _, _, _, hx, _ => by simp at hx
  | [], _ :: _, _, _, _, h, _, _ => h.elim
  | _ :: _, [], _, _, _, h, _, _ => h.elim
theorem flatten_one (l : List Value) : (l.map fun c => [c]).flatten = l := by
  induction l with
  | nil => rfl
  | cons a l ih => simp [ih]
section
variable {X : World} {J : HL → List HP → Prop} {hp : HL} {L : List HP}
theorem KpL {τ : Type} {R : HL → τ → List Value → Prop} {xs : List τ} {cs : List Value} {b t : Nat} (c : Cv X J) (i : Nat) (hi : L[i]? = some (blk b t cs)) (hR : Mono R) (ha : AllR R hp cs xs)
    (h : ∀ hp', sub hp hp' → RdL hp' 1 R (.slice (some ⟨b, 0, none⟩) xs.length xs.length) xs → J hp' (L.eraseIdx i)) : J hp L := by
  refine c.cx (ι := HL) (L' := fun _ => L.eraseIdx i) (hp' := id) (Φ := fun hp' => sub hp hp' ∧ RdS hp' 1 (.slice (some ⟨b, 0, none⟩) xs.length xs.length) cs) (fun w hw => ?_) (fun hp' hh => h hp' hh.1 ?_)
  · refine ⟨(b, .cells cs.toArray t (0, 0)) :: hp, ⟨sub.cons _ _, _, _, _, rfl, ?_, Nat.le_refl _, .inr ⟨b, 0, cs.toArray, t, (0, 0), rfl, List.mem_cons_self, fun j hj => by simp⟩⟩, (own_front hw hi).keep⟩
    rw [ha.len]; omega
  · have hl := ha.len
    refine ⟨cs.map fun c => [c], by rw [flatten_one]; exact hh.2, by simp [hl], fun j x c hx hc => ?_⟩
    rw [List.getElem?_map] at hc
    obtain ⟨c', hc', rfl⟩ := Option.map_eq_some_iff.1 hc
    exact ⟨hR _ _ _ _ (ha.get hx hc') hh.1, rfl⟩
end
section
variable {C : Ctx} {F : World → Prop} {e : Env} {hp h : HL} {L : List HP} {ty : TypeId} {ps : String} {es : Array Edge} {dst : Option Nat} {gd : Option (Nat × Bool)} {x y : Operand} {t : Nat}
theorem ix2 {τ : Type} {k : Nat} {R : HL → τ → List Value → Prop} {v : Value} {xs : List (List τ)} {z : List τ} {i : Int} {ki : IntKind} {el : TypeId}
    (hx : ev e x = v) (H : RdL h 1 (Rsl k R) v xs) (hz : lget xs i = some z) (hy : ev e y = .int ki i) (ht : ∀ w, (underlying t).run C.P w = .ok (.slice el) w) (hs : ∀ w, (Go.sizeOf el).run C.P w = .ok 1 w) :
    PurX C F ⟨dst, .indexAddr t x y, ty, ps, es, gd⟩ e (fun q : Addr × SG3 => .pointer (some q.1)) (fun q => RdP h q.1 [sg q.2] ∧ RdL h k R (sg q.2) z) := by
  obtain ⟨h0, hlt, hzz⟩ := lget_spec hz
  obtain ⟨a, cap, c, hv, ⟨u, rfl, hR⟩, hc, hP⟩ := H.get (Nat.succ_pos 0) hzz
  exact ⟨(a.add (i.toNat * (0 + 1)), u), ⟨fun w _ => by simp [execOp, hx, hy, hv, Instr.indexAt, asIntOf, ht, hs, h0, hlt]⟩, hP, hR⟩
end
end Kot
