/- Words for walking Go functions: slices whose elements hold slices; no program is named here. -/
import Derived.Test.YtkjkgdhgcdgbhaaGreatDoorBase15
namespace Kot
open Go
def RG {ι τ : Type} (cg : ι → τ → List Value) (F : ι → HL → τ → Prop) : HL → τ → List Value → Prop := fun h z cs => ∃ i, cs = cg i z ∧ F i h z
theorem RG.mono {ι τ : Type} {cg : ι → τ → List Value} {F : ι → HL → τ → Prop} (hF : ∀ i h h' z, F i h z → sub h h' → F i h' z) : Xm (RG cg F) := fun h h' z cs ⟨i, h1, h2⟩ s => ⟨i, h1, hF i h h' z h2 s⟩
def PO {τ : Type} (hp : HL) (k : Nat) (R : HL → τ → List Value → Prop) (cs : List Value) (xs : List τ) : Prop :=
  ∃ ll : List (List Value), cs = ll.flatten ∧ ll.length = xs.length ∧ ∀ (i : Nat) (x : τ) (c : List Value), xs[i]? = some x → ll[i]? = some c → R hp x c ∧ c.length = k
section
variable {τ : Type} {hp h h' : HL} {k : Nat} {R : HL → τ → List Value → Prop} {cs cs2 : List Value} {xs ys : List τ}
theorem PO.nil : PO hp k R [] [] := ⟨[], rfl, rfl, fun i x c hx => by simp at hx⟩
theorem PO.mono (hR : Xm R) (H : PO h k R cs xs) (s : sub h h') : PO h' k R cs xs := by
  obtain ⟨ll, h1, h2, h3⟩ := H
  exact ⟨ll, h1, h2, fun i x c hx hc => ⟨hR _ _ _ _ (h3 i x c hx hc).1 s, (h3 i x c hx hc).2⟩⟩
theorem PO.all {ll : List (List Value)} (h2 : ll.length = xs.length) (h3 : ∀ (i : Nat) (x : τ) (c : List Value), xs[i]? = some x → ll[i]? = some c → R hp x c ∧ c.length = k) : ∀ c ∈ ll, c.length = k := by
  intro c hc
  obtain ⟨i, hi, rfl⟩ := List.mem_iff_getElem.1 hc
  exact (h3 i (xs[i]'(by omega)) ll[i] (List.getElem?_eq_getElem _) (List.getElem?_eq_getElem _)).2
theorem PO.len (H : PO hp k R cs xs) : cs.length = xs.length * k := by
  obtain ⟨ll, rfl, h2, h3⟩ := H
  rw [Sa (PO.all h2 h3), h2]
theorem PO.get {i : Nat} {x : τ} (H : PO hp k R cs xs) (hi : xs[i]? = some x) : ∃ c, R hp x c ∧ c.length = k ∧ ∀ j, j < k → cs[i * k + j]? = c[j]? := by
  obtain ⟨ll, rfl, h2, h3⟩ := H
  have hlt := (List.getElem?_eq_some_iff.1 hi).1
  have hc : ll[i]? = some (ll[i]'(by omega)) := List.getElem?_eq_getElem _
  obtain ⟨h4, h5⟩ := h3 i x _ hi hc
  exact ⟨_, h4, h5, fun j hj => SN (PO.all h2 h3) hc j hj⟩
theorem PO.rdl {v : Value} (H : PO hp k R cs xs) (hS : XD hp k v cs) : DN hp k R v xs := by
  obtain ⟨ll, rfl, h2, h3⟩ := H
  exact ⟨ll, hS, h2, h3⟩
theorem Vv {k : Nat} : ∀ {ll : List (List Value)} {i : Nat} {c c2 : List Value}, (∀ c ∈ ll, c.length = k) → ll[i]? = some c → c2.length = k → (ll.set i c2).flatten = Me ll.flatten (i * k) c2
  | [], i, c, c2, _, hi, _ => by simp at hi
  | d :: ll, 0, c, c2, h, hi, h2 => by
    simp only [List.getElem?_cons_zero, Option.some.injEq] at hi
    subst hi
    have hd := h d (by simp)
    simp only [List.set_cons_zero, List.flatten_cons, Nat.zero_mul]
    have key : ∀ (vs d r : List Value), vs.length = d.length → ∀ pre : List Value, Me (pre ++ (d ++ r)) pre.length vs = pre ++ (vs ++ r) := by
      intro vs
      induction vs with
      | nil => intro d r hl pre; have : d = [] := List.eq_nil_of_length_eq_zero (by simpa using hl.symm)
               subst this; rfl
      | cons v vs ih =>
        intro d r hl pre
        cases d with
        | nil => simp at hl
        | cons a d =>
          simp only [Me]
          have e1 : (pre ++ (a :: d ++ r)).set pre.length v = (pre ++ [v]) ++ (d ++ r) := by simp
          have e2 : pre.length + 1 = (pre ++ [v]).length := by simp
          rw [e1, e2, ih d r (by simpa using hl) (pre ++ [v])]
          simp
    have := key c2 d ll.flatten (by omega) []
    simpa using this.symm
  | d :: ll, i + 1, c, c2, h, hi, h2 => by
    have h1 := h d (by simp)
    have ih := Vv (ll := ll) (i := i) (c := c) (fun c hc => h c (by simp [hc])) (by simpa using hi) h2
    rw [List.set_cons_succ, List.flatten_cons, ih, List.flatten_cons]
    have key : ∀ (vs pre r : List Value) (n : Nat), Me (pre ++ r) (pre.length + n) vs = pre ++ Me r n vs := by
      intro vs
      induction vs with
      | nil => intro pre r n; rfl
      | cons v vs ih =>
        intro pre r n
        simp only [Me]
        rw [List.set_append_right _ _ (by omega), Nat.add_sub_cancel_left, Nat.add_assoc, ih]
    rw [Nat.succ_mul, Nat.add_comm (i * k) k, ← h1, key]
theorem PO.set {i : Nat} {x x2 : τ} {c2 : List Value} (H : PO hp k R cs xs) (hi : xs[i]? = some x) (hR : R hp x2 c2) (hl : c2.length = k) : PO hp k R (Me cs (i * k) c2) (xs.set i x2) := by
  obtain ⟨ll, rfl, h2, h3⟩ := H
  have hlt := (List.getElem?_eq_some_iff.1 hi).1
  have hc : ll[i]? = some (ll[i]'(by omega)) := List.getElem?_eq_getElem _
  refine ⟨ll.set i c2, (Vv (PO.all h2 h3) hc hl).symm, by simp [h2], fun j y c hy hcj => ?_⟩
  by_cases hij : i = j
  · subst hij
    rw [List.getElem?_set_self (by omega)] at hy hcj
    cases hy; cases hcj
    exact ⟨hR, hl⟩
  · rw [List.getElem?_set_ne hij] at hy hcj
    exact h3 j y c hy hcj
end
section
variable {C : NR} {F : World → Prop} {e : JU} {hp h : HL} {L : List HP} {ty : TypeId} {ps : String} {es : Array Edge} {dst : Option Nat} {gd : Option (Nat × Bool)} {x y : Operand} {t : Nat} {d : Nat} {G : JU → HL → List HP → Prop}
end
section
variable {X : World} {J : HL → List HP → Prop} {hp : HL} {L : List HP}
end
section
variable {C : NR} {hp : HL} {L : List HP} {e : JU} {d t ty n u : Nat} {x : Operand} {ps} {es} {gd : Option (Nat × Bool)} {G : JU → HL → List HP → Prop}
end
end Kot
