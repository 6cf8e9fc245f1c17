/- Words for walking Go functions: a text gone through sign by sign; no program is named here. -/
import Derived.Test.YtpajmahpphcbaaaGreatDoorBase14
import GoSem.Instr.Range
import GoSem.Instr.Next
namespace Kot
open Go
/-- where a walk along a text is -/
def itr (b : Nat) (s : List UInt8) (p : Int) : HP := pt b (.stringIter ⟨s.toArray⟩ p.toNat)
def nxB (s : List UInt8) (p : Int) : Bool := decide (p.toNat < s.length)
def nxG (s : List UInt8) (p : Int) : Option UInt8 := s[p.toNat]?
def nxP (s : List UInt8) (p : Int) : Int := ((bif decide (p.toNat < s.length) then p.toNat + 1 else p.toNat : Nat) : Int)
def nxV (s : List UInt8) (p : Int) : Value := match s[p.toNat]? with
  | some c => .tuple #[.bool true, .int .i64 (p.toNat : Int), .int .i32 ((c.toNat : Nat) : Int)]
  | none => .tuple #[.bool false]
/-! ### a loop whose states have two shapes -/
section
variable {α σ ι σ' ι' : Type} {C : Ctx} {Q : α → Post} {T : Option α} {c y : Code} {e : Env} {hp h : HL} {L : List HP} {ops l : List Oper}
  {S1 : σ → ι → List (Nat × Value)} {Φ : σ → ι → HL → Prop} {M : σ → ι → List HP} {S2 : σ' → ι' → List (Nat × Value)} {Φ' : σ' → ι' → HL → Prop} {M' : σ' → ι' → List HP} {K1 : σ → Option α} {K2 : σ' → Option α}
theorem jnA {s : σ} {g : ι} (hA : AllEq e (S1 s g)) (hs : sub hp h) (hΦ : Φ s g h) (hL : L = M s g) : XJ (joinJ (Sum.elim K1 K2) (Sum.elim (LSt S1 Φ hp M) (LSt S2 Φ' hp M')) Q) (K1 s) .normal e h L :=
  jn (K := Sum.elim K1 K2) (Sum.inl s) ⟨e, g, setL_self hA, hs, hΦ, hL⟩
theorem jnB {s : σ'} {g : ι'} (hA : AllEq e (S2 s g)) (hs : sub hp h) (hΦ : Φ' s g h) (hL : L = M' s g) : XJ (joinJ (Sum.elim K1 K2) (Sum.elim (LSt S1 Φ hp M) (LSt S2 Φ' hp M')) Q) (K2 s) .normal e h L :=
  jn (K := Sum.elim K1 K2) (Sum.inr s) ⟨e, g, setL_self hA, hs, hΦ, hL⟩
theorem loop2 {F : Nat → σ → Option α} {F' : Nat → σ' → Option α} {n : Nat} {s : σ} (h0 : ∀ s, F 0 s = none) (h1 : ∀ s, F' 0 s = none)
    (round : ∀ n s g e0 h, sub hp h → Φ s g h → SJ C (joinJ (Sum.elim (F n) (F' n)) (Sum.elim (LSt S1 Φ hp M) (LSt S2 Φ' hp M')) Q) (F (n + 1) s) c (setL e0 (S1 s g)) h (M s g))
    (round' : ∀ n s g e0 h, sub hp h → Φ' s g h → SJ C (joinJ (Sum.elim (F n) (F' n)) (Sum.elim (LSt S1 Φ hp M) (LSt S2 Φ' hp M')) Q) (F' (n + 1) s) c (setL e0 (S2 s g)) h (M' s g))
    (hi : LSt S1 Φ hp M s e h L) : SJ C Q (F n s) (.loop c) e h L :=
  loop (fun n => Sum.elim (F n) (F' n)) (Sum.elim (LSt S1 Φ hp M) (LSt S2 Φ' hp M')) (by
      rintro (s | s)
      · exact h0 s
      · exact h1 s)
    (by
      rintro n (s | s) _ h _ ⟨e0, g, rfl, h1, h2, rfl⟩
      · exact round n s g e0 h h1 h2
      · exact round' n s g e0 h h1 h2) (s := Sum.inl s) hi
end
section
variable {α : Type} {C : Ctx} {Q : α → Post} {T : Option α} {e : Env} {hp : HL} {L : List HP} {ops l : List Oper} {d : Nat} {v : Value} {o : Op} {ty : TypeId} {ps : String} {es : Array Edge}
  {dst : Option Nat} {gd : Option (Nat × Bool)} {G : Env → HL → List HP → Prop} {F : World → Prop}
theorem rgS {t : TypeId} {x : Operand} {s : List UInt8} (hN : Nat.blt d C.N = true) (hx : ev e x = str s) (hu : ∀ w, (underlying t).run C.P w = .ok .string w)
    (k : ∀ b, G (upd e d (.pointer (some ⟨b, 0, none⟩))) hp (itr b s 0 :: L)) : OpJ C ⟨some d, .range t x, ty, ps, es, gd⟩ e hp L G :=
  ⟨fun a w ha hw next Q' hn => by
    have : (execOp a.eval ⟨some d, .range t x, ty, ps, es, gd⟩).run C.P w = .ok (.value (.pointer (some ⟨w.heap.size, 0, none⟩))) (w.alloc (.stringIter ⟨s.toArray⟩ 0)) := by
      simp [execOp, ha.eval, Instr.range, hx, str, hu]
    simp only [Oper.wp, this, Oper.upon]
    exact hn _ _ _ _ _ (k _) (ha.put hN _) (hw.new _)⟩
theorem decode_ascii {s : List UInt8} {i : Nat} {c : UInt8} (h : s[i]? = some c) (hc : c.toNat < 128) : Utf8.decode ⟨s.toArray⟩ i = (c.toNat, 1) := by
  have hg : (ByteArray.get! ⟨s.toArray⟩ (i + 0)).toNat = c.toNat := by
    show (s.toArray[i]!).toNat = _
    simp [getElem!_def, h]
  simp only [Utf8.decode, hg]
  rw [if_pos (by omega)]
theorem nxS {i b : Nat} {x : Operand} {s : List UInt8} {p : Int} (hN : Nat.blt d C.N = true) (hx : ev e x = .pointer (some ⟨b, 0, none⟩)) (hL : L[i]? = some (itr b s p)) (hs : s.all (fun c => decide (c.toNat < 128)) = true)
    (k : G (upd e d (nxV s p)) hp (L.set i (itr b s (nxP s p)))) : OpJ C ⟨some d, .next x true, ty, ps, es, gd⟩ e hp L G :=
  ⟨fun a w ha hw next Q' hn => by
    have hg := hw.get hL
    have hget : (getObj b).run C.P w = .ok (.stringIter ⟨s.toArray⟩ p.toNat) w := by simp [getObj, Sem.run, hg]
    have hset : ∀ o : Obj, (setObj b o).run C.P w = .ok () { w with heap := w.heap.setIfInBounds b o } := fun o => by simp [setObj, Sem.run, hg]
    by_cases hp : p.toNat < s.length
    · have hc : s[p.toNat]? = some (s[p.toNat]'hp) := by simp
      have ha128 : (s[p.toNat]'hp).toNat < 128 := by simpa using List.all_eq_true.1 hs _ (List.getElem_mem hp)
      have hdec := decode_ascii hc ha128
      have hlt : p.toNat < (⟨s.toArray⟩ : ByteArray).size := hp
      have hr : (execOp a.eval ⟨some d, .next x true, ty, ps, es, gd⟩).run C.P w = .ok (.value (nxV s p)) { w with heap := w.heap.setIfInBounds b (.stringIter ⟨s.toArray⟩ (p.toNat + 1)) } := by
        simp [execOp, ha.eval, Instr.next, hx, nxV, hc, hget, hset, hlt, hdec, goInt]
      simp only [Oper.wp, hr, Oper.upon]
      refine hn _ _ _ _ _ k (ha.put hN _) ?_
      have e1 : itr b s (nxP s p) = pt b (.stringIter ⟨s.toArray⟩ (p.toNat + 1)) := by
        unfold itr nxP
        rw [decide_eq_true hp]; rfl
      rw [e1]
      have hb : b < w.heap.size := by
        rcases Nat.lt_or_ge b w.heap.size with h' | h'
        · exact h'
        · rw [Array.getElem?_eq_none h'] at hg; cases hg
      refine hw.set hL rfl rfl rfl ?_ ?_
      · simp [Array.getElem?_setIfInBounds, hb]
      · intro k hk
        simp only [Array.getElem?_setIfInBounds]
        rw [if_neg (fun h => hk h.symm)]
    · have hc : s[p.toNat]? = none := by simp; omega
      have hlt : ¬ p.toNat < (⟨s.toArray⟩ : ByteArray).size := hp
      have hr : (execOp a.eval ⟨some d, .next x true, ty, ps, es, gd⟩).run C.P w = .ok (.value (nxV s p)) w := by
        simp [execOp, ha.eval, Instr.next, hx, nxV, hc, hget, hset, hlt]
      simp only [Oper.wp, hr, Oper.upon]
      refine hn _ _ _ _ _ k (ha.put hN _) ?_
      have e1 : itr b s (nxP s p) = itr b s p := by
        unfold itr nxP
        rw [decide_eq_false hp]; rfl
      rw [e1]
      have e2 : L.set i (itr b s p) = L := by
        apply List.ext_getElem?
        intro j
        rw [List.getElem?_set]
        split
        · rename_i h; subst h
          split
          · exact hL.symm
          · rename_i h2
            rw [List.getElem?_eq_none (by omega)]
        · rfl
      rw [e2]; exact hw⟩
theorem xn0 {x : Operand} {s : List UInt8} {p : Int} (hx : ev e x = nxV s p) : Pur C F ⟨dst, .extract x 0, ty, ps, es, gd⟩ e (.bool (nxB s p)) := by
  by_cases hp : p.toNat < s.length
  · have hc : s[p.toNat]? = some (s[p.toNat]'hp) := by simp
    unfold nxV at hx
    rw [hc] at hx
    unfold nxB
    rw [decide_eq_true hp]
    exact xt hx rfl
  · have hc : s[p.toNat]? = none := by simp; omega
    unfold nxV at hx
    rw [hc] at hx
    unfold nxB
    rw [decide_eq_false hp]
    exact xt hx rfl
theorem xn1 {x : Operand} {s : List UInt8} {p : Int} {c : UInt8} (hx : ev e x = nxV s p) (h : nxG s p = some c) : Pur C F ⟨dst, .extract x 1, ty, ps, es, gd⟩ e (.int .i64 (p.toNat : Int)) := by
  unfold nxG at h
  unfold nxV at hx
  rw [h] at hx
  exact xt hx rfl
theorem xn2 {x : Operand} {s : List UInt8} {p : Int} {c : UInt8} (hx : ev e x = nxV s p) (h : nxG s p = some c) : Pur C F ⟨dst, .extract x 2, ty, ps, es, gd⟩ e (.int .i32 ((c.toNat : Nat) : Int)) := by
  unfold nxG at h
  unfold nxV at hx
  rw [h] at hx
  exact xt hx rfl
end
end Kot
