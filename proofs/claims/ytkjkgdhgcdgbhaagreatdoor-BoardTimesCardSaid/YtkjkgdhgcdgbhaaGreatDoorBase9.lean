/- Words for walking Go functions: arrays in blocks, told by functions of their places; texts out of bytes. -/
import Derived.Test.YtkjkgdhgcdgbhaaGreatDoorBase8
import Derived.Laws.BytesArg
import Derived.Laws.IdiomStrings
namespace Kot
open Go
inductive Sg where
  | c (v : Value)
  | a (n : Nat) (f : Nat → Value)
def DL : List Sg → List Value
  | [] => []
  | .c v :: r => v :: DL r
  | .a n f :: r => (List.range n).map f ++ DL r
def UF : List Sg → Nat → Option Value
  | [], _ => none
  | .c v :: r, o => match o with
    | 0 => some v
    | o + 1 => UF r o
  | .a n f :: r, o => bif Nat.blt o n then some (f o) else UF r (o - n)
theorem Um : ∀ {S : List Sg} {o : Nat} {v : Value}, UF S o = some v → (DL S)[o]? = some v
  | [], _, _, h => nomatch h
  | .c u :: r, 0, v, h => by simpa [DL, UF] using h
  | .c u :: r, o + 1, v, h => by simpa [DL] using Um (S := r) (o := o) h
  | .a n f :: r, o, v, h => by
    simp only [UF] at h
    cases hb : Nat.blt o n with
    | true =>
      rw [hb, cond_true] at h
      have hlt : o < n := by simpa using hb
      rw [DL, List.getElem?_append_left (by simpa using hlt)]
      simpa [hlt] using h
    | false =>
      rw [hb, cond_false] at h
      have hlt : ¬ o < n := by intro hh; have : Nat.blt o n = true := by simpa using hh
                               rw [hb] at this; cases this
      rw [DL, List.getElem?_append_right (by simpa using hlt)]
      simpa using Um h
def Wu : List Sg → Nat → Value → List Sg
  | [], _, _ => []
  | .c v :: r, o, w => match o with
    | 0 => .c w :: r
    | o + 1 => .c v :: Wu r o w
  | .a n f :: r, o, w => bif Nat.blt o n then .a n (fun j => bif Nat.beq j o then w else f j) :: r else .a n f :: Wu r (o - n) w
theorem Xh {n o : Nat} {f : Nat → Value} {w : Value} (ho : o < n) : ((List.range n).map f).set o w = (List.range n).map (fun j => bif Nat.beq j o then w else f j) := by
  apply List.ext_getElem?
  intro i
  rw [List.getElem?_set]
  by_cases hio : o = i
  · subst hio
    simp [ho, Nat.beq_refl]
  · have hb : Nat.beq i o = false := by
      cases hh : Nat.beq i o with
      | false => rfl
      | true => exact absurd (Nat.eq_of_beq_eq_true hh).symm hio
    rw [if_neg hio]
    by_cases hi : i < n
    · simp [hi, hb]
    · rw [List.getElem?_eq_none (by simpa using hi), List.getElem?_eq_none (by simpa using hi)]
theorem UL : ∀ {S : List Sg} {o : Nat} {w : Value}, (DL S).set o w = DL (Wu S o w)
  | [], _, _ => rfl
  | .c u :: r, 0, w => rfl
  | .c u :: r, o + 1, w => by simp only [DL, Wu, List.set_cons_succ, UL (S := r)]
  | .a n f :: r, o, w => by
    simp only [Wu]
    cases hb : Nat.blt o n with
    | true =>
      have hlt : o < n := by simpa using hb
      rw [cond_true, DL, List.set_append_left _ _ (by simpa using hlt), Xh hlt]; rfl
    | false =>
      have hlt : ¬ o < n := by intro hh; have : Nat.blt o n = true := by simpa using hh
                               rw [hb] at this; cases this
      rw [cond_false, DL, List.set_append_right _ _ (by simpa using hlt)]
      simp only [List.length_map, List.length_range, DL]
      rw [UL (S := r)]
def UZ : List Sg → Nat → Option (Nat × (Nat → Value))
  | [], _ => none
  | .c _ :: r, o => match o with
    | 0 => none
    | o + 1 => UZ r o
  | .a n f :: r, o => bif Nat.beq o 0 then some (n, f) else bif Nat.blt o n then none else UZ r (o - n)
def U2 : List Sg → Nat → (Nat → Value) → List Sg
  | [], _, _ => []
  | .c v :: r, o, g => match o with
    | 0 => .c v :: r
    | o + 1 => .c v :: U2 r o g
  | .a n f :: r, o, g => bif Nat.beq o 0 then .a n g :: r else bif Nat.blt o n then .a n f :: r else .a n f :: U2 r (o - n) g
theorem Uk : ∀ {S : List Sg} {o n i : Nat} {f : Nat → Value}, UZ S o = some (n, f) → i < n → (DL S)[o + i]? = some (f i)
  | [], _, _, _, _, h, _ => nomatch h
  | .c u :: r, 0, _, _, _, h, _ => nomatch h
  | .c u :: r, o + 1, n, i, f, h, hi => by
    rw [show o + 1 + i = (o + i) + 1 by omega]
    simpa [DL] using Uk (S := r) (o := o) h hi
  | .a m g :: r, o, n, i, f, h, hi => by
    simp only [UZ] at h
    cases hb : Nat.beq o 0 with
    | true =>
      rw [hb, cond_true] at h
      injection h with h; injection h with h1 h2
      subst h1; subst h2
      have : o = 0 := Nat.eq_of_beq_eq_true hb
      subst this
      rw [DL, List.getElem?_append_left (by simpa using hi)]
      simp [hi]
    | false =>
      rw [hb, cond_false] at h
      cases hc : Nat.blt o m with
      | true => rw [hc, cond_true] at h; cases h
      | false =>
        rw [hc, cond_false] at h
        have hlt : ¬ o < m := by intro hh; have : Nat.blt o m = true := by simpa using hh
                                 rw [hc] at this; cases this
        rw [DL, List.getElem?_append_right (by simp; omega)]
        simp only [List.length_map, List.length_range]
        rw [show o + i - m = (o - m) + i by omega]
        exact Uk h hi
theorem Vd : ∀ {S : List Sg} {o n i : Nat} {f : Nat → Value} {w : Value}, UZ S o = some (n, f) → i < n → (DL S).set (o + i) w = DL (U2 S o (fun j => bif Nat.beq j i then w else f j))
  | [], _, _, _, _, _, h, _ => nomatch h
  | .c u :: r, 0, _, _, _, _, h, _ => nomatch h
  | .c u :: r, o + 1, n, i, f, w, h, hi => by
    rw [show o + 1 + i = (o + i) + 1 by omega]
    simp only [DL, U2, List.set_cons_succ, Vd (S := r) (o := o) h hi]
  | .a m g :: r, o, n, i, f, w, h, hi => by
    simp only [UZ] at h
    simp only [U2]
    cases hb : Nat.beq o 0 with
    | true =>
      rw [hb, cond_true] at h
      injection h with h; injection h with h1 h2
      subst h1; subst h2
      have : o = 0 := Nat.eq_of_beq_eq_true hb
      subst this
      rw [cond_true, DL, List.set_append_left _ _ (by simpa using hi), Nat.zero_add, Xh hi]; rfl
    | false =>
      rw [hb, cond_false] at h
      cases hc : Nat.blt o m with
      | true => rw [hc, cond_true] at h; cases h
      | false =>
        rw [hc, cond_false] at h
        have hlt : ¬ o < m := by intro hh; have : Nat.blt o m = true := by simpa using hh
                                 rw [hc] at this; cases this
        rw [cond_false, cond_false, DL, List.set_append_right _ _ (by simp; omega)]
        simp only [List.length_map, List.length_range, DL]
        rw [show o + i - m = (o - m) + i by omega, Vd h hi]
def MF {α : Type} (x : Nat → α) (i : Nat) (z : α) : Nat → α := fun j => bif Nat.beq j i then z else x j
theorem XT {α : Type} (V : α → Value) (x : Nat → α) (i : Nat) (z : α) : (fun j => bif Nat.beq j i then V z else V (x j)) = fun j => V (MF x i z j) := by
  funext j; simp only [MF]; cases Nat.beq j i <;> rfl
def MZ (i : Int) (n : Nat) : Bool := decide (0 ≤ i) && decide (i < (n : Int))
theorem O6 {i : Int} {n : Nat} (h : (!MZ i n) = false) : 0 ≤ i ∧ i < (n : Int) ∧ i.toNat < n := by
  simp [MZ] at h; omega
section
variable {α : Type} {C : NR} {F : World → Prop} {e : JU} {hp h : HL} {L : List HP} {ty : TypeId} {ps : String} {es : Array Edge} {dst : Option Nat} {gd : Option (Nat × Bool)} {G : JU → HL → List HP → Prop} {x y : Operand} {t : Nat}
theorem Px {b off n el : Nat} {i : Int} {ki : IntKind} (hx : ev e x = .pointer (some ⟨b, off, none⟩)) (hy : ev e y = .int ki i) (hz : (!MZ i n) = false)
    (ht : ∀ w, (underlying t).run C.P w = .ok (.array n el) w) (hs : ∀ w, (Go.sizeOf el).run C.P w = .ok 1 w) : NG C F ⟨dst, .indexAddr t x y, ty, ps, es, gd⟩ e (.pointer (some ⟨b, off + i.toNat, none⟩)) := by
  obtain ⟨h0, h1, _⟩ := O6 hz
  refine op (fun w => ?_)
  have : (⟨b, off, none⟩ : Addr).add i.toNat = ⟨b, off + i.toNat, none⟩ := by
    unfold Addr.add; split
    · rename_i h; simp [h]
    · rfl
  simp [execOp, hx, hy, Instr.indexAt, Instr.sureAddr, asIntOf, ht, hs, h0, h1, this]
theorem Ra {b off n : Nat} {i : Int} {S : List Sg} {f : Nat → Value} {tb : TypeId} (ha : ∀ w, (isAgg t).run C.P w = .ok false w) (hx : ev e x = .pointer (some ⟨b, off + i.toNat, none⟩)) (hk : Kn F b (.cells (DL S).toArray tb (0, 0)))
    (hS : UZ S off = some (n, f)) (hz : (!MZ i n) = false) : NG C F ⟨dst, .load t x, ty, ps, es, gd⟩ e (f i.toNat) := ld ha hx hk (Uk hS (O6 hz).2.2)
theorem Ja {b off : Nat} {S : List Sg} {v : Value} {tb : TypeId} (ha : ∀ w, (isAgg t).run C.P w = .ok false w) (hx : ev e x = .pointer (some ⟨b, off, none⟩)) (hk : Kn F b (.cells (DL S).toArray tb (0, 0)))
    (hS : UF S off = some v) : NG C F ⟨dst, .load t x, ty, ps, es, gd⟩ e v := ld ha hx hk (Um hS)
theorem Wx {τ : Type} {V : τ → Value} {X : Nat → τ} {b off n j : Nat} {i : Int} {S : List Sg} {tb : TypeId} {z : τ} (hs : ∀ w, (Go.sizeOf t).run C.P w = .ok 1 w) (hx : ev e x = .pointer (some ⟨b, off + i.toNat, none⟩)) (hy : ev e y = V z)
    (h1 : (V z).cells = #[V z]) (h2 : (V z).oneCell' = true) (hL : L[j]? = some (blk b tb (DL S))) (hS : UZ S off = some (n, fun q => V (X q))) (hz : (!MZ i n) = false)
    (k : G e hp (L.set j (blk b tb (DL (U2 S off (fun q => V (MF X i.toNat z q))))))) : EE C ⟨none, .store t x y, ty, ps, es, gd⟩ e hp L G := by
  refine st hs hx hy h1 h2 hL (Uk hS (O6 hz).2.2) ?_
  rw [Vd hS (O6 hz).2.2, XT]
  exact k
theorem TP {b off j : Nat} {S : List Sg} {tb : TypeId} {v v0 : Value} (hs : ∀ w, (Go.sizeOf t).run C.P w = .ok 1 w) (hx : ev e x = .pointer (some ⟨b, off, none⟩)) (hy : ev e y = v)
    (h1 : v.cells = #[v]) (h2 : v.oneCell' = true) (hL : L[j]? = some (blk b tb (DL S))) (hS : UF S off = some v0) (k : G e hp (L.set j (blk b tb (DL (Wu S off v))))) : EE C ⟨none, .store t x y, ty, ps, es, gd⟩ e hp L G := by
  refine st hs hx hy h1 h2 hL (Um hS) ?_
  rw [UL]
  exact k
/-! ### texts of bytes -/
theorem Xc (k : IntKind) : ∀ l : List Int, l.flatMap (vi k) = l.map (Value.int k)
  | [] => rfl
  | n :: l => by rw [List.flatMap_cons, Xc k l]; rfl
end
end Kot
