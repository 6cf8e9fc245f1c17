/- Whole numbers within Go's types, and trees that come to an end; in plain words. -/
import Derived.Test.YtkjkgdhgcdgbhaaGreatDoorBase27
namespace Go.Proofs.YtkjkgdhgcdgbhaaGreatDoor
open Kot Go
set_option maxRecDepth 100000
set_option linter.unusedVariables false
structure In (k : IntKind) (x : Int) : Prop where
  lo : k.min ≤ x
  hi : x ≤ k.max
structure Wy (k : IntKind) (f : Nat → Int) : Prop where
  e : ∀ q, In k (f q)
structure Bt (a b x : Int) : Prop where
  lo : a ≤ x
  hi : x ≤ b
structure BtA (a b : Int) (f : Nat → Int) : Prop where
  e : ∀ q, Bt a b (f q)
def Qd (k : IntKind) (l : List Int) : Prop := ∀ z ∈ l, In k z
def XI {α : Type} (P : α → Prop) (l : List α) : Prop := ∀ z ∈ l, P z
section
variable {k : IntKind} {a b x y z lo hi : Int} {i : Nat} {f : Nat → Int}
theorem Cq (h : In .u8 x) : 0 ≤ x ∧ x ≤ 255 := ⟨h.1, h.2⟩
theorem DT (h : In .u16 x) : 0 ≤ x ∧ x ≤ 65535 := ⟨h.1, h.2⟩
theorem Ue (h : 0 ≤ x ∧ x ≤ 255) : In .u8 x := ⟨h.1, h.2⟩
theorem Vx (h : 0 ≤ x ∧ x ≤ 65535) : In .u16 x := ⟨h.1, h.2⟩
theorem EY (h : lo ≤ x ∧ x ≤ hi) : Bt lo hi x := ⟨h.1, h.2⟩
theorem Cu (h : Bt lo hi x) : lo ≤ x ∧ x ≤ hi := ⟨h.1, h.2⟩
theorem B7 (h1 : decide (k.min ≤ x) = true) (h2 : decide (x ≤ k.max) = true) : In k x := ⟨of_decide_eq_true h1, of_decide_eq_true h2⟩
theorem O7 (h : x = y) (h2 : In k y) : In k x := h ▸ h2
theorem Za (h : Bt lo hi x) (h1 : decide (k.min ≤ lo) = true) (h2 : decide (hi ≤ k.max) = true) : In k x := ⟨Int.le_trans (of_decide_eq_true h1) h.1, Int.le_trans h.2 (of_decide_eq_true h2)⟩
theorem Jc (h : Wy k f) (hz : In k z) : Wy k (MF f i z) := ⟨fun q => by
  unfold MF
  cases Nat.beq q i
  · exact h.e q
  · exact hz⟩
theorem Zj (h : BtA lo hi f) (hz : Bt lo hi z) : BtA lo hi (MF f i z) := ⟨fun q => by
  unfold MF
  cases Nat.beq q i
  · exact h.e q
  · exact hz⟩
theorem Sv (x : Int) : IntKind.wrap .u8 x = x % 256 := by simp [IntKind.wrap, IntKind.bits, IntKind.signed]
theorem EW (x : Int) : IntKind.wrap .u16 x = x % 65536 := by simp [IntKind.wrap, IntKind.bits, IntKind.signed]
theorem CS (x : Int) : IntKind.wrap .i64 x = (x + 9223372036854775808) % 18446744073709551616 - 9223372036854775808 := by rw [IntKind.wrap_i64]
theorem CX (x : Int) : In .u8 (IntKind.wrap .u8 x) := Ue (by rw [Sv]; omega)
theorem CZ (x : Int) : In .u16 (IntKind.wrap .u16 x) := Vx (by rw [EW]; omega)
theorem Z8 (a b : Int) : a < -64 ∨ 63 < a ∨ b < 0 ∨ 63 < b ∨ (-4096 ≤ a * b ∧ a * b ≤ 4096) := by
  by_cases h0 : a < -64
  · exact Or.inl h0
  by_cases h1 : 63 < a
  · exact Or.inr (Or.inl h1)
  by_cases h2 : b < 0
  · exact Or.inr (Or.inr (Or.inl h2))
  by_cases h3 : 63 < b
  · exact Or.inr (Or.inr (Or.inr (Or.inl h3)))
  have h4 := Int.mul_le_mul_of_nonneg_right (by omega : a ≤ 63) (by omega : 0 ≤ b)
  have h5 := Int.mul_le_mul_of_nonneg_right (by omega : -64 ≤ a) (by omega : 0 ≤ b)
  omega
theorem pw (n : Nat) : (2 : Int) ^ n = ((2 ^ n : Nat) : Int) := by push_cast; rfl
theorem SA (k : IntKind) (a b : Int) : a < 0 ∨ (0 ≤ shr k a b ∧ shr k a b ≤ a) := by
  by_cases h : a < 0
  · exact Or.inl h
  refine Or.inr ?_
  unfold shr
  obtain ⟨n, rfl⟩ := Int.eq_ofNat_of_zero_le (Int.not_lt.1 h)
  rw [pw, Int.fdiv_eq_ediv_of_nonneg _ (Int.natCast_nonneg _)]
  exact ⟨Int.ediv_nonneg (Int.natCast_nonneg _) (Int.natCast_nonneg _), Int.ediv_le_self _ (Int.natCast_nonneg _)⟩
theorem SB (k : IntKind) (a n : Int) (m : Nat) (h : 2 ^ (min n.toNat k.bits) = m) : shr k a n = a / m := by
  unfold shr
  rw [pw, h, Int.fdiv_eq_ediv_of_nonneg _ (Int.natCast_nonneg _)]
theorem Vb (h : In .u8 a) : In .u8 (shr .u8 a b) := Ue (by have := Cq h; have := SA .u8 a b; omega)
theorem VN (h : In .u16 a) : In .u16 (shr .u16 a b) := Vx (by have := DT h; have := SA .u16 a b; omega)
theorem Y3 (h : 0 ≤ a) : 0 ≤ Int.tmod a b ∧ Int.tmod a b ≤ a := by
  obtain ⟨n, rfl⟩ := Int.eq_ofNat_of_zero_le h
  refine ⟨Int.tmod_nonneg _ h, ?_⟩
  rcases Int.natAbs_eq b with hb | hb <;> rw [hb]
  · rw [Int.tmod_eq_emod_of_nonneg h, ← Int.natCast_emod]; exact Int.ofNat_le.2 (Nat.mod_le _ _)
  · rw [Int.tmod_neg, Int.tmod_eq_emod_of_nonneg h, ← Int.natCast_emod]; exact Int.ofNat_le.2 (Nat.mod_le _ _)
theorem Xk (h : In .u8 a) : In .u8 (Int.tmod a b) := Ue (by have := Cq h; have := Y3 (b := b) this.1; omega)
theorem Lm (a n : Int) (h : 0 < n) : (0 ≤ a ∧ Int.tmod a n = a % n) ∨ (a < 0 ∧ -n < Int.tmod a n ∧ Int.tmod a n ≤ 0) := by
  by_cases h0 : 0 ≤ a
  · exact Or.inl ⟨h0, Int.tmod_eq_emod_of_nonneg h0⟩
  · refine Or.inr ⟨by omega, ?_⟩
    have e : Int.tmod a n = -(Int.tmod (-a) n) := by rw [Int.neg_tmod, Int.neg_neg]
    rw [e, Int.tmod_eq_emod_of_nonneg (by omega : 0 ≤ -a)]
    have := Int.emod_nonneg (-a) (by omega : n ≠ 0)
    have := Int.emod_lt_of_pos (-a) h
    omega
theorem ZF (w : Nat) (n : Int) (h : 0 ≤ n) : ((BitVec.ofInt w n).toNat : Int) ≤ n := by
  rw [BitVec.toNat_ofInt, Int.toNat_of_nonneg (Int.emod_nonneg _ (by have := Nat.two_pow_pos w; omega))]
  obtain ⟨m, rfl⟩ := Int.eq_ofNat_of_zero_le h
  rw [← Int.natCast_emod]
  exact Int.ofNat_le.2 (Nat.mod_le _ _)
theorem VA {w : Nat} (x y : BitVec w) : (x &&& y).toNat ≤ y.toNat := by rw [BitVec.toNat_and]; exact Nat.and_le_right
theorem BP (a n : Int) (h : 0 ≤ n) : 0 ≤ Bv .u8 a n ∧ Bv .u8 a n ≤ n := by
  have h1 := ZF 8 n h
  have h2 := VA (BitVec.ofInt 8 a) (BitVec.ofInt 8 n)
  have h3 := (BitVec.ofInt 8 a &&& BitVec.ofInt 8 n).isLt
  rw [show Bv .u8 a n = (((BitVec.ofInt 8 a &&& BitVec.ofInt 8 n).toNat : Nat) : Int) % 256 from Sv _]
  omega
theorem E6 (a n : Int) (h : 0 ≤ n) : 0 ≤ Bv .u16 a n ∧ Bv .u16 a n ≤ n := by
  have h1 := ZF 16 n h
  have h2 := VA (BitVec.ofInt 16 a) (BitVec.ofInt 16 n)
  have h3 := (BitVec.ofInt 16 a &&& BitVec.ofInt 16 n).isLt
  rw [show Bv .u16 a n = (((BitVec.ofInt 16 a &&& BitVec.ofInt 16 n).toNat : Nat) : Int) % 65536 from EW _]
  omega
theorem NI (a n : Int) (h : 0 ≤ n ∧ n < 4294967296) : 0 ≤ Bv .i64 a n ∧ Bv .i64 a n ≤ n := by
  have h1 := ZF 64 n h.1
  have h2 := VA (BitVec.ofInt 64 a) (BitVec.ofInt 64 n)
  rw [show Bv .i64 a n = ((((BitVec.ofInt 64 a &&& BitVec.ofInt 64 n).toNat : Nat) : Int) + 9223372036854775808) % 18446744073709551616 - 9223372036854775808 from CS _]
  omega
theorem U6 (a n : Int) (h : 0 ≤ n ∧ n ≤ 255) : 0 ≤ J3 .u8 a n ∧ J3 .u8 a n ≤ 255 - n := by
  have h2 := VA (BitVec.ofInt 8 a) (~~~ BitVec.ofInt 8 n)
  have h4 : (~~~ BitVec.ofInt 8 n).toNat = 2 ^ 8 - 1 - n.toNat := by
    rw [BitVec.toNat_not, BitVec.toNat_ofInt]
    have : (n % ((2 ^ 8 : Nat) : Int)) = n := Int.emod_eq_of_lt h.1 (by have := h.2; omega)
    rw [this]
  rw [show J3 .u8 a n = (((BitVec.ofInt 8 a &&& ~~~ BitVec.ofInt 8 n).toNat : Nat) : Int) % 256 from Sv _]
  omega
theorem TX (a n : Int) : a < 0 ∨ 255 < a ∨ J3 .u8 a n ≤ a := by
  by_cases h0 : a < 0
  · exact Or.inl h0
  by_cases h1 : 255 < a
  · exact Or.inr (Or.inl h1)
  refine Or.inr (Or.inr ?_)
  have h2 : (BitVec.ofInt 8 a &&& ~~~ BitVec.ofInt 8 n).toNat ≤ (BitVec.ofInt 8 a).toNat := by rw [BitVec.toNat_and]; exact Nat.and_le_left
  have h3 := ZF 8 a (by omega)
  have h4 := (BitVec.ofInt 8 a &&& ~~~ BitVec.ofInt 8 n).isLt
  rw [show J3 .u8 a n = (((BitVec.ofInt 8 a &&& ~~~ BitVec.ofInt 8 n).toNat : Nat) : Int) % 256 from Sv _]
  omega
theorem WC (a b : Int) (m : Nat) : a < 0 ∨ b < 0 ∨ ((2 ^ m : Nat) : Int) ≤ a ∨ ((2 ^ m : Nat) : Int) ≤ b ∨ M5 .u16 a b < ((2 ^ m : Nat) : Int) := by
  by_cases h0 : a < 0
  · exact Or.inl h0
  by_cases h1 : b < 0
  · exact Or.inr (Or.inl h1)
  by_cases h2 : ((2 ^ m : Nat) : Int) ≤ a
  · exact Or.inr (Or.inr (Or.inl h2))
  by_cases h3 : ((2 ^ m : Nat) : Int) ≤ b
  · exact Or.inr (Or.inr (Or.inr (Or.inl h3)))
  refine Or.inr (Or.inr (Or.inr (Or.inr ?_)))
  have ha := ZF 16 a (by omega)
  have hb := ZF 16 b (by omega)
  have h4 : (BitVec.ofInt 16 a ||| BitVec.ofInt 16 b).toNat < 2 ^ m := by rw [BitVec.toNat_or]; exact Nat.or_lt_two_pow (by omega) (by omega)
  have h5 := (BitVec.ofInt 16 a ||| BitVec.ofInt 16 b).isLt
  rw [show M5 .u16 a b = (((BitVec.ofInt 16 a ||| BitVec.ofInt 16 b).toNat : Nat) : Int) % 65536 from EW _]
  omega
theorem VM (k : IntKind) (a n : Int) (h : 0 ≤ a) : quo k a n = IntKind.wrap k (a / n) := by unfold quo; rw [Int.tdiv_eq_ediv_of_nonneg h]
theorem V7 (a n : Int) (h : 0 < n) : a < 0 ∨ 255 < a ∨ quo .u8 a n = a / n := by
  by_cases h0 : a < 0
  · exact Or.inl h0
  by_cases h1 : 255 < a
  · exact Or.inr (Or.inl h1)
  refine Or.inr (Or.inr ?_)
  have := Int.ediv_nonneg (by omega : 0 ≤ a) (by omega : 0 ≤ n)
  have := Int.ediv_le_self (a := a) n (by omega)
  rw [VM _ _ _ (by omega), Sv, Int.emod_eq_of_lt (by omega) (by omega)]
theorem WS (a n : Int) (h : 0 < n) : a < 0 ∨ 65535 < a ∨ quo .u16 a n = a / n := by
  by_cases h0 : a < 0
  · exact Or.inl h0
  by_cases h1 : 65535 < a
  · exact Or.inr (Or.inl h1)
  refine Or.inr (Or.inr ?_)
  have := Int.ediv_nonneg (by omega : 0 ≤ a) (by omega : 0 ≤ n)
  have := Int.ediv_le_self (a := a) n (by omega)
  rw [VM _ _ _ (by omega), EW, Int.emod_eq_of_lt (by omega) (by omega)]
theorem WR (a n : Int) (h : 0 < n) : a < 0 ∨ 9223372036854775807 < a ∨ quo .i64 a n = a / n := by
  by_cases h0 : a < 0
  · exact Or.inl h0
  by_cases h1 : 9223372036854775807 < a
  · exact Or.inr (Or.inl h1)
  refine Or.inr (Or.inr ?_)
  have := Int.ediv_nonneg (by omega : 0 ≤ a) (by omega : 0 ≤ n)
  have := Int.ediv_le_self (a := a) n (by omega)
  rw [VM _ _ _ (by omega), CS]
  omega
theorem F3 (h : (x != y) = true) : x ≠ y := fun e => by rw [e, bne_self_eq_false] at h; cases h
theorem Ei (h : (x != y) = false) : x = y := by
  by_cases e : x = y
  · exact e
  · rw [bne_iff_ne.2 e] at h; cases h
theorem XP {xs : List Int} (h : xs.all (fun z => decide (k.min ≤ z) && decide (z ≤ k.max)) = true) : Qd k xs := fun z hz => by
  have := List.all_eq_true.1 h z hz
  rw [Bool.and_eq_true, decide_eq_true_eq, decide_eq_true_eq] at this
  exact ⟨this.1, this.2⟩
theorem VR : Qd k [] := fun _ h => nomatch h
theorem RS {xs : List Int} (h : Qd k xs) (hz : In k z) : Qd k (xs.set i z) := fun y hy => by
  rcases List.mem_or_eq_of_mem_set hy with h1 | h1
  · exact h y h1
  · exact h1 ▸ hz
end
theorem SI {α : Type} {P : α → Prop} : XI P [] := fun _ h => nomatch h
theorem XR {α : Type} {P : α → Prop} {xs : List α} {z : α} (h : XI P xs) (hz : P z) : XI P (xs ++ [z]) := fun y hy => by
  rcases List.mem_append.1 hy with h1 | h1
  · exact h y h1
  · rw [List.mem_singleton] at h1; exact h1 ▸ hz
/-! ### trees that come to an end -/
def Ak {α : Type} (P : α → Prop) (o : Option α) : Prop := ∃ r, o = some r ∧ P r
section
variable {α β : Type} {P : α → Prop} {Q : β → Prop}
theorem Ak.mk {r : α} (h : P r) : Ak P (some r) := ⟨r, rfl, h⟩
theorem Ak.bif {c : Bool} {A B : Option α} (h1 : c = true → Ak P A) (h2 : c = false → Ak P B) : Ak P (bif c then A else B) := by
  cases c
  · exact h2 rfl
  · exact h1 rfl
theorem Ak.arr {e : Int} {n : Nat} {B : Option α} (h0 : 0 ≤ e) (h1 : e < (n : Int)) (h2 : Ak P B) : Ak P (bif !MZ e n then none else B) := by
  rw [show MZ e n = true by unfold MZ; rw [decide_eq_true h0, decide_eq_true h1]; rfl]
  exact h2
theorem Ak.neg {e : Int} {B : Option α} (h0 : 0 ≤ e) (h2 : Ak P B) : Ak P (bif decide (e < 0) then none else B) := by
  rw [decide_eq_false (by omega : ¬ e < 0)]
  exact h2
theorem Ak.no {o : Option α} (h : False) : Ak P o := h.elim
theorem Ak.bind {E : Option β} {K : β → Option α} (h1 : Ak Q E) (h2 : ∀ r, Q r → Ak P (K r)) : Ak P (E.bind K) := by
  obtain ⟨r, h, hq⟩ := h1
  rw [h, Option.bind_some]
  exact h2 r hq
theorem Ak.bnd {a : β} {K : β → Option α} (h2 : ∀ x, x = a → Ak P (K x)) : Ak P (bnd a K) := h2 a rfl
theorem Ak.imp {P' : α → Prop} {o : Option α} (h : Ak P o) (hi : ∀ r, P r → P' r) : Ak P' o := by
  obtain ⟨r, e, hp⟩ := h
  exact ⟨r, e, hi r hp⟩
theorem Ak.IE {xs : List β} {i : Int} {n : Nat} (h0 : 0 ≤ i) (h1 : i < (n : Int)) (hn : Nat.beq xs.length n = true) (hq : ∀ z ∈ xs, Q z) : Ak Q (Kot.IE xs i) := by
  have hn' := Nat.eq_of_beq_eq_true hn
  unfold Kot.IE
  rw [if_pos h0, List.getElem?_eq_getElem (by omega : i.toNat < xs.length)]
  exact ⟨_, rfl, hq _ (List.getElem_mem _)⟩
theorem Ak.US {xs : List β} {i : Int} {n : Nat} (h0 : 0 ≤ i) (h1 : i < (n : Int)) (hn : Nat.beq xs.length n = true) : Ak (fun z => z ∈ xs) (Kot.IE xs i) := Ak.IE h0 h1 hn (fun _ h => h)
theorem Ak.SO {xs : List β} {i : Int} (h0 : 0 ≤ i) (h1 : i < (xs.length : Int)) : Ak (fun z => z ∈ xs) (Kot.IE xs i) := Ak.IE h0 h1 (Nat.beq_refl _) (fun _ h => h)
theorem Ak.Wj {xs : List β} {i : Int} (hq : ∀ z ∈ xs, Q z) (h0 : 0 ≤ i) (h1 : i < (xs.length : Int)) : Ak Q (Kot.IE xs i) := Ak.IE h0 h1 (Nat.beq_refl _) hq
theorem Ak.lim {n : Nat} (h : n ≤ 1073741824) : Ak (fun _ => True) (Kot.lim n) := ⟨(), by unfold Kot.lim; rw [if_pos h], trivial⟩
theorem Ak.Si {xs : List β} {lo hi : Int} (h0 : 0 ≤ lo) (h1 : lo ≤ hi) (h2 : hi ≤ (xs.length : Int)) : Ak (fun r => (r.length : Int) = hi - lo ∧ ∀ z ∈ r, z ∈ xs) (Kot.Si xs lo hi) :=
  ⟨(xs.take hi.toNat).drop lo.toNat, by unfold Kot.Si; rw [if_pos ⟨h0, h1, h2⟩], by rw [List.length_drop, List.length_take]; omega, fun z h => List.mem_of_mem_take (List.mem_of_mem_drop h)⟩
end
/-! ### what holds of a tree's answer, if it has one -/
def Dz {α : Type} (P : α → Prop) (o : Option α) : Prop := ∀ r, o = some r → P r
section
variable {α β : Type} {P : α → Prop} {Q : β → Prop}
theorem Dz.mk {r : α} (h : P r) : Dz P (some r) := fun _ e => Option.some.inj e ▸ h
theorem Dz.none : Dz P Option.none := fun _ e => nomatch e
theorem Dz.bif {c : Bool} {A B : Option α} (h1 : Dz P A) (h2 : Dz P B) : Dz P (bif c then A else B) := by
  cases c
  · exact h2
  · exact h1
theorem Dz.bind {E : Option β} {K : β → Option α} (h1 : Dz Q E) (h2 : ∀ r, Q r → Dz P (K r)) : Dz P (E.bind K) := by
  intro r e
  cases he : E with
  | none => rw [he] at e; cases e
  | some x => rw [he] at e; exact h2 x (h1 x he) r e
theorem Dz.IY {E : Option β} {K : β → Option α} (h2 : ∀ r, Dz P (K r)) : Dz P (E.bind K) := Dz.bind (Q := fun _ => True) (fun _ _ => trivial) (fun r _ => h2 r)
theorem Dz.bnd {a : β} {K : β → Option α} (h2 : ∀ x, Dz P (K x)) : Dz P (bnd a K) := h2 a
theorem Dz.imp {P' : α → Prop} {o : Option α} (h : Dz P o) (hi : ∀ r, P r → P' r) : Dz P' o := fun r e => hi r (h r e)
theorem Ak.sat {P' : α → Prop} {o : Option α} (h : Ak P o) (h2 : Dz P' o) : Ak (fun r => P r ∧ P' r) o := by
  obtain ⟨r, e, hp⟩ := h
  exact ⟨r, e, hp, h2 r e⟩
end
end Go.Proofs.YtkjkgdhgcdgbhaaGreatDoor
