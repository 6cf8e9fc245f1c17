/- The plain laws of layer 9 (code): the Lean functions of the statements answer true. -/
import Derived.Test.YtpbcbfbichfioaaGreatDoorF
namespace Go.Proofs.YtpbcbfbichfioaaGreatDoor
open Kot Go
set_option linter.unusedVariables false
set_option maxRecDepth 100000

theorem byte_of {a : Int} (h : (Lit.int .u8 a).wf = true) : ∃ n : Fin 256, a = (n.val : Int) := by
  have h1 : 0 ≤ a ∧ a ≤ 255 := by simpa [Lit.wf, IntKind.min, IntKind.max, IntKind.signed, IntKind.bits] using h
  exact ⟨⟨a.toNat, by omega⟩, by simp; omega⟩
theorem awake_true : kotatsulaw09_awake.f = some true := by decide +kernel

/-- each byte's operation and mode -/
def opL : List Nat := [64, 1, 69, 25, 0, 1, 19, 25, 66, 1, 19, 14, 0, 1, 19, 25, 52, 1, 69, 25, 0, 1, 19, 25, 45, 1, 0, 25, 0, 1, 19, 25, 61, 2, 69, 26, 12, 2, 21, 26, 68, 2, 21, 14, 12, 2, 21, 26, 53, 2, 69, 26, 0, 2, 21, 26, 46, 2, 0, 26, 0, 2, 21, 26, 63, 3, 69, 27, 0, 3, 20, 27, 65, 3, 20, 15, 60, 3, 20, 27, 54, 3, 69, 27, 0, 3, 20, 27, 47, 3, 0, 27, 0, 3, 20, 27, 62, 4, 69, 28, 0, 4, 22, 28, 67, 4, 22, 16, 60, 4, 22, 28, 55, 4, 69, 28, 0, 4, 22, 28, 48, 4, 0, 28, 0, 4, 22, 28, 0, 31, 0, 34, 33, 31, 32, 34, 44, 0, 37, 69, 33, 31, 32, 34, 56, 31, 69, 69, 33, 31, 32, 34, 38, 31, 40, 69, 69, 31, 69, 69, 11, 9, 10, 13, 11, 9, 10, 13, 36, 9, 35, 69, 11, 9, 10, 13, 57, 9, 69, 13, 11, 9, 10, 13, 49, 9, 39, 18, 11, 9, 10, 13, 8, 6, 0, 29, 8, 6, 24, 29, 42, 6, 43, 17, 8, 6, 24, 29, 58, 6, 69, 29, 0, 6, 24, 29, 50, 6, 0, 29, 0, 6, 24, 29, 7, 5, 0, 30, 7, 5, 23, 30, 41, 5, 0, 5, 7, 5, 23, 30, 59, 5, 69, 30, 0, 5, 23, 30, 51, 5, 0, 30, 0, 5, 23, 30]
def mdL : List Nat := [1, 8, 0, 8, 2, 2, 2, 2, 0, 1, 0, 1, 5, 5, 5, 5, 10, 9, 0, 9, 3, 3, 3, 3, 0, 7, 0, 7, 6, 6, 6, 6, 5, 8, 0, 8, 2, 2, 2, 2, 0, 1, 0, 1, 5, 5, 5, 5, 10, 9, 0, 9, 3, 3, 3, 3, 0, 7, 0, 7, 6, 6, 6, 6, 0, 8, 0, 8, 2, 2, 2, 2, 0, 1, 0, 1, 5, 5, 5, 5, 10, 9, 0, 9, 3, 3, 3, 3, 0, 7, 0, 7, 6, 6, 6, 6, 0, 8, 0, 8, 2, 2, 2, 2, 0, 1, 0, 1, 11, 5, 5, 5, 10, 9, 0, 9, 3, 3, 3, 3, 0, 7, 0, 7, 6, 6, 6, 6, 1, 8, 1, 8, 2, 2, 2, 2, 0, 1, 0, 0, 5, 5, 5, 5, 10, 9, 0, 0, 3, 3, 4, 4, 0, 7, 0, 0, 0, 6, 0, 0, 1, 8, 1, 8, 2, 2, 2, 2, 0, 1, 0, 0, 5, 5, 5, 5, 10, 9, 0, 9, 3, 3, 4, 4, 0, 7, 0, 7, 6, 6, 7, 7, 1, 8, 1, 8, 2, 2, 2, 2, 0, 1, 0, 1, 5, 5, 5, 5, 10, 9, 0, 9, 3, 3, 3, 3, 0, 7, 0, 7, 6, 6, 6, 6, 1, 8, 1, 8, 2, 2, 2, 2, 0, 1, 0, 1, 5, 5, 5, 5, 10, 9, 0, 9, 3, 3, 3, 3, 0, 7, 0, 7, 6, 6, 6, 6]
def ofC (i : Nat) : code_Code := ⟨((opL.getD i 0 : Nat) : Int), ((mdL.getD i 0 : Nat) : Int)⟩
def nm (i : Int) : List UInt8 := (alu_Name.f i).getD []
def ofR (i : Nat) : kotatsuref09_Code := ⟨nm (ofC i).f_Op, (ofC i).f_Mode⟩
def sameC (c : Option code_Code) (d : code_Code) : Bool := match c with
  | some c => (c.f_Op == d.f_Op) && (c.f_Mode == d.f_Mode)
  | none => false
def sameR (c : Option kotatsuref09_Code) (d : kotatsuref09_Code) : Bool := match c with
  | some c => (c.f_Name == d.f_Name) && (c.f_Mode == d.f_Mode)
  | none => false
theorem sameC_eq {c d} (h : sameC c d = true) : c = some d := by
  cases c with
  | none => cases h
  | some c =>
    cases c; cases d
    simp only [sameC, Bool.and_eq_true, beq_iff_eq] at h
    rw [h.1, h.2]
theorem sameR_eq {c d} (h : sameR c d = true) : c = some d := by
  cases c with
  | none => cases h
  | some c =>
    cases c; cases d
    simp only [sameR, Bool.and_eq_true, beq_iff_eq] at h
    rw [h.1, h.2]
theorem of_chk : ∀ b : Fin 256, (sameC (code_Of.f (b.val : Int)) (ofC b.val) && sameR (kotatsuref09_Of.f (b.val : Int)) (ofR b.val)) = true := by decide +kernel
theorem of_ok (i : Nat) (h : i < 256) : code_Of.f (i : Int) = some (ofC i) := sameC_eq (Bool.and_eq_true_iff.1 (of_chk ⟨i, h⟩)).1
theorem ofR_ok (i : Nat) (h : i < 256) : kotatsuref09_Of.f (i : Int) = some (ofR i) := sameR_eq (Bool.and_eq_true_iff.1 (of_chk ⟨i, h⟩)).2
theorem ofC_lt : ∀ i : Fin 256, opL.getD i.val 0 < 70 ∧ mdL.getD i.val 0 < 12 := by decide +kernel
theorem nm_alu' : ∀ i : Fin 256, alu_Name.f (i.val : Int) = some (nm i.val) := by decide +kernel
theorem nm_eq : ∀ i : Fin 70, ∀ o : Fin 256, (nm i.val == nm o.val) = (((i.val : Nat) : Int) == ((o.val : Nat) : Int)) := by decide +kernel
theorem nm_nop : ∀ o : Fin 256, (nm o.val == ([78, 79, 80] : List UInt8)) = (((o.val : Nat) : Int) == 0) := by decide +kernel

/-! ### searches -/
def fnd (P : Nat → Bool) : Nat → Nat → Option Nat
  | 0, _ => none
  | k + 1, i => bif P i then some i else fnd P k (i + 1)
theorem fnd_congr {P Q : Nat → Bool} : ∀ (k i : Nat), (∀ j, i ≤ j → j < i + k → P j = Q j) → fnd P k i = fnd Q k i
  | 0, _, _ => rfl
  | k + 1, i, h => by
    simp only [fnd, h i (Nat.le_refl _) (by omega)]
    rw [fnd_congr k (i + 1) fun j h1 h2 => h j (by omega) (by omega)]
theorem fnd_spec {P : Nat → Bool} : ∀ (k i b : Nat), fnd P k i = some b → i ≤ b ∧ b < i + k ∧ P b = true
  | 0, _, _, h => by cases h
  | k + 1, i, b, h => by
    simp only [fnd] at h
    cases hp : P i with
    | true => rw [hp, cond_true] at h; cases h; exact ⟨Nat.le_refl _, by omega, hp⟩
    | false =>
      rw [hp, cond_false] at h
      have := fnd_spec k (i + 1) b h
      exact ⟨by omega, by omega, this.2.2⟩
theorem wrapU8 (i : Nat) (h : i < 256) : IntKind.wrap .u8 (i : Int) = (i : Int) := by
  have : ∀ i : Fin 256, IntKind.wrap .u8 (i.val : Int) = (i.val : Int) := by decide +kernel
  exact this ⟨i, h⟩
theorem wrapI {i : Int} (h1 : -9223372036854775808 ≤ i) (h2 : i ≤ 9223372036854775807) : IntKind.wrap .i64 i = i := by
  have e1 : (2 : Int) ^ 64 = 18446744073709551616 := rfl
  have e2 : (2 : Int) ^ (64 - 1) = 9223372036854775808 := rfl
  simp only [IntKind.wrap, IntKind.bits, IntKind.signed, Bool.true_and, decide_eq_true_eq, e1, e2]
  split <;> omega
theorem wrapS (i : Nat) (h : i < 1000) : IntKind.wrap .i64 ((i : Int) + 1) = ((i + 1 : Nat) : Int) := by
  rw [wrapI (by omega) (by omega)]; rfl

def isC (c : code_Code) (i : Nat) : Bool := ((ofC i).f_Op == c.f_Op) && (((ofC i).f_Mode == c.f_Mode) && true)
def isR (r : kotatsuref09_Code) (i : Nat) : Bool := ((ofR i).f_Name == r.f_Name) && (((ofR i).f_Mode == r.f_Mode) && true)
theorem byte_loop (c : code_Code) : ∀ (k i : Nat), i + k = 256 → code_Code_Byte.l1 c (k + 2) (i : Int) = some (match fnd (isC c) k i with | some b => ((b : Int), true) | none => (0, false))
  | 0, i, h => by
    obtain rfl : i = 256 := by omega
    rfl
  | k + 1, i, h => by
    have h1 : decide ((i : Int) < 256) = true := by simp; omega
    simp only [code_Code_Byte.l1, h1, cond_true, wrapU8 i (by omega), of_ok i (by omega), Option.bind_some, fnd, wrapS i (by omega)]
    show (bif isC c i then _ else _) = _
    cases hp : isC c i with
    | true => rfl
    | false => simp only [cond_false]; exact byte_loop c k (i + 1) (by omega)
theorem rbyte_loop (r : kotatsuref09_Code) : ∀ (k i : Nat), i + k = 256 → kotatsuref09_Byte.l2 r (k + 2) (i : Int) = some (match fnd (isR r) k i with | some b => (b : Int) | none => -1)
  | 0, i, h => by
    obtain rfl : i = 256 := by omega
    rfl
  | k + 1, i, h => by
    have h1 : decide ((i : Int) < 256) = true := by simp; omega
    simp only [kotatsuref09_Byte.l2, h1, cond_true, ofR_ok i (by omega), Option.bind_some, fnd, wrapS i (by omega)]
    show (bif isR r i then _ else _) = _
    cases hp : isR r i with
    | true => rfl
    | false => simp only [cond_false]; exact rbyte_loop r k (i + 1) (by omega)

/-! ### bytes of codes -/
def mkC (o m : Fin 256) : code_Code := ⟨(o.val : Int), (m.val : Int)⟩
def mkR (o m : Fin 256) : kotatsuref09_Code := ⟨nm o.val, (m.val : Int)⟩
def fb (o m : Fin 256) : Option Nat := bif ((o.val : Int) == 0) && (((m.val : Int) == 0) && true) then some 234 else fnd (isC (mkC o m)) 256 0
theorem isR_isC (o m : Fin 256) (i : Nat) (h : i < 256) : isR (mkR o m) i = isC (mkC o m) i := by
  have h1 := nm_eq ⟨opL.getD i 0, (ofC_lt ⟨i, h⟩).1⟩ o
  simp only [isR, isC, ofR, mkR, mkC, ofC] at *
  rw [h1]
theorem byteC (o m : Fin 256) : code_Code_Byte.f (mkC o m) = some (match fb o m with | some b => ((b : Int), true) | none => (0, false)) := by
  simp only [code_Code_Byte.f, fb]
  show (bif ((o.val : Int) == 0) && (((m.val : Int) == 0) && true) then _ else _) = _
  cases ((o.val : Int) == 0) && (((m.val : Int) == 0) && true) with
  | true => rfl
  | false => exact byte_loop (mkC o m) 256 0 rfl
theorem byteR (o m : Fin 256) : kotatsuref09_Byte.f (mkR o m) = some (match fb o m with | some b => (b : Int) | none => -1) := by
  have h1 := rbyte_loop (mkR o m) 256 0 rfl
  rw [fnd_congr 256 0 (Q := isC (mkC o m)) fun j _ hj => isR_isC o m j (by omega)] at h1
  simp only [kotatsuref09_Byte.f, fb]
  show (bif nm o.val == _ then (bif (m.val : Int) == 0 then _ else _) else _) = _
  rw [nm_nop o]
  cases ((o.val : Int) == 0) with
  | true =>
    cases ((m.val : Int) == 0) with
    | true => rfl
    | false => exact h1
  | false => exact h1
theorem fb_spec (o m : Fin 256) (b : Nat) (h : fb o m = some b) : b < 256 ∧ ofC b = mkC o m := by
  have key : b < 256 ∧ isC (mkC o m) b = true := by
    unfold fb at h
    cases hc : ((o.val : Int) == 0) && (((m.val : Int) == 0) && true) with
    | true =>
      rw [hc, cond_true] at h
      cases h
      refine ⟨by decide, ?_⟩
      simp only [Bool.and_true, Bool.and_eq_true, beq_iff_eq] at hc
      simp only [isC, mkC, hc.1, hc.2]
      decide +kernel
    | false =>
      rw [hc, cond_false] at h
      have := fnd_spec _ _ _ h
      exact ⟨by omega, this.2.2⟩
  refine ⟨key.1, ?_⟩
  have k2 := key.2
  simp only [isC, Bool.and_true, Bool.and_eq_true, beq_iff_eq] at k2
  cases h1 : ofC b; cases h2 : mkC o m
  rw [h1, h2] at k2
  simp only at k2
  rw [k2.1, k2.2]
theorem code_of (c : code_Code) (h : (Lit.int .u8 c.f_Op).wf = true ∧ (Lit.int .u8 c.f_Mode).wf = true) : ∃ o m, c = mkC o m := by
  obtain ⟨o, h1⟩ := byte_of h.1
  obtain ⟨m, h2⟩ := byte_of h.2
  refine ⟨o, m, ?_⟩
  cases c
  simp only at h1 h2
  rw [h1, h2]; rfl
end Go.Proofs.YtpbcbfbichfioaaGreatDoor
