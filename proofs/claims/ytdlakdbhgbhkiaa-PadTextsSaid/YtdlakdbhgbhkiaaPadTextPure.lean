/- Plain law of the pad's texts: each byte has the document's letters, of which it is read again; other texts are none. -/
import Derived.Test.YtdlakdbhgbhkiaaF
namespace Go.Proofs.Ytdlakdbhgbhkiaa
open Kot Go
set_option linter.unusedVariables false
set_option linter.unusedSimpArgs false
set_option maxRecDepth 100000

theorem byte_of {a : Int} (h : (Lit.int .u8 a).wf = true) : ∃ n : Fin 256, a = (n.val : Int) := by
  have h1 : 0 ≤ a ∧ a ≤ 255 := by simpa [Lit.wf, IntKind.min, IntKind.max, IntKind.signed, IntKind.bits] using h
  exact ⟨⟨a.toNat, by omega⟩, by simp; omega⟩
theorem wrapI {i : Int} (h1 : -9223372036854775808 ≤ i) (h2 : i ≤ 9223372036854775807) : IntKind.wrap .i64 i = i := by
  have e1 : (2 : Int) ^ 64 = 18446744073709551616 := rfl
  have e2 : (2 : Int) ^ 63 = 9223372036854775808 := rfl
  simp only [IntKind.wrap, IntKind.bits, IntKind.signed, Bool.true_and]
  by_cases h : i < 0
  · have hm : i % (2 ^ 64) = i + 18446744073709551616 := by omega
    simp only [hm]
    rw [if_pos (by simp; omega)]; omega
  · have hm : i % (2 ^ 64) = i := by omega
    simp only [hm]
    rw [if_neg (by simp; omega)]
theorem wrapA (i : Nat) (h : i ≤ 100000) : IntKind.wrap .i64 ((i : Int) + 1) = ((i + 1 : Nat) : Int) := by rw [wrapI (by omega) (by omega)]; rfl
theorem lget_ok {τ : Type} {xs : List τ} {i : Nat} {z : τ} (h : xs[i]? = some z) : lget xs (i : Int) = some z := by simp [lget, h]
theorem awake_true : kotatsulaw16_awake.f = some true := by decide +kernel
def tx (b : Int) : List UInt8 := (kotatsuref16_Text.f b).getD []
def T8 : List UInt8 := [65, 66, 69, 84, 85, 68, 76, 82]
def txs (b : Nat) : List UInt8 := bif b == 0 then [45] else ((List.range 8).filter fun i => (b / 2 ^ i) % 2 == 1).map fun i => T8.getD i 0
theorem t1 : ∀ b : Fin 256, kotatsuref16_Text.f (b.val : Int) = some (txs b.val) := by decide +kernel
theorem t2 : ∀ b : Fin 256, pad_Text.f (b.val : Int) = some (txs b.val) := by decide +kernel
theorem t3 : ∀ b : Fin 256, pad_Parse.f (txs b.val) = some ((b.val : Int), true) := by decide +kernel
theorem text_ok : ∀ b : Fin 256, kotatsuref16_Text.f (b.val : Int) = some (tx b.val) ∧ pad_Text.f (b.val : Int) = some (tx b.val) ∧ pad_Parse.f (tx b.val) = some ((b.val : Int), true) := fun b => by
  have : tx b.val = txs b.val := by unfold tx; rw [t1]; rfl
  rw [this]; exact ⟨t1 b, t2 b, t3 b⟩
theorem sign_ok : ∀ z : Fin 256, ∃ k : Fin 9, strings_IndexByte.f ([65, 66, 69, 84, 85, 68, 76, 82] : List UInt8) (z.val : Int) = some ((k.val : Int) - 1) := by decide +kernel
theorem bit_all : ∀ (b : Fin 256) (k : Fin 8), (decide (0 ≤ bor .u8 (b.val : Int) (shl .u8 1 (k.val : Int))) && decide (bor .u8 (b.val : Int) (shl .u8 1 (k.val : Int)) ≤ 255)) = true := by decide +kernel
theorem bit_ok (b : Fin 256) (k : Fin 8) : ∃ c : Fin 256, bor .u8 (b.val : Int) (shl .u8 1 (k.val : Int)) = (c.val : Int) := by
  have := bit_all b k
  simp only [Bool.and_eq_true, decide_eq_true_eq] at this
  exact ⟨⟨(bor .u8 (b.val : Int) (shl .u8 1 (k.val : Int))).toNat, by omega⟩, by simp; omega⟩
/-- what a text is read as -/
theorem parse_loop (s : List UInt8) (hl : s.length ≤ 1000) : ∀ (d i f : Nat) (b : Fin 256), i + d = s.length → d < f → ∃ y : Fin 256, pad_Parse.l1 s f ((b.val : Int), (i : Int)) = (bif !(tx y.val == s) then some (0, false) else some ((y.val : Int), true))
  | d, i, 0, _, _, hf => absurd hf (by omega)
  | 0, i, f + 1, b, h, hf => by
    have e : decide ((i : Int) < (s.length : Int)) = false := by simp; omega
    refine ⟨b, ?_⟩
    simp only [pad_Parse.l1, e, cond_false, (text_ok b).2.1, Option.bind_some]
  | d + 1, i, f + 1, b, h, hf => by
    have e : decide ((i : Int) < (s.length : Int)) = true := by simp; omega
    obtain ⟨z, hz⟩ : ∃ z, s[i]? = some z := ⟨s[i]'(by omega), by simp⟩
    obtain ⟨k, hk⟩ := sign_ok ⟨z.toNat, z.toNat_lt⟩
    simp only at hk
    simp only [pad_Parse.l1, e, cond_true, lget_ok hz, Option.bind_some, hk]
    rw [wrapA i (by omega)]
    by_cases h0 : k.val = 0
    · have e1 : decide ((0 : Int) ≤ (k.val : Int) - 1) = false := by simp; omega
      simp only [e1, cond_false]
      exact parse_loop s hl d (i + 1) f b (by omega) (by omega)
    · have e1 : decide ((0 : Int) ≤ (k.val : Int) - 1) = true := by simp; omega
      have e2 : decide ((k.val : Int) - 1 < 0) = false := by simp; omega
      have hk' := k.isLt
      obtain ⟨c, hc⟩ := bit_ok b ⟨k.val - 1, by omega⟩
      have hkk : ((k.val : Int) - 1) = (((⟨k.val - 1, by omega⟩ : Fin 8).val : Nat) : Int) := by
        show ((k.val : Int) - 1) = ((k.val - 1 : Nat) : Int)
        omega
      simp only [e1, cond_true, e2, cond_false]
      rw [hkk, hc]
      exact parse_loop s hl d (i + 1) f c (by omega) (by omega)
theorem parse_all (s : List UInt8) (hl : s.length ≤ 1000) : ∃ y : Fin 256, pad_Parse.f s = (bif !(tx y.val == s) then some (0, false) else some ((y.val : Int), true)) :=
  parse_loop s hl s.length 0 _ 0 (by omega) (by omega)
theorem texts_loop (b : Fin 256) (s : List UInt8) (y : Fin 256) (r : Int × Bool) (hr : r = bif !(tx y.val == s) then (0, false) else ((y.val : Int), true)) (hp : pad_Parse.f s = some r) : ∀ (d i f : Nat), i + d = 256 → d < f →
    kotatsulaw16_PadTexts.l2 (b.val : Int) s ((b.val : Int), true) r f (i : Int) = some true
  | d, i, 0, _, hf => absurd hf (by omega)
  | 0, i, f + 1, h, hf => by
    have e : decide ((i : Int) < 256) = false := by simp; omega
    have hw : IntKind.wrap .i64 (b.val : Int) = (b.val : Int) := wrapI (by omega) (by omega)
    simp only [kotatsulaw16_PadTexts.l2, e, cond_false, (text_ok b).2.1, hw, (text_ok b).1, Option.bind_some, beq_self_eq_true, cond_true]
    cases hq : (tx y.val == s) with
    | true =>
      rw [hq] at hr
      simp only [Bool.not_true, cond_false] at hr
      subst hr
      simp only [cond_true, (text_ok y).2.1, Option.bind_some, hq]
    | false =>
      rw [hq] at hr
      simp only [Bool.not_false, cond_true] at hr
      subst hr
      simp only [cond_false, Bool.not_false, cond_true]
      rfl
  | d + 1, i, f + 1, h, hf => by
    have e : decide ((i : Int) < 256) = true := by simp; omega
    have ht := text_ok ⟨i, by omega⟩
    simp only at ht
    simp only [kotatsulaw16_PadTexts.l2, e, cond_true, ht.1, Option.bind_some]
    rw [wrapA i (by omega)]
    have ih := texts_loop b s y r hr hp d (i + 1) f (by omega) (by omega)
    cases hq : (tx (i : Int) == s) with
    | false => simp only [cond_false]; exact ih
    | true =>
      have hs := eq_of_beq hq
      have h3 := ht.2.2
      rw [hs, hp] at h3
      have hr2 := Option.some.inj h3
      have hwi : IntKind.wrap .i64 (i : Int) = (i : Int) := wrapI (by omega) (by omega)
      have hne : ((i : Int) != (i : Int)) = false := by simp
      rw [hr2] at ih ⊢
      simp only [cond_true, Bool.not_true, cond_false, hwi, hne]
      exact ih
theorem kotatsulaw16_PadTexts.pure : ∀ (a0 : Int), (Lit.int .u8 a0).wf = true → ∀ (a1 : List UInt8), a1.length ≤ maxLen → kotatsulaw16_PadTexts.f a0 a1 = some true := by
  intro a0 h0 a1 h1
  obtain ⟨b, rfl⟩ := byte_of h0
  have hw : IntKind.wrap .i64 (b.val : Int) = (b.val : Int) := wrapI (by omega) (by omega)
  have key : ∀ s : List UInt8, s.length ≤ 1000 → kotatsulaw16_PadTexts.j1 (b.val : Int) s = some true := fun s hs => by
    obtain ⟨y, hy⟩ := parse_all s hs
    have hp : pad_Parse.f s = some (bif !(tx y.val == s) then (0, false) else ((y.val : Int), true)) := by
      rw [hy]; cases !(tx y.val == s) <;> rfl
    simp only [kotatsulaw16_PadTexts.j1, hw, (text_ok b).1, (text_ok b).2.2, hp, Option.bind_some]
    exact texts_loop b s y _ rfl hp 256 0 _ (by omega) (by decide)
  simp only [kotatsulaw16_PadTexts.f, awake_true, Option.bind_some, Bool.not_true, cond_false]
  cases hq : decide (12 < (a1.length : Int)) with
  | false =>
    simp only [cond_false]
    exact key a1 (by have := of_decide_eq_false hq; omega)
  | true =>
    have h12 := of_decide_eq_true hq
    have hs : lsub a1 0 12 = some (a1.take 12) := by
      unfold lsub
      rw [if_pos (by omega)]; rfl
    simp only [cond_true, hs, Option.bind_some]
    exact key _ (by simp; omega)
end Go.Proofs.Ytdlakdbhgbhkiaa
