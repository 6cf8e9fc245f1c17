/- The plain laws of the pad: the Lean functions of the statements answer true. -/
import Derived.Test.YtonggmedkciiaaaF
namespace Go.Proofs.Ytonggmedkciiaaa
open Kot Go
set_option linter.unusedVariables false
set_option maxRecDepth 100000

theorem byte_of {a : Int} (h : (Lit.int .u8 a).wf = true) : ∃ n : Fin 256, a = (n.val : Int) := by
  have h1 : 0 ≤ a ∧ a ≤ 255 := by simpa [Lit.wf, IntKind.min, IntKind.max, IntKind.signed, IntKind.bits] using h
  exact ⟨⟨a.toNat, by omega⟩, by simp; omega⟩
theorem awake_true : kotatsulaw16_awake.f = some true := by decide +kernel

def nxt (r : Int) : Int := bor .u8 (shr .u8 r 1) 128
theorem nxt_byte : ∀ n : Fin 256, ∃ m : Fin 256, nxt n.val = (m.val : Int) := by decide +kernel
theorem get_run (h r : Int) : pad_Pad_Get.f ⟨h, r, false⟩ = some (band .u8 r 1, ⟨h, nxt r, false⟩) := rfl
theorem get_stop (h r : Int) : pad_Pad_Get.f ⟨h, r, true⟩ = some (band .u8 r 1, ⟨h, r, true⟩) := rfl
def got8 (r : Int) (k : Nat) : Int × Int := match k with
  | 0 => (0, r)
  | k + 1 => let s := got8 r k; (bor .u8 s.1 (shl .u8 (band .u8 s.2 1) k), nxt s.2)
theorem got8_all : ∀ n : Fin 256, got8 n.val 8 = ((n.val : Int), 255) := by decide +kernel
theorem wrap_i64 : ∀ n : Fin 16, IntKind.wrap .i64 ((n.val : Int) + 1) = ((n.val + 1 : Nat) : Int) := by decide +kernel
theorem wrap_u8 : ∀ n : Fin 255, IntKind.wrap .u8 ((n.val : Int) + 1) = ((n.val + 1 : Nat) : Int) := by decide +kernel

/-! PadRows -/
theorem rows_ones (a0 a1 a2 : Int) (n : Fin 256) (h2 : a2 = (n.val : Int)) (s : Int × Int × Bool × Int × Int) (hs : s.2.2.2.1 = a0) : ∀ (d k fuel : Nat), k + d = n.val → d < fuel →
    kotatsulaw16_PadRows.l483 a0 a1 a2 s fuel (a1, 255, false, (k : Int)) = some true := by
  intro d
  induction d with
  | zero =>
    intro k fuel hk hf
    obtain ⟨f, rfl⟩ : ∃ f, fuel = f + 1 := ⟨fuel - 1, by omega⟩
    have : decide ((k : Int) < a2) = false := by simp; omega
    simp only [kotatsulaw16_PadRows.l483, this, cond_false, hs, pad_Pad_Held.f]
    simp
  | succ d ih =>
    intro k fuel hk hf
    obtain ⟨f, rfl⟩ : ∃ f, fuel = f + 1 := ⟨fuel - 1, by omega⟩
    have : decide ((k : Int) < a2) = true := by simp; omega
    simp only [kotatsulaw16_PadRows.l483, this, cond_true, get_run, Option.bind_some]
    have hw : IntKind.wrap .u8 ((k : Int) + 1) = ((k + 1 : Nat) : Int) := wrap_u8 ⟨k, by omega⟩
    rw [show (band .u8 255 1 != 1) = false from by decide +kernel, hw, show nxt 255 = 255 from by decide +kernel]
    exact ih (k + 1) f (by omega) (by omega)
theorem rows_bits (a0 a1 a2 : Int) : ∀ (d k fuel : Nat), k + d = 8 → d < fuel →
    kotatsulaw16_PadRows.l424 a0 a1 a2 fuel (a1, (got8 a0 k).2, false, (got8 a0 k).1, (k : Int)) = kotatsulaw16_PadRows.l483 a0 a1 a2 (a1, (got8 a0 8).2, false, (got8 a0 8).1, ((8 : Nat) : Int)) ((a2 - 0 : Int).toNat + 2) (a1, (got8 a0 8).2, false, 0) := by
  intro d
  induction d with
  | zero =>
    intro k fuel hk hf
    obtain ⟨f, rfl⟩ : ∃ f, fuel = f + 1 := ⟨fuel - 1, by omega⟩
    obtain rfl : k = 8 := by omega
    rfl
  | succ d ih =>
    intro k fuel hk hf
    obtain ⟨f, rfl⟩ : ∃ f, fuel = f + 1 := ⟨fuel - 1, by omega⟩
    have h1 : decide ((k : Int) < 8) = true := by simp; omega
    have h2 : decide ((k : Int) < 0) = false := by simp
    simp only [kotatsulaw16_PadRows.l424, h1, h2, cond_true, cond_false, get_run, Option.bind_some, bnd]
    have hw : IntKind.wrap .i64 ((k : Int) + 1) = ((k + 1 : Nat) : Int) := wrap_i64 ⟨k, by omega⟩
    rw [hw]
    exact ih (k + 1) f (by omega) (by omega)
theorem kotatsulaw16_PadRows.pure : ∀ (a0 : Int), (Lit.int .u8 a0).wf = true → ∀ (a1 : Int), (Lit.int .u8 a1).wf = true → ∀ (a2 : Int), (Lit.int .u8 a2).wf = true → kotatsulaw16_PadRows.f a0 a1 a2 = some true := by
  intro a0 h0 a1 h1 a2 h2
  obtain ⟨n0, rfl⟩ := byte_of h0
  obtain ⟨n2, e2⟩ := byte_of h2
  have e : kotatsulaw16_PadRows.f n0.val a1 a2 = kotatsulaw16_PadRows.l424 n0.val a1 a2 10 (a1, (got8 n0.val 0).2, false, (got8 n0.val 0).1, ((0 : Nat) : Int)) := by
    simp only [kotatsulaw16_PadRows.f, awake_true]
    rfl
  rw [e, rows_bits n0.val a1 a2 8 0 10 rfl (by decide), got8_all]
  exact rows_ones n0.val a1 a2 n2 e2 (a1, 255, false, n0.val, ((8 : Nat) : Int)) rfl n2.val 0 ((a2 - 0 : Int).toNat + 2) (by omega) (by omega)

/-! PadApart -/
theorem apart_bits (a0 h : Int) (s : Int × Int × Bool × Int) : ∀ (d k fuel : Nat), k + d = 8 → d < fuel →
    kotatsulaw16_PadApart.l699 a0 s fuel (h, (got8 a0 k).2, false, (got8 a0 k).1, (k : Int)) = bif (got8 a0 8).1 == a0 then some (s.1 == a0) else some false := by
  intro d
  induction d with
  | zero =>
    intro k fuel hk hf
    obtain ⟨f, rfl⟩ : ∃ f, fuel = f + 1 := ⟨fuel - 1, by omega⟩
    obtain rfl : k = 8 := by omega
    rfl
  | succ d ih =>
    intro k fuel hk hf
    obtain ⟨f, rfl⟩ : ∃ f, fuel = f + 1 := ⟨fuel - 1, by omega⟩
    have h1 : decide ((k : Int) < 8) = true := by simp; omega
    have h2 : decide ((k : Int) < 0) = false := by simp
    simp only [kotatsulaw16_PadApart.l699, h1, h2, cond_true, cond_false, get_run, Option.bind_some, bnd]
    have hw : IntKind.wrap .i64 ((k : Int) + 1) = ((k + 1 : Nat) : Int) := wrap_i64 ⟨k, by omega⟩
    rw [hw]
    exact ih (k + 1) f (by omega) (by omega)
theorem apart_gets (a0 a1 : Int) (q : pad_Pad) (m : Fin 20) (hm : Int.tmod a1 20 = (m.val : Int)) (hq : q = ⟨a0, a0, false⟩) (hg : got8 a0 8 = (a0, 255)) : ∀ (d k fuel : Nat) (r : Int), k + d = m.val → d < fuel →
    kotatsulaw16_PadApart.l559 a0 a1 q fuel (a0, r, false, (k : Int)) = some true := by
  intro d
  induction d with
  | zero =>
    intro k fuel r hk hf
    obtain ⟨f, rfl⟩ : ∃ f, fuel = f + 1 := ⟨fuel - 1, by omega⟩
    have : decide ((k : Int) < Int.tmod a1 20) = false := by simp; omega
    simp only [kotatsulaw16_PadApart.l559, this, cond_false, hq]
    refine (apart_bits a0 a0 (a0, r, false, (k : Int)) 8 0 10 rfl (by decide)).trans ?_
    rw [hg]
    simp
  | succ d ih =>
    intro k fuel r hk hf
    obtain ⟨f, rfl⟩ : ∃ f, fuel = f + 1 := ⟨fuel - 1, by omega⟩
    have : decide ((k : Int) < Int.tmod a1 20) = true := by simp; omega
    simp only [kotatsulaw16_PadApart.l559, this, cond_true, get_run, Option.bind_some]
    have hw : IntKind.wrap .u8 ((k : Int) + 1) = ((k + 1 : Nat) : Int) := wrap_u8 ⟨k, by omega⟩
    rw [hw]
    exact ih (k + 1) f _ (by omega) (by omega)
theorem kotatsulaw16_PadApart.pure : ∀ (a0 : Int), (Lit.int .u8 a0).wf = true → ∀ (a1 : Int), (Lit.int .u8 a1).wf = true → kotatsulaw16_PadApart.f a0 a1 = some true := by
  intro a0 h0 a1 h1
  obtain ⟨n0, rfl⟩ := byte_of h0
  obtain ⟨n1, rfl⟩ := byte_of h1
  obtain ⟨m, hm⟩ : ∃ m : Fin 20, Int.tmod (n1.val : Int) 20 = (m.val : Int) := ⟨⟨n1.val % 20, Nat.mod_lt _ (by decide)⟩, rfl⟩
  have e : kotatsulaw16_PadApart.f n0.val n1.val = kotatsulaw16_PadApart.l559 n0.val n1.val ⟨n0.val, n0.val, false⟩ (((Int.tmod n1.val 20) - 0 : Int).toNat + 2) (n0.val, n0.val, false, ((0 : Nat) : Int)) := by
    simp only [kotatsulaw16_PadApart.f, awake_true]
    rfl
  rw [e]
  exact apart_gets _ _ _ m hm rfl (got8_all n0) m.val 0 _ _ (by omega) (by omega)

/-! PadPlays -/
def kotatsulaw16_Act.W (s : kotatsulaw16_Act) : Prop := (Lit.int .u8 s.f_Do).wf = true ∧ (Lit.int .u8 s.f_B).wf = true
def B (r : Int) : List Int := (kotatsuref16_bits.f r).getD []
theorem bits_some : ∀ n : Fin 256, kotatsuref16_bits.f n.val = some (B n.val) := by decide +kernel
theorem bits_len : ∀ n : Fin 256, (B n.val).length = 8 := by decide +kernel
theorem bits_head : ∀ n : Fin 256, lget (B n.val) 0 = some (band .u8 n.val 1) := by decide +kernel
theorem bits_tail : ∀ n : Fin 256, lsub (B n.val) 1 8 = some ((B n.val).tail) := by decide +kernel
theorem bits_next : ∀ n : Fin 256, (B n.val).tail ++ [1] = B (nxt n.val) := by decide +kernel
theorem odd : ∀ n : Fin 256, ((band .u8 n.val 1) != 0) = ((Int.tmod (IntKind.wrap .i64 n.val) 2) == 1) := by decide +kernel
theorem wrapb : ∀ n : Fin 256, IntKind.wrap .i64 (n.val : Int) = (n.val : Int) := by decide +kernel
theorem band_byte : ∀ n : Fin 256, IntKind.wrap .i64 (band .u8 n.val 1) = band .u8 n.val 1 := by decide +kernel

/-- a pad and the document's -/
structure Like (p : pad_Pad) (x : kotatsuref16_Pad) : Prop where
  held : ∃ n : Fin 256, p.f_held = (n.val : Int)
  row : ∃ n : Fin 256, p.f_row = (n.val : Int) ∧ x.f_Row = B n.val
  eheld : x.f_Held = p.f_held
  estrobe : x.f_Strobe = p.f_strobe
theorem put_like {p x} (H : Like p x) (b : Fin 256) : ∃ p' x', pad_Pad_Put.f p b.val = some p' ∧ kotatsuref16_Put.f x (IntKind.wrap .i64 b.val) = some x' ∧ Like p' x' := by
  obtain ⟨ph, pr, ps⟩ := p
  obtain ⟨xh, xr, xs⟩ := x
  obtain ⟨⟨n, hn⟩, ⟨m, hm, hB⟩, he, hs⟩ := H
  simp only at hn hm hB he hs
  subst hn; subst hm; subst hB; subst he; subst hs
  have ho := odd b
  cases hc : ((Int.tmod (IntKind.wrap .i64 b.val) 2) == 1) with
  | true =>
    rw [hc] at ho
    exact ⟨⟨n.val, n.val, true⟩, ⟨n.val, B n.val, true⟩, by simp [pad_Pad_Put.f, pad_Pad_load.f, ho], by simp [kotatsuref16_Put.f, hc, bits_some], ⟨n, rfl⟩, ⟨n, rfl, rfl⟩, rfl, rfl⟩
  | false =>
    rw [hc] at ho
    exact ⟨⟨n.val, m.val, false⟩, ⟨n.val, B m.val, false⟩, by simp [pad_Pad_Put.f, pad_Pad_load.f, ho], by simp [kotatsuref16_Put.f, hc], ⟨n, rfl⟩, ⟨m, rfl, rfl⟩, rfl, rfl⟩
theorem hold_like {p x} (H : Like p x) (b : Fin 256) : ∃ p' x', pad_Pad_Hold.f p b.val = some p' ∧ kotatsuref16_Hold.f x (IntKind.wrap .i64 b.val) = some x' ∧ Like p' x' := by
  obtain ⟨ph, pr, ps⟩ := p
  obtain ⟨xh, xr, xs⟩ := x
  obtain ⟨⟨n, hn⟩, ⟨m, hm, hB⟩, he, hs⟩ := H
  simp only at hn hm hB he hs
  subst hn; subst hm; subst hB; subst he; subst hs
  cases xs with
  | true => exact ⟨⟨b.val, b.val, true⟩, ⟨b.val, B b.val, true⟩, by simp [pad_Pad_Hold.f, pad_Pad_load.f], by simp [kotatsuref16_Hold.f, wrapb, bits_some], ⟨b, rfl⟩, ⟨b, rfl, rfl⟩, rfl, rfl⟩
  | false => exact ⟨⟨b.val, m.val, false⟩, ⟨b.val, B m.val, false⟩, by simp [pad_Pad_Hold.f, pad_Pad_load.f], by simp [kotatsuref16_Hold.f, wrapb], ⟨b, rfl⟩, ⟨m, rfl, rfl⟩, rfl, rfl⟩
theorem get_like {p x} (H : Like p x) : ∃ v p' x', pad_Pad_Get.f p = some (v, p') ∧ kotatsuref16_Get.f x = some (x', v) ∧ IntKind.wrap .i64 v = v ∧ Like p' x' := by
  obtain ⟨ph, pr, ps⟩ := p
  obtain ⟨xh, xr, xs⟩ := x
  obtain ⟨⟨n, hn⟩, ⟨m, hm, hB⟩, he, hs⟩ := H
  simp only at hn hm hB he hs
  subst hn; subst hm; subst hB; subst he; subst hs
  cases xs with
  | true => exact ⟨band .u8 m.val 1, ⟨n.val, m.val, true⟩, ⟨n.val, B m.val, true⟩, rfl, by simp [kotatsuref16_Get.f, bits_head], band_byte m, ⟨n, rfl⟩, ⟨m, rfl, rfl⟩, rfl, rfl⟩
  | false =>
    obtain ⟨k, hk⟩ := nxt_byte m
    refine ⟨band .u8 m.val 1, ⟨n.val, nxt m.val, false⟩, ⟨n.val, B (nxt m.val), false⟩, rfl, ?_, band_byte m, ⟨n, rfl⟩, ⟨k, hk, by rw [hk]⟩, rfl, rfl⟩
    have hl : (B m.val).tail.length = 7 := by simp [bits_len]
    have h8 : (((B m.val).length : Nat) : Int) = 8 := by rw [bits_len]; rfl
    simp only [kotatsuref16_Get.f, bits_head, h8, bits_tail, Option.bind_some, Bool.not_false, cond_true, List.nil_append, hl, List.length_nil, List.length_cons]
    simp only [lim, bits_next]
    rfl
theorem held_like {p x} (H : Like p x) : pad_Pad_Held.f p = some p.f_held ∧ IntKind.wrap .i64 p.f_held = p.f_held ∧ x.f_Held = p.f_held := by
  obtain ⟨⟨n, hn⟩, _, he, _⟩ := H
  exact ⟨rfl, by rw [hn]; exact wrapb n, he⟩
theorem plays_loop (a0 : List kotatsulaw16_Act) (hW : ∀ a ∈ a0, a.W) : ∀ (fuel k : Nat) (p : pad_Pad) (x : kotatsuref16_Pad), Like p x → k ≤ 60 → k ≤ a0.length → a0.length - k < fuel →
    kotatsulaw16_PadPlays.l127 a0 fuel (x.f_Held, x.f_Row, x.f_Strobe, p.f_held, p.f_row, p.f_strobe, (k : Int)) = some true := by
  intro fuel
  induction fuel with
  | zero => intro k p x H hk; omega
  | succ f ih =>
    intro k p x H hk hd hf
    by_cases hlt : k < a0.length
    · have h1 : decide ((k : Int) < (a0.length : Int)) = true := by simp; omega
      obtain ⟨act, ha⟩ : ∃ act, a0[k]? = some act := ⟨a0[k], List.getElem?_eq_getElem hlt⟩
      have hg : lget a0 (k : Int) = some act := by simp [lget, ha]
      obtain ⟨hDo, hBb⟩ := hW act (List.mem_of_getElem? ha)
      obtain ⟨b, hb⟩ := byte_of hBb
      simp only [kotatsulaw16_PadPlays.l127, h1, cond_true, hg, Option.bind_some]
      by_cases h60 : k = 60
      · have : decide ((60 : Int) ≤ (k : Int)) = true := by simp; omega
        rw [this]; rfl
      · have h2 : decide ((60 : Int) ≤ (k : Int)) = false := by simp; omega
        have hw : IntKind.wrap .i64 ((k : Int) + 1) = ((k + 1 : Nat) : Int) := by
          have := (by decide +kernel : ∀ n : Fin 64, IntKind.wrap .i64 ((n.val : Int) + 1) = ((n.val + 1 : Nat) : Int)) ⟨k, by omega⟩
          exact this
        rw [h2, cond_false, hb, hw]
        cases h3 : (Int.tmod act.f_Do 5 == 3) with
        | true =>
          obtain ⟨p', x', e1, e2, H'⟩ := put_like H b
          obtain ⟨e3, e4, e5⟩ := held_like H'
          rw [cond_true]
          simp only [e1, e2, e3, e4, e5, Option.bind_some, bne_self_eq_false, cond_false]
          have hh := ih (k + 1) p' x' H' (by omega) (by omega) (by omega)
          rw [e5] at hh
          exact hh
        | false =>
          rw [cond_false]
          cases h4 : (Int.tmod act.f_Do 5 == 4) with
          | true =>
            obtain ⟨p', x', e1, e2, H'⟩ := hold_like H b
            obtain ⟨e3, e4, e5⟩ := held_like H'
            rw [cond_true]
            simp only [e1, e2, e3, e4, e5, Option.bind_some, bne_self_eq_false, cond_false]
            have hh := ih (k + 1) p' x' H' (by omega) (by omega) (by omega)
            rw [e5] at hh
            exact hh
          | false =>
            obtain ⟨v, p', x', e1, e2, e6, H'⟩ := get_like H
            obtain ⟨e3, e4, e5⟩ := held_like H'
            rw [cond_false]
            simp only [e1, e2, e3, e4, e5, e6, Option.bind_some, bne_self_eq_false, cond_false]
            have hh := ih (k + 1) p' x' H' (by omega) (by omega) (by omega)
            rw [e5] at hh
            exact hh
    · have h1 : decide ((k : Int) < (a0.length : Int)) = false := by simp; omega
      simp only [kotatsulaw16_PadPlays.l127, h1, cond_false]
theorem new_like : ∃ x, kotatsuref16_New.f = some x ∧ Like ⟨0, 0, false⟩ x := by
  refine ⟨⟨0, B 0, false⟩, ?_, ⟨0, rfl⟩, ⟨0, rfl, rfl⟩, rfl, rfl⟩
  have : kotatsuref16_bits.f 0 = some (B 0) := bits_some 0
  simp [kotatsuref16_New.f, this]
theorem kotatsulaw16_PadPlays.pure : ∀ (a0 : List kotatsulaw16_Act), (a0.length ≤ maxLen ∧ ∀ a ∈ a0, kotatsulaw16_Act.W a) → kotatsulaw16_PadPlays.f a0 = some true := by
  intro a0 ⟨_, hW⟩
  obtain ⟨x, hx, H⟩ := new_like
  simp only [kotatsulaw16_PadPlays.f, awake_true, Option.bind_some, Bool.not_true, cond_false, pad_New.f, hx]
  exact plays_loop a0 hW (((a0.length : Int) - 0 : Int).toNat + 2) 0 ⟨0, 0, false⟩ x H (by omega) (by omega) (by omega)
end Go.Proofs.Ytonggmedkciiaaa
