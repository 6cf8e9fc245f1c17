/- The board as it begins, and the document's. -/
import Derived.Test.YtkjkgdhgcdgbhaaGreatDoorBoardTick
namespace Go.Proofs.YtkjkgdhgcdgbhaaGreatDoor
open Kot Go
set_option maxRecDepth 100000
set_option linter.unusedVariables false
theorem Vf {i : Int} (h1 : -9223372036854775808 ≤ i) (h2 : i ≤ 9223372036854775807) : IntKind.wrap .i64 i = i := by
  rw [IntKind.wrap_i64]; omega
theorem Y4 {i : Nat} (h : i < 9223372036854775807) : IntKind.wrap .i64 ((i : Int) + 1) = ((i + 1 : Nat) : Int) := by rw [Vf (by omega) (by omega)]; rfl
theorem Yi {τ : Type} (xs : List τ) (i : Nat) : IE xs (i : Int) = xs[i]? := by simp [IE]
theorem YI {τ : Type} {xs : List τ} {i : Nat} (h : i < xs.length) : IE xs (i : Int) = some xs[i] := by rw [Yi, List.getElem?_eq_getElem h]
theorem Z6 {n : Nat} (h : n ≤ 1073741824) : lim n = some () := by simp [lim, h]
theorem ltT {a b : Int} (h : a < b) : decide (a < b) = true := decide_eq_true h
theorem ltF {a b : Int} (h : b ≤ a) : decide (a < b) = false := decide_eq_false (by omega)
theorem VV (p : List Int) (n : Int) (hp : p.length ≤ 9223372036854775807) (hn : n ≤ 1073741824) : ∀ (m k f : Nat), k + m = p.length → m < f → Dx.l1 p n f (p.take (min k n.toNat), (k : Int)) = some (p.take n.toNat)
  | 0, k, f + 1, hk, _ => by
    simp only [Dx.l1]
    rw [ltF (by omega), cond_false]
    congr 1
    rcases Nat.le_total n.toNat k with h | h
    · rw [Nat.min_eq_right h]
    · rw [Nat.min_eq_left h, List.take_of_length_le (by omega), List.take_of_length_le (by omega)]
  | m + 1, k, f + 1, hk, hf => by
    simp only [Dx.l1]
    rw [ltT (by omega), cond_true, YI (by omega), Option.bind_some]
    have ih := VV p n hp hn m (k + 1) f (by omega) (by omega)
    by_cases hkn : (k : Int) < n
    · rw [ltT hkn, cond_true, Z6 (by simp; omega), Option.bind_some, Y4 (by omega), ← ih]
      congr 2
      rw [Nat.min_eq_left (by omega), Nat.min_eq_left (by omega), List.take_append_getElem]
    · rw [ltF (by omega), cond_false, Y4 (by omega), ← ih, Nat.min_eq_right (by omega), Nat.min_eq_right (by omega)]
theorem WG (p : List Int) (n : Int) (hp : p.length ≤ 9223372036854775807) (hn : n ≤ 1073741824) : Dx.f p n = some (p.take n.toNat) := by
  have := VV p n hp hn p.length 0 (((p.length : Int) - 0 : Int).toNat + 2) (by omega) (by omega)
  simpa [Dx.f] using this
/-! ### the BIOS -/
theorem Wl {xs : List Int} {i : Int} (h0 : 0 ≤ i) (h1 : i < (xs.length : Int)) : ∃ z, Kot.IE xs i = some z := by
  obtain ⟨z, h, _⟩ := Ak.SO (xs := xs) h0 h1
  exact ⟨z, h⟩
theorem Xq (x y z : Int) : ∀ (n : Nat) (s : List Int × Int), Qd .u8 s.1 → s.1.length = 8192 → 0 ≤ s.2 → s.2 ≤ 3 → 3 - s.2 < (n : Int) → Ak (fun r => Qd .u8 r ∧ r.length = 8192) (BB.l4 x y z n s) := by
  intro n
  induction n with
  | zero => intro s _ _ _ _ _; omega
  | succ n ih =>
    intro s h hl h0 h3 hm
    unfold BB.l4
    refine Ak.bif (fun c => ?_) (fun _ => Ak.mk ⟨h, hl⟩)
    have c := of_decide_eq_true c
    have e1 : IntKind.wrap .i64 (2 * s.2) = 2 * s.2 := by rw [CS]; omega
    have e2 : IntKind.wrap .i64 (8186 + 2 * s.2) = 8186 + 2 * s.2 := by rw [CS]; omega
    have e3 : IntKind.wrap .i64 (8187 + 2 * s.2) = 8187 + 2 * s.2 := by rw [CS]; omega
    have e4 : IntKind.wrap .i64 (s.2 + 1) = s.2 + 1 := by rw [CS]; omega
    rw [e1, e2, e3, e4]
    refine Ak.bind (Ak.US (n := 3) h0 c rfl) (fun v _ => Ak.bind (Ak.SO (by omega) (by omega)) (fun _ _ => Ak.bind (Ak.SO (by omega) (by rw [List.length_set]; omega)) (fun _ _ => ?_)))
    exact ih _ (RS (RS h (CX _)) (CX _)) (by simp only [List.length_set]; exact hl) (by simp only []; omega) (by simp only []; omega) (by simp only []; omega)
theorem Xp {a : List Int} (ha : Qd .u8 a) (x y z : Int) : ∀ (n : Nat) (s : List Int × Int), Qd .u8 s.1 → s.1.length = 8192 → 0 ≤ s.2 → s.2 ≤ 8192 → 8192 - s.2 < (n : Int) → Ak (fun r => Qd .u8 r ∧ r.length = 8192) (BB.l1 a x y z n s) := by
  intro n
  induction n with
  | zero => intro s _ _ _ _ _; omega
  | succ n ih =>
    intro s h hl h0 h3 hm
    unfold BB.l1
    have hr : ((List.replicate (8192 : Int).toNat (0 : Int)).length : Int) = 8192 := by rw [List.length_replicate]; rfl
    rw [hr]
    refine Ak.bif (fun c => ?_) (fun _ => Xq x y z _ _ h hl (by simp only []; omega) (by simp only []; omega) (by simp only []; omega))
    have c := of_decide_eq_true c
    have e4 : IntKind.wrap .i64 (s.2 + 1) = s.2 + 1 := by rw [CS]; omega
    rw [e4]
    refine Ak.bind (Ak.SO h0 (by omega)) (fun _ _ => Ak.bif (fun c1 => ?_) (fun _ => ?_))
    · have c1 := of_decide_eq_true c1
      rw [show ((a.length : Int) == 0) = false from beq_eq_false_iff_ne.2 (by omega)]
      have hb := Lm s.2 (a.length : Int) c1
      have hb2 := Int.emod_lt_of_pos s.2 c1
      have hb3 := Int.emod_nonneg s.2 (by omega : (a.length : Int) ≠ 0)
      refine Ak.bind (Ak.Wj ha (by omega) (by omega)) (fun v hv => Ak.bind (Ak.SO h0 (by rw [List.length_set]; omega)) (fun _ _ => ?_))
      exact ih _ (RS (RS h (B7 rfl rfl)) hv) (by simp only [List.length_set]; exact hl) (by simp only []; omega) (by simp only []; omega) (by simp only []; omega)
    · exact ih _ (RS h (B7 rfl rfl)) (by simp only [List.length_set]; exact hl) (by simp only []; omega) (by simp only []; omega) (by simp only []; omega)
theorem XQ (k : IntKind) (n : Nat) {x : Int} (h : In k x) : Qd k (List.replicate n x) := fun y hy => (List.eq_of_mem_replicate hy) ▸ h
theorem VT {a : List Int} (ha : Qd .u8 a) (x y z : Int) : Ak (fun r => Qd .u8 r ∧ r.length = 8192) (BB.f a x y z) := by
  unfold BB.f
  refine Ak.neg (e := 8192) (by decide) (Ak.bind (Ak.lim (n := (8192 : Int).toNat) (by decide)) (fun _ _ => ?_))
  exact Xp ha x y z _ _ (XQ _ _ (B7 rfl rfl)) (by simp only [List.length_replicate]; rfl) (by simp only []; omega) (by simp only []; omega) (by simp only [List.length_replicate]; omega)
/-! ### the board -/
abbrev BS : Type := A7 × Ag × Ac × Al × Aa × Aa × Aa × Aa × Ai × Am × An × AL × AL
structure ZD (s : BS) : Prop where
  b : C9 s.1
  c : De s.2.1
  p : As s.2.2.1
  so : Bl s.2.2.2.1
  t1 : Ah s.2.2.2.2.1
  t2 : Ah s.2.2.2.2.2.1
  t3 : Ah s.2.2.2.2.2.2.1
  t4 : Ah s.2.2.2.2.2.2.2.1
  a : AF s.2.2.2.2.2.2.2.2.1
  d : Bj s.2.2.2.2.2.2.2.2.2.1
  w : Bi s.2.2.2.2.2.2.2.2.2.2.1
  p1 : Cf s.2.2.2.2.2.2.2.2.2.2.2.1
  p2 : Cf s.2.2.2.2.2.2.2.2.2.2.2.2
def cyc (s : BS) : Option BS := Aj.f s.1 s.2.1 s.2.2.1 s.2.2.2.1 s.2.2.2.2.1 s.2.2.2.2.2.1 s.2.2.2.2.2.2.1 s.2.2.2.2.2.2.2.1 s.2.2.2.2.2.2.2.2.1 s.2.2.2.2.2.2.2.2.2.1 s.2.2.2.2.2.2.2.2.2.2.1 s.2.2.2.2.2.2.2.2.2.2.2.1 s.2.2.2.2.2.2.2.2.2.2.2.2
theorem YD {s : BS} (h : ZD s) : Ak ZD (cyc s) :=
  Ak.imp (Lu h.b h.c h.p h.so h.t1 h.t2 h.t3 h.t4 h.a h.d h.w h.p1 h.p2) (fun _ r => ⟨r.1, r.2.1, r.2.2.1, r.2.2.2.1, r.2.2.2.2.1, r.2.2.2.2.2.1, r.2.2.2.2.2.2.1, r.2.2.2.2.2.2.2.1, r.2.2.2.2.2.2.2.2.1, r.2.2.2.2.2.2.2.2.2.1, r.2.2.2.2.2.2.2.2.2.2.1, r.2.2.2.2.2.2.2.2.2.2.2.1, r.2.2.2.2.2.2.2.2.2.2.2.2⟩)
theorem Ak.VK {α β : Type} {P : α → Prop} {y : β} {A : Option α} {K : β → Option α} (h : Ak P (K y)) : Ak P (Vo (some y) A K) := h
theorem Q6 (k : Int) (h : 0 ≤ k ∧ k ≤ 3) : Ak (fun r => ∃ t, r = some t ∧ Ah t) (N5.f k) := by
  unfold N5.f
  have hk : In .u8 k := Ue (by omega)
  rw [decide_eq_false (by omega : ¬ (3 < k)), cond_false]
  refine Ak.bif (fun _ => Ak.bind (Ak.IE (Q := In .u16) (n := 16) (by omega) (by omega) rfl (XP rfl)) (fun z hz => Ak.mk ⟨_, rfl, ⟨hk, ⟨fun _ => B7 rfl rfl⟩, B7 rfl rfl, CZ _, B7 rfl rfl, B7 rfl rfl, B7 rfl rfl, B7 rfl rfl, B7 rfl rfl, B7 rfl rfl, B7 rfl rfl⟩⟩)) (fun _ => Ak.mk ⟨_, rfl, ⟨hk, ⟨fun _ => B7 rfl rfl⟩, B7 rfl rfl, B7 rfl rfl, B7 rfl rfl, B7 rfl rfl, B7 rfl rfl, B7 rfl rfl, B7 rfl rfl, B7 rfl rfl, B7 rfl rfl⟩⟩)
theorem Vr : Ak (fun r => Bl r.1 ∧ Ah r.2.1 ∧ Ah r.2.2.1 ∧ Ah r.2.2.2.1 ∧ Ah r.2.2.2.2) Q8.f := by
  unfold Q8.f
  refine Ak.bind (Q6 (IntKind.wrap .u8 0) (by decide)) (fun r1 h1 => ?_)
  obtain ⟨t1, rfl, h1⟩ := h1
  refine Ak.VK (Ak.bind (Q6 (IntKind.wrap .u8 1) (by decide)) (fun r2 h2 => ?_))
  obtain ⟨t2, rfl, h2⟩ := h2
  refine Ak.VK (Ak.bind (Q6 (IntKind.wrap .u8 2) (by decide)) (fun r3 h3 => ?_))
  obtain ⟨t3, rfl, h3⟩ := h3
  refine Ak.VK (Ak.bind (Q6 (IntKind.wrap .u8 3) (by decide)) (fun r4 h4 => ?_))
  obtain ⟨t4, rfl, h4⟩ := h4
  refine Ak.VK ?_
  exact Ak.mk ⟨⟨⟨⟨fun _ => B7 rfl rfl⟩, B7 rfl rfl, B7 rfl rfl, B7 rfl rfl, B7 rfl rfl, B7 rfl rfl, B7 rfl rfl⟩, EY (x := 0) (by omega)⟩, h1, h2, h3, h4⟩
theorem Yh {k : IntKind} {xs : List Int} (h : Qd k xs) (h0 : In k 0) : Wy k (fun q => List.getD xs q 0) := ⟨fun q => by
  rw [List.getD_eq_getElem?_getD]
  cases e : xs[q]? with
  | none => exact h0
  | some v => exact h v (List.mem_of_getElem? e)⟩
theorem YK {L : List Int} (hL : L.length = 8192) (h : Qd .u8 L) : ∃ s : BS, MY.f L = some (some s, 0) ∧ ZD s ∧ s.1.Du = 0 ∧ Us 0 s.2.2.1 := by
  have hT : Ak (fun r => ∃ s : BS, r = (some s, 0) ∧ ZD s ∧ s.1.Du = 0 ∧ Us 0 s.2.2.1) (MY.f L) := by
    unfold MY.f
    rw [show ((L.length : Int) != 8192) = false by rw [hL]; rfl, cond_false]
    refine Ak.bind UN (fun c hc => ?_)
    unfold NQ.f
    rw [Option.bind_some]
    refine Ak.bind Vr (fun s hs => Ak.bind TV (fun a ha => Ak.bind Tz (fun p1 h1 => Ak.bind Tz (fun p2 h2 => ?_))))
    rw [show (!decide (L.length = 8192)) = false by rw [hL]; rfl, cond_false]
    obtain ⟨pn, e, hp⟩ := Uh
    have e := Option.some.inj e
    subst e
    exact Ak.mk ⟨_, rfl, ⟨⟨⟨fun _ => B7 rfl rfl⟩, ⟨fun _ => B7 rfl rfl⟩, Yh h (B7 rfl rfl), B7 rfl rfl, B7 rfl rfl, B7 rfl rfl⟩, hc, hp, hs.1, hs.2.1, hs.2.2.1, hs.2.2.2.1, hs.2.2.2.2, ha.1, ha.2.1, ha.2.2, h1, h2⟩, rfl, ⟨rfl, Int.le_refl 0, (by decide : (0 : Int) ≤ 261), Int.le_refl 0, (by decide : (0 : Int) ≤ 340), rfl, Or.inr ⟨by decide, rfl⟩⟩⟩
  obtain ⟨r, e, s, rfl, hs⟩ := hT
  exact ⟨s, e, hs⟩
end Go.Proofs.YtkjkgdhgcdgbhaaGreatDoor
