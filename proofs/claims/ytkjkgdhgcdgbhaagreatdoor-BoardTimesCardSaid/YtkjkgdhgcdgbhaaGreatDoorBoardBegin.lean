/- The board as it begins, and the document's. -/
import Derived.Test.YtkjkgdhgcdgbhaaGreatDoorBoardTick
namespace Go.Proofs.YtkjkgdhgcdgbhaaGreatDoor
open Kot Go
set_option maxRecDepth 100000
theorem UQ {i : Int} (h1 : -9223372036854775808 ≤ i) (h2 : i ≤ 9223372036854775807) : IntKind.wrap .i64 i = i := by
  rw [IntKind.wrap_i64]; omega
theorem Yw {i : Nat} (h : i < 9223372036854775807) : IntKind.wrap .i64 ((i : Int) + 1) = ((i + 1 : Nat) : Int) := by rw [UQ (by omega) (by omega)]; rfl
theorem XQ {τ : Type} (xs : List τ) (i : Nat) : IF xs (i : Int) = xs[i]? := by simp [IF]
theorem YS {τ : Type} {xs : List τ} {i : Nat} (h : i < xs.length) : IF xs (i : Int) = some xs[i] := by rw [XQ, List.getElem?_eq_getElem h]
theorem Zv {n : Nat} (h : n ≤ 1073741824) : lim n = some () := by simp [lim, h]
theorem ltT {a b : Int} (h : a < b) : decide (a < b) = true := decide_eq_true h
theorem ltF {a b : Int} (h : b ≤ a) : decide (a < b) = false := decide_eq_false (by omega)
theorem Wo (p : List Int) (n : Int) (hp : p.length ≤ 9223372036854775807) (hn : n ≤ 1073741824) : ∀ (m k f : Nat), k + m = p.length → m < f → Dy.l1 p n f (p.take (min k n.toNat), (k : Int)) = some (p.take n.toNat)
  | 0, k, f + 1, hk, _ => by
    simp only [Dy.l1]
    rw [ltF (by omega), cond_false]
    congr 1
    rcases Nat.le_total n.toNat k with h | h
    · rw [Nat.min_eq_right h]
    · rw [Nat.min_eq_left h, List.take_of_length_le (by omega), List.take_of_length_le (by omega)]
  | m + 1, k, f + 1, hk, hf => by
    simp only [Dy.l1]
    rw [ltT (by omega), cond_true, YS (by omega), Option.bind_some]
    have ih := Wo p n hp hn m (k + 1) f (by omega) (by omega)
    by_cases hkn : (k : Int) < n
    · rw [ltT hkn, cond_true, Zv (by simp; omega), Option.bind_some, Yw (by omega), ← ih]
      congr 2
      rw [Nat.min_eq_left (by omega), Nat.min_eq_left (by omega), List.take_append_getElem]
    · rw [ltF (by omega), cond_false, Yw (by omega), ← ih, Nat.min_eq_right (by omega), Nat.min_eq_right (by omega)]
theorem WR (p : List Int) (n : Int) (hp : p.length ≤ 9223372036854775807) (hn : n ≤ 1073741824) : Dy.f p n = some (p.take n.toNat) := by
  have := Wo p n hp hn p.length 0 (((p.length : Int) - 0 : Int).toNat + 2) (by omega) (by omega)
  simpa [Dy.f] using this
/-! ### the BIOS -/
theorem Wq {xs : List Int} {i : Int} (h0 : 0 ≤ i) (h1 : i < (xs.length : Int)) : ∃ z, Kot.IF xs i = some z := by
  obtain ⟨z, h, _⟩ := Ak.SX (xs := xs) h0 h1
  exact ⟨z, h⟩
theorem Xw (x y z : Int) : ∀ (n : Nat) (s : List Int × Int), Qg .u8 s.1 → s.1.length = 8192 → 0 ≤ s.2 → s.2 ≤ 3 → 3 - s.2 < (n : Int) → Ak (fun r => Qg .u8 r ∧ r.length = 8192) (BB.l4 x y z n s) := by
  intro n
  induction n with
  | zero => intro s _ _ _ _ _; omega
  | succ n ih =>
    intro s h hl h0 h3 hm
    unfold BB.l4
    refine Ak.bif (fun c => ?_) (fun _ => Ak.mk ⟨h, hl⟩)
    have c := of_decide_eq_true c
    have e1 : IntKind.wrap .i64 (2 * s.2) = 2 * s.2 := by rw [CS]; omega
    have e2 : IntKind.wrap .i64 (8186 + 2 * s.2) = 8186 + 2 * s.2 := by rw [CS]; omega
    have e3 : IntKind.wrap .i64 (8187 + 2 * s.2) = 8187 + 2 * s.2 := by rw [CS]; omega
    have e4 : IntKind.wrap .i64 (s.2 + 1) = s.2 + 1 := by rw [CS]; omega
    rw [e1, e2, e3, e4]
    refine Ak.bind (Ak.UR (n := 3) h0 c rfl) (fun v _ => Ak.bind (Ak.SX (by omega) (by omega)) (fun _ _ => Ak.bind (Ak.SX (by omega) (by rw [List.length_set]; omega)) (fun _ _ => ?_)))
    exact ih _ (Sr (Sr h (CW _)) (CW _)) (by simp only [List.length_set]; exact hl) (by simp only []; omega) (by simp only []; omega) (by simp only []; omega)
theorem Xl {a : List Int} (ha : Qg .u8 a) (x y z : Int) : ∀ (n : Nat) (s : List Int × Int), Qg .u8 s.1 → s.1.length = 8192 → 0 ≤ s.2 → s.2 ≤ 8192 → 8192 - s.2 < (n : Int) → Ak (fun r => Qg .u8 r ∧ r.length = 8192) (BB.l1 a x y z n s) := by
  intro n
  induction n with
  | zero => intro s _ _ _ _ _; omega
  | succ n ih =>
    intro s h hl h0 h3 hm
    unfold BB.l1
    have hr : ((List.replicate (8192 : Int).toNat (0 : Int)).length : Int) = 8192 := by rw [List.length_replicate]; rfl
    rw [hr]
    refine Ak.bif (fun c => ?_) (fun _ => Xw x y z _ _ h hl (by simp only []; omega) (by simp only []; omega) (by simp only []; omega))
    have c := of_decide_eq_true c
    have e4 : IntKind.wrap .i64 (s.2 + 1) = s.2 + 1 := by rw [CS]; omega
    rw [e4]
    refine Ak.bind (Ak.SX h0 (by omega)) (fun _ _ => Ak.bif (fun c1 => ?_) (fun _ => ?_))
    · have c1 := of_decide_eq_true c1
      rw [show ((a.length : Int) == 0) = false from beq_eq_false_iff_ne.2 (by omega)]
      have hb := Lh s.2 (a.length : Int) c1
      have hb2 := Int.emod_lt_of_pos s.2 c1
      have hb3 := Int.emod_nonneg s.2 (by omega : (a.length : Int) ≠ 0)
      refine Ak.bind (Ak.VV ha (by omega) (by omega)) (fun v hv => Ak.bind (Ak.SX h0 (by rw [List.length_set]; omega)) (fun _ _ => ?_))
      exact ih _ (Sr (Sr h (B7 rfl rfl)) hv) (by simp only [List.length_set]; exact hl) (by simp only []; omega) (by simp only []; omega) (by simp only []; omega)
    · exact ih _ (Sr h (B7 rfl rfl)) (by simp only [List.length_set]; exact hl) (by simp only []; omega) (by simp only []; omega) (by simp only []; omega)
theorem XL (k : IntKind) (n : Nat) {x : Int} (h : In k x) : Qg k (List.replicate n x) := fun y hy => (List.eq_of_mem_replicate hy) ▸ h
theorem Wk {a : List Int} (ha : Qg .u8 a) (x y z : Int) : Ak (fun r => Qg .u8 r ∧ r.length = 8192) (BB.f a x y z) := by
  unfold BB.f
  refine Ak.neg (e := 8192) (by decide) (Ak.bind (Ak.lim (n := (8192 : Int).toNat) (by decide)) (fun _ _ => ?_))
  exact Xl ha x y z _ _ (XL _ _ (B7 rfl rfl)) (by simp only [List.length_replicate]; rfl) (by simp only []; omega) (by simp only []; omega) (by simp only [List.length_replicate]; omega)
/-! ### the board -/
abbrev BS : Type := A7 × Ag × Ac × Al × Aa × Aa × Aa × Aa × Ai × Am × An × AL × AL
structure ZH (s : BS) : Prop where
  b : C9 s.1
  c : De s.2.1
  p : Ar s.2.2.1
  so : Bj s.2.2.2.1
  t1 : Ah s.2.2.2.2.1
  t2 : Ah s.2.2.2.2.2.1
  t3 : Ah s.2.2.2.2.2.2.1
  t4 : Ah s.2.2.2.2.2.2.2.1
  a : AF s.2.2.2.2.2.2.2.2.1
  d : Bl s.2.2.2.2.2.2.2.2.2.1
  w : Bi s.2.2.2.2.2.2.2.2.2.2.1
  p1 : Cf s.2.2.2.2.2.2.2.2.2.2.2.1
  p2 : Cf s.2.2.2.2.2.2.2.2.2.2.2.2
def cyc (s : BS) : Option BS := Aj.f s.1 s.2.1 s.2.2.1 s.2.2.2.1 s.2.2.2.2.1 s.2.2.2.2.2.1 s.2.2.2.2.2.2.1 s.2.2.2.2.2.2.2.1 s.2.2.2.2.2.2.2.2.1 s.2.2.2.2.2.2.2.2.2.1 s.2.2.2.2.2.2.2.2.2.2.1 s.2.2.2.2.2.2.2.2.2.2.2.1 s.2.2.2.2.2.2.2.2.2.2.2.2
theorem YP {s : BS} (h : ZH s) : Ak ZH (cyc s) :=
  Ak.imp (Lv h.b h.c h.p h.so h.t1 h.t2 h.t3 h.t4 h.a h.d h.w h.p1 h.p2) (fun _ r => ⟨r.1, r.2.1, r.2.2.1, r.2.2.2.1, r.2.2.2.2.1, r.2.2.2.2.2.1, r.2.2.2.2.2.2.1, r.2.2.2.2.2.2.2.1, r.2.2.2.2.2.2.2.2.1, r.2.2.2.2.2.2.2.2.2.1, r.2.2.2.2.2.2.2.2.2.2.1, r.2.2.2.2.2.2.2.2.2.2.2.1, r.2.2.2.2.2.2.2.2.2.2.2.2⟩)
theorem Ak.VM {α β : Type} {P : α → Prop} {y : β} {A : Option α} {K : β → Option α} (h : Ak P (K y)) : Ak P (Vp (some y) A K) := h
theorem Q3 (k : Int) (h : 0 ≤ k ∧ k ≤ 3) : Ak (fun r => ∃ t, r = some t ∧ Ah t) (N5.f k) := by
  unfold N5.f
  have hk : In .u8 k := Ui (by omega)
  rw [decide_eq_false (by omega : ¬ (3 < k)), cond_false]
  refine Ak.bif (fun _ => Ak.bind (Ak.IF (Q := In .u16) (n := 16) (by omega) (by omega) rfl (Yh rfl)) (fun z hz => Ak.mk ⟨_, rfl, ⟨hk, ⟨fun _ => B7 rfl rfl⟩, B7 rfl rfl, CY _, B7 rfl rfl, B7 rfl rfl, B7 rfl rfl, B7 rfl rfl, B7 rfl rfl, B7 rfl rfl, B7 rfl rfl⟩⟩)) (fun _ => Ak.mk ⟨_, rfl, ⟨hk, ⟨fun _ => B7 rfl rfl⟩, B7 rfl rfl, B7 rfl rfl, B7 rfl rfl, B7 rfl rfl, B7 rfl rfl, B7 rfl rfl, B7 rfl rfl, B7 rfl rfl, B7 rfl rfl⟩⟩)
theorem Vs : Ak (fun r => Bj r.1 ∧ Ah r.2.1 ∧ Ah r.2.2.1 ∧ Ah r.2.2.2.1 ∧ Ah r.2.2.2.2) Q7.f := by
  unfold Q7.f
  refine Ak.bind (Q3 (IntKind.wrap .u8 0) (by decide)) (fun r1 h1 => ?_)
  obtain ⟨t1, rfl, h1⟩ := h1
  refine Ak.VM (Ak.bind (Q3 (IntKind.wrap .u8 1) (by decide)) (fun r2 h2 => ?_))
  obtain ⟨t2, rfl, h2⟩ := h2
  refine Ak.VM (Ak.bind (Q3 (IntKind.wrap .u8 2) (by decide)) (fun r3 h3 => ?_))
  obtain ⟨t3, rfl, h3⟩ := h3
  refine Ak.VM (Ak.bind (Q3 (IntKind.wrap .u8 3) (by decide)) (fun r4 h4 => ?_))
  obtain ⟨t4, rfl, h4⟩ := h4
  refine Ak.VM ?_
  exact Ak.mk ⟨⟨⟨⟨fun _ => B7 rfl rfl⟩, B7 rfl rfl, B7 rfl rfl, B7 rfl rfl, B7 rfl rfl, B7 rfl rfl, B7 rfl rfl⟩, EZ (x := 0) (by omega)⟩, h1, h2, h3, h4⟩
theorem Yv {k : IntKind} {xs : List Int} (h : Qg k xs) (h0 : In k 0) : WI k (fun q => List.getD xs q 0) := ⟨fun q => by
  rw [List.getD_eq_getElem?_getD]
  cases e : xs[q]? with
  | none => exact h0
  | some v => exact h v (List.mem_of_getElem? e)⟩
theorem Y9 {L : List Int} (hL : L.length = 8192) (h : Qg .u8 L) : ∃ s : BS, MX.f L = some (some s, 0) ∧ ZH s ∧ s.1.Dt = 0 ∧ U4 0 s.2.2.1 := by
  have hT : Ak (fun r => ∃ s : BS, r = (some s, 0) ∧ ZH s ∧ s.1.Dt = 0 ∧ U4 0 s.2.2.1) (MX.f L) := by
    unfold MX.f
    rw [show ((L.length : Int) != 8192) = false by rw [hL]; rfl, cond_false]
    refine Ak.bind Vf (fun c hc => ?_)
    unfold NI.f
    rw [Option.bind_some]
    refine Ak.bind Vs (fun s hs => Ak.bind Ug (fun a ha => Ak.bind Tx (fun p1 h1 => Ak.bind Tx (fun p2 h2 => ?_))))
    rw [show (!decide (L.length = 8192)) = false by rw [hL]; rfl, cond_false]
    obtain ⟨pn, e, hp⟩ := Uj
    have e := Option.some.inj e
    subst e
    exact Ak.mk ⟨_, rfl, ⟨⟨⟨fun _ => B7 rfl rfl⟩, ⟨fun _ => B7 rfl rfl⟩, Yv h (B7 rfl rfl), B7 rfl rfl, B7 rfl rfl, B7 rfl rfl⟩, hc, hp, hs.1, hs.2.1, hs.2.2.1, hs.2.2.2.1, hs.2.2.2.2, ha.1, ha.2.1, ha.2.2, h1, h2⟩, rfl, ⟨rfl, Int.le_refl 0, (by decide : (0 : Int) ≤ 261), Int.le_refl 0, (by decide : (0 : Int) ≤ 340), rfl, Or.inr ⟨by decide, rfl⟩⟩⟩
  obtain ⟨r, e, s, rfl, hs⟩ := hT
  exact ⟨s, e, hs⟩
end Go.Proofs.YtkjkgdhgcdgbhaaGreatDoor
