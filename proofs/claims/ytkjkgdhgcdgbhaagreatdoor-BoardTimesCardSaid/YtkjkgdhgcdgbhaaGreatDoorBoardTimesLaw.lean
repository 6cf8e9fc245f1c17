/- BoardTimes: each cycle has three dots of the picture; behind n cycles it is at the dot 3 n. -/
import Derived.Test.YtkjkgdhgcdgbhaaGreatDoorBoardBegin
import Derived.Test.YtkjkgdhgcdgbhaaGreatDoorG
namespace Go.Proofs.YtkjkgdhgcdgbhaaGreatDoor
open Kot Go
set_option maxRecDepth 100000
set_option linter.unusedVariables false
/-! ### the document's board begins -/
theorem Ws {a : List Int} {u v} (ha : (a.length : Int) = 8192) : ∀ (n : Nat) (s : List Int × Int), (s.1.length : Int) = 65536 → 0 ≤ s.2 → s.2 ≤ 8192 → 8192 - s.2 < (n : Int) → Ak (fun r => (r.1.Ij.length : Int) = 65536) (CR.l5 a u v n s) := by
  intro n
  induction n with
  | zero => intro s _ _ _ _; omega
  | succ n ih =>
    intro s hl h0 h3 hm
    unfold CR.l5
    refine Ak.bif (fun c => ?_) (fun _ => Ak.mk hl)
    have c := of_decide_eq_true c
    have e1 : IntKind.wrap .i64 (57344 + s.2) = 57344 + s.2 := by rw [CS]; omega
    have e4 : IntKind.wrap .i64 (s.2 + 1) = s.2 + 1 := by rw [CS]; omega
    rw [e1, e4]
    refine Ak.bind (Ak.SO h0 c) (fun _ _ => Ak.bind (Ak.SO (by omega) (by omega)) (fun _ _ => ?_))
    exact ih _ (by simp only [List.length_set]; exact hl) (by simp only []; omega) (by simp only []; omega) (by simp only []; omega)
theorem WU : ∃ p, LF.f = some p := ⟨_, rfl⟩
theorem Wq {a : List Int} {u} (ha : (a.length : Int) = 8192) (hu : (u.1.length : Int) = 65536) : ∀ (n : Nat) (s : B5 × Int), 0 ≤ s.2 → s.2 ≤ 2 → 2 - s.2 < (n : Int) → Ak (fun r => (r.1.Ij.length : Int) = 65536) (CR.l2 a u n s) := by
  intro n
  induction n with
  | zero => intro s _ _ _; omega
  | succ n ih =>
    intro s h0 h3 hm
    unfold CR.l2
    obtain ⟨p, hp⟩ := WU
    rw [hp]
    refine Ak.bif (fun c => ?_) (fun _ => Ws ha _ _ hu (by simp only []; omega) (by simp only []; omega) (by simp only []; omega))
    have c := of_decide_eq_true c
    have e4 : IntKind.wrap .i64 (s.2 + 1) = s.2 + 1 := by rw [CS]; omega
    rw [e4, Option.bind_some]
    refine Ak.bif (fun _ => ih _ (by simp only []; omega) (by simp only []; omega) (by simp only []; omega)) (fun c1 => Ak.bif (fun _ => ih _ (by simp only []; omega) (by simp only []; omega) (by simp only []; omega)) (fun c2 => ?_))
    have c1 := ne_of_beq_false c1
    have c2 := ne_of_beq_false c2
    omega
theorem WT {a : List Int} (ha : (a.length : Int) = 8192) : Ak (fun r => (r.1.Ij.length : Int) = 65536) (CR.f a) := by
  obtain ⟨p, hp⟩ : ∃ p, LD.f = some p := ⟨_, rfl⟩
  obtain ⟨q, hq⟩ : ∃ q, Fa.f = some q := ⟨_, rfl⟩
  obtain ⟨z, hz⟩ : ∃ z, JD.f = some z := ⟨_, rfl⟩
  unfold CR.f
  rw [hp, hq, hz, Option.bind_some, Option.bind_some, Option.bind_some]
  refine Ak.neg (e := 65536) (by decide) (Ak.bind (Ak.lim (n := (65536 : Int).toNat) (by decide)) (fun _ _ => ?_))
  unfold CR.j1
  exact Wq ha (by simp only [List.length_replicate]; rfl) _ _ (by simp only []; omega) (by simp only []; omega) (by simp only []; omega)
theorem Wt {x : B5} {p s a d w} {at_ v : Int} (hx : (x.Ij.length : Int) = 65536) (h0 : 0 ≤ at_) (h1 : at_ ≤ 65535) : Ak (fun r => (r.Ij.length : Int) = 65536) (BC.f x p s a d w at_ v) := by
  have hj : ∀ m : List Int, (m.length : Int) = 65536 → Ak (fun r => (r.Ij.length : Int) = 65536) (BC.j1 x at_ v m) := fun m hm => by
    unfold BC.j1
    exact Ak.bif (fun _ => Ak.bif (fun _ => Ak.bind (Ak.SO h0 (by omega)) (fun _ _ => Ak.mk (by simp only [List.length_set]; exact hm))) (fun _ => Ak.mk hm)) (fun _ => Ak.mk hm)
  unfold BC.f
  have e := Lm at_ 2048 (by decide)
  exact Ak.bif (fun _ => Ak.bind (Ak.SO (by omega) (by omega)) (fun _ _ => hj _ (by rw [List.length_set]; exact hx))) (fun _ => hj _ hx)
/-! ### a side comes -/
theorem WJ {d : Am} {a : List Int} (h : Bj d) (ha : Qd .u8 a) (hl : a.length ≤ 1073741824) : Ak (fun r => Bj r.2) (IU.f d a) := by
  have x : (d.C5 = -1 ∨ (0 ≤ d.C5 ∧ d.C5 < (d.Bg.length : Int))) ∧ ((d.Bg.length : Int) = 0 ∨ (0 ≤ d.BD ∧ d.BD < (d.Bg.length : Int))) ∧ (d.Bg.length : Int) ≤ 1073741824 := h.x1
  unfold IU.f Es.f
  rw [Option.bind_some]
  refine Ak.bif (fun _ => Ak.mk h) (fun c => Ak.bif (fun _ => Ak.mk h) (fun c2 => Ak.bif (fun _ => Ak.mk h) (fun _ => ?_)))
  have c := of_decide_eq_false c
  have c2 := ne_of_beq_false c2
  rw [show Kot.lim (([] : List Int).length + a.length) = some () by unfold Kot.lim; rw [if_pos (by simp only [List.length_nil]; omega)]]
  unfold EB.f
  refine Ak.mk ⟨ha, h.Jv, ?_⟩
  show (d.C5 = -1 ∨ (0 ≤ d.C5 ∧ d.C5 < (a.length : Int))) ∧ ((a.length : Int) = 0 ∨ (0 ≤ 0 ∧ 0 < (a.length : Int))) ∧ (a.length : Int) ≤ 1073741824
  omega
theorem Vp {d : Bz} {a : List Int} (hl : a.length ≤ 1073741824) : ∃ r, Fe.f d a = some r := by
  have : Ak (fun _ => True) (Fe.f d a) := by
    unfold Fe.f
    exact Ak.bif (fun _ => Ak.mk trivial) (fun _ => Ak.bif (fun _ => Ak.mk trivial) (fun _ => Ak.bind (Ak.lim (by simp only [List.length_nil]; omega)) (fun _ _ => Ak.mk trivial)))
  obtain ⟨r, e, _⟩ := this
  exact ⟨r, e⟩
/-! ### both begin -/
def Zh (s : BS) : Prop := ZD s ∧ s.1.Du = 0 ∧ Us 0 s.2.2.1
theorem Uv {k : IntKind} {xs : List Int} (h : Qd k xs) (n : Nat) : Qd k (xs.take n) := fun z hz => h z (List.mem_of_mem_take hz)
theorem WB {a2 p : List Int} {y : BS} {x} (h2 : Qd .u8 a2) (hl2 : a2.length ≤ 9223372036854775807) (hy : Zh y) (hp : Qd .u8 p) (hpl : (p.length : Int) ≤ 400) : ∀ (n : Nat) (s : A7 × B5 × Int), C9 s.1 → s.1.Du = 0 → (s.2.1.Ij.length : Int) = 65536 → 0 ≤ s.2.2 → s.2.2 ≤ (p.length : Int) → (p.length : Int) - s.2.2 < (n : Int) → Ak (fun r => ∃ z : BS, r.1 = some z ∧ Zh z) (DI.l2 a2 y x p n s) := by
  intro n
  induction n with
  | zero => intro s _ _ _ _ _ _; omega
  | succ n ih =>
    intro s hb hc hm h0 h3 hn
    have hw := hy.1
    unfold DI.l2
    refine Ak.bif (fun c => ?_) (fun _ => ?_)
    · have c := of_decide_eq_true c
      have e1 := CS (24576 + s.2.2)
      have e4 : IntKind.wrap .i64 (s.2.2 + 1) = s.2.2 + 1 := by rw [CS]; omega
      rw [e4]
      refine Ak.bind (Ak.Wj hp h0 c) (fun v hv => Ak.bind (Ak.sat (Ib hb hw.c hw.p hw.so hw.t1 hw.t2 hw.t3 hw.t4 hw.a hw.d hw.w hw.p1 hw.p2 (CZ _) hv) Hz) (fun r hr => Ak.bind (Wt hm (by omega) (by omega)) (fun q hq => ?_)))
      exact ih _ hr.1 (hr.2.Du.trans hc) hq (by simp only []; omega) (by simp only []; omega) (by simp only []; omega)
    · rw [WG a2 200 hl2 (by decide), Option.bind_some]
      unfold Eg.f GX.f
      simp only [Option.bind_some]
      have hl : (a2.take (200 : Int).toNat).length ≤ 1073741824 := by rw [List.length_take]; exact Nat.le_trans (Nat.min_le_left _ _) (by decide)
      refine Ak.bind (WJ hw.d (Uv h2 _) hl) (fun d hd => ?_)
      obtain ⟨r, hr⟩ := Vp (d := ⟨([] : List Int), x.2.2.2.2.1.Ik, x.2.2.2.2.1.Ii, x.2.2.2.2.1.BL, x.2.2.2.2.1.Gw, x.2.2.2.2.1.JM, x.2.2.2.2.1.Il, x.2.2.2.2.1.Qc⟩) hl
      rw [hr]
      exact Ak.mk ⟨_, rfl, ⟨hb, hw.c, hw.p, hw.so, hw.t1, hw.t2, hw.t3, hw.t4, hw.a, hd, hw.w, hw.p1, hw.p2⟩, hc, hy.2.2⟩
theorem Xo {a0 a1 a2 : List Int} (a3 : Int) (h0 : Qd .u8 a0) (h1 : Qd .u8 a1) (hl1 : a1.length ≤ 9223372036854775807) (h2 : Qd .u8 a2) (hl2 : a2.length ≤ 9223372036854775807) : Ak (fun r => ∃ z : BS, r.1 = some z ∧ Zh z) (DI.f a0 a1 a2 a3) := by
  unfold DI.f
  refine Ak.bind (VT h0 _ _ _) (fun L hL => ?_)
  obtain ⟨y, e, hy⟩ := YK hL.2 hL.1
  rw [e, Option.bind_some]
  show Ak _ ((BB.f a0 57360 a3 57408).bind _)
  refine Ak.bind (VT h0 _ _ _) (fun L2 hL2 => Ak.bind (WT (by rw [hL2.2]; rfl)) (fun x hx => ?_))
  rw [WG a1 400 hl1 (by decide), Option.bind_some]
  exact WB h2 hl2 hy (Uv h1 _) (by rw [List.length_take]; omega) _ _ hy.1.b hy.2.1 hx (by simp only []; omega) (by simp only []; omega) (by simp only []; omega)
/-! ### the document's example -/
theorem YR (k m : Nat) (x y : Int) : (List.replicate k x ++ List.replicate (m + 1) y).set k x = List.replicate (k + 1) x ++ List.replicate m y := by
  rw [List.set_append_right _ _ (by rw [List.length_replicate]; exact Nat.le_refl _), List.length_replicate, Nat.sub_self, List.replicate_succ, List.set_cons_zero, List.replicate_succ', List.append_assoc]
  rfl
theorem Vu (x y z : Int) : ∀ (m k f : Nat), k + m = 8192 → m < f → BB.l1 [] x y z f (List.replicate k 234 ++ List.replicate m 0, (k : Int)) = BB.l4 x y z 5 (List.replicate 8192 234, 0)
  | m, k, f, hk, hf => by
    obtain ⟨f, rfl⟩ : ∃ g, f = g + 1 := ⟨f - 1, by omega⟩
    rw [BB.l1]
    simp only []
    rw [show ((List.replicate (8192 : Int).toNat (0 : Int)).length : Int) = 8192 by rw [List.length_replicate]; rfl]
    cases m with
    | zero =>
      rw [decide_eq_false (by omega : ¬ ((k : Int) < 8192)), cond_false, List.replicate_zero, List.append_nil, show k = 8192 by omega]
      rfl
    | succ m =>
      rw [decide_eq_true (by omega : (k : Int) < 8192), cond_true]
      obtain ⟨v, hv⟩ := Wl (xs := List.replicate k (234 : Int) ++ List.replicate (m + 1) 0) (i := (k : Int)) (by omega) (by rw [List.length_append, List.length_replicate, List.length_replicate]; omega)
      rw [hv, Option.bind_some, show decide (0 < (([] : List Int).length : Int)) = false from rfl, cond_false, Int.toNat_natCast, YR, Y4 (by omega)]
      exact Vu x y z m (k + 1) f (by omega) (by omega)
def ZR : List Int := (((((((List.replicate 8192 234).set 8186 0).set 8187 224).set 8188 0).set 8189 224).set 8190 0).set 8191 224)
theorem Aas {α : Type} {c : Bool} {a b : α} (h : c = false) : (bif c then a else b) = b := by rw [h]; rfl
theorem XU (R : List Int) (hl : R.length = 8192) : BB.l4 57344 57344 57344 5 (R, 0) = some ((((((R.set 8186 0).set 8187 224).set 8188 0).set 8189 224).set 8190 0).set 8191 224) := by
  have g : ∀ (xs : List Int) (i : Int), 0 ≤ i → i < 8192 → xs.length = 8192 → ∃ z, Kot.IE xs i = some z := fun xs i h0 h1 h2 => Wl h0 (by omega)
  obtain ⟨z1, e1⟩ := g R 8186 (by decide) (by decide) hl
  obtain ⟨z2, e2⟩ := g (R.set 8186 0) 8187 (by decide) (by decide) (by rw [List.length_set]; exact hl)
  obtain ⟨z3, e3⟩ := g ((R.set 8186 0).set 8187 224) 8188 (by decide) (by decide) (by rw [List.length_set, List.length_set]; exact hl)
  obtain ⟨z4, e4⟩ := g (((R.set 8186 0).set 8187 224).set 8188 0) 8189 (by decide) (by decide) (by rw [List.length_set, List.length_set, List.length_set]; exact hl)
  obtain ⟨z5, e5⟩ := g ((((R.set 8186 0).set 8187 224).set 8188 0).set 8189 224) 8190 (by decide) (by decide) (by rw [List.length_set, List.length_set, List.length_set, List.length_set]; exact hl)
  obtain ⟨z6, e6⟩ := g (((((R.set 8186 0).set 8187 224).set 8188 0).set 8189 224).set 8190 0) 8191 (by decide) (by decide) (by rw [List.length_set, List.length_set, List.length_set, List.length_set, List.length_set]; exact hl)
  have s0 : BB.l4 57344 57344 57344 5 (R, 0) = ((Kot.IE R 8186).bind fun _ => (Kot.IE (R.set 8186 0) 8187).bind fun _ => BB.l4 57344 57344 57344 4 ((R.set 8186 0).set 8187 224, 1)) := rfl
  have s1 : ∀ R2, BB.l4 57344 57344 57344 4 (R2, 1) = ((Kot.IE R2 8188).bind fun _ => (Kot.IE (R2.set 8188 0) 8189).bind fun _ => BB.l4 57344 57344 57344 3 ((R2.set 8188 0).set 8189 224, 2)) := fun _ => rfl
  have s2 : ∀ R3, BB.l4 57344 57344 57344 3 (R3, 2) = ((Kot.IE R3 8190).bind fun _ => (Kot.IE (R3.set 8190 0) 8191).bind fun _ => BB.l4 57344 57344 57344 2 ((R3.set 8190 0).set 8191 224, 3)) := fun _ => rfl
  have s3 : ∀ R4, BB.l4 57344 57344 57344 2 (R4, 3) = some R4 := fun _ => rfl
  rw [s0, e1, Option.bind_some, e2, Option.bind_some, s1, e3, Option.bind_some, e4, Option.bind_some, s2, e5, Option.bind_some, e6, Option.bind_some, s3]
theorem ZS (x y z : Int) : BB.f [] x y z = BB.l1 [] x y z (8192 + 2) (List.replicate 8192 0, 0) := by
  unfold BB.f
  refine (Aas (by decide)).trans ?_
  have h : ∀ n : Nat, n = 8192 → ((Kot.lim n).bind fun _ => BB.l1 [] x y z ((((List.replicate n (0 : Int)).length : Int) - 0 : Int).toNat + 2) (List.replicate n 0, 0)) = BB.l1 [] x y z (8192 + 2) (List.replicate 8192 0, 0) := fun n hn => by
    subst hn
    rw [show Kot.lim 8192 = some () from rfl, Option.bind_some, List.length_replicate]
    rfl
  exact h _ rfl
theorem XV : BB.f [] 57344 57344 57344 = some ZR := by
  rw [ZS]
  have h := Vu 57344 57344 57344 8192 0 (8192 + 2) rfl (by decide)
  rw [List.replicate_zero, List.nil_append] at h
  exact h.trans (XU _ List.length_replicate)
theorem W9 : EI.f = some true := by
  unfold EI.f
  rw [XV, Option.bind_some]
  decide +kernel
/-! ### the law -/
def ZC (s : BS) (i : Int) : A7 × Ag × Ac × Al × Aa × Aa × Aa × Aa × Ai × Am × An × Int × Int × Bool × Int × Int × Bool × Int :=
  (s.1, s.2.1, s.2.2.1, s.2.2.2.1, s.2.2.2.2.1, s.2.2.2.2.2.1, s.2.2.2.2.2.2.1, s.2.2.2.2.2.2.2.1, s.2.2.2.2.2.2.2.2.1, s.2.2.2.2.2.2.2.2.2.1, s.2.2.2.2.2.2.2.2.2.2.1, s.2.2.2.2.2.2.2.2.2.2.2.1.Ba, s.2.2.2.2.2.2.2.2.2.2.2.1.Bw, s.2.2.2.2.2.2.2.2.2.2.2.1.BA, s.2.2.2.2.2.2.2.2.2.2.2.2.Ba, s.2.2.2.2.2.2.2.2.2.2.2.2.Bw, s.2.2.2.2.2.2.2.2.2.2.2.2.BA, i)
theorem Ww {a2 k x : Int} {s : BS} (hk : Int.tmod (IntKind.wrap .i64 a2) 29000 = k) (h0 : 0 ≤ k) (h1 : k < 29000) (hc : s.1.Du = k) (hi : Us (3 * k) s.2.2.1) (hx : s.2.2.1.Cm = x) : B9.j8 a2 (ZC s k) (s.2.2.1.Av, s.2.2.1.Ca) x = some true := by
  have e : B9.j8 a2 (ZC s k) (s.2.2.1.Av, s.2.2.1.Ca) x = (bif s.1.Du == (Int.tmod (IntKind.wrap .i64 a2) 29000) then (bif (IntKind.wrap .i64 ((IntKind.wrap .i64 (341 * s.2.2.1.Av)) + s.2.2.1.Ca)) == (IntKind.wrap .i64 (3 * (Int.tmod (IntKind.wrap .i64 a2) 29000))) then some (s.2.2.1.Cm == x) else some false) else some false) := rfl
  obtain ⟨g1, g2, g3, g4, g5, g6, g7⟩ := hi
  rw [e, hk, hc, hx, Vf (i := 341 * s.2.2.1.Av) (by omega) (by omega), Vf (by omega) (by omega), Vf (i := 3 * k) (by omega) (by omega), g1, beq_self_eq_true, beq_self_eq_true, beq_self_eq_true]
  rfl
theorem Y1 {a2 k : Int} (hk : Int.tmod (IntKind.wrap .i64 a2) 29000 = k) (h0 : 0 ≤ k) (h1 : k < 29000) : ∀ (n : Nat) (s : BS) (i : Int), ZD s → 0 ≤ i → i ≤ k → k - i < (n : Int) → s.1.Du = i → Us (3 * i) s.2.2.1 → B9.l5 a2 n (ZC s i) = some true := by
  intro n
  induction n with
  | zero => intro s i _ _ _ _ _ _; omega
  | succ n ih =>
    intro s i h hi0 hi1 hm hc hi
    have e : B9.l5 a2 (n + 1) (ZC s i) = (bif decide (i < Int.tmod (IntKind.wrap .i64 a2) 29000) then ((cyc s).bind fun r => B9.l5 a2 n (ZC r (IntKind.wrap .i64 (i + 1)))) else (bif decide (82183 ≤ IntKind.wrap .i64 (3 * (Int.tmod (IntKind.wrap .i64 a2) 29000))) then B9.j8 a2 (ZC s i) (s.2.2.1.Av, s.2.2.1.Ca) 1 else B9.j8 a2 (ZC s i) (s.2.2.1.Av, s.2.2.1.Ca) 0)) := rfl
    rw [e, hk]
    by_cases c : i < k
    · rw [ltT c, cond_true]
      obtain ⟨r, e2, hr, ht⟩ := Ak.sat (YD h) (Xu hc (by omega) hi)
      have ew : IntKind.wrap .i64 (i + 1) = i + 1 := Vf (by omega) (by omega)
      rw [e2, Option.bind_some, ew]
      exact ih r (i + 1) hr (by omega) (by omega) (by omega) (by rw [ht.1, ew]) (by rw [show 3 * (i + 1) = 3 * i + 3 by omega]; exact ht.2)
    · have ei : i = k := by omega
      subst ei
      rw [ltF (by omega), cond_false, Vf (by omega) (by omega)]
      have hf := hi.fr
      by_cases c2 : 82183 ≤ 3 * i
      · rw [decide_eq_true c2, cond_true]
        exact Ww hk h0 h1 hc hi (by omega)
      · rw [decide_eq_false c2, cond_false]
        exact Ww hk h0 h1 hc hi (by omega)
theorem Y2 {a0 a1 : List Int} {a2 : Int} (h0 : Qd .u8 a0) (h1 : Qd .u8 a1) (hl1 : a1.length ≤ 9223372036854775807) (h2 : In .u16 a2) : B9.f a0 a1 a2 = some true := by
  have h2 := DT h2
  have ew : IntKind.wrap .i64 a2 = a2 := Vf (by omega) (by omega)
  have hk := Lm a2 29000 (by decide)
  unfold B9.f
  rw [W9, Option.bind_some, WG a1 20 hl1 (by decide)]
  show ((DI.f a0 (a1.take (20 : Int).toNat) [] 24576).bind _) = some true
  obtain ⟨r, e, z, hz, hw, hc, hi⟩ := Xo 24576 h0 (Uv h1 (20 : Int).toNat) (by rw [List.length_take]; omega) VR (Nat.zero_le _)
  rw [e, Option.bind_some, hz]
  exact Y1 rfl (by rw [ew]; omega) (by rw [ew]; omega) _ z 0 hw (by omega) (by rw [ew]; omega) (by omega) hc (by rw [show (3 : Int) * 0 = 0 from rfl]; exact hi)
theorem Zb {k : IntKind} {a : Int} (h : (Lit.int k a).wf = true) : In k a := by
  have h : (decide (k.min ≤ a) && decide (a ≤ k.max)) = true := h
  rw [Bool.and_eq_true] at h
  exact ⟨of_decide_eq_true h.1, of_decide_eq_true h.2⟩
theorem WZ {k : IntKind} {l : List Int} (h : ∀ a ∈ l, (Lit.int k a).wf = true) : Qd k l := fun z hz => Zb (h z hz)
theorem Z5 {n : Nat} (h : n ≤ maxLen) : n ≤ 9223372036854775807 := h
theorem B9.pure : ∀ (a0 : List Int), (a0.length ≤ maxLen ∧ ∀ a ∈ a0, (Lit.int .u8 a).wf = true) → ∀ (a1 : List Int), (a1.length ≤ maxLen ∧ ∀ a ∈ a1, (Lit.int .u8 a).wf = true) → ∀ (a2 : Int), (Lit.int .u16 a2).wf = true → B9.f a0 a1 a2 = some true := by
  intro a0 h0 a1 h1 a2 h2
  exact Y2 (WZ h0.2) (WZ h1.2) (Z5 h1.1) (Zb h2)
end Go.Proofs.YtkjkgdhgcdgbhaaGreatDoor
