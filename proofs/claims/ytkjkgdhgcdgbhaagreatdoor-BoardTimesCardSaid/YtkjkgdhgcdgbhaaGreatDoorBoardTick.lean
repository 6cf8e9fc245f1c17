/- What a cycle does to the picture's place: three dots, as long as the first picture goes on. -/
import Derived.Test.YtkjkgdhgcdgbhaaGreatDoorTotS
namespace Go.Proofs.YtkjkgdhgcdgbhaaGreatDoor
open Kot Go
set_option maxRecDepth 100000
set_option linter.unusedVariables false
structure Us (m : Int) (p : Ac) : Prop where
  at_ : 341 * p.Av + p.Ca = m
  l0 : 0 ≤ p.Av
  l1 : p.Av ≤ 261
  d0 : 0 ≤ p.Ca
  d1 : p.Ca ≤ 340
  odd : p.EZ = false
  fr : (82183 ≤ m ∧ p.Cm = 1) ∨ (m < 82183 ∧ p.Cm = 0)
theorem Us.same {m : Int} {p q : Ac} (h : Us m p) (g : GM q p) : Us m q :=
  ⟨by rw [g.Av, g.Ca]; exact h.at_, by rw [g.Av]; exact h.l0, by rw [g.Av]; exact h.l1, by rw [g.Ca]; exact h.d0, by rw [g.Ca]; exact h.d1, by rw [g.EZ]; exact h.odd, by rw [g.Cm]; exact h.fr⟩
structure Y5 (m : Int) (p : Ac) : Prop where
  at_ : 341 * p.Av + p.Ca = m
  l0 : 0 ≤ p.Av
  l1 : p.Av ≤ 261
  d0 : 0 ≤ p.Ca
  d1 : p.Ca ≤ 340
  odd : p.EZ = false
  fr : (82183 ≤ m + 1 ∧ p.Cm = 1) ∨ (m + 1 < 82183 ∧ p.Cm = 0)
theorem Y5.same {m : Int} {p q : Ac} (h : Y5 m p) (g : GM q p) : Y5 m q :=
  ⟨by rw [g.Av, g.Ca]; exact h.at_, by rw [g.Av]; exact h.l0, by rw [g.Av]; exact h.l1, by rw [g.Ca]; exact h.d0, by rw [g.Ca]; exact h.d1, by rw [g.EZ]; exact h.odd, by rw [g.Cm]; exact h.fr⟩
theorem Uy {m d : Int} {p : Ac} (h : Y5 m p) (hm : m + 1 < 89342) (hd : d = p.Ca + 1) : Dz (Us (m + 1)) (Bf.j1 p d) := by
  obtain ⟨h1, h2, h3, h4, h5, h6, h7⟩ := h
  have e : IntKind.wrap .i64 (p.Av + 1) = p.Av + 1 := by rw [CS]; omega
  unfold Bf.j1
  rw [e]
  by_cases c : d < 341
  · rw [decide_eq_true c]
    exact Dz.mk ⟨by simp only []; omega, h2, h3, by simp only []; omega, by simp only []; omega, h6, h7⟩
  · rw [decide_eq_false c]
    by_cases c2 : p.Av + 1 = 262
    · exact (by omega : False).elim
    · rw [show (p.Av + 1 == 262) = false from beq_eq_false_iff_ne.2 c2]
      exact Dz.mk ⟨by simp only []; omega, by simp only []; omega, by simp only []; omega, by simp only []; omega, by simp only []; omega, h6, h7⟩
theorem Ym {m : Int} {p : Ac} (h : Y5 m p) (hm : m + 1 < 89342) : Dz (Us (m + 1)) (Bf.f p) := by
  have h4 := h.d0
  have h5 := h.d1
  have e : IntKind.wrap .i64 (p.Ca + 1) = p.Ca + 1 := by rw [CS]; omega
  unfold Bf.f
  rw [e, h.odd]
  exact Dz.bif (Dz.bif (Uy h hm rfl) (Uy h hm rfl)) (Uy h hm rfl)
theorem V3 {m : Int} {p : Ac} (h : Y5 m p) (hm : m + 1 < 89342) : Dz (Us (m + 1)) ((Bf.f p).bind fun r => some r) := Dz.bind (Ym h hm) (fun _ hr => Dz.mk hr)
theorem WE {m : Int} {p : Ac} {x : Bool} (h : Y5 m p) (hm : m + 1 < 89342) : Dz (Us (m + 1)) ((AB.f p x).bind fun q => (Bf.f q).bind fun r => some r) :=
  Dz.bind Pk (fun _ hq => V3 (h.same hq) hm)
theorem Uf {m : Int} {p : Ac} {x c : Bool} (h : Y5 m p) (hm : m + 1 < 89342) : Dz (Us (m + 1)) (bif c then ((AB.f p x).bind fun q => (Bf.f q).bind fun r => some r) else ((Bf.f p).bind fun r => some r)) :=
  Dz.bif (WE h hm) (V3 h hm)
theorem VH {m : Int} {p q : Ac} (h : Y5 m q) (hm : m + 1 < 89342) : Dz (Us (m + 1)) (AR.j3 p q) := by
  unfold AR.j3
  refine Dz.IY (fun _ => Dz.bif (Dz.bif ?_ (Dz.bif ?_ ?_)) ?_)
  · exact Dz.bind MJ (fun _ hq => Uf (h.same hq) hm)
  · exact Dz.bind MJ (fun _ hq => Uf (h.same hq) hm)
  · exact Uf h hm
  · exact Uf h hm
theorem VG {m : Int} {p : Ac} {s : Int × Int} (h : Us m p) (hs : (82183 ≤ m + 1 ∧ s.2 = 1) ∨ (m + 1 < 82183 ∧ s.2 = 0)) (hm : m + 1 < 89342) : Dz (Us (m + 1)) (AR.j1 p s) := by
  have hM : Y5 m (⟨p.BK, p.BU, p.Bu, p.Cn, p.Df, p.AY, p.Aq, p.Cg, s.1, p.AV, p.CV, p.Cz, p.Av, p.Ca, p.EZ, s.2, p.AP, p.BF⟩ : Ac) := ⟨h.at_, h.l0, h.l1, h.d0, h.d1, h.odd, hs⟩
  unfold AR.j1
  refine Dz.bif (Dz.bif (Dz.bif (Dz.bind PK (fun _ hq => VH (hM.same hq) hm)) (VH hM hm)) (VH hM hm)) (VH hM hm)
theorem Xe {m : Int} {p : Ac} (h : Us m p) (hn : m + 1 ≠ 82183) (hm : m + 1 < 89342) : Dz (Us (m + 1)) (AR.j2 p false) := by
  have h7 := h.fr
  show Dz (Us (m + 1)) (bif p.Av == 261 then (bif p.Ca == 1 then AR.j1 p (0, p.Cm) else AR.j1 p (p.BZ, p.Cm)) else AR.j1 p (p.BZ, p.Cm))
  exact Dz.bif (Dz.bif (VG h (by simp only []; omega) hm) (VG h (by simp only []; omega) hm)) (VG h (by simp only []; omega) hm)
theorem Xt {m : Int} {p : Ac} (h : Us m p) (hm : m + 1 < 89342) : Dz (Us (m + 1)) (AR.f p) := by
  have g := h
  obtain ⟨h1, h2, h3, h4, h5, h6, h7⟩ := h
  unfold AR.f
  by_cases c : p.Av = 241
  · rw [show (p.Av == 241) = true from beq_iff_eq.2 c, cond_true]
    by_cases c2 : p.Ca = 1
    · rw [show (p.Ca == 1) = true from beq_iff_eq.2 c2]
      have e : IntKind.wrap .i64 (p.Cm + 1) = p.Cm + 1 := by rw [CS]; omega
      show Dz (Us (m + 1)) (AR.j1 p (M5 .u8 p.BZ 128, IntKind.wrap .i64 (p.Cm + 1)))
      rw [e]
      exact VG g (by simp only []; omega) hm
    · rw [show (p.Ca == 1) = false from beq_eq_false_iff_ne.2 c2]
      exact Xe g (by omega) hm
  · rw [show (p.Av == 241) = false from beq_eq_false_iff_ne.2 c, cond_false]
    exact Xe g (by omega) hm
/-! ### the cycle -/
def Tk (c m : Int) (r : A7 × Ag × Ac × Al × Aa × Aa × Aa × Aa × Ai × Am × An × AL × AL) : Prop := r.1.Du = IntKind.wrap .i64 (c + 1) ∧ Us m r.2.2.1
theorem Z0 {c m : Int} {s0} (hc : s0.1.Du = c) (hm : m < 89342) : ∀ (n : Nat) (s : Ac × Int), Us (m - 3 + s.2) s.1 → 0 ≤ s.2 → s.2 ≤ 3 → Dz (Tk c m) (Aj.l4 s0 n s) := by
  intro n
  induction n with
  | zero => intro s _ _ _; exact Dz.none
  | succ n ih =>
    intro s h h0 h3
    unfold Aj.l4
    by_cases c3 : s.2 < 3
    · rw [decide_eq_true c3, cond_true]
      have e : IntKind.wrap .i64 (s.2 + 1) = s.2 + 1 := by rw [CS]; omega
      refine Dz.IY (fun _ => Dz.bind OM (fun q hq => Dz.bind (Xt (h.same hq) (by omega)) (fun r hr => ?_)))
      exact ih _ (by rw [e]; exact (by rw [show m - 3 + (s.2 + 1) = m - 3 + s.2 + 1 by omega]; exact hr)) (by simp only []; omega) (by simp only []; omega)
    · rw [decide_eq_false c3, cond_false]
      refine Dz.IY (fun _ => Dz.IY (fun _ => Dz.mk ⟨by simp only [hc], ?_⟩))
      simp only []
      rw [show m = m - 3 + s.2 by omega]
      exact h
theorem WL {c m : Int} {s0} (hc : s0.1.Du = c) (hm : m + 3 < 89342) (h : Us m s0.2.2.1) : Dz (Tk c (m + 3)) (Aj.j2 s0) := by
  unfold Aj.j2
  exact Z0 hc hm _ _ (by simp only []; rw [show m + 3 - 3 + 0 = m by omega]; exact h) (by simp only []; omega) (by simp only []; omega)
theorem Xf {c m : Int} {k a s0} (hc : s0.1.Du = c) (hm : m + 3 < 89342) (h : Us m s0.2.1) : Dz (Tk c (m + 3)) (Aj.j3 k a s0) := by
  unfold Aj.j3
  refine Dz.bif (Dz.IY (fun _ => Dz.bif (Dz.bind Ig (fun r hr => Dz.IY (fun _ => ?_))) (Dz.bind F6 (fun r hr => Dz.IY (fun _ => ?_))))) ?_
  · exact WL (hr.1.Du.trans hc) hm (h.same hr.2)
  · exact WL (hr.1.Du.trans hc) hm (h.same hr.2)
  · exact WL hc hm h
theorem Xu {c m : Int} {a0 a1 a2 a3 a4 a5 a6 a7 a8 a9 b0 b1 b2} (hc : a0.Du = c) (hm : m + 3 < 89342) (h : Us m a2) : Dz (Tk c (m + 3)) (Aj.f a0 a1 a2 a3 a4 a5 a6 a7 a8 a9 b0 b1 b2) := by
  have hj : ∀ s, Dz (Tk c (m + 3)) (Aj.j1 a0 a1 a2 a3 a4 a5 a6 a7 a8 a9 b0 b1 b2 s) := fun s => by
    unfold Aj.j1
    refine Dz.bind Lb (fun r hr => Dz.bif (Dz.bind Ld (fun q hq => ?_)) ?_)
    · exact Xf (hq.1.Du.trans (hr.1.Du.trans hc)) hm ((h.same hr.2).same hq.2)
    · exact Xf (hr.1.Du.trans hc) hm (h.same hr.2)
  unfold Aj.f
  exact Dz.IY (fun _ => Dz.bif (Dz.IY (fun _ => hj _)) (Dz.IY (fun _ => Dz.IY (fun _ => hj _))))
end Go.Proofs.YtkjkgdhgcdgbhaaGreatDoor
