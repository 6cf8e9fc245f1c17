/- What a cycle does to the picture's place: three dots, as long as the first picture goes on. -/
import Derived.Test.YtkjkgdhgcdgbhaaGreatDoorTotS
namespace Go.Proofs.YtkjkgdhgcdgbhaaGreatDoor
open Kot Go
set_option maxRecDepth 100000
structure U4 (m : Int) (p : Ac) : Prop where
  at_ : 341 * p.Av + p.Cc = m
  l0 : 0 ≤ p.Av
  l1 : p.Av ≤ 261
  d0 : 0 ≤ p.Cc
  d1 : p.Cc ≤ 340
  odd : p.EY = false
  fr : (82183 ≤ m ∧ p.Cn = 1) ∨ (m < 82183 ∧ p.Cn = 0)
theorem U4.same {m : Int} {p q : Ac} (h : U4 m p) (g : GR q p) : U4 m q :=
  ⟨by rw [g.Av, g.Cc]; exact h.at_, by rw [g.Av]; exact h.l0, by rw [g.Av]; exact h.l1, by rw [g.Cc]; exact h.d0, by rw [g.Cc]; exact h.d1, by rw [g.EY]; exact h.odd, by rw [g.Cn]; exact h.fr⟩
structure Y6 (m : Int) (p : Ac) : Prop where
  at_ : 341 * p.Av + p.Cc = m
  l0 : 0 ≤ p.Av
  l1 : p.Av ≤ 261
  d0 : 0 ≤ p.Cc
  d1 : p.Cc ≤ 340
  odd : p.EY = false
  fr : (82183 ≤ m + 1 ∧ p.Cn = 1) ∨ (m + 1 < 82183 ∧ p.Cn = 0)
theorem Y6.same {m : Int} {p q : Ac} (h : Y6 m p) (g : GR q p) : Y6 m q :=
  ⟨by rw [g.Av, g.Cc]; exact h.at_, by rw [g.Av]; exact h.l0, by rw [g.Av]; exact h.l1, by rw [g.Cc]; exact h.d0, by rw [g.Cc]; exact h.d1, by rw [g.EY]; exact h.odd, by rw [g.Cn]; exact h.fr⟩
theorem Uw {m d : Int} {p : Ac} (h : Y6 m p) (hm : m + 1 < 89342) (hd : d = p.Cc + 1) : Dz (U4 (m + 1)) (Be.j1 p d) := by
  obtain ⟨h1, h2, h3, h4, h5, h6, h7⟩ := h
  have e : IntKind.wrap .i64 (p.Av + 1) = p.Av + 1 := by rw [CS]; omega
  unfold Be.j1
  rw [e]
  by_cases c : d < 341
  · rw [decide_eq_true c]
    exact Dz.mk ⟨by simp only []; omega, h2, h3, by simp only []; omega, by simp only []; omega, h6, h7⟩
  · rw [decide_eq_false c]
    by_cases c2 : p.Av + 1 = 262
    · exact (by omega : False).elim
    · rw [show (p.Av + 1 == 262) = false from beq_eq_false_iff_ne.2 c2]
      exact Dz.mk ⟨by simp only []; omega, by simp only []; omega, by simp only []; omega, by simp only []; omega, by simp only []; omega, h6, h7⟩
theorem XK {m : Int} {p : Ac} (h : Y6 m p) (hm : m + 1 < 89342) : Dz (U4 (m + 1)) (Be.f p) := by
  have h4 := h.d0
  have h5 := h.d1
  have e : IntKind.wrap .i64 (p.Cc + 1) = p.Cc + 1 := by rw [CS]; omega
  unfold Be.f
  rw [e, h.odd]
  exact Dz.bif (Dz.bif (Uw h hm rfl) (Uw h hm rfl)) (Uw h hm rfl)
theorem Vz {m : Int} {p : Ac} (h : Y6 m p) (hm : m + 1 < 89342) : Dz (U4 (m + 1)) ((Be.f p).bind fun r => some r) := Dz.bind (XK h hm) (fun _ hr => Dz.mk hr)
theorem WB {m : Int} {p : Ac} {x : Bool} (h : Y6 m p) (hm : m + 1 < 89342) : Dz (U4 (m + 1)) ((AB.f p x).bind fun q => (Be.f q).bind fun r => some r) :=
  Dz.bind Pk (fun _ hq => Vz (h.same hq) hm)
theorem Uf {m : Int} {p : Ac} {x c : Bool} (h : Y6 m p) (hm : m + 1 < 89342) : Dz (U4 (m + 1)) (bif c then ((AB.f p x).bind fun q => (Be.f q).bind fun r => some r) else ((Be.f p).bind fun r => some r)) :=
  Dz.bif (WB h hm) (Vz h hm)
theorem VK {m : Int} {p q : Ac} (h : Y6 m q) (hm : m + 1 < 89342) : Dz (U4 (m + 1)) (AR.j3 p q) := by
  unfold AR.j3
  refine Dz.IZ (fun _ => Dz.bif (Dz.bif ?_ (Dz.bif ?_ ?_)) ?_)
  · exact Dz.bind MI (fun _ hq => Uf (h.same hq) hm)
  · exact Dz.bind MI (fun _ hq => Uf (h.same hq) hm)
  · exact Uf h hm
  · exact Uf h hm
theorem VA {m : Int} {p : Ac} {s : Int × Int} (h : U4 m p) (hs : (82183 ≤ m + 1 ∧ s.2 = 1) ∨ (m + 1 < 82183 ∧ s.2 = 0)) (hm : m + 1 < 89342) : Dz (U4 (m + 1)) (AR.j1 p s) := by
  have hM : Y6 m (⟨p.BK, p.BU, p.Bu, p.Cm, p.Dg, p.AY, p.Aq, p.Cg, s.1, p.AV, p.CU, p.Cz, p.Av, p.Cc, p.EY, s.2, p.AP, p.BF⟩ : Ac) := ⟨h.at_, h.l0, h.l1, h.d0, h.d1, h.odd, hs⟩
  unfold AR.j1
  refine Dz.bif (Dz.bif (Dz.bif (Dz.bind PI (fun _ hq => VK (hM.same hq) hm)) (VK hM hm)) (VK hM hm)) (VK hM hm)
theorem Xa {m : Int} {p : Ac} (h : U4 m p) (hn : m + 1 ≠ 82183) (hm : m + 1 < 89342) : Dz (U4 (m + 1)) (AR.j2 p false) := by
  have h7 := h.fr
  show Dz (U4 (m + 1)) (bif p.Av == 261 then (bif p.Cc == 1 then AR.j1 p (0, p.Cn) else AR.j1 p (p.BZ, p.Cn)) else AR.j1 p (p.BZ, p.Cn))
  exact Dz.bif (Dz.bif (VA h (by simp only []; omega) hm) (VA h (by simp only []; omega) hm)) (VA h (by simp only []; omega) hm)
theorem Xv {m : Int} {p : Ac} (h : U4 m p) (hm : m + 1 < 89342) : Dz (U4 (m + 1)) (AR.f p) := by
  have g := h
  obtain ⟨h1, h2, h3, h4, h5, h6, h7⟩ := h
  unfold AR.f
  by_cases c : p.Av = 241
  · rw [show (p.Av == 241) = true from beq_iff_eq.2 c, cond_true]
    by_cases c2 : p.Cc = 1
    · rw [show (p.Cc == 1) = true from beq_iff_eq.2 c2]
      have e : IntKind.wrap .i64 (p.Cn + 1) = p.Cn + 1 := by rw [CS]; omega
      show Dz (U4 (m + 1)) (AR.j1 p (Mv .u8 p.BZ 128, IntKind.wrap .i64 (p.Cn + 1)))
      rw [e]
      exact VA g (by simp only []; omega) hm
    · rw [show (p.Cc == 1) = false from beq_eq_false_iff_ne.2 c2]
      exact Xa g (by omega) hm
  · rw [show (p.Av == 241) = false from beq_eq_false_iff_ne.2 c, cond_false]
    exact Xa g (by omega) hm
/-! ### the cycle -/
def Tk (c m : Int) (r : A7 × Ag × Ac × Al × Aa × Aa × Aa × Aa × Ai × Am × An × AL × AL) : Prop := r.1.Dt = IntKind.wrap .i64 (c + 1) ∧ U4 m r.2.2.1
theorem Z9 {c m : Int} {s0} (hc : s0.1.Dt = c) (hm : m < 89342) : ∀ (n : Nat) (s : Ac × Int), U4 (m - 3 + s.2) s.1 → 0 ≤ s.2 → s.2 ≤ 3 → Dz (Tk c m) (Aj.l4 s0 n s) := by
  intro n
  induction n with
  | zero => intro s _ _ _; exact Dz.none
  | succ n ih =>
    intro s h h0 h3
    unfold Aj.l4
    by_cases c3 : s.2 < 3
    · rw [decide_eq_true c3, cond_true]
      have e : IntKind.wrap .i64 (s.2 + 1) = s.2 + 1 := by rw [CS]; omega
      refine Dz.IZ (fun _ => Dz.bind OK (fun q hq => Dz.bind (Xv (h.same hq) (by omega)) (fun r hr => ?_)))
      exact ih _ (by rw [e]; exact (by rw [show m - 3 + (s.2 + 1) = m - 3 + s.2 + 1 by omega]; exact hr)) (by simp only []; omega) (by simp only []; omega)
    · rw [decide_eq_false c3, cond_false]
      refine Dz.IZ (fun _ => Dz.IZ (fun _ => Dz.mk ⟨by simp only [hc], ?_⟩))
      simp only []
      rw [show m = m - 3 + s.2 by omega]
      exact h
theorem WX {c m : Int} {s0} (hc : s0.1.Dt = c) (hm : m + 3 < 89342) (h : U4 m s0.2.2.1) : Dz (Tk c (m + 3)) (Aj.j2 s0) := by
  unfold Aj.j2
  exact Z9 hc hm _ _ (by simp only []; rw [show m + 3 - 3 + 0 = m by omega]; exact h) (by simp only []; omega) (by simp only []; omega)
theorem Xh {c m : Int} {k a s0} (hc : s0.1.Dt = c) (hm : m + 3 < 89342) (h : U4 m s0.2.1) : Dz (Tk c (m + 3)) (Aj.j3 k a s0) := by
  unfold Aj.j3
  refine Dz.bif (Dz.IZ (fun _ => Dz.bif (Dz.bind Ic (fun r hr => Dz.IZ (fun _ => ?_))) (Dz.bind F8 (fun r hr => Dz.IZ (fun _ => ?_))))) ?_
  · exact WX (hr.1.Dt.trans hc) hm (h.same hr.2)
  · exact WX (hr.1.Dt.trans hc) hm (h.same hr.2)
  · exact WX hc hm h
theorem Xz {c m : Int} {a0 a1 a2 a3 a4 a5 a6 a7 a8 a9 b0 b1 b2} (hc : a0.Dt = c) (hm : m + 3 < 89342) (h : U4 m a2) : Dz (Tk c (m + 3)) (Aj.f a0 a1 a2 a3 a4 a5 a6 a7 a8 a9 b0 b1 b2) := by
  have hj : ∀ s, Dz (Tk c (m + 3)) (Aj.j1 a0 a1 a2 a3 a4 a5 a6 a7 a8 a9 b0 b1 b2 s) := fun s => by
    unfold Aj.j1
    refine Dz.bind Lb (fun r hr => Dz.bif (Dz.bind Ld (fun q hq => ?_)) ?_)
    · exact Xh (hq.1.Dt.trans (hr.1.Dt.trans hc)) hm ((h.same hr.2).same hq.2)
    · exact Xh (hr.1.Dt.trans hc) hm (h.same hr.2)
  unfold Aj.f
  exact Dz.IZ (fun _ => Dz.bif (Dz.IZ (fun _ => hj _)) (Dz.IZ (fun _ => Dz.IZ (fun _ => hj _))))
end Go.Proofs.YtkjkgdhgcdgbhaaGreatDoor
